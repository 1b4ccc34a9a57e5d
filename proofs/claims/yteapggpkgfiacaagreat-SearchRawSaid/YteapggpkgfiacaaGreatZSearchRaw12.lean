/- Parts of the proof of SearchRaw, one behind the other. Conditions: none. -/
import Derived.Test.YteapggpkgfiacaaGreatZSearchRaw11
set_option linter.unusedSimpArgs false
set_option linter.unusedVariables false
set_option maxRecDepth 10000
namespace Go.Proofs.YteapggpkgfiacaaGreat
open Go Ev Go.RowKit

noncomputable def mayB (l : List SpV) : Bool := @decide (mayL l) (Classical.propDecidable _)
theorem mayB_f {l : List SpV} {i : Nat} (hi : i < l.length) (h : ¬ okAt l i) : mayB l = false := by
  unfold mayB
  exact @decide_eq_false _ (Classical.propDecidable _) fun hm => h (hm i hi)
theorem mayB_t {l : List SpV} (h : mayL l) : mayB l = true := by
  unfold mayB
  exact @decide_eq_true _ (Classical.propDecidable _) h
theorem ldC_keep {w w' : World} (hc : Chg [] w w') {b o : Nat} {v : Value} (h : ldC (hp w b) o = some v) : ldC (hp w' b) o = some v := by
  cases hb : hp w b with
  | none => rw [hb] at h; cases h
  | some x => rw [hc.at hb (by simp), ← hb]; exact h
theorem ldL_keep {w w' : World} (hc : Chg [] w w') {b : Nat} : ∀ (n o : Nat) (vs : List Value), ldL (hp w b) o n = some vs → ldL (hp w' b) o n = some vs
  | 0, o, vs, h => h
  | n + 1, o, vs, h => by
    rw [ldL] at h ⊢
    cases h1 : ldC (hp w b) o with
    | none => rw [h1] at h; cases h
    | some v =>
      cases h2 : ldL (hp w b) (o + 1) n with
      | none => rw [h1, h2] at h; cases h
      | some us =>
        rw [h1, h2] at h
        rw [ldC_keep hc h1, ldL_keep hc n (o + 1) us h2]; exact h
structure At (w : World) (b o : Nat) (s : SpV) : Prop where
  l : ldL (hp w b) o 20 = some (spC s)
  f : ∀ k, k < 20 → ldC (hp w b) (o + k) = (spA s)[k]?
theorem At.keep {w w' : World} {b o : Nat} {s : SpV} (h : At w b o s) (hc : Chg [] w w') : At w' b o s := by
  refine ⟨ldL_keep hc _ _ _ h.l, fun k hk => ?_⟩
  have hk' : k < (spC s).length := hk
  have e : (spA s)[k]? = some ((spC s)[k]'hk') := by simp [spA]
  have := h.f k hk
  rw [e] at this ⊢
  exact ldC_keep hc this
theorem At.ld {w : World} {b o : Nat} {s : SpV} (h : At w b o s) : ldv Tryz.prog 42 (.pointer (some ⟨b, o, none⟩)) w = some (.agg (spA s)) := by
  rw [ld_42, h.l]; rfl
theorem At.f0 {w : World} {b o : Nat} {s : SpV} (h : At w b o s) : ldC (hp w b) (o + 0) = some (.int .i64 s.wk) := (h.f 0 (by omega)).trans (sp0 s)
theorem At.f1 {w : World} {b o : Nat} {s : SpV} (h : At w b o s) : ldC (hp w b) (o + 1) = some (.int .i64 s.ix) := (h.f 1 (by omega)).trans (sp1 s)
theorem At.f8 {w : World} {b o : Nat} {s : SpV} (h : At w b o s) : ldC (hp w b) (o + 8) = some (.int .i64 s.iv) := (h.f 8 (by omega)).trans (sp8 s)
theorem at_blk {w : World} {b : Nat} {s : SpV} {e : TypeId} (h : hp w b = some (.cells (spA s) e)) : At w b 0 s :=
  ⟨by rw [h]; exact ldL_some (c := spA s) (Nat.le_refl _), fun k hk => by rw [h, aH, Nat.zero_add]⟩
theorem sp_at' {w : World} {A : Option Addr} {l : List SpV} {c i : Nat} {j : IntKind} (h : RdV w A (l.flatMap spC)) (hi : i < l.length) :
    ∃ b o, pureRun Tryz.prog (Instr.indexAt 24 (.slice A l.length c) (.int j i)) = some (.pointer (some ⟨b, o, none⟩)) ∧ At w b o l[i] := by
  obtain ⟨b, o, h1, h2, h3, _⟩ := h.elem (P := Tryz.prog) (c := c) (n := l.length) (i := (i : Int)) (j := j) Tryz.underlying24 sz_42 (by omega) (by rw [flat_len spC_len]; exact Nat.le_refl _) (by omega) (by omega)
  rw [Int.toNat_natCast, flat_at spC_len l i hi] at h3
  refine ⟨b, o, h1, h3, fun k hk => ?_⟩
  rw [h2 k hk, Int.toNat_natCast, flat_get spC_len l i hi k hk]
  simp [spA]
theorem l_May1 {l : List SpV} (hl : l.length ≤ 1000000) {A : Option Addr} {c i g : Nat} (hi : i < l.length) {W : World} (r : Bool) (hr : (∃ k a, k < i ∧ l[k]? = some a ∧ clash a l[i] = true) → r = false)
    (next : (∀ k a, k < i → l[k]? = some a → clash a l[i] = false) → ∀ w, RdV w A (l.flatMap spC) → Chg [] W w → P11_0 (.slice A l.length c) (.slice A l.length c) (.int .i64 l.length) (.int .i64 ((i : Int) + 1)) w fun v w' => v = .bool r ∧ Chg [] W w') :
    ∀ (d k : Nat) (w : World), RdV w A (l.flatMap spC) → hp w g = some (.cells (spA l[i]) 42) → Chg [] W w → (∀ k' a, k' < k → l[k']? = some a → clash a l[i] = false) → k + d = i →
      P11_1 (.slice A l.length c) (.pointer (some ⟨g, 0, none⟩)) (.slice A l.length c) (.int .i64 l.length) (.int .i64 i) (.int .i64 i) (.int .i64 k) w fun v w' => v = .bool r ∧ Chg [] W w' := by
  intro d
  induction d with
  | zero =>
    intro k w hA hg hW hno hk
    apply L11_1_ok
    have : ¬ ((k : Int) < i) := by omega
    simp -implicitDefEqProofs only [L11_1, ab, bp_lss, this, z2z, aC, am, aq (n := (i : Int) + 1) (by omega) (by omega)]
    exact next (fun k' a hk' ha => hno k' a (by omega) ha) w hA hW
  | succ d ih =>
    intro k w hA hg hW hno hk
    apply L11_1_ok
    have hlt : (k : Int) < i := by omega
    have hkl : k < l.length := by omega
    obtain ⟨b, o, q1, q2⟩ := sp_at' (c := c) (j := .i64) (i := k) hA hkl
    have hgs := at_blk hg
    have go : clash l[k] l[i] = false → ∀ w', Chg [] w w' → P11_1 (.slice A l.length c) (.pointer (some ⟨g, 0, none⟩)) (.slice A l.length c) (.int .i64 l.length) (.int .i64 i) (.int .i64 i) (.int .i64 ((k : Int) + 1)) w' fun v w' => v = .bool r ∧ Chg [] W w' := by
      intro hcl w' hc
      have h := ih (k + 1) w' (hA.keep hc.below) (hc.at hg (by simp)) (hW.trans hc) (fun k' a hk' ha => by
        rcases Nat.lt_or_ge k' k with h | h
        · exact hno k' a h ha
        · have : k' = k := by omega
          subst this
          rw [List.getElem?_eq_getElem hkl] at ha
          rw [← Option.some.inj ha]; exact hcl) (by omega)
      rw [Int.natCast_add k 1] at h
      exact h
    have stop : clash l[k] l[i] = true → r = false := fun hcl => hr ⟨k, l[k], by omega, List.getElem?_eq_getElem hkl, hcl⟩
    generalize hs : l[i] = s at *
    generalize ha : l[k] = a at *
    have tail : ∀ w', Chg [] w w' → (∀ b : Bool, shrd a s = b → clash a s = b) → CallR Tryz.prog 25 [.agg (spA a), .agg (spA s)] w' fun t68 w => wpB (pickv (.bool false) (some (Go.Value.bool true)) (some t68)) fun t69 => cnd t69 ((Go.Value.bool false) = .bool r ∧ Chg [] W w)
        (wpB (bp Tryz.prog .add 3 (.int .i64 k) (Go.Value.int Go.IntKind.i64 1)) fun t70 => P11_1 (.slice A l.length c) (.pointer (some ⟨g, 0, none⟩)) (.slice A l.length c) (.int .i64 l.length) (.int .i64 i) (.int .i64 i) t70 w fun v w' => v = .bool r ∧ Chg [] W w') := by
      intro w' hc hcl
      refine (c_shared a s w').mono ?_
      rintro v w2 ⟨rfl, hc2⟩
      cases hsh : shrd a s with
      | true =>
        simp -implicitDefEqProofs only [aS, ab, aG]
        exact ⟨by rw [stop (hcl true hsh)], hW.trans (hc.trans hc2)⟩
      | false =>
        simp -implicitDefEqProofs only [aS, ab, aC, am, aq (n := (k : Int) + 1) (by omega) (by omega)]
        exact go (hcl false hsh) w2 (hc.trans hc2)
    simp -implicitDefEqProofs only [L11_1, ab, bp_lss, hlt, z1z, aG, q1, fa_42_0, ac, aT, q2.f0, hgs.f0, be_eql]
    by_cases h1 : a.wk = s.wk
    · have e1 : (a.wk == s.wk) = true := by rw [h1]; simp
      simp -implicitDefEqProofs only [e1, gd_true, gv_true, q1, (q2.keep (Chg.refl [] w).drew).ld, (hgs.keep (Chg.refl [] w).drew).ld, ab, gE_true]
      refine (c_Ahead a s w.drew).mono ?_
      rintro v w1 ⟨rfl, hc1⟩
      have hc1 : Chg [] w w1 := (Chg.refl _ _).drew.trans hc1
      have q3 := q2.keep hc1
      have hg3 := hgs.keep hc1
      cases hah : ahead a s with
      | false =>
        simp -implicitDefEqProofs only [pr_not, z4z, gd_true, gd_tf, gv_tf, ab, aZ, gE_tf, aG]
        exact ⟨by rw [stop (by simp [clash, h1, hah])], hW.trans hc1⟩
      | true =>
        by_cases h2 : s.ix ≤ a.ix
        · simp -implicitDefEqProofs only [pr_not, z3z, gd_true, gd_false, gv_true, gv_false, fa_42_1, ac, hg3.f1, q1, q3.f1, bp_leq, h2, z1z, ab, aZ, aS, gd_tf, gv_tf, gE_tf, aG]
          exact ⟨by rw [stop (by simp [clash, h1, h2])], hW.trans hc1⟩
        · simp -implicitDefEqProofs only [pr_not, z3z, gd_true, gd_false, gv_true, gv_false, fa_42_1, ac, hg3.f1, q1, q3.f1, bp_leq, h2, z2z, ab, aZ, aS, q3.ld, hg3.ld, gE_false]
          exact tail w1 hc1 fun b hb => by simp [clash, hah, h2, hb]
    · simp -implicitDefEqProofs only [eqf h1, gd_ft, gv_ft, gE_ft, gd_uf, gv_uf, ab, aS, gd_false, gv_false, q1, (q2.keep (Chg.refl [] w).drew).ld, (hgs.keep (Chg.refl [] w).drew).ld, gE_false]
      exact tail w.drew (Chg.refl _ _).drew fun b hb => by simp [clash, h1, hb]
end Go.Proofs.YteapggpkgfiacaaGreat

namespace Go.Proofs.YteapggpkgfiacaaGreat
open Go Ev Go.RowKit

abbrev EvV := Int × Int × Bool
def evC (e : EvV) : List Value := [.int .i64 e.1, .int .i64 e.2.1, .bool e.2.2]
end Go.Proofs.YteapggpkgfiacaaGreat

namespace Go.Proofs.YteapggpkgfiacaaGreat
open Go Ev Go.RowKit

theorem l_May0 {l : List SpV} (hl : l.length ≤ 1000000) {A : Option Addr} {c : Nat} {W : World} : ∀ (d i : Nat) (w : World), RdV w A (l.flatMap spC) → Chg [] W w → (∀ j, j < i → okAt l j) → i + d = l.length →
    P11_0 (.slice A l.length c) (.slice A l.length c) (.int .i64 l.length) (.int .i64 i) w fun v w' => v = .bool (mayB l) ∧ Chg [] W w' := by
  intro d
  induction d with
  | zero =>
    intro i w hA hW hok hi
    apply L11_0_ok
    have : ¬ ((i : Int) < l.length) := by omega
    simp -implicitDefEqProofs only [L11_0, ab, bp_lss, this, z2z, aC]
    exact ⟨by rw [mayB_t fun j hj => hok j (by omega)], hW⟩
  | succ d ih =>
    intro i w hA hW hok hi
    apply L11_0_ok
    have hlt : (i : Int) < l.length := by omega
    have hil : i < l.length := by omega
    obtain ⟨b, o, q1, q2⟩ := sp_at' (c := c) (j := .i64) (i := i) hA hil
    simp -implicitDefEqProofs only [L11_0, ab, bp_lss, hlt, z1z, aG, q1, q2.ld, al_42]
    rw [st_42 (by rfl) (by rfl) (by rw [aa, if_pos rfl]; rfl) (by rw [aa, if_pos rfl]; rfl), aa, if_pos rfl]
    simp -implicitDefEqProofs only [ay]
    have hcz : ∀ z : Array Value, Chg [] w (put (w.alloc (.cells z 42)) w.heap.size (spA l[i]) 42) ∧ hp (put (w.alloc (.cells z 42)) w.heap.size (spA l[i]) 42) w.heap.size = some (.cells (spA l[i]) 42) := fun z =>
      ⟨((Chg.refl _ _).alloc _).put (.inr (Nat.le_refl _)) _ _, by rw [aR, if_pos rfl, if_pos (by simp)]⟩
    obtain ⟨hc0, hg⟩ := hcz #[.int .i64 0, .int .i64 0, .int .i64 0, .int .i64 0, .int .i64 0, .int .i64 0, .int .u64 0, .int .u64 0, .int .i64 0, .int .i64 0, .int .i64 0, .int .i64 0, .int .i64 0, .int .i64 0, .int .i64 0, .int .i64 0, .int .i64 0, .int .i64 0, .int .i64 0, .int .u64 0]
    generalize put (w.alloc (.cells #[.int .i64 0, .int .i64 0, .int .i64 0, .int .i64 0, .int .i64 0, .int .i64 0, .int .u64 0, .int .u64 0, .int .i64 0, .int .i64 0, .int .i64 0, .int .i64 0, .int .i64 0, .int .i64 0, .int .i64 0, .int .i64 0, .int .i64 0, .int .i64 0, .int .i64 0, .int .u64 0] 42)) w.heap.size (spA l[i]) 42 = w1 at *
    generalize w.heap.size = g at *
    have hgs := at_blk hg
    simp -implicitDefEqProofs only [(hgs.keep (Chg.refl [] w1).drew).ld, ab]
    refine (c_right l[i] w1.drew).mono ?_
    rintro v w2 ⟨rfl, hc2⟩
    have hc2 : Chg [] w1 w2 := (Chg.refl _ _).drew.trans hc2
    have hc02 := hc0.trans hc2
    have hA2 := hA.keep hc02.below
    have hg2 := hgs.keep hc2
    have bad : ¬ okAt l i → mayB l = false := fun h => mayB_f hil h
    have ge : l[i]? = some l[i] := List.getElem?_eq_getElem hil
    have inner : right l[i] = true → (∀ p, 0 < i → l[i - 1]? = some p → p.iv < l[i].iv) → P11_1 (.slice A l.length c) (.pointer (some ⟨g, 0, none⟩)) (.slice A l.length c) (.int .i64 l.length) (.int .i64 i) (.int .i64 i) (.int .i64 0) w2 fun v w' => v = .bool (mayB l) ∧ Chg [] W w' := by
      intro h1 h2
      refine l_May1 (W := W) hl hil (mayB l) (fun ⟨k, a, hk, ha, hcl⟩ => bad fun hokk => by
        have := (hokk l[i] ge).2.2 k a hk ha
        rw [hcl] at this; cases this) (fun hno w' hA' hW' => ?_) i 0 w2 hA2 (hc2.at hg (by simp)) (hW.trans hc02) (fun k' a hk' => by omega) (by omega)
      have h := ih (i + 1) w' hA' hW' (fun j hj => by
        rcases Nat.lt_or_ge j i with h | h
        · exact hok j h
        · have : j = i := by omega
          subst this
          intro s hs
          rw [ge] at hs
          cases hs
          exact ⟨h1, h2, hno⟩) (by omega)
      rw [Int.natCast_add i 1] at h
      exact h
    cases hr : right l[i] with
    | false =>
      simp -implicitDefEqProofs only [pr_not, z4z, ab, gd_tf, gv_tf, aZ, aG, gd_ut, gv_ut]
      exact ⟨by rw [bad fun h => by have := (h l[i] ge).1; rw [hr] at this; cases this], hW.trans hc02⟩
    | true =>
      by_cases h0 : (0 : Int) < i
      · have hi1 : i - 1 < l.length := by omega
        obtain ⟨b1, o1, r1, r2⟩ := sp_at' (c := c) (j := .i64) (i := i - 1) hA2 hi1
        rw [show ((i - 1 : Nat) : Int) = (i : Int) - 1 by omega] at r1
        by_cases hle : l[i].iv ≤ l[i - 1].iv
        · simp -implicitDefEqProofs only [pr_not, z3z, ab, gd_false, gv_false, bp_gtr, h0, z1z, gd_true, gv_true, fa_42_3, ac, hg2.f8, bp_sub, aq (n := (i : Int) - 1) (by omega) (by omega), r1, r2.f8, bp_leq, hle, aZ, aS, aG]
          exact ⟨by rw [bad fun h => by have := (h l[i] ge).2.1 l[i - 1] (by omega) (List.getElem?_eq_getElem hi1); omega], hW.trans hc02⟩
        · simp -implicitDefEqProofs only [pr_not, z3z, ab, gd_false, gv_false, bp_gtr, h0, z1z, z2z, gd_true, gv_true, fa_42_3, ac, hg2.f8, bp_sub, aq (n := (i : Int) - 1) (by omega) (by omega), r1, r2.f8, bp_leq, hle, aZ, aS, aC]
          exact inner hr fun p _ hp => by
            rw [List.getElem?_eq_getElem hi1] at hp
            cases hp; omega
      · simp -implicitDefEqProofs only [pr_not, z3z, ab, gd_false, gv_false, bp_gtr, h0, z2z, gd_ft, gv_ft, aS, aC]
        exact inner hr fun p h _ => by omega
theorem c_RMay {l : List SpV} (hl : l.length ≤ 1000000) {v : Value} {w : World} (hv : SlP w v l) : CallR Tryz.prog 11 [v] w fun r w' => r = .bool (mayB l) ∧ Chg [] w w' := by
  obtain ⟨A, c, rfl, hA⟩ := hv
  apply F11_ok
  simp -implicitDefEqProofs only [F11, len_24, ab]
  exact l_May0 hl l.length 0 w hA (Chg.refl _ _) (fun j hj => by omega) (by omega)
end Go.Proofs.YteapggpkgfiacaaGreat

namespace Go.Proofs.YteapggpkgfiacaaGreat
open Go Ev Go.RowKit

theorem l_Ref1 {l : List SpV} (hl : l.length ≤ 1000000) {A : Option Addr} {c i : Nat} (hi : i < l.length) (hri : right l[i] = true) {W : World} (r : Bool) (hr : (∃ k a, k < i ∧ l[k]? = some a ∧ clash a l[i] = true) → r = false)
    (next : (∀ k a, k < i → l[k]? = some a → clash a l[i] = false) → ∀ w, RdV w A (l.flatMap spC) → Chg [] W w → P7_0 (.slice A l.length c) (.int .i64 ((i : Int) + 1)) w fun v w' => v = .bool r ∧ Chg [] W w') :
    ∀ (d k : Nat) (w : World), RdV w A (l.flatMap spC) → Chg [] W w → (∀ k' a, k' < k → l[k']? = some a → clash a l[i] = false) → k + d = i →
      P7_1 (.slice A l.length c) (.int .i64 i) (.int .i64 k) w fun v w' => v = .bool r ∧ Chg [] W w' := by
  intro d
  induction d with
  | zero =>
    intro k w hA hW hno hk
    apply L7_1_ok
    have : ¬ ((k : Int) < i) := by omega
    simp -implicitDefEqProofs only [L7_1, ab, bp_lss, this, z2z, aC, am, aq (n := (i : Int) + 1) (by omega) (by omega)]
    exact next (fun k' a hk' ha => hno k' a (by omega) ha) w hA hW
  | succ d ih =>
    intro k w hA hW hno hk
    apply L7_1_ok
    have hlt : (k : Int) < i := by omega
    have hkl : k < l.length := by omega
    obtain ⟨b, o, q1, q2⟩ := sp_at' (c := c) (j := .i64) (i := k) hA hkl
    obtain ⟨b', o', p1, p2⟩ := sp_at' (c := c) (j := .i64) (i := i) hA hi
    have go : clash l[k] l[i] = false → ∀ w', Chg [] w w' → P7_1 (.slice A l.length c) (.int .i64 i) (.int .i64 ((k : Int) + 1)) w' fun v w' => v = .bool r ∧ Chg [] W w' := by
      intro hcl w' hc
      have h := ih (k + 1) w' (hA.keep hc.below) (hW.trans hc) (fun k' a hk' ha => by
        rcases Nat.lt_or_ge k' k with h | h
        · exact hno k' a h ha
        · have : k' = k := by omega
          subst this
          rw [List.getElem?_eq_getElem hkl] at ha
          rw [← Option.some.inj ha]; exact hcl) (by omega)
      rw [Int.natCast_add k 1] at h
      exact h
    have stop : clash l[k] l[i] = true → r = false := fun hcl => hr ⟨k, l[k], by omega, List.getElem?_eq_getElem hkl, hcl⟩
    have hse : shrd l[k] l[i] = shar l[i] l[k] := shr_eq hri
    generalize hs : l[i] = s at *
    generalize ha : l[k] = a at *
    simp -implicitDefEqProofs only [L7_1, ab, bp_lss, hlt, z1z, aG, q1, p1, (q2.keep (Chg.refl [] w).drew).ld, (p2.keep (Chg.refl [] w).drew).ld]
    refine (c_share s a w.drew).mono ?_
    rintro v w1 ⟨rfl, hc1⟩
    have hc1 : Chg [] w w1 := (Chg.refl _ _).drew.trans hc1
    have q3 := q2.keep hc1
    have p3 := p2.keep hc1
    cases hsh : shar s a with
    | true =>
      simp -implicitDefEqProofs only [gd_tf, gv_tf, gd_ut, gv_ut, gd_uf, gv_uf, gE_ut, ab, aZ, aG]
      exact ⟨by rw [stop (by simp [clash, hse, hsh])], hW.trans hc1⟩
    | false =>
      by_cases h1 : a.wk = s.wk
      · have e1 : (a.wk == s.wk) = true := by rw [h1]; simp
        simp -implicitDefEqProofs only [gd_false, gv_false, q1, p1, fa_42_0, ac, q3.f0, p3.f0, ab, be_eql, e1, gd_true, gv_true, q3.ld, p3.ld, gE_true]
        refine (c_AheadRef a s w1).mono ?_
        rintro v w2 ⟨rfl, hc2⟩
        have q4 := q3.keep hc2
        have p4 := p3.keep hc2
        cases hah : ahead a s with
        | false =>
          simp -implicitDefEqProofs only [pr_not, z4z, gd_true, gd_false, gd_tf, gv_tf, ab, aZ, aS, aG]
          exact ⟨by rw [stop (by simp [clash, h1, hah])], (hW.trans hc1).trans hc2⟩
        | true =>
          by_cases h2 : s.ix ≤ a.ix
          · simp -implicitDefEqProofs only [pr_not, z3z, gd_true, gd_false, gv_true, gv_false, fa_42_1, ac, q1, p1, q4.f1, p4.f1, bp_leq, h2, z1z, ab, aZ, aS, aG]
            exact ⟨by rw [stop (by simp [clash, h1, h2])], (hW.trans hc1).trans hc2⟩
          · simp -implicitDefEqProofs only [pr_not, z3z, gd_true, gd_false, gv_true, gv_false, fa_42_1, ac, q1, p1, q4.f1, p4.f1, bp_leq, h2, z2z, ab, aZ, aS, aC, am, aq (n := (k : Int) + 1) (by omega) (by omega)]
            exact go (by simp [clash, hah, h2, hse, hsh]) w2 (hc1.trans hc2)
      · simp -implicitDefEqProofs only [gd_false, gv_false, q1, p1, fa_42_0, ac, q3.f0, p3.f0, ab, be_eql, eqf h1, gd_ft, gv_ft, gd_uf, gv_uf, gd_ut, gv_ut, gE_ft, aS, aC, am, aq (n := (k : Int) + 1) (by omega) (by omega)]
        exact go (by simp [clash, h1, hse, hsh]) w1 hc1
theorem l_Ref0 {l : List SpV} (hl : l.length ≤ 1000000) {A : Option Addr} {c : Nat} {W : World} : ∀ (d i : Nat) (w : World), RdV w A (l.flatMap spC) → Chg [] W w → (∀ j, j < i → okAt l j) → i + d = l.length →
    P7_0 (.slice A l.length c) (.int .i64 i) w fun v w' => v = .bool (mayB l) ∧ Chg [] W w' := by
  intro d
  induction d with
  | zero =>
    intro i w hA hW hok hi
    apply L7_0_ok
    have : ¬ ((i : Int) < l.length) := by omega
    simp -implicitDefEqProofs only [L7_0, len_24, ab, bp_lss, this, z2z, aC]
    exact ⟨by rw [mayB_t fun j hj => hok j (by omega)], hW⟩
  | succ d ih =>
    intro i w hA hW hok hi
    apply L7_0_ok
    have hlt : (i : Int) < l.length := by omega
    have hil : i < l.length := by omega
    obtain ⟨b, o, q1, q2⟩ := sp_at' (c := c) (j := .i64) (i := i) hA hil
    simp -implicitDefEqProofs only [L7_0, len_24, ab, bp_lss, hlt, z1z, aG, q1, (q2.keep (Chg.refl [] w).drew).ld]
    refine (c_one l[i] w.drew).mono ?_
    rintro v w2 ⟨rfl, hc2⟩
    have hc2 : Chg [] w w2 := (Chg.refl _ _).drew.trans hc2
    have hA2 := hA.keep hc2.below
    have q3 := q2.keep hc2
    have bad : ¬ okAt l i → mayB l = false := fun h => mayB_f hil h
    have ge : l[i]? = some l[i] := List.getElem?_eq_getElem hil
    have inner : right l[i] = true → (∀ p, 0 < i → l[i - 1]? = some p → p.iv < l[i].iv) → P7_1 (.slice A l.length c) (.int .i64 i) (.int .i64 0) w2 fun v w' => v = .bool (mayB l) ∧ Chg [] W w' := by
      intro h1 h2
      refine l_Ref1 (W := W) hl hil h1 (mayB l) (fun ⟨k, a, hk, ha, hcl⟩ => bad fun hokk => by
        have := (hokk l[i] ge).2.2 k a hk ha
        rw [hcl] at this; cases this) (fun hno w' hA' hW' => ?_) i 0 w2 hA2 (hW.trans hc2) (fun k' a hk' => by omega) (by omega)
      have h := ih (i + 1) w' hA' hW' (fun j hj => by
        rcases Nat.lt_or_ge j i with h | h
        · exact hok j h
        · have : j = i := by omega
          subst this
          intro s hs
          rw [ge] at hs
          cases hs
          exact ⟨h1, h2, hno⟩) (by omega)
      rw [Int.natCast_add i 1] at h
      exact h
    cases hr : right l[i] with
    | false =>
      simp -implicitDefEqProofs only [pr_not, z4z, ab, gd_tf, gv_tf, aZ, aG, gd_ut, gv_ut]
      exact ⟨by rw [bad fun h => by have := (h l[i] ge).1; rw [hr] at this; cases this], hW.trans hc2⟩
    | true =>
      by_cases h0 : (0 : Int) < i
      · have hi1 : i - 1 < l.length := by omega
        obtain ⟨b1, o1, r1, r2⟩ := sp_at' (c := c) (j := .i64) (i := i - 1) hA2 hi1
        rw [show ((i - 1 : Nat) : Int) = (i : Int) - 1 by omega] at r1
        by_cases hle : l[i].iv ≤ l[i - 1].iv
        · simp -implicitDefEqProofs only [pr_not, z3z, ab, gd_false, gv_false, bp_gtr, h0, z1z, gd_true, gv_true, q1, fa_42_3, ac, q3.f8, bp_sub, aq (n := (i : Int) - 1) (by omega) (by omega), r1, r2.f8, bp_leq, hle, aZ, aS, aG]
          exact ⟨by rw [bad fun h => by have := (h l[i] ge).2.1 l[i - 1] (by omega) (List.getElem?_eq_getElem hi1); omega], hW.trans hc2⟩
        · simp -implicitDefEqProofs only [pr_not, z3z, ab, gd_false, gv_false, bp_gtr, h0, z1z, z2z, gd_true, gv_true, q1, fa_42_3, ac, q3.f8, bp_sub, aq (n := (i : Int) - 1) (by omega) (by omega), r1, r2.f8, bp_leq, hle, aZ, aS, aC]
          exact inner hr fun p _ hp => by
            rw [List.getElem?_eq_getElem hi1] at hp
            cases hp; omega
      · simp -implicitDefEqProofs only [pr_not, z3z, ab, gd_false, gv_false, bp_gtr, h0, z2z, gd_ft, gv_ft, aS, aC]
        exact inner hr fun p h _ => by omega
theorem c_RMayRef {l : List SpV} (hl : l.length ≤ 1000000) {v : Value} {w : World} (hv : SlP w v l) : CallR Tryz.prog 7 [v] w fun r w' => r = .bool (mayB l) ∧ Chg [] w w' := by
  obtain ⟨A, c, rfl, hA⟩ := hv
  apply F7_ok
  simp -implicitDefEqProofs only [F7]
  exact l_Ref0 hl l.length 0 w hA (Chg.refl _ _) (fun j hj => by omega) (by omega)
end Go.Proofs.YteapggpkgfiacaaGreat

namespace Go.Proofs.YteapggpkgfiacaaGreat
open Go Ev Go.RowKit

def hitB (s a : SpV) : Bool := decide (a.wk = s.op.2.1) && (decide (a.ix = s.op.2.2.1) && (decide (a.op.1 = 1 ∨ a.op.1 = 2) && (decide (a.re.1 = 0) && ahead a s)))
def hOf (l : List SpV) (s : SpV) : HnV := (l.find? (hitB s)).elim noH fun a => a.re.2.1
def handV (l : List SpV) (s : SpV) : HnV := if ofK s.op.1 = 0 then noH else hOf l s
theorem find_drop {l : List SpV} {p : SpV → Bool} {k : Nat} (hk : k < l.length) (h : l.find? p = (l.drop k).find? p) (hn : p l[k] = false) : l.find? p = (l.drop (k + 1)).find? p := by
  rw [h, List.drop_eq_getElem_cons hk, List.find?_cons, hn]
theorem find_at {l : List SpV} {p : SpV → Bool} {k : Nat} (hk : k < l.length) (h : l.find? p = (l.drop k).find? p) (hn : p l[k] = true) : l.find? p = some l[k] := by
  rw [h, List.drop_eq_getElem_cons hk, List.find?_cons, hn]
theorem find_end {l : List SpV} {p : SpV → Bool} {k : Nat} (hk : k = l.length) (h : l.find? p = (l.drop k).find? p) : l.find? p = none := by
  rw [h, hk, List.drop_length]; rfl
theorem sp_c {w : World} {b : Nat} {a : SpV} {e : TypeId} (h : hp w b = some (.cells (spA a) e)) (k : Nat) : ldC (hp w b) k = (spA a)[k]? := by rw [h, aH]
theorem sp_hn {w : World} {b : Nat} {a : SpV} {e : TypeId} (h : hp w b = some (.cells (spA a) e)) : ldv Tryz.prog 38 (.pointer (some ⟨b, 0 + 12 + 1, none⟩)) w = some (.agg (hnC a.re.2.1).toArray) := by
  rw [ld_38, h]; rfl
section
variable {l : List SpV} {A : Option Addr} {c : Nat} {W : World}
theorem l_oHandle (hl : l.length ≤ 1000000) {i g4 g5 : Nat} (hi : i < l.length) (h4 : W.heap.size ≤ g4) : ∀ (d k : Nat) (w : World), RdV w A (l.flatMap spC) → hp w g4 = some (.cells (hnC noH).toArray 38) → hp w g5 = some (.cells (opC l[i].op).toArray 36) → Chg [] W w →
    k + d = l.length → l.find? (hitB l[i]) = (l.drop k).find? (hitB l[i]) →
    P26_0 (.slice A l.length c) (.int .i64 i) (.pointer (some ⟨g4, 0, none⟩)) (.pointer (some ⟨g5, 0, none⟩)) (.slice A l.length c) (.int .i64 l.length) (.int .i64 k) w fun v w' => v = .agg (hnC (hOf l l[i])).toArray ∧ Chg [] W w' := by
  intro d
  induction d with
  | zero =>
    intro k w hA b4 b5 hW hk hf
    apply L26_0_ok
    have hh : hOf l l[i] = noH := by rw [hOf, find_end (by omega) hf]; rfl
    have : ¬ ((k : Int) < l.length) := by omega
    simp -implicitDefEqProofs only [L26_0, zS, this, bdh_, st_hn b4 rfl]
    have b4' : hp (put w g4 (hnC noH).toArray 38) g4 = some (.cells (hnC noH).toArray 38) := by rw [aR, if_pos rfl, if_pos (av b4)]
    simp -implicitDefEqProofs only [ld_hn b4', ab]
    exact ⟨by rw [hh], hW.put (.inr h4) _ _⟩
  | succ d ih =>
    intro k w hA b4 b5 hW hk hf
    apply L26_0_ok
    have hlt : (k : Int) < l.length := by omega
    have hkl : k < l.length := by omega
    obtain ⟨b, o, q1, q2⟩ := sp_at' (c := c) (j := .i64) (i := k) hA hkl
    obtain ⟨b', o', r1, r2⟩ := sp_at' (c := c) (j := .i64) (i := i) hA hi
    simp -implicitDefEqProofs only [L26_0, zS, hlt, q1, q2.ld, al_42]
    rw [st_42 (by rfl) (by rfl) (by rw [aa, if_pos rfl]; rfl) (by rw [aa, if_pos rfl]; rfl), aa, if_pos rfl]
    simp -implicitDefEqProofs only [ay]
    generalize hw1 : put (w.alloc _) w.heap.size (spA l[k]) 42 = w1
    have hc0 : Chg [] w w1 := by rw [← hw1]; exact ((Chg.refl _ _).alloc _).put (.inr (Nat.le_refl _)) _ _
    have hg : hp w1 w.heap.size = some (.cells (spA l[k]) 42) := by rw [← hw1, aR, if_pos rfl, if_pos (by simp)]
    clear hw1
    generalize w.heap.size = g at *
    have b4 := hc0.at b4 (by simp)
    have b5 := hc0.at b5 (by simp)
    have r2 := r2.keep hc0
    have hA := hA.keep hc0.below
    have hW1 := hW.trans hc0
    generalize hs : l[i] = s at *
    generalize ha : l[k] = a at *
    have f0 : ldC (hp w1 g) (0 + 0) = some (.int .i64 a.wk) := sp_c hg 0
    have f1 : ldC (hp w1 g) (0 + 1) = some (.int .i64 a.ix) := sp_c hg 1
    have f2 : ldC (hp w1 g) (0 + 2 + 0) = some (.int .i64 a.op.1) := sp_c hg 2
    have f12 : ldC (hp w1 g) (0 + 12 + 0) = some (.int .i64 a.re.1) := sp_c hg 12
    have o1 : ldC (hp w1 g5) (0 + 1) = some (.int .i64 s.op.2.1) := by rw [b5, aH]; rfl
    have o2 : ldC (hp w1 g5) (0 + 2) = some (.int .i64 s.op.2.2.1) := by rw [b5, aH]; rfl
    have next : hitB s a = false → ∀ w2, Chg [] w1 w2 → P26_0 (.slice A l.length c) (.int .i64 i) (.pointer (some ⟨g4, 0, none⟩)) (.pointer (some ⟨g5, 0, none⟩)) (.slice A l.length c) (.int .i64 l.length) (.int .i64 ((k : Int) + 1)) w2 fun v w' => v = .agg (hnC (hOf l s)).toArray ∧ Chg [] W w' := fun hn w2 c2 =>
      ih (k + 1) w2 (hA.keep c2.below) (c2.at b4 (by simp)) (c2.at b5 (by simp)) (hW1.trans c2) (by omega) (find_drop hkl hf (by rw [ha]; exact hn))
    have wr := aq (n := (k : Int) + 1) (by omega) (by omega)
    have hd : Chg [] w1 w1.drew := (Chg.refl _ _).drew
    by_cases e1 : a.wk = s.op.2.1
    case neg =>
      simp -implicitDefEqProofs only [zS, fa_42_0, fa_42_1, fa_36_1, fa_36_2, ac, aT, f0, f1, o1, o2, eqf e1, am, wr]
      exact next (by simp [hitB, e1]) _ hd
    by_cases e2 : a.ix = s.op.2.2.1
    case neg =>
      simp -implicitDefEqProofs only [zS, fa_42_0, fa_42_1, fa_36_1, fa_36_2, ac, aT, f0, f1, o1, o2, e1, eqf e2, am, wr]
      exact next (by simp [hitB, e2]) _ hd
    have k1 : ∀ r : Bool, (decide (a.op.1 = 1 ∨ a.op.1 = 2) = r) → (r = false → hitB s a = false) := fun r h hr => by simp only [hitB, h, hr, Bool.false_and, Bool.and_false]
    have step : ∀ r : Bool, (a.op.1 == 1) = r → (r = true ∨ (a.op.1 == 2) = true ∨ ((a.op.1 == 2) = false ∧ r = false)) → True := fun _ _ _ => trivial
    by_cases e3 : a.op.1 = 1 ∨ a.op.1 = 2
    case neg =>
      have e31 : ¬ a.op.1 = 1 := fun h => e3 (.inl h)
      have e32 : ¬ a.op.1 = 2 := fun h => e3 (.inr h)
      simp -implicitDefEqProofs only [zS, fa_42_0, fa_42_1, fa_42_2, aj, fa_36_1, fa_36_2, ac, aT, f0, f1, f2, o1, o2, e1, e2, eqf e31, eqf e32, am, wr]
      exact next (by simp [hitB, e31, e32]) _ hd
    by_cases e4 : a.re.1 = 0
    case neg =>
      rcases e3 with e3 | e3
      all_goals
        simp -implicitDefEqProofs only [zS, fa_42_0, fa_42_1, fa_42_2, fa_42_7, aj, fa_36_1, fa_36_2, fa_40_0, ac, ld_27, aT, f0, f1, f2, f12, o1, o2, e1, e2, e3, eqf e4, am, wr, show ((2 : Int) == 1) = false from rfl, show ((1 : Int) == 2) = false from rfl]
        exact next (by simp [hitB, e4]) _ hd
    have hgd : At w1.drew g 0 a := at_blk hg
    have r2d := r2.keep hd
    rcases e3 with e3 | e3
    all_goals
      simp -implicitDefEqProofs only [zS, fa_42_0, fa_42_1, fa_42_2, fa_42_7, aj, fa_36_1, fa_36_2, fa_40_0, ac, ld_27, aT, f0, f1, f2, f12, o1, o2, e1, e2, e3, e4, show ((2 : Int) == 1) = false from rfl, hgd.ld, r1, r2d.ld]
      refine (c_Ahead a s w1.drew).mono ?_
      rintro _ w2 ⟨rfl, c2⟩
      have c2 := hd.trans c2
      cases hah : ahead a s with
      | false =>
        simp -implicitDefEqProofs only [zS, am, wr]
        exact next (by simp [hitB, hah]) w2 c2
      | true =>
        have hit : hitB s a = true := by simp [hitB, e1, e2, e3, e4, hah]
        have hg2 := c2.at hg (by simp)
        have b42 := c2.at b4 (by simp)
        have b4' : hp (put w2 g4 (hnC a.re.2.1).toArray 38) g4 = some (.cells (hnC a.re.2.1).toArray 38) := by rw [aR, if_pos rfl, if_pos (av b42)]
        simp -implicitDefEqProofs only [zS, fa_42_7, fa_40_1, sp_hn hg2, st_hn b42 rfl, ld_hn b4']
        have hh : hOf l s = a.re.2.1 := by rw [hOf, find_at hkl hf (by rw [ha]; exact hit), ha]; rfl
        exact ⟨by rw [hh], (hW1.trans c2).put (.inr h4) _ _⟩
theorem l_refHandle (hl : l.length ≤ 1000000) {i g4 : Nat} (hi : i < l.length) (h4 : W.heap.size ≤ g4) : ∀ (d k : Nat) (w : World), RdV w A (l.flatMap spC) → hp w g4 = some (.cells (hnC noH).toArray 38) → Chg [] W w →
    k + d = l.length → l.find? (hitB l[i]) = (l.drop k).find? (hitB l[i]) →
    P57_0 (.slice A l.length c) (.int .i64 i) (.pointer (some ⟨g4, 0, none⟩)) (.int .i64 k) w fun v w' => v = .agg (hnC (hOf l l[i])).toArray ∧ Chg [] W w' := by
  intro d
  induction d with
  | zero =>
    intro k w hA b4 hW hk hf
    apply L57_0_ok
    have hh : hOf l l[i] = noH := by rw [hOf, find_end (by omega) hf]; rfl
    have : ¬ ((k : Int) < l.length) := by omega
    simp -implicitDefEqProofs only [L57_0, len_24, zS, this, bdh_, st_hn b4 rfl]
    have b4' : hp (put w g4 (hnC noH).toArray 38) g4 = some (.cells (hnC noH).toArray 38) := by rw [aR, if_pos rfl, if_pos (av b4)]
    simp -implicitDefEqProofs only [ld_hn b4', ab]
    exact ⟨by rw [hh], hW.put (.inr h4) _ _⟩
  | succ d ih =>
    intro k w hA b4 hW hk hf
    apply L57_0_ok
    have hlt : (k : Int) < l.length := by omega
    have hkl : k < l.length := by omega
    obtain ⟨b, o, q1, q2⟩ := sp_at' (c := c) (j := .i64) (i := k) hA hkl
    obtain ⟨b', o', r1, r2⟩ := sp_at' (c := c) (j := .i64) (i := i) hA hi
    simp -implicitDefEqProofs only [L57_0, len_24, zS, hlt, q1, q2.ld, al_42]
    rw [st_42 (by rfl) (by rfl) (by rw [aa, if_pos rfl]; rfl) (by rw [aa, if_pos rfl]; rfl), aa, if_pos rfl]
    simp -implicitDefEqProofs only [ay]
    generalize hw1 : put (w.alloc _) w.heap.size (spA l[k]) 42 = w1
    have hc0 : Chg [] w w1 := by rw [← hw1]; exact ((Chg.refl _ _).alloc _).put (.inr (Nat.le_refl _)) _ _
    have hg : hp w1 w.heap.size = some (.cells (spA l[k]) 42) := by rw [← hw1, aR, if_pos rfl, if_pos (by simp)]
    clear hw1
    generalize w.heap.size = g at *
    have b4 := hc0.at b4 (by simp)
    have r2 := r2.keep hc0
    have hA := hA.keep hc0.below
    have hW1 := hW.trans hc0
    generalize hs : l[i] = s at *
    generalize ha : l[k] = a at *
    have f0 : ldC (hp w1 g) (0 + 0) = some (.int .i64 a.wk) := sp_c hg 0
    have f1 : ldC (hp w1 g) (0 + 1) = some (.int .i64 a.ix) := sp_c hg 1
    have f2 : ∀ w', hp w' g = some (.cells (spA a) 42) → ldC (hp w' g) (0 + 2 + 0) = some (.int .i64 a.op.1) := fun w' h => sp_c h 2
    have f12 : ∀ w', hp w' g = some (.cells (spA a) 42) → ldC (hp w' g) (0 + 12 + 0) = some (.int .i64 a.re.1) := fun w' h => sp_c h 12
    have o1 : ldC (hp w1 b') (o' + 2 + 1) = some (.int .i64 s.op.2.1) := r2.f 3 (by omega)
    have o2 : ldC (hp w1 b') (o' + 2 + 2) = some (.int .i64 s.op.2.2.1) := r2.f 4 (by omega)
    have next : hitB s a = false → ∀ w2, Chg [] w1 w2 → P57_0 (.slice A l.length c) (.int .i64 i) (.pointer (some ⟨g4, 0, none⟩)) (.int .i64 ((k : Int) + 1)) w2 fun v w' => v = .agg (hnC (hOf l s)).toArray ∧ Chg [] W w' := fun hn w2 c2 =>
      ih (k + 1) w2 (hA.keep c2.below) (c2.at b4 (by simp)) (hW1.trans c2) (by omega) (find_drop hkl hf (by rw [ha]; exact hn))
    have wr := aq (n := (k : Int) + 1) (by omega) (by omega)
    have hd : Chg [] w1 w1.drew := (Chg.refl _ _).drew
    by_cases e1 : a.wk = s.op.2.1
    case neg =>
      simp -implicitDefEqProofs only [zS, fa_42_0, fa_42_1, fa_42_2, fa_36_1, fa_36_2, ac, aT, f0, f1, o1, o2, r1, eqf e1, am, wr]
      exact next (by simp [hitB, e1]) _ hd
    by_cases e2 : a.ix = s.op.2.2.1
    case neg =>
      simp -implicitDefEqProofs only [zS, fa_42_0, fa_42_1, fa_42_2, fa_36_1, fa_36_2, ac, aT, f0, f1, o1, o2, r1, e1, eqf e2, am, wr]
      exact next (by simp [hitB, e2]) _ hd
    have hgd : At w1.drew g 0 a := at_blk hg
    have r2d := r2.keep hd
    simp -implicitDefEqProofs only [zS, fa_42_0, fa_42_1, fa_42_2, fa_36_1, fa_36_2, ac, aT, f0, f1, o1, o2, r1, e1, e2, hgd.ld, r2d.ld]
    refine (c_AheadRef a s w1.drew).mono ?_
    rintro _ w2 ⟨rfl, c2⟩
    have c2 := hd.trans c2
    have hg2 := c2.at hg (by simp)
    have b42 := c2.at b4 (by simp)
    cases hah : ahead a s with
    | false =>
      simp -implicitDefEqProofs only [zS, am, wr]
      exact next (by simp [hitB, hah]) w2 c2
    | true =>
    by_cases e4 : a.re.1 = 0
    case neg =>
      simp -implicitDefEqProofs only [zS, fa_42_7, fa_40_0, ld_27, f12 w2 hg2, eqf e4, am, wr]
      exact next (by simp [hitB, e4]) w2 c2
    by_cases e3 : a.op.1 = 1 ∨ a.op.1 = 2
    case neg =>
      have e31 : ¬ a.op.1 = 1 := fun h => e3 (.inl h)
      have e32 : ¬ a.op.1 = 2 := fun h => e3 (.inr h)
      simp -implicitDefEqProofs only [zS, fa_42_2, fa_42_7, aj, fa_40_0, ac, ld_27, f12 w2 hg2, f2 w2 hg2, e4, eqf e31, eqf e32, am, wr]
      exact next (by simp [hitB, e31, e32]) w2 c2
    have hit : hitB s a = true := by simp [hitB, e1, e2, e3, e4, hah]
    have b4' : hp (put w2 g4 (hnC a.re.2.1).toArray 38) g4 = some (.cells (hnC a.re.2.1).toArray 38) := by rw [aR, if_pos rfl, if_pos (av b42)]
    have hh : hOf l s = a.re.2.1 := by rw [hOf, find_at hkl hf (by rw [ha]; exact hit), ha]; rfl
    rcases e3 with e3 | e3
    all_goals
      simp -implicitDefEqProofs only [zS, fa_42_2, fa_42_7, aj, fa_40_0, fa_40_1, ac, ld_27, f12 w2 hg2, f2 w2 hg2, e3, e4, show ((2 : Int) == 1) = false from rfl, sp_hn hg2, st_hn b42 rfl, ld_hn b4']
      exact ⟨by rw [hh], (hW1.trans c2).put (.inr h4) _ _⟩
theorem At.op {w : World} {b o : Nat} {s : SpV} (h : At w b o s) : ldL (hp w b) (o + 2) 6 = some (opC s.op) := ldL_take 6 (o + 2) (opC s.op) rfl fun j u hj => by
  have hj6 : j < 6 := (List.getElem?_eq_some_iff.1 hj).1
  have := h.f (2 + j) (by omega)
  rw [Nat.add_assoc, this]
  match j, hj6, hj with
  | 0, _, hj => exact hj
  | 1, _, hj => exact hj
  | 2, _, hj => exact hj
  | 3, _, hj => exact hj
  | 4, _, hj => exact hj
  | 5, _, hj => exact hj
theorem At.ldop {w : World} {b o : Nat} {s : SpV} (h : At w b o s) : ldv Tryz.prog 36 (.pointer (some ⟨b, o + 2, none⟩)) w = some (.agg (opC s.op).toArray) := by rw [ld_36, h.op]; rfl
theorem z_hn : (#[.int .i64 0, .int .i64 0, .int .i64 0, .int .i64 0, .int .i64 0] : Array Value) = (hnC noH).toArray := rfl
theorem c_oHandle0 (hl : l.length ≤ 1000000) {w : World} (hA : RdV w A (l.flatMap spC)) {i : Nat} (hi : i < l.length) : CallR Tryz.prog 26 [.slice A l.length c, .int .i64 i] w fun v w' => v = .agg (hnC (handV l l[i])).toArray ∧ Chg [] w w' := by
  apply F26_ok
  simp -implicitDefEqProofs only [F26, al_38, z_hn]
  generalize hw1 : w.alloc _ = w1
  have c1 : Chg [] w w1 := by rw [← hw1]; exact (Chg.refl _ _).alloc _
  have b4 : hp w1 w.heap.size = some (.cells (hnC noH).toArray 38) := by rw [← hw1, aa, if_pos rfl]
  have s1 : w1.heap.size = w.heap.size + 1 := by rw [← hw1, ae]
  clear hw1
  have hA1 := hA.keep c1.below
  obtain ⟨b, o, q1, q2⟩ := sp_at' (c := c) (j := .i64) (i := i) hA1 hi
  simp -implicitDefEqProofs only [zS, q1, fa_42_2, q2.ldop, al_36]
  rw [st_36 (by rfl) (by rfl) (by rw [aa, if_pos rfl]; rfl) (by rw [aa, if_pos rfl]; rfl), aa, if_pos rfl]
  simp -implicitDefEqProofs only [ay]
  generalize hw2 : put (w1.alloc _) w1.heap.size (opC l[i].op).toArray 36 = w2
  have c2 : Chg [] w1 w2 := by rw [← hw2]; exact ((Chg.refl _ _).alloc _).put (.inr (Nat.le_refl _)) _ _
  have b5 : hp w2 w1.heap.size = some (.cells (opC l[i].op).toArray 36) := by rw [← hw2, aR, if_pos rfl, if_pos (by simp)]
  clear hw2
  have o0 : ldC (hp w2 w1.heap.size) (0 + 0) = some (.int .i64 l[i].op.1) := by rw [b5, aH]; rfl
  simp -implicitDefEqProofs only [zS, aj, ac, o0]
  refine (c_opOf l[i].op.1 w2).mono ?_
  rintro _ w3 ⟨rfl, c3⟩
  have c23 := c2.trans c3
  have b43 := c23.at b4 (by simp)
  by_cases e0 : ofK l[i].op.1 = 0
  · have b4' : hp (put w3 w.heap.size (hnC noH).toArray 38) w.heap.size = some (.cells (hnC noH).toArray 38) := by rw [aR, if_pos rfl, if_pos (av b43)]
    simp -implicitDefEqProofs only [zS, e0, bdh_, st_hn b43 rfl, ld_hn b4']
    exact ⟨by rw [handV, if_pos e0], (c1.trans c23).put (.inr (Nat.le_refl _)) _ _⟩
  · simp -implicitDefEqProofs only [zS, eqf e0, len_24]
    rw [handV, if_neg e0]
    exact l_oHandle hl hi (Nat.le_refl _) l.length 0 w3 (hA1.keep c23.below) b43 (c3.at b5 (by simp)) (c1.trans c23) (by omega) rfl
def handX (l : List SpV) (j : Int) : HnV := if j < 0 ∨ (l.length : Int) ≤ j then noH else match l[j.toNat]? with | some s => handV l s | none => noH
noncomputable def handQ (l : List SpV) (j : Int) : HnV := if mayB l = true then handX l j else noH
theorem handX_nat {l : List SpV} {i : Nat} (hi : i < l.length) : handX l i = handV l l[i] := by
  rw [handX, if_neg (by omega), Int.toNat_natCast, List.getElem?_eq_getElem hi]
theorem c_refHandle (hl : l.length ≤ 1000000) {w : World} (hA : RdV w A (l.flatMap spC)) (j : Int) : CallR Tryz.prog 57 [.slice A l.length c, .int .i64 j] w fun v w' => v = .agg (hnC (handX l j)).toArray ∧ Chg [] w w' := by
  apply F57_ok
  simp -implicitDefEqProofs only [F57, al_38, z_hn]
  generalize hw1 : w.alloc _ = w1
  have c1 : Chg [] w w1 := by rw [← hw1]; exact (Chg.refl _ _).alloc _
  have b4 : hp w1 w.heap.size = some (.cells (hnC noH).toArray 38) := by rw [← hw1, aa, if_pos rfl]
  clear hw1
  have hA1 := hA.keep c1.below
  have no : ∀ w2, Chg [] w1 w2 → handX l j = noH → effu Tryz.prog (Instr.storeAt 38 (.pointer (some ⟨w.heap.size, 0, none⟩)) (.agg (hnC noH).toArray)) w2 fun w3 => wpB (ldv Tryz.prog 38 (.pointer (some ⟨w.heap.size, 0, none⟩)) w3) fun r4 => r4 = .agg (hnC (handX l j)).toArray ∧ Chg [] w w3 := by
    intro w2 c2 hh
    have b42 := c2.at b4 (by simp)
    have b4' : hp (put w2 w.heap.size (hnC noH).toArray 38) w.heap.size = some (.cells (hnC noH).toArray 38) := by rw [aR, if_pos rfl, if_pos (av b42)]
    simp -implicitDefEqProofs only [zS, st_hn b42 rfl, ld_hn b4']
    exact ⟨by rw [hh], (c1.trans c2).put (.inr (Nat.le_refl _)) _ _⟩
  by_cases j0 : j < 0
  · simp -implicitDefEqProofs only [zS, j0, bdh_]
    exact no w1 (Chg.refl _ _) (by rw [handX, if_pos (.inl j0)])
  by_cases j1 : (l.length : Int) ≤ j
  · simp -implicitDefEqProofs only [zS, j0, j1, len_24, bdh_]
    exact no w1 (Chg.refl _ _) (by rw [handX, if_pos (.inr j1)])
  obtain ⟨i, rfl⟩ := Int.eq_ofNat_of_zero_le (show 0 ≤ j by omega)
  have hi : i < l.length := by omega
  obtain ⟨b, o, q1, q2⟩ := sp_at' (c := c) (j := .i64) (i := i) hA1 hi
  have o0 : ldC (hp w1 b) (o + 2 + 0) = some (.int .i64 l[i].op.1) := q2.f 2 (by omega)
  simp -implicitDefEqProofs only [zS, j0, j1, len_24, q1, fa_42_2, aj, ac, o0]
  refine (c_Of l[i].op.1 w1).mono ?_
  rintro _ w2 ⟨rfl, e2⟩
  subst e2
  by_cases e0 : ofK l[i].op.1 = 0
  · simp -implicitDefEqProofs only [zS, e0, bdh_]
    exact no _ (Chg.refl _ _) (by rw [handX_nat hi, handV, if_pos e0])
  · simp -implicitDefEqProofs only [zS, eqf e0]
    rw [handX_nat hi, handV, if_neg e0]
    exact l_refHandle hl hi (Nat.le_refl _) l.length 0 _ hA1 b4 c1 (by omega) rfl
theorem c_oHandle (hl : l.length ≤ 1000000) {w : World} (hA : RdV w A (l.flatMap spC)) (j : Int) : CallR Tryz.prog 12 [.slice A l.length c, .int .i64 j] w fun v w' => v = .agg (hnC (handQ l j)).toArray ∧ Chg [] w w' := by
  apply F12_ok
  simp -implicitDefEqProofs only [F12, al_38, z_hn]
  generalize hw1 : w.alloc _ = w1
  have c1 : Chg [] w w1 := by rw [← hw1]; exact (Chg.refl _ _).alloc _
  have b4 : hp w1 w.heap.size = some (.cells (hnC noH).toArray 38) := by rw [← hw1, aa, if_pos rfl]
  clear hw1
  have hA1 := hA.keep c1.below
  have no : ∀ (h : HnV) w2, Chg [] w1 w2 → handQ l j = h → effu Tryz.prog (Instr.storeAt 38 (.pointer (some ⟨w.heap.size, 0, none⟩)) (.agg (hnC h).toArray)) w2 fun w3 => wpB (ldv Tryz.prog 38 (.pointer (some ⟨w.heap.size, 0, none⟩)) w3) fun r4 => r4 = .agg (hnC (handQ l j)).toArray ∧ Chg [] w w3 := by
    intro h w2 c2 hh
    have b42 := c2.at b4 (by simp)
    have b4' : hp (put w2 w.heap.size (hnC h).toArray 38) w.heap.size = some (.cells (hnC h).toArray 38) := by rw [aR, if_pos rfl, if_pos (av b42)]
    simp -implicitDefEqProofs only [zS, st_hn b42 rfl, ld_hn b4']
    exact ⟨by rw [hh], (c1.trans c2).put (.inr (Nat.le_refl _)) _ _⟩
  by_cases j0 : j < 0
  · simp -implicitDefEqProofs only [zS, j0, bdh_]
    exact no noH w1 (Chg.refl _ _) (by unfold handQ handX; rw [if_pos (Or.inl j0 : j < 0 ∨ (l.length : Int) ≤ j), ite_self])
  by_cases j1 : (l.length : Int) ≤ j
  · simp -implicitDefEqProofs only [zS, j0, j1, len_24, bdh_]
    exact no noH w1 (Chg.refl _ _) (by unfold handQ handX; rw [if_pos (Or.inr j1 : j < 0 ∨ (l.length : Int) ≤ j), ite_self])
  obtain ⟨i, rfl⟩ := Int.eq_ofNat_of_zero_le (show 0 ≤ j by omega)
  have hi : i < l.length := by omega
  simp -implicitDefEqProofs only [zS, j0, j1, len_24]
  refine (c_RMay hl ⟨A, c, rfl, hA1⟩).mono ?_
  rintro _ w2 ⟨rfl, c2⟩
  cases hm : mayB l with
  | false =>
    simp -implicitDefEqProofs only [zS, bdh_]
    exact no noH w2 c2 (by rw [handQ, hm]; rfl)
  | true =>
    simp -implicitDefEqProofs only [zS]
    refine (c_oHandle0 hl (hA1.keep c2.below) hi).mono ?_
    rintro _ w3 ⟨rfl, c3⟩
    exact no _ w3 (c2.trans c3) (by rw [handQ, if_pos hm, handX_nat hi])
end
end Go.Proofs.YteapggpkgfiacaaGreat

namespace Go.Proofs.YteapggpkgfiacaaGreat
open Go Ev Go.RowKit

theorem own_ge {w : World} {base : Nat} {e : TypeId} {z : Nat} {v : Value} {n : Nat} {xs : List Value} (h : w.ownsRow base e z v n xs) {k : Nat} (hk : v.ownBlock = some k) : base ≤ k := by
  rcases h.2 with ⟨rfl, _⟩ | ⟨g, cap, cur, rfl, hbg, _⟩
  · cases hk
  · cases hk; exact hbg
def RowE (w : World) (B : Nat) (v : Value) (L : List EvV) : Prop := ∃ A c, v = .slice A L.length c ∧ RdV w A (L.flatMap evC) ∧ L.length ≤ c ∧ ∀ p, A = some p → B ≤ p.block
theorem RowE.keep {w w' : World} {B : Nat} {v : Value} {L : List EvV} (h : RowE w B v L) (hc : Chg [] w w') : RowE w' B v L := by
  obtain ⟨A, c, h1, h2, h3⟩ := h
  exact ⟨A, c, h1, h2.keep hc.below, h3⟩
theorem RowE.mono {w : World} {B B' : Nat} {v : Value} {L : List EvV} (h : RowE w B v L) (hb : B' ≤ B) : RowE w B' v L := by
  obtain ⟨A, c, h1, h2, h3, h4⟩ := h
  exact ⟨A, c, h1, h2, h3, fun p hp => Nat.le_trans hb (h4 p hp)⟩
theorem RowE.nil (w : World) (B : Nat) : RowE w B (.slice none 0 0) [] := ⟨none, 0, rfl, RdV.nil _ _, Nat.le_refl _, fun p hp => by cases hp⟩
theorem RowE.own {w : World} {base : Nat} {e : TypeId} {v : Value} {n : Nat} {L : List EvV} (h : w.ownsRow base e 3 v n (L.flatMap evC)) (hn : n = L.length) : RowE w base v L := by
  subst hn
  rcases h.2 with ⟨rfl, h0⟩ | ⟨g, cap, cur, rfl, hbg, hg, hnc, hcm, hcs, htake⟩
  · have : L = [] := List.eq_nil_of_length_eq_zero h0
    subst this
    exact RowE.nil w base
  · exact ⟨some ⟨g, 0, none⟩, cap, rfl, fun j u hj => ⟨_, rfl, h.cells (g := g) rfl j u hj⟩, hnc, fun p hp => by cases hp; exact hbg⟩
section
variable {W : World}
end
end Go.Proofs.YteapggpkgfiacaaGreat

namespace Go.Proofs.YteapggpkgfiacaaGreat
open Go Ev Go.RowKit
end Go.Proofs.YteapggpkgfiacaaGreat

namespace Go.Proofs.YteapggpkgfiacaaGreat
open Go Ev Go.RowKit
end Go.Proofs.YteapggpkgfiacaaGreat

namespace Go.Proofs.YteapggpkgfiacaaGreat
open Go Ev Go.RowKit

set_option maxHeartbeats 1000000 in
theorem c_cfMay (c : CfV) (w : World) : CallR Tryz.prog 6 [.agg (cfC c).toArray] w fun v w' => v = .bool (mayC c) ∧ Chg [] w w' := by
  apply F6_ok
  have b1 : hp (w.alloc (.cells (cfC c).toArray 23)) w.heap.size = some (.cells (cfC c).toArray 23) := by rw [aa, if_pos rfl]
  have c0 : Chg [] w (w.alloc (.cells (cfC c).toArray 23)) := (Chg.refl _ _).alloc _
  simp -implicitDefEqProofs only [F6, ak, au]
  generalize w.alloc (.cells (cfC c).toArray 23) = w0 at *
  simp -implicitDefEqProofs only [zS, fa_23_0, ac, b1, cf_0]
  refine (c_rIn _ _ _ w0).step ?_
  by_cases h1 : 1 ≤ c.1 ∧ c.1 ≤ 64
  · simp -implicitDefEqProofs only [decide_eq_true h1, zS, fa_23_1, ac, b1, cf_1]
    refine (c_rIn _ _ _ w0).step ?_
    by_cases h2 : 1 ≤ c.2.1 ∧ c.2.1 ≤ 4096
    · simp -implicitDefEqProofs only [decide_eq_true h2, zS, fa_23_2, ac, b1, cf_2]
      refine (c_rIn _ _ _ w0).step ?_
      by_cases h3 : 8 ≤ c.2.2.1 ∧ c.2.2.1 ≤ 1024
      · have hm : c.2.2.1.tmod 8 = c.2.2.1 % 8 := Int.tmod_eq_emod_of_nonneg (by omega)
        by_cases h4 : c.2.2.1 % 8 = 0
        · have e4 : (c.2.2.1 % 8 == 0) = true := by rw [h4]; rfl
          simp -implicitDefEqProofs only [decide_eq_true h3, zS, fa_23_2, fa_23_3, ac, b1, cf_2, cf_3, bp_rem (show (8 : Int) ≠ 0 by decide), hm, e4]
          refine (c_rIn _ _ _ w0).step ?_
          by_cases h5 : 1 ≤ c.2.2.2.1 ∧ c.2.2.2.1 ≤ 4096
          · simp -implicitDefEqProofs only [decide_eq_true h5, zS, fa_23_4, ac, b1, cf_4]
            refine (c_rIn _ _ _ w0).step ?_
            by_cases h6 : 0 ≤ c.2.2.2.2.1 ∧ c.2.2.2.2.1 ≤ 64
            · simp -implicitDefEqProofs only [decide_eq_true h6, zS, fa_23_5, ac, b1, cf_5]
              refine (c_rIn _ _ _ w0).step ?_
              by_cases h7 : 1 ≤ c.2.2.2.2.2 ∧ c.2.2.2.2.2 ≤ 8
              · simp -implicitDefEqProofs only [decide_eq_true h7, zS]
                exact ⟨by simp [mayC, h1, h2, h3, h4, h5, h6, h7], c0⟩
              · simp -implicitDefEqProofs only [decide_eq_false h7, zS]
                exact ⟨by rw [mayC, decide_eq_false h7]; simp, c0⟩
            · simp -implicitDefEqProofs only [decide_eq_false h6, zS]
              exact ⟨by rw [mayC, decide_eq_false h6]; simp, c0⟩
          · simp -implicitDefEqProofs only [decide_eq_false h5, zS]
            exact ⟨by rw [mayC, decide_eq_false h5]; simp, c0⟩
        · simp -implicitDefEqProofs only [decide_eq_true h3, zS, fa_23_2, ac, b1, cf_2, bp_rem (show (8 : Int) ≠ 0 by decide), hm, eqf h4]
          exact ⟨by rw [mayC, decide_eq_false h4]; simp, c0⟩
      · simp -implicitDefEqProofs only [decide_eq_false h3, zS]
        exact ⟨by rw [mayC, decide_eq_false h3]; simp, c0⟩
    · simp -implicitDefEqProofs only [decide_eq_false h2, zS]
      exact ⟨by rw [mayC, decide_eq_false h2]; simp, c0⟩
  · simp -implicitDefEqProofs only [decide_eq_false h1, zS]
    exact ⟨by rw [mayC, decide_eq_false h1]; simp, c0⟩
theorem Chg.ext {w w' : World} (h : Chg [] w w') : Ext w w' := fun a v ha => Below.cellKeep h.below ha
theorem callX_step {P : Program} {f : FuncId} {args : List Value} {w : World} {v0 : Value} (h : CallR P f args w fun v w' => v = v0 ∧ w' = w) {K : Value → World → Prop} (hk : K v0 w) : CallX P f args w K :=
  h.mono fun v w' ⟨h1, h2⟩ => by subst h1; subst h2; exact ⟨fun _ _ h => h, hk⟩
theorem callX_chg {P : Program} {f : FuncId} {args : List Value} {w : World} {R : Value → World → Prop} (h : CallR P f args w fun v w' => R v w' ∧ Chg [] w w') {K : Value → World → Prop} (hk : ∀ v w', R v w' → Chg [] w w' → K v w') : CallX P f args w K :=
  h.mono fun v w' ⟨h1, h2⟩ => ⟨Chg.ext h2, hk v w' h1 h2⟩
abbrev numV (v n : Int) : Int := v % n
theorem numV_range (v : Int) {n : Int} (h : 0 < n) : 0 ≤ numV v n ∧ numV v n < n := ⟨Int.emod_nonneg _ (by omega), Int.emod_lt_of_pos _ h⟩
def cutC (c : CfV) : CfV := (1 + numV c.1 4, 1 + numV c.2.1 8, 8 + 8 * numV c.2.2.1 2, 1 + numV c.2.2.2.1 4, numV c.2.2.2.2.1 4, 1 + numV c.2.2.2.2.2 3)
theorem c_Cut (c : CfV) (w : World) : CallR Tryz.prog 9 [.agg (cfC c).toArray] w fun v w' => v = .agg (cfC (cutC c)).toArray ∧ Chg [] w w' := by
  apply F9_ok
  simp -implicitDefEqProofs only [F9, ak, au, al_23, ae]
  generalize hw : (w.alloc (.cells (cfC c).toArray 23)).alloc _ = w1
  have c1 : Chg [] w w1 := by rw [← hw]; exact ((Chg.refl _ _).alloc _).alloc _
  have b1 : hp w1 w.heap.size = some (.cells (cfC c).toArray 23) := by rw [← hw, aa, ae, if_neg (by omega), aa, if_pos rfl]
  have b2 : ∃ z : Array Value, z.size = 6 ∧ hp w1 (w.heap.size + 1) = some (.cells z 23) := ⟨_, rfl, by rw [← hw, aa, ae, if_pos rfl]⟩
  clear hw
  obtain ⟨z, hz, b2⟩ := b2
  simp -implicitDefEqProofs only [zS, fa_23_0, fa_23_1, fa_23_2, fa_23_3, fa_23_4, fa_23_5, ac, aT, b1, aH, cf_0, cf_1, cf_2, cf_3, cf_4, cf_5]
  have h1 := numV_range c.1 (n := 4) (by omega)
  have h2 := numV_range c.2.1 (n := 8) (by omega)
  have h3 := numV_range c.2.2.1 (n := 2) (by omega)
  have h4 := numV_range c.2.2.2.1 (n := 4) (by omega)
  have h5 := numV_range c.2.2.2.2.1 (n := 4) (by omega)
  have h6 := numV_range c.2.2.2.2.2 (n := 3) (by omega)
  refine callX_step (c_Number _ 4 _ (by omega) (by omega)) ?_
  simp -implicitDefEqProofs only [zS, am, aq (n := 1 + numV c.1 4) (by omega) (by omega)]
  refine callX_step (c_Number _ 8 _ (by omega) (by omega)) ?_
  simp -implicitDefEqProofs only [zS, am, aq (n := 1 + numV c.2.1 8) (by omega) (by omega)]
  refine callX_step (c_Number _ 2 _ (by omega) (by omega)) ?_
  simp -implicitDefEqProofs only [zS, am, bp_mul, aq (n := 8 * numV c.2.2.1 2) (by omega) (by omega), aq (n := 8 + 8 * numV c.2.2.1 2) (by omega) (by omega)]
  refine callX_step (c_Number _ 4 _ (by omega) (by omega)) ?_
  simp -implicitDefEqProofs only [zS, am, aq (n := 1 + numV c.2.2.2.1 4) (by omega) (by omega)]
  refine callX_step (c_Number _ 4 _ (by omega) (by omega)) ?_
  refine callX_step (c_Number _ 3 _ (by omega) (by omega)) ?_
  have hbc : pureRun Tryz.prog (Instr.build 23 #[(0, .int .i64 (1 + numV c.1 4)), (1, .int .i64 (1 + numV c.2.1 8)), (2, .int .i64 (8 + 8 * numV c.2.2.1 2)), (3, .int .i64 (1 + numV c.2.2.2.1 4)), (4, .int .i64 (numV c.2.2.2.2.1 4)), (5, .int .i64 (1 + numV c.2.2.2.2.2 3))]) = some (.agg (cfC (cutC c)).toArray) := bd_23_0_1_2_3_4_5
  simp -implicitDefEqProofs only [zS, am, aq (n := 1 + numV c.2.2.2.2.2 3) (by omega) (by omega), hbc]
  have b2d : hp w1.drew (w.heap.size + 1) = some (.cells z 23) := b2
  rw [st_23 rfl rfl (by rw [b2d, okC_some]; exact decide_eq_true (by omega)) (by rw [b2d]; exact hz), b2d, ay, ld_cf (ar (av b2d) _ _), ab]
  exact ⟨rfl, c1.drew.put (.inr (by omega)) _ _⟩
end Go.Proofs.YteapggpkgfiacaaGreat

namespace Go.Proofs.YteapggpkgfiacaaGreat
open Go Ev Go.RowKit

structure Wn (m : MdV) (K : Nat) : Prop where
  gk : ∀ p ∈ m.slots, 0 ≤ p.2 ∧ p.2 ≤ K
  gn : ∀ r ∈ m.rgs, 0 ≤ r.nm.1 ∧ r.nm.1 < m.slots.length ∧ 1 ≤ r.nm.2 ∧ ∀ p, m.slots[r.nm.1.toNat]? = some p → r.nm.2 ≤ p.2
  nd : (m.rgs.map (·.nm)).Nodup
  lv : ∀ (i : Nat) (p : NmV), m.slots[i]? = some p → p.1 = 1 → ∃ k, findR m.rgs ((i : Int), p.2) = some k
  cw : m.c.1 = m.hands.length
  cs : m.c.2.2.2.1 = m.slots.length
theorem Wn.mono {m : MdV} {K K' : Nat} (h : Wn m K) (hk : K ≤ K') : Wn m K' := ⟨fun p hp => by have := h.gk p hp; omega, h.gn, h.nd, h.lv, h.cw, h.cs⟩
theorem wn_new {c : CfV} (h : mayC c = true) (l : Bool) : Wn (newM c l) 0 := by
  obtain ⟨h1, h2, h3, h4⟩ := may_cf h
  refine ⟨fun p hp => ?_, (fun r hr => by cases hr), List.nodup_nil, fun i p hp h1 => ?_, by simp only [newM, List.length_replicate]; omega, by simp only [newM, List.length_replicate]; omega⟩
  · rw [List.eq_of_mem_replicate hp]; exact ⟨Int.le_refl _, Int.le_refl _⟩
  · have := List.eq_of_mem_replicate (List.mem_of_getElem? hp)
    rw [this] at h1; cases h1
theorem findR_set {L : List RgV} {i : Nat} {r r' : RgV} (hi : L[i]? = some r) (hn : r'.nm = r.nm) (n : NmV) : findR (L.set i r') n = findR L n := by
  unfold findR
  have : ∀ (M : List RgV) (i : Nat), M[i]? = some r → (M.set i r').findIdx? (fun x => decide (x.nm = n)) = M.findIdx? (fun x => decide (x.nm = n)) := by
    intro M
    induction M with
    | nil => intro i h; simp at h
    | cons x M ih =>
      intro i h
      cases i with
      | zero =>
        simp at h; subst h
        rw [List.set_cons_zero, List.findIdx?_cons, List.findIdx?_cons, hn]
      | succ i =>
        rw [List.set_cons_succ, List.findIdx?_cons, List.findIdx?_cons, ih i (by simpa using h)]
  exact this L i hi
theorem Wn.setRg {m : MdV} {K : Nat} (h : Wn m K) {i : Nat} {r r' : RgV} (hi : m.rgs[i]? = some r) (hn : r'.nm = r.nm) : Wn { m with rgs := m.rgs.set i r' } K := by
  refine ⟨h.gk, fun x hx => ?_, ?_, fun j p hp h1 => ?_, h.cw, h.cs⟩
  · rcases List.mem_or_eq_of_mem_set hx with h1 | h1
    · exact h.gn x h1
    · rw [h1, hn]; exact h.gn r (List.mem_of_getElem? hi)
  · have : (m.rgs.set i r').map (·.nm) = m.rgs.map (·.nm) := by
      rw [List.map_set, hn]
      exact set_same (by rw [List.getElem?_map, hi]; rfl)
    rw [this]; exact h.nd
  · obtain ⟨k, hk⟩ := h.lv j p hp h1
    exact ⟨k, by rw [findR_set hi hn]; exact hk⟩
theorem Wn.setHd {m : MdV} {K : Nat} (h : Wn m K) (w : Int) (d : HdV) : Wn (setHd m w d) K := ⟨h.gk, h.gn, h.nd, h.lv, by simp only [Go.Proofs.YteapggpkgfiacaaGreat.setHd, List.length_set]; exact h.cw, h.cs⟩
theorem Wn.setSl {m : MdV} {K : Nat} (h : Wn m K) {i : Nat} {p : NmV} (hp : m.slots[i]? = some p) {v : Int} (hv : v ≠ 1) : Wn { m with slots := m.slots.set i (v, p.2) } K := by
  have hpm := h.gk p (List.mem_of_getElem? hp)
  refine ⟨mem_set h.gk hpm, fun r hr => ?_, h.nd, fun j q hq h1 => ?_, h.cw, by simp only [List.length_set]; exact h.cs⟩
  · obtain ⟨a, b, c, d⟩ := h.gn r hr
    refine ⟨a, by simp only [List.length_set]; exact b, c, fun q hq => ?_⟩
    simp only at hq
    rw [List.getElem?_set] at hq
    split at hq
    · rename_i e
      split at hq
      · cases hq; exact d p (by rw [← e]; exact hp)
      · cases hq
    · exact d q hq
  · simp only at hq
    rw [List.getElem?_set] at hq
    split at hq
    · split at hq
      · cases hq; exact absurd h1 hv
      · cases hq
    · exact h.lv j q hq h1
theorem Wn.setWord {m : MdV} {K : Nat} (h : Wn m K) (a : HnV) (n x : Int) : Wn (setWordV m a n x) K := by
  unfold setWordV
  split
  · split
    · rename_i r hr
      exact h.setRg hr rfl
    · exact h
  · exact h
theorem Wn.back {m : MdV} {K : Nat} (h : Wn m K) (n : Int) : Wn (backV m n).2 K := by
  unfold backV
  split
  · split
    · rename_i p hp
      split
      · exact h.setSl hp (by decide)
      · exact h
    · exact h
  · exact h
theorem Wn.does {m : MdV} {K : Nat} (h : Wn m K) (w : Int) (o : OpV) (a : HnV) : Wn (doesV m w o a) K := by
  unfold doesV
  split
  · exact h
  · split
    · exact h.setHd _ _
    split
    · exact h.setHd _ _
    split
    · split
      · exact h
      · exact h.setHd _ _
    split
    · exact h.setWord _ _ _
    split
    · exact h.setWord _ _ _
    split
    · split
      · exact h.setWord _ _ _
      · exact h
    split
    · split
      · rename_i p hp
        refine h.setSl hp ?_
        split <;> decide
      · exact h
    · exact h
theorem findR_app_left {L : List RgV} {x : RgV} {n : NmV} {k : Nat} (h : findR L n = some k) : findR (L ++ [x]) n = some k := by
  unfold findR at h ⊢
  rw [List.findIdx?_append, h]; rfl
theorem findR_app_new {L : List RgV} {x : RgV} (h : findR L x.nm = none) : findR (L ++ [x]) x.nm = some L.length := by
  unfold findR at h ⊢
  rw [List.findIdx?_append, h]
  simp [List.findIdx?_cons]
theorem Wn.fresh {m : MdV} {K : Nat} (h : Wn m K) {i : Nat} {p : NmV} (hp : m.slots[i]? = some p) (r : RgV) (hr : r ∈ m.rgs) : r.nm ≠ ((i : Int), p.2 + 1) := fun e => by
  obtain ⟨a, b, c, d⟩ := h.gn r hr
  rw [e] at d
  have := d p (by rw [Int.toNat_natCast]; exact hp)
  simp only at this; omega
theorem Wn.creates {m : MdV} {K : Nat} (h : Wn m K) (hK : K ≤ 1000000) (cls : Int) (r : RsV) : Wn (createsV m cls r).2 (K + 1) := by
  have h1 := h.mono (Nat.le_succ K)
  unfold createsV
  split
  · exact h1
  split
  · rename_i hs
    split
    · rename_i p hp
      split
      · exact h1
      split
      · have hpm := h.gk p (List.mem_of_getElem? hp)
        have hl : laterV p.2 = p.2 + 1 := by rw [laterV, if_pos (by omega)]
        have hnn : ((r.2.1.1.toNat : Nat) : Int) = r.2.1.1 := by omega
        have hfr : findR m.rgs (r.2.1.1, p.2 + 1) = none := findR_none fun j x hx => by
          have := h.fresh hp x (List.mem_of_getElem? hx)
          rw [hnn] at this; exact this
        rw [hl]
        refine ⟨mem_set h1.gk (by simp only; omega), fun x hx => ?_, ?_, fun j q hq hq1 => ?_, h.cw, by simp only [List.length_set]; exact h.cs⟩
        · simp only [List.length_set]
          rcases List.mem_append.1 hx with hx | hx
          · obtain ⟨a, b, c, d⟩ := h.gn x hx
            refine ⟨a, b, c, fun q hq => ?_⟩
            rw [List.getElem?_set] at hq
            split at hq
            · rename_i e
              split at hq
              · cases hq
                have := d p (by rw [← e]; exact hp)
                simp only; omega
              · cases hq
            · exact d q hq
          · rw [List.mem_singleton.1 hx]
            refine ⟨hs.1, hs.2, by simp only; omega, fun q hq => ?_⟩
            simp only at hq
            rw [List.getElem?_set, if_pos rfl] at hq
            split at hq
            · cases hq; exact Int.le_refl _
            · cases hq
        · rw [List.map_append, List.nodup_append]
          refine ⟨h.nd, by simp, fun a ha b hb => ?_⟩
          obtain ⟨x, hx, rfl⟩ := List.mem_map.1 ha
          rw [List.map_cons, List.map_nil, List.mem_singleton] at hb
          rw [hb]
          have := h.fresh hp x hx
          rw [hnn] at this; exact this
        · simp only at hq
          rw [List.getElem?_set] at hq
          split at hq
          · rename_i e
            split at hq
            · cases hq
              rw [← e, hnn]
              exact ⟨_, findR_app_new (x := ⟨(r.2.1.1, p.2 + 1), cls, 0, [], [], []⟩) hfr⟩
            · cases hq
          · obtain ⟨k, hk⟩ := h.lv j q hq hq1
            exact ⟨k, findR_app_left hk⟩
      · exact h1
    · exact h1
  · exact h1
theorem Wn.gives {m : MdV} {K : Nat} (h : Wn m K) (n : Int) (a : HnV) (r : RsV) : Wn (givesV m n a r).2 (K + 1) := by
  have h1 := h.mono (Nat.le_succ K)
  unfold givesV
  split
  · exact h1
  · split
    · exact h1
    · rename_i i _ x hx
      simp only
      split
      · exact h1
      split
      · exact h1
      split
      · refine h1.setRg hx ?_
        unfold growV
        split <;> rfl
      · exact h1
theorem Wn.doV {m : MdV} {K : Nat} (h : Wn m K) (hK : K ≤ 1000000) (w : Int) (o : OpV) (a : HnV) (r : RsV) : Wn (doV m w o a r).2 (K + 1) := by
  have h1 := h.mono (Nat.le_succ K)
  unfold Go.Proofs.YteapggpkgfiacaaGreat.doV
  split
  · exact h1
  split
  · split
    · simp only
      split
      · exact (h.does _ _ _).mono (Nat.le_succ K)
      · exact h1
    · exact h1
  split
  · exact h.creates hK _ _
  · exact h.gives _ _ _
section
variable {m : MdV} {K : Nat}
theorem findX_rf (m : MdV) (n : NmV) : findX (toRf m).rgs n = findR m.rgs n := by
  unfold findX toRf
  simp only [List.map_map]
  rw [show (Prod.fst ∘ fun r : RgV => (r, isLv m r.nm)) = id from rfl, List.map_id]
theorem rgs_rf (m : MdV) (i : Nat) : (toRf m).rgs[i]? = (m.rgs[i]?).map fun r => (r, isLv m r.nm) := by
  simp [toRf, List.getElem?_map]
theorem good_rfv (W : Wf m K) (k : Int) (a : HnV) : goodX (toRf m) k a = (if ofK k = 0 then true else knownV m a (ofK k)) := by
  have hcase : ofK k = 0 ∨ ofK k = 1 ∨ ofK k = 2 ∨ ofK k = 3 := by
    unfold ofK; repeat' split
    all_goals omega
  have kx : knownX (toRf m) a = match findR m.rgs (nmOf a) with
    | none => (false, false)
    | some i => (decide (a.2.2.1 = 0 ∧ a.2.2.2.1 = 0 ∧ a.2.2.2.2 = 0), match m.rgs[i]? with | some r => decide (a ∈ r.objs) | none => false) := by
    unfold knownX
    rw [findX_rf]
    cases findR m.rgs (nmOf a) with
    | none => rfl
    | some i =>
      simp only [rgs_rf]
      cases m.rgs[i]? <;> rfl
  have kv : ∀ of, knownV m a of = match findR m.rgs (nmOf a) with
    | none => false
    | some i => if a.2.2.2.2 = 0 then decide (a.2.2.1 = 0) && (decide (a.2.2.2.1 = 0) && decide (of ≠ 2)) else decide (of ≠ 1) && (match m.rgs[i]? with | some r => decide (a ∈ r.objs) | none => false) := fun of => rfl
  unfold goodX
  rw [kx]
  cases hf : findR m.rgs (nmOf a) with
  | none =>
    rcases hcase with h | h | h | h <;> rw [h] <;> simp [kv, hf]
  | some i =>
    obtain ⟨r, hr, _⟩ := findR_at hf
    have hob : a.2.2.2.2 = 0 → a ∉ r.objs := fun h0 hm => by
      have := ((W.rg r (List.mem_of_getElem? hr)).ob a hm).2.2.1
      omega
    simp only [hr]
    rcases hcase with h | h | h | h <;> rw [h]
    · simp
    · simp only [if_true, kv, hf, hr]
      by_cases h0 : a.2.2.2.2 = 0
      · simp [h0]
      · simp [h0]
    · simp only [show ¬ (2 : Int) = 1 by decide, show ¬ (2 : Int) = 0 by decide, if_true, if_false, kv, hf, hr]
      by_cases h0 : a.2.2.2.2 = 0
      · rw [if_pos h0, decide_eq_false (hob h0)]; simp
      · rw [if_neg h0]; simp
    · simp only [show ¬ (3 : Int) = 1 by decide, show ¬ (3 : Int) = 2 by decide, show ¬ (3 : Int) = 0 by decide, if_true, if_false, kv, hf, hr]
      by_cases h0 : a.2.2.2.2 = 0
      · rw [if_pos h0, decide_eq_false (hob h0)]; simp [h0]
      · rw [if_neg h0]; simp [h0]
theorem rf_spare (m : MdV) : spareI (toRf m).state = spareN m.slots := by
  rw [spareI, spareN]
  show ((m.slots.map (·.1)).filter _).length = _
  rw [List.filter_map, List.length_map]; rfl
theorem rf_taken (m : MdV) (ch : Int) : takenX (toRf m).rgs ch = takenV m ch := by
  unfold takenX takenV
  show ((m.rgs.map _).any _) = _
  rw [List.any_map]; rfl
end
end Go.Proofs.YteapggpkgfiacaaGreat

namespace Go.Proofs.YteapggpkgfiacaaGreat
open Go Ev Go.RowKit

section
variable {W w : World} {g g6 g7 g8 g10 : Nat} {x : RfV} {m : MdV} {F : Fp} {K : Nat} {o : OpV} {h : HnV} {d : HdV}
theorem RfI.word (I : RfI w g x F) {i : Nat} {p : RgV × Bool} (hi : x.rgs[i]? = some p) {k : Nat} {L : List Int} (hL : p.1.words[k]? = some L) {j : Nat} {y : Int} (hj : L[j]? = some y) :
    ∃ b c bw cw g2 c2, ldC (hp w g) (0 + 9) = some (.slice (some ⟨b, 0, none⟩) x.rgs.length c) ∧ ldC (hp w b) (i * 8 + 6) = some (.slice (some ⟨bw, 0, none⟩) p.1.words.length cw) ∧ ldC (hp w bw) k = some (.slice (some ⟨g2, 0, none⟩) L.length c2) ∧ ldC (hp w g2) j = some (.int .u64 y) ∧
      ∀ z, okC (hp w g2) (j + 1) = true ∧ ∃ F', RfI (put w g2 ((getC (hp w g2)).setIfInBounds j (.int .u64 z)) (getE (hp w g2))) g { x with rgs := x.rgs.set i ({ p.1 with words := p.1.words.set k (L.set j z) }, p.2) } F' ∧ UpdP F F' w (put w g2 ((getC (hp w g2)).setIfInBounds j (.int .u64 z)) (getE (hp w g2))) := by
  have hP0 : (x.rgs.flatMap rrT)[i * 8 + 6]? = some (wordsT p.1.words) := aN rrT_len x.rgs i p hi 6 (by omega)
  obtain ⟨b, c, v, Fk, hl, hbg, hFb, hsub, _, _, hld, hP, hres, _⟩ := isAt.row I (good_rf x) (k := 9) (e' := 126) (z := 8) (n := x.rgs.length) (Qs := x.rgs.flatMap rrT) rfl (good_rrL x.rgs) hP0
  have hPw : (p.1.words.map wordT)[k]? = some (wordT L) := by rw [List.getElem?_map, hL]; rfl
  obtain ⟨bw, cw, v2, Fk2, hx2, _, _, _, hld2, hP2, hres2, _⟩ := isRow.cell hP (fun P hP => by obtain ⟨l, _, rfl⟩ := List.mem_map.1 hP; exact good_word l) hPw
  have hPu : ((u64s L).map isV)[j]? = some (isV (.int .u64 y)) := by rw [u64s, List.map_map, List.getElem?_map, hj]; rfl
  obtain ⟨g2, c2, v3, Fk3, hx3, _, _, _, hld3, hv3, _, hst⟩ := isRow.cell hP2 (good_ints (u64s_int L)) hPu
  refine ⟨b, c, bw, cw, g2, c2, hl, by rw [← hx2]; exact hld, by rw [← hx3]; exact hld2, by rw [hld3, hv3.1], fun z => ?_⟩
  obtain ⟨ok, F1, hrow, hupd⟩ := hst w none' (isV (.int .u64 z)) (.int .u64 z) (UpdP.none hv3.2 w) (aV _ _) ⟨rfl, fun _ h => h⟩
  have hset : ((u64s L).map isV).set j (isV (.int .u64 z)) = (u64s (L.set j z)).map isV := by simp [u64s, List.map_set]
  rw [hset] at hrow
  have hrow' : wordT (L.set j z) (put w g2 ((getC (hp w g2)).setIfInBounds j (.int .u64 z)) (getE (hp w g2))) F1 v2 := by rw [wordT, List.length_set]; exact hrow
  obtain ⟨F2, hrow2, hupd2⟩ := hres2 _ F1 (wordT (L.set j z)) hupd hrow'
  rw [← List.map_set] at hrow2
  have hrow2' : wordsT (p.1.words.set k (L.set j z)) (put w g2 ((getC (hp w g2)).setIfInBounds j (.int .u64 z)) (getE (hp w g2))) F2 v := by rw [wordsT, List.length_set]; exact hrow2
  obtain ⟨F3, h1, h2⟩ := hres _ F2 (wordsT (p.1.words.set k (L.set j z))) hupd2 hrow2'
  rw [flatM_setP rrT_len (x' := ({ p.1 with words := p.1.words.set k (L.set j z) }, p.2)) (by omega) rfl hi] at h1
  have e : rrsT (x.rgs.set i ({ p.1 with words := p.1.words.set k (L.set j z) }, p.2)) = isRow 126 8 x.rgs.length ((x.rgs.set i ({ p.1 with words := p.1.words.set k (L.set j z) }, p.2)).flatMap rrT) := by rw [rrsT, List.length_set]
  rw [← e] at h1
  exact ⟨ok, F3, h1, h2⟩
theorem ObjAt.rf {i : Nat} {r : RgV} {k : Nat} {L : List Int} {j : Nat} {n : Int} (O : ObjAt m h n i r k L j) : (toRf m).rgs[i]? = some (r, isLv m r.nm) := by rw [rgs_rf, O.ri]; rfl
theorem hands_rf {n : Int} (hd : m.hands[n.toNat]? = some d) : (toRf m).holds[n.toNat]? = some d.holds ∧ (toRf m).depth[n.toNat]? = some d.depth := by simp [toRf, hd]
theorem l_rTouch2 {L : World → Prop} (hc : Chg [] W w) {c8 : Array Value} (h10 : hp w g10 = some (.cells c8 40)) (hs : c8.size = 8) (n10 : W.heap.size ≤ g10) :
    P83_2 (.pointer (some ⟨g10, 0, none⟩)) w fun v w' => v = .agg (rsC noR).toArray ∧ Chg [] W w' := by
  apply L83_2_ok
  simp -implicitDefEqProofs only [L83_2, bdr_, ab]
  rw [st_res h10 hs, ld_res (ar (av h10) _ _), ab]
  exact ⟨rfl, hc.put (.inr n10) _ _⟩
set_option maxHeartbeats 1000000 in
theorem l_rTouch0 (hc : Chg [] W w) {c8 : Array Value} (h10 : hp w g10 = some (.cells c8 40)) (hs : c8.size = 8) (n10 : W.heap.size ≤ g10) (h8 : hp w g8 = some (.cells (opC o).toArray 36)) (h6 : 6 ≤ o.1) (h9 : o.1 ≤ 9) :
    P83_0 (.pointer (some ⟨g8, 0, none⟩)) (.pointer (some ⟨g10, 0, none⟩)) (.int .u64 (wordV m h o.2.2.2.1)) w fun v w' => v = .agg (rsC (mustB m o h)).toArray ∧ Chg [] W w' := by
  apply L83_0_ok
  have one : ∀ t : Bool, t = decide (o.1 = 6 ∨ o.1 = 8) → P83_1 (.pointer (some ⟨g8, 0, none⟩)) (.pointer (some ⟨g10, 0, none⟩)) (.int .u64 (wordV m h o.2.2.2.1)) (.int .i64 o.1) (.bool t) w fun v w' => v = .agg (rsC (mustB m o h)).toArray ∧ Chg [] W w' := by
    intro t ht
    apply L83_1_ok
    by_cases k68 : o.1 = 6 ∨ o.1 = 8
    · have ht' : t = true := by rw [ht]; exact decide_eq_true k68
      subst ht'
      have e : mustB m o h = (0, noH, 0, wordV m h o.2.2.2.1) := by rw [mustB, if_pos k68]
      have hb : pureRun Tryz.prog (Instr.build 40 #[(3, .int .u64 (wordV m h o.2.2.2.1))]) = some (.agg (rsC (0, noH, 0, wordV m h o.2.2.2.1)).toArray) := bd_40_3
      simp -implicitDefEqProofs only [L83_1, zS, hb]
      rw [st_res h10 hs, ld_res (ar (av h10) _ _), ab, e]
      exact ⟨rfl, hc.put (.inr n10) _ _⟩
    have ht' : t = false := by rw [ht]; exact decide_eq_false k68
    subst ht'
    by_cases k9 : o.1 = 9
    · have q9 : (o.1 == 9) = true := by rw [k9]; rfl
      by_cases hv : wordV m h o.2.2.2.1 = o.2.2.2.2.1
      · have ev : (wordV m h o.2.2.2.1 == o.2.2.2.2.1) = true := by rw [hv]; exact beq_self_eq_true _
        have e : mustB m o h = (0, noH, 1, 0) := by rw [mustB, if_neg k68, if_pos k9, if_pos hv]
        have hb : pureRun Tryz.prog (Instr.build 40 #[(2, .int .i64 1)]) = some (.agg (rsC (0, noH, 1, 0)).toArray) := bd_40_2
        simp -implicitDefEqProofs only [L83_1, zS, q9, fa_36_4, ld_34, h8, op_4, ev, hb]
        rw [st_res h10 hs, ld_res (ar (av h10) _ _), ab, e]
        exact ⟨rfl, hc.put (.inr n10) _ _⟩
      · have e : mustB m o h = noR := by rw [mustB, if_neg k68, if_pos k9, if_neg hv]; rfl
        simp -implicitDefEqProofs only [L83_1, zS, q9, fa_36_4, ld_34, h8, op_4, eqf hv]
        rw [e]
        exact l_rTouch2 (L := fun _ => True) hc h10 hs n10
    · have e : mustB m o h = noR := by rw [mustB, if_neg k68, if_neg k9, if_neg (by omega)]
      simp -implicitDefEqProofs only [L83_1, zS, eqf k9]
      rw [e]
      exact l_rTouch2 (L := fun _ => True) hc h10 hs n10
  by_cases k6 : o.1 = 6
  · have q : (o.1 == 6) = true := by rw [k6]; rfl
    have f := one true (by rw [k6]; rfl)
    simp -implicitDefEqProofs only [L83_0, zS, aj, ac, h8, az, q]
    exact f
  · have f := one (o.1 == 8) (by
      by_cases k8 : o.1 = 8
      · rw [k8]; rfl
      · rw [eqf k8]; exact (decide_eq_false (by omega)).symm)
    simp -implicitDefEqProofs only [L83_0, zS, aj, ac, h8, az, eqf k6]
    exact f
def touchV (m : MdV) (d : HdV) (o : OpV) (h : HnV) : RsV := if holdsV d h = false then codeR 4 else if h.2.2.2.2 ≤ o.2.2.2.1 then codeR 5 else mustB m o h
set_option maxHeartbeats 4000000 in
theorem c_rTouch (I : RfI w g (toRf m) F) (Wm : Wf m K) (hK : K ≤ 1000000) {n : Int} (n0 : 0 ≤ n) (hd : m.hands[n.toNat]? = some d) (hk : knownV m h 2 = true) (o0 : 0 ≤ o.2.2.2.1) (o6 : 6 ≤ o.1) (o9 : o.1 ≤ 9) {i : Nat} (hf : findR m.rgs (nmOf h) = some i) :
    CallR Tryz.prog 83 [.pointer (some ⟨g, 0, none⟩), .int .i64 n, .int .i64 i, .agg (opC o).toArray, .agg (hnC h).toArray] w fun v w' => v = .agg (rsC (touchV m d o h)).toArray ∧ Chg [] w w' := by
  apply F83_ok
  simp -implicitDefEqProofs only [F83, ak, au, al_40, ae]
  generalize hw : ((w.alloc (.cells (opC o).toArray 36)).alloc _).alloc _ = w1
  have c1 : Chg [] w w1 := by rw [← hw]; exact (((Chg.refl _ _).alloc _).alloc _).alloc _
  have b8 : hp w1 w.heap.size = some (.cells (opC o).toArray 36) := by rw [← hw, aa, ae, ae, if_neg (by omega), aa, ae, if_neg (by omega), aa, if_pos rfl]
  have b9 : hp w1 (w.heap.size + 1) = some (.cells (hnC h).toArray 38) := by rw [← hw, aa, ae, ae, if_neg (by omega), aa, ae, if_pos rfl]
  have b10 : hp w1 (w.heap.size + 1 + 1) = some (.cells (rsC noR).toArray 40) := by rw [← hw, aa, ae, ae, if_pos rfl]; rfl
  clear hw
  obtain ⟨s, gn, r, dd, hh, R⟩ := (I.keep c1).rd
  have e0 : (hnC h).toArray[0 + 0]? = some (.int .i64 h.1) := rfl
  have e1 : (hnC h).toArray[0 + 1]? = some (.int .i64 h.2.1) := rfl
  have e2 : (hnC h).toArray[0 + 2]? = some (.int .i64 h.2.2.1) := rfl
  have e3 : (hnC h).toArray[0 + 3]? = some (.int .i64 h.2.2.2.1) := rfl
  have e4 : (hnC h).toArray[0 + 4]? = some (.int .i64 h.2.2.2.2) := rfl
  have hD := Wm.hd d (List.mem_of_getElem? hd)
  simp -implicitDefEqProofs only [zS, bj, fa_38_1, ac, b9, e0, e1]
  refine (c_rHas R n0 (hands_rf hd).1 (by omega) (nmOf h)).step ?_
  have ht : decide (nmOf h ∈ d.holds) = holdsV d h := rfl
  rw [ht]
  cases hh2 : holdsV d h with
  | false =>
    have tv : touchV m d o h = codeR 4 := by rw [touchV, if_pos hh2]
    simp -implicitDefEqProofs only [zS, bdr_0]
    rw [st_res b10 rfl, ld_res (ar (av b10) _ _), ab, tv]
    exact ⟨rfl, c1.put (.inr (by omega)) _ _⟩
  | true =>
    by_cases n1 : h.2.2.2.2 ≤ o.2.2.2.1
    · have tv : touchV m d o h = codeR 5 := by rw [touchV, if_neg (by rw [hh2]; simp), if_pos n1]
      simp -implicitDefEqProofs only [zS, aY, fa_38_4, ac, b8, b9, op_3, e4, aD, ge_iff_le, n1, bdr_0]
      rw [st_res b10 rfl, ld_res (ar (av b10) _ _), ab, tv]
      exact ⟨rfl, c1.put (.inr (by omega)) _ _⟩
    have tv : touchV m d o h = mustB m o h := by rw [touchV, if_neg (by rw [hh2]; simp), if_neg n1]
    rw [tv]
    obtain ⟨i', rg, k, L, j, O⟩ := obj_at Wm hk o0 (by omega)
    have hii : i' = i := by have := O.fi; rw [hf] at this; exact (Option.some.inj this).symm
    subst hii
    have cd : Chg [] w1 w1.drew := (Chg.refl _ _).drew
    have W1 := Wm.w1
    have W2 := Wm.w2
    have all : ∀ w2, Chg [] w1 w2 → ∃ b c bw cw g2 c2, ldC (hp w2 g) (0 + 9) = some (.slice (some ⟨b, 0, none⟩) (toRf m).rgs.length c) ∧ ldC (hp w2 b) (i' * 8 + 6) = some (.slice (some ⟨bw, 0, none⟩) rg.words.length cw) ∧ ldC (hp w2 bw) k = some (.slice (some ⟨g2, 0, none⟩) L.length c2) ∧ ldC (hp w2 g2) j = some (.int .u64 (wordV m h o.2.2.2.1)) := fun w2 c2 => by
      obtain ⟨b, c, bw, cw, g2, c2', p1, p2, p3, p4, _⟩ := (I.keep (c1.trans c2)).word O.rf O.wk O.val
      exact ⟨b, c, bw, cw, g2, c2', p1, p2, p3, p4⟩
    obtain ⟨b, c, bw, cw, g2, c2, p1, p2, p3, p4⟩ := all w1 (Chg.refl _ _)
    obtain ⟨Fr, hFr⟩ := (R.keep cd).rT
    obtain ⟨b', c', hx, cv, wv, ov, Q⟩ := rr_at hFr O.rf
    have hrl := R.rl
    rw [p1, hx] at hrl
    cases hrl
    obtain ⟨A, cc, rfl, hRc⟩ := ints_sh Q.cT
    have hil : i' < (toRf m).rgs.length := (List.getElem?_eq_some_iff.1 O.rf).1
    have ia := ia_109 (b := b) (p := 0) (n := (toRf m).rgs.length) (c := c) (j := .i64) (i := (i' : Int)) (by omega) (by omega)
    rw [Int.toNat_natCast, Nat.zero_add] at ia
    have hlw := (List.getElem?_eq_some_iff.1 O.wk).1
    have iaw := ia_84 (b := bw) (p := 0) (n := rg.words.length) (c := cw) (j := .i64) (i := (k : Int)) (by omega) (by omega)
    rw [Int.toNat_natCast, Nat.zero_add, Nat.mul_one] at iaw
    have hjl := O.jl
    have hwl := O.wl
    have iau := ia_102 (b := g2) (p := 0) (n := L.length) (c := c2) (j := .i64) (i := (j : Int)) (by omega) (by omega)
    rw [Int.toNat_natCast, Nat.zero_add, Nat.mul_one] at iau
    have hcl : rg.chunks.length ≤ 1000000 := Nat.le_trans (Wm.rg rg (List.mem_of_getElem? O.ri)).cl hK
    have cat := c_rAt (w := w1.drew) (p := (rg, isLv m rg.nm)) (c := cc) (wv := wv) (ov := ov) hRc hcl h.2.2.1
    rw [show ixOf (rg, isLv m rg.nm).1.chunks h.2.2.1 = (k : Int) from O.ix] at cat
    have sz := c1.size
    simp -implicitDefEqProofs only [zS, aY, fa_38_2, fa_38_3, fa_38_4, aA, fa_126_6, aE, ld_84, ac, b8, b9, op_3, e2, e3, e4, aD, ge_iff_le, n1, p1, p2, ia, ld_rg Q, am, O.jn, aq (n := (j : Int)) (by omega) (by omega)]
    repeat' (with_reducible apply And.intro)
    all_goals
      refine cat.mono ?_
      rintro _ w3 ⟨rfl, c3⟩
      have c13 := cd.trans c3
      have t1 := aQ c13 p1
      have t2 := aQ c13 p2
      have t3 := aQ c13 p3
      have t4 := aQ c13 p4
      have t8 := c13.at b8 (by simp)
      have t9 := c13.at b9 (by simp)
      have t10 := c13.at b10 (by simp)
      simp -implicitDefEqProofs only [zS, fa_126_6, aE, ld_84, ld_102, ld_34, ac, t1, t2, t3, t4, t8, t9, op_3, e3, ia, iaw, am, O.jn, aq (n := (j : Int)) (by omega) (by omega), iau]
      exact l_rTouch0 (c1.trans c13) t10 rfl (by omega) t8 o6 o9
end
end Go.Proofs.YteapggpkgfiacaaGreat

namespace Go.Proofs.YteapggpkgfiacaaGreat
open Go Ev Go.RowKit

section
variable {W w : World} {g g6 g7 g8 g10 : Nat} {m : MdV} {F : Fp} {K : Nat} {o : OpV} {h : HnV} {d : HdV} {n : Int}
theorem l_rMust1 (x : Int) (hc : Chg [] W w) {c8 : Array Value} (h8 : hp w g8 = some (.cells c8 40)) (hs : c8.size = 8) (n8 : W.heap.size ≤ g8) :
    P59_1 (.pointer (some ⟨g8, 0, none⟩)) (.int .i64 x) w fun v w' => v = .tuple #[.agg (rsC (codeR x)).toArray, .bool true] ∧ Chg [] W w' := by
  apply L59_1_ok
  simp -implicitDefEqProofs only [L59_1, bdr_0, ab]
  rw [st_res h8 hs, ld_res (ar (av h8) _ _), ab]
  exact ⟨rfl, hc.put (.inr n8) _ _⟩
theorem refuses_eq (hk : ofK o.1 = 0 ∨ knownV m h (ofK o.1) = true) : refusesV m d o h = codeV m.c.2.2.1 d (holdsV d h) (staleV m h) o h.2.2.2.2 := by
  rw [refusesV, if_neg]
  rintro ⟨h1, h2⟩
  rcases hk with hk | hk
  · exact h1 hk
  · rw [hk] at h2; cases h2
theorem must_eq (hm : mayV m n o = true) (hd : m.hands[n.toNat]? = some d) : mustV m n o h = if refusesV m d o h ≠ 0 then (codeR (refusesV m d o h), true) else if o.1 = 1 ∨ o.1 = 2 then (noR, false) else (mustB m o h, true) := by
  rw [mustV, if_neg (by rw [hm]; simp), hd]
theorem rf_flag (I : RfI w g (toRf m) F) {i : Nat} {r : RgV} (hi : m.rgs[i]? = some r) : ∃ b c, ldC (hp w g) (0 + 9) = some (.slice (some ⟨b, 0, none⟩) (toRf m).rgs.length c) ∧ (∃ cv wv ov, RrR w b (i * 8) (r, isLv m r.nm) cv wv ov) ∧ i < (toRf m).rgs.length := by
  obtain ⟨s, gn, rv, dd, hh, R⟩ := I.rd
  obtain ⟨Fr, hFr⟩ := R.rT
  have hx : (toRf m).rgs[i]? = some (r, isLv m r.nm) := by rw [rgs_rf, hi]; rfl
  obtain ⟨b, c, rfl, Q⟩ := rr_at hFr hx
  exact ⟨b, c, R.rl, Q, (List.getElem?_eq_some_iff.1 hx).1⟩
theorem out_res (r : RsV) (b : Bool) {w2 : World} {P : RsV × Bool} {c8 : Array Value} (hc : Chg [] W w2) (h82 : hp w2 g8 = some (.cells c8 40)) (hs : c8.size = 8) (n8 : W.heap.size ≤ g8) (e : P = (r, b)) :
    effu Tryz.prog (Instr.storeAt 40 (.pointer (some ⟨g8, 0, none⟩)) (.agg (rsC r).toArray)) w2 fun w => wpB (ldv Tryz.prog 40 (.pointer (some ⟨g8, 0, none⟩)) w) fun r8 => Value.tuple #[r8, .bool b] = .tuple #[.agg (rsC P.1).toArray, .bool P.2] ∧ Chg [] W w := by
  rw [st_res h82 hs, ld_res (ar (av h82) _ _), ab, e]
  exact ⟨rfl, hc.put (.inr n8) _ _⟩
set_option maxHeartbeats 4000000 in
theorem l_rMust0 {nn : Nat} (hc : Chg [] W w) (I : RfI w g (toRf m) F) (Wm : Wf m K) (hK : K ≤ 1000000) (h6 : hp w g6 = some (.cells (opC o).toArray 36)) (h7 : hp w g7 = some (.cells (hnC h).toArray 38)) {c8 : Array Value} (h8 : hp w g8 = some (.cells c8 40)) (hs : c8.size = 8) (n8 : W.heap.size ≤ g8)
    (hm : mayV m nn o = true) (hd : m.hands[nn]? = some d) (hk : ofK o.1 = 0 ∨ knownV m h (ofK o.1) = true) {ix : Int} (hix : ofK o.1 ≠ 0 → ∃ i, findR m.rgs (nmOf h) = some i ∧ ix = i) :
    P59_0 (.pointer (some ⟨g, 0, none⟩)) (.int .i64 nn) (.pointer (some ⟨g6, 0, none⟩)) (.pointer (some ⟨g7, 0, none⟩)) (.pointer (some ⟨g8, 0, none⟩)) (.int .i64 ix) w fun v w' => v = .tuple #[.agg (rsC (mustV m nn o h).1).toArray, .bool (mustV m nn o h).2] ∧ Chg [] W w' := by
  apply L59_0_ok
  obtain ⟨n0, n1, o0⟩ := may_n hm
  obtain ⟨k1', k12'⟩ := may_k hm
  obtain ⟨s, gn, rv, dd, hh, R⟩ := I.rd
  have cd : Chg [] w w.drew := (Chg.refl _ _).drew
  have hd' : m.hands[(nn : Int).toNat]? = some d := hd
  have me := must_eq (h := h) hm hd'
  rw [refuses_eq hk] at me
  have hD := Wm.hd d (List.mem_of_getElem? hd)
  have h6d : hp w.drew g6 = some (.cells (opC o).toArray 36) := h6
  have h8d : hp w.drew g8 = some (.cells c8 40) := h8
  have hw2 : ldC (hp w g) (0 + 0 + 2) = some (.int .i64 m.c.2.2.1) := R.c 2 (by omega)
  obtain ⟨Ad, cd', hdv, hRd⟩ := ints_sh R.dT
  have hdl := R.dl
  rw [hdv] at hdl
  have hdd := (hands_rf hd').2
  rw [Int.toNat_natCast] at hdd
  obtain ⟨qd, qd1, qd2⟩ := int_at (c := cd') hRd hdd
  have cb : ∀ x, x ≠ 0 → codeV m.c.2.2.1 d (holdsV d h) (staleV m h) o h.2.2.2.2 = x → mustV m nn o h = (codeR x, true) := fun x hx e => by rw [me, e, if_pos hx]
  have op : codeV m.c.2.2.1 d (holdsV d h) (staleV m h) o h.2.2.2.2 = 0 → o.1 = 1 ∨ o.1 = 2 → mustV m nn o h = (noR, false) := fun e hx => by rw [me, e, if_neg (by simp), if_pos hx]
  have nb : ∀ r, mustB m o h = r → codeV m.c.2.2.1 d (holdsV d h) (staleV m h) o h.2.2.2.2 = 0 → ¬ (o.1 = 1 ∨ o.1 = 2) → mustV m nn o h = (r, true) := fun r e1 e2 hx => by
    rw [me, e2, if_neg (by simp), if_neg hx, e1]
  have fin : ∀ (x : Int), mustV m nn o h = (codeR x, true) → P59_1 (.pointer (some ⟨g8, 0, none⟩)) (.int .i64 x) w fun v w' => v = .tuple #[.agg (rsC (mustV m nn o h).1).toArray, .bool (mustV m nn o h).2] ∧ Chg [] W w' := fun x e => by
    rw [e]; exact l_rMust1 x hc h8 hs n8
  by_cases k1 : o.1 = 1
  · have q : (o.1 == 1) = true := by rw [k1]; rfl
    have e := op (by rw [codeV, if_neg (by omega), if_neg (by omega), if_neg (by omega), if_neg (by omega), if_neg (by omega), if_neg (by omega)]) (.inl k1)
    simp -implicitDefEqProofs only [L59_0, zS, aj, ac, h6, az, q, bdr_]
    exact out_res noR false hc h8 hs n8 e
  have flag : ofK o.1 ≠ 0 → ∃ i r b c, findR m.rgs (nmOf h) = some i ∧ ix = (i : Int) ∧ ldC (hp w g) (0 + 9) = some (.slice (some ⟨b, 0, none⟩) (toRf m).rgs.length c) ∧ pureRun Tryz.prog (Instr.indexAt 109 (.slice (some ⟨b, 0, none⟩) (toRf m).rgs.length c) (.int .i64 ix)) = some (.pointer (some ⟨b, i * 8, none⟩)) ∧
      m.rgs[i]? = some r ∧ ldC (hp w b) (i * 8 + 4) = some (.bool (isLv m (nmOf h))) ∧ ldC (hp w b) (i * 8 + 3) = some (.int .i64 r.off) := fun hof => by
    obtain ⟨i, hfi, rfl⟩ := hix hof
    obtain ⟨r, hri, hrn⟩ := findR_at hfi
    obtain ⟨b, c, hb, ⟨cv, wv, ov, Q⟩, hil⟩ := rf_flag I hri
    have ia := ia_109 (b := b) (p := 0) (n := (toRf m).rgs.length) (c := c) (j := .i64) (i := (i : Int)) (by omega) (by omega)
    rw [Int.toNat_natCast, Nat.zero_add] at ia
    exact ⟨i, r, b, c, hfi, rfl, hb, ia, hri, by rw [← hrn]; exact Q.c4, Q.c3⟩
  have stT : isLv m (nmOf h) = true → staleV m h = 0 := fun hl => by unfold staleV; exact if_pos hl
  have stF : isLv m (nmOf h) = false → staleV m h = 3 := fun hl => by rw [staleV, if_neg (by show ¬ isLv m (nmOf h) = true; rw [hl]; simp)]
  by_cases k2 : o.1 = 2
  · have q : (o.1 == 2) = true := by rw [k2]; rfl
    obtain ⟨i, r, b, c, hfi, rfl, hb, ia, hri, hfl, _⟩ := flag (by rw [show ofK o.1 = 1 by rw [k2]; rfl]; decide)
    have cvv : codeV m.c.2.2.1 d (holdsV d h) (staleV m h) o h.2.2.2.2 = if o.2.2.2.1 < 1 ∨ m.c.2.2.1 < o.2.2.2.1 then 5 else staleV m h := by rw [codeV, if_pos k2]
    by_cases a1 : o.2.2.2.1 < 1
    · have e := cb 5 (by decide) (by rw [cvv, if_pos (.inl a1)])
      simp -implicitDefEqProofs only [L59_0, zS, aj, aY, ac, h6, az, op_3, eqf k1, q, a1, bdr_0]
      exact out_res (codeR 5) true hc.drew h8d hs n8 e
    by_cases a2 : m.c.2.2.1 < o.2.2.2.1
    · have e := cb 5 (by decide) (by rw [cvv, if_pos (.inr a2)])
      simp -implicitDefEqProofs only [L59_0, zS, aj, aY, ac, h6, az, op_3, eqf k1, q, a1, fa_112_0, fa_23_2, hw2, gt_iff_lt, a2, bdr_0]
      exact out_res (codeR 5) true hc.drew h8d hs n8 e
    have cv2 : codeV m.c.2.2.1 d (holdsV d h) (staleV m h) o h.2.2.2.2 = staleV m h := by rw [cvv, if_neg (by omega)]
    cases hl : isLv m (nmOf h) with
    | true =>
      have e := op (by rw [cv2, stT hl]) (.inr k2)
      rw [hl] at hfl
      simp -implicitDefEqProofs only [L59_0, zS, aj, aY, ac, h6, az, op_3, eqf k1, q, a1, fa_112_0, aA, fa_23_2, hw2, gt_iff_lt, a2, aE, hb, ia, fa_126_4, ld_4, hfl, bdr_]
      exact out_res noR false hc.drew h8d hs n8 e
    | false =>
      have e := cb 3 (by decide) (by rw [cv2, stF hl])
      rw [hl] at hfl
      simp -implicitDefEqProofs only [L59_0, zS, aj, aY, ac, h6, az, op_3, eqf k1, q, a1, fa_112_0, aA, fa_23_2, hw2, gt_iff_lt, a2, aE, hb, ia, fa_126_4, ld_4, hfl, bdr_0]
      exact out_res (codeR 3) true hc.drew h8d hs n8 e
  have k12 : ¬ (o.1 = 1 ∨ o.1 = 2) := by omega
  have cno : (noR : RsV) = codeR 0 := rfl
  by_cases k3 : o.1 = 3
  · have q : (o.1 == 3) = true := by rw [k3]; rfl
    have mb : mustB m o h = codeR 0 := by rw [mustB, if_neg (by omega), if_neg (by omega), if_neg (by omega)]; rfl
    have cvv : codeV m.c.2.2.1 d (holdsV d h) (staleV m h) o h.2.2.2.2 = if d.depth = 15 then 8 else 0 := by rw [codeV, if_neg k2, if_pos k3]
    by_cases a1 : d.depth = 15
    · have e : (d.depth == 15) = true := by rw [a1]; rfl
      have f := fin 8 (cb 8 (by decide) (by rw [cvv, if_pos a1]))
      simp -implicitDefEqProofs only [L59_0, zS, aj, ac, h6, az, eqf k1, eqf k2, q, fa_112_5, ld_26, hdl, qd1, qd2, e]
      exact f
    · have f := fin 0 (nb _ mb (by rw [cvv, if_neg a1]) k12)
      simp -implicitDefEqProofs only [L59_0, zS, aj, ac, h6, az, eqf k1, eqf k2, q, fa_112_5, ld_26, hdl, qd1, qd2, eqf a1]
      exact f
  by_cases k4 : o.1 = 4
  · have q : (o.1 == 4) = true := by rw [k4]; rfl
    have mb : mustB m o h = codeR 0 := by rw [mustB, if_neg (by omega), if_neg (by omega), if_neg (by omega)]; rfl
    have cvv : codeV m.c.2.2.1 d (holdsV d h) (staleV m h) o h.2.2.2.2 = if d.depth = 0 then 4 else 0 := by rw [codeV, if_neg k2, if_neg k3, if_pos k4]
    by_cases a1 : d.depth = 0
    · have e : (d.depth == 0) = true := by rw [a1]; rfl
      have f := fin 4 (cb 4 (by decide) (by rw [cvv, if_pos a1]))
      simp -implicitDefEqProofs only [L59_0, zS, aj, ac, h6, az, eqf k1, eqf k2, eqf k3, q, fa_112_5, ld_26, hdl, qd1, qd2, e]
      exact f
    · have f := fin 0 (nb _ mb (by rw [cvv, if_neg a1]) k12)
      simp -implicitDefEqProofs only [L59_0, zS, aj, ac, h6, az, eqf k1, eqf k2, eqf k3, q, fa_112_5, ld_26, hdl, qd1, qd2, eqf a1]
      exact f
  by_cases k5 : o.1 = 5
  · have q : (o.1 == 5) = true := by rw [k5]; rfl
    have mb : mustB m o h = codeR 0 := by rw [mustB, if_neg (by omega), if_neg (by omega), if_neg (by omega)]; rfl
    have cvv : codeV m.c.2.2.1 d (holdsV d h) (staleV m h) o h.2.2.2.2 = if d.depth = 0 then 4 else if holdsV d h then 0 else if d.holds.length = 8 then 8 else staleV m h := by rw [codeV, if_neg k2, if_neg k3, if_neg k4, if_pos k5]
    obtain ⟨i, r, b, c, hfi, rfl, hb, ia, hri, hfl, _⟩ := flag (by rw [show ofK o.1 = 3 by rw [k5]; rfl]; decide)
    have e0 : (hnC h).toArray[0 + 0]? = some (.int .i64 h.1) := rfl
    have e1 : (hnC h).toArray[0 + 1]? = some (.int .i64 h.2.1) := rfl
    by_cases a1 : d.depth = 0
    · have e : (d.depth == 0) = true := by rw [a1]; rfl
      have f := fin 4 (cb 4 (by decide) (by rw [cvv, if_pos a1]))
      simp -implicitDefEqProofs only [L59_0, zS, aj, ac, h6, az, eqf k1, eqf k2, eqf k3, eqf k4, q, fa_112_5, ld_26, hdl, qd1, qd2, e]
      exact f
    rw [if_neg a1] at cvv
    simp -implicitDefEqProofs only [L59_0, zS, aj, ac, h6, az, eqf k1, eqf k2, eqf k3, eqf k4, q, fa_112_5, ld_26, hdl, qd1, qd2, eqf a1, bj, fa_38_1, h7, e0, e1]
    refine (c_rHas R n0 (hands_rf hd').1 (by omega) (nmOf h)).step ?_
    rw [show decide (nmOf h ∈ d.holds) = holdsV d h from rfl]
    cases hv : holdsV d h with
    | true =>
      have f := fin 0 (nb _ mb (by rw [cvv, hv]; rfl) k12)
      simp -implicitDefEqProofs only [zS]
      exact f
    | false =>
      rw [if_neg (by rw [hv]; simp)] at cvv
      obtain ⟨Fh, hFh⟩ := R.hT
      obtain ⟨bh, ch, vh, rfl, hvh, hkh⟩ := hold_at hFh (hands_rf hd').1
      obtain ⟨Ah, cch, rfl, _⟩ := keys_sh hkh
      have hnl := (List.getElem?_eq_some_iff.1 (hands_rf hd').1).1
      have iah := ia_110 (b := bh) (p := 0) (n := (toRf m).holds.length) (c := ch) (j := .i64) (i := (nn : Int)) (by omega) (by omega)
      rw [Nat.zero_add, Nat.mul_one] at iah
      by_cases a8 : d.holds.length = 8
      · have e : ((d.holds.length : Int) == 8) = true := by rw [a8]; rfl
        have f := fin 8 (cb 8 (by decide) (by rw [cvv, if_pos a8]))
        simp -implicitDefEqProofs only [zS, fa_112_6, ld_110, R.hl, iah, ld_127, hvh, len_127, e]
        exact f
      · have e : ((d.holds.length : Int) == 8) = false := beq_eq_false_iff_ne.2 (by omega)
        rw [if_neg a8] at cvv
        cases hl : isLv m (nmOf h) with
        | true =>
          have f := fin 0 (nb _ mb (by rw [cvv, stT hl]) k12)
          rw [hl] at hfl
          simp -implicitDefEqProofs only [zS, fa_112_6, aA, ld_110, R.hl, iah, ld_127, hvh, len_127, e, aE, hb, ia, fa_126_4, ld_4, hfl]
          exact f
        | false =>
          have f := fin 3 (cb 3 (by decide) (by rw [cvv, stF hl]))
          rw [hl] at hfl
          simp -implicitDefEqProofs only [zS, fa_112_6, aA, ld_110, R.hl, iah, ld_127, hvh, len_127, e, aE, hb, ia, fa_126_4, ld_4, hfl]
          exact f
  by_cases k10 : o.1 = 10
  · have q : (o.1 == 10) = true := by rw [k10]; rfl
    have mb : mustB m o h = codeR 0 := by rw [mustB, if_neg (by omega), if_neg (by omega), if_neg (by omega)]; rfl
    have cvv : codeV m.c.2.2.1 d (holdsV d h) (staleV m h) o h.2.2.2.2 = staleV m h := by rw [codeV, if_neg k2, if_neg k3, if_neg k4, if_neg k5, if_neg (by omega), if_pos (.inl k10)]
    obtain ⟨i, r, b, c, hfi, rfl, hb, ia, hri, hfl, _⟩ := flag (by rw [show ofK o.1 = 1 by rw [k10]; rfl]; decide)
    cases hl : isLv m (nmOf h) with
    | true =>
      have f := fin 0 (nb _ mb (by rw [cvv, stT hl]) k12)
      rw [hl] at hfl
      simp -implicitDefEqProofs only [L59_0, zS, aj, ac, h6, az, eqf k1, eqf k2, eqf k3, eqf k4, eqf k5, q, aA, aE, hb, ia, fa_126_4, ld_4, hfl]
      exact f
    | false =>
      have f := fin 3 (cb 3 (by decide) (by rw [cvv, stF hl]))
      rw [hl] at hfl
      simp -implicitDefEqProofs only [L59_0, zS, aj, ac, h6, az, eqf k1, eqf k2, eqf k3, eqf k4, eqf k5, q, aA, aE, hb, ia, fa_126_4, ld_4, hfl]
      exact f
  by_cases k12 : o.1 = 12
  · have q : (o.1 == 12) = true := by rw [k12]; rfl
    have cvv : codeV m.c.2.2.1 d (holdsV d h) (staleV m h) o h.2.2.2.2 = staleV m h := by rw [codeV, if_neg k2, if_neg k3, if_neg k4, if_neg k5, if_neg (by omega), if_pos (.inr k12)]
    obtain ⟨i, r, b, c, hfi, rfl, hb, ia, hri, hfl, hof⟩ := flag (by rw [show ofK o.1 = 1 by rw [k12]; rfl]; decide)
    have mb : mustB m o h = (0, noH, r.off, 0) := by
      rw [mustB, if_neg (by omega), if_neg (by omega), if_pos k12, rgOf, hfi]
      simp only [Option.bind_some, hri]
    have hb2 : pureRun Tryz.prog (Instr.build 40 #[(2, .int .i64 r.off)]) = some (.agg (rsC (0, noH, r.off, 0)).toArray) := bd_40_2
    cases hl : isLv m (nmOf h) with
    | true =>
      have e := nb _ mb (by rw [cvv, stT hl]) (by omega)
      rw [hl] at hfl
      simp -implicitDefEqProofs only [L59_0, zS, aj, ac, h6, az, eqf k1, eqf k2, eqf k3, eqf k4, eqf k5, eqf k10, q, aA, aE, hb, ia, fa_126_4, fa_126_3, ld_4, hfl, hof, hb2]
      exact out_res (0, noH, r.off, 0) true hc h8 hs n8 e
    | false =>
      have e := cb 3 (by decide) (by rw [cvv, stF hl])
      rw [hl] at hfl
      simp -implicitDefEqProofs only [L59_0, zS, aj, ac, h6, az, eqf k1, eqf k2, eqf k3, eqf k4, eqf k5, eqf k10, q, aA, aE, hb, ia, fa_126_4, ld_4, hfl, bdr_0]
      exact out_res (codeR 3) true hc h8 hs n8 e
  by_cases k11 : o.1 = 11
  · have q : (o.1 == 11) = true := by rw [k11]; rfl
    have mb : mustB m o h = codeR 0 := by rw [mustB, if_neg (by omega), if_neg (by omega), if_neg (by omega)]; rfl
    have f := fin 0 (nb _ mb (by rw [codeV, if_neg k2, if_neg k3, if_neg k4, if_neg k5, if_neg (by omega), if_neg (by omega)]) (by omega))
    simp -implicitDefEqProofs only [L59_0, zS, aj, ac, h6, az, eqf k1, eqf k2, eqf k3, eqf k4, eqf k5, eqf k10, eqf k12, q]
    exact f
  · have k6 : 6 ≤ o.1 := by omega
    have k9 : o.1 ≤ 9 := by omega
    have eo : ofK o.1 = 2 := by rw [ofK, if_neg (by omega), if_pos ⟨k6, k9⟩]
    obtain ⟨i, r, b, c, hfi, rfl, hb, ia, hri, hfl, hof⟩ := flag (by rw [eo]; decide)
    have hkn : knownV m h 2 = true := by
      rcases hk with hk | hk
      · rw [eo] at hk; omega
      · rw [eo] at hk; exact hk
    have cvv : codeV m.c.2.2.1 d (holdsV d h) (staleV m h) o h.2.2.2.2 = if holdsV d h = false then 4 else if h.2.2.2.2 ≤ o.2.2.2.1 then 5 else 0 := by rw [codeV, if_neg k2, if_neg k3, if_neg k4, if_neg k5, if_pos ⟨k6, k9⟩]
    have e : mustV m nn o h = (touchV m d o h, true) := by
      unfold touchV
      by_cases b1 : holdsV d h = false
      · rw [if_pos b1]; exact cb 4 (by decide) (by rw [cvv, if_pos b1])
      · rw [if_neg b1]
        by_cases b2 : h.2.2.2.2 ≤ o.2.2.2.1
        · rw [if_pos b2]; exact cb 5 (by decide) (by rw [cvv, if_neg b1, if_pos b2])
        · rw [if_neg b2]; exact nb _ rfl (by rw [cvv, if_neg b1, if_neg b2]) (by omega)
    have ldo := aJ (t := 36) (c := (opC o).toArray) ag_36 (show (Tryz.prog.info? 36).map (·.size) = some (opC o).toArray.size from sz_36) h6
    simp -implicitDefEqProofs only [L59_0, zS, aj, ac, h6, az, eqf k1, eqf k2, eqf k3, eqf k4, eqf k5, eqf k10, eqf k12, eqf k11, ldo, ld_hn h7]
    refine (c_rTouch I Wm hK n0 hd' hkn o0 k6 k9 hfi).mono ?_
    rintro _ w2 ⟨rfl, c2⟩
    exact out_res (touchV m d o h) true (hc.trans c2) (c2.at h8 (by simp)) hs n8 e
set_option maxHeartbeats 1000000 in
theorem c_rMust (I : RfI w g (toRf m) F) (Wm : Wf m K) (hK : K ≤ 1000000) {nn : Nat} (hm : mayV m nn o = true) (h : HnV) :
    CallR Tryz.prog 59 [.pointer (some ⟨g, 0, none⟩), .int .i64 nn, .agg (opC o).toArray, .agg (hnC h).toArray] w fun v w' => v = .tuple #[.agg (rsC (mustV m nn o h).1).toArray, .bool (mustV m nn o h).2] ∧ Chg [] w w' := by
  apply F59_ok
  obtain ⟨d, hd⟩ := may_hd hm
  simp -implicitDefEqProofs only [F59, ak, au, al_40, ae]
  generalize hw : ((w.alloc (.cells (opC o).toArray 36)).alloc _).alloc _ = w1
  have c1 : Chg [] w w1 := by rw [← hw]; exact (((Chg.refl _ _).alloc _).alloc _).alloc _
  have b6 : hp w1 w.heap.size = some (.cells (opC o).toArray 36) := by rw [← hw, aa, ae, ae, if_neg (by omega), aa, ae, if_neg (by omega), aa, if_pos rfl]
  have b7 : hp w1 (w.heap.size + 1) = some (.cells (hnC h).toArray 38) := by rw [← hw, aa, ae, ae, if_neg (by omega), aa, ae, if_pos rfl]
  have b8 : hp w1 (w.heap.size + 1 + 1) = some (.cells (rsC noR).toArray 40) := by rw [← hw, aa, ae, ae, if_pos rfl]; rfl
  clear hw
  have ldo := aJ (t := 36) (c := (opC o).toArray) ag_36 (show (Tryz.prog.info? 36).map (·.size) = some (opC o).toArray.size from sz_36) b6
  obtain ⟨s, gn, rv, dd, hh, R⟩ := (I.keep c1).rd
  have sm := Wm.small hK
  have hl : (toRf m).rgs.length ≤ 1000000 := by show (m.rgs.map _).length ≤ _; rw [List.length_map]; exact sm.r
  have ho : ∀ p ∈ (toRf m).rgs, p.1.objs.length ≤ 1000000 := fun p hp => by
    obtain ⟨r, hr, rfl⟩ := List.mem_map.1 hp; exact sm.o r hr
  simp -implicitDefEqProofs only [ldo, ld_hn b7, ab]
  refine (c_rGood R hl ho o h).mono ?_
  rintro _ w2 ⟨rfl, c2⟩
  rw [good_rfv Wm o.1 h]
  have c02 := c1.trans c2
  have d6 := c2.at b6 (by simp)
  have d7 := c2.at b7 (by simp)
  have d8 := c2.at b8 (by simp)
  have me := must_eq (h := h) hm hd
  have e0 : (hnC h).toArray[0 + 0]? = some (.int .i64 h.1) := rfl
  have e1 : (hnC h).toArray[0 + 1]? = some (.int .i64 h.2.1) := rfl
  by_cases k0 : ofK o.1 = 0
  · rw [if_pos k0]
    simp -implicitDefEqProofs only [zS, aj, ac, d6, az]
    refine (c_Of o.1 w2).step ?_
    have ez : (ofK o.1 != 0) = false := by rw [k0]; rfl
    simp -implicitDefEqProofs only [zS, ez]
    exact l_rMust0 c02 (I.keep c02) Wm hK d6 d7 d8 rfl (by omega) hm hd (.inl k0) (fun h => absurd k0 h)
  · rw [if_neg k0]
    cases hk : knownV m h (ofK o.1) with
    | false =>
      have hr : refusesV m d o h = 2 := by rw [refusesV, if_pos ⟨k0, hk⟩]
      have e : mustV m nn o h = (codeR 2, true) := by rw [me, hr, if_pos (by decide)]
      simp -implicitDefEqProofs only [zS, bdr_0]
      exact out_res (codeR 2) true c02 d8 rfl (by omega) e
    | true =>
      simp -implicitDefEqProofs only [zS, aj, ac, d6, az]
      refine (c_Of o.1 w2).step ?_
      have ez : (ofK o.1 != 0) = true := bne_iff_ne.2 k0
      obtain ⟨s2, gn2, rv2, dd2, hh2, R2⟩ := (I.keep c02).rd
      simp -implicitDefEqProofs only [zS, ez, bj, fa_38_1, ac, d7, e0, e1]
      refine (c_rFind R2 (nmOf h) hl).step ?_
      rw [findX_rf]
      obtain ⟨i, hi⟩ : ∃ i, findR m.rgs (nmOf h) = some i := by
        unfold knownV at hk
        split at hk
        · cases hk
        · rename_i i hi; exact ⟨i, hi⟩
      rw [hi]
      exact l_rMust0 c02 (I.keep c02) Wm hK d6 d7 d8 rfl (by omega) hm hd (.inr hk) (fun _ => ⟨i, hi, rfl⟩)
end
end Go.Proofs.YteapggpkgfiacaaGreat

namespace Go.Proofs.YteapggpkgfiacaaGreat
open Go Ev Go.RowKit

section
variable {W w : World} {g g6 g7 : Nat} {m : MdV} {x : RfV} {F : Fp} {K : Nat} {o : OpV} {h : HnV} {d : HdV} {nn : Nat}
theorem RfI.rgPut (I : RfI w g x F) {i : Nat} {p : RgV × Bool} (hi : x.rgs[i]? = some p) {k : Nat} (hk : k < 8) {P : Th} (hP : (rrT p)[k]? = some P) :
    ∃ b c v Fk, ldC (hp w g) (0 + 9) = some (.slice (some ⟨b, 0, none⟩) x.rgs.length c) ∧ b ≠ g ∧ F b ∧ (∀ y, Fk y → F y) ∧ ldC (hp w b) (i * 8 + k) = some v ∧ P w Fk v ∧
      ∀ w1 F' P' v' p', UpdP Fk F' w w1 → OwnT P' → P' w1 F' v' → rrT p' = (rrT p).set k P' → okC (hp w1 b) (i * 8 + k + 1) = true ∧ v'.cells = #[v'] ∧ v'.oneCell' = true ∧ hp w1 g = hp w g ∧
        ∃ F1, RfI (put w1 b ((getC (hp w1 b)).setIfInBounds (i * 8 + k) v') (getE (hp w1 b))) g { x with rgs := x.rgs.set i p' } F1 ∧ UpdP F F1 w (put w1 b ((getC (hp w1 b)).setIfInBounds (i * 8 + k) v') (getE (hp w1 b))) := by
  have hP0 : (x.rgs.flatMap rrT)[i * 8 + k]? = some P := (aN rrT_len x.rgs i p hi k hk).trans hP
  obtain ⟨b, c, v, Fk, hl, hbg, hFb, hsub, _, _, hld, hv, _, hput⟩ := isAt.row I (good_rf x) (k := 9) (e' := 126) (z := 8) (n := x.rgs.length) (Qs := x.rgs.flatMap rrT) rfl (good_rrL x.rgs) hP0
  refine ⟨b, c, v, Fk, hl, hbg, hFb, hsub, hld, hv, fun w1 F' P' v' p' u hg' hp' hr => ?_⟩
  obtain ⟨ok, o1, o2, hgg, F1, h1, h2⟩ := hput w1 F' P' v' u hg' hp'
  rw [flatM_setP rrT_len hk hr hi] at h1
  have e : rrsT (x.rgs.set i p') = isRow 126 8 x.rgs.length ((x.rgs.set i p').flatMap rrT) := by rw [rrsT, List.length_set]
  rw [← e] at h1
  exact ⟨ok, o1, o2, hgg, F1, h1, h2⟩
theorem RfI.holdPut (I : RfI w g x F) {l : List NmV} (hi : x.holds[nn]? = some l) :
    ∃ b c v Fk, ldC (hp w g) (0 + 11) = some (.slice (some ⟨b, 0, none⟩) x.holds.length c) ∧ b ≠ g ∧ F b ∧ (∀ y, Fk y → F y) ∧ ldC (hp w b) nn = some v ∧ keysT l w Fk v ∧
      ∀ w1 F' l' v', UpdP Fk F' w w1 → keysT l' w1 F' v' → okC (hp w1 b) (nn + 1) = true ∧ v'.cells = #[v'] ∧ v'.oneCell' = true ∧ hp w1 g = hp w g ∧
        ∃ F1, RfI (put w1 b ((getC (hp w1 b)).setIfInBounds nn v') (getE (hp w1 b))) g { x with holds := x.holds.set nn l' } F1 ∧ UpdP F F1 w (put w1 b ((getC (hp w1 b)).setIfInBounds nn v') (getE (hp w1 b))) := by
  have hP0 : (x.holds.map keysT)[nn]? = some (keysT l) := by rw [List.getElem?_map, hi]; rfl
  obtain ⟨b, c, v, Fk, hl, hbg, hFb, hsub, _, _, hld, hv, _, hput⟩ := isAt.row I (good_rf x) (k := 11) (e' := 127) (z := 1) (n := x.holds.length) (Qs := x.holds.map keysT) rfl (good_holdsL x.holds) hP0
  refine ⟨b, c, v, Fk, hl, hbg, hFb, hsub, hld, hv, fun w1 F' l' v' u hp' => ?_⟩
  obtain ⟨ok, o1, o2, hgg, F1, h1, h2⟩ := hput w1 F' (keysT l') v' u (good_keys l') hp'
  rw [← List.map_set] at h1
  have e : holdsT (x.holds.set nn l') = isRow 127 1 x.holds.length ((x.holds.set nn l').map keysT) := by rw [holdsT, List.length_set]
  rw [← e] at h1
  exact ⟨ok, o1, o2, hgg, F1, h1, h2⟩
theorem rf_setHd (m : MdV) (d' : HdV) : toRf (setHd m nn d') = { toRf m with depth := (toRf m).depth.set nn d'.depth, holds := (toRf m).holds.set nn d'.holds } := by
  simp only [toRf, setHd, Int.toNat_natCast, List.map_set]
  rfl
theorem rf_setRg (m : MdV) {i : Nat} {r r' : RgV} (hi : m.rgs[i]? = some r) (hn : r'.nm = r.nm) : toRf { m with rgs := m.rgs.set i r' } = { toRf m with rgs := (toRf m).rgs.set i (r', isLv m r.nm) } := by
  simp only [toRf, List.map_set, ← hn]
  rfl
theorem nd_unique {L : List RgV} (h : (L.map (·.nm)).Nodup) {i j : Nat} {r s : RgV} (hi : L[i]? = some r) (hj : L[j]? = some s) (e : r.nm = s.nm) : i = j := by
  have h1 : (L.map (·.nm))[i]? = some r.nm := by rw [List.getElem?_map, hi]; rfl
  have h2 : (L.map (·.nm))[j]? = some r.nm := by rw [List.getElem?_map, hj, e]; rfl
  obtain ⟨a1, a2⟩ := List.getElem?_eq_some_iff.1 h1
  obtain ⟨b1, b2⟩ := List.getElem?_eq_some_iff.1 h2
  have hp := List.pairwise_iff_getElem.1 h
  rcases Nat.lt_trichotomy i j with hlt | heq | hlt
  · exact absurd (a2.trans b2.symm) (hp i j a1 b1 hlt)
  · exact heq
  · exact absurd (b2.trans a2.symm) (hp j i b1 a1 hlt)
theorem rf_free (Wn' : Wn m K) {i : Nat} {r : RgV} {q : NmV} (hi : m.rgs[i]? = some r) (hq : m.slots[r.nm.1.toNat]? = some (1, q.2)) (hr : r.nm.2 = q.2) {v : Int} (hv : v ≠ 1) :
    toRf { m with slots := m.slots.set r.nm.1.toNat (v, q.2) } = { toRf m with state := (toRf m).state.set r.nm.1.toNat v, rgs := (toRf m).rgs.set i (r, false) } := by
  have lvE : ∀ (j : Nat) (x : RgV), m.rgs[j]? = some x → isLv { m with slots := m.slots.set r.nm.1.toNat (v, q.2) } x.nm = if j = i then false else isLv m x.nm := fun j x hx => by
    unfold isLv
    simp only [List.length_set]
    obtain ⟨a, b, c, dd⟩ := Wn'.gn x (List.mem_of_getElem? hx)
    rw [decide_eq_true (show 0 ≤ x.nm.1 ∧ x.nm.1 < m.slots.length from ⟨a, b⟩), Bool.true_and, Bool.true_and]
    by_cases hs : r.nm.1.toNat = x.nm.1.toNat
    · have a2 : (m.slots.set r.nm.1.toNat (v, q.2))[x.nm.1.toNat]? = some (v, q.2) := by rw [← hs, List.getElem?_set, if_pos rfl, if_pos (List.getElem?_eq_some_iff.1 hq).1]
      rw [decide_eq_false (by rw [a2]; intro e; exact hv (congrArg Prod.fst (Option.some.inj e)))]
      by_cases hj : j = i
      · rw [if_pos hj]
      · rw [if_neg hj]
        refine (decide_eq_false ?_).symm
        rw [← hs, hq]
        intro e
        have e2 : q.2 = x.nm.2 := (Prod.mk.inj (Option.some.inj e)).2
        obtain ⟨a', _⟩ := Wn'.gn r (List.mem_of_getElem? hi)
        exact hj (nd_unique Wn'.nd hx hi (Prod.ext (by omega) (by rw [← e2, hr])))
    · have hj : j ≠ i := fun e => by
        subst e
        rw [hi] at hx
        cases hx
        exact hs rfl
      rw [if_neg hj]
      have : (m.slots.set r.nm.1.toNat (v, q.2))[x.nm.1.toNat]? = m.slots[x.nm.1.toNat]? := by rw [List.getElem?_set, if_neg hs]
      rw [this]
  unfold toRf
  simp only [List.map_set]
  congr 1
  · exact set_same (by rw [List.getElem?_map, hq]; rfl)
  · apply List.ext_getElem?
    intro j
    rw [List.getElem?_map, List.getElem?_set, List.getElem?_map]
    by_cases hj : i = j
    · subst hj
      rw [if_pos rfl, hi]
      simp only [Option.map_some, lvE i r hi, if_true]
      rw [if_pos (by rw [List.length_map]; exact (List.getElem?_eq_some_iff.1 hi).1)]
    · rw [if_neg hj]
      cases hx : m.rgs[j]? with
      | none => rfl
      | some x => simp only [Option.map_some, lvE j x hx, if_neg (Ne.symm hj)]
set_option maxHeartbeats 4000000 in
theorem l_rDoes2 (hc : Chg [] W w) (I : RfI w g (toRf m) F) (Wm : Wf m K) (h6 : hp w g6 = some (.cells (opC o).toArray 36)) {i : Nat} {r : RgV} {k : Nat} {L : List Int} {j : Nat} (O : ObjAt m h o.2.2.2.1 i r k L j) (hd : m.hands[nn]? = some d) (k6 : o.1 = 7 ∨ o.1 = 8 ∨ o.1 = 9) :
    P84_2 (.pointer (some ⟨g, 0, none⟩)) (.pointer (some ⟨g6, 0, none⟩)) (.int .i64 i) (.int .i64 k) (.int .i64 j) w fun v w' => v = .tuple #[] ∧ ∃ F', RfI w' g (toRf (doesV m nn o h)) F' ∧ UpdP F F' W w' := by
  apply L84_2_ok
  have cd : Chg [] w w.drew := (Chg.refl _ _).drew
  obtain ⟨b, c, bw, cw, g2, c2, p1, p2, p3, p4, _⟩ := I.word O.rf O.wk O.val
  obtain ⟨b', c', bw', cw', g2', c2', q1, q2, q3, q4, hput⟩ := (I.keep cd).word O.rf O.wk O.val
  rw [show ldC (hp w.drew g) (0 + 9) = _ from p1] at q1; cases q1
  rw [show ldC (hp w.drew b) (i * 8 + 6) = _ from p2] at q2; cases q2
  rw [show ldC (hp w.drew bw) k = _ from p3] at q3; cases q3
  have W1 := Wm.w1
  have W2 := Wm.w2
  have hil : i < (toRf m).rgs.length := (List.getElem?_eq_some_iff.1 O.rf).1
  have ia := ia_109 (b := b) (p := 0) (n := (toRf m).rgs.length) (c := c) (j := .i64) (i := (i : Int)) (by omega) (by omega)
  rw [Int.toNat_natCast, Nat.zero_add] at ia
  have hlw := (List.getElem?_eq_some_iff.1 O.wk).1
  have iaw := ia_84 (b := bw) (p := 0) (n := r.words.length) (c := cw) (j := .i64) (i := (k : Int)) (by omega) (by omega)
  rw [Int.toNat_natCast, Nat.zero_add, Nat.mul_one] at iaw
  have hjl := O.jl
  have iau := ia_102 (b := g2) (p := 0) (n := L.length) (c := c2) (j := .i64) (i := (j : Int)) (by omega) (by omega)
  rw [Int.toNat_natCast, Nat.zero_add, Nat.mul_one] at iau
  have rd : ∀ y, toRf (setWordV m h o.2.2.2.1 y) = { toRf m with rgs := (toRf m).rgs.set i ({ r with words := r.words.set k (L.set j y) }, isLv m r.nm) } := fun y => by rw [O.put y]; exact rf_setRg m O.ri rfl
  have hd' : m.hands[((nn : Int)).toNat]? = some d := hd
  have fin : ∀ y, doesV m nn o h = setWordV m h o.2.2.2.1 y → effu Tryz.prog (Instr.storeAt 34 (.pointer (some ⟨g2, j, none⟩)) (.int .u64 y)) w.drew fun w' => ∃ F', RfI w' g (toRf (doesV m nn o h)) F' ∧ UpdP F F' W w' := fun y e => by
    obtain ⟨ok, F1, t1, t2⟩ := hput y
    rw [st_34 rfl rfl ok, e, rd y]
    exact ⟨F1, t1, t2.pre (hc.trans cd)⟩
  have fin2 : ∀ y, doesV m nn o h = setWordV m h o.2.2.2.1 y → effu Tryz.prog (Instr.storeAt 34 (.pointer (some ⟨g2, j, none⟩)) (.int .u64 y)) w.drew fun w' => True ∧ ∃ F', RfI w' g (toRf (doesV m nn o h)) F' ∧ UpdP F F' W w' := fun y e => by
    obtain ⟨ok, F1, t1, t2⟩ := hput y
    rw [st_34 rfl rfl ok, e, rd y]
    exact ⟨trivial, F1, t1, t2.pre (hc.trans cd)⟩
  by_cases k7 : o.1 = 7
  · have q : (o.1 == 7) = true := by rw [k7]; rfl
    have e : doesV m nn o h = setWordV m h o.2.2.2.1 o.2.2.2.2.1 := by
      rw [doesV, hd']; simp only
      rw [if_neg (by omega), if_neg (by omega), if_neg (by omega), if_pos k7]
    simp -implicitDefEqProofs only [L84_2, zS, aA, fa_126_6, aj, fa_36_4, aE, ld_84, ld_102, ld_34, ac, p1, p2, p3, p4, ia, iaw, iau, h6, az, op_4, q]
    first | exact fin2 _ e | exact fin _ e
  by_cases k8 : o.1 = 8
  · have q : (o.1 == 8) = true := by rw [k8]; rfl
    have e : doesV m nn o h = setWordV m h o.2.2.2.1 (IntKind.u64.wrap (wordV m h o.2.2.2.1 + o.2.2.2.2.1)) := by
      rw [doesV, hd']; simp only
      rw [if_neg (by omega), if_neg (by omega), if_neg (by omega), if_neg k7, if_pos k8]
    simp -implicitDefEqProofs only [L84_2, zS, aA, fa_126_6, aj, fa_36_4, aE, ld_84, ld_102, ld_34, ac, p1, p2, p3, p4, ia, iaw, iau, h6, az, op_4, eqf k7, q, am]
    first | exact fin2 _ e | exact fin _ e
  · have k9 : o.1 = 9 := by omega
    by_cases hv : wordV m h o.2.2.2.1 = o.2.2.2.2.1
    · have ev : (wordV m h o.2.2.2.1 == o.2.2.2.2.1) = true := by rw [hv]; exact beq_self_eq_true _
      have e : doesV m nn o h = setWordV m h o.2.2.2.1 o.2.2.2.2.2 := by
        rw [doesV, hd']; simp only
        rw [if_neg (by omega), if_neg (by omega), if_neg (by omega), if_neg k7, if_neg k8, if_pos k9, if_pos hv]
      simp -implicitDefEqProofs only [L84_2, zS, aA, fa_126_6, aj, fa_36_4, fa_36_5, aE, ld_84, ld_102, ld_34, ac, p1, p2, p3, p4, ia, iaw, iau, h6, az, op_4, op_5, eqf k7, eqf k8, ev]
      first | exact fin2 _ e | exact fin _ e
    · have e : doesV m nn o h = m := by
        rw [doesV, hd']; simp only
        rw [if_neg (by omega), if_neg (by omega), if_neg (by omega), if_neg k7, if_neg k8, if_pos k9, if_neg hv]
      simp -implicitDefEqProofs only [L84_2, zS, aA, fa_126_6, aj, fa_36_4, aE, ld_84, ld_102, ld_34, ac, p1, p2, p3, p4, ia, iaw, iau, h6, az, op_4, eqf k7, eqf k8, eqf hv]
      rw [e]
      exact ⟨by first | rfl | trivial, F, I, UpdP.of0 hc⟩
end
end Go.Proofs.YteapggpkgfiacaaGreat

namespace Go.Proofs.YteapggpkgfiacaaGreat
open Go Ev Go.RowKit

section
variable {W w : World} {g g6 g7 : Nat} {m : MdV} {x : RfV} {F : Fp} {K : Nat} {o : OpV} {h : HnV} {d : HdV} {nn : Nat}
set_option maxHeartbeats 4000000 in
theorem l_rDoes1 (hc : Chg [] W w) (I : RfI w g (toRf m) F) (Wm : Wf m K) (hK : K ≤ 1000000) (h6 : hp w g6 = some (.cells (opC o).toArray 36)) (h7 : hp w g7 = some (.cells (hnC h).toArray 38)) {i : Nat} {r : RgV} {k : Nat} {L : List Int} {j : Nat} (O : ObjAt m h o.2.2.2.1 i r k L j) (hd : m.hands[nn]? = some d) (k6 : o.1 = 7 ∨ o.1 = 8 ∨ o.1 = 9) :
    P84_1 (.pointer (some ⟨g, 0, none⟩)) (.pointer (some ⟨g6, 0, none⟩)) (.pointer (some ⟨g7, 0, none⟩)) (.int .i64 i) (.bool true) w fun v w' => v = .tuple #[] ∧ ∃ F', RfI w' g (toRf (doesV m nn o h)) F' ∧ UpdP F F' W w' := by
  apply L84_1_ok
  have cd : Chg [] w w.drew := (Chg.refl _ _).drew
  obtain ⟨s, gn, rv, dd, hh, R⟩ := (I.keep cd).rd
  obtain ⟨Fr, hFr⟩ := R.rT
  obtain ⟨b, c, rfl, cv, wv, ov, Q⟩ := rr_at hFr O.rf
  obtain ⟨A, cc, rfl, hRc⟩ := ints_sh Q.cT
  have hil : i < (toRf m).rgs.length := (List.getElem?_eq_some_iff.1 O.rf).1
  have ia := ia_109 (b := b) (p := 0) (n := (toRf m).rgs.length) (c := c) (j := .i64) (i := (i : Int)) (by omega) (by omega)
  rw [Int.toNat_natCast, Nat.zero_add] at ia
  have hrl : ldC (hp w g) (0 + 9) = some (.slice (some ⟨b, 0, none⟩) (toRf m).rgs.length c) := R.rl
  have hjl := O.jl
  have hwl := O.wl
  have W2 := Wm.w2
  have hcl : r.chunks.length ≤ 1000000 := Nat.le_trans (Wm.rg r (List.mem_of_getElem? O.ri)).cl hK
  have cat := c_rAt (w := w.drew) (p := (r, isLv m r.nm)) (c := cc) (wv := wv) (ov := ov) hRc hcl h.2.2.1
  rw [show ixOf (r, isLv m r.nm).1.chunks h.2.2.1 = (k : Int) from O.ix] at cat
  have e2 : (hnC h).toArray[0 + 2]? = some (.int .i64 h.2.2.1) := rfl
  have e3 : (hnC h).toArray[0 + 3]? = some (.int .i64 h.2.2.2.1) := rfl
  simp -implicitDefEqProofs only [L84_1, zS, aY, fa_38_2, fa_38_3, aA, aE, ac, h6, h7, op_3, e2, e3, hrl, ia, ld_rg Q, am, O.jn, aq (n := (j : Int)) (by omega) (by omega)]
  repeat' (with_reducible apply And.intro)
  all_goals
    refine cat.mono ?_
    rintro _ w3 ⟨rfl, c3⟩
    have c13 := cd.trans c3
    have t6 := c13.at h6 (by simp)
    have t7 := c13.at h7 (by simp)
    try simp -implicitDefEqProofs only [zS, aY, fa_38_3, ac, t6, t7, op_3, e3, am, O.jn, aq (n := (j : Int)) (by omega) (by omega)]
    exact l_rDoes2 (hc.trans c13) (I.keep c13) Wm t6 O hd k6
theorem ia_ints {b n c : Nat} {i : Int} (h0 : 0 ≤ i) (h1 : i < n) : pureRun Tryz.prog (Instr.indexAt 26 (.slice (some ⟨b, 0, none⟩) n c) (.int .i64 i)) = some (.pointer (some ⟨b, i.toNat, none⟩)) := by
  have := ia_26 (b := b) (p := 0) (n := n) (c := c) (j := .i64) (i := i) h0 h1
  rw [Nat.zero_add, Nat.mul_one] at this
  exact this
set_option maxHeartbeats 4000000 in
theorem l_rDoes0 (hc : Chg [] W w) (I : RfI w g (toRf m) F) (Wm : Wf m K) (hK : K ≤ 1000000) (Wn' : Wn m K) (h6 : hp w g6 = some (.cells (opC o).toArray 36)) (h7 : hp w g7 = some (.cells (hnC h).toArray 38)) (f7 : ¬ F g7) (hm : mayV m nn o = true) (hd : m.hands[nn]? = some d) (hr : refusesV m d o h = 0) {ix : Int} (hix : ofK o.1 ≠ 0 → ∃ i, findR m.rgs (nmOf h) = some i ∧ ix = i) :
    P84_0 (.pointer (some ⟨g, 0, none⟩)) (.int .i64 nn) (.pointer (some ⟨g6, 0, none⟩)) (.pointer (some ⟨g7, 0, none⟩)) (.int .i64 ix) w fun v w' => v = .tuple #[] ∧ ∃ F', RfI w' g (toRf (doesV m nn o h)) F' ∧ UpdP F F' W w' := by
  apply L84_0_ok
  obtain ⟨n0, n1, o0⟩ := may_n hm
  obtain ⟨ka, kb⟩ := may_k hm
  have hco := (refuses_code hr).2
  have hD := Wm.hd d (List.mem_of_getElem? hd)
  have hd' : m.hands[(nn : Int).toNat]? = some d := hd
  have dv : doesV m nn o h = if o.1 = 3 then setHd m nn { d with depth := d.depth + 1 }
    else if o.1 = 4 then setHd m nn (if d.depth - 1 = 0 then { depth := 0, holds := [] } else { d with depth := d.depth - 1 })
    else if o.1 = 5 then (if holdsV d h then m else setHd m nn { d with holds := d.holds ++ [nmOf h] })
    else if o.1 = 7 then setWordV m h o.2.2.2.1 o.2.2.2.2.1
    else if o.1 = 8 then setWordV m h o.2.2.2.1 (IntKind.u64.wrap (wordV m h o.2.2.2.1 + o.2.2.2.2.1))
    else if o.1 = 9 then (if wordV m h o.2.2.2.1 = o.2.2.2.2.1 then setWordV m h o.2.2.2.1 o.2.2.2.2.2 else m)
    else if o.1 = 10 then (match m.slots[h.1.toNat]? with | some p => { m with slots := m.slots.set h.1.toNat (if m.loose then 0 else 2, p.2) } | none => m)
    else m := by rw [doesV, hd'] <;> rfl
  have hdd := (hands_rf hd').2
  have hhd := (hands_rf hd').1
  rw [Int.toNat_natCast] at hdd hhd
  have dl : (toRf m).depth.length = m.hands.length := by simp [toRf]
  have hln : (toRf m).holds.length = m.hands.length := by simp [toRf]
  have cd : Chg [] w w.drew := (Chg.refl _ _).drew
  have h7d : hp w.drew g7 = some (.cells (hnC h).toArray 38) := h7
  have e0 : (hnC h).toArray[0 + 0]? = some (.int .i64 h.1) := rfl
  have e1 : (hnC h).toArray[0 + 1]? = some (.int .i64 h.2.1) := rfl
  by_cases k3 : o.1 = 3
  · have q : (o.1 == 3) = true := by rw [k3]; rfl
    rw [if_pos k3] at dv
    obtain ⟨b, c, hl, hbg, hFb, hld, hput⟩ := I.intPut (k := 10) (L := (toRf m).depth) rfl hdd
    obtain ⟨ok, F1, t1, t2⟩ := hput (d.depth + 1)
    have ia := ia_ints (b := b) (n := (toRf m).depth.length) (c := c) (i := (nn : Int)) n0 (by rw [dl]; exact n1)
    rw [Int.toNat_natCast] at ia
    have hl10 : ldC (hp w g) (0 + 10) = some (.slice (some ⟨b, 0, none⟩) (toRf m).depth.length c) := hl
    simp -implicitDefEqProofs only [L84_0, zS, aj, ac, h6, az, q, fa_112_5, ld_26, hl10, ia, hld, am, aq (n := d.depth + 1) (by rw [codeV, if_neg (by omega), if_pos k3] at hco; omega) (by rw [codeV, if_neg (by omega), if_pos k3] at hco; omega)]
    rw [st_3 rfl rfl ok, dv, rf_setHd]
    have hs : (toRf m).holds.set nn d.holds = (toRf m).holds := set_same hhd
    simp only [hs]
    exact ⟨by first | rfl | trivial, F1, t1, t2.pre hc⟩
  by_cases k4 : o.1 = 4
  · have q : (o.1 == 4) = true := by rw [k4]; rfl
    rw [if_neg k3, if_pos k4] at dv
    obtain ⟨b, c, hl, hbg, hFb, hld, hput⟩ := I.intPut (k := 10) (L := (toRf m).depth) rfl hdd
    obtain ⟨ok, F1, t1, t2⟩ := hput (d.depth - 1)
    have ia := ia_ints (b := b) (n := (toRf m).depth.length) (c := c) (i := (nn : Int)) n0 (by rw [dl]; exact n1)
    rw [Int.toNat_natCast] at ia
    have hl10 : ldC (hp w g) (0 + 10) = some (.slice (some ⟨b, 0, none⟩) (toRf m).depth.length c) := hl
    have I1 : RfI (put w b ((getC (hp w b)).setIfInBounds nn (.int .i64 (d.depth - 1))) (getE (hp w b))) g { toRf m with depth := (toRf m).depth.set nn (d.depth - 1) } F1 := t1
    have hdd1 : ((toRf m).depth.set nn (d.depth - 1))[nn]? = some (d.depth - 1) := by rw [List.getElem?_set, if_pos rfl, if_pos (List.getElem?_eq_some_iff.1 hdd).1]
    simp -implicitDefEqProofs only [L84_0, zS, aj, ac, h6, az, eqf k3, q, fa_112_5, ld_26, hl10, ia, hld, bp_sub, aq (n := d.depth - 1) (by rw [codeV, if_neg (by omega), if_neg k3, if_pos k4] at hco; omega) (by rw [codeV, if_neg (by omega), if_neg k3, if_pos k4] at hco; omega)]
    rw [st_3 rfl rfl ok, dv]
    generalize put w b ((getC (hp w b)).setIfInBounds nn (.int .i64 (d.depth - 1))) (getE (hp w b)) = w1 at *
    obtain ⟨b1, c1, hl1, hbg1, _, hld1, _⟩ := I1.intPut (k := 10) (L := (toRf m).depth.set nn (d.depth - 1)) rfl hdd1
    have hl11 : ldC (hp w1 g) (0 + 10) = some (.slice (some ⟨b1, 0, none⟩) (toRf m).depth.length c1) := by have := hl1; rw [List.length_set] at this; exact this
    have ia1 := ia_ints (b := b1) (n := (toRf m).depth.length) (c := c1) (i := (nn : Int)) n0 (by rw [dl]; exact n1)
    rw [Int.toNat_natCast] at ia1
    by_cases hz : d.depth - 1 = 0
    · have e : (d.depth - 1 == 0) = true := by rw [hz]; rfl
      obtain ⟨b2, c2, v2, Fk2, hl2, _, _, _, hld2, _, hput2⟩ := I1.holdPut (nn := nn) (l := d.holds) hhd
      have iah := ia_110 (b := b2) (p := 0) (n := (toRf m).holds.length) (c := c2) (j := .i64) (i := (nn : Int)) (by omega) (by omega)
      rw [Int.toNat_natCast, Nat.zero_add, Nat.mul_one] at iah
      obtain ⟨ok2, s1, s2, _, F2, t3, t4⟩ := hput2 w1 none' [] (.slice none 0 0) ⟨ChgP.refl _ _, fun k hk => hk.elim⟩ isRow.nil
      have hl2' : ldC (hp w1 g) (0 + 11) = some (.slice (some ⟨b2, 0, none⟩) (toRf m).holds.length c2) := hl2
      simp -implicitDefEqProofs only [zS, fa_112_5, fa_112_6, ld_26, ac, hl11, ia1, hld1, e, ld_110, hl2', iah]
      rw [st_127 s1 s2 ok2, if_pos hz, rf_setHd]
      have e2 : (d.depth - 1 : Int) = 0 := hz
      rw [e2] at t3
      exact ⟨by first | rfl | trivial, F2, t3, (t2.trans t4).pre hc⟩
    · simp -implicitDefEqProofs only [zS, fa_112_5, ld_26, ac, hl11, ia1, hld1, eqf hz]
      rw [if_neg hz, rf_setHd]
      have hs : (toRf m).holds.set nn d.holds = (toRf m).holds := set_same hhd
      simp only [hs]
      exact ⟨by first | rfl | trivial, F1, I1, t2.pre hc⟩
  by_cases k5 : o.1 = 5
  · have q : (o.1 == 5) = true := by rw [k5]; rfl
    rw [if_neg k3, if_neg k4, if_pos k5] at dv
    obtain ⟨s, gn, rv, dd, hh, R⟩ := I.rd
    simp -implicitDefEqProofs only [L84_0, zS, aj, ac, h6, az, eqf k3, eqf k4, q, bj, fa_38_1, h7, e0, e1]
    refine (c_rHas R n0 (by rw [Int.toNat_natCast]; exact hhd) (by omega) (nmOf h)).step ?_
    rw [show decide (nmOf h ∈ d.holds) = holdsV d h from rfl]
    cases hv : holdsV d h with
    | true =>
      simp -implicitDefEqProofs only [zS]
      rw [dv, if_pos hv]
      exact ⟨by first | rfl | trivial, F, I, UpdP.of0 hc⟩
    | false =>
      rw [if_neg (by rw [hv]; simp)] at dv
      obtain ⟨b2, c2, v2, Fk2, hl2, hbg2, _, _, hld2, hk2, hput2⟩ := (I.keep cd).holdPut (nn := nn) (l := d.holds) hhd
      have iah := ia_110 (b := b2) (p := 0) (n := (toRf m).holds.length) (c := c2) (j := .i64) (i := (nn : Int)) (by omega) (by omega)
      rw [Int.toNat_natCast, Nat.zero_add, Nat.mul_one] at iah
      have hl2' : ldC (hp w g) (0 + 11) = some (.slice (some ⟨b2, 0, none⟩) (toRf m).holds.length c2) := hl2
      have hld2' : ldC (hp w b2) nn = some v2 := hld2
      obtain ⟨hown, _⟩ := flat_own hk2
      simp -implicitDefEqProofs only [zS, fa_112_6, bj, fa_38_1, ld_110, ld_127, ac, hl2', iah, hld2', h7, e0, e1, bd_137_0_1]
      have fin : ∀ (x' : Value) (w2 : World), w2.ownsRow 0 137 2 x' (d.holds.length + 1) (d.holds.flatMap nmC ++ [.int .i64 h.1, .int .i64 h.2.1]) → w.drew.grownBy w2 v2.ownBlock → NewB w.drew v2 x' →
          ldC (hp w2 g) (0 + 11) = some (.slice (some ⟨b2, 0, none⟩) (toRf m).holds.length c2) ∧ effu Tryz.prog (Instr.storeAt 127 (.pointer (some ⟨b2, nn, none⟩)) x') w2 fun w' => ∃ F', RfI w' g (toRf (doesV m nn o h)) F' ∧ UpdP F F' W w' := by
        intro x' w2 ho hg hnb
        have hk2' : isRow 137 2 d.holds.length ((d.holds.flatMap nmC).map isV) w.drew Fk2 v2 := hk2
        obtain ⟨F2, hr2, hu2⟩ := flat_grown (vs := nmC (nmOf h)) hk2' ho hg hnb
        have hr2' : keysT (d.holds ++ [nmOf h]) w2 F2 x' := by
          rw [keysT, List.length_append]
          have e : (d.holds ++ [nmOf h]).flatMap nmC = d.holds.flatMap nmC ++ nmC (nmOf h) := by simp
          rw [e]; exact hr2
        obtain ⟨ok2, s1, s2, hgg, F3, t3, t4⟩ := hput2 w2 F2 (d.holds ++ [nmOf h]) x' hu2 hr2'
        refine ⟨by rw [hgg]; exact hl2', ?_⟩
        rw [st_127 s1 s2 ok2, dv, rf_setHd]
        have hs : (toRf m).depth.set nn d.depth = (toRf m).depth := set_same hdd
        simp only [hs]
        exact ⟨F3, t3, t4.pre (hc.trans cd)⟩
      have h63 := fun (x' : Value) (w2 : World) (a : _) (b : _) (c : _) => fin x' w2 a b c
      repeat' (with_reducible apply And.intro)
      all_goals
        refine ps_127 (fun u hu => by simp only [List.mem_cons, List.not_mem_nil, or_false] at hu; rcases hu with rfl | rfl <;> rfl) hown (by omega) (Nat.zero_le _) fun x' w2 ho hg hnb => ?_
        obtain ⟨f1, f2⟩ := fin x' w2 ho hg hnb
        try simp -implicitDefEqProofs only [zS, ld_110, f1, iah]
        first | exact f2 | (refine cast ?_ f2; congr 1; funext w'; simp)
  by_cases k10 : o.1 = 10
  · have q : (o.1 == 10) = true := by rw [k10]; rfl
    obtain ⟨i, r, hf, hri, hnm, hlv⟩ := region_ok hr (by omega)
    obtain ⟨i', hf', hixe⟩ := hix (by rw [show ofK o.1 = 1 by rw [k10]; rfl]; decide)
    rw [hf] at hf'
    cases hf'
    rw [hixe]
    obtain ⟨s0, s1, s2⟩ := slots_at hlv
    have hn1 : r.nm.1 = h.1 := by rw [hnm]; rfl
    have hn2 : r.nm.2 = h.2.1 := by rw [hnm]; rfl
    have s0' : 0 ≤ h.1 := s0
    have s1' : h.1 < m.slots.length := s1
    have s2' : m.slots[r.nm.1.toNat]? = some (1, h.2.1) := by rw [hn1]; exact s2
    have hx : (toRf m).rgs[i]? = some (r, isLv m r.nm) := by rw [rgs_rf, hri]; rfl
    have hil : i < (toRf m).rgs.length := (List.getElem?_eq_some_iff.1 hx).1
    obtain ⟨b, c, v, Fk, hl, hbg, hFb, hsub, hld, hv, hput⟩ := I.rgPut hx (k := 4) (by omega) (P := isV (.bool (isLv m r.nm))) rfl
    obtain ⟨ok, _, _, _, F1, t1, t2⟩ := hput w none' (isV (.bool false)) (.bool false) (r, false) (UpdP.none hv.2 w) (good_isV ⟨rfl, rfl⟩) ⟨rfl, fun _ h => h⟩ rfl
    have ia := ia_109 (b := b) (p := 0) (n := (toRf m).rgs.length) (c := c) (j := .i64) (i := (i : Int)) (by omega) (by omega)
    rw [Int.toNat_natCast, Nat.zero_add] at ia
    simp -implicitDefEqProofs only [L84_0, zS, aj, ac, h6, az, eqf k3, eqf k4, eqf k5, q, aA, aE, hl, ia, fa_126_4]
    rw [st_4 (o := i * 8 + 4) rfl rfl ok]
    have k7a := t2.keep h7 f7
    generalize put w b ((getC (hp w b)).setIfInBounds (i * 8 + 4) (.bool false)) (getE (hp w b)) = w1 at *
    have cd1 : Chg [] w1 w1.drew := (Chg.refl _ _).drew
    have stl : (toRf m).state.length = m.slots.length := by simp [toRf]
    have hst : (toRf m).state[h.1.toNat]? = some 1 := by rw [← hn1]; simp [toRf, s2']
    have I1 : RfI w1.drew g { toRf m with rgs := (toRf m).rgs.set i (r, false) } F1 := RfI.keep t1 cd1
    obtain ⟨b2, c2, hl2, hbg2, hFb2, hld2, hput2⟩ := I1.intPut (k := 7) (L := (toRf m).state) rfl hst
    obtain ⟨ok2, F2, t3, t4⟩ := hput2 2
    have ia2 := ia_ints (b := b2) (n := (toRf m).state.length) (c := c2) (i := h.1) s0' (by rw [stl]; exact s1')
    have hl27 : ldC (hp w1 g) (0 + 7) = some (.slice (some ⟨b2, 0, none⟩) (toRf m).state.length c2) := hl2
    have k7d : hp w1.drew g7 = some (.cells (hnC h).toArray 38) := k7a.1
    simp -implicitDefEqProofs only [zS, fa_112_2, ld_26, hl27, bj, ac, k7a.1, e0, ia2]
    rw [st_3 (o := h.1.toNat) rfl rfl ok2]
    have k7b := t4.keep k7d k7a.2
    have I2 : RfI (put w1.drew b2 ((getC (hp w1.drew b2)).setIfInBounds h.1.toNat (.int .i64 2)) (getE (hp w1.drew b2))) g { toRf m with rgs := (toRf m).rgs.set i (r, false), state := (toRf m).state.set h.1.toNat 2 } F2 := t3
    have u2 := (t2.trans (t4.pre cd1)).pre hc
    generalize put w1.drew b2 ((getC (hp w1.drew b2)).setIfInBounds h.1.toNat (.int .i64 2)) (getE (hp w1.drew b2)) = w2 at *
    obtain ⟨_, _, _, _, _, R2⟩ := I2.rd
    have ml : ldC (hp w2 g) (0 + 6) = some (.bool m.loose) := R2.l
    have dv' : doesV m nn o h = { m with slots := m.slots.set r.nm.1.toNat (if m.loose then 0 else 2, h.2.1) } := by
      rw [dv, if_neg k3, if_neg k4, if_neg k5, if_neg (by omega), if_neg (by omega), if_neg (by omega), if_pos k10, hn1, ← hn1, s2']
    by_cases hlo : m.loose = true
    · rw [hlo] at ml
      have cd2 : Chg [] w2 w2.drew := (Chg.refl _ _).drew
      have hst2 : ((toRf m).state.set h.1.toNat 2)[h.1.toNat]? = some 2 := by rw [List.getElem?_set, if_pos rfl, if_pos (by rw [stl]; omega)]
      obtain ⟨b3, c3, hl3, _, _, _, hput3⟩ := (I2.keep cd2).intPut (k := 7) (L := (toRf m).state.set h.1.toNat 2) rfl hst2
      obtain ⟨ok3, F3, t5, t6⟩ := hput3 0
      have hl37 : ldC (hp w2 g) (0 + 7) = some (.slice (some ⟨b3, 0, none⟩) (toRf m).state.length c3) := by have := hl3; rw [List.length_set] at this; exact this
      have ia3 := ia_ints (b := b3) (n := (toRf m).state.length) (c := c3) (i := h.1) s0' (by rw [stl]; exact s1')
      simp -implicitDefEqProofs only [zS, fa_112_1, fa_112_2, ld_4, ml, ld_26, hl37, bj, ac, k7b.1, e0, ia3]
      rw [st_3 (o := h.1.toNat) rfl rfl ok3, dv', if_pos hlo]
      have := rf_free (v := 0) (q := (1, h.2.1)) Wn' hri s2' hn2 (by decide)
      simp only at this
      rw [this, hn1]
      rw [List.set_set] at t5
      exact ⟨by first | rfl | trivial, F3, t5, u2.trans (t6.pre cd2)⟩
    · have hlf : m.loose = false := by simpa using hlo
      rw [hlf] at ml
      simp -implicitDefEqProofs only [zS, fa_112_1, ld_4, ml]
      rw [dv', if_neg hlo]
      have := rf_free (v := 2) (q := (1, h.2.1)) Wn' hri s2' hn2 (by decide)
      simp only at this
      rw [this, hn1]
      exact ⟨by first | rfl | trivial, F2, I2, u2⟩
  have touch : o.1 = 7 ∨ o.1 = 8 ∨ o.1 = 9 → P84_1 (.pointer (some ⟨g, 0, none⟩)) (.pointer (some ⟨g6, 0, none⟩)) (.pointer (some ⟨g7, 0, none⟩)) (.int .i64 ix) (.bool true) w fun v w' => v = .tuple #[] ∧ ∃ F', RfI w' g (toRf (doesV m nn o h)) F' ∧ UpdP F F' W w' := by
    intro hk
    obtain ⟨t1, t2⟩ := touch_ok hr (by omega) (by omega)
    obtain ⟨i, hf, rfl⟩ := hix (by rw [ofK, if_neg (by omega), if_pos ⟨by omega, by omega⟩]; decide)
    obtain ⟨i', r, k, L, j, O⟩ := obj_at Wm t1 o0 t2
    have : i' = i := by have := O.fi; rw [hf] at this; exact (Option.some.inj this).symm
    subst this
    exact l_rDoes1 hc I Wm hK h6 h7 O hd hk
  by_cases k7 : o.1 = 7
  · have q : (o.1 == 7) = true := by rw [k7]; rfl
    simp -implicitDefEqProofs only [L84_0, zS, aj, ac, h6, az, eqf k3, eqf k4, eqf k5, eqf k10, q]
    exact touch (.inl k7)
  by_cases k8 : o.1 = 8
  · have q : (o.1 == 8) = true := by rw [k8]; rfl
    simp -implicitDefEqProofs only [L84_0, zS, aj, ac, h6, az, eqf k3, eqf k4, eqf k5, eqf k10, eqf k7, q]
    exact touch (.inr (.inl k8))
  by_cases k9 : o.1 = 9
  · have q : (o.1 == 9) = true := by rw [k9]; rfl
    simp -implicitDefEqProofs only [L84_0, zS, aj, ac, h6, az, eqf k3, eqf k4, eqf k5, eqf k10, eqf k7, eqf k8, q]
    exact touch (.inr (.inr k9))
  · simp -implicitDefEqProofs only [L84_0, zS, aj, ac, h6, az, eqf k3, eqf k4, eqf k5, eqf k10, eqf k7, eqf k8, eqf k9]
    apply L84_1_ok
    simp -implicitDefEqProofs only [L84_1, zS]
    rw [dv, if_neg k3, if_neg k4, if_neg k5, if_neg k7, if_neg k8, if_neg k9, if_neg k10]
    exact ⟨by first | rfl | trivial, F, I, UpdP.of0 hc⟩
end
end Go.Proofs.YteapggpkgfiacaaGreat

namespace Go.Proofs.YteapggpkgfiacaaGreat
open Go Ev Go.RowKit

section
variable {W w : World} {g g6 g7 : Nat} {m : MdV} {x : RfV} {F : Fp} {K : Nat} {o : OpV} {h : HnV} {d : HdV} {nn : Nat} {r : RsV}
theorem RfI.notF (I : RfI W g x F) {y : Nat} (h : W.heap.size ≤ y) : ¬ F y := fun hx => by have := isAt.lt I (good_rf x) y hx; omega
theorem known_find (hk : knownV m h (ofK o.1) = true) : ∃ i, findR m.rgs (nmOf h) = some i := by
  unfold knownV at hk
  split at hk
  · cases hk
  · rename_i i hi; exact ⟨i, hi⟩
theorem rf_len (m : MdV) : (toRf m).rgs.length = m.rgs.length := by simp [toRf]
set_option maxHeartbeats 1000000 in
theorem c_rDoes (I : RfI w g (toRf m) F) (Wm : Wf m K) (hK : K ≤ 1000000) (Wn' : Wn m K) (hm : mayV m nn o = true) (hd : m.hands[nn]? = some d) (hr : refusesV m d o h = 0) :
    CallR Tryz.prog 84 [.pointer (some ⟨g, 0, none⟩), .int .i64 nn, .agg (opC o).toArray, .agg (hnC h).toArray] w fun v w' => v = .tuple #[] ∧ ∃ F', RfI w' g (toRf (doesV m nn o h)) F' ∧ UpdP F F' w w' := by
  apply F84_ok
  simp -implicitDefEqProofs only [F84, ak, au, ae]
  generalize hw : (w.alloc (.cells (opC o).toArray 36)).alloc _ = w1
  have c1 : Chg [] w w1 := by rw [← hw]; exact ((Chg.refl _ _).alloc _).alloc _
  have a6 : hp w1 w.heap.size = some (.cells (opC o).toArray 36) := by rw [← hw, aa, ae, if_neg (by omega), aa, if_pos rfl]
  have a7 : hp w1 (w.heap.size + 1) = some (.cells (hnC h).toArray 38) := by rw [← hw, aa, ae, if_pos rfl]
  clear hw
  have f7 : ¬ F (w.heap.size + 1) := I.notF (by omega)
  have e0 : (hnC h).toArray[0 + 0]? = some (.int .i64 h.1) := rfl
  have e1 : (hnC h).toArray[0 + 1]? = some (.int .i64 h.2.1) := rfl
  simp -implicitDefEqProofs only [zS, aj, ac, a6, az]
  refine (c_Of o.1 w1).step ?_
  by_cases k0 : ofK o.1 = 0
  · have ez : (ofK o.1 != 0) = false := by rw [k0]; rfl
    simp -implicitDefEqProofs only [zS, ez]
    exact l_rDoes0 c1 (I.keep c1) Wm hK Wn' a6 a7 f7 hm hd hr (fun h => absurd k0 h)
  · have ez : (ofK o.1 != 0) = true := bne_iff_ne.2 k0
    obtain ⟨i, hi⟩ := known_find ((refuses_code hr).1.resolve_left k0)
    obtain ⟨s2, gn2, rv2, dd2, hh2, R2⟩ := (I.keep c1).rd
    simp -implicitDefEqProofs only [zS, ez, bj, fa_38_1, ac, a7, e0, e1]
    refine (c_rFind R2 (nmOf h) (by rw [rf_len]; exact Nat.le_trans Wm.rl hK)).step ?_
    rw [findX_rf, hi]
    exact l_rDoes0 c1 (I.keep c1) Wm hK Wn' a6 a7 f7 hm hd hr (fun _ => ⟨i, hi, rfl⟩)
theorem rrs_grown {L : List (RgV × Bool)} {w' : World} {y y' : Value} {xs : List Value} (hh : rrsT L w F y) (hown : w.ownsRow 0 126 8 y L.length xs) (nm : NmV) (cls : Int)
    (ho : w'.ownsRow 0 126 8 y' (L.length + 1) (xs ++ [.int .i64 nm.1, .int .i64 nm.2, .int .i64 cls, .int .i64 0, .bool true, .slice none 0 0, .slice none 0 0, .slice none 0 0])) (hg : w.grownBy w' y.ownBlock) (hnb : NewB w y y') :
    ∃ F', rrsT (L ++ [(⟨nm, cls, 0, [], [], []⟩, true)]) w' F' y' ∧ UpdP F F' w w' := by
  have hy : Parts w (rrT (⟨nm, cls, 0, [], [], []⟩, true)) [.int .i64 nm.1, .int .i64 nm.2, .int .i64 cls, .int .i64 0, .bool true, .slice none 0 0, .slice none 0 0, .slice none 0 0] (fun _ => none') := by
    refine ⟨rfl, fun k P v hP hv => ?_, fun _ _ _ _ _ b hb _ => hb⟩
    have hk := (List.getElem?_eq_some_iff.1 hP).1
    rw [rrT_len] at hk
    have hk' : k = 0 ∨ k = 1 ∨ k = 2 ∨ k = 3 ∨ k = 4 ∨ k = 5 ∨ k = 6 ∨ k = 7 := by omega
    rcases hk' with rfl | rfl | rfl | rfl | rfl | rfl | rfl | rfl <;> cases hP <;> cases hv
    · exact ⟨rfl, fun _ h => h⟩
    · exact ⟨rfl, fun _ h => h⟩
    · exact ⟨rfl, fun _ h => h⟩
    · exact ⟨rfl, fun _ h => h⟩
    · exact ⟨rfl, fun _ h => h⟩
    · exact isRow.nil
    · exact isRow.nil
    · exact isRow.nil
  obtain ⟨F', h1, h2, _⟩ := isRow.grow (G := none') (m := 1) hh (good_rrL L) (good_rr _) hy (fun b => ⟨fun h => h.elim, fun ⟨_, _, h⟩ => h⟩) (fun _ _ h => h) (fun xs' h' => by rw [own_unique h' hown]; exact ho) hg hnb
  refine ⟨F', ?_, ⟨h2.chg.mono fun k hk => hk.resolve_right id, fun k hk => (h2.sub k hk).imp (·.resolve_right id) id⟩⟩
  rw [rrsT, List.length_append, List.flatMap_append]
  simpa using h1
theorem rf_create (Wn' : Wn m K) {s : Nat} {p : NmV} (hp' : m.slots[s]? = some p) (p0 : p.1 = 0) (cls : Int) (hl : laterV p.2 = p.2 + 1) :
    toRf { m with slots := m.slots.set s (1, laterV p.2), rgs := m.rgs ++ [⟨((s : Int), laterV p.2), cls, 0, [], [], []⟩] } =
      { toRf m with state := (toRf m).state.set s 1, gen := (toRf m).gen.set s (laterV p.2), rgs := (toRf m).rgs ++ [(⟨((s : Int), laterV p.2), cls, 0, [], [], []⟩, true)] } := by
  have hsl := (List.getElem?_eq_some_iff.1 hp').1
  have lvN : isLv { m with slots := m.slots.set s (1, laterV p.2), rgs := m.rgs ++ [⟨((s : Int), laterV p.2), cls, 0, [], [], []⟩] } ((s : Int), laterV p.2) = true := by
    unfold isLv
    simp only [List.length_set, Int.toNat_natCast]
    rw [decide_eq_true (by omega), Bool.true_and]
    exact decide_eq_true (by rw [List.getElem?_set, if_pos rfl, if_pos hsl])
  have lvE : ∀ x ∈ m.rgs, isLv { m with slots := m.slots.set s (1, laterV p.2), rgs := m.rgs ++ [⟨((s : Int), laterV p.2), cls, 0, [], [], []⟩] } x.nm = isLv m x.nm := fun x hx => by
    obtain ⟨a, b, c, dd⟩ := Wn'.gn x hx
    unfold isLv
    simp only [List.length_set]
    congr 1
    by_cases hs : s = x.nm.1.toNat
    · have a1 : m.slots[x.nm.1.toNat]? = some p := by rw [← hs]; exact hp'
      have a2 : (m.slots.set s (1, laterV p.2))[x.nm.1.toNat]? = some (1, laterV p.2) := by rw [← hs, List.getElem?_set, if_pos rfl, if_pos hsl]
      have := dd p a1
      rw [decide_eq_false (by rw [a2]; intro e; have := (Prod.mk.inj (Option.some.inj e)).2; omega), decide_eq_false (by rw [a1]; intro e; have := congrArg Prod.fst (Option.some.inj e); simp only at this; omega)]
    · have : (m.slots.set s (1, laterV p.2))[x.nm.1.toNat]? = m.slots[x.nm.1.toNat]? := by rw [List.getElem?_set, if_neg hs]
      rw [this]
  unfold toRf
  simp only [List.map_set, List.map_append, List.map_cons, List.map_nil, lvN]
  congr 1
  congr 1
  exact List.map_congr_left fun x hx => by rw [lvE x hx]
set_option maxHeartbeats 2000000 in
theorem c_rCreate (I : RfI w g (toRf m) F) (Wm : Wf m K) (Wn' : Wn m K) (hK : K + 1 ≤ 1000000) (o : OpV) (r : RsV) :
    CallR Tryz.prog 85 [.pointer (some ⟨g, 0, none⟩), .agg (opC o).toArray, .agg (rsC r).toArray] w fun v w' => v = .bool (createsV m o.2.2.2.1 r).1 ∧ ∃ F', RfI w' g (toRf (createsV m o.2.2.2.1 r).2) F' ∧ UpdP F F' w w' := by
  apply F85_ok
  simp -implicitDefEqProofs only [F85, ak, au, ae]
  generalize hw : (w.alloc (.cells (opC o).toArray 36)).alloc _ = w1
  have c1 : Chg [] w w1 := by rw [← hw]; exact ((Chg.refl _ _).alloc _).alloc _
  have a4 : hp w1 w.heap.size = some (.cells (opC o).toArray 36) := by rw [← hw, aa, ae, if_neg (by omega), aa, if_pos rfl]
  have a5 : hp w1 (w.heap.size + 1) = some (.cells (rsC r).toArray 40) := by rw [← hw, aa, ae, if_pos rfl]
  clear hw
  have f4 : ¬ F w.heap.size := I.notF (Nat.le_refl _)
  have I1 := I.keep c1
  obtain ⟨s, gn, rv, dd, hh, R⟩ := I1.rd
  have hbe : be Tryz.prog .eql 40 (.tmp 9) (.tmp 10) (.agg (rsC r).toArray) (.agg (rsC (codeR 7)).toArray) = some (.bool (decide (r = codeR 7))) := be_rs r (codeR 7)
  have hl6 : ldC (hp w1 g) (0 + 6) = some (.bool m.loose) := R.l
  simp -implicitDefEqProofs only [ld_res a5, ab, bdr_0, hbe]
  by_cases r7 : r = codeR 7
  · have cv : createsV m o.2.2.2.1 r = (m.loose || decide (spareN m.slots = 0), m) := by rw [createsV, if_pos r7]
    simp -implicitDefEqProofs only [decide_eq_true r7, zS, fa_112_1, ld_4, hl6]
    rw [cv]
    by_cases hlo : m.loose = true
    · simp -implicitDefEqProofs only [hlo, zS]
      exact ⟨by simp, F, I1, UpdP.of0 c1⟩
    · have hlf : m.loose = false := by simpa using hlo
      simp -implicitDefEqProofs only [hlf, zS]
      refine (c_rSpare R (by simp only [toRf, List.length_map]; exact Wm.sl)).step ?_
      rw [rf_spare]
      simp -implicitDefEqProofs only [zS]
      refine ⟨?_, F, I1, UpdP.of0 c1⟩
      by_cases hz : spareN m.slots = 0
      · rw [hz]; rfl
      · rw [eqf (show (spareN m.slots : Int) ≠ 0 by omega), decide_eq_false hz]; rfl
  · have cvn : ¬ (0 ≤ r.2.1.1 ∧ r.2.1.1 < m.slots.length) → createsV m o.2.2.2.1 r = (false, m) := fun h => by rw [createsV, if_neg r7, if_neg h]
    have hc3 : ldC (hp w1 g) (0 + 0 + 3) = some (.int .i64 m.slots.length) := by
      rw [← Wn'.cs]; exact R.c 3 (by omega)
    have stl : (toRf m).state.length = m.slots.length := by simp [toRf]
    have gnl : (toRf m).gen.length = m.slots.length := by simp [toRf]
    by_cases s0 : r.2.1.1 < 0
    · simp -implicitDefEqProofs only [decide_eq_false r7, zS, fa_40_1, bj, ac, a5, rs_1, s0]
      rw [cvn (by omega)]
      exact ⟨by first | rfl | trivial, F, I1, UpdP.of0 c1⟩
    by_cases s1 : (m.slots.length : Int) ≤ r.2.1.1
    · simp -implicitDefEqProofs only [decide_eq_false r7, zS, fa_40_1, bj, fa_112_0, fa_23_3, ac, a5, rs_1, s0, hc3, aD, ge_iff_le, s1]
      rw [cvn (by omega)]
      exact ⟨by first | rfl | trivial, F, I1, UpdP.of0 c1⟩
    obtain ⟨p, hp'⟩ : ∃ p, m.slots[r.2.1.1.toNat]? = some p := ⟨_, List.getElem?_eq_getElem (by omega)⟩
    have hst : (toRf m).state[r.2.1.1.toNat]? = some p.1 := by simp [toRf, hp']
    have hgn : (toRf m).gen[r.2.1.1.toNat]? = some p.2 := by simp [toRf, hp']
    obtain ⟨b, c, hl, hbg, hFb, hld, hput⟩ := I1.intPut (k := 7) (L := (toRf m).state) rfl hst
    obtain ⟨b8, c8, hl8, hbg8, hFb8, hld8, _⟩ := I1.intPut (k := 8) (L := (toRf m).gen) rfl hgn
    have hl7 : ldC (hp w1 g) (0 + 7) = some (.slice (some ⟨b, 0, none⟩) (toRf m).state.length c) := hl
    have hl8' : ldC (hp w1 g) (0 + 8) = some (.slice (some ⟨b8, 0, none⟩) (toRf m).gen.length c8) := hl8
    have ia := ia_ints (b := b) (n := (toRf m).state.length) (c := c) (i := r.2.1.1) (by omega) (by rw [stl]; omega)
    have ia8 := ia_ints (b := b8) (n := (toRf m).gen.length) (c := c8) (i := r.2.1.1) (by omega) (by rw [gnl]; omega)
    by_cases p0 : p.1 = 0
    · have e0 : (p.1 != 0) = false := by rw [p0]; rfl
      have hld' : ldC (hp w1 b) r.2.1.1.toNat = some (.int .i64 p.1) := hld
      have pg := Wm.sg p (List.mem_of_getElem? hp')
      have pk := Wn'.gk p (List.mem_of_getElem? hp')
      have hlat : laterV p.2 = p.2 + 1 := by rw [laterV, if_pos (by omega)]
      have cv : createsV m o.2.2.2.1 r = if r = (0, (r.2.1.1, laterV p.2, 0, 0, 0), 0, 0) then
          (true, { m with slots := m.slots.set r.2.1.1.toNat (1, laterV p.2), rgs := m.rgs ++ [⟨(r.2.1.1, laterV p.2), o.2.2.2.1, 0, [], [], []⟩] }) else (false, m) := by
        rw [createsV, if_neg r7, if_pos (by omega), hp']
        simp only [ne_eq, p0, not_true_eq_false, if_false]
      have hbe2 : be Tryz.prog .neq 40 (.tmp 53) (.tmp 57) (.agg (rsC r).toArray) (.agg (rsC (0, (r.2.1.1, laterV p.2, 0, 0, 0), 0, 0)).toArray) = some (.bool (!decide (r = (0, (r.2.1.1, laterV p.2, 0, 0, 0), 0, 0)))) := be_nrs r (0, (r.2.1.1, laterV p.2, 0, 0, 0), 0, 0)
      simp -implicitDefEqProofs only [decide_eq_false r7, zS, fa_40_1, bj, fa_112_0, fa_112_2, fa_112_3, fa_23_3, ac, ld_26, a5, rs_1, s0, hc3, aD, ge_iff_le, s1, hl7, ia, hld', e0, hl8', ia8, hld8]
      refine (c_rLater p.2 pg.2 w1 pg.1).step ?_
      simp -implicitDefEqProofs only [zS, ld_res a5, bdh_01, bdr_1, hbe2]
      by_cases hr : r = (0, (r.2.1.1, laterV p.2, 0, 0, 0), 0, 0)
      · rw [if_pos hr] at cv
        rw [cv]
        have cd : Chg [] w1 w1.drew := (Chg.refl _ _).drew
        have I1d := I1.keep cd
        obtain ⟨bb, cc, hlb, hbgb, hFbb, _, hputb⟩ := I1d.intPut (k := 7) (L := (toRf m).state) rfl hst
        rw [show ldC (hp w1.drew g) 7 = _ from hl] at hlb
        cases hlb
        obtain ⟨ok, F1, t1, t2⟩ := hputb 1
        simp -implicitDefEqProofs only [decide_eq_true hr, zS, fa_112_2, fa_112_3, ld_26, hl7, hl8', ia, ia8]
        rw [st_3 (o := r.2.1.1.toNat) rfl rfl ok]
        have k4a := t2.keep (show hp w1.drew w.heap.size = _ from a4) f4
        have I2 : RfI (put w1.drew b ((getC (hp w1.drew b)).setIfInBounds r.2.1.1.toNat (.int .i64 1)) (getE (hp w1.drew b))) g { toRf m with state := (toRf m).state.set r.2.1.1.toNat 1 } F1 := t1
        have hl82 : ldC (hp (put w1.drew b ((getC (hp w1.drew b)).setIfInBounds r.2.1.1.toNat (.int .i64 1)) (getE (hp w1.drew b))) g) 8 = some (.slice (some ⟨b8, 0, none⟩) (toRf m).gen.length c8) := by rw [put_other (Ne.symm hbg)]; exact hl8
        generalize put w1.drew b ((getC (hp w1.drew b)).setIfInBounds r.2.1.1.toNat (.int .i64 1)) (getE (hp w1.drew b)) = w2 at *
        obtain ⟨bg, cg, hlg, hbgg, _, _, hputg⟩ := I2.intPut (k := 8) (L := (toRf m).gen) rfl hgn
        rw [hl82] at hlg
        cases hlg
        obtain ⟨ok2, F2, t3, t4⟩ := hputg (laterV p.2)
        rw [st_3 (o := r.2.1.1.toNat) rfl rfl ok2]
        have k4b := t4.keep k4a.1 k4a.2
        have I3 : RfI (put w2 b8 ((getC (hp w2 b8)).setIfInBounds r.2.1.1.toNat (.int .i64 (laterV p.2))) (getE (hp w2 b8))) g { toRf m with state := (toRf m).state.set r.2.1.1.toNat 1, gen := (toRf m).gen.set r.2.1.1.toNat (laterV p.2) } F2 := t3
        generalize put w2 b8 ((getC (hp w2 b8)).setIfInBounds r.2.1.1.toNat (.int .i64 (laterV p.2))) (getE (hp w2 b8)) = w3 at *
        have cd3 : Chg [] w3 w3.drew := (Chg.refl _ _).drew
        obtain ⟨v, Fk, hsub, hng, hlr, hRr, hputr⟩ := isAt.repl (I3.keep cd3) (good_rf _) (k := 9) (P := rrsT (toRf m).rgs) rfl
        have hlr' : ldC (hp w3 g) (0 + 9) = some v := hlr
        obtain ⟨xs, Fs, q1, q2, q3, q4⟩ := hRr
        have hlen : (toRf m).rgs.length = m.rgs.length := rf_len m
        have hrl := Wm.rl
        simp -implicitDefEqProofs only [zS, aA, aY, aE, ac, hlr', k4b.1, op_3, bd_126_0_1_2_4]
        refine ps_109 (fun u hu => by simp only [List.mem_cons, List.not_mem_nil, or_false] at hu; rcases hu with rfl | rfl | rfl | rfl | rfl | rfl | rfl | rfl <;> rfl) q1 (by omega) (Nat.zero_le _) fun y' w4 ho hg hnb => ?_
        obtain ⟨F3, r1, r2⟩ := rrs_grown (nm := (r.2.1.1, laterV p.2)) (cls := o.2.2.2.1) (L := (toRf m).rgs) ⟨xs, Fs, q1, q2, q3, q4⟩ q1 ho hg hnb
        obtain ⟨ok3, z1, z2, _, F4, t5, t6⟩ := hputr w4 F3 (rrsT ((toRf m).rgs ++ [(⟨(r.2.1.1, laterV p.2), o.2.2.2.1, 0, [], [], []⟩, true)])) y' r2 (good_rrs _) r1
        rw [st_109 (o := 0 + 9) z1 z2 ok3]
        have hnat : ((r.2.1.1.toNat : Nat) : Int) = r.2.1.1 := by omega
        have rc := rf_create (s := r.2.1.1.toNat) Wn' hp' p0 o.2.2.2.1 hlat
        rw [hnat] at rc
        rw [rc]
        exact ⟨by first | rfl | trivial, F4, t5, ((t2.trans t4).pre (c1.trans cd)).trans (t6.pre cd3)⟩
      · rw [if_neg hr] at cv
        simp -implicitDefEqProofs only [decide_eq_false hr, zS]
        rw [cv]
        exact ⟨by first | rfl | trivial, F, I1, UpdP.of0 c1⟩
    · have e0 : (p.1 != 0) = true := bne_iff_ne.2 p0
      have cv : createsV m o.2.2.2.1 r = (false, m) := by
        rw [createsV, if_neg r7, if_pos (by omega), hp']
        simp only [ne_eq, p0, not_false_eq_true, if_true]
      simp -implicitDefEqProofs only [decide_eq_false r7, zS, fa_40_1, bj, fa_112_0, fa_112_2, fa_23_3, ac, ld_26, a5, rs_1, s0, hc3, aD, ge_iff_le, s1, hl7, ia, hld, e0]
      rw [cv]
      exact ⟨by first | rfl | trivial, F, I1, UpdP.of0 c1⟩
end
end Go.Proofs.YteapggpkgfiacaaGreat

namespace Go.Proofs.YteapggpkgfiacaaGreat
open Go Ev Go.RowKit

section
variable {W w : World} {g g7 g11 : Nat} {m : MdV} {x : RfV} {F F0 : Fp} {K : Nat} {o : OpV} {h : HnV} {i : Nat} {p : RgV × Bool} {want : HnV} {need : Int} {r : RsV}
theorem ia_rgs {b n c : Nat} (h1 : i < n) : pureRun Tryz.prog (Instr.indexAt 109 (.slice (some ⟨b, 0, none⟩) n c) (.int .i64 i)) = some (.pointer (some ⟨b, i * 8, none⟩)) := by
  have := ia_109 (b := b) (p := 0) (n := n) (c := c) (j := .i64) (i := (i : Int)) (by omega) (by omega)
  rw [Int.toNat_natCast, Nat.zero_add] at this
  exact this
theorem set_rr {y z : RgV × Bool} (x : RfV) : { ({ x with rgs := x.rgs.set i y } : RfV) with rgs := ({ x with rgs := x.rgs.set i y } : RfV).rgs.set i z } = { x with rgs := x.rgs.set i z } := by simp [List.set_set]
theorem at_rr {y : RgV × Bool} (hi : x.rgs[i]? = some p) : ({ x with rgs := x.rgs.set i y } : RfV).rgs[i]? = some y := by
  show (x.rgs.set i y)[i]? = _
  rw [List.getElem?_set, if_pos rfl, if_pos (List.getElem?_eq_some_iff.1 hi).1]
set_option maxHeartbeats 2000000 in
theorem l_rAlloc1 (U : UpdP F0 F W w) (I : RfI w g x F) (hi : x.rgs[i]? = some p) (hol : p.1.objs.length ≤ 1000000) (h11 : hp w g11 = some (.cells (hnC want).toArray 38)) :
    P86_1 (.pointer (some ⟨g, 0, none⟩)) (.int .i64 i) (.pointer (some ⟨g11, 0, none⟩)) w fun v w' => v = .bool true ∧ ∃ F', RfI w' g { x with rgs := x.rgs.set i ({ p.1 with objs := p.1.objs ++ [want] }, p.2) } F' ∧ UpdP F0 F' W w' := by
  apply L86_1_ok
  have cd : Chg [] w w.drew := (Chg.refl _ _).drew
  have hil := (List.getElem?_eq_some_iff.1 hi).1
  obtain ⟨b, c, v, Fk, hl, hbg, _, _, hld, hv, hput⟩ := (I.keep cd).rgPut hi (k := 7) (by omega) (P := objsT p.1.objs) rfl
  have hl' : ldC (hp w g) (0 + 9) = some (.slice (some ⟨b, 0, none⟩) x.rgs.length c) := hl
  have hld' : ldC (hp w b) (i * 8 + 7) = some v := hld
  have ia := ia_rgs (b := b) (c := c) hil
  have h11d : hp w.drew g11 = some (.cells (hnC want).toArray 38) := h11
  obtain ⟨hown, _⟩ := flat_own hv
  have fin : ∀ (x' : Value) (w2 : World), w2.ownsRow 0 38 5 x' (p.1.objs.length + 1) (p.1.objs.flatMap hnC ++ hnC want) → w.drew.grownBy w2 v.ownBlock → NewB w.drew v x' →
      ldC (hp w2 g) (0 + 9) = some (.slice (some ⟨b, 0, none⟩) x.rgs.length c) ∧ effu Tryz.prog (Instr.storeAt 44 (.pointer (some ⟨b, i * 8 + 7, none⟩)) x') w2 fun w' => P86_3 w' fun v w' => v = .bool true ∧ ∃ F', RfI w' g { x with rgs := x.rgs.set i ({ p.1 with objs := p.1.objs ++ [want] }, p.2) } F' ∧ UpdP F0 F' W w' := by
    intro x' w2 ho hg hnb
    obtain ⟨F2, hr2, hu2⟩ := flat_grown (vs := hnC want) hv ho hg hnb
    have hr2' : objsT (p.1.objs ++ [want]) w2 F2 x' := by
      rw [objsT, List.length_append]
      have e : (p.1.objs ++ [want]).flatMap hnC = p.1.objs.flatMap hnC ++ hnC want := by simp
      rw [e]; exact hr2
    obtain ⟨ok, s1, s2, hgg, F3, t1, t2⟩ := hput w2 F2 (objsT (p.1.objs ++ [want])) x' ({ p.1 with objs := p.1.objs ++ [want] }, p.2) hu2 (good_objs _) hr2' rfl
    refine ⟨by rw [hgg]; exact hl, ?_⟩
    rw [st_44 (o := i * 8 + 7) s1 s2 ok]
    apply L86_3_ok
    exact ⟨rfl, F3, t1, U.trans (t2.pre cd)⟩
  simp -implicitDefEqProofs only [L86_1, zS, aA, fa_126_7, aE, ld_44, hl', ia, hld', ld_hn h11d]
  repeat' (with_reducible apply And.intro)
  all_goals
    refine ps_44 (fun u hu => by simp only [List.mem_cons, List.not_mem_nil, or_false] at hu; rcases hu with rfl | rfl | rfl | rfl | rfl <;> rfl) hown (by omega) (Nat.zero_le _) fun x' w2 ho hg hnb => ?_
    obtain ⟨f1, f2⟩ := fin x' w2 ho hg hnb
    try simp -implicitDefEqProofs only [zS, aE, f1, ia, fa_126_7]
    exact f2
set_option maxHeartbeats 2000000 in
theorem l_rAlloc4 (U : UpdP F0 F W w) (I : RfI w g x F) (hi : x.rgs[i]? = some p) (hol : p.1.objs.length ≤ 1000000) (h11 : hp w g11 = some (.cells (hnC want).toArray 38)) (n11 : ¬ F g11) :
    P86_4 (.pointer (some ⟨g, 0, none⟩)) (.int .i64 i) (.pointer (some ⟨g11, 0, none⟩)) (.int .i64 need) w fun v w' => v = .bool true ∧ ∃ F', RfI w' g { x with rgs := x.rgs.set i ({ p.1 with off := afterV x.c.2.2.1 need, objs := p.1.objs ++ [want] }, p.2) } F' ∧ UpdP F0 F' W w' := by
  apply L86_4_ok
  have cd : Chg [] w w.drew := (Chg.refl _ _).drew
  have hil := (List.getElem?_eq_some_iff.1 hi).1
  obtain ⟨b, c, v, Fk, hl, hbg, _, _, hld, hv, hput⟩ := (I.keep cd).rgPut hi (k := 3) (by omega) (P := iT p.1.off) rfl
  have hl' : ldC (hp w g) (0 + 9) = some (.slice (some ⟨b, 0, none⟩) x.rgs.length c) := hl
  have ia := ia_rgs (b := b) (c := c) hil
  obtain ⟨_, _, _, _, _, R⟩ := I.rd
  have hc2 : ldC (hp w g) (0 + 0 + 2) = some (.int .i64 x.c.2.2.1) := R.c 2 (by omega)
  obtain ⟨ok, _, _, _, F1, t1, t2⟩ := hput w.drew none' (iT (afterV x.c.2.2.1 need)) (.int .i64 (afterV x.c.2.2.1 need)) ({ p.1 with off := afterV x.c.2.2.1 need }, p.2) (UpdP.none hv.2 _) (aV _ _) ⟨rfl, fun _ h => h⟩ rfl
  have k11 := t2.keep (show hp w.drew g11 = _ from h11) n11
  have fin := l_rAlloc1 (want := want) (U.trans (t2.pre cd)) t1 (at_rr hi) hol k11.1
  rw [set_rr] at fin
  simp -implicitDefEqProofs only [L86_4, zS, aA, fa_112_0, fa_23_2, aE, ac, hl', hc2]
  repeat' (with_reducible apply And.intro)
  all_goals
    refine (c_rAfter x.c.2.2.1 need w.drew).step ?_
    simp -implicitDefEqProofs only [zS, aE, hl', ia, fa_126_3]
    rw [st_3 (o := i * 8 + 3) rfl rfl ok]
    exact fin
set_option maxHeartbeats 4000000 in
theorem l_rAlloc2 (U : UpdP F0 F W w) (I : RfI w g x F) (hi : x.rgs[i]? = some p) (hol : p.1.objs.length ≤ 1000000) (hwl : p.1.words.length ≤ 1000000) (w0 : 0 ≤ x.c.2.2.1) (w1 : x.c.2.2.1 ≤ 1024) (h11 : hp w g11 = some (.cells (hnC want).toArray 38)) (n11 : ¬ F g11) :
    P86_2 (.pointer (some ⟨g, 0, none⟩)) (.int .i64 i) (.pointer (some ⟨g11, 0, none⟩)) (.int .i64 need) w fun v w' => v = .bool true ∧ ∃ F', RfI w' g { x with rgs := x.rgs.set i ({ p.1 with words := p.1.words ++ [List.replicate x.c.2.2.1.toNat 0], off := afterV x.c.2.2.1 need, objs := p.1.objs ++ [want] }, p.2) } F' ∧ UpdP F0 F' W w' := by
  apply L86_2_ok
  have cd : Chg [] w w.drew := (Chg.refl _ _).drew
  have hil := (List.getElem?_eq_some_iff.1 hi).1
  obtain ⟨b, c, v5, Fk5, hl, hbg, _, hsub5, hld, hv5, hput5⟩ := (I.keep cd).rgPut hi (k := 6) (by omega) (P := wordsT p.1.words) rfl
  have hl' : ldC (hp w g) (0 + 9) = some (.slice (some ⟨b, 0, none⟩) x.rgs.length c) := hl
  have hld' : ldC (hp w b) (i * 8 + 6) = some v5 := hld
  have ia := ia_rgs (b := b) (c := c) hil
  obtain ⟨_, _, _, _, _, R⟩ := I.rd
  obtain ⟨iu, hiu, hzu, hsu, hbu⟩ := inf_34
  have hc2 : ldC (hp w g) (0 + 0 + 2) = some (.int .i64 ((x.c.2.2.1.toNat : Nat) : Int)) := by
    rw [show ((x.c.2.2.1.toNat : Nat) : Int) = x.c.2.2.1 by omega]; exact R.c 2 (by omega)
  generalize hn : x.c.2.2.1.toNat = n at *
  have hmc : madeCells (Value.int .u64 0).cells (n * iu.size) = (u64s (List.replicate n 0)).toArray := by
    apply Array.toList_inj.1
    rw [hsu, Nat.mul_one]
    have := toList_madeCells_one (Value.int .u64 0) n
    rw [u64s, List.map_replicate]
    exact this
  have ob := own_alloc_u64s (w := w.drew) n (by unfold maxLen; omega)
  have n3 : w.drew.heap.size = w.heap.size := rfl
  simp -implicitDefEqProofs only [L86_2, zS, aA, fa_112_0, fa_23_2, fa_126_6, aE, ld_84, ac, hl', ia, hld', hc2, effv_make (P := Tryz.prog) (kl := .i64) (kc := .i64) (n := n) Tryz.underlying102 hiu hzu (by rw [hsu]; omega) (by rw [hbu]; omega) (by omega), hmc]
  generalize hwA : w.drew.alloc (.cells (u64s (List.replicate n 0)).toArray 34) = wA at *
  have cA : Chg [] w.drew wA := by rw [← hwA]; exact (Chg.refl _ _).alloc _
  have sA : wA.heap.size = w.heap.size + 1 := by rw [← hwA, ae, n3]
  have hv5A := (good_words p.1.words).frame hv5 (ChgP.of0 cA none') (fun _ _ h => h)
  obtain ⟨xs, Fs, q1, q2, q3, q4⟩ := hv5A
  have hlA := aQ cA hl
  have fin : ∀ (x2 : Value) (w4 : World), w4.ownsRow 0 102 1 x2 (p.1.words.length + 1) (xs ++ [.slice (some ⟨w.drew.heap.size, 0, none⟩) n n]) → wA.grownBy w4 v5.ownBlock → NewB wA v5 x2 →
      ldC (hp w4 g) (0 + 9) = some (.slice (some ⟨b, 0, none⟩) x.rgs.length c) ∧ effu Tryz.prog (Instr.storeAt 84 (.pointer (some ⟨b, i * 8 + 6, none⟩)) x2) w4 fun w' => P86_4 (.pointer (some ⟨g, 0, none⟩)) (.int .i64 i) (.pointer (some ⟨g11, 0, none⟩)) (.int .i64 need) w' fun v w' => v = .bool true ∧ ∃ F', RfI w' g { x with rgs := x.rgs.set i ({ p.1 with words := p.1.words ++ [List.replicate n 0], off := afterV x.c.2.2.1 need, objs := p.1.objs ++ [want] }, p.2) } F' ∧ UpdP F0 F' W w' := by
    intro x2 w4 ho2 hg2 hnb2
    have hy : Parts wA [wordT (List.replicate n 0)] [.slice (some ⟨w.drew.heap.size, 0, none⟩) n n] (fun _ => fun b => b = w.drew.heap.size) := ⟨rfl, fun k P v hP hv => by
      have hk := (List.getElem?_eq_some_iff.1 hP).1
      have : k = 0 := by simp at hk; omega
      subst this
      cases hP; cases hv
      exact ob, fun j k hj hk hjk => by simp at hj hk; omega⟩
    have hF5 : ∀ k, Fk5 k → k < w.heap.size := fun k hk => isAt.lt (I.keep cd) (good_rf x) k (hsub5 k hk)
    obtain ⟨F5, g1, g2, _⟩ := isRow.grow (G := fun b => b = w.drew.heap.size) (m := 1) ⟨xs, Fs, q1, q2, q3, q4⟩ (fun P hP => by obtain ⟨l, _, rfl⟩ := List.mem_map.1 hP; exact good_word l) (fun P hP => by rw [List.mem_singleton.1 hP]; exact good_word _) hy
      (fun b => ⟨fun h => ⟨0, by simp, h⟩, fun ⟨_, _, h⟩ => h⟩) (fun k hk hk2 => by have := hF5 k hk; omega) (fun xs' h' => by rw [own_unique h' q1]; exact ho2) hg2 hnb2
    have hu5 : UpdP Fk5 F5 w.drew w4 := by
      refine ⟨⟨g2.chg.os.trans cA.os, g2.chg.tape.trans cA.tape, g2.chg.output.trans cA.output, by have := g2.chg.size; omega, fun k hk hn => ?_⟩, fun k hk => ?_⟩
      · rw [g2.chg.block k (by omega) (fun h => by rcases h with h | h; exact hn h; omega)]
        exact cA.block k hk (by simp)
      · rcases g2.sub k hk with h | h
        · rcases h with h | h
          · exact .inl h
          · exact .inr (by omega)
        · exact .inr (by omega)
    have g1' : wordsT (p.1.words ++ [List.replicate n 0]) w4 F5 x2 := by
      rw [wordsT, List.length_append, List.map_append]; exact g1
    obtain ⟨ok5, s51, s52, hgg, F6, t51, t52⟩ := hput5 w4 F5 (wordsT (p.1.words ++ [List.replicate n 0])) x2 ({ p.1 with words := p.1.words ++ [List.replicate n 0] }, p.2) hu5 (good_words _) g1' rfl
    refine ⟨by rw [hgg]; exact hl, ?_⟩
    rw [st_84 (o := i * 8 + 6) s51 s52 ok5]
    have k11 := t52.keep (show hp w.drew g11 = _ from h11) n11
    have f := l_rAlloc4 (want := want) (need := need) (U.trans (t52.pre cd)) t51 (at_rr hi) hol k11.1 k11.2
    rw [set_rr] at f
    exact f
  repeat' (with_reducible apply And.intro)
  all_goals
    refine ps_84 (fun u hu => by simp only [List.mem_cons, List.not_mem_nil, or_false] at hu; rcases hu with rfl; rfl) q1 (by omega) (Nat.zero_le _) fun x2 w4 ho2 hg2 hnb2 => ?_
    obtain ⟨f1, f2⟩ := fin x2 w4 ho2 hg2 hnb2
    try simp -implicitDefEqProofs only [zS, aE, f1, ia, fa_126_6]
    exact f2
end
end Go.Proofs.YteapggpkgfiacaaGreat

namespace Go.Proofs.YteapggpkgfiacaaGreat
open Go Ev Go.RowKit

section
variable {W w : World} {g g7 g11 : Nat} {m : MdV} {F F0 : Fp} {K : Nat} {o : OpV} {h : HnV} {i : Nat} {rg : RgV} {want : HnV} {need : Int} {r : RsV} {nn : Nat}
def badV (m : MdV) (ch : Int) : Prop := ch < 0 ∨ m.c.2.1 ≤ ch ∨ takenV m ch = true
instance (m : MdV) (ch : Int) : Decidable (badV m ch) := by unfold badV; infer_instance
set_option maxHeartbeats 4000000 in
theorem l_rAlloc0 (U : UpdP F0 F W w) (I : RfI w g (toRf m) F) (Wm : Wf m K) (hK : K + 1 ≤ 1000000) (hi : m.rgs[i]? = some rg) (h7 : hp w g7 = some (.cells (rsC r).toArray 40)) (h11 : hp w g11 = some (.cells (hnC want).toArray 38)) (n11 : ¬ F g11) :
    P86_0 (.pointer (some ⟨g, 0, none⟩)) (.pointer (some ⟨g7, 0, none⟩)) (.int .i64 i) (.bool (rfitsV rg m.c.2.2.1 need)) (.pointer (some ⟨g11, 0, none⟩)) (.int .i64 need) w fun v w' =>
      v = .bool (if r = (0, want, 0, 0) ∧ (rfitsV rg m.c.2.2.1 need = true ∨ ¬ badV m want.2.2.1) then true else false) ∧ ∃ F', RfI w' g (toRf (if r = (0, want, 0, 0) ∧ (rfitsV rg m.c.2.2.1 need = true ∨ ¬ badV m want.2.2.1) then { m with rgs := m.rgs.set i (growV m.c.2.2.1 need rg want) } else m)) F' ∧ UpdP F0 F' W w' := by
  apply L86_0_ok
  have hbe : be Tryz.prog .neq 40 (.tmp 81) (.tmp 83) (.agg (rsC r).toArray) (.agg (rsC (0, want, 0, 0)).toArray) = some (.bool (!decide (r = (0, want, 0, 0)))) := be_nrs r (0, want, 0, 0)
  have W1 := Wm.w1
  have W2 := Wm.w2
  have R0 := Wm.rg rg (List.mem_of_getElem? hi)
  have hx : (toRf m).rgs[i]? = some (rg, isLv m rg.nm) := by rw [rgs_rf, hi]; rfl
  have hil := (List.getElem?_eq_some_iff.1 hx).1
  have cd : Chg [] w w.drew := (Chg.refl _ _).drew
  have hol : rg.objs.length ≤ 1000000 := Nat.le_trans R0.ol (by omega)
  simp -implicitDefEqProofs only [L86_0, ld_res h7, ld_hn h11, bdr_1, hbe, ab]
  by_cases hr : r = (0, want, 0, 0)
  · cases hf : rfitsV rg m.c.2.2.1 need with
    | true =>
      have ct : r = (0, want, 0, 0) ∧ (true = true ∨ ¬ badV m want.2.2.1) := ⟨hr, .inl rfl⟩
      rw [if_pos ct, if_pos ct]
      obtain ⟨f1, f2, f3, f4⟩ := fits_need hf
      obtain ⟨b, c, v, Fk, hl, hbg, _, _, hld, hv, hput⟩ := (I.keep cd).rgPut hx (k := 3) (by omega) (P := iT rg.off) rfl
      rw [hv.1] at hld
      have hl' : ldC (hp w g) (0 + 9) = some (.slice (some ⟨b, 0, none⟩) (toRf m).rgs.length c) := hl
      have hld' : ldC (hp w b) (i * 8 + 3) = some (.int .i64 rg.off) := hld
      have ia := ia_rgs (b := b) (c := c) hil
      obtain ⟨ok, _, _, _, F1, t1, t2⟩ := hput w.drew none' (iT (rg.off + need)) (.int .i64 (rg.off + need)) ({ rg with off := rg.off + need }, isLv m rg.nm) (UpdP.none hv.2 _) (aV _ _) ⟨rfl, fun _ h => h⟩ rfl
      have k11 := t2.keep (show hp w.drew g11 = _ from h11) n11
      have fin := l_rAlloc1 (want := want) (U.trans (t2.pre cd)) t1 (at_rr hx) hol k11.1
      rw [set_rr] at fin
      simp -implicitDefEqProofs only [decide_eq_true hr, zS, aA, fa_126_3, aE, ac, hl', ia, hld', am, aq (n := rg.off + need) (by omega) (by omega)]
      rw [st_3 (o := i * 8 + 3) rfl rfl ok]
      have eg : growV m.c.2.2.1 need rg want = { rg with off := rg.off + need, objs := rg.objs ++ [want] } := by rw [growV, hf]; rfl
      have er := rf_setRg m hi (r' := { rg with off := rg.off + need, objs := rg.objs ++ [want] }) rfl
      rw [eg, er]
      exact fin
    | false =>
      obtain ⟨s, gn, rv, dd, hh, R⟩ := I.rd
      have hc1 : ldC (hp w g) (0 + 0 + 1) = some (.int .i64 m.c.2.1) := R.c 1 (by omega)
      have e2 : (hnC want).toArray[0 + 2]? = some (.int .i64 want.2.2.1) := rfl
      have bad : badV m want.2.2.1 → ¬ (r = (0, want, 0, 0) ∧ (false = true ∨ ¬ badV m want.2.2.1)) := fun hb ⟨_, h⟩ => by
        rcases h with h | h
        · cases h
        · exact h hb
      by_cases n0 : want.2.2.1 < 0
      · have cn := bad (.inl n0)
        simp -implicitDefEqProofs only [decide_eq_true hr, zS, fa_38_2, ac, h11, e2, n0]
        rw [if_neg cn, if_neg cn]
        exact ⟨by first | rfl | trivial, F, RfI.keep I cd, U.post cd⟩
      by_cases n1 : m.c.2.1 ≤ want.2.2.1
      · have cn := bad (.inr (.inl n1))
        simp -implicitDefEqProofs only [decide_eq_true hr, zS, fa_38_2, ac, h11, e2, n0, fa_112_0, fa_23_1, hc1, aD, n1, ge_iff_le]
        rw [if_neg cn, if_neg cn]
        exact ⟨by first | rfl | trivial, F, RfI.keep I cd, U.post cd⟩
      simp -implicitDefEqProofs only [decide_eq_true hr, zS, fa_38_2, ac, h11, e2, n0, fa_112_0, fa_23_1, hc1, aD, n1, ge_iff_le]
      refine (c_rTaken (R.keep cd) (by rw [rf_len]; exact Nat.le_trans Wm.rl (by omega)) (fun p hp => by
        obtain ⟨y, hy, rfl⟩ := List.mem_map.1 hp
        exact Nat.le_trans (Wm.rg y hy).cl (by omega)) want.2.2.1).mono ?_
      rintro _ w5 ⟨rfl, c5⟩
      rw [rf_taken]
      have c05 := cd.trans c5
      have h115 := c05.at h11 (by simp)
      cases ht : takenV m want.2.2.1 with
      | true =>
        have cn := bad (.inr (.inr ht))
        simp -implicitDefEqProofs only [zS]
        rw [if_neg cn, if_neg cn]
        exact ⟨by first | rfl | trivial, F, RfI.keep I c05, U.post c05⟩
      | false =>
        have nb : ¬ badV m want.2.2.1 := by
          rintro (h1 | h1 | h1)
          · exact n0 h1
          · exact n1 h1
          · rw [ht] at h1; cases h1
        have ct : r = (0, want, 0, 0) ∧ (false = true ∨ ¬ badV m want.2.2.1) := ⟨hr, .inr nb⟩
        have cd5 : Chg [] w5 w5.drew := (Chg.refl _ _).drew
        have c0d := c05.trans cd5
        obtain ⟨b, c, v, Fk, hl, hbg, _, hsub, hld, hv, hput⟩ := (RfI.keep I c0d).rgPut hx (k := 5) (by omega) (P := intsT rg.chunks) rfl
        have hl' : ldC (hp w5 g) (0 + 9) = some (.slice (some ⟨b, 0, none⟩) (toRf m).rgs.length c) := hl
        have hld' : ldC (hp w5 b) (i * 8 + 5) = some v := hld
        have ia := ia_rgs (b := b) (c := c) hil
        obtain ⟨hown, _⟩ := flat_own hv
        have hcl := R0.cl
        simp -implicitDefEqProofs only [zS, aA, fa_126_5, fa_38_2, aE, ld_26, ac, hl', ia, hld', h115, e2]
        rw [if_pos ct, if_pos ct]
        have fin : ∀ (x1 : Value) (w2 : World), w2.ownsRow 0 3 1 x1 (rg.chunks.length + 1) (ints rg.chunks ++ [.int .i64 want.2.2.1]) → w5.drew.grownBy w2 v.ownBlock → NewB w5.drew v x1 →
            ldC (hp w2 g) (0 + 9) = some (.slice (some ⟨b, 0, none⟩) (toRf m).rgs.length c) ∧ effu Tryz.prog (Instr.storeAt 26 (.pointer (some ⟨b, i * 8 + 5, none⟩)) x1) w2 fun w' => P86_2 (.pointer (some ⟨g, 0, none⟩)) (.int .i64 i) (.pointer (some ⟨g11, 0, none⟩)) (.int .i64 need) w' fun v w' => v = .bool true ∧ ∃ F', RfI w' g (toRf { m with rgs := m.rgs.set i (growV m.c.2.2.1 need rg want) }) F' ∧ UpdP F0 F' W w' := by
          intro x1 w2 ho hg hnb
          obtain ⟨F2, hr2, hu2⟩ := flat_grown (vs := [Value.int .i64 want.2.2.1]) hv ho hg hnb
          have hr2' : intsT (rg.chunks ++ [want.2.2.1]) w2 F2 x1 := by
            rw [intsT, List.length_append]
            have e : ints (rg.chunks ++ [want.2.2.1]) = ints rg.chunks ++ [Value.int .i64 want.2.2.1] := by simp [ints]
            rw [e]; exact hr2
          obtain ⟨ok, s1, s2, hgg, F3, t1, t2⟩ := hput w2 F2 (intsT (rg.chunks ++ [want.2.2.1])) x1 ({ rg with chunks := rg.chunks ++ [want.2.2.1] }, isLv m rg.nm) hu2 (aM _) hr2' rfl
          refine ⟨by rw [hgg]; exact hl, ?_⟩
          rw [st_26 (o := i * 8 + 5) s1 s2 ok]
          have k11 := t2.keep (show hp w5.drew g11 = _ from h115) n11
          have f := l_rAlloc2 (want := want) (need := need) (U.trans (t2.pre c0d)) t1 (at_rr hx) hol (by have := R0.wl; simp only; omega) (by show 0 ≤ m.c.2.2.1; omega) W2 k11.1 k11.2
          rw [set_rr] at f
          have eg : growV m.c.2.2.1 need rg want = { rg with chunks := rg.chunks ++ [want.2.2.1], words := rg.words ++ [List.replicate m.c.2.2.1.toNat 0], off := afterV m.c.2.2.1 need, objs := rg.objs ++ [want] } := by rw [growV, hf]; rfl
          have er := rf_setRg m hi (r' := { rg with chunks := rg.chunks ++ [want.2.2.1], words := rg.words ++ [List.replicate m.c.2.2.1.toNat 0], off := afterV m.c.2.2.1 need, objs := rg.objs ++ [want] }) rfl
          rw [eg, er]
          exact f
        repeat' (with_reducible apply And.intro)
        all_goals
          refine ps_26 (fun u hu => by simp only [List.mem_cons, List.not_mem_nil, or_false] at hu; rcases hu with rfl; rfl) hown (by omega) (Nat.zero_le _) fun x1 w2 ho hg hnb => ?_
          obtain ⟨f1, f2⟩ := fin x1 w2 ho hg hnb
          try simp -implicitDefEqProofs only [zS, aE, f1, ia, fa_126_5]
          exact f2
  · have cn : ∀ {P : Prop}, ¬ (r = (0, want, 0, 0) ∧ P) := fun h => hr h.1
    simp -implicitDefEqProofs only [decide_eq_false hr, zS]
    rw [if_neg cn, if_neg cn]
    exact ⟨by first | rfl | trivial, F, I, U⟩
set_option maxHeartbeats 4000000 in
theorem c_rAlloc (I : RfI w g (toRf m) F) (Wm : Wf m K) (hK : K + 1 ≤ 1000000) (o : OpV) (h : HnV) (r : RsV) (hf : findR m.rgs (nmOf h) = some i) :
    CallR Tryz.prog 86 [.pointer (some ⟨g, 0, none⟩), .agg (opC o).toArray, .agg (hnC h).toArray, .agg (rsC r).toArray] w fun v w' => v = .bool (givesV m o.2.2.2.1 h r).1 ∧ ∃ F', RfI w' g (toRf (givesV m o.2.2.2.1 h r).2) F' ∧ UpdP F F' w w' := by
  apply F86_ok
  obtain ⟨x, hi, hnm⟩ := findR_at hf
  have R0 := Wm.rg x (List.mem_of_getElem? hi)
  have W1 := Wm.w1
  have W2 := Wm.w2
  have hx : (toRf m).rgs[i]? = some (x, isLv m x.nm) := by rw [rgs_rf, hi]; rfl
  have hil := (List.getElem?_eq_some_iff.1 hx).1
  have hlen : (toRf m).rgs.length ≤ 1000000 := by rw [rf_len]; exact Nat.le_trans Wm.rl (by omega)
  have gv : givesV m o.2.2.2.1 h r = if rfitsV x m.c.2.2.1 (roundV x.cls o.2.2.2.1) = false ∧ r = codeR 6 then (true, m)
      else if rfitsV x m.c.2.2.1 (roundV x.cls o.2.2.2.1) = false ∧ (r.2.1.2.2.1 < 0 ∨ m.c.2.1 ≤ r.2.1.2.2.1 ∨ takenV m r.2.1.2.2.1 = true) then (false, m)
      else if r = (0, wantV m.c.2.2.1 (roundV x.cls o.2.2.2.1) o.2.2.2.1 x h r.2.1.2.2.1, 0, 0) then (true, { m with rgs := m.rgs.set i (growV m.c.2.2.1 (roundV x.cls o.2.2.2.1) x (wantV m.c.2.2.1 (roundV x.cls o.2.2.2.1) o.2.2.2.1 x h r.2.1.2.2.1)) })
      else (false, m) := by
    rw [givesV, hf]; simp only [hi]
  simp -implicitDefEqProofs only [F86, ak, au, ae]
  generalize hw : ((w.alloc (.cells (opC o).toArray 36)).alloc _).alloc _ = w1
  have c1 : Chg [] w w1 := by rw [← hw]; exact (((Chg.refl _ _).alloc _).alloc _).alloc _
  have b5 : hp w1 w.heap.size = some (.cells (opC o).toArray 36) := by rw [← hw, aa, ae, ae, if_neg (by omega), aa, ae, if_neg (by omega), aa, if_pos rfl]
  have b6 : hp w1 (w.heap.size + 1) = some (.cells (hnC h).toArray 38) := by rw [← hw, aa, ae, ae, if_neg (by omega), aa, ae, if_pos rfl]
  have b7 : hp w1 (w.heap.size + 1 + 1) = some (.cells (rsC r).toArray 40) := by rw [← hw, aa, ae, ae, if_pos rfl]
  clear hw
  obtain ⟨s, gn, rv, dd, hh, R⟩ := (I.keep c1).rd
  have e0 : (hnC h).toArray[0 + 0]? = some (.int .i64 h.1) := rfl
  have e1 : (hnC h).toArray[0 + 1]? = some (.int .i64 h.2.1) := rfl
  simp -implicitDefEqProofs only [zS, bj, fa_38_1, ac, b6, e0, e1]
  refine (c_rFind R (nmOf h) hlen).step ?_
  rw [findX_rf, hf]
  simp -implicitDefEqProofs only [ixR, zS, aY, ac, b5, op_3]
  refine (c_rFits R hx hlen o.2.2.2.1).mono ?_
  rintro _ w2 ⟨rfl, c2⟩
  have c02 := c1.trans c2
  have d5 := c2.at b5 (by simp)
  have d6 := c2.at b6 (by simp)
  have d7 := c2.at b7 (by simp)
  have hbe : be Tryz.prog .eql 40 (.tmp 24) (.tmp 25) (.agg (rsC r).toArray) (.agg (rsC (codeR 6)).toArray) = some (.bool (decide (r = codeR 6))) := be_rs r (codeR 6)
  have efit : rfitsV (x, isLv m x.nm).1 (toRf m).c.2.2.1 (roundV (x, isLv m x.nm).1.cls o.2.2.2.1) = rfitsV x m.c.2.2.1 (roundV x.cls o.2.2.2.1) := rfl
  rw [efit]
  simp -implicitDefEqProofs only [ld_res d7, bdr_0, hbe, ab]
  by_cases r6 : r = codeR 6
  · simp -implicitDefEqProofs only [decide_eq_true r6, zS]
    cases hfit : rfitsV x m.c.2.2.1 (roundV x.cls o.2.2.2.1) with
    | true =>
      rw [hfit, if_neg (by simp), if_neg (by simp), if_neg (by rw [r6]; intro e; have := congrArg (fun q : RsV => q.1) e; simp [codeR] at this)] at gv
      rw [gv]
      exact ⟨rfl, F, I.keep c02, UpdP.of0 c02⟩
    | false =>
      rw [if_pos ⟨hfit, r6⟩] at gv
      rw [gv]
      exact ⟨rfl, F, I.keep c02, UpdP.of0 c02⟩
  rw [if_neg (fun h => r6 h.2)] at gv
  have bhn : pureRun Tryz.prog (Instr.build 38 #[(0, .int .i64 h.1), (1, .int .i64 h.2.1), (2, .int .i64 r.2.1.2.2.1), (4, .int .i64 o.2.2.2.1)]) = some (.agg (hnC (h.1, h.2.1, r.2.1.2.2.1, 0, o.2.2.2.1)).toArray) := bd_38_0_1_2_4
  simp -implicitDefEqProofs only [decide_eq_false r6, zS, bj, fa_38_1, fa_38_2, fa_40_1, aY, ac, d5, d6, d7, e0, e1, rs_3, op_3, bhn, al_38]
  rw [st_hn (c := (hnC noH).toArray) (e := 38) (by rw [aa, if_pos rfl]; rfl) rfl]
  generalize hw3 : put (w2.alloc _) w2.heap.size _ _ = w3
  have c3 : Chg [] w2 w3 := by rw [← hw3]; exact ((Chg.refl _ _).alloc _).put (.inr (Nat.le_refl _)) _ _
  have a11 : hp w3 w2.heap.size = some (.cells (hnC (h.1, h.2.1, r.2.1.2.2.1, 0, o.2.2.2.1)).toArray 38) := by rw [← hw3]; exact ar (by simp) _ _
  clear hw3
  have c03 := c02.trans c3
  have f5 := c3.at d5 (by simp)
  have f7 := c3.at d7 (by simp)
  have s2 := c02.size
  have nF : ∀ {y}, w.heap.size ≤ y → ¬ F y := fun hy => I.notF hy
  obtain ⟨b, c, hb9, ⟨cv, wv, ov, Q⟩, _⟩ := rf_flag (I.keep c03) hi
  have ia := ia_rgs (b := b) (c := c) hil
  have cd3 : Chg [] w3 w3.drew := (Chg.refl _ _).drew
  simp -implicitDefEqProofs only [zS, aA, fa_126_2, aY, aE, ac, hb9, ia, Q.c2, f5, op_3]
  refine (c_rRound x.cls o.2.2.2.1 w3.drew).step ?_
  have tail : ∀ (want : HnV) w6, Chg [] w2 w6 → hp w6 w2.heap.size = some (.cells (hnC want).toArray 38) →
      P86_0 (.pointer (some ⟨g, 0, none⟩)) (.pointer (some ⟨w.heap.size + 1 + 1, 0, none⟩)) (.int .i64 i) (.bool (rfitsV x m.c.2.2.1 (roundV x.cls o.2.2.2.1))) (.pointer (some ⟨w2.heap.size, 0, none⟩)) (.int .i64 (roundV x.cls o.2.2.2.1)) w6 fun v w' =>
        v = .bool (if r = (0, want, 0, 0) ∧ (rfitsV x m.c.2.2.1 (roundV x.cls o.2.2.2.1) = true ∨ ¬ badV m want.2.2.1) then true else false) ∧ ∃ F', RfI w' g (toRf (if r = (0, want, 0, 0) ∧ (rfitsV x m.c.2.2.1 (roundV x.cls o.2.2.2.1) = true ∨ ¬ badV m want.2.2.1) then { m with rgs := m.rgs.set i (growV m.c.2.2.1 (roundV x.cls o.2.2.2.1) x want) } else m)) F' ∧ UpdP F F' w w' := by
    intro want w6 c6 h11
    have c06 := c02.trans c6
    exact l_rAlloc0 (UpdP.of0 c06) (I.keep c06) Wm hK hi (c6.at d7 (by simp)) h11 (nF (by omega))
  cases hfit : rfitsV x m.c.2.2.1 (roundV x.cls o.2.2.2.1) with
  | true =>
    rw [hfit] at tail
    obtain ⟨f1, f2, f3, f4⟩ := fits_need hfit
    have ew : wantV m.c.2.2.1 (roundV x.cls o.2.2.2.1) o.2.2.2.1 x h r.2.1.2.2.1 = (h.1, h.2.1, newV x.chunks, x.off, o.2.2.2.1) := by rw [wantV, hfit]; rfl
    rw [hfit, ew] at gv
    simp only [Bool.true_eq_false, false_and, if_false] at gv
    have tl : ∀ w6, Chg [] w2 w6 → hp w6 w2.heap.size = some (.cells (hnC (h.1, h.2.1, newV x.chunks, x.off, o.2.2.2.1)).toArray 38) →
        P86_0 (.pointer (some ⟨g, 0, none⟩)) (.pointer (some ⟨w.heap.size + 1 + 1, 0, none⟩)) (.int .i64 i) (.bool true) (.pointer (some ⟨w2.heap.size, 0, none⟩)) (.int .i64 (roundV x.cls o.2.2.2.1)) w6 fun v w' => v = .bool (givesV m o.2.2.2.1 h r).1 ∧ ∃ F', RfI w' g (toRf (givesV m o.2.2.2.1 h r).2) F' ∧ UpdP F F' w w' := by
      intro w6 c6 h11
      have t := tail _ w6 c6 h11
      rw [gv]
      by_cases hr : r = (0, (h.1, h.2.1, newV x.chunks, x.off, o.2.2.2.1), 0, 0)
      · have ct : r = (0, (h.1, h.2.1, newV x.chunks, x.off, o.2.2.2.1), 0, 0) ∧ (true = true ∨ ¬ badV m (newV x.chunks)) := ⟨hr, .inl rfl⟩
        rw [if_pos ct, if_pos ct] at t; rw [if_pos hr]; exact t
      · have cn : ¬ (r = (0, (h.1, h.2.1, newV x.chunks, x.off, o.2.2.2.1), 0, 0) ∧ (true = true ∨ ¬ badV m (newV x.chunks))) := fun h => hr h.1
        rw [if_neg cn, if_neg cn] at t; rw [if_neg hr]; exact t
    have st2 : ∀ w5 L, hp w5 w2.heap.size = some (.cells (hnC (h.1, h.2.1, r.2.1.2.2.1, 0, o.2.2.2.1)).toArray 38) → effu Tryz.prog (Instr.storeAt 3 (.pointer (some ⟨w2.heap.size, 0 + 2, none⟩)) (.int .i64 (newV x.chunks))) w5 L = L (put w5 w2.heap.size (hnC (h.1, h.2.1, newV x.chunks, 0, o.2.2.2.1)).toArray 38) := by
      intro w5 L h5
      rw [st_3 (o := 0 + 2) rfl rfl (by rw [h5]; rfl), h5]; rfl
    have st3 : ∀ w5 L, hp w5 w2.heap.size = some (.cells (hnC (h.1, h.2.1, newV x.chunks, 0, o.2.2.2.1)).toArray 38) → effu Tryz.prog (Instr.storeAt 3 (.pointer (some ⟨w2.heap.size, 0 + 3, none⟩)) (.int .i64 x.off)) w5 L = L (put w5 w2.heap.size (hnC (h.1, h.2.1, newV x.chunks, x.off, o.2.2.2.1)).toArray 38) := by
      intro w5 L h5
      rw [st_3 (o := 0 + 3) rfl rfl (by rw [h5]; rfl), h5]; rfl
    have Qd : ∀ w5, Chg [] w2 w5 → ∃ A cc, ldC (hp w5 g) (0 + 9) = some (.slice (some ⟨b, 0, none⟩) (toRf m).rgs.length c) ∧ ldC (hp w5 b) (i * 8 + 3) = some (.int .i64 x.off) ∧ ldC (hp w5 b) (i * 8 + 5) = some (.slice A x.chunks.length cc) ∧ RdI .i64 w5 A x.chunks := by
      intro w5 c5
      obtain ⟨b', c', hb', ⟨cv', wv', ov', Q'⟩, _⟩ := rf_flag (I.keep (c02.trans c5)) hi
      obtain ⟨b0, c0, hb0, _, _⟩ := rf_flag (I.keep c02) hi
      have e3 := aQ c3 hb0
      rw [hb9] at e3
      cases e3
      rw [aQ c5 hb0] at hb'
      cases hb'
      obtain ⟨A, cc, rfl, hRc⟩ := ints_sh Q'.cT
      exact ⟨A, cc, aQ c5 hb0, Q'.c3, Q'.c5, hRc⟩
    obtain ⟨A, cc, z1, z2, z3, hRc⟩ := Qd w3.drew (c3.trans cd3)
    have z1' : ldC (hp w3 g) (0 + 9) = some (.slice (some ⟨b, 0, none⟩) (toRf m).rgs.length c) := z1
    have z2' : ldC (hp w3 b) (i * 8 + 3) = some (.int .i64 x.off) := z2
    have z3' : ldC (hp w3 b) (i * 8 + 5) = some (.slice A x.chunks.length cc) := z3
    have hlast : x.chunks[x.chunks.length - 1]? = some (newV x.chunks) := by
      rw [newV, if_neg (by omega), List.getD_eq_getElem?_getD, List.getElem?_eq_getElem (show x.chunks.length - 1 < x.chunks.length by omega)]; rfl
    obtain ⟨q, q1, q2⟩ := int_at (c := cc) hRc hlast
    have hlm : (x.chunks.length : Int) - 1 = ((x.chunks.length - 1 : Nat) : Int) := by omega
    have hcl := R0.cl
    have T : ∀ w5, Chg [] w2 w5 → hp w5 w2.heap.size = some (.cells (hnC (h.1, h.2.1, r.2.1.2.2.1, 0, o.2.2.2.1)).toArray 38) →
        hp (put w5 w2.heap.size (hnC (h.1, h.2.1, newV x.chunks, 0, o.2.2.2.1)).toArray 38) w2.heap.size = some (.cells (hnC (h.1, h.2.1, newV x.chunks, 0, o.2.2.2.1)).toArray 38) ∧
        ldC (hp (put w5 w2.heap.size (hnC (h.1, h.2.1, newV x.chunks, 0, o.2.2.2.1)).toArray 38) g) (0 + 9) = some (.slice (some ⟨b, 0, none⟩) (toRf m).rgs.length c) ∧
        ldC (hp (put w5 w2.heap.size (hnC (h.1, h.2.1, newV x.chunks, 0, o.2.2.2.1)).toArray 38) b) (i * 8 + 3) = some (.int .i64 x.off) ∧
        P86_0 (.pointer (some ⟨g, 0, none⟩)) (.pointer (some ⟨w.heap.size + 1 + 1, 0, none⟩)) (.int .i64 i) (.bool true) (.pointer (some ⟨w2.heap.size, 0, none⟩)) (.int .i64 (roundV x.cls o.2.2.2.1)) (put (put w5 w2.heap.size (hnC (h.1, h.2.1, newV x.chunks, 0, o.2.2.2.1)).toArray 38) w2.heap.size (hnC (h.1, h.2.1, newV x.chunks, x.off, o.2.2.2.1)).toArray 38) fun v w' => v = .bool (givesV m o.2.2.2.1 h r).1 ∧ ∃ F', RfI w' g (toRf (givesV m o.2.2.2.1 h r).2) F' ∧ UpdP F F' w w' := by
      intro w5 c5 h5
      have h6 : hp (put w5 w2.heap.size (hnC (h.1, h.2.1, newV x.chunks, 0, o.2.2.2.1)).toArray 38) w2.heap.size = _ := ar (av h5) _ _
      have c26 : Chg [] w2 (put w5 w2.heap.size (hnC (h.1, h.2.1, newV x.chunks, 0, o.2.2.2.1)).toArray 38) := c5.put (.inr (Nat.le_refl _)) _ _
      obtain ⟨A6, cc6, y1, y2, _, _⟩ := Qd _ c26
      exact ⟨h6, y1, y2, tl _ (c26.put (.inr (Nat.le_refl _)) _ _) (ar (av h6) (hnC (h.1, h.2.1, newV x.chunks, x.off, o.2.2.2.1)).toArray 38)⟩
    have a11d : hp w3.drew w2.heap.size = some (.cells (hnC (h.1, h.2.1, r.2.1.2.2.1, 0, o.2.2.2.1)).toArray 38) := a11
    have a11e : hp w3.drew.drew w2.heap.size = some (.cells (hnC (h.1, h.2.1, r.2.1.2.2.1, 0, o.2.2.2.1)).toArray 38) := a11
    obtain ⟨h6, y1, y2, t⟩ := T w3.drew (c3.trans cd3) a11d
    obtain ⟨h6e, y1e, y2e, te⟩ := T w3.drew.drew (c3.trans cd3).drew a11e
    have z1e : ldC (hp w3.drew.drew g) (0 + 9) = some (.slice (some ⟨b, 0, none⟩) (toRf m).rgs.length c) := z1
    have z2e : ldC (hp w3.drew.drew b) (i * 8 + 3) = some (.int .i64 x.off) := z2
    have z3e : ldC (hp w3.drew.drew b) (i * 8 + 5) = some (.slice A x.chunks.length cc) := z3
    have q2' : ldv Tryz.prog 3 (.pointer (some q)) w3.drew = some (.int .i64 (newV x.chunks)) := q2
    have q2e : ldv Tryz.prog 3 (.pointer (some q)) w3.drew.drew = some (.int .i64 (newV x.chunks)) := q2
    simp -implicitDefEqProofs only [zS, aA, fa_126_3, fa_126_5, fa_38_2, fa_38_3, aE, ld_26, ac, z1', z2', z3', z1e, z2e, z3e, ia, len_26, bp_sub, hlm, aq (n := ((x.chunks.length - 1 : Nat) : Int)) (by omega) (by omega), q1, q2', q2e]
    repeat' (with_reducible apply And.intro)
    all_goals first
      | (rw [st2 _ _ a11d]
         try simp -implicitDefEqProofs only [zS, aA, fa_126_3, aE, ac, y1, y2, ia]
         rw [st3 _ _ h6]
         exact t)
      | (rw [st2 _ _ a11e]
         try simp -implicitDefEqProofs only [zS, aA, fa_126_3, aE, ac, y1e, y2e, ia]
         rw [st3 _ _ h6e]
         exact te)
  | false =>
    rw [hfit] at tail
    have ew : wantV m.c.2.2.1 (roundV x.cls o.2.2.2.1) o.2.2.2.1 x h r.2.1.2.2.1 = (h.1, h.2.1, r.2.1.2.2.1, 0, o.2.2.2.1) := by rw [wantV, hfit]; rfl
    rw [hfit, ew] at gv
    simp only [true_and] at gv
    have t := tail _ w3.drew (c3.trans cd3) (show hp w3.drew w2.heap.size = _ from a11)
    simp -implicitDefEqProofs only [zS]
    rw [gv]
    by_cases hb : badV m r.2.1.2.2.1
    · have hb' : r.2.1.2.2.1 < 0 ∨ m.c.2.1 ≤ r.2.1.2.2.1 ∨ takenV m r.2.1.2.2.1 = true := hb
      have cn : ¬ (r = (0, (h.1, h.2.1, r.2.1.2.2.1, 0, o.2.2.2.1), 0, 0) ∧ (false = true ∨ ¬ badV m r.2.1.2.2.1)) := fun ⟨_, h⟩ => by
        rcases h with h | h
        · cases h
        · exact h hb
      rw [if_neg cn, if_neg cn] at t; rw [if_pos hb']; exact t
    · have hb' : ¬ (r.2.1.2.2.1 < 0 ∨ m.c.2.1 ≤ r.2.1.2.2.1 ∨ takenV m r.2.1.2.2.1 = true) := hb
      rw [if_neg hb']
      by_cases hr : r = (0, (h.1, h.2.1, r.2.1.2.2.1, 0, o.2.2.2.1), 0, 0)
      · have ct : r = (0, (h.1, h.2.1, r.2.1.2.2.1, 0, o.2.2.2.1), 0, 0) ∧ (false = true ∨ ¬ badV m r.2.1.2.2.1) := ⟨hr, .inr hb⟩
        rw [if_pos ct, if_pos ct] at t; rw [if_pos hr]; exact t
      · have cn : ¬ (r = (0, (h.1, h.2.1, r.2.1.2.2.1, 0, o.2.2.2.1), 0, 0) ∧ (false = true ∨ ¬ badV m r.2.1.2.2.1)) := fun h => hr h.1
        rw [if_neg cn, if_neg cn] at t; rw [if_neg hr]; exact t
end
end Go.Proofs.YteapggpkgfiacaaGreat

namespace Go.Proofs.YteapggpkgfiacaaGreat
open Go Ev Go.RowKit

section
variable {w : World} {g : Nat} {m : MdV} {F : Fp} {K : Nat}
set_option maxHeartbeats 4000000 in
theorem c_rDo (I : RfI w g (toRf m) F) (Wm : Wf m K) (Wn' : Wn m K) (hK : K + 1 ≤ 1000000) (n : Int) (o : OpV) (h : HnV) (r : RsV) :
    CallR Tryz.prog 61 [.pointer (some ⟨g, 0, none⟩), .int .i64 n, .agg (opC o).toArray, .agg (hnC h).toArray, .agg (rsC r).toArray] w fun v w' => v = .bool (doV m n o h r).1 ∧ ∃ F', RfI w' g (toRf (doV m n o h r).2) F' ∧ UpdP F F' w w' := by
  apply F61_ok
  simp -implicitDefEqProofs only [F61, ak, au, ae]
  generalize hw : ((w.alloc (.cells (opC o).toArray 36)).alloc _).alloc _ = w1
  have c1 : Chg [] w w1 := by rw [← hw]; exact (((Chg.refl _ _).alloc _).alloc _).alloc _
  have a7 : hp w1 w.heap.size = some (.cells (opC o).toArray 36) := by rw [← hw, aa, ae, ae, if_neg (by omega), aa, ae, if_neg (by omega), aa, if_pos rfl]
  have a8 : hp w1 (w.heap.size + 1) = some (.cells (hnC h).toArray 38) := by rw [← hw, aa, ae, ae, if_neg (by omega), aa, ae, if_pos rfl]
  have a9 : hp w1 (w.heap.size + 1 + 1) = some (.cells (rsC r).toArray 40) := by rw [← hw, aa, ae, ae, if_pos rfl]
  clear hw
  have ldo : ∀ w', hp w' w.heap.size = some (.cells (opC o).toArray 36) → ldv Tryz.prog 36 (.pointer (some ⟨w.heap.size, 0, none⟩)) w' = some (.agg (opC o).toArray) := fun w' hw => aJ (t := 36) (c := (opC o).toArray) ag_36 (show (Tryz.prog.info? 36).map (·.size) = some (opC o).toArray.size from sz_36) hw
  simp -implicitDefEqProofs only [ab, ldo _ a7]
  refine (c_refMay o w1).mono ?_
  rintro _ w2 ⟨rfl, c2⟩
  have c02 := c1.trans c2
  have b7 := c2.at a7 (by simp)
  have b8 := c2.at a8 (by simp)
  obtain ⟨s, gn, rv, dd, hh, R⟩ := (I.keep c02).rd
  have hc0 : ldC (hp w2 g) (0 + 0 + 0) = some (.int .i64 m.c.1) := R.c 0 (by omega)
  have bad : mayV m n o = false → doV m n o h r = (false, m) := fun e => by rw [doV, if_pos e]
  cases hmo : mayO o with
  | false =>
    simp -implicitDefEqProofs only [zS]
    rw [bad (by simp [mayV, hmo])]
    exact ⟨by first | rfl | trivial, F, I.keep c02, UpdP.of0 c02⟩
  | true =>
  by_cases n0 : n < 0
  · simp -implicitDefEqProofs only [zS, n0]
    rw [bad (by simp only [mayV, Bool.and_eq_false_iff, decide_eq_false_iff_not]; omega)]
    exact ⟨by first | rfl | trivial, F, I.keep c02, UpdP.of0 c02⟩
  by_cases n1 : m.c.1 ≤ n
  · simp -implicitDefEqProofs only [zS, n0, fa_112_0, fa_23_0, ac, hc0, aD, n1, ge_iff_le]
    have := Wn'.cw
    rw [bad (by simp only [mayV, Bool.and_eq_false_iff, decide_eq_false_iff_not]; omega)]
    exact ⟨by first | rfl | trivial, F, I.keep c02, UpdP.of0 c02⟩
  obtain ⟨nn, rfl⟩ := Int.eq_ofNat_of_zero_le (show 0 ≤ n by omega)
  have hm : mayV m nn o = true := by
    have := Wn'.cw
    rw [mayV, hmo, decide_eq_true (show (0 : Int) ≤ nn by omega), decide_eq_true (show (nn : Int) < m.hands.length by omega)]; rfl
  obtain ⟨d, hd⟩ := may_hd hm
  have hd' : m.hands[nn]? = some d := hd
  simp -implicitDefEqProofs only [zS, n0, fa_112_0, fa_23_0, ac, hc0, aD, n1, ge_iff_le, ldo _ b7, ld_hn b8]
  refine (c_rMust (I.keep c02) Wm (by omega) hm h).mono ?_
  rintro _ w3 ⟨rfl, c3⟩
  have c13 := c2.trans c3
  have c03 := c1.trans c13
  simp -implicitDefEqProofs only [tup0, tup1, zS, al_40]
  rw [st_res (c := (rsC noR).toArray) (e := 40) (by rw [aa, if_pos rfl]; rfl) rfl]
  generalize hw4 : put (w3.alloc _) w3.heap.size _ _ = w4
  have c4 : Chg [] w3 w4 := by rw [← hw4]; exact ((Chg.refl _ _).alloc _).put (.inr (Nat.le_refl _)) _ _
  have a11 : hp w4 w3.heap.size = some (.cells (rsC (mustV m nn o h).1).toArray 40) := by rw [← hw4]; exact ar (by simp) _ _
  clear hw4
  have c14 := c13.trans c4
  have c04 := c1.trans c14
  have d7 := c14.at a7 (by simp)
  have d8 := c14.at a8 (by simp)
  have d9 := c14.at a9 (by simp)
  have hbe : be Tryz.prog .neq 40 (.tmp 39) (.tmp 40) (.agg (rsC r).toArray) (.agg (rsC (mustV m nn o h).1).toArray) = some (.bool (!decide (r = (mustV m nn o h).1))) := be_nrs r _
  cases hi : (mustV m nn o h).2 with
  | true =>
    simp -implicitDefEqProofs only [zS, ld_res d9, ld_res a11, hbe]
    have ed : doV m nn o h r = if r = (mustV m nn o h).1 then (true, if r.1 = 0 then doesV m nn o h else m) else (false, m) := by rw [doV, if_neg (by rw [hm]; simp), if_pos hi]
    by_cases hr : r = (mustV m nn o h).1
    · rw [if_pos hr] at ed
      simp -implicitDefEqProofs only [decide_eq_true hr, zS, fa_40_0, ld_27, d9, rs_0]
      by_cases h0 : r.1 = 0
      · rw [if_pos h0] at ed
        have e0 : (r.1 == 0) = true := by rw [h0]; rfl
        have hrf := must_fine hm hd (by rw [← hr]; exact h0)
        simp -implicitDefEqProofs only [e0, zS, ldo _ d7, ld_hn d8]
        refine (c_rDoes (I.keep c04) Wm (by omega) Wn' hm hd' hrf).mono ?_
        rintro _ w5 ⟨rfl, F5, i5, u5⟩
        apply L61_0_ok
        rw [ed]
        exact ⟨rfl, F5, i5, u5.pre c04⟩
      · rw [if_neg h0] at ed
        simp -implicitDefEqProofs only [eqf h0, zS]
        apply L61_0_ok
        rw [ed]
        exact ⟨rfl, F, I.keep c04, UpdP.of0 c04⟩
    · rw [if_neg hr] at ed
      simp -implicitDefEqProofs only [decide_eq_false hr, zS]
      rw [ed]
      exact ⟨by first | rfl | trivial, F, I.keep c04, UpdP.of0 c04⟩
  | false =>
    obtain ⟨hrf, hk⟩ := must_open hm hd hi
    have ed : doV m nn o h r = if o.1 = 1 then createsV m o.2.2.2.1 r else givesV m o.2.2.2.1 h r := by rw [doV, if_neg (by rw [hm]; simp), if_neg (by rw [hi]; simp)]
    by_cases k1 : o.1 = 1
    · rw [if_pos k1] at ed
      have q : (o.1 == 1) = true := by rw [k1]; rfl
      simp -implicitDefEqProofs only [zS, aj, ac, d7, az, q, ld_res d9, ldo _ d7]
      refine (c_rCreate (I.keep c04) Wm Wn' hK o r).mono ?_
      rintro _ w5 ⟨rfl, F5, i5, u5⟩
      rw [ed]
      exact ⟨rfl, F5, i5, u5.pre c04⟩
    · rw [if_neg k1] at ed
      obtain ⟨i, x, hf, _, _, _⟩ := region_ok hrf (by omega)
      simp -implicitDefEqProofs only [zS, aj, ac, d7, az, eqf k1, ld_res d9, ld_hn d8, ldo _ d7]
      refine (c_rAlloc (I.keep c04) Wm hK o h r hf).mono ?_
      rintro _ w5 ⟨rfl, F5, i5, u5⟩
      rw [ed]
      exact ⟨rfl, F5, i5, u5.pre c04⟩
end
end Go.Proofs.YteapggpkgfiacaaGreat

namespace Go.Proofs.YteapggpkgfiacaaGreat
open Go Ev Go.RowKit

theorem rd_chgP {F : Fp} {w w' : World} {A : Option Addr} {cs : List Value} (h : RdV w A cs) (hc : ChgP F w w') (hn : ∀ p, A = some p → cs ≠ [] → ¬ F p.block) : RdV w' A cs := fun j u hj => by
  obtain ⟨p, hp, hcell⟩ := h j u hj
  have hbl : (p.add j).block = p.block := by unfold Addr.add; split <;> rfl
  have hF := hn p hp fun h => by rw [h] at hj; simp at hj
  have : w'.heap[(p.add j).block]? = w.heap[(p.add j).block]? := hc.block (p.add j).block (cell_lt hcell) (by rw [hbl]; exact hF)
  refine ⟨p, hp, ?_⟩
  unfold World.cell? at hcell ⊢
  rw [this]; exact hcell
structure EvR (w : World) (F : Fp) (A : Option Addr) (E : List EvV) : Prop where
  rd : RdV w A (E.flatMap evC)
  ne : ∀ p, A = some p → E ≠ [] → ¬ F p.block
section
variable {W w w' : World} {F F' : Fp} {A : Option Addr} {E : List EvV} {l : List SpV} {g K : Nat} {m : MdV}
theorem EvR.lt (h : EvR w F A E) {p : Addr} (hp : A = some p) (hE : E ≠ []) : p.block < w.heap.size := by
  cases E with
  | nil => exact absurd rfl hE
  | cons e E =>
    obtain ⟨q, hq, hc⟩ := h.rd 0 (.int .i64 e.1) (by simp [evC])
    rw [hp] at hq; cases hq
    have := cell_lt hc
    simpa [Addr.add] using this
theorem EvR.upd (h : EvR w F A E) (u : UpdP F F' w w') : EvR w' F' A E :=
  ⟨rd_chgP h.rd u.chg fun p hp hn => h.ne p hp fun he => hn (by rw [he]; rfl), fun p hp hE hF => by
    rcases u.sub _ hF with h1 | h1
    · exact h.ne p hp hE h1
    · have := h.lt hp hE; omega⟩
theorem EvR.keep (h : EvR w F A E) (c : Chg [] w w') : EvR w' F A E := h.upd (UpdP.of0 c)
theorem At.ldre {b : Nat} {s : SpV} {e : TypeId} (h : hp w b = some (.cells (spA s) e)) : ldv Tryz.prog 40 (.pointer (some ⟨b, 0 + 12, none⟩)) w = some (.agg (rsC s.re).toArray) := by
  rw [ld_40, h]; rfl
theorem chg_updP {a b c : World} {F F' : Fp} (h : Chg [] a b) (u : UpdP F F' b c) (hF : ∀ k, F k → a.heap.size ≤ k) : Chg [] a c :=
  ⟨u.chg.os.trans h.os, u.chg.tape.trans h.tape, u.chg.output.trans h.output, Nat.le_trans h.size u.chg.size, fun k hk hn => (u.chg.block k (Nat.lt_of_lt_of_le hk h.size) fun hf => by have := hF k hf; omega).trans (h.block k hk hn)⟩
theorem updP_new {a b c : World} {F F' : Fp} (h : Chg [] a b) (u : UpdP F F' b c) (hF : ∀ k, F k → a.heap.size ≤ k) : ∀ k, F' k → a.heap.size ≤ k := fun k hk => by
  rcases u.sub k hk with h1 | h1
  · exact hF k h1
  · have := h.size; omega
end
end Go.Proofs.YteapggpkgfiacaaGreat

namespace Go.Proofs.YteapggpkgfiacaaGreat
open Go Ev Go.RowKit
end Go.Proofs.YteapggpkgfiacaaGreat

namespace Go.Proofs.YteapggpkgfiacaaGreat
open Go Ev Go.RowKit

def overV (l : List SpV) (put : List Int) : Bool := (List.range l.length).all fun k => match l[k]? with | some s => !(decide (0 ≤ s.rs) && !put.contains (k : Int)) | none => true
def nextV (l : List SpV) (put : List Int) (i : Nat) : Bool := ((List.range l.length).all fun k => match l[k]?, l[i]? with | some a, some s => !(decide (0 ≤ a.rs) && (!put.contains (k : Int) && ahead a s)) | _, _ => true) && !put.contains (i : Int)
abbrev SkO := Bool × List Int × Int × Bool
def resV (l : List SpV) (m : MdV) (s : SpV) : Option RsV := if s.rs < 0 ∧ s.pt < 0 then (if (mustV m s.wk s.op (handV l s)).2 = true then some (mustV m s.wk s.op (handV l s)).1 else none) else some s.re
def goV (rec : MdV → List Int → Int → SkO) (l : List SpV) (top : Int) (m : MdV) (put : List Int) : List Nat → Int → SkO
  | [], t => (false, put, t, false)
  | i :: is, t =>
    if nextV l put i = false then goV rec l top m put is t else
    match l[i]? with
    | none => (false, put, t, false)
    | some s =>
      match resV l m s with
      | none => goV rec l top m put is t
      | some r =>
        if top ≤ t then (false, put, t, true) else
        if (doV m s.wk s.op (handV l s) r).1 = false then goV rec l top m put is (t + 1) else
        match rec (doV m s.wk s.op (handV l s) r).2 (put ++ [(i : Int)]) (t + 1) with
        | (true, p', t', mn) => (true, p', t', mn)
        | (false, p', t', true) => (false, p', t', true)
        | (false, p', t', false) => goV rec l top m put is t'
def findV (l : List SpV) (top : Int) : Nat → MdV → List Int → Int → SkO
  | 0, _, put, t => (false, put, t, false)
  | f + 1, m, put, t => if overV l put = true then (true, put, t, false) else goV (findV l top f) l top m put (List.range l.length) t
noncomputable def findTop (c : CfV) (l : List SpV) (most : Int) : List Int × Int :=
  if mayC c = true ∧ mayB l = true ∧ l.length ≤ 12 then
    match findV l (max most 0) (l.length + 1) (newM c true) [] 0 with
    | (true, p, _, _) => (p, 0)
    | (false, _, _, true) => ([], 11)
    | (false, _, _, false) => ([], 10)
  else ([], 1)
theorem goV_put {rec : MdV → List Int → Int → SkO} {l : List SpV} {top : Int} {m : MdV} {put : List Int} : ∀ {is : List Nat} {t : Int}, (goV rec l top m put is t).1 = false → (goV rec l top m put is t).2.2.2 = false → (goV rec l top m put is t).2.1 = put
  | [], t, _, _ => rfl
  | i :: is, t, h1, h2 => by
    unfold goV at h1 h2 ⊢
    split
    · rename_i hn
      rw [if_pos hn] at h1 h2
      exact goV_put h1 h2
    · rename_i hn
      rw [if_neg hn] at h1 h2
      cases hl : l[i]? with
      | none => rfl
      | some s =>
        rw [hl] at h1 h2
        simp only at h1 h2 ⊢
        cases hr : resV l m s with
        | none => rw [hr] at h1 h2; exact goV_put h1 h2
        | some r =>
          rw [hr] at h1 h2
          simp only at h1 h2 ⊢
          split
          · rfl
          · rename_i ht
            rw [if_neg ht] at h1 h2
            split
            · rename_i hd
              rw [if_pos hd] at h1 h2
              exact goV_put h1 h2
            · rename_i hd
              rw [if_neg hd] at h1 h2
              generalize rec (doV m s.wk s.op (handV l s) r).2 (put ++ [(i : Int)]) (t + 1) = R at *
              obtain ⟨b, p', t', mn⟩ := R
              cases b with
              | true => simp at h1
              | false =>
                cases mn with
                | true => simp at h2
                | false => exact goV_put h1 h2
theorem findV_put {l : List SpV} {top : Int} : ∀ {f : Nat} {m : MdV} {put : List Int} {t : Int}, (findV l top f m put t).1 = false → (findV l top f m put t).2.2.2 = false → (findV l top f m put t).2.1 = put
  | 0, m, put, t, _, _ => rfl
  | f + 1, m, put, t, h1, h2 => by
    unfold findV at h1 h2 ⊢
    split
    · rfl
    · rename_i h
      rw [if_neg h] at h1 h2
      exact goV_put h1 h2
def skA (A Ah : Option Addr) (n cs ch : Nat) (pv : Value) (t top : Int) (mn : Bool) : Array Value := #[.slice A n cs, .slice Ah n ch, pv, .int .i64 t, .int .i64 top, .bool mn]
section
variable {w : World} {sk : Nat} {A Ah : Option Addr} {n cs ch : Nat} {pv : Value} {t top : Int} {mn : Bool} {l : List SpV} {put : List Int} {e : TypeId}
theorem sk0 (h : hp w sk = some (.cells (skA A Ah n cs ch pv t top mn) e)) : ldC (hp w sk) (0 + 0) = some (.slice A n cs) := by rw [h, aH]; rfl
theorem sk1 (h : hp w sk = some (.cells (skA A Ah n cs ch pv t top mn) e)) : ldC (hp w sk) (0 + 1) = some (.slice Ah n ch) := by rw [h, aH]; rfl
theorem sk2 (h : hp w sk = some (.cells (skA A Ah n cs ch pv t top mn) e)) : ldC (hp w sk) (0 + 2) = some pv := by rw [h, aH]; rfl
theorem sk3 (h : hp w sk = some (.cells (skA A Ah n cs ch pv t top mn) e)) : ldC (hp w sk) (0 + 3) = some (.int .i64 t) := by rw [h, aH]; rfl
theorem sk4 (h : hp w sk = some (.cells (skA A Ah n cs ch pv t top mn) e)) : ldC (hp w sk) (0 + 4) = some (.int .i64 top) := by rw [h, aH]; rfl
theorem sk5 (h : hp w sk = some (.cells (skA A Ah n cs ch pv t top mn) e)) : ldC (hp w sk) (0 + 5) = some (.bool mn) := by rw [h, aH]; rfl
theorem c_sIs (h : hp w sk = some (.cells (skA A Ah n cs ch pv t top mn) 46)) (hp' : SlI w pv put) (hl : put.length ≤ 1000) (i : Int) : CallR Tryz.prog 38 [.pointer (some ⟨sk, 0, none⟩), .int .i64 i] w fun v w' => v = .bool (put.contains i) ∧ w' = w := by
  apply F38_ok
  simp -implicitDefEqProofs only [F38, ah, zS, fa_46_2, ld_26, sk2 h]
  exact (c_Contains (by omega) hp' i).mono fun _ _ h => h
theorem all_false {p : Nat → Bool} {k n : Nat} (hk : k < n) (h : p k = false) : (List.range n).all p = false := List.all_eq_false.2 ⟨k, List.mem_range.2 hk, by rw [h]; simp⟩
theorem all_true {p : Nat → Bool} {n : Nat} (h : ∀ k, k < n → p k = true) : (List.range n).all p = true := List.all_eq_true.2 fun k hk => h k (List.mem_range.1 hk)
theorem l_sOver {W : World} (hl : l.length ≤ 1000) (hA : RdV W A (l.flatMap spC)) (hpl : put.length ≤ 1000) : ∀ (d k : Nat) (w : World), Chg [] W w → hp w sk = some (.cells (skA A Ah l.length cs ch pv t top mn) 46) → SlI w pv put → k + d = l.length →
    (∀ j s, j < k → l[j]? = some s → (!(decide (0 ≤ s.rs) && !put.contains (j : Int))) = true) →
    P28_0 (.pointer (some ⟨sk, 0, none⟩)) (.slice A l.length cs) (.int .i64 l.length) (.int .i64 k) w fun v w' => v = .bool (overV l put) ∧ Chg [] W w' := by
  intro d
  induction d with
  | zero =>
    intro k w hW h hp' hk hall
    apply L28_0_ok
    have : ¬ ((k : Int) < l.length) := by omega
    simp -implicitDefEqProofs only [L28_0, zS, this]
    refine ⟨?_, hW⟩
    have : overV l put = true := all_true fun j hj => by
      rw [List.getElem?_eq_getElem hj]
      exact hall j l[j] (by omega) (List.getElem?_eq_getElem hj)
    rw [this]
  | succ d ih =>
    intro k w hW h hp' hk hall
    apply L28_0_ok
    have hlt : (k : Int) < l.length := by omega
    have hkl : k < l.length := by omega
    obtain ⟨b, o, q1, q2⟩ := sp_at' (c := cs) (j := .i64) (i := k) (hA.keep hW.below) hkl
    simp -implicitDefEqProofs only [L28_0, zS, hlt, q1, q2.ld, al_42]
    rw [st_42 (by rfl) (by rfl) (by rw [aa, if_pos rfl]; rfl) (by rw [aa, if_pos rfl]; rfl), aa, if_pos rfl, ay]
    generalize hw1 : Ev.put (w.alloc _) w.heap.size (spA l[k]) 42 = w1
    have hc0 : Chg [] w w1 := by rw [← hw1]; exact ((Chg.refl _ _).alloc _).put (.inr (Nat.le_refl _)) _ _
    have hg : hp w1 w.heap.size = some (.cells (spA l[k]) 42) := by rw [← hw1, aR, if_pos rfl, if_pos (by simp)]
    clear hw1
    have hW1 := hW.trans hc0
    have h1 := hc0.at h (by simp)
    have hp1 := hp'.keep hc0.below
    have f11 : ldC (hp w1 w.heap.size) (0 + 11) = some (.int .i64 l[k].rs) := sp_c hg 11
    have next : (!(decide (0 ≤ l[k].rs) && !put.contains (k : Int))) = true → P28_0 (.pointer (some ⟨sk, 0, none⟩)) (.slice A l.length cs) (.int .i64 l.length) (.int .i64 ((k : Int) + 1)) w1 fun v w' => v = .bool (overV l put) ∧ Chg [] W w' := fun hn =>
      ih (k + 1) w1 hW1 h1 hp1 (by omega) fun j s hj hs => by
        rcases Nat.lt_or_ge j k with hj' | hj'
        · exact hall j s hj' hs
        · have : j = k := by omega
          subst this
          rw [List.getElem?_eq_getElem hkl] at hs; cases hs; exact hn
    have wr := aq (n := (k : Int) + 1) (by omega) (by omega)
    by_cases h0 : 0 ≤ l[k].rs
    · simp -implicitDefEqProofs only [zS, fa_42_6, ac, f11, aD, h0]
      refine (c_sIs h1 hp1 hpl (k : Int)).step ?_
      cases hc : put.contains (k : Int) with
      | true =>
        simp -implicitDefEqProofs only [zS, am, wr]
        exact next (by rw [hc]; simp)
      | false =>
        simp -implicitDefEqProofs only [zS]
        refine ⟨?_, hW1⟩
        have : overV l put = false := all_false hkl (by rw [List.getElem?_eq_getElem hkl]; simp only [hc, decide_eq_true h0]; rfl)
        rw [this]
    · simp -implicitDefEqProofs only [zS, fa_42_6, ac, f11, aD, h0, am, wr]
      exact next (by simp [h0])
theorem c_sOver (hl : l.length ≤ 1000) (hA : RdV w A (l.flatMap spC)) (hpl : put.length ≤ 1000) (h : hp w sk = some (.cells (skA A Ah l.length cs ch pv t top mn) 46)) (hp' : SlI w pv put) : CallR Tryz.prog 28 [.pointer (some ⟨sk, 0, none⟩)] w fun v w' => v = .bool (overV l put) ∧ Chg [] w w' := by
  apply F28_ok
  simp -implicitDefEqProofs only [F28, ah, zS, fa_46_0, ld_24, sk0 h, len_24]
  exact l_sOver hl hA hpl l.length 0 w (Chg.refl _ _) h hp' (by omega) fun j s hj => by omega
end
end Go.Proofs.YteapggpkgfiacaaGreat

namespace Go.Proofs.YteapggpkgfiacaaGreat
open Go Ev Go.RowKit

section
variable {w : World} {sk : Nat} {A Ah : Option Addr} {n cs ch : Nat} {pv : Value} {t top : Int} {mn : Bool} {l : List SpV} {put : List Int} {e : TypeId}
theorem l_sMay {W : World} (hl : l.length ≤ 1000) (hA : RdV W A (l.flatMap spC)) (hpl : put.length ≤ 1000) {i : Nat} (hi : i < l.length) : ∀ (d k : Nat) (w : World), Chg [] W w → hp w sk = some (.cells (skA A Ah l.length cs ch pv t top mn) 46) → SlI w pv put → k + d = l.length →
    (∀ j a, j < k → l[j]? = some a → (!(decide (0 ≤ a.rs) && (!put.contains (j : Int) && ahead a l[i]))) = true) →
    P29_0 (.pointer (some ⟨sk, 0, none⟩)) (.int .i64 i) (.slice A l.length cs) (.int .i64 l.length) (.int .i64 k) w fun v w' => v = .bool (nextV l put i) ∧ Chg [] W w' := by
  intro d
  induction d with
  | zero =>
    intro k w hW h hp' hk hall
    apply L29_0_ok
    have : ¬ ((k : Int) < l.length) := by omega
    simp -implicitDefEqProofs only [L29_0, zS, this]
    refine (c_sIs h hp' hpl (i : Int)).step ?_
    simp -implicitDefEqProofs only [zS]
    refine ⟨?_, hW⟩
    have : nextV l put i = !put.contains (i : Int) := by
      unfold nextV
      rw [all_true fun j hj => ?_, Bool.true_and]
      rw [List.getElem?_eq_getElem hj, List.getElem?_eq_getElem hi]
      exact hall j l[j] (by omega) (List.getElem?_eq_getElem hj)
    rw [this]
  | succ d ih =>
    intro k w hW h hp' hk hall
    apply L29_0_ok
    have hlt : (k : Int) < l.length := by omega
    have hkl : k < l.length := by omega
    obtain ⟨b, o, q1, q2⟩ := sp_at' (c := cs) (j := .i64) (i := k) (hA.keep hW.below) hkl
    obtain ⟨b', o', r1, r2⟩ := sp_at' (c := cs) (j := .i64) (i := i) (hA.keep hW.below) hi
    simp -implicitDefEqProofs only [L29_0, zS, hlt, q1, q2.ld, al_42]
    rw [st_42 (by rfl) (by rfl) (by rw [aa, if_pos rfl]; rfl) (by rw [aa, if_pos rfl]; rfl), aa, if_pos rfl, ay]
    generalize hw1 : Ev.put (w.alloc _) w.heap.size (spA l[k]) 42 = w1
    have hc0 : Chg [] w w1 := by rw [← hw1]; exact ((Chg.refl _ _).alloc _).put (.inr (Nat.le_refl _)) _ _
    have hg : hp w1 w.heap.size = some (.cells (spA l[k]) 42) := by rw [← hw1, aR, if_pos rfl, if_pos (by simp)]
    clear hw1
    have hW1 := hW.trans hc0
    have h1 := hc0.at h (by simp)
    have hp1 := hp'.keep hc0.below
    have r2 := r2.keep hc0
    have f11 : ldC (hp w1 w.heap.size) (0 + 11) = some (.int .i64 l[k].rs) := sp_c hg 11
    have hd : Chg [] w1 w1.drew := (Chg.refl _ _).drew
    have h1d : hp w1.drew sk = some (.cells (skA A Ah l.length cs ch pv t top mn) 46) := h1
    have hp1d := hp1.keep hd.below
    have next : (!(decide (0 ≤ l[k].rs) && (!put.contains (k : Int) && ahead l[k] l[i]))) = true → ∀ w2, Chg [] w1 w2 → P29_0 (.pointer (some ⟨sk, 0, none⟩)) (.int .i64 i) (.slice A l.length cs) (.int .i64 l.length) (.int .i64 ((k : Int) + 1)) w2 fun v w' => v = .bool (nextV l put i) ∧ Chg [] W w' := fun hn w2 c2 =>
      ih (k + 1) w2 (hW1.trans c2) (c2.at h1 (by simp)) (hp1.keep c2.below) (by omega) fun j s hj hs => by
        rcases Nat.lt_or_ge j k with hj' | hj'
        · exact hall j s hj' hs
        · have : j = k := by omega
          subst this
          rw [List.getElem?_eq_getElem hkl] at hs; cases hs; exact hn
    have wr := aq (n := (k : Int) + 1) (by omega) (by omega)
    by_cases h0 : 0 ≤ l[k].rs
    · simp -implicitDefEqProofs only [zS, fa_42_6, ac, aT, f11, aD, h0]
      refine (c_sIs h1d hp1d hpl (k : Int)).step ?_
      cases hc : put.contains (k : Int) with
      | true =>
        simp -implicitDefEqProofs only [zS, am, wr]
        exact next (by rw [hc]; simp) _ hd
      | false =>
        have hgd : At w1.drew w.heap.size 0 l[k] := at_blk hg
        simp -implicitDefEqProofs only [zS, ah, fa_46_0, ld_24, aT, sk0 h1, r1, hgd.ld, (r2.keep hd).ld]
        refine (c_Ahead l[k] l[i] w1.drew).mono ?_
        rintro _ w2 ⟨rfl, c2⟩
        have c2 := hd.trans c2
        cases hah : ahead l[k] l[i] with
        | true =>
          simp -implicitDefEqProofs only [zS]
          refine ⟨?_, hW1.trans c2⟩
          have : nextV l put i = false := by
            unfold nextV
            rw [all_false hkl (by rw [List.getElem?_eq_getElem hkl, List.getElem?_eq_getElem hi]; simp only [hc, hah, decide_eq_true h0]; rfl), Bool.false_and]
          rw [this]
        | false =>
          simp -implicitDefEqProofs only [zS, am, wr]
          exact next (by rw [hah]; simp) _ c2
    · simp -implicitDefEqProofs only [zS, fa_42_6, ac, aT, f11, aD, h0, am, wr]
      exact next (by simp [h0]) _ hd
theorem c_sMay (hl : l.length ≤ 1000) (hA : RdV w A (l.flatMap spC)) (hpl : put.length ≤ 1000) (h : hp w sk = some (.cells (skA A Ah l.length cs ch pv t top mn) 46)) (hp' : SlI w pv put) {i : Nat} (hi : i < l.length) : CallR Tryz.prog 29 [.pointer (some ⟨sk, 0, none⟩), .int .i64 i] w fun v w' => v = .bool (nextV l put i) ∧ Chg [] w w' := by
  apply F29_ok
  simp -implicitDefEqProofs only [F29, ah, zS, fa_46_0, ld_24, sk0 h, len_24]
  exact l_sMay hl hA hpl hi l.length 0 w (Chg.refl _ _) h hp' (by omega) fun j s hj => by omega
end
end Go.Proofs.YteapggpkgfiacaaGreat

namespace Go.Proofs.YteapggpkgfiacaaGreat
open Go Ev Go.RowKit

section
variable {w : World} {A : Option Addr} {c n : Nat} {cs : List Value}
theorem rd_none (h : RdV w none cs) : cs = [] := by
  cases cs with
  | nil => rfl
  | cons u us => obtain ⟨p, hp, _⟩ := h 0 u rfl; cases hp
set_option maxHeartbeats 1000000 in
theorem c_clSlot (hR : RdV w A cs) (hl : cs.length = n * 2) (h1 : ∀ u ∈ cs, u.oneCell' = true) (hn : n ≤ 1000000) :
    CallR Tryz.prog 44 [.slice A n c] w fun v w' => w'.ownsRow w.heap.size 92 2 v n cs ∧ Chg [] w w' := by
  apply F44_ok
  cases A with
  | none =>
    have hcs := rd_none hR
    subst hcs
    have hn0 : n = 0 := by simp at hl; omega
    subst hn0
    simp -implicitDefEqProofs only [F44, be_eqlsl Tryz.underlying57, z7z, ab, aG]
    exact ⟨World.ownsRow_nil _ _ _ _, Chg.refl _ _⟩
  | some p =>
    simp -implicitDefEqProofs only [F44, be_eqlsl Tryz.underlying57, z8z, ab, aC]
    obtain ⟨i, hi, hz, hs, hb⟩ := inf_92
    exact eff_clone (size := 2) Tryz.underlying57 hi hz hs rfl (by omega) hl hR h1 (by unfold maxLen; omega) (by rw [hb]; omega) fun x' w' ho hc => ⟨ho, hc⟩
set_option maxHeartbeats 1000000 in
theorem c_clHand (hR : RdV w A cs) (hl : cs.length = n * 2) (h1 : ∀ u ∈ cs, u.oneCell' = true) (hn : n ≤ 1000000) :
    CallR Tryz.prog 45 [.slice A n c] w fun v w' => w'.ownsRow w.heap.size 96 2 v n cs ∧ Chg [] w w' := by
  apply F45_ok
  cases A with
  | none =>
    have hcs := rd_none hR
    subst hcs
    have hn0 : n = 0 := by simp at hl; omega
    subst hn0
    simp -implicitDefEqProofs only [F45, be_eqlsl Tryz.underlying59, z7z, ab, aG]
    exact ⟨World.ownsRow_nil _ _ _ _, Chg.refl _ _⟩
  | some p =>
    simp -implicitDefEqProofs only [F45, be_eqlsl Tryz.underlying59, z8z, ab, aC]
    obtain ⟨i, hi, hz, hs, hb⟩ := inf_96
    exact eff_clone (size := 2) Tryz.underlying59 hi hz hs rfl (by omega) hl hR h1 (by unfold maxLen; omega) (by rw [hb]; omega) fun x' w' ho hc => ⟨ho, hc⟩
set_option maxHeartbeats 1000000 in
theorem c_clName (hR : RdV w A cs) (hl : cs.length = n * 2) (h1 : ∀ u ∈ cs, u.oneCell' = true) (hn : n ≤ 1000000) :
    CallR Tryz.prog 46 [.slice A n c] w fun v w' => w'.ownsRow w.heap.size 83 2 v n cs ∧ Chg [] w w' := by
  apply F46_ok
  cases A with
  | none =>
    have hcs := rd_none hR
    subst hcs
    have hn0 : n = 0 := by simp at hl; omega
    subst hn0
    simp -implicitDefEqProofs only [F46, be_eqlsl Tryz.underlying94, z7z, ab, aG]
    exact ⟨World.ownsRow_nil _ _ _ _, Chg.refl _ _⟩
  | some p =>
    simp -implicitDefEqProofs only [F46, be_eqlsl Tryz.underlying94, z8z, ab, aC]
    obtain ⟨i, hi, hz, hs, hb⟩ := inf_83
    exact eff_clone (size := 2) Tryz.underlying94 hi hz hs rfl (by omega) hl hR h1 (by unfold maxLen; omega) (by rw [hb]; omega) fun x' w' ho hc => ⟨ho, hc⟩
set_option maxHeartbeats 1000000 in
theorem c_clRegion (hR : RdV w A cs) (hl : cs.length = n * 7) (h1 : ∀ u ∈ cs, u.oneCell' = true) (hn : n ≤ 1000000) :
    CallR Tryz.prog 47 [.slice A n c] w fun v w' => w'.ownsRow w.heap.size 86 7 v n cs ∧ Chg [] w w' := by
  apply F47_ok
  cases A with
  | none =>
    have hcs := rd_none hR
    subst hcs
    have hn0 : n = 0 := by simp at hl; omega
    subst hn0
    simp -implicitDefEqProofs only [F47, be_eqlsl Tryz.underlying58, z7z, ab, aG]
    exact ⟨World.ownsRow_nil _ _ _ _, Chg.refl _ _⟩
  | some p =>
    simp -implicitDefEqProofs only [F47, be_eqlsl Tryz.underlying58, z8z, ab, aC]
    obtain ⟨i, hi, hz, hs, hb⟩ := inf_86
    exact eff_clone (size := 7) Tryz.underlying58 hi hz hs rfl (by omega) hl hR h1 (by unfold maxLen; omega) (by rw [hb]; omega) fun x' w' ho hc => ⟨ho, hc⟩
set_option maxHeartbeats 1000000 in
theorem c_clInts (hR : RdV w A cs) (hl : cs.length = n * 1) (h1 : ∀ u ∈ cs, u.oneCell' = true) (hn : n ≤ 1000000) :
    CallR Tryz.prog 48 [.slice A n c] w fun v w' => w'.ownsRow w.heap.size 3 1 v n cs ∧ Chg [] w w' := by
  apply F48_ok
  cases A with
  | none =>
    have hcs := rd_none hR
    subst hcs
    have hn0 : n = 0 := by simp at hl; omega
    subst hn0
    simp -implicitDefEqProofs only [F48, be_eqlsl Tryz.underlying26, z7z, ab, aG]
    exact ⟨World.ownsRow_nil _ _ _ _, Chg.refl _ _⟩
  | some p =>
    simp -implicitDefEqProofs only [F48, be_eqlsl Tryz.underlying26, z8z, ab, aC]
    obtain ⟨i, hi, hz, hs, hb⟩ := inf_3
    exact eff_clone (size := 1) Tryz.underlying26 hi hz hs rfl (by omega) hl hR h1 (by unfold maxLen; omega) (by rw [hb]; omega) fun x' w' ho hc => ⟨ho, hc⟩
set_option maxHeartbeats 1000000 in
theorem c_clHandles (hR : RdV w A cs) (hl : cs.length = n * 5) (h1 : ∀ u ∈ cs, u.oneCell' = true) (hn : n ≤ 1000000) :
    CallR Tryz.prog 49 [.slice A n c] w fun v w' => w'.ownsRow w.heap.size 38 5 v n cs ∧ Chg [] w w' := by
  apply F49_ok
  cases A with
  | none =>
    have hcs := rd_none hR
    subst hcs
    have hn0 : n = 0 := by simp at hl; omega
    subst hn0
    simp -implicitDefEqProofs only [F49, be_eqlsl Tryz.underlying44, z7z, ab, aG]
    exact ⟨World.ownsRow_nil _ _ _ _, Chg.refl _ _⟩
  | some p =>
    simp -implicitDefEqProofs only [F49, be_eqlsl Tryz.underlying44, z8z, ab, aC]
    obtain ⟨i, hi, hz, hs, hb⟩ := inf_38
    exact eff_clone (size := 5) Tryz.underlying44 hi hz hs rfl (by omega) hl hR h1 (by unfold maxLen; omega) (by rw [hb]; omega) fun x' w' ho hc => ⟨ho, hc⟩
set_option maxHeartbeats 1000000 in
theorem c_clWords (hR : RdV w A cs) (hl : cs.length = n * 1) (h1 : ∀ u ∈ cs, u.oneCell' = true) (hn : n ≤ 1000000) :
    CallR Tryz.prog 50 [.slice A n c] w fun v w' => w'.ownsRow w.heap.size 102 1 v n cs ∧ Chg [] w w' := by
  apply F50_ok
  cases A with
  | none =>
    have hcs := rd_none hR
    subst hcs
    have hn0 : n = 0 := by simp at hl; omega
    subst hn0
    simp -implicitDefEqProofs only [F50, be_eqlsl Tryz.underlying84, z7z, ab, aG]
    exact ⟨World.ownsRow_nil _ _ _ _, Chg.refl _ _⟩
  | some p =>
    simp -implicitDefEqProofs only [F50, be_eqlsl Tryz.underlying84, z8z, ab, aC]
    obtain ⟨i, hi, hz, hs, hb⟩ := inf_102
    exact eff_clone (size := 1) Tryz.underlying84 hi hz hs rfl (by omega) hl hR h1 (by unfold maxLen; omega) (by rw [hb]; omega) fun x' w' ho hc => ⟨ho, hc⟩
set_option maxHeartbeats 1000000 in
theorem c_clU64s (hR : RdV w A cs) (hl : cs.length = n * 1) (h1 : ∀ u ∈ cs, u.oneCell' = true) (hn : n ≤ 1000000) :
    CallR Tryz.prog 51 [.slice A n c] w fun v w' => w'.ownsRow w.heap.size 34 1 v n cs ∧ Chg [] w w' := by
  apply F51_ok
  cases A with
  | none =>
    have hcs := rd_none hR
    subst hcs
    have hn0 : n = 0 := by simp at hl; omega
    subst hn0
    simp -implicitDefEqProofs only [F51, be_eqlsl Tryz.underlying102, z7z, ab, aG]
    exact ⟨World.ownsRow_nil _ _ _ _, Chg.refl _ _⟩
  | some p =>
    simp -implicitDefEqProofs only [F51, be_eqlsl Tryz.underlying102, z8z, ab, aC]
    obtain ⟨i, hi, hz, hs, hb⟩ := inf_34
    exact eff_clone (size := 1) Tryz.underlying102 hi hz hs rfl (by omega) hl hR h1 (by unfold maxLen; omega) (by rw [hb]; omega) fun x' w' ho hc => ⟨ho, hc⟩
end
end Go.Proofs.YteapggpkgfiacaaGreat

namespace Go.Proofs.YteapggpkgfiacaaGreat
open Go Ev Go.RowKit

section
variable {W w w1 : World} {g3 : Nat} {Ps : List Th} {F : Fp}
structure CpI (W w : World) (e : TypeId) (g3 : Nat) (Ps : List Th) (F : Fp) : Prop where
  chg : Chg [] W w
  I : isAt e g3 Ps w F
  good : ∀ P ∈ Ps, OwnT P
  new : ∀ k, F k → W.heap.size ≤ k
theorem cp_chg {a b c : World} {S : Nat → Prop} (h : Chg [] a b) (k : ChgP S b c) (hs : ∀ x, S x → a.heap.size ≤ x) : Chg [] a c :=
  ⟨k.os.trans h.os, k.tape.trans h.tape, k.output.trans h.output, Nat.le_trans h.size k.size, fun x hx _ => by
    rw [k.block x (Nat.lt_of_lt_of_le hx h.size) fun hf => by have := hs x hf; omega]; exact h.block x hx (by simp)⟩
theorem CpI.keep {e : TypeId} (h : CpI W w e g3 Ps F) (hc : Chg [] w w1) : CpI W w1 e g3 Ps F :=
  ⟨h.chg.trans hc, isAt.frame h.I h.good (ChgP.of0 hc none') (fun _ _ h => h), h.good, h.new⟩
theorem CpI.upd {e : TypeId} (h : CpI W w e g3 Ps F) {Qs : List Th} {F1 : Fp} (i : isAt e g3 Qs w1 F1) (hg : ∀ P ∈ Qs, OwnT P) (u : UpdP F F1 w w1) : CpI W w1 e g3 Qs F1 :=
  ⟨cp_chg h.chg u.chg h.new, i, hg, fun k hk => by
    rcases u.sub k hk with h1 | h1
    · exact h.new k h1
    · have := h.chg.size; omega⟩
theorem mem_setG {Ps : List Th} {k : Nat} {P' : Th} (h : ∀ P ∈ Ps, OwnT P) (hp : OwnT P') : ∀ P ∈ Ps.set k P', OwnT P := fun P hP => by
  rcases List.mem_or_eq_of_mem_set hP with h1 | h1
  · exact h P h1
  · rw [h1]; exact hp
theorem upd_new {Fk F' : Fp} (hc : Chg [] w w1) (hn : ∀ k, F' k → w.heap.size ≤ k) : UpdP Fk F' w w1 := ⟨ChgP.of0 hc Fk, fun k hk => .inr (hn k hk)⟩
theorem CpI.cell {e : TypeId} (h : CpI W w e g3 Ps F) {k : Nat} {P : Th} (hk : Ps[k]? = some P) {F' : Fp} {P' : Th} {v' : Value} (hc : Chg [] w w1) (hn : ∀ k, F' k → w.heap.size ≤ k) (hg : OwnT P') (hv : P' w1 F' v') :
    okC (hp w1 g3) (k + 1) = true ∧ v'.cells = #[v'] ∧ v'.oneCell' = true ∧ ∃ F1, CpI W (put w1 g3 ((getC (hp w1 g3)).setIfInBounds k v') (getE (hp w1 g3))) e g3 (Ps.set k P') F1 := by
  obtain ⟨v, Fk, _, _, _, _, hput⟩ := isAt.repl h.I h.good hk
  obtain ⟨a, b, c, _, F1, d, u⟩ := hput w1 F' P' v' (upd_new hc hn) hg hv
  exact ⟨a, b, c, F1, h.upd d (mem_setG h.good hg) u⟩
theorem CpI.row {e : TypeId} (h : CpI W w e g3 Ps F) {k : Nat} {e' : TypeId} {z n : Nat} {Qs : List Th} (hk : Ps[k]? = some (isRow e' z n Qs)) (hq : ∀ Q ∈ Qs, OwnT Q) {j : Nat} {P : Th} (hj : Qs[j]? = some P) :
    ∃ (b c : Nat) (v : Value) (Fk : Fp), ldC (hp w g3) k = some (.slice (some ⟨b, 0, none⟩) n c) ∧ b ≠ g3 ∧ ldC (hp w b) j = some v ∧ P w Fk v ∧
      ∀ {w1 : World} {F' : Fp} {P' : Th} {v' : Value}, Chg [] w w1 → (∀ k, F' k → w.heap.size ≤ k) → OwnT P' → P' w1 F' v' → okC (hp w1 b) (j + 1) = true ∧ v'.cells = #[v'] ∧ v'.oneCell' = true ∧
        ∃ F1, CpI W (put w1 b ((getC (hp w1 b)).setIfInBounds j v') (getE (hp w1 b))) e g3 (Ps.set k (isRow e' z n (Qs.set j P'))) F1 := by
  obtain ⟨b, c, v, Fk, hl, hbg, _, _, _, _, hld, hv, _, hput⟩ := isAt.row h.I h.good hk hq hj
  refine ⟨b, c, v, Fk, hl, hbg, hld, hv, fun {w1 F' P' v'} hc hn hg hp' => ?_⟩
  obtain ⟨a1, a2, a3, _, F1, d, u⟩ := hput w1 F' P' v' (upd_new hc hn) hg hp'
  exact ⟨a1, a2, a3, F1, h.upd d (mem_setG h.good (aX (mem_setG hq hg))) u⟩
def hdT2 (p : HdV × Option Value) : List Th := [iT p.1.depth, match p.2 with | some u => isV u | none => namesT p.1.holds]
def SrcN (w : World) (L : List NmV) (u : Value) : Prop := ∃ A c, u = .slice A L.length c ∧ RdV w A (L.flatMap nmC)
theorem SrcN.keep {L : List NmV} {u : Value} (h : SrcN w L u) (hc : Chg [] w w1) : SrcN w1 L u := by
  obtain ⟨A, c, rfl, h1⟩ := h
  exact ⟨A, c, rfl, h1.keep hc.below⟩
theorem src_hands {L : List HdV} {x : Value} (h : handsT L w F x) : ∃ (A : Option Addr) (c : Nat) (us : List Value), x = .slice A L.length c ∧ us.length = L.length ∧ (∀ (i : Nat) (d : HdV) (u : Value), L[i]? = some d → us[i]? = some u → SrcN w d.holds u) ∧
    RdV w A ((L.zip us).flatMap fun p => [Value.int .i64 p.1.depth, p.2]) := by
  obtain ⟨A, c, xs, Fs, rfl, hR, hl, hP, _⟩ := isRow.rd h
  have at' : ∀ (i : Nat) (d : HdV), L[i]? = some d → ∃ u Fu, xs[i * 2 + 0]? = some (.int .i64 d.depth) ∧ xs[i * 2 + 1]? = some u ∧ namesT d.holds w Fu u := by
    intro i d hd
    have hi := (List.getElem?_eq_some_iff.1 hd).1
    have g0 := aN (f := hdT) (z := 2) (fun _ => rfl) L i d hd 0 (by omega)
    have g1 := aN (f := hdT) (z := 2) (fun _ => rfl) L i d hd 1 (by omega)
    obtain ⟨v0, h0⟩ : ∃ v, xs[i * 2 + 0]? = some v := ⟨_, List.getElem?_eq_getElem (by omega)⟩
    obtain ⟨v1, h1⟩ : ∃ v, xs[i * 2 + 1]? = some v := ⟨_, List.getElem?_eq_getElem (by omega)⟩
    have e0 := hP.each _ _ _ g0 h0
    have e1 := hP.each _ _ _ g1 h1
    exact ⟨v1, _, by rw [h0, e0.1], h1, e1⟩
  refine ⟨A, c, (List.range L.length).map fun i => xs.getD (i * 2 + 1) (.bool false), rfl, by simp, fun i d u hd hu => ?_, ?_⟩
  · obtain ⟨u', Fu, _, h1, h2⟩ := at' i d hd
    have hi := (List.getElem?_eq_some_iff.1 hd).1
    rw [List.getElem?_map, List.getElem?_range hi] at hu
    have : u = u' := by
      have e := Option.some.inj hu
      rw [← e]; simp only [List.getD_eq_getElem?_getD, h1]; rfl
    subst this
    exact names_sh ⟨Fu, h2⟩
  · have e : ((L.zip ((List.range L.length).map fun i => xs.getD (i * 2 + 1) (.bool false))).flatMap fun p => [Value.int .i64 p.1.depth, p.2]) = xs := by
      apply List.ext_getElem?
      intro j
      have hfl : ((L.zip ((List.range L.length).map fun i => xs.getD (i * 2 + 1) (.bool false))).flatMap fun p => [Value.int .i64 p.1.depth, p.2]).length = L.length * 2 := by
        rw [flat_len (z := 2) (fun p => rfl)]; simp
      rcases Nat.lt_or_ge j (L.length * 2) with hj | hj
      · obtain ⟨i, k, rfl, hk⟩ : ∃ i k, j = i * 2 + k ∧ k < 2 := ⟨j / 2, j % 2, by omega, by omega⟩
        have hi : i < L.length := by omega
        have hd : L[i]? = some L[i] := List.getElem?_eq_getElem hi
        obtain ⟨u', Fu, h0, h1, h2⟩ := at' i _ hd
        have hz : (L.zip ((List.range L.length).map fun i => xs.getD (i * 2 + 1) (.bool false)))[i]? = some (L[i], u') := by
          rw [List.getElem?_zip_eq_some]
          refine ⟨hd, ?_⟩
          rw [List.getElem?_map, List.getElem?_range hi]
          simp [List.getD_eq_getElem?_getD, h1]
        rw [aN (f := fun p : HdV × Value => [Value.int .i64 p.1.depth, p.2]) (z := 2) (fun _ => rfl) _ i _ hz k hk]
        have : k = 0 ∨ k = 1 := by omega
        rcases this with rfl | rfl
        · exact h0.symm
        · exact h1.symm
      · rw [List.getElem?_eq_none (by omega), List.getElem?_eq_none (by omega)]
    rw [e]; exact hR
end
end Go.Proofs.YteapggpkgfiacaaGreat

namespace Go.Proofs.YteapggpkgfiacaaGreat
open Go Ev Go.RowKit

section
variable {W w w1 : World} {g g3 : Nat} {m : MdV} {F : Fp}
def handsT2 (L : List (HdV × Option Value)) : Th := isRow 96 2 L.length (L.flatMap hdT2)
def mdT2 (m : MdV) (sT : Th) (rT : Th) (hT : Th) : List Th := (cfC m.c).map isV ++ [isV (.bool m.loose), sT, rT, hT]
theorem mdT2_full (m : MdV) : mdT2 m (slotsT m.slots) (rgsT m.rgs) (handsT m.hands) = mdT m := rfl
theorem good_md2 {m : MdV} {sT rT hT : Th} (h1 : OwnT sT) (h2 : OwnT rT) (h3 : OwnT hT) : ∀ P ∈ mdT2 m sT rT hT, OwnT P := fun P hP => by
  rcases List.mem_append.1 hP with h | h
  · refine good_ints (fun u hu => ?_) P h
    simp only [cfC, List.mem_cons, List.not_mem_nil, or_false] at hu
    rcases hu with rfl | rfl | rfl | rfl | rfl | rfl <;> exact ⟨_, _, rfl⟩
  · simp only [List.mem_cons, List.not_mem_nil, or_false] at h
    rcases h with rfl | rfl | rfl | rfl
    · exact good_isV ⟨rfl, rfl⟩
    · exact h1
    · exact h2
    · exact h3
theorem mdT2_s (m : MdV) (a b c a' : Th) : (mdT2 m a b c).set 7 a' = mdT2 m a' b c := rfl
theorem mdT2_r (m : MdV) (a b c b' : Th) : (mdT2 m a b c).set 8 b' = mdT2 m a b' c := rfl
theorem mdT2_h (m : MdV) (a b c c' : Th) : (mdT2 m a b c).set 9 c' = mdT2 m a b c' := rfl
theorem cp_first (I : MdI w g m F) : ∃ (sv rv hv : Value) (xs : List Value), hp w g = some (.cells xs.toArray 61) ∧ xs.length = 10 ∧ (xs.toArray.toList.all (·.oneCell') = true) ∧ (∃ Fs, slotsT m.slots w Fs sv) ∧ (∃ Fr, rgsT m.rgs w Fr rv) ∧ (∃ Fh, handsT m.hands w Fh hv) ∧
    ∀ {w1 : World} {b : Nat}, Chg [] w w1 → w.heap.size ≤ b → hp w1 b = some (.cells xs.toArray 61) → CpI w w1 61 b (mdT2 m (isV sv) (isV rv) (isV hv)) (fun k => k = b) := by
  obtain ⟨xs, Fs, h1, h2, h3, h4⟩ := I
  have hl : xs.length = 10 := by rw [← h2.len]; rfl
  obtain ⟨x0, x1, x2, x3, x4, x5, x6, x7, x8, x9, rfl⟩ : ∃ x0 x1 x2 x3 x4 x5 x6 x7 x8 x9, xs = [x0, x1, x2, x3, x4, x5, x6, x7, x8, x9] := by
    match xs, hl with
    | [x0, x1, x2, x3, x4, x5, x6, x7, x8, x9], _ => exact ⟨_, _, _, _, _, _, _, _, _, _, rfl⟩
  have e0 : x0 = .int .i64 m.c.1 := (h2.each 0 _ _ rfl rfl).1
  have e1 : x1 = .int .i64 m.c.2.1 := (h2.each 1 _ _ rfl rfl).1
  have e2 : x2 = .int .i64 m.c.2.2.1 := (h2.each 2 _ _ rfl rfl).1
  have e3 : x3 = .int .i64 m.c.2.2.2.1 := (h2.each 3 _ _ rfl rfl).1
  have e4 : x4 = .int .i64 m.c.2.2.2.2.1 := (h2.each 4 _ _ rfl rfl).1
  have e5 : x5 = .int .i64 m.c.2.2.2.2.2 := (h2.each 5 _ _ rfl rfl).1
  have e6 : x6 = .bool m.loose := (h2.each 6 _ _ rfl rfl).1
  have t7 : slotsT m.slots w (Fs 7) x7 := h2.each 7 _ _ rfl rfl
  have t8 : rgsT m.rgs w (Fs 8) x8 := h2.each 8 _ _ rfl rfl
  have t9 : handsT m.hands w (Fs 9) x9 := h2.each 9 _ _ rfl rfl
  have o7 := (good_slots _).one t7
  have o8 := (good_rgs _).one t8
  have o9 := (good_hands _).one t9
  subst e0 e1 e2 e3 e4 e5 e6
  refine ⟨x7, x8, x9, _, h1, rfl, ?_, ⟨_, t7⟩, ⟨_, t8⟩, ⟨_, t9⟩, fun {w1 b} hc hb hp1 => ?_⟩
  · simp [Value.oneCell']
    exact ⟨o7.2, o8.2, o9.2⟩
  · refine ⟨hc, ⟨_, fun _ => none', hp1, Parts.ofFlat [.int .i64 m.c.1, .int .i64 m.c.2.1, .int .i64 m.c.2.2.1, .int .i64 m.c.2.2.2.1, .int .i64 m.c.2.2.2.2.1, .int .i64 m.c.2.2.2.2.2, .bool m.loose, x7, x8, x9], fun ⟨_, _, h⟩ => h.elim, fun k => ⟨fun h => .inl h, fun h => by rcases h with h | ⟨_, _, h⟩; exact h; exact h.elim⟩⟩, good_md2 (good_isV o7) (good_isV o8) (good_isV o9), fun k hk => by rw [hk]; exact hb⟩
theorem hands2_done {L : List (HdV × Option Value)} (hL : L.length = m.hands.length) (h1 : ∀ (j : Nat) (p : HdV × Option Value), L[j]? = some p → m.hands[j]? = some p.1 ∧ p.2 = none) : handsT2 L = handsT m.hands := by
  have e : L = m.hands.map fun d => (d, none) := by
    apply List.ext_getElem?
    intro j
    rcases Nat.lt_or_ge j L.length with hj | hj
    · obtain ⟨a, b⟩ := h1 j _ (List.getElem?_eq_getElem hj)
      rw [List.getElem?_map, a, List.getElem?_eq_getElem hj, Option.map_some]
      exact congrArg some (Prod.ext rfl b)
    · rw [List.getElem?_eq_none hj, List.getElem?_eq_none (by simpa using (by omega : m.hands.length ≤ j))]
  subst e
  rw [handsT2, handsT, List.length_map, List.flatMap_map]
  rfl
theorem good_hd2 (L : List (HdV × Option Value)) (h : ∀ p ∈ L, ∀ u, p.2 = some u → u.cells = #[u] ∧ u.oneCell' = true) : ∀ P ∈ L.flatMap hdT2, OwnT P := fun P hP => by
  obtain ⟨p, hp, h1⟩ := List.mem_flatMap.1 hP
  simp only [hdT2, List.mem_cons, List.not_mem_nil, or_false] at h1
  rcases h1 with rfl | rfl
  · exact aV _ _
  · cases hp2 : p.2 with
    | none => exact good_names _
    | some u => exact good_isV (h p hp u hp2)
set_option maxHeartbeats 4000000 in
theorem l_copy0 {K : Nat} (Wm : Wf m K) (hK : K ≤ 1000000) {sT rT : Th} {Q : Value → World → Prop} (hn : m.hands.length ≤ 1000000)
    (N : ∀ w F, CpI W w 61 g3 (mdT2 m sT rT (handsT m.hands)) F → P31_0 (.pointer (some ⟨g, 0, none⟩)) (.pointer (some ⟨g3, 0, none⟩)) (.int .i64 m.hands.length) (.int .i64 m.hands.length) w Q) :
    ∀ (t i : Nat) (w : World) (F : Fp) (L : List (HdV × Option Value)), i + t = m.hands.length → L.length = m.hands.length → CpI W w 61 g3 (mdT2 m sT rT (handsT2 L)) F →
      (∀ (j : Nat) (p : HdV × Option Value), L[j]? = some p → m.hands[j]? = some p.1 ∧ (j < i → p.2 = none) ∧ (i ≤ j → ∃ u, p.2 = some u ∧ SrcN W p.1.holds u)) →
      P31_0 (.pointer (some ⟨g, 0, none⟩)) (.pointer (some ⟨g3, 0, none⟩)) (.int .i64 m.hands.length) (.int .i64 i) w Q
  | 0, i, w, F, L, hi, hL, C, hl => by
    have e : i = m.hands.length := by omega
    subst e
    rw [hands2_done hL fun j p hp => ⟨(hl j p hp).1, (hl j p hp).2.1 (by have := (List.getElem?_eq_some_iff.1 hp).1; omega)⟩] at C
    exact N w F C
  | t + 1, i, w, F, L, hi, hL, C, hl => by
    apply L31_0_ok
    have hlt : (i : Int) < m.hands.length := by omega
    obtain ⟨p, hpi⟩ : ∃ p, L[i]? = some p := ⟨_, List.getElem?_eq_getElem (by omega)⟩
    obtain ⟨hm, _, h2⟩ := hl i p hpi
    obtain ⟨u, hu, hS⟩ := h2 (Nat.le_refl _)
    obtain ⟨d, q⟩ := p
    simp only at hu hm hS
    subst hu
    have gq : ∀ Q ∈ L.flatMap hdT2, OwnT Q := good_hd2 L fun p hp u hu => by
      obtain ⟨j, hj⟩ := List.getElem?_of_mem hp
      obtain ⟨_, a, b⟩ := hl j p hj
      rcases Nat.lt_or_ge j i with h | h
      · rw [a h] at hu; cases hu
      · obtain ⟨u', e1, A, c, rfl, _⟩ := b h
        rw [e1] at hu; cases hu
        exact ⟨rfl, rfl⟩
    have Cd := C.keep (Chg.refl [] w).drew
    have hj : (L.flatMap hdT2)[i * 2 + 1]? = some (isV u) := aN (f := hdT2) (z := 2) (fun _ => rfl) L i _ hpi 1 (by omega)
    obtain ⟨b, c, v, Fk, h9, _, hv, hvu, hput⟩ := Cd.row (k := 9) (e' := 96) (z := 2) (n := L.length) (Qs := L.flatMap hdT2) rfl gq hj
    rw [hvu.1] at hv
    obtain ⟨A, ca, rfl, hR⟩ := hS.keep Cd.chg
    rw [hL] at h9
    have h9' : ldC (hp w g3) (0 + 9) = some (.slice (some ⟨b, 0, none⟩) m.hands.length c) := h9
    have hv' : ldC (hp w b) (i * 2 + 1) = some (.slice A d.holds.length ca) := hv
    have ia := ia_59 (b := b) (p := 0) (n := m.hands.length) (c := c) (j := .i64) (i := (i : Int)) (by omega) (by omega)
    rw [Int.toNat_natCast, Nat.zero_add] at ia
    have hD := Wm.hd d (List.mem_of_getElem? hm)
    simp -implicitDefEqProofs only [L31_0, zS, hlt, fa_61_4, ld_59, h9', ia, fa_96_1, ld_94, hv']
    repeat' (with_reducible apply And.intro)
    all_goals
      refine (c_clName hR (flat_len (enc := nmC) (z := 2) (fun _ => rfl) d.holds) (fun x hx => by obtain ⟨k, y, rfl⟩ := nmC_int _ x hx; rfl) (by omega)).mono ?_
      rintro v2 w2 ⟨ho, c2⟩
      obtain ⟨A2, cc2, rfl, _, hnew, _⟩ := ba ho
      have hT : namesT d.holds w2 (fun b => (Value.slice A2 d.holds.length cc2).ownBlock = some b) (.slice A2 d.holds.length cc2) := own_flat ho
      obtain ⟨ok, s1, s2, F1, C1⟩ := hput c2 (fun k hk => by
        cases A2 with
        | none => simp [Value.ownBlock] at hk
        | some p => simp [Value.ownBlock] at hk; rw [← hk]; exact (hnew p rfl).1) (good_names _) hT
      have h9b := aQ c2 (show ldC (hp w.drew g3) (0 + 9) = _ from h9)
      try simp -implicitDefEqProofs only [zS, fa_61_4, ld_59, h9b, ia, fa_96_1]
      try simp -implicitDefEqProofs only [zS, ia, fa_96_1]
      rw [st_94 (o := i * 2 + 1) s1 s2 ok]
      apply L31_1_ok
      simp -implicitDefEqProofs only [L31_1, zS, am, aq (n := (i : Int) + 1) (by omega) (by omega)]
      have eset : (L.flatMap hdT2).set (i * 2 + 1) (namesT d.holds) = (L.set i (d, none)).flatMap hdT2 := flatM_setP (f := hdT2) (z := 2) (fun _ => rfl) (by omega) (x' := (d, none)) rfl hpi
      rw [eset, mdT2_h] at C1
      have e2 : isRow 96 2 L.length ((L.set i (d, none)).flatMap hdT2) = handsT2 (L.set i (d, none)) := by rw [handsT2, List.length_set]
      rw [e2] at C1
      have := l_copy0 Wm hK hn N t (i + 1) _ F1 (L.set i (d, none)) (by omega) (by rw [List.length_set]; exact hL) C1 fun j p hp' => by
        by_cases hij : i = j
        · subst hij
          rw [List.getElem?_set, if_pos rfl, if_pos (by omega)] at hp'
          cases hp'
          exact ⟨hm, fun _ => rfl, fun h => by omega⟩
        · rw [List.getElem?_set, if_neg hij] at hp'
          obtain ⟨a, b', c'⟩ := hl j p hp'
          exact ⟨a, fun h => b' (by omega), fun h => c' (by omega)⟩
      rw [Int.natCast_add i 1] at this
      exact this
end
end Go.Proofs.YteapggpkgfiacaaGreat

namespace Go.Proofs.YteapggpkgfiacaaGreat
open Go Ev Go.RowKit

section
variable {W w w1 : World} {g g3 : Nat} {m : MdV} {F : Fp}
theorem chg_put {wA wC : World} (hc : Chg [] wA wC) {b : Nat} (hb : b < wA.heap.size) (X : Array Value) (e : TypeId) : Chg [] (put wA b X e) (put wC b X e) := by
  have sz := hc.size
  refine ⟨hc.os, hc.tape, hc.output, by simpa using sz, fun k hk _ => ?_⟩
  have hk' : k < wA.heap.size := by simpa using hk
  by_cases e1 : k = b
  · subst e1
    rw [ar (by omega), ar hb]
  · rw [put_other e1, put_other e1]
    exact hc.block k hk' (by simp)
def SrcI (w : World) (L : List Int) (u : Value) : Prop := ∃ A c, u = .slice A L.length c ∧ RdV w A (ints L)
def SrcU (w : World) (L : List Int) (u : Value) : Prop := ∃ A c, u = .slice A L.length c ∧ RdV w A (u64s L)
def SrcO (w : World) (L : List HnV) (u : Value) : Prop := ∃ A c, u = .slice A L.length c ∧ RdV w A (L.flatMap hnC)
def SrcW (w : World) (L : List (List Int)) (u : Value) : Prop := ∃ (A : Option Addr) (c : Nat) (vs : List Value), u = .slice A L.length c ∧ vs.length = L.length ∧ RdV w A vs ∧ ∀ (i : Nat) (l : List Int) (v : Value), L[i]? = some l → vs[i]? = some v → SrcU w l v
theorem SrcI.keep {L : List Int} {u : Value} (h : SrcI w L u) (hc : Chg [] w w1) : SrcI w1 L u := by
  obtain ⟨A, c, rfl, h1⟩ := h; exact ⟨A, c, rfl, h1.keep hc.below⟩
theorem SrcU.keep {L : List Int} {u : Value} (h : SrcU w L u) (hc : Chg [] w w1) : SrcU w1 L u := by
  obtain ⟨A, c, rfl, h1⟩ := h; exact ⟨A, c, rfl, h1.keep hc.below⟩
theorem SrcO.keep {L : List HnV} {u : Value} (h : SrcO w L u) (hc : Chg [] w w1) : SrcO w1 L u := by
  obtain ⟨A, c, rfl, h1⟩ := h; exact ⟨A, c, rfl, h1.keep hc.below⟩
theorem SrcW.keep {L : List (List Int)} {u : Value} (h : SrcW w L u) (hc : Chg [] w w1) : SrcW w1 L u := by
  obtain ⟨A, c, vs, rfl, h1, h2, h3⟩ := h; exact ⟨A, c, vs, rfl, h1, h2.keep hc.below, fun i l v a b => (h3 i l v a b).keep hc⟩
theorem src_ints {L : List Int} {x : Value} (h : intsT L w F x) : SrcI w L x := by
  obtain ⟨h1, _⟩ := flat_own h
  obtain ⟨A, c, e, r, _⟩ := ba h1
  exact ⟨A, c, e, r⟩
theorem src_word {L : List Int} {x : Value} (h : wordT L w F x) : SrcU w L x := by
  obtain ⟨h1, _⟩ := flat_own h
  obtain ⟨A, c, e, r, _⟩ := ba h1
  exact ⟨A, c, e, r⟩
theorem src_words {L : List (List Int)} {x : Value} (h : wordsT L w F x) : SrcW w L x := by
  obtain ⟨A, c, xs, Fs, rfl, hR, hl, hP, _⟩ := isRow.rd h
  refine ⟨A, c, xs, rfl, by omega, hR, fun i l v hi hv => ?_⟩
  exact src_word (hP.each i (wordT l) v (by rw [List.getElem?_map, hi]; rfl) hv)
structure SrcR (w : World) (r : RgV) (u : Value × Value × Value) : Prop where
  sc : SrcI w r.chunks u.1
  sw : SrcW w r.words u.2.1
  so : SrcO w r.objs u.2.2
def rgC2 (p : RgV × Value × Value × Value) : List Value := [.int .i64 p.1.nm.1, .int .i64 p.1.nm.2, .int .i64 p.1.cls, .int .i64 p.1.off, p.2.1, p.2.2.1, p.2.2.2]
set_option maxHeartbeats 1000000 in
theorem src_rgs {L : List RgV} {x : Value} (h : rgsT L w F x) : ∃ (A : Option Addr) (c : Nat) (us : List (Value × Value × Value)), x = .slice A L.length c ∧ us.length = L.length ∧ (∀ (i : Nat) (r : RgV) (u : Value × Value × Value), L[i]? = some r → us[i]? = some u → SrcR w r u) ∧
    RdV w A ((L.zip us).flatMap rgC2) := by
  obtain ⟨A, c, xs, Fs, rfl, hR, hl, hP, _⟩ := isRow.rd h
  have at' : ∀ (i : Nat) (r : RgV), L[i]? = some r → ∀ k, k < 7 → ∃ v P, xs[i * 7 + k]? = some v ∧ (rgT r)[k]? = some P ∧ P w (Fs (i * 7 + k)) v := by
    intro i r hr k hk
    have hi := (List.getElem?_eq_some_iff.1 hr).1
    have gk := aN (f := rgT) (z := 7) (fun _ => rfl) L i r hr k hk
    obtain ⟨v, hv⟩ : ∃ v, xs[i * 7 + k]? = some v := ⟨_, List.getElem?_eq_getElem (by omega)⟩
    obtain ⟨P, hPk⟩ : ∃ P, (rgT r)[k]? = some P := ⟨_, List.getElem?_eq_getElem (by simpa [rgT] using hk)⟩
    exact ⟨v, P, hv, hPk, hP.each _ _ _ (gk.trans hPk) hv⟩
  have all : ∀ (i : Nat) (r : RgV), L[i]? = some r → ∃ u : Value × Value × Value, SrcR w r u ∧ ∀ k, k < 7 → xs[i * 7 + k]? = (rgC2 (r, u))[k]? := by
    intro i r hr
    obtain ⟨v0, P0, x0, p0, t0⟩ := at' i r hr 0 (by omega)
    obtain ⟨v1, P1, x1, p1, t1⟩ := at' i r hr 1 (by omega)
    obtain ⟨v2, P2, x2, p2, t2⟩ := at' i r hr 2 (by omega)
    obtain ⟨v3, P3, x3, p3, t3⟩ := at' i r hr 3 (by omega)
    obtain ⟨v4, P4, x4, p4, t4⟩ := at' i r hr 4 (by omega)
    obtain ⟨v5, P5, x5, p5, t5⟩ := at' i r hr 5 (by omega)
    obtain ⟨v6, P6, x6, p6, t6⟩ := at' i r hr 6 (by omega)
    cases p0; cases p1; cases p2; cases p3; cases p4; cases p5; cases p6
    rw [t0.1] at x0; rw [t1.1] at x1; rw [t2.1] at x2; rw [t3.1] at x3
    refine ⟨(v4, v5, v6), ⟨src_ints t4, src_words t5, objs_sh ⟨_, t6⟩⟩, fun k hk => ?_⟩
    have : k = 0 ∨ k = 1 ∨ k = 2 ∨ k = 3 ∨ k = 4 ∨ k = 5 ∨ k = 6 := by omega
    rcases this with rfl | rfl | rfl | rfl | rfl | rfl | rfl
    · exact x0
    · exact x1
    · exact x2
    · exact x3
    · exact x4
    · exact x5
    · exact x6
  have cho : ∃ us : List (Value × Value × Value), us.length = L.length ∧ ∀ (i : Nat) (r : RgV) (u : Value × Value × Value), L[i]? = some r → us[i]? = some u → SrcR w r u ∧ ∀ k, k < 7 → xs[i * 7 + k]? = (rgC2 (r, u))[k]? := by
    refine ⟨List.ofFn fun i : Fin L.length => Classical.choose (all i.1 L[i.1] (List.getElem?_eq_getElem i.2)), by simp, fun i r u hr hu => ?_⟩
    have hi := (List.getElem?_eq_some_iff.1 hr).1
    have hr' : L[i] = r := by rw [List.getElem?_eq_getElem hi] at hr; exact Option.some.inj hr
    subst hr'
    rw [List.getElem?_ofFn, dif_pos hi] at hu
    rw [← Option.some.inj hu]
    exact Classical.choose_spec (all i L[i] (List.getElem?_eq_getElem hi))
  obtain ⟨us, hus, hc⟩ := cho
  refine ⟨A, c, us, rfl, hus, fun i r u hr hu => (hc i r u hr hu).1, ?_⟩
  have e : (L.zip us).flatMap rgC2 = xs := by
    apply List.ext_getElem?
    intro j
    have hfl : ((L.zip us).flatMap rgC2).length = L.length * 7 := by
      rw [flat_len (z := 7) (fun p => rfl)]; simp [hus]
    rcases Nat.lt_or_ge j (L.length * 7) with hj | hj
    · obtain ⟨i, k, rfl, hk⟩ : ∃ i k, j = i * 7 + k ∧ k < 7 := ⟨j / 7, j % 7, by omega, by omega⟩
      have hi : i < L.length := by omega
      have hr : L[i]? = some L[i] := List.getElem?_eq_getElem hi
      have hu : us[i]? = some (us[i]'(by omega)) := List.getElem?_eq_getElem (by omega)
      have hz : (L.zip us)[i]? = some (L[i], us[i]'(by omega)) := by
        rw [List.getElem?_zip_eq_some]; exact ⟨hr, hu⟩
      rw [aN (f := rgC2) (z := 7) (fun _ => rfl) _ i _ hz k hk]
      exact ((hc i _ _ hr hu).2 k hk).symm
    · rw [List.getElem?_eq_none (by omega), List.getElem?_eq_none (by omega)]
  rw [e]; exact hR
def wordT2 (p : List Int × Option Value) : Th := match p.2 with | some u => isV u | none => wordT p.1
inductive WSt where
  | old (u : Value)
  | new (L : List (List Int × Option Value))
def wsT (r : RgV) : WSt → Th
  | .old u => isV u
  | .new L => isRow 102 1 L.length (L.map wordT2)
structure RgS where
  r : RgV
  oc : Option Value
  ow : WSt
  oo : Option Value
def rgT2 (p : RgS) : List Th := [iT p.r.nm.1, iT p.r.nm.2, iT p.r.cls, iT p.r.off, match p.oc with | some u => isV u | none => intsT p.r.chunks, wsT p.r p.ow, match p.oo with | some u => isV u | none => objsT p.r.objs]
def rgsT2 (L : List RgS) : Th := isRow 86 7 L.length (L.flatMap rgT2)
end
end Go.Proofs.YteapggpkgfiacaaGreat

namespace Go.Proofs.YteapggpkgfiacaaGreat
open Go Ev Go.RowKit

section
variable {W w wA wB wC : World} {g3 : Nat} {Ps : List Th} {F : Fp}
theorem put_put (w : World) (b : Nat) (c c' : Array Value) (e e' : TypeId) : put (put w b c e) b c' e' = put w b c' e' := by
  unfold Ev.put
  simp [Array.setIfInBounds_setIfInBounds]
theorem ldC_lt {w : World} {b j : Nat} {v : Value} (h : ldC (hp w b) j = some v) : b < w.heap.size := by
  rcases Nat.lt_or_ge b w.heap.size with h1 | h1
  · exact h1
  · have h2 : hp w b = none := by simp [hp]; omega
    rw [h2] at h; cases h
theorem CpI.next {e : TypeId} {k : Nat} {e' : TypeId} {z n : Nat} {Qs : List Th} {b : Nat} {X : Array Value} {eb : TypeId} (C : CpI W (put wA b X eb) e g3 Ps F) (hk : Ps[k]? = some (isRow e' z n Qs)) (hq : ∀ Q ∈ Qs, OwnT Q) {j : Nat} {P : Th} (hj : Qs[j]? = some P)
    (hb : b < wA.heap.size) (hbg : b ≠ g3) {c : Nat} (hl : ldC (hp wA g3) k = some (.slice (some ⟨b, 0, none⟩) n c)) (cB : Chg [] wA wB) {F' : Fp} {P' : Th} {v' : Value} (hn : ∀ k, F' k → wA.heap.size ≤ k) (hg : OwnT P') (hv : P' wB F' v') :
    okC (some (.cells X eb)) (j + 1) = true ∧ v'.cells = #[v'] ∧ v'.oneCell' = true ∧ ∃ F1, CpI W (put wB b (X.setIfInBounds j v') eb) e g3 (Ps.set k (isRow e' z n (Qs.set j P'))) F1 := by
  obtain ⟨b2, c2, v, Fk, h1, _, _, _, hput⟩ := C.row hk hq hj
  rw [put_other hbg.symm, hl] at h1
  cases h1
  have sB := cB.size
  have hs : hp (put wB b X eb) b = some (.cells X eb) := ar (by omega) _ _
  obtain ⟨a1, a2, a3, F1, C1⟩ := hput (w1 := put wB b X eb) (chg_put cB hb X eb) (fun k hk => by simpa using hn k hk) hg (hg.frame hv (ChgP.put wB b X eb) (fun k h1 h2 => by have := hn k h1; omega))
  rw [hs] at a1
  rw [hs, bm, ay, put_put] at C1
  exact ⟨a1, a2, a3, F1, C1⟩
theorem CpI.three {e : TypeId} {k : Nat} {e' : TypeId} {z n : Nat} {Qs : List Th} (C : CpI W w e g3 Ps F) (hk : Ps[k]? = some (isRow e' z n Qs)) (hq : ∀ Q ∈ Qs, OwnT Q) {j1 j2 j3 : Nat} {P1 P2 P3 : Th} (h1 : Qs[j1]? = some P1) (h2 : Qs[j2]? = some P2) (h3 : Qs[j3]? = some P3) (n12 : j1 ≠ j2) (n13 : j1 ≠ j3) (n23 : j2 ≠ j3)
    (cA : Chg [] w wA) (cB : Chg [] wA wB) (cC : Chg [] wB wC) {F1 F2 F3 : Fp} {Q1 Q2 Q3 : Th} {v1 v2 v3 : Value} (f1 : ∀ k, F1 k → w.heap.size ≤ k) (f2 : ∀ k, F2 k → wA.heap.size ≤ k) (f3 : ∀ k, F3 k → wB.heap.size ≤ k)
    (g1 : OwnT Q1) (g2 : OwnT Q2) (g3' : OwnT Q3) (t1 : Q1 wA F1 v1) (t2 : Q2 wB F2 v2) (t3 : Q3 wC F3 v3) :
    ∃ (b c : Nat) (X : Array Value) (eb : TypeId), ldC (hp w g3) k = some (.slice (some ⟨b, 0, none⟩) n c) ∧ b ≠ g3 ∧ (∃ v, ldC (hp w b) j1 = some v ∧ ∃ Fv, P1 w Fv v) ∧ (∃ v, ldC (hp w b) j2 = some v ∧ ∃ Fv, P2 w Fv v) ∧ (∃ v, ldC (hp w b) j3 = some v ∧ ∃ Fv, P3 w Fv v) ∧
      getC (hp w b) = X ∧ getE (hp w b) = eb ∧ okC (hp w b) (j1 + 1) = true ∧ okC (some (.cells (X.setIfInBounds j1 v1) eb)) (j2 + 1) = true ∧ okC (some (.cells ((X.setIfInBounds j1 v1).setIfInBounds j2 v2) eb)) (j3 + 1) = true ∧
      ∃ F', CpI W (put wC b (((X.setIfInBounds j1 v1).setIfInBounds j2 v2).setIfInBounds j3 v3) eb) e g3 (Ps.set k (isRow e' z n (((Qs.set j1 Q1).set j2 Q2).set j3 Q3))) F' := by
  have hkl := (List.getElem?_eq_some_iff.1 hk).1
  obtain ⟨b, c, v, Fk, hl, hbg, hld, hv, hput⟩ := C.row hk hq h1
  obtain ⟨b2, c2, v2', Fk2, hl2, _, hld2, hv2, _⟩ := C.row hk hq h2
  rw [hl] at hl2; cases hl2
  obtain ⟨b3, c3, v3', Fk3, hl3, _, hld3, hv3, _⟩ := C.row hk hq h3
  rw [hl] at hl3; cases hl3
  have hb := ldC_lt hld
  have hbA : hp wA b = hp w b := cA.block b hb (by simp)
  obtain ⟨ok1, _, _, Fa, Ca⟩ := hput cA f1 g1 t1
  rw [hbA] at ok1 Ca
  have sA := cA.size
  have sB := cB.size
  obtain ⟨ok2, _, _, Fb, Cb⟩ := Ca.next (wB := wB) (List.getElem?_set_self hkl) (mem_setG hq g1) (j := j2) (P := P2) (by rw [List.getElem?_set_ne n12]; exact h2) (by omega) hbg (aQ cA hl) cB f2 g2 t2
  rw [List.set_set] at Cb
  obtain ⟨ok3, _, _, Fc, Cc⟩ := Cb.next (wB := wC) (List.getElem?_set_self hkl) (mem_setG (mem_setG hq g1) g2) (j := j3) (P := P3) (by rw [List.getElem?_set_ne n23, List.getElem?_set_ne n13]; exact h3) (by omega) hbg (aQ cB (aQ cA hl)) cC f3 g3' t3
  rw [List.set_set] at Cc
  exact ⟨b, c, _, _, hl, hbg, ⟨v, hld, _, hv⟩, ⟨v2', hld2, _, hv2⟩, ⟨v3', hld3, _, hv3⟩, rfl, rfl, ok1, ok2, ok3, Fc, Cc⟩
end
end Go.Proofs.YteapggpkgfiacaaGreat

namespace Go.Proofs.YteapggpkgfiacaaGreat
open Go Ev Go.RowKit

section
variable {W w w1 : World} {g3 : Nat} {Ps : List Th} {F : Fp} {m : MdV}
theorem CpI.inner {e : TypeId} (h : CpI W w e g3 Ps F) {k : Nat} {e' : TypeId} {z n : Nat} {Qs : List Th} (hk : Ps[k]? = some (isRow e' z n Qs)) (hq : ∀ Q ∈ Qs, OwnT Q) {j : Nat} {e2 : TypeId} {z2 n2 : Nat} {Rs : List Th} (hj : Qs[j]? = some (isRow e2 z2 n2 Rs)) (hr : ∀ R ∈ Rs, OwnT R) {l : Nat} {P : Th} (hl : Rs[l]? = some P) :
    ∃ (b c bw cw : Nat) (v : Value) (Fk : Fp), ldC (hp w g3) k = some (.slice (some ⟨b, 0, none⟩) n c) ∧ ldC (hp w b) j = some (.slice (some ⟨bw, 0, none⟩) n2 cw) ∧ ldC (hp w bw) l = some v ∧ P w Fk v ∧ bw ≠ b ∧ bw ≠ g3 ∧
      ∀ {w1 : World} {F' : Fp} {P' : Th} {v' : Value}, Chg [] w w1 → (∀ k, F' k → w.heap.size ≤ k) → OwnT P' → P' w1 F' v' → okC (hp w1 bw) (l + 1) = true ∧ v'.cells = #[v'] ∧ v'.oneCell' = true ∧
        ∃ F1, CpI W (put w1 bw ((getC (hp w1 bw)).setIfInBounds l v') (getE (hp w1 bw))) e g3 (Ps.set k (isRow e' z n (Qs.set j (isRow e2 z2 n2 (Rs.set l P'))))) F1 := by
  obtain ⟨b, c, rv, Fr, h9, _, _, _, hnb, hng, hld, hR, hres, _⟩ := isAt.row h.I h.good hk hq hj
  obtain ⟨bw, cw, v, Fk, hx, hFb, _, _, hld2, hv, _, hst⟩ := isRow.cell hR hr hl
  subst hx
  refine ⟨b, c, bw, cw, v, Fk, h9, hld, hld2, hv, fun e => hnb (e ▸ hFb), fun e => hng (e ▸ hFb), fun {w1 F' P' v'} hc hn hg hp' => ?_⟩
  obtain ⟨ok, F1, hrow, hupd⟩ := hst w1 F' P' v' (upd_new hc hn) hg hp'
  obtain ⟨F2, i2, u2⟩ := hres _ F1 _ hupd hrow
  obtain ⟨o1, o2⟩ := hg.one hp'
  exact ⟨ok, o1, o2, F2, h.upd i2 (mem_setG h.good (aX (mem_setG hq (aX (mem_setG hr hg))))) u2⟩
theorem words2_done (L : List (List Int)) : isRow 102 1 (L.map fun l => (l, (none : Option Value))).length ((L.map fun l => (l, (none : Option Value))).map wordT2) = wordsT L := by
  rw [List.length_map, List.map_map]; rfl
def doneR (r : RgV) : RgS := ⟨r, none, .new (r.words.map fun l => (l, none)), none⟩
theorem doneR_T (r : RgV) : rgT2 (doneR r) = rgT r := by
  have e : wsT r (doneR r).ow = wordsT r.words := words2_done r.words
  simp only [rgT2, rgT, doneR] at e ⊢
  rw [e]
theorem rgs2_done {L : List RgS} (hL : L.length = m.rgs.length) (h1 : ∀ (j : Nat) (p : RgS), L[j]? = some p → ∃ r, m.rgs[j]? = some r ∧ p = doneR r) : rgsT2 L = rgsT m.rgs := by
  have e : L = m.rgs.map doneR := by
    apply List.ext_getElem?
    intro j
    rcases Nat.lt_or_ge j L.length with hj | hj
    · obtain ⟨r, a, b⟩ := h1 j _ (List.getElem?_eq_getElem hj)
      rw [List.getElem?_map, a, List.getElem?_eq_getElem hj, Option.map_some, b]
    · rw [List.getElem?_eq_none hj, List.getElem?_eq_none (by simpa using (by omega : m.rgs.length ≤ j))]
  subst e
  rw [rgsT2, rgsT, List.length_map, List.flatMap_map]
  congr 1
  exact congrArg (fun f => m.rgs.flatMap f) (funext doneR_T)
end
end Go.Proofs.YteapggpkgfiacaaGreat

namespace Go.Proofs.YteapggpkgfiacaaGreat
open Go Ev Go.RowKit

section
variable {W w w1 : World} {g g3 : Nat} {m : MdV} {F : Fp}
theorem good_ws2 (L : List (List Int × Option Value)) (h : ∀ p ∈ L, ∀ u, p.2 = some u → u.cells = #[u] ∧ u.oneCell' = true) : ∀ P ∈ L.map wordT2, OwnT P := fun P hP => by
  obtain ⟨p, hp, rfl⟩ := List.mem_map.1 hP
  unfold wordT2
  cases hp2 : p.2 with
  | none => exact good_word _
  | some u => exact good_isV (h p hp u hp2)
set_option maxHeartbeats 4000000 in
theorem l_copy4 {sT hT : Th} {Q : Value → World → Prop} {n i : Nat} {r : RgV} {b c bw cw : Nat} {L0 : List RgS} (hlen : r.words.length ≤ 1000000) (hww : ∀ l ∈ r.words, l.length ≤ 1000000) (hin : (i : Int) + 1 < 1000000000)
    (N : ∀ w F L, CpI W w 61 g3 (mdT2 m sT (rgsT2 L) hT) F → L.length = n → L[i]? = some (doneR r) → (∀ j, j ≠ i → L[j]? = L0[j]?) → P31_2 (.pointer (some ⟨g3, 0, none⟩)) (.int .i64 n) (.int .i64 ((i : Int) + 1)) w Q) :
    ∀ (t kk : Nat) (w : World) (F : Fp) (L : List RgS) (Lw : List (List Int × Option Value)), kk + t = r.words.length → CpI W w 61 g3 (mdT2 m sT (rgsT2 L) hT) F → L.length = n → (∀ Q ∈ L.flatMap rgT2, OwnT Q) → L[i]? = some ⟨r, none, .new Lw, none⟩ → Lw.length = r.words.length → (∀ j, j ≠ i → L[j]? = L0[j]?) →
      (∀ (j : Nat) (p : List Int × Option Value), Lw[j]? = some p → r.words[j]? = some p.1 ∧ (j < kk → p.2 = none) ∧ (kk ≤ j → ∃ u, p.2 = some u ∧ SrcU W p.1 u)) →
      ldC (hp w g3) 8 = some (.slice (some ⟨b, 0, none⟩) n c) → ldC (hp w b) (i * 7 + 5) = some (.slice (some ⟨bw, 0, none⟩) r.words.length cw) →
      P31_4 (.pointer (some ⟨g3, 0, none⟩)) (.pointer (some ⟨b, i * 7, none⟩)) (.int .i64 n) (.int .i64 i) (.slice (some ⟨bw, 0, none⟩) r.words.length cw) (.int .i64 r.words.length) (.int .i64 kk) w Q
  | 0, kk, w, F, L, Lw, hk, C, hL, gL, hLi, hLw, hO, hl, h8, h5 => by
    apply L31_4_ok
    have : ¬ (kk : Int) < r.words.length := by omega
    simp -implicitDefEqProofs only [L31_4, zS, this, am, aq (n := (i : Int) + 1) (by omega) (by omega)]
    refine N w F L C hL ?_ hO
    have e : Lw = r.words.map fun l => (l, none) := by
      apply List.ext_getElem?
      intro j
      rcases Nat.lt_or_ge j Lw.length with hj | hj
      · obtain ⟨a, b', _⟩ := hl j _ (List.getElem?_eq_getElem hj)
        rw [List.getElem?_map, a, List.getElem?_eq_getElem hj, Option.map_some]
        exact congrArg some (Prod.ext rfl (b' (by omega)))
      · rw [List.getElem?_eq_none hj, List.getElem?_eq_none (by simpa using (by omega : r.words.length ≤ j))]
    rw [hLi, e]; rfl
  | t + 1, kk, w, F, L, Lw, hk, C, hL, gL, hLi, hLw, hO, hl, h8, h5 => by
    apply L31_4_ok
    have hlt : (kk : Int) < r.words.length := by omega
    obtain ⟨p, hp'⟩ : ∃ p, Lw[kk]? = some p := ⟨_, List.getElem?_eq_getElem (by omega)⟩
    obtain ⟨hm, _, h2⟩ := hl kk p hp'
    obtain ⟨u, hu, hS⟩ := h2 (Nat.le_refl _)
    obtain ⟨l, q⟩ := p
    simp only at hu hm hS
    subst hu
    have gw : ∀ Q ∈ Lw.map wordT2, OwnT Q := good_ws2 Lw fun p hp u hu => by
      obtain ⟨j, hj⟩ := List.getElem?_of_mem hp
      obtain ⟨_, a, b⟩ := hl j p hj
      rcases Nat.lt_or_ge j kk with h | h
      · rw [a h] at hu; cases hu
      · obtain ⟨u', e1, A, c, rfl, _⟩ := b h
        rw [e1] at hu; cases hu
        exact ⟨rfl, rfl⟩
    have Cd := C.keep (Chg.refl [] w).drew
    have hj : (L.flatMap rgT2)[i * 7 + 5]? = some (isRow 102 1 Lw.length (Lw.map wordT2)) := aN (f := rgT2) (z := 7) (fun _ => rfl) L i _ hLi 5 (by omega)
    have hjw : (Lw.map wordT2)[kk]? = some (isV u) := by rw [List.getElem?_map, hp']; rfl
    obtain ⟨b1, c1, bw1, cw1, v, Fk, q8, q5, qv, hvu, nb, ng, hput⟩ := Cd.inner (k := 8) (e' := 86) (z := 7) (n := L.length) (Qs := L.flatMap rgT2) rfl gL hj gw hjw
    rw [hL, show ldC (hp w.drew g3) 8 = _ from h8] at q8
    cases q8
    rw [hLw, show ldC (hp w.drew b) (i * 7 + 5) = _ from h5] at q5
    cases q5
    rw [hvu.1] at qv
    obtain ⟨A, ca, rfl, hR⟩ := hS.keep Cd.chg
    have qv' : ldC (hp w bw) kk = some (.slice A l.length ca) := qv
    have iaw := ia_84 (b := bw) (p := 0) (n := r.words.length) (c := cw) (j := .i64) (i := (kk : Int)) (by omega) (by omega)
    rw [Int.toNat_natCast, Nat.zero_add, Nat.mul_one] at iaw
    simp -implicitDefEqProofs only [L31_4, zS, hlt, iaw, ld_102, qv', fa_86_4, ld_84, h5]
    repeat' (with_reducible apply And.intro)
    all_goals
      refine (c_clU64s hR (by simp [u64s]) (fun x hx => by obtain ⟨k, y, rfl⟩ := u64s_int _ x hx; rfl) (hww l (List.mem_of_getElem? hm))).mono ?_
      rintro v2 w2 ⟨ho, c2⟩
      obtain ⟨A2, cc2, rfl, _, hnew, _⟩ := ba ho
      have hT2 : wordT l w2 (fun b => (Value.slice A2 l.length cc2).ownBlock = some b) (.slice A2 l.length cc2) := own_flat ho
      obtain ⟨ok, s1, s2, F1, C1⟩ := hput c2 (fun k hk => by
        cases A2 with
        | none => simp [Value.ownBlock] at hk
        | some p => simp [Value.ownBlock] at hk; rw [← hk]; exact (hnew p rfl).1) (good_word _) hT2
      have h5b := aQ c2 (show ldC (hp w.drew b) (i * 7 + 5) = _ from h5)
      have h8b := aQ c2 (show ldC (hp w.drew g3) 8 = _ from h8)
      try simp -implicitDefEqProofs only [zS, fa_86_4, ld_84, h5b, iaw]
      try simp -implicitDefEqProofs only [zS, iaw]
      rw [st_102 (o := kk) s1 s2 ok]
      apply L31_5_ok
      simp -implicitDefEqProofs only [L31_5, zS, am, aq (n := (kk : Int) + 1) (by omega) (by omega)]
      have ew : (Lw.map wordT2).set kk (wordT l) = (Lw.set kk (l, none)).map wordT2 := by rw [List.map_set]; rfl
      have ew2 : isRow 102 1 Lw.length ((Lw.set kk (l, none)).map wordT2) = wsT r (.new (Lw.set kk (l, none))) := by simp only [wsT, List.length_set]
      have eset : (L.flatMap rgT2).set (i * 7 + 5) (wsT r (.new (Lw.set kk (l, none)))) = (L.set i ⟨r, none, .new (Lw.set kk (l, none)), none⟩).flatMap rgT2 := flatM_setP (f := rgT2) (z := 7) (fun _ => rfl) (by omega) (x' := ⟨r, none, .new (Lw.set kk (l, none)), none⟩) rfl hLi
      have e2 : isRow 86 7 L.length ((L.set i ⟨r, none, .new (Lw.set kk (l, none)), none⟩).flatMap rgT2) = rgsT2 (L.set i ⟨r, none, .new (Lw.set kk (l, none)), none⟩) := by rw [rgsT2, List.length_set]
      rw [ew, ew2, eset, e2, mdT2_r] at C1
      have hil := (List.getElem?_eq_some_iff.1 hLi).1
      have := l_copy4 hlen hww hin N t (kk + 1) _ F1 (L.set i ⟨r, none, .new (Lw.set kk (l, none)), none⟩) (Lw.set kk (l, none)) (by omega) C1 (by rw [List.length_set]; exact hL) (by rw [← eset]; exact mem_setG gL (by rw [← ew2, ← ew]; exact aX (mem_setG gw (good_word _)))) (by rw [List.getElem?_set, if_pos rfl, if_pos hil]) (by rw [List.length_set]; exact hLw) (fun j hj => by rw [List.getElem?_set, if_neg (fun h => hj h.symm)]; exact hO j hj) (fun j p hp'' => by
        by_cases hij : kk = j
        · subst hij
          rw [List.getElem?_set, if_pos rfl, if_pos (by omega)] at hp''
          cases hp''
          exact ⟨hm, fun _ => rfl, fun h => by omega⟩
        · rw [List.getElem?_set, if_neg hij] at hp''
          obtain ⟨a, b', c'⟩ := hl j p hp''
          exact ⟨a, fun h => b' (by omega), fun h => c' (by omega)⟩) (by rw [put_other ng.symm]; exact h8b) (by rw [put_other nb.symm]; exact h5b)
      rw [Int.natCast_add kk 1] at this
      exact this
end
end Go.Proofs.YteapggpkgfiacaaGreat

namespace Go.Proofs.YteapggpkgfiacaaGreat
open Go Ev Go.RowKit

section
variable {W w w1 : World} {g g3 : Nat} {m : MdV} {F : Fp}
def oldR (r : RgV) (u : Value × Value × Value) : RgS := ⟨r, some u.1, .old u.2.1, some u.2.2⟩
theorem good_rg2 (L : List RgS) (h : ∀ p ∈ L, (∃ r, p = doneR r) ∨ ∃ r u, p = oldR r u ∧ SrcR W r u) : ∀ P ∈ L.flatMap rgT2, OwnT P := fun P hP => by
  obtain ⟨p, hp, h1⟩ := List.mem_flatMap.1 hP
  rcases h p hp with ⟨r, rfl⟩ | ⟨r, u, rfl, hS⟩
  · rw [doneR_T] at h1; exact good_rg r P h1
  · obtain ⟨⟨A, c, e1, _⟩, ⟨A', c', vs, e2, _⟩, ⟨A'', c'', e3, _⟩⟩ := hS
    simp only [rgT2, oldR, wsT, List.mem_cons, List.not_mem_nil, or_false] at h1
    rcases h1 with rfl | rfl | rfl | rfl | rfl | rfl | rfl
    · exact aV _ _
    · exact aV _ _
    · exact aV _ _
    · exact aV _ _
    · exact good_isV (by rw [e1]; exact ⟨rfl, rfl⟩)
    · exact good_isV (by rw [e2]; exact ⟨rfl, rfl⟩)
    · exact good_isV (by rw [e3]; exact ⟨rfl, rfl⟩)
theorem own_new {w1 : World} {e : TypeId} {z n : Nat} {v : Value} {cs : List Value} {base : Nat} (h : w1.ownsRow base e z v n cs) : ∀ k, v.ownBlock = some k → base ≤ k := fun k hk => by
  obtain ⟨A, c, rfl, _, hn, _⟩ := ba h
  cases A with
  | none => simp [Value.ownBlock] at hk
  | some p => simp [Value.ownBlock] at hk; rw [← hk]; exact (hn p rfl).1
set_option maxHeartbeats 8000000 in
theorem l_copy2 {K : Nat} (Wm : Wf m K) (hK : K ≤ 1000000) {sT hT : Th} {Q : Value → World → Prop} (N : ∀ w F, CpI W w 61 g3 (mdT2 m sT (rgsT m.rgs) hT) F → Q (.pointer (some ⟨g3, 0, none⟩)) w) :
    ∀ (t i : Nat) (w : World) (F : Fp) (L : List RgS), i + t = m.rgs.length → L.length = m.rgs.length → CpI W w 61 g3 (mdT2 m sT (rgsT2 L) hT) F →
      (∀ (j : Nat) (p : RgS), L[j]? = some p → ∃ r, m.rgs[j]? = some r ∧ (j < i → p = doneR r) ∧ (i ≤ j → ∃ u, p = oldR r u ∧ SrcR W r u)) →
      P31_2 (.pointer (some ⟨g3, 0, none⟩)) (.int .i64 m.rgs.length) (.int .i64 i) w Q
  | 0, i, w, F, L, hi, hL, C, hl => by
    apply L31_2_ok
    have : ¬ (i : Int) < m.rgs.length := by omega
    simp -implicitDefEqProofs only [L31_2, zS, this]
    rw [rgs2_done hL fun j p hp => by
      obtain ⟨r, a, b, _⟩ := hl j p hp
      exact ⟨r, a, b (by have := (List.getElem?_eq_some_iff.1 hp).1; omega)⟩] at C
    exact N w F C
  | t + 1, i, w, F, L, hi, hL, C, hl => by
    apply L31_2_ok
    have hlt : (i : Int) < m.rgs.length := by omega
    have hrl := Wm.rl
    obtain ⟨p, hp'⟩ : ∃ p, L[i]? = some p := ⟨_, List.getElem?_eq_getElem (by omega)⟩
    obtain ⟨r, hm, _, h2⟩ := hl i p hp'
    obtain ⟨u, rfl, hS⟩ := h2 (Nat.le_refl _)
    have gL : ∀ Q ∈ L.flatMap rgT2, OwnT Q := good_rg2 (W := W) L fun p hp => by
      obtain ⟨j, hj⟩ := List.getElem?_of_mem hp
      obtain ⟨r, _, a, b⟩ := hl j p hj
      rcases Nat.lt_or_ge j i with h | h
      · exact .inl ⟨r, a h⟩
      · obtain ⟨u, e, s⟩ := b h
        exact .inr ⟨r, u, e, s⟩
    have cd : Chg [] w w.drew := (Chg.refl _ _).drew
    have Cd := C.keep cd
    obtain ⟨⟨A, ca, e1, R1⟩, ⟨A', ca', vs, e2, hvl, R2, hvs⟩, ⟨A'', ca'', e3, R3⟩⟩ := hS
    obtain ⟨u1, u2, u3⟩ := u
    simp only at e1 e2 e3
    subst e1 e2 e3
    have j1 : (L.flatMap rgT2)[i * 7 + 4]? = some (isV (.slice A r.chunks.length ca)) := aN (f := rgT2) (z := 7) (fun _ => rfl) L i _ hp' 4 (by omega)
    have j2 : (L.flatMap rgT2)[i * 7 + 6]? = some (isV (.slice A'' r.objs.length ca'')) := aN (f := rgT2) (z := 7) (fun _ => rfl) L i _ hp' 6 (by omega)
    have j3 : (L.flatMap rgT2)[i * 7 + 5]? = some (isV (.slice A' r.words.length ca')) := aN (f := rgT2) (z := 7) (fun _ => rfl) L i _ hp' 5 (by omega)
    obtain ⟨b, c, v, Fk, h8, hbg, hv4, hu4, _⟩ := Cd.row (k := 8) (e' := 86) (z := 7) (n := L.length) (Qs := L.flatMap rgT2) rfl gL j1
    obtain ⟨b2, c2, v', Fk', h8b, _, hv6, hu6, _⟩ := Cd.row (k := 8) (e' := 86) (z := 7) (n := L.length) (Qs := L.flatMap rgT2) rfl gL j2
    rw [h8] at h8b; cases h8b
    obtain ⟨b3, c3, v'', Fk'', h8c, _, hv5, hu5, _⟩ := Cd.row (k := 8) (e' := 86) (z := 7) (n := L.length) (Qs := L.flatMap rgT2) rfl gL j3
    rw [h8] at h8c; cases h8c
    rw [hu4.1] at hv4; rw [hu6.1] at hv6; rw [hu5.1] at hv5
    rw [hL] at h8
    have h8' : ldC (hp w g3) (0 + 8) = some (.slice (some ⟨b, 0, none⟩) m.rgs.length c) := h8
    have hv4' : ldC (hp w b) (i * 7 + 4) = some (.slice A r.chunks.length ca) := hv4
    have hv6' : ldC (hp w b) (i * 7 + 6) = some (.slice A'' r.objs.length ca'') := hv6
    have hv5' : ldC (hp w b) (i * 7 + 5) = some (.slice A' r.words.length ca') := hv5
    have ia := ia_58 (b := b) (p := 0) (n := m.rgs.length) (c := c) (j := .i64) (i := (i : Int)) (by omega) (by omega)
    rw [Int.toNat_natCast, Nat.zero_add] at ia
    have hR := Wm.rg r (List.mem_of_getElem? hm)
    have hcl := hR.cl
    have hol := hR.ol
    have hwl := hR.wl
    have W2 := Wm.w2
    simp -implicitDefEqProofs only [L31_2, zS, hlt, fa_61_3, ld_58, h8', ia, fa_86_3, fa_86_4, fa_86_5, ld_26, ld_44, ld_84, hv4', hv5', hv6']
    have fin : ∀ (wA wB wC : World) (v1 v2 v3 : Value), Chg [] w.drew wA → Chg [] wA wB → Chg [] wB wC → wA.ownsRow w.drew.heap.size 3 1 v1 r.chunks.length (ints r.chunks) → wB.ownsRow wA.heap.size 38 5 v2 r.objs.length (r.objs.flatMap hnC) → wC.ownsRow wB.heap.size 102 1 v3 r.words.length vs →
        effu Tryz.prog (Instr.storeAt 26 (.pointer (some ⟨b, i * 7 + 4, none⟩)) v1) wC fun w => effu Tryz.prog (Instr.storeAt 44 (.pointer (some ⟨b, i * 7 + 6, none⟩)) v2) w fun w => effu Tryz.prog (Instr.storeAt 84 (.pointer (some ⟨b, i * 7 + 5, none⟩)) v3) w fun w => P31_3 (.pointer (some ⟨g3, 0, none⟩)) (.pointer (some ⟨b, i * 7, none⟩)) (.int .i64 m.rgs.length) (.int .i64 i) w Q := by
      intro wA wB wC v1 v2 v3 cA cB cC o1 o2 o3
      have t1 : intsT r.chunks wA (fun b => v1.ownBlock = some b) v1 := own_flat o1
      have t2 : objsT r.objs wB (fun b => v2.ownBlock = some b) v2 := own_flat o2
      have ev : (r.words.zip (vs.map some)).map wordT2 = vs.map isV := by
        apply List.ext_getElem?
        intro j
        rcases Nat.lt_or_ge j vs.length with hj | hj
        · have hz : (r.words.zip (vs.map some))[j]? = some (r.words[j]'(by omega), some vs[j]) := by
            rw [List.getElem?_zip_eq_some]
            exact ⟨List.getElem?_eq_getElem (by omega), by rw [List.getElem?_map, List.getElem?_eq_getElem hj]; rfl⟩
          rw [List.getElem?_map, hz, List.getElem?_map, List.getElem?_eq_getElem hj]; rfl
        · rw [List.getElem?_eq_none (by simp; omega), List.getElem?_eq_none (by simpa using hj)]
      have hzl : (r.words.zip (vs.map some)).length = r.words.length := by simp [hvl]
      have vone : ∀ x ∈ vs, x.cells = #[x] ∧ x.oneCell' = true := fun x hx => by
        obtain ⟨j, hj⟩ := List.getElem?_of_mem hx
        have hjl := (List.getElem?_eq_some_iff.1 hj).1
        obtain ⟨_, _, e, _⟩ := hvs j _ x (List.getElem?_eq_getElem (by omega)) hj
        rw [e]; exact ⟨rfl, rfl⟩
      have gv : OwnT (isRow 102 1 r.words.length (vs.map isV)) := aX (good_flat vone)
      have t3 : isRow 102 1 r.words.length (vs.map isV) wC (fun b => v3.ownBlock = some b) v3 := own_flat o3
      obtain ⟨b', c', X, eb, q8, _, _, _, _, hX, hE, ok1, ok2, ok3, F', C'⟩ := Cd.three (k := 8) (e' := 86) (z := 7) (n := L.length) (Qs := L.flatMap rgT2) rfl gL j1 j2 j3 (by omega) (by omega) (by omega) cA cB cC (own_new o1) (own_new o2) (own_new o3) (aM _) (good_objs _) gv t1 t2 t3
      rw [hL, h8] at q8
      cases q8
      have hbl := ldC_lt hv4
      have cAC := (cA.trans cB).trans cC
      have hbC : hp wC b = hp w.drew b := cAC.block b hbl (by simp)
      have szC := cAC.size
      have s1 := (aM _).one t1
      have s2 := (good_objs _).one t2
      have s3 := gv.one t3
      have hp1 : hp (put wC b (X.setIfInBounds (i * 7 + 4) v1) eb) b = some (.cells (X.setIfInBounds (i * 7 + 4) v1) eb) := ar (by omega) _ _
      have hp2 : hp (put wC b ((X.setIfInBounds (i * 7 + 4) v1).setIfInBounds (i * 7 + 6) v2) eb) b = some (.cells ((X.setIfInBounds (i * 7 + 4) v1).setIfInBounds (i * 7 + 6) v2) eb) := ar (by omega) _ _
      rw [st_26 (o := i * 7 + 4) s1.1 s1.2 (by rw [hbC]; exact ok1), hbC, hX, hE]
      rw [st_44 (o := i * 7 + 6) s2.1 s2.2 (by rw [hp1]; exact ok2), hp1, bm, ay, put_put]
      rw [st_84 (o := i * 7 + 5) s3.1 s3.2 (by rw [hp2]; exact ok3), hp2, bm, ay, put_put]
      have q1 := flatM_setP (f := rgT2) (z := 7) (fun _ => rfl) (k := 4) (p := intsT r.chunks) (by omega) (x := oldR r (.slice A r.chunks.length ca, .slice A' r.words.length ca', .slice A'' r.objs.length ca'')) (x' := ⟨r, none, .old (.slice A' r.words.length ca'), some (.slice A'' r.objs.length ca'')⟩) rfl hp'
      have hil := (List.getElem?_eq_some_iff.1 hp').1
      have q2 := flatM_setP (f := rgT2) (z := 7) (fun _ => rfl) (k := 6) (p := objsT r.objs) (by omega) (x := ⟨r, none, .old (.slice A' r.words.length ca'), some (.slice A'' r.objs.length ca'')⟩) (x' := ⟨r, none, .old (.slice A' r.words.length ca'), none⟩) rfl (show (L.set i ⟨r, none, .old (.slice A' r.words.length ca'), some (.slice A'' r.objs.length ca'')⟩)[i]? = some _ by rw [List.getElem?_set, if_pos rfl, if_pos hil])
      have q3 := flatM_setP (f := rgT2) (z := 7) (fun _ => rfl) (k := 5) (p := wsT r (.new (r.words.zip (vs.map some)))) (by omega) (x := ⟨r, none, .old (.slice A' r.words.length ca'), none⟩) (x' := ⟨r, none, .new (r.words.zip (vs.map some)), none⟩) rfl (show ((L.set i ⟨r, none, .old (.slice A' r.words.length ca'), some (.slice A'' r.objs.length ca'')⟩).set i ⟨r, none, .old (.slice A' r.words.length ca'), none⟩)[i]? = some _ by rw [List.getElem?_set, if_pos rfl, if_pos (by rw [List.length_set]; exact hil)])
      have ew : isRow 102 1 r.words.length (vs.map isV) = wsT r (.new (r.words.zip (vs.map some))) := by simp only [wsT, hzl, ev]
      rw [q1, q2, ew, q3, List.set_set, List.set_set] at C'
      have e2 : isRow 86 7 L.length ((L.set i ⟨r, none, .new (r.words.zip (vs.map some)), none⟩).flatMap rgT2) = rgsT2 (L.set i ⟨r, none, .new (r.words.zip (vs.map some)), none⟩) := by rw [rgsT2, List.length_set]
      rw [e2, mdT2_r] at C'
      have hG := mem_setG (k := i * 7 + 5) (mem_setG (k := i * 7 + 6) (mem_setG (k := i * 7 + 4) gL (aM r.chunks)) (good_objs r.objs)) gv
      rw [q1, q2, ew, q3, List.set_set, List.set_set] at hG
      have hLs : (L.set i ⟨r, none, .new (r.words.zip (vs.map some)), none⟩)[i]? = some ⟨r, none, .new (r.words.zip (vs.map some)), none⟩ := by rw [List.getElem?_set, if_pos rfl, if_pos hil]
      have hLo : ∀ j, j ≠ i → (L.set i ⟨r, none, .new (r.words.zip (vs.map some)), none⟩)[j]? = L[j]? := fun j hj => by rw [List.getElem?_set, if_neg (fun h => hj h.symm)]
      have hLl : (L.set i ⟨r, none, .new (r.words.zip (vs.map some)), none⟩).length = m.rgs.length := by rw [List.length_set]; exact hL
      have again : ∀ (w : World) (F : Fp) (L2 : List RgS), CpI W w 61 g3 (mdT2 m sT (rgsT2 L2) hT) F → L2.length = m.rgs.length → L2[i]? = some (doneR r) → (∀ j, j ≠ i → L2[j]? = L[j]?) → P31_2 (.pointer (some ⟨g3, 0, none⟩)) (.int .i64 m.rgs.length) (.int .i64 ((i : Int) + 1)) w Q := by
        intro w F L2 C2 hl2 hd hO2
        have := l_copy2 Wm hK N t (i + 1) w F L2 (by omega) hl2 C2 fun j p hp => by
          by_cases hij : j = i
          · subst hij
            rw [hd] at hp; cases hp
            exact ⟨r, hm, fun _ => rfl, fun h => by omega⟩
          · rw [hO2 j hij] at hp
            obtain ⟨r', a, b, c⟩ := hl j p hp
            exact ⟨r', a, fun h => b (by omega), fun h => c (by omega)⟩
        rw [Int.natCast_add i 1] at this
        exact this
      have hp3 : ∀ Y, hp (put wC b Y eb) b = some (.cells Y eb) := fun Y => ar (by omega) _ _
      have h5f : ldC (hp (put wC b (((X.setIfInBounds (i * 7 + 4) v1).setIfInBounds (i * 7 + 6) v2).setIfInBounds (i * 7 + 5) v3) eb) b) (i * 7 + 5) = some v3 := by
        rw [okC_some, decide_eq_true_eq] at ok3
        rw [hp3, aH, Array.getElem?_setIfInBounds_self_of_lt (by omega)]
      have h8f : ldC (hp (put wC b (((X.setIfInBounds (i * 7 + 4) v1).setIfInBounds (i * 7 + 6) v2).setIfInBounds (i * 7 + 5) v3) eb) g3) 8 = some (.slice (some ⟨b, 0, none⟩) m.rgs.length c) := by
        rw [put_other hbg.symm]; exact aQ cAC h8
      apply L31_3_ok
      rcases o3.2 with ⟨e3, h0⟩ | ⟨gw, cap, cur, e3, _⟩
      · have hw0 : r.words = [] := List.length_eq_zero_iff.1 h0
        rw [e3] at h5f ⊢
        rw [e3] at C'
        simp -implicitDefEqProofs only [L31_3, zS, fa_86_4, ld_84, h5f, len_84]
        apply L31_4_ok
        simp -implicitDefEqProofs only [L31_4, zS, am, aq (n := (i : Int) + 1) (by omega) (by omega), Int.lt_irrefl, show ¬ ((0 : Int) < ((0 : Nat) : Int)) by decide]
        refine again _ F' _ C' hLl ?_ hLo
        rw [hLs]
        simp only [doneR, hw0, List.zip_nil_left, List.map_nil]
      · rw [e3] at h5f h8f C' ⊢
        simp -implicitDefEqProofs only [L31_3, zS, fa_86_4, ld_84, h5f, len_84]
        refine l_copy4 (L0 := L) (by omega) (fun l hl => by have := hR.ww l hl; omega) (by omega) again r.words.length 0 _ F' _ _ (by omega) C' hLl hG hLs hzl hLo (fun j p hp => ?_) h8f h5f
        rw [List.getElem?_zip_eq_some] at hp
        rw [List.getElem?_map] at hp
        obtain ⟨a, b⟩ := hp
        obtain ⟨u, hu, e⟩ := Option.map_eq_some_iff.1 b
        exact ⟨a, fun h => absurd h (by omega), fun _ => ⟨u, e.symm, hvs j _ u a hu⟩⟩
    repeat'  (with_reducible apply And.intro)
    all_goals
      refine (c_clInts (R1.keep Cd.chg.below) (by simp [ints]) (fun x hx => by obtain ⟨k, y, rfl⟩ := ints_int _ x hx; rfl) (by omega)).mono ?_
      rintro v1 wA ⟨o1, cA⟩
      have a5 := aQ cA (show ldC (hp w.drew b) (i * 7 + 5) = _ from hv5)
      have a6 := aQ cA (show ldC (hp w.drew b) (i * 7 + 6) = _ from hv6)
      try simp -implicitDefEqProofs only [zS, ld_44, ld_84, a5, a6]
      refine (c_clHandles (R3.keep (Cd.chg.trans cA).below) (flat_len hnC_len r.objs) (fun x hx => by obtain ⟨k, y, rfl⟩ := hnC_int _ x hx; rfl) (by omega)).mono ?_
      rintro v2 wB ⟨o2, cB⟩
      have b5 := aQ cB a5
      try simp -implicitDefEqProofs only [zS, ld_84, b5]
      refine (c_clWords (R2.keep ((Cd.chg.trans cA).trans cB).below) (by omega) (fun x hx => by
        obtain ⟨j, hj⟩ := List.getElem?_of_mem hx
        have hjl := (List.getElem?_eq_some_iff.1 hj).1
        obtain ⟨_, _, e, _⟩ := hvs j _ x (List.getElem?_eq_getElem (by omega)) hj
        rw [e]; rfl) (by omega)).mono ?_
      rintro v3 wC ⟨o3, cC⟩
      try simp -implicitDefEqProofs only [zS, fa_86_3, fa_86_4, fa_86_5]
      exact fin wA wB wC v1 v2 v3 cA cB cC o1 o2 o3
end
end Go.Proofs.YteapggpkgfiacaaGreat

namespace Go.Proofs.YteapggpkgfiacaaGreat
open Go Ev Go.RowKit

section
variable {w : World} {g : Nat} {m : MdV} {F : Fp}
theorem hd2_eq (L : List HdV) (us : List Value) : (L.zip (us.map some)).flatMap hdT2 = ((L.zip us).flatMap fun p => [Value.int .i64 p.1.depth, p.2]).map isV := by
  rw [List.zip_map_right, List.flatMap_map, List.map_flatMap]; rfl
theorem rg2_eq (L : List RgV) (us : List (Value × Value × Value)) : ((L.zip us).map fun p => oldR p.1 p.2).flatMap rgT2 = ((L.zip us).flatMap rgC2).map isV := by
  rw [List.flatMap_map, List.map_flatMap]; rfl
set_option maxHeartbeats 4000000 in
theorem c_mCopy {K : Nat} (I : MdI w g m F) (Wm : Wf m K) (hK : K ≤ 1000000) (hn : m.hands.length ≤ 1000000) :
    CallR Tryz.prog 31 [.pointer (some ⟨g, 0, none⟩)] w fun v w' => ∃ g3 F', v = .pointer (some ⟨g3, 0, none⟩) ∧ MdI w' g3 m F' ∧ (∀ k, F' k → w.heap.size ≤ k) ∧ Chg [] w w' := by
  apply F31_ok
  obtain ⟨sv, rv, hv, R⟩ := I.rd
  obtain ⟨sv', rv', hv', xs, h1, hxl, hx1, _, _, _, hfirst⟩ := cp_first I
  have hsl := Wm.sl
  have hrl := Wm.rl
  have W2 := Wm.w2
  have ldm : ldv Tryz.prog 61 (.pointer (some ⟨g, 0, none⟩)) w = some (.agg xs.toArray) := aJ (t := 61) ag_61 (by rw [sz_61]; simp [hxl]) h1
  simp -implicitDefEqProofs only [F31, ah, ab, ldm, al_61]
  generalize hwa : w.alloc _ = wa
  have ca : Chg [] w wa := by rw [← hwa]; exact (Chg.refl _ _).alloc _
  obtain ⟨z, ha, hz⟩ : ∃ z : Array Value, hp wa w.heap.size = some (.cells z 61) ∧ z.size = 10 := by rw [← hwa, aa, if_pos rfl]; exact ⟨_, rfl, rfl⟩
  clear hwa
  rw [st_61 (by simp [hxl]) hx1 (by rw [ha, okC_some]; exact decide_eq_true (by omega)) (by rw [ha]; exact hz), ha, ay]
  have c1 : Chg [] w (put wa w.heap.size xs.toArray 61) := ca.put (.inr (Nat.le_refl _)) _ _
  have C0 := hfirst c1 (Nat.le_refl _) (ar (av ha) _ _)
  generalize put wa w.heap.size xs.toArray 61 = w1 at *
  generalize hg3 : w.heap.size = g3 at C0 ⊢
  have R1 := R.keep C0.chg
  simp -implicitDefEqProofs only [ah, ab, fa_61_2, ld_57, R1.sl]
  obtain ⟨Fs, tS⟩ := R1.sT
  obtain ⟨oS, _⟩ := flat_own tS
  obtain ⟨As, cS, rfl, rS, _, _⟩ := ba oS
  refine (c_clSlot rS (flat_len (z := 2) (fun _ => rfl) m.slots) (fun x hx => by obtain ⟨k, y, rfl⟩ := nmC_int _ x hx; rfl) hsl).mono ?_
  rintro v2 w2 ⟨o2, c2⟩
  obtain ⟨ok2, a2, b2, F2, C2⟩ := C0.cell (k := 7) (P := isV sv') rfl (P' := slotsT m.slots) c2 (own_new o2) (good_slots _) (own_flat o2)
  simp -implicitDefEqProofs only [ah, ab, fa_61_2, fa_61_4]
  rw [st_57 (o := 0 + 7) a2 b2 ok2]
  rw [mdT2_s] at C2
  change CpI w (put w2 g3 ((getC (hp w2 g3)).setIfInBounds (0 + 7) v2) (getE (hp w2 g3))) _ _ _ _ at C2
  generalize put w2 g3 ((getC (hp w2 g3)).setIfInBounds (0 + 7) v2) (getE (hp w2 g3)) = w3 at *
  have R2 := R.keep C2.chg
  simp -implicitDefEqProofs only [ah, ab, fa_61_4, ld_59, R2.hl]
  obtain ⟨Fh, tH⟩ := R.hT
  obtain ⟨Ah, cH, us, rfl, hul, hus, rH⟩ := src_hands tH
  have hzl : ((m.hands.zip us).flatMap fun p => [Value.int .i64 p.1.depth, p.2]).length = m.hands.length * 2 := by
    rw [flat_len (z := 2) (fun p => rfl)]; simp [hul]
  refine (c_clHand (rH.keep C2.chg.below) hzl (fun x hx => ?_) hn).mono ?_
  · obtain ⟨p, hp, hx⟩ := List.mem_flatMap.1 hx
    simp only [List.mem_cons, List.not_mem_nil, or_false] at hx
    rcases hx with rfl | rfl
    · rfl
    · obtain ⟨i, hi⟩ := List.getElem?_of_mem hp
      rw [List.getElem?_zip_eq_some] at hi
      obtain ⟨A, c, e, _⟩ := hus i _ _ hi.1 hi.2
      rw [e]; rfl
  rintro v4 w4 ⟨o4, c4⟩
  have t4 : handsT2 (m.hands.zip (us.map some)) w4 (fun b => v4.ownBlock = some b) v4 := by
    have e := own_flat o4
    rw [← hd2_eq] at e
    have el : (m.hands.zip (us.map some)).length = m.hands.length := by simp [hul]
    unfold handsT2
    rw [el]; exact e
  have gh : OwnT (handsT2 (m.hands.zip (us.map some))) := aX (good_hd2 _ fun p hp u hu => by
    obtain ⟨i, hi⟩ := List.getElem?_of_mem hp
    rw [List.getElem?_zip_eq_some, List.getElem?_map] at hi
    obtain ⟨u', hu', e⟩ := Option.map_eq_some_iff.1 hi.2
    rw [hu] at e; cases e
    obtain ⟨A, c, e, _⟩ := hus i _ _ hi.1 hu'
    rw [e]; exact ⟨rfl, rfl⟩)
  obtain ⟨ok4, a4, b4, F4, C4⟩ := C2.cell (k := 9) (P := isV hv') rfl (P' := handsT2 (m.hands.zip (us.map some))) c4 (own_new o4) gh t4
  rw [st_59 (o := 0 + 9) a4 b4 ok4]
  rw [mdT2_h] at C4
  change CpI w (put w4 g3 ((getC (hp w4 g3)).setIfInBounds (0 + 9) v4) (getE (hp w4 g3))) _ _ _ _ at C4
  obtain ⟨v9, F9, _, _, l9, t9, _⟩ := isAt.repl C4.I C4.good (k := 9) (P := handsT2 (m.hands.zip (us.map some))) rfl
  obtain ⟨A9, c9, xs9, Fs9, e9, _⟩ := isRow.rd t9
  have el : (m.hands.zip (us.map some)).length = m.hands.length := by simp [hul]
  rw [el] at e9
  subst e9
  generalize put w4 g3 ((getC (hp w4 g3)).setIfInBounds (0 + 9) v4) (getE (hp w4 g3)) = w5 at *
  have l9' : ldC (hp w5 g3) (0 + 9) = some (.slice A9 m.hands.length c9) := l9
  simp -implicitDefEqProofs only [ah, ab, fa_61_4, ld_59, l9', len_59]
  refine l_copy0 Wm hK hn (fun w6 F6 C6 => ?_) m.hands.length 0 w5 F4 (m.hands.zip (us.map some)) (by omega) el C4 (fun j p hp => ?_)
  case refine_2 =>
    rw [List.getElem?_zip_eq_some, List.getElem?_map] at hp
    obtain ⟨u', hu', e⟩ := Option.map_eq_some_iff.1 hp.2
    exact ⟨hp.1, fun h => absurd h (by omega), fun _ => ⟨u', e.symm, hus j _ _ hp.1 hu'⟩⟩
  apply L31_0_ok
  have R6 := R.keep C6.chg
  simp -implicitDefEqProofs only [L31_0, zS, Int.lt_irrefl, fa_61_3, ld_58, R6.rl]
  obtain ⟨Fr, tR⟩ := R.rT
  obtain ⟨Ar, cR, ur, rfl, hrl2, hur, rR⟩ := src_rgs tR
  have hzr : ((m.rgs.zip ur).flatMap rgC2).length = m.rgs.length * 7 := by
    rw [flat_len (z := 7) (fun p => rfl)]; simp [hrl2]
  refine (c_clRegion (rR.keep C6.chg.below) hzr (fun x hx => ?_) (by omega)).mono ?_
  · obtain ⟨p, hp, hx⟩ := List.mem_flatMap.1 hx
    obtain ⟨i, hi⟩ := List.getElem?_of_mem hp
    rw [List.getElem?_zip_eq_some] at hi
    obtain ⟨⟨A, c, e1, _⟩, ⟨A', c', vs, e2, _⟩, ⟨A'', c'', e3, _⟩⟩ := hur i _ _ hi.1 hi.2
    simp only [rgC2, List.mem_cons, List.not_mem_nil, or_false] at hx
    rcases hx with rfl | rfl | rfl | rfl | rfl | rfl | rfl
    · rfl
    · rfl
    · rfl
    · rfl
    · rw [e1]; rfl
    · rw [e2]; rfl
    · rw [e3]; rfl
  rintro v7 w7 ⟨o7, c7⟩
  have hl7 : ((m.rgs.zip ur).map fun p => oldR p.1 p.2).length = m.rgs.length := by simp [hrl2]
  have t7 : rgsT2 ((m.rgs.zip ur).map fun p => oldR p.1 p.2) w7 (fun b => v7.ownBlock = some b) v7 := by
    have e := own_flat o7
    rw [← rg2_eq] at e
    unfold rgsT2
    rw [hl7]; exact e
  have hsrc : ∀ (j : Nat) (p : RgS), ((m.rgs.zip ur).map fun p => oldR p.1 p.2)[j]? = some p → ∃ r u, m.rgs[j]? = some r ∧ p = oldR r u ∧ SrcR w r u := fun j p hp => by
    rw [List.getElem?_map] at hp
    obtain ⟨q, hq, rfl⟩ := Option.map_eq_some_iff.1 hp
    rw [List.getElem?_zip_eq_some] at hq
    exact ⟨q.1, q.2, hq.1, rfl, hur j _ _ hq.1 hq.2⟩
  have gr : OwnT (rgsT2 ((m.rgs.zip ur).map fun p => oldR p.1 p.2)) := aX (good_rg2 (W := w) _ fun p hp => by
    obtain ⟨i, hi⟩ := List.getElem?_of_mem hp
    obtain ⟨r, u, _, e, s⟩ := hsrc i p hi
    exact .inr ⟨r, u, e, s⟩)
  obtain ⟨ok7, a7, b7, F7, C7⟩ := C6.cell (k := 8) (P := isV rv') rfl (P' := rgsT2 ((m.rgs.zip ur).map fun p => oldR p.1 p.2)) c7 (own_new o7) gr t7
  rw [st_58 (o := 0 + 8) a7 b7 ok7]
  rw [mdT2_r] at C7
  change CpI w (put w7 g3 ((getC (hp w7 g3)).setIfInBounds (0 + 8) v7) (getE (hp w7 g3))) _ _ _ _ at C7
  obtain ⟨v8, F8, _, _, l8, t8, _⟩ := isAt.repl C7.I C7.good (k := 8) (P := rgsT2 ((m.rgs.zip ur).map fun p => oldR p.1 p.2)) rfl
  obtain ⟨A8, c8, xs8, Fs8, e8, _⟩ := isRow.rd t8
  rw [hl7] at e8
  subst e8
  generalize put w7 g3 ((getC (hp w7 g3)).setIfInBounds (0 + 8) v7) (getE (hp w7 g3)) = w8 at *
  have l8' : ldC (hp w8 g3) (0 + 8) = some (.slice A8 m.rgs.length c8) := l8
  simp -implicitDefEqProofs only [ah, ab, fa_61_3, ld_58, l8', len_58]
  refine l_copy2 Wm hK (fun w9 F9 C9 => ⟨g3, F9, rfl, (mdT2_full m ▸ C9.I : isAt 61 g3 (mdT m) w9 F9), fun k hk => hg3 ▸ C9.new k hk, C9.chg⟩) m.rgs.length 0 w8 F7 _ (by omega) hl7 C7 (fun j p hp => ?_)
  obtain ⟨r, u, e1, e2, e3⟩ := hsrc j p hp
  exact ⟨r, e1, fun h => absurd h (by omega), fun _ => ⟨u, e2, e3⟩⟩
end
end Go.Proofs.YteapggpkgfiacaaGreat

