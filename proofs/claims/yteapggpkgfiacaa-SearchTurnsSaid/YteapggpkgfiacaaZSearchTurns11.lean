/- Parts of the proof of SearchTurns, one behind the other. Conditions: none. -/
import Derived.Test.YteapggpkgfiacaaZSearchTurns10
namespace Go.Proofs.Yteapggpkgfiacaa
open Go Ev Go.RowKit
set_option linter.unusedSimpArgs false
set_option linter.unusedVariables false
set_option maxRecDepth 10000

noncomputable def mayB (l : List SpV) : Bool := @decide (mayL l) (Classical.propDecidable _)
theorem mayB_f {l : List SpV} {i : Nat} (hi : i < l.length) (h : ¬ okAt l i) : mayB l = false := by
  unfold mayB
  exact @decide_eq_false _ (Classical.propDecidable _) fun hm => h (hm i hi)
theorem mayB_t {l : List SpV} (h : mayL l) : mayB l = true := by
  unfold mayB
  exact @decide_eq_true _ (Classical.propDecidable _) h
theorem ldC_keep {w w' : World} (hc : Chg [] w w') {b o : Nat} {v : Value} (h : ldC (hp w b) o = some v) : ldC (hp w' b) o = some v := by
  cases hb : hp w b with
  | none => rw [hb] at h; cases h
  | some x => rw [hc.at hb (by simp), ← hb]; exact h
theorem ldL_keep {w w' : World} (hc : Chg [] w w') {b : Nat} : ∀ (n o : Nat) (vs : List Value), ldL (hp w b) o n = some vs → ldL (hp w' b) o n = some vs
  | 0, o, vs, h => h
  | n + 1, o, vs, h => by
    rw [ldL] at h ⊢
    cases h1 : ldC (hp w b) o with
    | none => rw [h1] at h; cases h
    | some v =>
      cases h2 : ldL (hp w b) (o + 1) n with
      | none => rw [h1, h2] at h; cases h
      | some us =>
        rw [h1, h2] at h
        rw [ldC_keep hc h1, ldL_keep hc n (o + 1) us h2]; exact h
/-- a span's place: what is read there, in this world and in later ones -/
structure At (w : World) (b o : Nat) (s : SpV) : Prop where
  l : ldL (hp w b) o 20 = some (spC s)
  f : ∀ k, k < 20 → ldC (hp w b) (o + k) = (spA s)[k]?
theorem At.keep {w w' : World} {b o : Nat} {s : SpV} (h : At w b o s) (hc : Chg [] w w') : At w' b o s := by
  refine ⟨ldL_keep hc _ _ _ h.l, fun k hk => ?_⟩
  have hk' : k < (spC s).length := hk
  have e : (spA s)[k]? = some ((spC s)[k]'hk') := by simp [spA]
  have := h.f k hk
  rw [e] at this ⊢
  exact ldC_keep hc this
theorem At.ld {w : World} {b o : Nat} {s : SpV} (h : At w b o s) : ldv Try.prog 34 (.pointer (some ⟨b, o, none⟩)) w = some (.agg (spA s)) := by
  rw [ld_34, h.l]; rfl
theorem At.f0 {w : World} {b o : Nat} {s : SpV} (h : At w b o s) : ldC (hp w b) (o + 0) = some (.int .i64 s.wk) := (h.f 0 (by omega)).trans (sp0 s)
theorem At.f1 {w : World} {b o : Nat} {s : SpV} (h : At w b o s) : ldC (hp w b) (o + 1) = some (.int .i64 s.ix) := (h.f 1 (by omega)).trans (sp1 s)
theorem At.f8 {w : World} {b o : Nat} {s : SpV} (h : At w b o s) : ldC (hp w b) (o + 8) = some (.int .i64 s.iv) := (h.f 8 (by omega)).trans (sp8 s)
theorem at_blk {w : World} {b : Nat} {s : SpV} {e : TypeId} (h : hp w b = some (.cells (spA s) e)) : At w b 0 s :=
  ⟨by rw [h]; exact ldL_some (c := spA s) (Nat.le_refl _), fun k hk => by rw [h, ldC_some, Nat.zero_add]⟩
theorem sp_at' {w : World} {A : Option Addr} {l : List SpV} {c i : Nat} {j : IntKind} (h : RdV w A (l.flatMap spC)) (hi : i < l.length) :
    ∃ b o, pureRun Try.prog (Instr.indexAt 35 (.slice A l.length c) (.int j i)) = some (.pointer (some ⟨b, o, none⟩)) ∧ At w b o l[i] := by
  obtain ⟨b, o, h1, h2, h3, _⟩ := h.elem (P := Try.prog) (c := c) (n := l.length) (i := (i : Int)) (j := j) Try.underlying35 sz_34 (by omega) (by rw [flat_len spC_len]; exact Nat.le_refl _) (by omega) (by omega)
  rw [Int.toNat_natCast, flat_at spC_len l i hi] at h3
  refine ⟨b, o, h1, h3, fun k hk => ?_⟩
  rw [h2 k hk, Int.toNat_natCast, flat_get spC_len l i hi k hk]
  simp [spA]
theorem l_May1 {l : List SpV} (hl : l.length ≤ 1000000) {A : Option Addr} {c i g : Nat} (hi : i < l.length) {W : World} (r : Bool) (hr : (∃ k a, k < i ∧ l[k]? = some a ∧ clash a l[i] = true) → r = false)
    (next : (∀ k a, k < i → l[k]? = some a → clash a l[i] = false) → ∀ w, RdV w A (l.flatMap spC) → Chg [] W w → P15_0 (.slice A l.length c) (.slice A l.length c) (.int .i64 l.length) (.int .i64 ((i : Int) + 1)) w fun v w' => v = .bool r ∧ Chg [] W w') :
    ∀ (d k : Nat) (w : World), RdV w A (l.flatMap spC) → hp w g = some (.cells (spA l[i]) 34) → Chg [] W w → (∀ k' a, k' < k → l[k']? = some a → clash a l[i] = false) → k + d = i →
      P15_1 (.slice A l.length c) (.pointer (some ⟨g, 0, none⟩)) (.slice A l.length c) (.int .i64 l.length) (.int .i64 i) (.int .i64 i) (.int .i64 k) w fun v w' => v = .bool r ∧ Chg [] W w' := by
  intro d
  induction d with
  | zero =>
    intro k w hA hg hW hno hk
    apply L15_1_ok
    have : ¬ ((k : Int) < i) := by omega
    simp -implicitDefEqProofs only [L15_1, wpB_some', bp_lss, this, decide_false, cnd_false, bp_add, wrapi (n := (i : Int) + 1) (by omega) (by omega)]
    exact next (fun k' a hk' ha => hno k' a (by omega) ha) w hA hW
  | succ d ih =>
    intro k w hA hg hW hno hk
    apply L15_1_ok
    have hlt : (k : Int) < i := by omega
    have hkl : k < l.length := by omega
    obtain ⟨b, o, q1, q2⟩ := sp_at' (c := c) (j := .i64) (i := k) hA hkl
    have hgs := at_blk hg
    have go : clash l[k] l[i] = false → ∀ w', Chg [] w w' → P15_1 (.slice A l.length c) (.pointer (some ⟨g, 0, none⟩)) (.slice A l.length c) (.int .i64 l.length) (.int .i64 i) (.int .i64 i) (.int .i64 ((k : Int) + 1)) w' fun v w' => v = .bool r ∧ Chg [] W w' := by
      intro hcl w' hc
      have h := ih (k + 1) w' (hA.keep hc.below) (hc.at hg (by simp)) (hW.trans hc) (fun k' a hk' ha => by
        rcases Nat.lt_or_ge k' k with h | h
        · exact hno k' a h ha
        · have : k' = k := by omega
          subst this
          rw [List.getElem?_eq_getElem hkl] at ha
          rw [← Option.some.inj ha]; exact hcl) (by omega)
      rw [Int.natCast_add k 1] at h
      exact h
    have stop : clash l[k] l[i] = true → r = false := fun hcl => hr ⟨k, l[k], by omega, List.getElem?_eq_getElem hkl, hcl⟩
    generalize hs : l[i] = s at *
    generalize ha : l[k] = a at *
    -- the shared steps, behind the first test
    have tail : ∀ w', Chg [] w w' → (∀ b : Bool, shrd a s = b → clash a s = b) → CallR Try.prog 34 [.agg (spA a), .agg (spA s)] w' fun t68 w => wpB (pickv (.bool false) (some (Go.Value.bool true)) (some t68)) fun t69 => cnd t69 ((Go.Value.bool false) = .bool r ∧ Chg [] W w)
        (wpB (bp Try.prog .add 3 (.int .i64 k) (Go.Value.int Go.IntKind.i64 1)) fun t70 => P15_1 (.slice A l.length c) (.pointer (some ⟨g, 0, none⟩)) (.slice A l.length c) (.int .i64 l.length) (.int .i64 i) (.int .i64 i) t70 w fun v w' => v = .bool r ∧ Chg [] W w') := by
      intro w' hc hcl
      refine (c_shared a s w').mono ?_
      rintro v w2 ⟨rfl, hc2⟩
      cases hsh : shrd a s with
      | true =>
        simp -implicitDefEqProofs only [pickv_false, wpB_some', cnd_true]
        exact ⟨by rw [stop (hcl true hsh)], hW.trans (hc.trans hc2)⟩
      | false =>
        simp -implicitDefEqProofs only [pickv_false, wpB_some', cnd_false, bp_add, wrapi (n := (k : Int) + 1) (by omega) (by omega)]
        exact go (hcl false hsh) w2 (hc.trans hc2)
    simp -implicitDefEqProofs only [L15_1, wpB_some', bp_lss, hlt, decide_true, cnd_true, q1, fa_34_0, ld_3, hp_drew, q2.f0, hgs.f0, be_eql]
    by_cases h1 : a.wk = s.wk
    · have e1 : (a.wk == s.wk) = true := by rw [h1]; simp
      simp -implicitDefEqProofs only [e1, gd_true, gv_true, q1, (q2.keep (Chg.refl [] w).drew).ld, (hgs.keep (Chg.refl [] w).drew).ld, wpB_some', gE_true]
      refine (c_Ahead a s w.drew).mono ?_
      rintro v w1 ⟨rfl, hc1⟩
      have hc1 : Chg [] w w1 := (Chg.refl _ _).drew.trans hc1
      have q3 := q2.keep hc1
      have hg3 := hgs.keep hc1
      cases hah : ahead a s with
      | false =>
        simp -implicitDefEqProofs only [pr_not, Bool.not_false, gd_true, gd_tf, gv_tf, wpB_some', pickv_true, gE_tf, cnd_true]
        exact ⟨by rw [stop (by simp [clash, h1, hah])], hW.trans hc1⟩
      | true =>
        by_cases h2 : s.ix ≤ a.ix
        · simp -implicitDefEqProofs only [pr_not, Bool.not_true, gd_true, gd_false, gv_true, gv_false, fa_34_1, ld_3, hg3.f1, q1, q3.f1, bp_leq, h2, decide_true, wpB_some', pickv_true, pickv_false, gd_tf, gv_tf, gE_tf, cnd_true]
          exact ⟨by rw [stop (by simp [clash, h1, h2])], hW.trans hc1⟩
        · simp -implicitDefEqProofs only [pr_not, Bool.not_true, gd_true, gd_false, gv_true, gv_false, fa_34_1, ld_3, hg3.f1, q1, q3.f1, bp_leq, h2, decide_false, wpB_some', pickv_true, pickv_false, q3.ld, hg3.ld, gE_false]
          exact tail w1 hc1 fun b hb => by simp [clash, hah, h2, hb]
    · simp -implicitDefEqProofs only [eqf h1, gd_ft, gv_ft, gE_ft, gd_uf, gv_uf, wpB_some', pickv_false, gd_false, gv_false, q1, (q2.keep (Chg.refl [] w).drew).ld, (hgs.keep (Chg.refl [] w).drew).ld, gE_false]
      exact tail w.drew (Chg.refl _ _).drew fun b hb => by simp [clash, h1, hb]
end Go.Proofs.Yteapggpkgfiacaa

namespace Go.Proofs.Yteapggpkgfiacaa
open Go Ev Go.RowKit
set_option linter.unusedSimpArgs false
set_option linter.unusedVariables false
set_option maxRecDepth 10000

/-- a Point, or a Back: step, span, is it a Back -/
abbrev EvV := Int × Int × Bool
def evC (e : EvV) : List Value := [.int .i64 e.1, .int .i64 e.2.1, .bool e.2.2]
end Go.Proofs.Yteapggpkgfiacaa

namespace Go.Proofs.Yteapggpkgfiacaa
open Go Ev Go.RowKit
set_option linter.unusedSimpArgs false
set_option linter.unusedVariables false
set_option maxRecDepth 10000

theorem l_May0 {l : List SpV} (hl : l.length ≤ 1000000) {A : Option Addr} {c : Nat} {W : World} : ∀ (d i : Nat) (w : World), RdV w A (l.flatMap spC) → Chg [] W w → (∀ j, j < i → okAt l j) → i + d = l.length →
    P15_0 (.slice A l.length c) (.slice A l.length c) (.int .i64 l.length) (.int .i64 i) w fun v w' => v = .bool (mayB l) ∧ Chg [] W w' := by
  intro d
  induction d with
  | zero =>
    intro i w hA hW hok hi
    apply L15_0_ok
    have : ¬ ((i : Int) < l.length) := by omega
    simp -implicitDefEqProofs only [L15_0, wpB_some', bp_lss, this, decide_false, cnd_false]
    exact ⟨by rw [mayB_t fun j hj => hok j (by omega)], hW⟩
  | succ d ih =>
    intro i w hA hW hok hi
    apply L15_0_ok
    have hlt : (i : Int) < l.length := by omega
    have hil : i < l.length := by omega
    obtain ⟨b, o, q1, q2⟩ := sp_at' (c := c) (j := .i64) (i := i) hA hil
    simp -implicitDefEqProofs only [L15_0, wpB_some', bp_lss, hlt, decide_true, cnd_true, q1, q2.ld, al_34]
    rw [st_34 (by rfl) (by rfl) (by rw [alloc_heap, if_pos rfl]; rfl) (by rw [alloc_heap, if_pos rfl]; rfl), alloc_heap, if_pos rfl]
    simp -implicitDefEqProofs only [getE_some]
    have hcz : ∀ z : Array Value, Chg [] w (put (w.alloc (.cells z 34)) w.heap.size (spA l[i]) 34) ∧ hp (put (w.alloc (.cells z 34)) w.heap.size (spA l[i]) 34) w.heap.size = some (.cells (spA l[i]) 34) := fun z =>
      ⟨((Chg.refl _ _).alloc _).put (.inr (Nat.le_refl _)) _ _, by rw [put_heap, if_pos rfl, if_pos (by simp)]⟩
    obtain ⟨hc0, hg⟩ := hcz #[.int .i64 0, .int .i64 0, .int .i64 0, .int .i64 0, .int .i64 0, .int .i64 0, .int .u64 0, .int .u64 0, .int .i64 0, .int .i64 0, .int .i64 0, .int .i64 0, .int .i64 0, .int .i64 0, .int .i64 0, .int .i64 0, .int .i64 0, .int .i64 0, .int .i64 0, .int .u64 0]
    generalize put (w.alloc (.cells #[.int .i64 0, .int .i64 0, .int .i64 0, .int .i64 0, .int .i64 0, .int .i64 0, .int .u64 0, .int .u64 0, .int .i64 0, .int .i64 0, .int .i64 0, .int .i64 0, .int .i64 0, .int .i64 0, .int .i64 0, .int .i64 0, .int .i64 0, .int .i64 0, .int .i64 0, .int .u64 0] 34)) w.heap.size (spA l[i]) 34 = w1 at *
    generalize w.heap.size = g at *
    have hgs := at_blk hg
    simp -implicitDefEqProofs only [(hgs.keep (Chg.refl [] w1).drew).ld, wpB_some']
    refine (c_right l[i] w1.drew).mono ?_
    rintro v w2 ⟨rfl, hc2⟩
    have hc2 : Chg [] w1 w2 := (Chg.refl _ _).drew.trans hc2
    have hc02 := hc0.trans hc2
    have hA2 := hA.keep hc02.below
    have hg2 := hgs.keep hc2
    have bad : ¬ okAt l i → mayB l = false := fun h => mayB_f hil h
    have ge : l[i]? = some l[i] := List.getElem?_eq_getElem hil
    have inner : right l[i] = true → (∀ p, 0 < i → l[i - 1]? = some p → p.iv < l[i].iv) → P15_1 (.slice A l.length c) (.pointer (some ⟨g, 0, none⟩)) (.slice A l.length c) (.int .i64 l.length) (.int .i64 i) (.int .i64 i) (.int .i64 0) w2 fun v w' => v = .bool (mayB l) ∧ Chg [] W w' := by
      intro h1 h2
      refine l_May1 (W := W) hl hil (mayB l) (fun ⟨k, a, hk, ha, hcl⟩ => bad fun hokk => by
        have := (hokk l[i] ge).2.2 k a hk ha
        rw [hcl] at this; cases this) (fun hno w' hA' hW' => ?_) i 0 w2 hA2 (hc2.at hg (by simp)) (hW.trans hc02) (fun k' a hk' => by omega) (by omega)
      have h := ih (i + 1) w' hA' hW' (fun j hj => by
        rcases Nat.lt_or_ge j i with h | h
        · exact hok j h
        · have : j = i := by omega
          subst this
          intro s hs
          rw [ge] at hs
          cases hs
          exact ⟨h1, h2, hno⟩) (by omega)
      rw [Int.natCast_add i 1] at h
      exact h
    cases hr : right l[i] with
    | false =>
      simp -implicitDefEqProofs only [pr_not, Bool.not_false, wpB_some', gd_tf, gv_tf, pickv_true, cnd_true, gd_ut, gv_ut]
      exact ⟨by rw [bad fun h => by have := (h l[i] ge).1; rw [hr] at this; cases this], hW.trans hc02⟩
    | true =>
      by_cases h0 : (0 : Int) < i
      · have hi1 : i - 1 < l.length := by omega
        obtain ⟨b1, o1, r1, r2⟩ := sp_at' (c := c) (j := .i64) (i := i - 1) hA2 hi1
        rw [show ((i - 1 : Nat) : Int) = (i : Int) - 1 by omega] at r1
        by_cases hle : l[i].iv ≤ l[i - 1].iv
        · simp -implicitDefEqProofs only [pr_not, Bool.not_true, wpB_some', gd_false, gv_false, bp_gtr, h0, decide_true, gd_true, gv_true, fa_34_3, ld_3, hg2.f8, bp_sub, wrapi (n := (i : Int) - 1) (by omega) (by omega), r1, r2.f8, bp_leq, hle, pickv_true, pickv_false, cnd_true]
          exact ⟨by rw [bad fun h => by have := (h l[i] ge).2.1 l[i - 1] (by omega) (List.getElem?_eq_getElem hi1); omega], hW.trans hc02⟩
        · simp -implicitDefEqProofs only [pr_not, Bool.not_true, wpB_some', gd_false, gv_false, bp_gtr, h0, decide_true, decide_false, gd_true, gv_true, fa_34_3, ld_3, hg2.f8, bp_sub, wrapi (n := (i : Int) - 1) (by omega) (by omega), r1, r2.f8, bp_leq, hle, pickv_true, pickv_false, cnd_false]
          exact inner hr fun p _ hp => by
            rw [List.getElem?_eq_getElem hi1] at hp
            cases hp; omega
      · simp -implicitDefEqProofs only [pr_not, Bool.not_true, wpB_some', gd_false, gv_false, bp_gtr, h0, decide_false, gd_ft, gv_ft, pickv_false, cnd_false]
        exact inner hr fun p h _ => by omega
theorem c_RMay {l : List SpV} (hl : l.length ≤ 1000000) {v : Value} {w : World} (hv : SlP w v l) : CallR Try.prog 15 [v] w fun r w' => r = .bool (mayB l) ∧ Chg [] w w' := by
  obtain ⟨A, c, rfl, hA⟩ := hv
  apply F15_ok
  simp -implicitDefEqProofs only [F15, len_35, wpB_some']
  exact l_May0 hl l.length 0 w hA (Chg.refl _ _) (fun j hj => by omega) (by omega)
end Go.Proofs.Yteapggpkgfiacaa

namespace Go.Proofs.Yteapggpkgfiacaa
open Go Ev Go.RowKit
set_option linter.unusedSimpArgs false
set_option linter.unusedVariables false
set_option maxRecDepth 10000

end Go.Proofs.Yteapggpkgfiacaa

namespace Go.Proofs.Yteapggpkgfiacaa
open Go Ev Go.RowKit
set_option linter.unusedSimpArgs false
set_option linter.unusedVariables false
set_option maxRecDepth 10000

/-- is a the span whose answer s's operation is of? -/
def hitB (s a : SpV) : Bool := decide (a.wk = s.op.2.1) && (decide (a.ix = s.op.2.2.1) && (decide (a.op.1 = 1 ∨ a.op.1 = 2) && (decide (a.re.1 = 0) && ahead a s)))
def hOf (l : List SpV) (s : SpV) : HnV := (l.find? (hitB s)).elim noH fun a => a.re.2.1
def handV (l : List SpV) (s : SpV) : HnV := if ofK s.op.1 = 0 then noH else hOf l s
theorem find_drop {l : List SpV} {p : SpV → Bool} {k : Nat} (hk : k < l.length) (h : l.find? p = (l.drop k).find? p) (hn : p l[k] = false) : l.find? p = (l.drop (k + 1)).find? p := by
  rw [h, List.drop_eq_getElem_cons hk, List.find?_cons, hn]
theorem find_at {l : List SpV} {p : SpV → Bool} {k : Nat} (hk : k < l.length) (h : l.find? p = (l.drop k).find? p) (hn : p l[k] = true) : l.find? p = some l[k] := by
  rw [h, List.drop_eq_getElem_cons hk, List.find?_cons, hn]
theorem find_end {l : List SpV} {p : SpV → Bool} {k : Nat} (hk : k = l.length) (h : l.find? p = (l.drop k).find? p) : l.find? p = none := by
  rw [h, hk, List.drop_length]; rfl
theorem sp_c {w : World} {b : Nat} {a : SpV} {e : TypeId} (h : hp w b = some (.cells (spA a) e)) (k : Nat) : ldC (hp w b) k = (spA a)[k]? := by rw [h, ldC_some]
theorem sp_hn {w : World} {b : Nat} {a : SpV} {e : TypeId} (h : hp w b = some (.cells (spA a) e)) : ldv Try.prog 27 (.pointer (some ⟨b, 0 + 12 + 1, none⟩)) w = some (.agg (hnC a.re.2.1).toArray) := by
  rw [ld_27, h]; rfl
section
variable {l : List SpV} {A : Option Addr} {c : Nat} {W : World}
theorem l_oHandle (hl : l.length ≤ 1000000) {i g4 g5 : Nat} (hi : i < l.length) (h4 : W.heap.size ≤ g4) : ∀ (d k : Nat) (w : World), RdV w A (l.flatMap spC) → hp w g4 = some (.cells (hnC noH).toArray 27) → hp w g5 = some (.cells (opC l[i].op).toArray 29) → Chg [] W w →
    k + d = l.length → l.find? (hitB l[i]) = (l.drop k).find? (hitB l[i]) →
    P21_0 (.slice A l.length c) (.int .i64 i) (.pointer (some ⟨g4, 0, none⟩)) (.pointer (some ⟨g5, 0, none⟩)) (.slice A l.length c) (.int .i64 l.length) (.int .i64 k) w fun v w' => v = .agg (hnC (hOf l l[i])).toArray ∧ Chg [] W w' := by
  intro d
  induction d with
  | zero =>
    intro k w hA b4 b5 hW hk hf
    apply L21_0_ok
    have hh : hOf l l[i] = noH := by rw [hOf, find_end (by omega) hf]; rfl
    have : ¬ ((k : Int) < l.length) := by omega
    simp -implicitDefEqProofs only [L21_0, zS, this, bdh_, st_hn b4 rfl]
    have b4' : hp (put w g4 (hnC noH).toArray 27) g4 = some (.cells (hnC noH).toArray 27) := by rw [put_heap, if_pos rfl, if_pos (blk_lt b4)]
    simp -implicitDefEqProofs only [ld_hn b4', wpB_some']
    exact ⟨by rw [hh], hW.put (.inr h4) _ _⟩
  | succ d ih =>
    intro k w hA b4 b5 hW hk hf
    apply L21_0_ok
    have hlt : (k : Int) < l.length := by omega
    have hkl : k < l.length := by omega
    obtain ⟨b, o, q1, q2⟩ := sp_at' (c := c) (j := .i64) (i := k) hA hkl
    obtain ⟨b', o', r1, r2⟩ := sp_at' (c := c) (j := .i64) (i := i) hA hi
    simp -implicitDefEqProofs only [L21_0, zS, hlt, q1, q2.ld, al_34]
    rw [st_34 (by rfl) (by rfl) (by rw [alloc_heap, if_pos rfl]; rfl) (by rw [alloc_heap, if_pos rfl]; rfl), alloc_heap, if_pos rfl]
    simp -implicitDefEqProofs only [getE_some]
    generalize hw1 : put (w.alloc _) w.heap.size (spA l[k]) 34 = w1
    have hc0 : Chg [] w w1 := by rw [← hw1]; exact ((Chg.refl _ _).alloc _).put (.inr (Nat.le_refl _)) _ _
    have hg : hp w1 w.heap.size = some (.cells (spA l[k]) 34) := by rw [← hw1, put_heap, if_pos rfl, if_pos (by simp)]
    clear hw1
    generalize w.heap.size = g at *
    have b4 := hc0.at b4 (by simp)
    have b5 := hc0.at b5 (by simp)
    have r2 := r2.keep hc0
    have hA := hA.keep hc0.below
    have hW1 := hW.trans hc0
    generalize hs : l[i] = s at *
    generalize ha : l[k] = a at *
    have f0 : ldC (hp w1 g) (0 + 0) = some (.int .i64 a.wk) := sp_c hg 0
    have f1 : ldC (hp w1 g) (0 + 1) = some (.int .i64 a.ix) := sp_c hg 1
    have f2 : ldC (hp w1 g) (0 + 2 + 0) = some (.int .i64 a.op.1) := sp_c hg 2
    have f12 : ldC (hp w1 g) (0 + 12 + 0) = some (.int .i64 a.re.1) := sp_c hg 12
    have o1 : ldC (hp w1 g5) (0 + 1) = some (.int .i64 s.op.2.1) := by rw [b5, ldC_some]; rfl
    have o2 : ldC (hp w1 g5) (0 + 2) = some (.int .i64 s.op.2.2.1) := by rw [b5, ldC_some]; rfl
    have next : hitB s a = false → ∀ w2, Chg [] w1 w2 → P21_0 (.slice A l.length c) (.int .i64 i) (.pointer (some ⟨g4, 0, none⟩)) (.pointer (some ⟨g5, 0, none⟩)) (.slice A l.length c) (.int .i64 l.length) (.int .i64 ((k : Int) + 1)) w2 fun v w' => v = .agg (hnC (hOf l s)).toArray ∧ Chg [] W w' := fun hn w2 c2 =>
      ih (k + 1) w2 (hA.keep c2.below) (c2.at b4 (by simp)) (c2.at b5 (by simp)) (hW1.trans c2) (by omega) (find_drop hkl hf (by rw [ha]; exact hn))
    have wr := wrapi (n := (k : Int) + 1) (by omega) (by omega)
    have hd : Chg [] w1 w1.drew := (Chg.refl _ _).drew
    by_cases e1 : a.wk = s.op.2.1
    case neg =>
      simp -implicitDefEqProofs only [zS, fa_34_0, fa_34_1, fa_29_1, fa_29_2, ld_3, hp_drew, f0, f1, o1, o2, eqf e1, bp_add, wr]
      exact next (by simp [hitB, e1]) _ hd
    by_cases e2 : a.ix = s.op.2.2.1
    case neg =>
      simp -implicitDefEqProofs only [zS, fa_34_0, fa_34_1, fa_29_1, fa_29_2, ld_3, hp_drew, f0, f1, o1, o2, e1, eqf e2, bp_add, wr]
      exact next (by simp [hitB, e2]) _ hd
    have k1 : ∀ r : Bool, (decide (a.op.1 = 1 ∨ a.op.1 = 2) = r) → (r = false → hitB s a = false) := fun r h hr => by simp only [hitB, h, hr, Bool.false_and, Bool.and_false]
    have step : ∀ r : Bool, (a.op.1 == 1) = r → (r = true ∨ (a.op.1 == 2) = true ∨ ((a.op.1 == 2) = false ∧ r = false)) → True := fun _ _ _ => trivial
    by_cases e3 : a.op.1 = 1 ∨ a.op.1 = 2
    case neg =>
      have e31 : ¬ a.op.1 = 1 := fun h => e3 (.inl h)
      have e32 : ¬ a.op.1 = 2 := fun h => e3 (.inr h)
      simp -implicitDefEqProofs only [zS, fa_34_0, fa_34_1, fa_34_2, fa_29_0, fa_29_1, fa_29_2, ld_3, hp_drew, f0, f1, f2, o1, o2, e1, e2, eqf e31, eqf e32, bp_add, wr]
      exact next (by simp [hitB, e31, e32]) _ hd
    by_cases e4 : a.re.1 = 0
    case neg =>
      rcases e3 with e3 | e3
      all_goals
        simp -implicitDefEqProofs only [zS, fa_34_0, fa_34_1, fa_34_2, fa_34_7, fa_29_0, fa_29_1, fa_29_2, fa_32_0, ld_3, ld_30, hp_drew, f0, f1, f2, f12, o1, o2, e1, e2, e3, eqf e4, bp_add, wr, show ((2 : Int) == 1) = false from rfl, show ((1 : Int) == 2) = false from rfl]
        exact next (by simp [hitB, e4]) _ hd
    have hgd : At w1.drew g 0 a := at_blk hg
    have r2d := r2.keep hd
    rcases e3 with e3 | e3
    all_goals
      simp -implicitDefEqProofs only [zS, fa_34_0, fa_34_1, fa_34_2, fa_34_7, fa_29_0, fa_29_1, fa_29_2, fa_32_0, ld_3, ld_30, hp_drew, f0, f1, f2, f12, o1, o2, e1, e2, e3, e4, show ((2 : Int) == 1) = false from rfl, hgd.ld, r1, r2d.ld]
      refine (c_Ahead a s w1.drew).mono ?_
      rintro _ w2 ⟨rfl, c2⟩
      have c2 := hd.trans c2
      cases hah : ahead a s with
      | false =>
        simp -implicitDefEqProofs only [zS, bp_add, wr]
        exact next (by simp [hitB, hah]) w2 c2
      | true =>
        have hit : hitB s a = true := by simp [hitB, e1, e2, e3, e4, hah]
        have hg2 := c2.at hg (by simp)
        have b42 := c2.at b4 (by simp)
        have b4' : hp (put w2 g4 (hnC a.re.2.1).toArray 27) g4 = some (.cells (hnC a.re.2.1).toArray 27) := by rw [put_heap, if_pos rfl, if_pos (blk_lt b42)]
        simp -implicitDefEqProofs only [zS, fa_34_7, fa_32_1, sp_hn hg2, st_hn b42 rfl, ld_hn b4']
        have hh : hOf l s = a.re.2.1 := by rw [hOf, find_at hkl hf (by rw [ha]; exact hit), ha]; rfl
        exact ⟨by rw [hh], (hW1.trans c2).put (.inr h4) _ _⟩
theorem At.op {w : World} {b o : Nat} {s : SpV} (h : At w b o s) : ldL (hp w b) (o + 2) 6 = some (opC s.op) := ldL_take 6 (o + 2) (opC s.op) rfl fun j u hj => by
  have hj6 : j < 6 := (List.getElem?_eq_some_iff.1 hj).1
  have := h.f (2 + j) (by omega)
  rw [Nat.add_assoc, this]
  match j, hj6, hj with
  | 0, _, hj => exact hj
  | 1, _, hj => exact hj
  | 2, _, hj => exact hj
  | 3, _, hj => exact hj
  | 4, _, hj => exact hj
  | 5, _, hj => exact hj
theorem At.ldop {w : World} {b o : Nat} {s : SpV} (h : At w b o s) : ldv Try.prog 29 (.pointer (some ⟨b, o + 2, none⟩)) w = some (.agg (opC s.op).toArray) := by rw [ld_29, h.op]; rfl
theorem z_hn : (#[.int .i64 0, .int .i64 0, .int .i64 0, .int .i64 0, .int .i64 0] : Array Value) = (hnC noH).toArray := rfl
theorem c_oHandle0 (hl : l.length ≤ 1000000) {w : World} (hA : RdV w A (l.flatMap spC)) {i : Nat} (hi : i < l.length) : CallR Try.prog 21 [.slice A l.length c, .int .i64 i] w fun v w' => v = .agg (hnC (handV l l[i])).toArray ∧ Chg [] w w' := by
  apply F21_ok
  simp -implicitDefEqProofs only [F21, al_27, z_hn]
  generalize hw1 : w.alloc _ = w1
  have c1 : Chg [] w w1 := by rw [← hw1]; exact (Chg.refl _ _).alloc _
  have b4 : hp w1 w.heap.size = some (.cells (hnC noH).toArray 27) := by rw [← hw1, alloc_heap, if_pos rfl]
  have s1 : w1.heap.size = w.heap.size + 1 := by rw [← hw1, alloc_size]
  clear hw1
  have hA1 := hA.keep c1.below
  obtain ⟨b, o, q1, q2⟩ := sp_at' (c := c) (j := .i64) (i := i) hA1 hi
  simp -implicitDefEqProofs only [zS, q1, fa_34_2, q2.ldop, al_29]
  rw [st_29 (by rfl) (by rfl) (by rw [alloc_heap, if_pos rfl]; rfl) (by rw [alloc_heap, if_pos rfl]; rfl), alloc_heap, if_pos rfl]
  simp -implicitDefEqProofs only [getE_some]
  generalize hw2 : put (w1.alloc _) w1.heap.size (opC l[i].op).toArray 29 = w2
  have c2 : Chg [] w1 w2 := by rw [← hw2]; exact ((Chg.refl _ _).alloc _).put (.inr (Nat.le_refl _)) _ _
  have b5 : hp w2 w1.heap.size = some (.cells (opC l[i].op).toArray 29) := by rw [← hw2, put_heap, if_pos rfl, if_pos (by simp)]
  clear hw2
  have o0 : ldC (hp w2 w1.heap.size) (0 + 0) = some (.int .i64 l[i].op.1) := by rw [b5, ldC_some]; rfl
  simp -implicitDefEqProofs only [zS, fa_29_0, ld_3, o0]
  refine (c_opOf l[i].op.1 w2).mono ?_
  rintro _ w3 ⟨rfl, c3⟩
  have c23 := c2.trans c3
  have b43 := c23.at b4 (by simp)
  by_cases e0 : ofK l[i].op.1 = 0
  · have b4' : hp (put w3 w.heap.size (hnC noH).toArray 27) w.heap.size = some (.cells (hnC noH).toArray 27) := by rw [put_heap, if_pos rfl, if_pos (blk_lt b43)]
    simp -implicitDefEqProofs only [zS, e0, bdh_, st_hn b43 rfl, ld_hn b4']
    exact ⟨by rw [handV, if_pos e0], (c1.trans c23).put (.inr (Nat.le_refl _)) _ _⟩
  · simp -implicitDefEqProofs only [zS, eqf e0, len_35]
    rw [handV, if_neg e0]
    exact l_oHandle hl hi (Nat.le_refl _) l.length 0 w3 (hA1.keep c23.below) b43 (c3.at b5 (by simp)) (c1.trans c23) (by omega) rfl
/-- the handle of a number that may be none; where the program looks whether it is a record -/
def handX (l : List SpV) (j : Int) : HnV := if j < 0 ∨ (l.length : Int) ≤ j then noH else match l[j.toNat]? with | some s => handV l s | none => noH
noncomputable def handQ (l : List SpV) (j : Int) : HnV := if mayB l = true then handX l j else noH
theorem handX_nat {l : List SpV} {i : Nat} (hi : i < l.length) : handX l i = handV l l[i] := by
  rw [handX, if_neg (by omega), Int.toNat_natCast, List.getElem?_eq_getElem hi]
theorem c_oHandle (hl : l.length ≤ 1000000) {w : World} (hA : RdV w A (l.flatMap spC)) (j : Int) : CallR Try.prog 16 [.slice A l.length c, .int .i64 j] w fun v w' => v = .agg (hnC (handQ l j)).toArray ∧ Chg [] w w' := by
  apply F16_ok
  simp -implicitDefEqProofs only [F16, al_27, z_hn]
  generalize hw1 : w.alloc _ = w1
  have c1 : Chg [] w w1 := by rw [← hw1]; exact (Chg.refl _ _).alloc _
  have b4 : hp w1 w.heap.size = some (.cells (hnC noH).toArray 27) := by rw [← hw1, alloc_heap, if_pos rfl]
  clear hw1
  have hA1 := hA.keep c1.below
  have no : ∀ (h : HnV) w2, Chg [] w1 w2 → handQ l j = h → effu Try.prog (Instr.storeAt 27 (.pointer (some ⟨w.heap.size, 0, none⟩)) (.agg (hnC h).toArray)) w2 fun w3 => wpB (ldv Try.prog 27 (.pointer (some ⟨w.heap.size, 0, none⟩)) w3) fun r4 => r4 = .agg (hnC (handQ l j)).toArray ∧ Chg [] w w3 := by
    intro h w2 c2 hh
    have b42 := c2.at b4 (by simp)
    have b4' : hp (put w2 w.heap.size (hnC h).toArray 27) w.heap.size = some (.cells (hnC h).toArray 27) := by rw [put_heap, if_pos rfl, if_pos (blk_lt b42)]
    simp -implicitDefEqProofs only [zS, st_hn b42 rfl, ld_hn b4']
    exact ⟨by rw [hh], (c1.trans c2).put (.inr (Nat.le_refl _)) _ _⟩
  by_cases j0 : j < 0
  · simp -implicitDefEqProofs only [zS, j0, bdh_]
    exact no noH w1 (Chg.refl _ _) (by unfold handQ handX; rw [if_pos (Or.inl j0 : j < 0 ∨ (l.length : Int) ≤ j), ite_self])
  by_cases j1 : (l.length : Int) ≤ j
  · simp -implicitDefEqProofs only [zS, j0, j1, len_35, bdh_]
    exact no noH w1 (Chg.refl _ _) (by unfold handQ handX; rw [if_pos (Or.inr j1 : j < 0 ∨ (l.length : Int) ≤ j), ite_self])
  obtain ⟨i, rfl⟩ := Int.eq_ofNat_of_zero_le (show 0 ≤ j by omega)
  have hi : i < l.length := by omega
  simp -implicitDefEqProofs only [zS, j0, j1, len_35]
  refine (c_RMay hl ⟨A, c, rfl, hA1⟩).mono ?_
  rintro _ w2 ⟨rfl, c2⟩
  cases hm : mayB l with
  | false =>
    simp -implicitDefEqProofs only [zS, bdh_]
    exact no noH w2 c2 (by rw [handQ, hm]; rfl)
  | true =>
    simp -implicitDefEqProofs only [zS]
    refine (c_oHandle0 hl (hA1.keep c2.below) hi).mono ?_
    rintro _ w3 ⟨rfl, c3⟩
    exact no _ w3 (c2.trans c3) (by rw [handQ, if_pos hm, handX_nat hi])
end
end Go.Proofs.Yteapggpkgfiacaa

namespace Go.Proofs.Yteapggpkgfiacaa
open Go Ev Go.RowKit
set_option linter.unusedSimpArgs false
set_option linter.unusedVariables false
set_option maxRecDepth 10000

theorem own_ge {w : World} {base : Nat} {e : TypeId} {z : Nat} {v : Value} {n : Nat} {xs : List Value} (h : w.ownsRow base e z v n xs) {k : Nat} (hk : v.ownBlock = some k) : base ≤ k := by
  rcases h.2 with ⟨rfl, _⟩ | ⟨g, cap, cur, rfl, hbg, _⟩
  · cases hk
  · cases hk; exact hbg
/-- a slice of events that is read; where it stands -/
def RowE (w : World) (B : Nat) (v : Value) (L : List EvV) : Prop := ∃ A c, v = .slice A L.length c ∧ RdV w A (L.flatMap evC) ∧ L.length ≤ c ∧ ∀ p, A = some p → B ≤ p.block
theorem RowE.keep {w w' : World} {B : Nat} {v : Value} {L : List EvV} (h : RowE w B v L) (hc : Chg [] w w') : RowE w' B v L := by
  obtain ⟨A, c, h1, h2, h3⟩ := h
  exact ⟨A, c, h1, h2.keep hc.below, h3⟩
theorem RowE.mono {w : World} {B B' : Nat} {v : Value} {L : List EvV} (h : RowE w B v L) (hb : B' ≤ B) : RowE w B' v L := by
  obtain ⟨A, c, h1, h2, h3, h4⟩ := h
  exact ⟨A, c, h1, h2, h3, fun p hp => Nat.le_trans hb (h4 p hp)⟩
theorem RowE.nil (w : World) (B : Nat) : RowE w B (.slice none 0 0) [] := ⟨none, 0, rfl, RdV.nil _ _, Nat.le_refl _, fun p hp => by cases hp⟩
theorem RowE.own {w : World} {base : Nat} {e : TypeId} {v : Value} {n : Nat} {L : List EvV} (h : w.ownsRow base e 3 v n (L.flatMap evC)) (hn : n = L.length) : RowE w base v L := by
  subst hn
  rcases h.2 with ⟨rfl, h0⟩ | ⟨g, cap, cur, rfl, hbg, hg, hnc, hcm, hcs, htake⟩
  · have : L = [] := List.eq_nil_of_length_eq_zero h0
    subst this
    exact RowE.nil w base
  · exact ⟨some ⟨g, 0, none⟩, cap, rfl, fun j u hj => ⟨_, rfl, h.cells (g := g) rfl j u hj⟩, hnc, fun p hp => by cases hp; exact hbg⟩
section
variable {W : World}
end
end Go.Proofs.Yteapggpkgfiacaa

namespace Go.Proofs.Yteapggpkgfiacaa
open Go Ev Go.RowKit
set_option linter.unusedSimpArgs false
set_option linter.unusedVariables false
set_option maxRecDepth 10000

section
variable {w : World} {base n c g : Nat} {X : List EvV}
end
section
variable {W : World} {base n c g : Nat} {Q : Value → World → Prop}
end
end Go.Proofs.Yteapggpkgfiacaa

namespace Go.Proofs.Yteapggpkgfiacaa
open Go Ev Go.RowKit
set_option linter.unusedSimpArgs false
set_option linter.unusedVariables false
set_option maxRecDepth 10000

section
variable {W : World}
end
end Go.Proofs.Yteapggpkgfiacaa

namespace Go.Proofs.Yteapggpkgfiacaa
open Go Ev Go.RowKit
set_option linter.unusedSimpArgs false
set_option linter.unusedVariables false
set_option maxRecDepth 10000

theorem Chg.ext {w w' : World} (h : Chg [] w w') : Ext w w' := fun a v ha => Below.cellKeep h.below ha
theorem callX_step {P : Program} {f : FuncId} {args : List Value} {w : World} {v0 : Value} (h : CallR P f args w fun v w' => v = v0 ∧ w' = w) {K : Value → World → Prop} (hk : K v0 w) : CallX P f args w K :=
  h.mono fun v w' ⟨h1, h2⟩ => by subst h1; subst h2; exact ⟨fun _ _ h => h, hk⟩
theorem callX_chg {P : Program} {f : FuncId} {args : List Value} {w : World} {R : Value → World → Prop} (h : CallR P f args w fun v w' => R v w' ∧ Chg [] w w') {K : Value → World → Prop} (hk : ∀ v w', R v w' → Chg [] w w' → K v w') : CallX P f args w K :=
  h.mono fun v w' ⟨h1, h2⟩ => ⟨Chg.ext h2, hk v w' h1 h2⟩
end Go.Proofs.Yteapggpkgfiacaa

namespace Go.Proofs.Yteapggpkgfiacaa
open Go Ev Go.RowKit
set_option linter.unusedSimpArgs false
set_option linter.unusedVariables false
set_option maxRecDepth 10000

/-- what holds of names, slots -/
structure Wn (m : MdV) (K : Nat) : Prop where
  gk : ∀ p ∈ m.slots, 0 ≤ p.2 ∧ p.2 ≤ K
  gn : ∀ r ∈ m.rgs, 0 ≤ r.nm.1 ∧ r.nm.1 < m.slots.length ∧ 1 ≤ r.nm.2 ∧ ∀ p, m.slots[r.nm.1.toNat]? = some p → r.nm.2 ≤ p.2
  nd : (m.rgs.map (·.nm)).Nodup
  lv : ∀ (i : Nat) (p : NmV), m.slots[i]? = some p → p.1 = 1 → ∃ k, findR m.rgs ((i : Int), p.2) = some k
  cw : m.c.1 = m.hands.length
  cs : m.c.2.2.2.1 = m.slots.length
theorem Wn.mono {m : MdV} {K K' : Nat} (h : Wn m K) (hk : K ≤ K') : Wn m K' := ⟨fun p hp => by have := h.gk p hp; omega, h.gn, h.nd, h.lv, h.cw, h.cs⟩
theorem wn_new {c : CfV} (h : mayC c = true) (l : Bool) : Wn (newM c l) 0 := by
  obtain ⟨h1, h2, h3, h4⟩ := may_cf h
  refine ⟨fun p hp => ?_, (fun r hr => by cases hr), List.nodup_nil, fun i p hp h1 => ?_, by simp only [newM, List.length_replicate]; omega, by simp only [newM, List.length_replicate]; omega⟩
  · rw [List.eq_of_mem_replicate hp]; exact ⟨Int.le_refl _, Int.le_refl _⟩
  · have := List.eq_of_mem_replicate (List.mem_of_getElem? hp)
    rw [this] at h1; cases h1
theorem findR_set {L : List RgV} {i : Nat} {r r' : RgV} (hi : L[i]? = some r) (hn : r'.nm = r.nm) (n : NmV) : findR (L.set i r') n = findR L n := by
  unfold findR
  have : ∀ (M : List RgV) (i : Nat), M[i]? = some r → (M.set i r').findIdx? (fun x => decide (x.nm = n)) = M.findIdx? (fun x => decide (x.nm = n)) := by
    intro M
    induction M with
    | nil => intro i h; simp at h
    | cons x M ih =>
      intro i h
      cases i with
      | zero =>
        simp at h; subst h
        rw [List.set_cons_zero, List.findIdx?_cons, List.findIdx?_cons, hn]
      | succ i =>
        rw [List.set_cons_succ, List.findIdx?_cons, List.findIdx?_cons, ih i (by simpa using h)]
  exact this L i hi
theorem Wn.setRg {m : MdV} {K : Nat} (h : Wn m K) {i : Nat} {r r' : RgV} (hi : m.rgs[i]? = some r) (hn : r'.nm = r.nm) : Wn { m with rgs := m.rgs.set i r' } K := by
  refine ⟨h.gk, fun x hx => ?_, ?_, fun j p hp h1 => ?_, h.cw, h.cs⟩
  · rcases List.mem_or_eq_of_mem_set hx with h1 | h1
    · exact h.gn x h1
    · rw [h1, hn]; exact h.gn r (List.mem_of_getElem? hi)
  · have : (m.rgs.set i r').map (·.nm) = m.rgs.map (·.nm) := by
      rw [List.map_set, hn]
      exact set_same (by rw [List.getElem?_map, hi]; rfl)
    rw [this]; exact h.nd
  · obtain ⟨k, hk⟩ := h.lv j p hp h1
    exact ⟨k, by rw [findR_set hi hn]; exact hk⟩
theorem Wn.setHd {m : MdV} {K : Nat} (h : Wn m K) (w : Int) (d : HdV) : Wn (setHd m w d) K := ⟨h.gk, h.gn, h.nd, h.lv, by simp only [Go.Proofs.Yteapggpkgfiacaa.setHd, List.length_set]; exact h.cw, h.cs⟩
theorem Wn.setSl {m : MdV} {K : Nat} (h : Wn m K) {i : Nat} {p : NmV} (hp : m.slots[i]? = some p) {v : Int} (hv : v ≠ 1) : Wn { m with slots := m.slots.set i (v, p.2) } K := by
  have hpm := h.gk p (List.mem_of_getElem? hp)
  refine ⟨mem_set h.gk hpm, fun r hr => ?_, h.nd, fun j q hq h1 => ?_, h.cw, by simp only [List.length_set]; exact h.cs⟩
  · obtain ⟨a, b, c, d⟩ := h.gn r hr
    refine ⟨a, by simp only [List.length_set]; exact b, c, fun q hq => ?_⟩
    simp only at hq
    rw [List.getElem?_set] at hq
    split at hq
    · rename_i e
      split at hq
      · cases hq; exact d p (by rw [← e]; exact hp)
      · cases hq
    · exact d q hq
  · simp only at hq
    rw [List.getElem?_set] at hq
    split at hq
    · split at hq
      · cases hq; exact absurd h1 hv
      · cases hq
    · exact h.lv j q hq h1
theorem Wn.setWord {m : MdV} {K : Nat} (h : Wn m K) (a : HnV) (n x : Int) : Wn (setWordV m a n x) K := by
  unfold setWordV
  split
  · split
    · rename_i r hr
      exact h.setRg hr rfl
    · exact h
  · exact h
theorem Wn.back {m : MdV} {K : Nat} (h : Wn m K) (n : Int) : Wn (backV m n).2 K := by
  unfold backV
  split
  · split
    · rename_i p hp
      split
      · exact h.setSl hp (by decide)
      · exact h
    · exact h
  · exact h
theorem Wn.does {m : MdV} {K : Nat} (h : Wn m K) (w : Int) (o : OpV) (a : HnV) : Wn (doesV m w o a) K := by
  unfold doesV
  split
  · exact h
  · split
    · exact h.setHd _ _
    split
    · exact h.setHd _ _
    split
    · split
      · exact h
      · exact h.setHd _ _
    split
    · exact h.setWord _ _ _
    split
    · exact h.setWord _ _ _
    split
    · split
      · exact h.setWord _ _ _
      · exact h
    split
    · split
      · rename_i p hp
        refine h.setSl hp ?_
        split <;> decide
      · exact h
    · exact h
theorem findR_app_left {L : List RgV} {x : RgV} {n : NmV} {k : Nat} (h : findR L n = some k) : findR (L ++ [x]) n = some k := by
  unfold findR at h ⊢
  rw [List.findIdx?_append, h]; rfl
theorem findR_app_new {L : List RgV} {x : RgV} (h : findR L x.nm = none) : findR (L ++ [x]) x.nm = some L.length := by
  unfold findR at h ⊢
  rw [List.findIdx?_append, h]
  simp [List.findIdx?_cons]
theorem Wn.fresh {m : MdV} {K : Nat} (h : Wn m K) {i : Nat} {p : NmV} (hp : m.slots[i]? = some p) (r : RgV) (hr : r ∈ m.rgs) : r.nm ≠ ((i : Int), p.2 + 1) := fun e => by
  obtain ⟨a, b, c, d⟩ := h.gn r hr
  rw [e] at d
  have := d p (by rw [Int.toNat_natCast]; exact hp)
  simp only at this; omega
theorem Wn.creates {m : MdV} {K : Nat} (h : Wn m K) (hK : K ≤ 1000000) (cls : Int) (r : RsV) : Wn (createsV m cls r).2 (K + 1) := by
  have h1 := h.mono (Nat.le_succ K)
  unfold createsV
  split
  · exact h1
  split
  · rename_i hs
    split
    · rename_i p hp
      split
      · exact h1
      split
      · have hpm := h.gk p (List.mem_of_getElem? hp)
        have hl : laterV p.2 = p.2 + 1 := by rw [laterV, if_pos (by omega)]
        have hnn : ((r.2.1.1.toNat : Nat) : Int) = r.2.1.1 := by omega
        have hfr : findR m.rgs (r.2.1.1, p.2 + 1) = none := findR_none fun j x hx => by
          have := h.fresh hp x (List.mem_of_getElem? hx)
          rw [hnn] at this; exact this
        rw [hl]
        refine ⟨mem_set h1.gk (by simp only; omega), fun x hx => ?_, ?_, fun j q hq hq1 => ?_, h.cw, by simp only [List.length_set]; exact h.cs⟩
        · simp only [List.length_set]
          rcases List.mem_append.1 hx with hx | hx
          · obtain ⟨a, b, c, d⟩ := h.gn x hx
            refine ⟨a, b, c, fun q hq => ?_⟩
            rw [List.getElem?_set] at hq
            split at hq
            · rename_i e
              split at hq
              · cases hq
                have := d p (by rw [← e]; exact hp)
                simp only; omega
              · cases hq
            · exact d q hq
          · rw [List.mem_singleton.1 hx]
            refine ⟨hs.1, hs.2, by simp only; omega, fun q hq => ?_⟩
            simp only at hq
            rw [List.getElem?_set, if_pos rfl] at hq
            split at hq
            · cases hq; exact Int.le_refl _
            · cases hq
        · rw [List.map_append, List.nodup_append]
          refine ⟨h.nd, by simp, fun a ha b hb => ?_⟩
          obtain ⟨x, hx, rfl⟩ := List.mem_map.1 ha
          rw [List.map_cons, List.map_nil, List.mem_singleton] at hb
          rw [hb]
          have := h.fresh hp x hx
          rw [hnn] at this; exact this
        · simp only at hq
          rw [List.getElem?_set] at hq
          split at hq
          · rename_i e
            split at hq
            · cases hq
              rw [← e, hnn]
              exact ⟨_, findR_app_new (x := ⟨(r.2.1.1, p.2 + 1), cls, 0, [], [], []⟩) hfr⟩
            · cases hq
          · obtain ⟨k, hk⟩ := h.lv j q hq hq1
            exact ⟨k, findR_app_left hk⟩
      · exact h1
    · exact h1
  · exact h1
theorem Wn.gives {m : MdV} {K : Nat} (h : Wn m K) (n : Int) (a : HnV) (r : RsV) : Wn (givesV m n a r).2 (K + 1) := by
  have h1 := h.mono (Nat.le_succ K)
  unfold givesV
  split
  · exact h1
  · split
    · exact h1
    · rename_i i _ x hx
      simp only
      split
      · exact h1
      split
      · exact h1
      split
      · refine h1.setRg hx ?_
        unfold growV
        split <;> rfl
      · exact h1
theorem Wn.doV {m : MdV} {K : Nat} (h : Wn m K) (hK : K ≤ 1000000) (w : Int) (o : OpV) (a : HnV) (r : RsV) : Wn (doV m w o a r).2 (K + 1) := by
  have h1 := h.mono (Nat.le_succ K)
  unfold Go.Proofs.Yteapggpkgfiacaa.doV
  split
  · exact h1
  split
  · split
    · simp only
      split
      · exact (h.does _ _ _).mono (Nat.le_succ K)
      · exact h1
    · exact h1
  split
  · exact h.creates hK _ _
  · exact h.gives _ _ _
section
variable {m : MdV} {K : Nat}
end
end Go.Proofs.Yteapggpkgfiacaa

namespace Go.Proofs.Yteapggpkgfiacaa
open Go Ev Go.RowKit
set_option linter.unusedSimpArgs false
set_option linter.unusedVariables false
set_option maxRecDepth 10000

section
variable {W w : World} {g g6 g7 g8 g10 : Nat} {x : RfV} {m : MdV} {F : Fp} {K : Nat} {o : OpV} {h : HnV} {d : HdV}
theorem RfI.word (I : RfI w g x F) {i : Nat} {p : RgV × Bool} (hi : x.rgs[i]? = some p) {k : Nat} {L : List Int} (hL : p.1.words[k]? = some L) {j : Nat} {y : Int} (hj : L[j]? = some y) :
    ∃ b c bw cw g2 c2, ldC (hp w g) (0 + 9) = some (.slice (some ⟨b, 0, none⟩) x.rgs.length c) ∧ ldC (hp w b) (i * 8 + 6) = some (.slice (some ⟨bw, 0, none⟩) p.1.words.length cw) ∧ ldC (hp w bw) k = some (.slice (some ⟨g2, 0, none⟩) L.length c2) ∧ ldC (hp w g2) j = some (.int .u64 y) ∧
      ∀ z, okC (hp w g2) (j + 1) = true ∧ ∃ F', RfI (put w g2 ((getC (hp w g2)).setIfInBounds j (.int .u64 z)) (getE (hp w g2))) g { x with rgs := x.rgs.set i ({ p.1 with words := p.1.words.set k (L.set j z) }, p.2) } F' ∧ UpdP F F' w (put w g2 ((getC (hp w g2)).setIfInBounds j (.int .u64 z)) (getE (hp w g2))) := by
  have hP0 : (x.rgs.flatMap rrT)[i * 8 + 6]? = some (wordsT p.1.words) := flatM_get rrT_len x.rgs i p hi 6 (by omega)
  obtain ⟨b, c, v, Fk, hl, hbg, hFb, hsub, _, _, hld, hP, hres, _⟩ := isAt.row I (good_rf x) (k := 9) (e' := 138) (z := 8) (n := x.rgs.length) (Qs := x.rgs.flatMap rrT) rfl (good_rrL x.rgs) hP0
  have hPw : (p.1.words.map wordT)[k]? = some (wordT L) := by rw [List.getElem?_map, hL]; rfl
  obtain ⟨bw, cw, v2, Fk2, hx2, _, _, _, hld2, hP2, hres2, _⟩ := isRow.cell hP (fun P hP => by obtain ⟨l, _, rfl⟩ := List.mem_map.1 hP; exact good_word l) hPw
  have hPu : ((u64s L).map isV)[j]? = some (isV (.int .u64 y)) := by rw [u64s, List.map_map, List.getElem?_map, hj]; rfl
  obtain ⟨g2, c2, v3, Fk3, hx3, _, _, _, hld3, hv3, _, hst⟩ := isRow.cell hP2 (good_ints (u64s_int L)) hPu
  refine ⟨b, c, bw, cw, g2, c2, hl, by rw [← hx2]; exact hld, by rw [← hx3]; exact hld2, by rw [hld3, hv3.1], fun z => ?_⟩
  obtain ⟨ok, F1, hrow, hupd⟩ := hst w none' (isV (.int .u64 z)) (.int .u64 z) (UpdP.none hv3.2 w) (good_int _ _) ⟨rfl, fun _ h => h⟩
  have hset : ((u64s L).map isV).set j (isV (.int .u64 z)) = (u64s (L.set j z)).map isV := by simp [u64s, List.map_set]
  rw [hset] at hrow
  have hrow' : wordT (L.set j z) (put w g2 ((getC (hp w g2)).setIfInBounds j (.int .u64 z)) (getE (hp w g2))) F1 v2 := by rw [wordT, List.length_set]; exact hrow
  obtain ⟨F2, hrow2, hupd2⟩ := hres2 _ F1 (wordT (L.set j z)) hupd hrow'
  rw [← List.map_set] at hrow2
  have hrow2' : wordsT (p.1.words.set k (L.set j z)) (put w g2 ((getC (hp w g2)).setIfInBounds j (.int .u64 z)) (getE (hp w g2))) F2 v := by rw [wordsT, List.length_set]; exact hrow2
  obtain ⟨F3, h1, h2⟩ := hres _ F2 (wordsT (p.1.words.set k (L.set j z))) hupd2 hrow2'
  rw [flatM_setP rrT_len (x' := ({ p.1 with words := p.1.words.set k (L.set j z) }, p.2)) (by omega) rfl hi] at h1
  have e : rrsT (x.rgs.set i ({ p.1 with words := p.1.words.set k (L.set j z) }, p.2)) = isRow 138 8 x.rgs.length ((x.rgs.set i ({ p.1 with words := p.1.words.set k (L.set j z) }, p.2)).flatMap rrT) := by rw [rrsT, List.length_set]
  rw [← e] at h1
  exact ⟨ok, F3, h1, h2⟩
end
end Go.Proofs.Yteapggpkgfiacaa

namespace Go.Proofs.Yteapggpkgfiacaa
open Go Ev Go.RowKit
set_option linter.unusedSimpArgs false
set_option linter.unusedVariables false
set_option maxRecDepth 10000

section
variable {W w : World} {g g6 g7 g8 g10 : Nat} {m : MdV} {F : Fp} {K : Nat} {o : OpV} {h : HnV} {d : HdV} {n : Int}
end
end Go.Proofs.Yteapggpkgfiacaa

namespace Go.Proofs.Yteapggpkgfiacaa
open Go Ev Go.RowKit
set_option linter.unusedSimpArgs false
set_option linter.unusedVariables false
set_option maxRecDepth 10000

section
variable {W w : World} {g g6 g7 : Nat} {m : MdV} {x : RfV} {F : Fp} {K : Nat} {o : OpV} {h : HnV} {d : HdV} {nn : Nat}
/-- a cell of a region: what comes of the model when another thing is put there -/
theorem RfI.rgPut (I : RfI w g x F) {i : Nat} {p : RgV × Bool} (hi : x.rgs[i]? = some p) {k : Nat} (hk : k < 8) {P : Th} (hP : (rrT p)[k]? = some P) :
    ∃ b c v Fk, ldC (hp w g) (0 + 9) = some (.slice (some ⟨b, 0, none⟩) x.rgs.length c) ∧ b ≠ g ∧ F b ∧ (∀ y, Fk y → F y) ∧ ldC (hp w b) (i * 8 + k) = some v ∧ P w Fk v ∧
      ∀ w1 F' P' v' p', UpdP Fk F' w w1 → OwnT P' → P' w1 F' v' → rrT p' = (rrT p).set k P' → okC (hp w1 b) (i * 8 + k + 1) = true ∧ v'.cells = #[v'] ∧ v'.oneCell' = true ∧ hp w1 g = hp w g ∧
        ∃ F1, RfI (put w1 b ((getC (hp w1 b)).setIfInBounds (i * 8 + k) v') (getE (hp w1 b))) g { x with rgs := x.rgs.set i p' } F1 ∧ UpdP F F1 w (put w1 b ((getC (hp w1 b)).setIfInBounds (i * 8 + k) v') (getE (hp w1 b))) := by
  have hP0 : (x.rgs.flatMap rrT)[i * 8 + k]? = some P := (flatM_get rrT_len x.rgs i p hi k hk).trans hP
  obtain ⟨b, c, v, Fk, hl, hbg, hFb, hsub, _, _, hld, hv, _, hput⟩ := isAt.row I (good_rf x) (k := 9) (e' := 138) (z := 8) (n := x.rgs.length) (Qs := x.rgs.flatMap rrT) rfl (good_rrL x.rgs) hP0
  refine ⟨b, c, v, Fk, hl, hbg, hFb, hsub, hld, hv, fun w1 F' P' v' p' u hg' hp' hr => ?_⟩
  obtain ⟨ok, o1, o2, hgg, F1, h1, h2⟩ := hput w1 F' P' v' u hg' hp'
  rw [flatM_setP rrT_len hk hr hi] at h1
  have e : rrsT (x.rgs.set i p') = isRow 138 8 x.rgs.length ((x.rgs.set i p').flatMap rrT) := by rw [rrsT, List.length_set]
  rw [← e] at h1
  exact ⟨ok, o1, o2, hgg, F1, h1, h2⟩
end
end Go.Proofs.Yteapggpkgfiacaa

namespace Go.Proofs.Yteapggpkgfiacaa
open Go Ev Go.RowKit
set_option linter.unusedSimpArgs false
set_option linter.unusedVariables false
set_option maxRecDepth 10000

section
variable {W w : World} {g g6 g7 : Nat} {m : MdV} {x : RfV} {F : Fp} {K : Nat} {o : OpV} {h : HnV} {d : HdV} {nn : Nat}
end
end Go.Proofs.Yteapggpkgfiacaa

namespace Go.Proofs.Yteapggpkgfiacaa
open Go Ev Go.RowKit
set_option linter.unusedSimpArgs false
set_option linter.unusedVariables false
set_option maxRecDepth 10000

section
variable {W w : World} {g g6 g7 : Nat} {m : MdV} {x : RfV} {F : Fp} {K : Nat} {o : OpV} {h : HnV} {d : HdV} {nn : Nat} {r : RsV}
theorem RfI.notF (I : RfI W g x F) {y : Nat} (h : W.heap.size ≤ y) : ¬ F y := fun hx => by have := isAt.lt I (good_rf x) y hx; omega
end
end Go.Proofs.Yteapggpkgfiacaa

namespace Go.Proofs.Yteapggpkgfiacaa
open Go Ev Go.RowKit
set_option linter.unusedSimpArgs false
set_option linter.unusedVariables false
set_option maxRecDepth 10000

section
variable {W w : World} {g g7 g11 : Nat} {m : MdV} {x : RfV} {F F0 : Fp} {K : Nat} {o : OpV} {h : HnV} {i : Nat} {p : RgV × Bool} {want : HnV} {need : Int} {r : RsV}
end
end Go.Proofs.Yteapggpkgfiacaa

namespace Go.Proofs.Yteapggpkgfiacaa
open Go Ev Go.RowKit
set_option linter.unusedSimpArgs false
set_option linter.unusedVariables false
set_option maxRecDepth 10000

section
variable {W w : World} {g g7 g11 : Nat} {m : MdV} {F F0 : Fp} {K : Nat} {o : OpV} {h : HnV} {i : Nat} {rg : RgV} {want : HnV} {need : Int} {r : RsV} {nn : Nat}
/-- may the chunk not be? -/
def badV (m : MdV) (ch : Int) : Prop := ch < 0 ∨ m.c.2.1 ≤ ch ∨ takenV m ch = true
instance (m : MdV) (ch : Int) : Decidable (badV m ch) := by unfold badV; infer_instance
end
end Go.Proofs.Yteapggpkgfiacaa

namespace Go.Proofs.Yteapggpkgfiacaa
open Go Ev Go.RowKit
set_option linter.unusedSimpArgs false
set_option linter.unusedVariables false
set_option maxRecDepth 10000

section
variable {w : World} {g : Nat} {m : MdV} {F : Fp} {K : Nat}
end
end Go.Proofs.Yteapggpkgfiacaa

namespace Go.Proofs.Yteapggpkgfiacaa
open Go Ev Go.RowKit
set_option linter.unusedSimpArgs false
set_option linter.unusedVariables false
set_option maxRecDepth 10000

theorem rd_chgP {F : Fp} {w w' : World} {A : Option Addr} {cs : List Value} (h : RdV w A cs) (hc : ChgP F w w') (hn : ∀ p, A = some p → cs ≠ [] → ¬ F p.block) : RdV w' A cs := fun j u hj => by
  obtain ⟨p, hp, hcell⟩ := h j u hj
  have hbl : (p.add j).block = p.block := by unfold Addr.add; split <;> rfl
  have hF := hn p hp fun h => by rw [h] at hj; simp at hj
  have : w'.heap[(p.add j).block]? = w.heap[(p.add j).block]? := hc.block (p.add j).block (cell_lt hcell) (by rw [hbl]; exact hF)
  refine ⟨p, hp, ?_⟩
  unfold World.cell? at hcell ⊢
  rw [this]; exact hcell
/-- the events, apart from a model -/
structure EvR (w : World) (F : Fp) (A : Option Addr) (E : List EvV) : Prop where
  rd : RdV w A (E.flatMap evC)
  ne : ∀ p, A = some p → E ≠ [] → ¬ F p.block
section
variable {W w w' : World} {F F' : Fp} {A : Option Addr} {E : List EvV} {l : List SpV} {g K : Nat} {m : MdV}
theorem EvR.lt (h : EvR w F A E) {p : Addr} (hp : A = some p) (hE : E ≠ []) : p.block < w.heap.size := by
  cases E with
  | nil => exact absurd rfl hE
  | cons e E =>
    obtain ⟨q, hq, hc⟩ := h.rd 0 (.int .i64 e.1) (by simp [evC])
    rw [hp] at hq; cases hq
    have := cell_lt hc
    simpa [Addr.add] using this
theorem EvR.upd (h : EvR w F A E) (u : UpdP F F' w w') : EvR w' F' A E :=
  ⟨rd_chgP h.rd u.chg fun p hp hn => h.ne p hp fun he => hn (by rw [he]; rfl), fun p hp hE hF => by
    rcases u.sub _ hF with h1 | h1
    · exact h.ne p hp hE h1
    · have := h.lt hp hE; omega⟩
theorem EvR.keep (h : EvR w F A E) (c : Chg [] w w') : EvR w' F A E := h.upd (UpdP.of0 c)
theorem At.ldre {b : Nat} {s : SpV} {e : TypeId} (h : hp w b = some (.cells (spA s) e)) : ldv Try.prog 32 (.pointer (some ⟨b, 0 + 12, none⟩)) w = some (.agg (rsC s.re).toArray) := by
  rw [ld_32, h]; rfl
theorem chg_updP {a b c : World} {F F' : Fp} (h : Chg [] a b) (u : UpdP F F' b c) (hF : ∀ k, F k → a.heap.size ≤ k) : Chg [] a c :=
  ⟨u.chg.os.trans h.os, u.chg.tape.trans h.tape, u.chg.output.trans h.output, Nat.le_trans h.size u.chg.size, fun k hk hn => (u.chg.block k (Nat.lt_of_lt_of_le hk h.size) fun hf => by have := hF k hf; omega).trans (h.block k hk hn)⟩
theorem updP_new {a b c : World} {F F' : Fp} (h : Chg [] a b) (u : UpdP F F' b c) (hF : ∀ k, F k → a.heap.size ≤ k) : ∀ k, F' k → a.heap.size ≤ k := fun k hk => by
  rcases u.sub k hk with h1 | h1
  · exact hF k h1
  · have := h.size; omega
end
end Go.Proofs.Yteapggpkgfiacaa

namespace Go.Proofs.Yteapggpkgfiacaa
open Go Ev Go.RowKit
set_option linter.unusedSimpArgs false
set_option linter.unusedVariables false
set_option maxRecDepth 10000

section
variable {W w w' : World} {F F' : Fp} {A : Option Addr} {E : List EvV} {l : List SpV} {g K : Nat} {m : MdV}
end
end Go.Proofs.Yteapggpkgfiacaa

namespace Go.Proofs.Yteapggpkgfiacaa
open Go Ev Go.RowKit
set_option linter.unusedSimpArgs false
set_option linter.unusedVariables false
set_option maxRecDepth 10000

/-- have all that ended been put? -/
def overV (l : List SpV) (put : List Int) : Bool := (List.range l.length).all fun k => match l[k]? with | some s => !(decide (0 ≤ s.rs) && !put.contains (k : Int)) | none => true
/-- may a span stand next? -/
def nextV (l : List SpV) (put : List Int) (i : Nat) : Bool := ((List.range l.length).all fun k => match l[k]?, l[i]? with | some a, some s => !(decide (0 ≤ a.rs) && (!put.contains (k : Int) && ahead a s)) | _, _ => true) && !put.contains (i : Int)
/-- found?, the list, the tries, were there too few? -/
abbrev SkO := Bool × List Int × Int × Bool
def resV (l : List SpV) (m : MdV) (s : SpV) : Option RsV := if s.rs < 0 ∧ s.pt < 0 then (if (mustV m s.wk s.op (handV l s)).2 = true then some (mustV m s.wk s.op (handV l s)).1 else none) else some s.re
def goV (rec : MdV → List Int → Int → SkO) (l : List SpV) (top : Int) (m : MdV) (put : List Int) : List Nat → Int → SkO
  | [], t => (false, put, t, false)
  | i :: is, t =>
    if nextV l put i = false then goV rec l top m put is t else
    match l[i]? with
    | none => (false, put, t, false)
    | some s =>
      match resV l m s with
      | none => goV rec l top m put is t
      | some r =>
        if top ≤ t then (false, put, t, true) else
        if (doV m s.wk s.op (handV l s) r).1 = false then goV rec l top m put is (t + 1) else
        match rec (doV m s.wk s.op (handV l s) r).2 (put ++ [(i : Int)]) (t + 1) with
        | (true, p', t', mn) => (true, p', t', mn)
        | (false, p', t', true) => (false, p', t', true)
        | (false, p', t', false) => goV rec l top m put is t'
def findV (l : List SpV) (top : Int) : Nat → MdV → List Int → Int → SkO
  | 0, _, put, t => (false, put, t, false)
  | f + 1, m, put, t => if overV l put = true then (true, put, t, false) else goV (findV l top f) l top m put (List.range l.length) t
/-- what comes of it: the list, the code -/
noncomputable def findTop (c : CfV) (l : List SpV) (most : Int) : List Int × Int :=
  if mayC c = true ∧ mayB l = true ∧ l.length ≤ 12 then
    match findV l (max most 0) (l.length + 1) (newM c true) [] 0 with
    | (true, p, _, _) => (p, 0)
    | (false, _, _, true) => ([], 11)
    | (false, _, _, false) => ([], 10)
  else ([], 1)
/-- the list comes back as it was -/
theorem goV_put {rec : MdV → List Int → Int → SkO} {l : List SpV} {top : Int} {m : MdV} {put : List Int} : ∀ {is : List Nat} {t : Int}, (goV rec l top m put is t).1 = false → (goV rec l top m put is t).2.2.2 = false → (goV rec l top m put is t).2.1 = put
  | [], t, _, _ => rfl
  | i :: is, t, h1, h2 => by
    unfold goV at h1 h2 ⊢
    split
    · rename_i hn
      rw [if_pos hn] at h1 h2
      exact goV_put h1 h2
    · rename_i hn
      rw [if_neg hn] at h1 h2
      cases hl : l[i]? with
      | none => rfl
      | some s =>
        rw [hl] at h1 h2
        simp only at h1 h2 ⊢
        cases hr : resV l m s with
        | none => rw [hr] at h1 h2; exact goV_put h1 h2
        | some r =>
          rw [hr] at h1 h2
          simp only at h1 h2 ⊢
          split
          · rfl
          · rename_i ht
            rw [if_neg ht] at h1 h2
            split
            · rename_i hd
              rw [if_pos hd] at h1 h2
              exact goV_put h1 h2
            · rename_i hd
              rw [if_neg hd] at h1 h2
              generalize rec (doV m s.wk s.op (handV l s) r).2 (put ++ [(i : Int)]) (t + 1) = R at *
              obtain ⟨b, p', t', mn⟩ := R
              cases b with
              | true => simp at h1
              | false =>
                cases mn with
                | true => simp at h2
                | false => exact goV_put h1 h2
theorem findV_put {l : List SpV} {top : Int} : ∀ {f : Nat} {m : MdV} {put : List Int} {t : Int}, (findV l top f m put t).1 = false → (findV l top f m put t).2.2.2 = false → (findV l top f m put t).2.1 = put
  | 0, m, put, t, _, _ => rfl
  | f + 1, m, put, t, h1, h2 => by
    unfold findV at h1 h2 ⊢
    split
    · rfl
    · rename_i h
      rw [if_neg h] at h1 h2
      exact goV_put h1 h2
def skA (A Ah : Option Addr) (n cs ch : Nat) (pv : Value) (t top : Int) (mn : Bool) : Array Value := #[.slice A n cs, .slice Ah n ch, pv, .int .i64 t, .int .i64 top, .bool mn]
section
variable {w : World} {sk : Nat} {A Ah : Option Addr} {n cs ch : Nat} {pv : Value} {t top : Int} {mn : Bool} {l : List SpV} {put : List Int} {e : TypeId}
theorem sk0 (h : hp w sk = some (.cells (skA A Ah n cs ch pv t top mn) e)) : ldC (hp w sk) (0 + 0) = some (.slice A n cs) := by rw [h, ldC_some]; rfl
theorem sk1 (h : hp w sk = some (.cells (skA A Ah n cs ch pv t top mn) e)) : ldC (hp w sk) (0 + 1) = some (.slice Ah n ch) := by rw [h, ldC_some]; rfl
theorem sk2 (h : hp w sk = some (.cells (skA A Ah n cs ch pv t top mn) e)) : ldC (hp w sk) (0 + 2) = some pv := by rw [h, ldC_some]; rfl
theorem sk3 (h : hp w sk = some (.cells (skA A Ah n cs ch pv t top mn) e)) : ldC (hp w sk) (0 + 3) = some (.int .i64 t) := by rw [h, ldC_some]; rfl
theorem sk4 (h : hp w sk = some (.cells (skA A Ah n cs ch pv t top mn) e)) : ldC (hp w sk) (0 + 4) = some (.int .i64 top) := by rw [h, ldC_some]; rfl
theorem sk5 (h : hp w sk = some (.cells (skA A Ah n cs ch pv t top mn) e)) : ldC (hp w sk) (0 + 5) = some (.bool mn) := by rw [h, ldC_some]; rfl
theorem c_sIs (h : hp w sk = some (.cells (skA A Ah n cs ch pv t top mn) 50)) (hp' : SlI w pv put) (hl : put.length ≤ 1000) (i : Int) : CallR Try.prog 55 [.pointer (some ⟨sk, 0, none⟩), .int .i64 i] w fun v w' => v = .bool (put.contains i) ∧ w' = w := by
  apply F55_ok
  simp -implicitDefEqProofs only [F55, nilv_some, zS, fa_50_2, ld_36, sk2 h]
  exact (c_Contains (by omega) hp' i).mono fun _ _ h => h
theorem all_false {p : Nat → Bool} {k n : Nat} (hk : k < n) (h : p k = false) : (List.range n).all p = false := List.all_eq_false.2 ⟨k, List.mem_range.2 hk, by rw [h]; simp⟩
theorem all_true {p : Nat → Bool} {n : Nat} (h : ∀ k, k < n → p k = true) : (List.range n).all p = true := List.all_eq_true.2 fun k hk => h k (List.mem_range.1 hk)
theorem l_sOver {W : World} (hl : l.length ≤ 1000) (hA : RdV W A (l.flatMap spC)) (hpl : put.length ≤ 1000) : ∀ (d k : Nat) (w : World), Chg [] W w → hp w sk = some (.cells (skA A Ah l.length cs ch pv t top mn) 50) → SlI w pv put → k + d = l.length →
    (∀ j s, j < k → l[j]? = some s → (!(decide (0 ≤ s.rs) && !put.contains (j : Int))) = true) →
    P35_0 (.pointer (some ⟨sk, 0, none⟩)) (.slice A l.length cs) (.int .i64 l.length) (.int .i64 k) w fun v w' => v = .bool (overV l put) ∧ Chg [] W w' := by
  intro d
  induction d with
  | zero =>
    intro k w hW h hp' hk hall
    apply L35_0_ok
    have : ¬ ((k : Int) < l.length) := by omega
    simp -implicitDefEqProofs only [L35_0, zS, this]
    refine ⟨?_, hW⟩
    have : overV l put = true := all_true fun j hj => by
      rw [List.getElem?_eq_getElem hj]
      exact hall j l[j] (by omega) (List.getElem?_eq_getElem hj)
    rw [this]
  | succ d ih =>
    intro k w hW h hp' hk hall
    apply L35_0_ok
    have hlt : (k : Int) < l.length := by omega
    have hkl : k < l.length := by omega
    obtain ⟨b, o, q1, q2⟩ := sp_at' (c := cs) (j := .i64) (i := k) (hA.keep hW.below) hkl
    simp -implicitDefEqProofs only [L35_0, zS, hlt, q1, q2.ld, al_34]
    rw [st_34 (by rfl) (by rfl) (by rw [alloc_heap, if_pos rfl]; rfl) (by rw [alloc_heap, if_pos rfl]; rfl), alloc_heap, if_pos rfl, getE_some]
    generalize hw1 : Ev.put (w.alloc _) w.heap.size (spA l[k]) 34 = w1
    have hc0 : Chg [] w w1 := by rw [← hw1]; exact ((Chg.refl _ _).alloc _).put (.inr (Nat.le_refl _)) _ _
    have hg : hp w1 w.heap.size = some (.cells (spA l[k]) 34) := by rw [← hw1, put_heap, if_pos rfl, if_pos (by simp)]
    clear hw1
    have hW1 := hW.trans hc0
    have h1 := hc0.at h (by simp)
    have hp1 := hp'.keep hc0.below
    have f11 : ldC (hp w1 w.heap.size) (0 + 11) = some (.int .i64 l[k].rs) := sp_c hg 11
    have next : (!(decide (0 ≤ l[k].rs) && !put.contains (k : Int))) = true → P35_0 (.pointer (some ⟨sk, 0, none⟩)) (.slice A l.length cs) (.int .i64 l.length) (.int .i64 ((k : Int) + 1)) w1 fun v w' => v = .bool (overV l put) ∧ Chg [] W w' := fun hn =>
      ih (k + 1) w1 hW1 h1 hp1 (by omega) fun j s hj hs => by
        rcases Nat.lt_or_ge j k with hj' | hj'
        · exact hall j s hj' hs
        · have : j = k := by omega
          subst this
          rw [List.getElem?_eq_getElem hkl] at hs; cases hs; exact hn
    have wr := wrapi (n := (k : Int) + 1) (by omega) (by omega)
    by_cases h0 : 0 ≤ l[k].rs
    · simp -implicitDefEqProofs only [zS, fa_34_6, ld_3, f11, bp_geq, h0]
      refine (c_sIs h1 hp1 hpl (k : Int)).step ?_
      cases hc : put.contains (k : Int) with
      | true =>
        simp -implicitDefEqProofs only [zS, bp_add, wr]
        exact next (by rw [hc]; simp)
      | false =>
        simp -implicitDefEqProofs only [zS]
        refine ⟨?_, hW1⟩
        have : overV l put = false := all_false hkl (by rw [List.getElem?_eq_getElem hkl]; simp only [hc, decide_eq_true h0]; rfl)
        rw [this]
    · simp -implicitDefEqProofs only [zS, fa_34_6, ld_3, f11, bp_geq, h0, bp_add, wr]
      exact next (by simp [h0])
theorem c_sOver (hl : l.length ≤ 1000) (hA : RdV w A (l.flatMap spC)) (hpl : put.length ≤ 1000) (h : hp w sk = some (.cells (skA A Ah l.length cs ch pv t top mn) 50)) (hp' : SlI w pv put) : CallR Try.prog 35 [.pointer (some ⟨sk, 0, none⟩)] w fun v w' => v = .bool (overV l put) ∧ Chg [] w w' := by
  apply F35_ok
  simp -implicitDefEqProofs only [F35, nilv_some, zS, fa_50_0, ld_35, sk0 h, len_35]
  exact l_sOver hl hA hpl l.length 0 w (Chg.refl _ _) h hp' (by omega) fun j s hj => by omega
end
end Go.Proofs.Yteapggpkgfiacaa

namespace Go.Proofs.Yteapggpkgfiacaa
open Go Ev Go.RowKit
set_option linter.unusedSimpArgs false
set_option linter.unusedVariables false
set_option maxRecDepth 10000

section
variable {w : World} {sk : Nat} {A Ah : Option Addr} {n cs ch : Nat} {pv : Value} {t top : Int} {mn : Bool} {l : List SpV} {put : List Int} {e : TypeId}
theorem l_sMay {W : World} (hl : l.length ≤ 1000) (hA : RdV W A (l.flatMap spC)) (hpl : put.length ≤ 1000) {i : Nat} (hi : i < l.length) : ∀ (d k : Nat) (w : World), Chg [] W w → hp w sk = some (.cells (skA A Ah l.length cs ch pv t top mn) 50) → SlI w pv put → k + d = l.length →
    (∀ j a, j < k → l[j]? = some a → (!(decide (0 ≤ a.rs) && (!put.contains (j : Int) && ahead a l[i]))) = true) →
    P36_0 (.pointer (some ⟨sk, 0, none⟩)) (.int .i64 i) (.slice A l.length cs) (.int .i64 l.length) (.int .i64 k) w fun v w' => v = .bool (nextV l put i) ∧ Chg [] W w' := by
  intro d
  induction d with
  | zero =>
    intro k w hW h hp' hk hall
    apply L36_0_ok
    have : ¬ ((k : Int) < l.length) := by omega
    simp -implicitDefEqProofs only [L36_0, zS, this]
    refine (c_sIs h hp' hpl (i : Int)).step ?_
    simp -implicitDefEqProofs only [zS]
    refine ⟨?_, hW⟩
    have : nextV l put i = !put.contains (i : Int) := by
      unfold nextV
      rw [all_true fun j hj => ?_, Bool.true_and]
      rw [List.getElem?_eq_getElem hj, List.getElem?_eq_getElem hi]
      exact hall j l[j] (by omega) (List.getElem?_eq_getElem hj)
    rw [this]
  | succ d ih =>
    intro k w hW h hp' hk hall
    apply L36_0_ok
    have hlt : (k : Int) < l.length := by omega
    have hkl : k < l.length := by omega
    obtain ⟨b, o, q1, q2⟩ := sp_at' (c := cs) (j := .i64) (i := k) (hA.keep hW.below) hkl
    obtain ⟨b', o', r1, r2⟩ := sp_at' (c := cs) (j := .i64) (i := i) (hA.keep hW.below) hi
    simp -implicitDefEqProofs only [L36_0, zS, hlt, q1, q2.ld, al_34]
    rw [st_34 (by rfl) (by rfl) (by rw [alloc_heap, if_pos rfl]; rfl) (by rw [alloc_heap, if_pos rfl]; rfl), alloc_heap, if_pos rfl, getE_some]
    generalize hw1 : Ev.put (w.alloc _) w.heap.size (spA l[k]) 34 = w1
    have hc0 : Chg [] w w1 := by rw [← hw1]; exact ((Chg.refl _ _).alloc _).put (.inr (Nat.le_refl _)) _ _
    have hg : hp w1 w.heap.size = some (.cells (spA l[k]) 34) := by rw [← hw1, put_heap, if_pos rfl, if_pos (by simp)]
    clear hw1
    have hW1 := hW.trans hc0
    have h1 := hc0.at h (by simp)
    have hp1 := hp'.keep hc0.below
    have r2 := r2.keep hc0
    have f11 : ldC (hp w1 w.heap.size) (0 + 11) = some (.int .i64 l[k].rs) := sp_c hg 11
    have hd : Chg [] w1 w1.drew := (Chg.refl _ _).drew
    have h1d : hp w1.drew sk = some (.cells (skA A Ah l.length cs ch pv t top mn) 50) := h1
    have hp1d := hp1.keep hd.below
    have next : (!(decide (0 ≤ l[k].rs) && (!put.contains (k : Int) && ahead l[k] l[i]))) = true → ∀ w2, Chg [] w1 w2 → P36_0 (.pointer (some ⟨sk, 0, none⟩)) (.int .i64 i) (.slice A l.length cs) (.int .i64 l.length) (.int .i64 ((k : Int) + 1)) w2 fun v w' => v = .bool (nextV l put i) ∧ Chg [] W w' := fun hn w2 c2 =>
      ih (k + 1) w2 (hW1.trans c2) (c2.at h1 (by simp)) (hp1.keep c2.below) (by omega) fun j s hj hs => by
        rcases Nat.lt_or_ge j k with hj' | hj'
        · exact hall j s hj' hs
        · have : j = k := by omega
          subst this
          rw [List.getElem?_eq_getElem hkl] at hs; cases hs; exact hn
    have wr := wrapi (n := (k : Int) + 1) (by omega) (by omega)
    by_cases h0 : 0 ≤ l[k].rs
    · simp -implicitDefEqProofs only [zS, fa_34_6, ld_3, hp_drew, f11, bp_geq, h0]
      refine (c_sIs h1d hp1d hpl (k : Int)).step ?_
      cases hc : put.contains (k : Int) with
      | true =>
        simp -implicitDefEqProofs only [zS, bp_add, wr]
        exact next (by rw [hc]; simp) _ hd
      | false =>
        have hgd : At w1.drew w.heap.size 0 l[k] := at_blk hg
        simp -implicitDefEqProofs only [zS, nilv_some, fa_50_0, ld_35, hp_drew, sk0 h1, r1, hgd.ld, (r2.keep hd).ld]
        refine (c_Ahead l[k] l[i] w1.drew).mono ?_
        rintro _ w2 ⟨rfl, c2⟩
        have c2 := hd.trans c2
        cases hah : ahead l[k] l[i] with
        | true =>
          simp -implicitDefEqProofs only [zS]
          refine ⟨?_, hW1.trans c2⟩
          have : nextV l put i = false := by
            unfold nextV
            rw [all_false hkl (by rw [List.getElem?_eq_getElem hkl, List.getElem?_eq_getElem hi]; simp only [hc, hah, decide_eq_true h0]; rfl), Bool.false_and]
          rw [this]
        | false =>
          simp -implicitDefEqProofs only [zS, bp_add, wr]
          exact next (by rw [hah]; simp) _ c2
    · simp -implicitDefEqProofs only [zS, fa_34_6, ld_3, hp_drew, f11, bp_geq, h0, bp_add, wr]
      exact next (by simp [h0]) _ hd
theorem c_sMay (hl : l.length ≤ 1000) (hA : RdV w A (l.flatMap spC)) (hpl : put.length ≤ 1000) (h : hp w sk = some (.cells (skA A Ah l.length cs ch pv t top mn) 50)) (hp' : SlI w pv put) {i : Nat} (hi : i < l.length) : CallR Try.prog 36 [.pointer (some ⟨sk, 0, none⟩), .int .i64 i] w fun v w' => v = .bool (nextV l put i) ∧ Chg [] w w' := by
  apply F36_ok
  simp -implicitDefEqProofs only [F36, nilv_some, zS, fa_50_0, ld_35, sk0 h, len_35]
  exact l_sMay hl hA hpl hi l.length 0 w (Chg.refl _ _) h hp' (by omega) fun j s hj => by omega
end
end Go.Proofs.Yteapggpkgfiacaa

namespace Go.Proofs.Yteapggpkgfiacaa
open Go Ev Go.RowKit
set_option linter.unusedSimpArgs false
set_option linter.unusedVariables false
set_option maxRecDepth 10000

section
variable {w : World} {A : Option Addr} {c n : Nat} {cs : List Value}
theorem rd_none (h : RdV w none cs) : cs = [] := by
  cases cs with
  | nil => rfl
  | cons u us => obtain ⟨p, hp, _⟩ := h 0 u rfl; cases hp
set_option maxHeartbeats 1000000 in
theorem c_clSlot (hR : RdV w A cs) (hl : cs.length = n * 2) (h1 : ∀ u ∈ cs, u.oneCell' = true) (hn : n ≤ 1000000) :
    CallR Try.prog 60 [.slice A n c] w fun v w' => w'.ownsRow w.heap.size 80 2 v n cs ∧ Chg [] w w' := by
  apply F60_ok
  cases A with
  | none =>
    have hcs := rd_none hR
    subst hcs
    have hn0 : n = 0 := by simp at hl; omega
    subst hn0
    simp -implicitDefEqProofs only [F60, be_eqlsl Try.underlying68, Option.isNone_none, wpB_some', cnd_true]
    exact ⟨World.ownsRow_nil _ _ _ _, Chg.refl _ _⟩
  | some p =>
    simp -implicitDefEqProofs only [F60, be_eqlsl Try.underlying68, Option.isNone_some, wpB_some', cnd_false]
    obtain ⟨i, hi, hz, hs, hb⟩ := inf_80
    exact eff_clone (size := 2) Try.underlying68 hi hz hs rfl (by omega) hl hR h1 (by unfold maxLen; omega) (by rw [hb]; omega) fun x' w' ho hc => ⟨ho, hc⟩
set_option maxHeartbeats 1000000 in
theorem c_clHand (hR : RdV w A cs) (hl : cs.length = n * 2) (h1 : ∀ u ∈ cs, u.oneCell' = true) (hn : n ≤ 1000000) :
    CallR Try.prog 61 [.slice A n c] w fun v w' => w'.ownsRow w.heap.size 106 2 v n cs ∧ Chg [] w w' := by
  apply F61_ok
  cases A with
  | none =>
    have hcs := rd_none hR
    subst hcs
    have hn0 : n = 0 := by simp at hl; omega
    subst hn0
    simp -implicitDefEqProofs only [F61, be_eqlsl Try.underlying70, Option.isNone_none, wpB_some', cnd_true]
    exact ⟨World.ownsRow_nil _ _ _ _, Chg.refl _ _⟩
  | some p =>
    simp -implicitDefEqProofs only [F61, be_eqlsl Try.underlying70, Option.isNone_some, wpB_some', cnd_false]
    obtain ⟨i, hi, hz, hs, hb⟩ := inf_106
    exact eff_clone (size := 2) Try.underlying70 hi hz hs rfl (by omega) hl hR h1 (by unfold maxLen; omega) (by rw [hb]; omega) fun x' w' ho hc => ⟨ho, hc⟩
set_option maxHeartbeats 1000000 in
theorem c_clName (hR : RdV w A cs) (hl : cs.length = n * 2) (h1 : ∀ u ∈ cs, u.oneCell' = true) (hn : n ≤ 1000000) :
    CallR Try.prog 62 [.slice A n c] w fun v w' => w'.ownsRow w.heap.size 95 2 v n cs ∧ Chg [] w w' := by
  apply F62_ok
  cases A with
  | none =>
    have hcs := rd_none hR
    subst hcs
    have hn0 : n = 0 := by simp at hl; omega
    subst hn0
    simp -implicitDefEqProofs only [F62, be_eqlsl Try.underlying104, Option.isNone_none, wpB_some', cnd_true]
    exact ⟨World.ownsRow_nil _ _ _ _, Chg.refl _ _⟩
  | some p =>
    simp -implicitDefEqProofs only [F62, be_eqlsl Try.underlying104, Option.isNone_some, wpB_some', cnd_false]
    obtain ⟨i, hi, hz, hs, hb⟩ := inf_95
    exact eff_clone (size := 2) Try.underlying104 hi hz hs rfl (by omega) hl hR h1 (by unfold maxLen; omega) (by rw [hb]; omega) fun x' w' ho hc => ⟨ho, hc⟩
set_option maxHeartbeats 1000000 in
theorem c_clRegion (hR : RdV w A cs) (hl : cs.length = n * 7) (h1 : ∀ u ∈ cs, u.oneCell' = true) (hn : n ≤ 1000000) :
    CallR Try.prog 63 [.slice A n c] w fun v w' => w'.ownsRow w.heap.size 98 7 v n cs ∧ Chg [] w w' := by
  apply F63_ok
  cases A with
  | none =>
    have hcs := rd_none hR
    subst hcs
    have hn0 : n = 0 := by simp at hl; omega
    subst hn0
    simp -implicitDefEqProofs only [F63, be_eqlsl Try.underlying69, Option.isNone_none, wpB_some', cnd_true]
    exact ⟨World.ownsRow_nil _ _ _ _, Chg.refl _ _⟩
  | some p =>
    simp -implicitDefEqProofs only [F63, be_eqlsl Try.underlying69, Option.isNone_some, wpB_some', cnd_false]
    obtain ⟨i, hi, hz, hs, hb⟩ := inf_98
    exact eff_clone (size := 7) Try.underlying69 hi hz hs rfl (by omega) hl hR h1 (by unfold maxLen; omega) (by rw [hb]; omega) fun x' w' ho hc => ⟨ho, hc⟩
set_option maxHeartbeats 1000000 in
theorem c_clInts (hR : RdV w A cs) (hl : cs.length = n * 1) (h1 : ∀ u ∈ cs, u.oneCell' = true) (hn : n ≤ 1000000) :
    CallR Try.prog 64 [.slice A n c] w fun v w' => w'.ownsRow w.heap.size 3 1 v n cs ∧ Chg [] w w' := by
  apply F64_ok
  cases A with
  | none =>
    have hcs := rd_none hR
    subst hcs
    have hn0 : n = 0 := by simp at hl; omega
    subst hn0
    simp -implicitDefEqProofs only [F64, be_eqlsl Try.underlying36, Option.isNone_none, wpB_some', cnd_true]
    exact ⟨World.ownsRow_nil _ _ _ _, Chg.refl _ _⟩
  | some p =>
    simp -implicitDefEqProofs only [F64, be_eqlsl Try.underlying36, Option.isNone_some, wpB_some', cnd_false]
    obtain ⟨i, hi, hz, hs, hb⟩ := inf_3
    exact eff_clone (size := 1) Try.underlying36 hi hz hs rfl (by omega) hl hR h1 (by unfold maxLen; omega) (by rw [hb]; omega) fun x' w' ho hc => ⟨ho, hc⟩
set_option maxHeartbeats 1000000 in
theorem c_clHandles (hR : RdV w A cs) (hl : cs.length = n * 5) (h1 : ∀ u ∈ cs, u.oneCell' = true) (hn : n ≤ 1000000) :
    CallR Try.prog 65 [.slice A n c] w fun v w' => w'.ownsRow w.heap.size 27 5 v n cs ∧ Chg [] w w' := by
  apply F65_ok
  cases A with
  | none =>
    have hcs := rd_none hR
    subst hcs
    have hn0 : n = 0 := by simp at hl; omega
    subst hn0
    simp -implicitDefEqProofs only [F65, be_eqlsl Try.underlying48, Option.isNone_none, wpB_some', cnd_true]
    exact ⟨World.ownsRow_nil _ _ _ _, Chg.refl _ _⟩
  | some p =>
    simp -implicitDefEqProofs only [F65, be_eqlsl Try.underlying48, Option.isNone_some, wpB_some', cnd_false]
    obtain ⟨i, hi, hz, hs, hb⟩ := inf_27
    exact eff_clone (size := 5) Try.underlying48 hi hz hs rfl (by omega) hl hR h1 (by unfold maxLen; omega) (by rw [hb]; omega) fun x' w' ho hc => ⟨ho, hc⟩
set_option maxHeartbeats 1000000 in
theorem c_clWords (hR : RdV w A cs) (hl : cs.length = n * 1) (h1 : ∀ u ∈ cs, u.oneCell' = true) (hn : n ≤ 1000000) :
    CallR Try.prog 66 [.slice A n c] w fun v w' => w'.ownsRow w.heap.size 112 1 v n cs ∧ Chg [] w w' := by
  apply F66_ok
  cases A with
  | none =>
    have hcs := rd_none hR
    subst hcs
    have hn0 : n = 0 := by simp at hl; omega
    subst hn0
    simp -implicitDefEqProofs only [F66, be_eqlsl Try.underlying96, Option.isNone_none, wpB_some', cnd_true]
    exact ⟨World.ownsRow_nil _ _ _ _, Chg.refl _ _⟩
  | some p =>
    simp -implicitDefEqProofs only [F66, be_eqlsl Try.underlying96, Option.isNone_some, wpB_some', cnd_false]
    obtain ⟨i, hi, hz, hs, hb⟩ := inf_112
    exact eff_clone (size := 1) Try.underlying96 hi hz hs rfl (by omega) hl hR h1 (by unfold maxLen; omega) (by rw [hb]; omega) fun x' w' ho hc => ⟨ho, hc⟩
set_option maxHeartbeats 1000000 in
theorem c_clU64s (hR : RdV w A cs) (hl : cs.length = n * 1) (h1 : ∀ u ∈ cs, u.oneCell' = true) (hn : n ≤ 1000000) :
    CallR Try.prog 67 [.slice A n c] w fun v w' => w'.ownsRow w.heap.size 22 1 v n cs ∧ Chg [] w w' := by
  apply F67_ok
  cases A with
  | none =>
    have hcs := rd_none hR
    subst hcs
    have hn0 : n = 0 := by simp at hl; omega
    subst hn0
    simp -implicitDefEqProofs only [F67, be_eqlsl Try.underlying112, Option.isNone_none, wpB_some', cnd_true]
    exact ⟨World.ownsRow_nil _ _ _ _, Chg.refl _ _⟩
  | some p =>
    simp -implicitDefEqProofs only [F67, be_eqlsl Try.underlying112, Option.isNone_some, wpB_some', cnd_false]
    obtain ⟨i, hi, hz, hs, hb⟩ := inf_22
    exact eff_clone (size := 1) Try.underlying112 hi hz hs rfl (by omega) hl hR h1 (by unfold maxLen; omega) (by rw [hb]; omega) fun x' w' ho hc => ⟨ho, hc⟩
end
end Go.Proofs.Yteapggpkgfiacaa

namespace Go.Proofs.Yteapggpkgfiacaa
open Go Ev Go.RowKit
set_option linter.unusedSimpArgs false
set_option linter.unusedVariables false
set_option maxRecDepth 10000

section
variable {W w w1 : World} {g3 : Nat} {Ps : List Th} {F : Fp}
/-- a thing that is being made: nothing older is turned -/
structure CpI (W w : World) (e : TypeId) (g3 : Nat) (Ps : List Th) (F : Fp) : Prop where
  chg : Chg [] W w
  I : isAt e g3 Ps w F
  good : ∀ P ∈ Ps, OwnT P
  new : ∀ k, F k → W.heap.size ≤ k
theorem cp_chg {a b c : World} {S : Nat → Prop} (h : Chg [] a b) (k : ChgP S b c) (hs : ∀ x, S x → a.heap.size ≤ x) : Chg [] a c :=
  ⟨k.os.trans h.os, k.tape.trans h.tape, k.output.trans h.output, Nat.le_trans h.size k.size, fun x hx _ => by
    rw [k.block x (Nat.lt_of_lt_of_le hx h.size) fun hf => by have := hs x hf; omega]; exact h.block x hx (by simp)⟩
theorem CpI.keep {e : TypeId} (h : CpI W w e g3 Ps F) (hc : Chg [] w w1) : CpI W w1 e g3 Ps F :=
  ⟨h.chg.trans hc, isAt.frame h.I h.good (ChgP.of0 hc none') (fun _ _ h => h), h.good, h.new⟩
theorem CpI.upd {e : TypeId} (h : CpI W w e g3 Ps F) {Qs : List Th} {F1 : Fp} (i : isAt e g3 Qs w1 F1) (hg : ∀ P ∈ Qs, OwnT P) (u : UpdP F F1 w w1) : CpI W w1 e g3 Qs F1 :=
  ⟨cp_chg h.chg u.chg h.new, i, hg, fun k hk => by
    rcases u.sub k hk with h1 | h1
    · exact h.new k h1
    · have := h.chg.size; omega⟩
theorem mem_setG {Ps : List Th} {k : Nat} {P' : Th} (h : ∀ P ∈ Ps, OwnT P) (hp : OwnT P') : ∀ P ∈ Ps.set k P', OwnT P := fun P hP => by
  rcases List.mem_or_eq_of_mem_set hP with h1 | h1
  · exact h P h1
  · rw [h1]; exact hp
theorem upd_new {Fk F' : Fp} (hc : Chg [] w w1) (hn : ∀ k, F' k → w.heap.size ≤ k) : UpdP Fk F' w w1 := ⟨ChgP.of0 hc Fk, fun k hk => .inr (hn k hk)⟩
/-- a cell of the block, written anew -/
theorem CpI.cell {e : TypeId} (h : CpI W w e g3 Ps F) {k : Nat} {P : Th} (hk : Ps[k]? = some P) {F' : Fp} {P' : Th} {v' : Value} (hc : Chg [] w w1) (hn : ∀ k, F' k → w.heap.size ≤ k) (hg : OwnT P') (hv : P' w1 F' v') :
    okC (hp w1 g3) (k + 1) = true ∧ v'.cells = #[v'] ∧ v'.oneCell' = true ∧ ∃ F1, CpI W (put w1 g3 ((getC (hp w1 g3)).setIfInBounds k v') (getE (hp w1 g3))) e g3 (Ps.set k P') F1 := by
  obtain ⟨v, Fk, _, _, _, _, hput⟩ := isAt.repl h.I h.good hk
  obtain ⟨a, b, c, _, F1, d, u⟩ := hput w1 F' P' v' (upd_new hc hn) hg hv
  exact ⟨a, b, c, F1, h.upd d (mem_setG h.good hg) u⟩
/-- a cell of a row that the block owns, written anew -/
theorem CpI.row {e : TypeId} (h : CpI W w e g3 Ps F) {k : Nat} {e' : TypeId} {z n : Nat} {Qs : List Th} (hk : Ps[k]? = some (isRow e' z n Qs)) (hq : ∀ Q ∈ Qs, OwnT Q) {j : Nat} {P : Th} (hj : Qs[j]? = some P) :
    ∃ (b c : Nat) (v : Value) (Fk : Fp), ldC (hp w g3) k = some (.slice (some ⟨b, 0, none⟩) n c) ∧ b ≠ g3 ∧ ldC (hp w b) j = some v ∧ P w Fk v ∧
      ∀ {w1 : World} {F' : Fp} {P' : Th} {v' : Value}, Chg [] w w1 → (∀ k, F' k → w.heap.size ≤ k) → OwnT P' → P' w1 F' v' → okC (hp w1 b) (j + 1) = true ∧ v'.cells = #[v'] ∧ v'.oneCell' = true ∧
        ∃ F1, CpI W (put w1 b ((getC (hp w1 b)).setIfInBounds j v') (getE (hp w1 b))) e g3 (Ps.set k (isRow e' z n (Qs.set j P'))) F1 := by
  obtain ⟨b, c, v, Fk, hl, hbg, _, _, _, _, hld, hv, _, hput⟩ := isAt.row h.I h.good hk hq hj
  refine ⟨b, c, v, Fk, hl, hbg, hld, hv, fun {w1 F' P' v'} hc hn hg hp' => ?_⟩
  obtain ⟨a1, a2, a3, _, F1, d, u⟩ := hput w1 F' P' v' (upd_new hc hn) hg hp'
  exact ⟨a1, a2, a3, F1, h.upd d (mem_setG h.good (good_isRow (mem_setG hq hg))) u⟩
def hdT2 (p : HdV × Option Value) : List Th := [iT p.1.depth, match p.2 with | some u => isV u | none => namesT p.1.holds]
/-- what a copy is made of: the slice that stands in the old hand -/
def SrcN (w : World) (L : List NmV) (u : Value) : Prop := ∃ A c, u = .slice A L.length c ∧ RdV w A (L.flatMap nmC)
theorem SrcN.keep {L : List NmV} {u : Value} (h : SrcN w L u) (hc : Chg [] w w1) : SrcN w1 L u := by
  obtain ⟨A, c, rfl, h1⟩ := h
  exact ⟨A, c, rfl, h1.keep hc.below⟩
theorem src_hands {L : List HdV} {x : Value} (h : handsT L w F x) : ∃ (A : Option Addr) (c : Nat) (us : List Value), x = .slice A L.length c ∧ us.length = L.length ∧ (∀ (i : Nat) (d : HdV) (u : Value), L[i]? = some d → us[i]? = some u → SrcN w d.holds u) ∧
    RdV w A ((L.zip us).flatMap fun p => [Value.int .i64 p.1.depth, p.2]) := by
  obtain ⟨A, c, xs, Fs, rfl, hR, hl, hP, _⟩ := isRow.rd h
  have at' : ∀ (i : Nat) (d : HdV), L[i]? = some d → ∃ u Fu, xs[i * 2 + 0]? = some (.int .i64 d.depth) ∧ xs[i * 2 + 1]? = some u ∧ namesT d.holds w Fu u := by
    intro i d hd
    have hi := (List.getElem?_eq_some_iff.1 hd).1
    have g0 := flatM_get (f := hdT) (z := 2) (fun _ => rfl) L i d hd 0 (by omega)
    have g1 := flatM_get (f := hdT) (z := 2) (fun _ => rfl) L i d hd 1 (by omega)
    obtain ⟨v0, h0⟩ : ∃ v, xs[i * 2 + 0]? = some v := ⟨_, List.getElem?_eq_getElem (by omega)⟩
    obtain ⟨v1, h1⟩ : ∃ v, xs[i * 2 + 1]? = some v := ⟨_, List.getElem?_eq_getElem (by omega)⟩
    have e0 := hP.each _ _ _ g0 h0
    have e1 := hP.each _ _ _ g1 h1
    exact ⟨v1, _, by rw [h0, e0.1], h1, e1⟩
  refine ⟨A, c, (List.range L.length).map fun i => xs.getD (i * 2 + 1) (.bool false), rfl, by simp, fun i d u hd hu => ?_, ?_⟩
  · obtain ⟨u', Fu, _, h1, h2⟩ := at' i d hd
    have hi := (List.getElem?_eq_some_iff.1 hd).1
    rw [List.getElem?_map, List.getElem?_range hi] at hu
    have : u = u' := by
      have e := Option.some.inj hu
      rw [← e]; simp only [List.getD_eq_getElem?_getD, h1]; rfl
    subst this
    exact names_sh ⟨Fu, h2⟩
  · have e : ((L.zip ((List.range L.length).map fun i => xs.getD (i * 2 + 1) (.bool false))).flatMap fun p => [Value.int .i64 p.1.depth, p.2]) = xs := by
      apply List.ext_getElem?
      intro j
      have hfl : ((L.zip ((List.range L.length).map fun i => xs.getD (i * 2 + 1) (.bool false))).flatMap fun p => [Value.int .i64 p.1.depth, p.2]).length = L.length * 2 := by
        rw [flat_len (z := 2) (fun p => rfl)]; simp
      rcases Nat.lt_or_ge j (L.length * 2) with hj | hj
      · obtain ⟨i, k, rfl, hk⟩ : ∃ i k, j = i * 2 + k ∧ k < 2 := ⟨j / 2, j % 2, by omega, by omega⟩
        have hi : i < L.length := by omega
        have hd : L[i]? = some L[i] := List.getElem?_eq_getElem hi
        obtain ⟨u', Fu, h0, h1, h2⟩ := at' i _ hd
        have hz : (L.zip ((List.range L.length).map fun i => xs.getD (i * 2 + 1) (.bool false)))[i]? = some (L[i], u') := by
          rw [List.getElem?_zip_eq_some]
          refine ⟨hd, ?_⟩
          rw [List.getElem?_map, List.getElem?_range hi]
          simp [List.getD_eq_getElem?_getD, h1]
        rw [flatM_get (f := fun p : HdV × Value => [Value.int .i64 p.1.depth, p.2]) (z := 2) (fun _ => rfl) _ i _ hz k hk]
        have : k = 0 ∨ k = 1 := by omega
        rcases this with rfl | rfl
        · exact h0.symm
        · exact h1.symm
      · rw [List.getElem?_eq_none (by omega), List.getElem?_eq_none (by omega)]
    rw [e]; exact hR
end
end Go.Proofs.Yteapggpkgfiacaa

namespace Go.Proofs.Yteapggpkgfiacaa
open Go Ev Go.RowKit
set_option linter.unusedSimpArgs false
set_option linter.unusedVariables false
set_option maxRecDepth 10000

section
variable {W w w1 : World} {g g3 : Nat} {m : MdV} {F : Fp}
def handsT2 (L : List (HdV × Option Value)) : Th := isRow 106 2 L.length (L.flatMap hdT2)
/-- a copy: its slots copied, its hands partly, its regions' slice still the old one -/
def mdT2 (m : MdV) (sT : Th) (rT : Th) (hT : Th) : List Th := (cfC m.c).map isV ++ [isV (.bool m.loose), sT, rT, hT]
theorem mdT2_full (m : MdV) : mdT2 m (slotsT m.slots) (rgsT m.rgs) (handsT m.hands) = mdT m := rfl
theorem good_md2 {m : MdV} {sT rT hT : Th} (h1 : OwnT sT) (h2 : OwnT rT) (h3 : OwnT hT) : ∀ P ∈ mdT2 m sT rT hT, OwnT P := fun P hP => by
  rcases List.mem_append.1 hP with h | h
  · refine good_ints (fun u hu => ?_) P h
    simp only [cfC, List.mem_cons, List.not_mem_nil, or_false] at hu
    rcases hu with rfl | rfl | rfl | rfl | rfl | rfl <;> exact ⟨_, _, rfl⟩
  · simp only [List.mem_cons, List.not_mem_nil, or_false] at h
    rcases h with rfl | rfl | rfl | rfl
    · exact good_isV ⟨rfl, rfl⟩
    · exact h1
    · exact h2
    · exact h3
theorem mdT2_s (m : MdV) (a b c a' : Th) : (mdT2 m a b c).set 7 a' = mdT2 m a' b c := rfl
theorem mdT2_r (m : MdV) (a b c b' : Th) : (mdT2 m a b c).set 8 b' = mdT2 m a b' c := rfl
theorem mdT2_h (m : MdV) (a b c c' : Th) : (mdT2 m a b c).set 9 c' = mdT2 m a b c' := rfl
/-- the block as it stands at first: the old slices -/
theorem cp_first (I : MdI w g m F) : ∃ (sv rv hv : Value) (xs : List Value), hp w g = some (.cells xs.toArray 72) ∧ xs.length = 10 ∧ (xs.toArray.toList.all (·.oneCell') = true) ∧ (∃ Fs, slotsT m.slots w Fs sv) ∧ (∃ Fr, rgsT m.rgs w Fr rv) ∧ (∃ Fh, handsT m.hands w Fh hv) ∧
    ∀ {w1 : World} {b : Nat}, Chg [] w w1 → w.heap.size ≤ b → hp w1 b = some (.cells xs.toArray 72) → CpI w w1 72 b (mdT2 m (isV sv) (isV rv) (isV hv)) (fun k => k = b) := by
  obtain ⟨xs, Fs, h1, h2, h3, h4⟩ := I
  have hl : xs.length = 10 := by rw [← h2.len]; rfl
  obtain ⟨x0, x1, x2, x3, x4, x5, x6, x7, x8, x9, rfl⟩ : ∃ x0 x1 x2 x3 x4 x5 x6 x7 x8 x9, xs = [x0, x1, x2, x3, x4, x5, x6, x7, x8, x9] := by
    match xs, hl with
    | [x0, x1, x2, x3, x4, x5, x6, x7, x8, x9], _ => exact ⟨_, _, _, _, _, _, _, _, _, _, rfl⟩
  have e0 : x0 = .int .i64 m.c.1 := (h2.each 0 _ _ rfl rfl).1
  have e1 : x1 = .int .i64 m.c.2.1 := (h2.each 1 _ _ rfl rfl).1
  have e2 : x2 = .int .i64 m.c.2.2.1 := (h2.each 2 _ _ rfl rfl).1
  have e3 : x3 = .int .i64 m.c.2.2.2.1 := (h2.each 3 _ _ rfl rfl).1
  have e4 : x4 = .int .i64 m.c.2.2.2.2.1 := (h2.each 4 _ _ rfl rfl).1
  have e5 : x5 = .int .i64 m.c.2.2.2.2.2 := (h2.each 5 _ _ rfl rfl).1
  have e6 : x6 = .bool m.loose := (h2.each 6 _ _ rfl rfl).1
  have t7 : slotsT m.slots w (Fs 7) x7 := h2.each 7 _ _ rfl rfl
  have t8 : rgsT m.rgs w (Fs 8) x8 := h2.each 8 _ _ rfl rfl
  have t9 : handsT m.hands w (Fs 9) x9 := h2.each 9 _ _ rfl rfl
  have o7 := (good_slots _).one t7
  have o8 := (good_rgs _).one t8
  have o9 := (good_hands _).one t9
  subst e0 e1 e2 e3 e4 e5 e6
  refine ⟨x7, x8, x9, _, h1, rfl, ?_, ⟨_, t7⟩, ⟨_, t8⟩, ⟨_, t9⟩, fun {w1 b} hc hb hp1 => ?_⟩
  · simp [Value.oneCell']
    exact ⟨o7.2, o8.2, o9.2⟩
  · refine ⟨hc, ⟨_, fun _ => none', hp1, Parts.ofFlat [.int .i64 m.c.1, .int .i64 m.c.2.1, .int .i64 m.c.2.2.1, .int .i64 m.c.2.2.2.1, .int .i64 m.c.2.2.2.2.1, .int .i64 m.c.2.2.2.2.2, .bool m.loose, x7, x8, x9], fun ⟨_, _, h⟩ => h.elim, fun k => ⟨fun h => .inl h, fun h => by rcases h with h | ⟨_, _, h⟩; exact h; exact h.elim⟩⟩, good_md2 (good_isV o7) (good_isV o8) (good_isV o9), fun k hk => by rw [hk]; exact hb⟩
theorem hands2_done {L : List (HdV × Option Value)} (hL : L.length = m.hands.length) (h1 : ∀ (j : Nat) (p : HdV × Option Value), L[j]? = some p → m.hands[j]? = some p.1 ∧ p.2 = none) : handsT2 L = handsT m.hands := by
  have e : L = m.hands.map fun d => (d, none) := by
    apply List.ext_getElem?
    intro j
    rcases Nat.lt_or_ge j L.length with hj | hj
    · obtain ⟨a, b⟩ := h1 j _ (List.getElem?_eq_getElem hj)
      rw [List.getElem?_map, a, List.getElem?_eq_getElem hj, Option.map_some]
      exact congrArg some (Prod.ext rfl b)
    · rw [List.getElem?_eq_none hj, List.getElem?_eq_none (by simpa using (by omega : m.hands.length ≤ j))]
  subst e
  rw [handsT2, handsT, List.length_map, List.flatMap_map]
  rfl
theorem good_hd2 (L : List (HdV × Option Value)) (h : ∀ p ∈ L, ∀ u, p.2 = some u → u.cells = #[u] ∧ u.oneCell' = true) : ∀ P ∈ L.flatMap hdT2, OwnT P := fun P hP => by
  obtain ⟨p, hp, h1⟩ := List.mem_flatMap.1 hP
  simp only [hdT2, List.mem_cons, List.not_mem_nil, or_false] at h1
  rcases h1 with rfl | rfl
  · exact good_int _ _
  · cases hp2 : p.2 with
    | none => exact good_names _
    | some u => exact good_isV (h p hp u hp2)
set_option maxHeartbeats 4000000 in
theorem l_copy0 {K : Nat} (Wm : Wf m K) (hK : K ≤ 1000000) {sT rT : Th} {Q : Value → World → Prop} (hn : m.hands.length ≤ 1000000)
    (N : ∀ w F, CpI W w 72 g3 (mdT2 m sT rT (handsT m.hands)) F → P38_0 (.pointer (some ⟨g, 0, none⟩)) (.pointer (some ⟨g3, 0, none⟩)) (.int .i64 m.hands.length) (.int .i64 m.hands.length) w Q) :
    ∀ (t i : Nat) (w : World) (F : Fp) (L : List (HdV × Option Value)), i + t = m.hands.length → L.length = m.hands.length → CpI W w 72 g3 (mdT2 m sT rT (handsT2 L)) F →
      (∀ (j : Nat) (p : HdV × Option Value), L[j]? = some p → m.hands[j]? = some p.1 ∧ (j < i → p.2 = none) ∧ (i ≤ j → ∃ u, p.2 = some u ∧ SrcN W p.1.holds u)) →
      P38_0 (.pointer (some ⟨g, 0, none⟩)) (.pointer (some ⟨g3, 0, none⟩)) (.int .i64 m.hands.length) (.int .i64 i) w Q
  | 0, i, w, F, L, hi, hL, C, hl => by
    have e : i = m.hands.length := by omega
    subst e
    rw [hands2_done hL fun j p hp => ⟨(hl j p hp).1, (hl j p hp).2.1 (by have := (List.getElem?_eq_some_iff.1 hp).1; omega)⟩] at C
    exact N w F C
  | t + 1, i, w, F, L, hi, hL, C, hl => by
    apply L38_0_ok
    have hlt : (i : Int) < m.hands.length := by omega
    obtain ⟨p, hpi⟩ : ∃ p, L[i]? = some p := ⟨_, List.getElem?_eq_getElem (by omega)⟩
    obtain ⟨hm, _, h2⟩ := hl i p hpi
    obtain ⟨u, hu, hS⟩ := h2 (Nat.le_refl _)
    obtain ⟨d, q⟩ := p
    simp only at hu hm hS
    subst hu
    have gq : ∀ Q ∈ L.flatMap hdT2, OwnT Q := good_hd2 L fun p hp u hu => by
      obtain ⟨j, hj⟩ := List.getElem?_of_mem hp
      obtain ⟨_, a, b⟩ := hl j p hj
      rcases Nat.lt_or_ge j i with h | h
      · rw [a h] at hu; cases hu
      · obtain ⟨u', e1, A, c, rfl, _⟩ := b h
        rw [e1] at hu; cases hu
        exact ⟨rfl, rfl⟩
    have Cd := C.keep (Chg.refl [] w).drew
    have hj : (L.flatMap hdT2)[i * 2 + 1]? = some (isV u) := flatM_get (f := hdT2) (z := 2) (fun _ => rfl) L i _ hpi 1 (by omega)
    obtain ⟨b, c, v, Fk, h9, _, hv, hvu, hput⟩ := Cd.row (k := 9) (e' := 106) (z := 2) (n := L.length) (Qs := L.flatMap hdT2) rfl gq hj
    rw [hvu.1] at hv
    obtain ⟨A, ca, rfl, hR⟩ := hS.keep Cd.chg
    rw [hL] at h9
    have h9' : ldC (hp w g3) (0 + 9) = some (.slice (some ⟨b, 0, none⟩) m.hands.length c) := h9
    have hv' : ldC (hp w b) (i * 2 + 1) = some (.slice A d.holds.length ca) := hv
    have ia := ia_70 (b := b) (p := 0) (n := m.hands.length) (c := c) (j := .i64) (i := (i : Int)) (by omega) (by omega)
    rw [Int.toNat_natCast, Nat.zero_add] at ia
    have hD := Wm.hd d (List.mem_of_getElem? hm)
    simp -implicitDefEqProofs only [L38_0, zS, hlt, fa_72_4, ld_70, h9', ia, fa_106_1, ld_104, hv']
    repeat' (with_reducible apply And.intro)
    all_goals
      refine (c_clName hR (flat_len (enc := nmC) (z := 2) (fun _ => rfl) d.holds) (fun x hx => by obtain ⟨k, y, rfl⟩ := nmC_int _ x hx; rfl) (by omega)).mono ?_
      rintro v2 w2 ⟨ho, c2⟩
      obtain ⟨A2, cc2, rfl, _, hnew, _⟩ := rdV_of_own ho
      have hT : namesT d.holds w2 (fun b => (Value.slice A2 d.holds.length cc2).ownBlock = some b) (.slice A2 d.holds.length cc2) := own_flat ho
      obtain ⟨ok, s1, s2, F1, C1⟩ := hput c2 (fun k hk => by
        cases A2 with
        | none => simp [Value.ownBlock] at hk
        | some p => simp [Value.ownBlock] at hk; rw [← hk]; exact (hnew p rfl).1) (good_names _) hT
      have h9b := chg_ld c2 (show ldC (hp w.drew g3) (0 + 9) = _ from h9)
      try simp -implicitDefEqProofs only [zS, fa_72_4, ld_70, h9b, ia, fa_106_1]
      try simp -implicitDefEqProofs only [zS, ia, fa_106_1]
      rw [st_104 (o := i * 2 + 1) s1 s2 ok]
      apply L38_1_ok
      simp -implicitDefEqProofs only [L38_1, zS, bp_add, wrapi (n := (i : Int) + 1) (by omega) (by omega)]
      have eset : (L.flatMap hdT2).set (i * 2 + 1) (namesT d.holds) = (L.set i (d, none)).flatMap hdT2 := flatM_setP (f := hdT2) (z := 2) (fun _ => rfl) (by omega) (x' := (d, none)) rfl hpi
      rw [eset, mdT2_h] at C1
      have e2 : isRow 106 2 L.length ((L.set i (d, none)).flatMap hdT2) = handsT2 (L.set i (d, none)) := by rw [handsT2, List.length_set]
      rw [e2] at C1
      have := l_copy0 Wm hK hn N t (i + 1) _ F1 (L.set i (d, none)) (by omega) (by rw [List.length_set]; exact hL) C1 fun j p hp' => by
        by_cases hij : i = j
        · subst hij
          rw [List.getElem?_set, if_pos rfl, if_pos (by omega)] at hp'
          cases hp'
          exact ⟨hm, fun _ => rfl, fun h => by omega⟩
        · rw [List.getElem?_set, if_neg hij] at hp'
          obtain ⟨a, b', c'⟩ := hl j p hp'
          exact ⟨a, fun h => b' (by omega), fun h => c' (by omega)⟩
      rw [Int.natCast_add i 1] at this
      exact this
end
end Go.Proofs.Yteapggpkgfiacaa

namespace Go.Proofs.Yteapggpkgfiacaa
open Go Ev Go.RowKit
set_option linter.unusedSimpArgs false
set_option linter.unusedVariables false
set_option maxRecDepth 10000

section
variable {W w w1 : World} {g g3 : Nat} {m : MdV} {F : Fp}
/-- the same written into the same block, in a world and in a later one -/
theorem chg_put {wA wC : World} (hc : Chg [] wA wC) {b : Nat} (hb : b < wA.heap.size) (X : Array Value) (e : TypeId) : Chg [] (put wA b X e) (put wC b X e) := by
  have sz := hc.size
  refine ⟨hc.os, hc.tape, hc.output, by simpa using sz, fun k hk _ => ?_⟩
  have hk' : k < wA.heap.size := by simpa using hk
  by_cases e1 : k = b
  · subst e1
    rw [put_same (by omega), put_same hb]
  · rw [put_other e1, put_other e1]
    exact hc.block k hk' (by simp)
def SrcI (w : World) (L : List Int) (u : Value) : Prop := ∃ A c, u = .slice A L.length c ∧ RdV w A (ints L)
def SrcU (w : World) (L : List Int) (u : Value) : Prop := ∃ A c, u = .slice A L.length c ∧ RdV w A (u64s L)
def SrcO (w : World) (L : List HnV) (u : Value) : Prop := ∃ A c, u = .slice A L.length c ∧ RdV w A (L.flatMap hnC)
def SrcW (w : World) (L : List (List Int)) (u : Value) : Prop := ∃ (A : Option Addr) (c : Nat) (vs : List Value), u = .slice A L.length c ∧ vs.length = L.length ∧ RdV w A vs ∧ ∀ (i : Nat) (l : List Int) (v : Value), L[i]? = some l → vs[i]? = some v → SrcU w l v
theorem SrcI.keep {L : List Int} {u : Value} (h : SrcI w L u) (hc : Chg [] w w1) : SrcI w1 L u := by
  obtain ⟨A, c, rfl, h1⟩ := h; exact ⟨A, c, rfl, h1.keep hc.below⟩
theorem SrcU.keep {L : List Int} {u : Value} (h : SrcU w L u) (hc : Chg [] w w1) : SrcU w1 L u := by
  obtain ⟨A, c, rfl, h1⟩ := h; exact ⟨A, c, rfl, h1.keep hc.below⟩
theorem SrcO.keep {L : List HnV} {u : Value} (h : SrcO w L u) (hc : Chg [] w w1) : SrcO w1 L u := by
  obtain ⟨A, c, rfl, h1⟩ := h; exact ⟨A, c, rfl, h1.keep hc.below⟩
theorem SrcW.keep {L : List (List Int)} {u : Value} (h : SrcW w L u) (hc : Chg [] w w1) : SrcW w1 L u := by
  obtain ⟨A, c, vs, rfl, h1, h2, h3⟩ := h; exact ⟨A, c, vs, rfl, h1, h2.keep hc.below, fun i l v a b => (h3 i l v a b).keep hc⟩
theorem src_ints {L : List Int} {x : Value} (h : intsT L w F x) : SrcI w L x := by
  obtain ⟨h1, _⟩ := flat_own h
  obtain ⟨A, c, e, r, _⟩ := rdV_of_own h1
  exact ⟨A, c, e, r⟩
theorem src_word {L : List Int} {x : Value} (h : wordT L w F x) : SrcU w L x := by
  obtain ⟨h1, _⟩ := flat_own h
  obtain ⟨A, c, e, r, _⟩ := rdV_of_own h1
  exact ⟨A, c, e, r⟩
theorem src_words {L : List (List Int)} {x : Value} (h : wordsT L w F x) : SrcW w L x := by
  obtain ⟨A, c, xs, Fs, rfl, hR, hl, hP, _⟩ := isRow.rd h
  refine ⟨A, c, xs, rfl, by omega, hR, fun i l v hi hv => ?_⟩
  exact src_word (hP.each i (wordT l) v (by rw [List.getElem?_map, hi]; rfl) hv)
/-- the slices of an old region -/
structure SrcR (w : World) (r : RgV) (u : Value × Value × Value) : Prop where
  sc : SrcI w r.chunks u.1
  sw : SrcW w r.words u.2.1
  so : SrcO w r.objs u.2.2
def rgC2 (p : RgV × Value × Value × Value) : List Value := [.int .i64 p.1.nm.1, .int .i64 p.1.nm.2, .int .i64 p.1.cls, .int .i64 p.1.off, p.2.1, p.2.2.1, p.2.2.2]
set_option maxHeartbeats 1000000 in
theorem src_rgs {L : List RgV} {x : Value} (h : rgsT L w F x) : ∃ (A : Option Addr) (c : Nat) (us : List (Value × Value × Value)), x = .slice A L.length c ∧ us.length = L.length ∧ (∀ (i : Nat) (r : RgV) (u : Value × Value × Value), L[i]? = some r → us[i]? = some u → SrcR w r u) ∧
    RdV w A ((L.zip us).flatMap rgC2) := by
  obtain ⟨A, c, xs, Fs, rfl, hR, hl, hP, _⟩ := isRow.rd h
  have at' : ∀ (i : Nat) (r : RgV), L[i]? = some r → ∀ k, k < 7 → ∃ v P, xs[i * 7 + k]? = some v ∧ (rgT r)[k]? = some P ∧ P w (Fs (i * 7 + k)) v := by
    intro i r hr k hk
    have hi := (List.getElem?_eq_some_iff.1 hr).1
    have gk := flatM_get (f := rgT) (z := 7) (fun _ => rfl) L i r hr k hk
    obtain ⟨v, hv⟩ : ∃ v, xs[i * 7 + k]? = some v := ⟨_, List.getElem?_eq_getElem (by omega)⟩
    obtain ⟨P, hPk⟩ : ∃ P, (rgT r)[k]? = some P := ⟨_, List.getElem?_eq_getElem (by simpa [rgT] using hk)⟩
    exact ⟨v, P, hv, hPk, hP.each _ _ _ (gk.trans hPk) hv⟩
  have all : ∀ (i : Nat) (r : RgV), L[i]? = some r → ∃ u : Value × Value × Value, SrcR w r u ∧ ∀ k, k < 7 → xs[i * 7 + k]? = (rgC2 (r, u))[k]? := by
    intro i r hr
    obtain ⟨v0, P0, x0, p0, t0⟩ := at' i r hr 0 (by omega)
    obtain ⟨v1, P1, x1, p1, t1⟩ := at' i r hr 1 (by omega)
    obtain ⟨v2, P2, x2, p2, t2⟩ := at' i r hr 2 (by omega)
    obtain ⟨v3, P3, x3, p3, t3⟩ := at' i r hr 3 (by omega)
    obtain ⟨v4, P4, x4, p4, t4⟩ := at' i r hr 4 (by omega)
    obtain ⟨v5, P5, x5, p5, t5⟩ := at' i r hr 5 (by omega)
    obtain ⟨v6, P6, x6, p6, t6⟩ := at' i r hr 6 (by omega)
    cases p0; cases p1; cases p2; cases p3; cases p4; cases p5; cases p6
    rw [t0.1] at x0; rw [t1.1] at x1; rw [t2.1] at x2; rw [t3.1] at x3
    refine ⟨(v4, v5, v6), ⟨src_ints t4, src_words t5, objs_sh ⟨_, t6⟩⟩, fun k hk => ?_⟩
    have : k = 0 ∨ k = 1 ∨ k = 2 ∨ k = 3 ∨ k = 4 ∨ k = 5 ∨ k = 6 := by omega
    rcases this with rfl | rfl | rfl | rfl | rfl | rfl | rfl
    · exact x0
    · exact x1
    · exact x2
    · exact x3
    · exact x4
    · exact x5
    · exact x6
  have cho : ∃ us : List (Value × Value × Value), us.length = L.length ∧ ∀ (i : Nat) (r : RgV) (u : Value × Value × Value), L[i]? = some r → us[i]? = some u → SrcR w r u ∧ ∀ k, k < 7 → xs[i * 7 + k]? = (rgC2 (r, u))[k]? := by
    refine ⟨List.ofFn fun i : Fin L.length => Classical.choose (all i.1 L[i.1] (List.getElem?_eq_getElem i.2)), by simp, fun i r u hr hu => ?_⟩
    have hi := (List.getElem?_eq_some_iff.1 hr).1
    have hr' : L[i] = r := by rw [List.getElem?_eq_getElem hi] at hr; exact Option.some.inj hr
    subst hr'
    rw [List.getElem?_ofFn, dif_pos hi] at hu
    rw [← Option.some.inj hu]
    exact Classical.choose_spec (all i L[i] (List.getElem?_eq_getElem hi))
  obtain ⟨us, hus, hc⟩ := cho
  refine ⟨A, c, us, rfl, hus, fun i r u hr hu => (hc i r u hr hu).1, ?_⟩
  have e : (L.zip us).flatMap rgC2 = xs := by
    apply List.ext_getElem?
    intro j
    have hfl : ((L.zip us).flatMap rgC2).length = L.length * 7 := by
      rw [flat_len (z := 7) (fun p => rfl)]; simp [hus]
    rcases Nat.lt_or_ge j (L.length * 7) with hj | hj
    · obtain ⟨i, k, rfl, hk⟩ : ∃ i k, j = i * 7 + k ∧ k < 7 := ⟨j / 7, j % 7, by omega, by omega⟩
      have hi : i < L.length := by omega
      have hr : L[i]? = some L[i] := List.getElem?_eq_getElem hi
      have hu : us[i]? = some (us[i]'(by omega)) := List.getElem?_eq_getElem (by omega)
      have hz : (L.zip us)[i]? = some (L[i], us[i]'(by omega)) := by
        rw [List.getElem?_zip_eq_some]; exact ⟨hr, hu⟩
      rw [flatM_get (f := rgC2) (z := 7) (fun _ => rfl) _ i _ hz k hk]
      exact ((hc i _ _ hr hu).2 k hk).symm
    · rw [List.getElem?_eq_none (by omega), List.getElem?_eq_none (by omega)]
  rw [e]; exact hR
def wordT2 (p : List Int × Option Value) : Th := match p.2 with | some u => isV u | none => wordT p.1
/-- the words' row: the old slice, or a new one, of which some are copied -/
inductive WSt where
  | old (u : Value)
  | new (L : List (List Int × Option Value))
def wsT (r : RgV) : WSt → Th
  | .old u => isV u
  | .new L => isRow 112 1 L.length (L.map wordT2)
structure RgS where
  r : RgV
  oc : Option Value
  ow : WSt
  oo : Option Value
def rgT2 (p : RgS) : List Th := [iT p.r.nm.1, iT p.r.nm.2, iT p.r.cls, iT p.r.off, match p.oc with | some u => isV u | none => intsT p.r.chunks, wsT p.r p.ow, match p.oo with | some u => isV u | none => objsT p.r.objs]
def rgsT2 (L : List RgS) : Th := isRow 98 7 L.length (L.flatMap rgT2)
end
end Go.Proofs.Yteapggpkgfiacaa

namespace Go.Proofs.Yteapggpkgfiacaa
open Go Ev Go.RowKit
set_option linter.unusedSimpArgs false
set_option linter.unusedVariables false
set_option maxRecDepth 10000

section
variable {W w wA wB wC : World} {g3 : Nat} {Ps : List Th} {F : Fp}
theorem put_put (w : World) (b : Nat) (c c' : Array Value) (e e' : TypeId) : put (put w b c e) b c' e' = put w b c' e' := by
  unfold Ev.put
  simp [Array.setIfInBounds_setIfInBounds]
theorem ldC_lt {w : World} {b j : Nat} {v : Value} (h : ldC (hp w b) j = some v) : b < w.heap.size := by
  rcases Nat.lt_or_ge b w.heap.size with h1 | h1
  · exact h1
  · have h2 : hp w b = none := by simp [hp]; omega
    rw [h2] at h; cases h
/-- one cell more, in a world that is later than the one in which the row stands, but for what was written into it -/
theorem CpI.next {e : TypeId} {k : Nat} {e' : TypeId} {z n : Nat} {Qs : List Th} {b : Nat} {X : Array Value} {eb : TypeId} (C : CpI W (put wA b X eb) e g3 Ps F) (hk : Ps[k]? = some (isRow e' z n Qs)) (hq : ∀ Q ∈ Qs, OwnT Q) {j : Nat} {P : Th} (hj : Qs[j]? = some P)
    (hb : b < wA.heap.size) (hbg : b ≠ g3) {c : Nat} (hl : ldC (hp wA g3) k = some (.slice (some ⟨b, 0, none⟩) n c)) (cB : Chg [] wA wB) {F' : Fp} {P' : Th} {v' : Value} (hn : ∀ k, F' k → wA.heap.size ≤ k) (hg : OwnT P') (hv : P' wB F' v') :
    okC (some (.cells X eb)) (j + 1) = true ∧ v'.cells = #[v'] ∧ v'.oneCell' = true ∧ ∃ F1, CpI W (put wB b (X.setIfInBounds j v') eb) e g3 (Ps.set k (isRow e' z n (Qs.set j P'))) F1 := by
  obtain ⟨b2, c2, v, Fk, h1, _, _, _, hput⟩ := C.row hk hq hj
  rw [put_other hbg.symm, hl] at h1
  cases h1
  have sB := cB.size
  have hs : hp (put wB b X eb) b = some (.cells X eb) := put_same (by omega) _ _
  obtain ⟨a1, a2, a3, F1, C1⟩ := hput (w1 := put wB b X eb) (chg_put cB hb X eb) (fun k hk => by simpa using hn k hk) hg (hg.frame hv (ChgP.put wB b X eb) (fun k h1 h2 => by have := hn k h1; omega))
  rw [hs] at a1
  rw [hs, getC_some, getE_some, put_put] at C1
  exact ⟨a1, a2, a3, F1, C1⟩
/-- three cells, behind three clones -/
theorem CpI.three {e : TypeId} {k : Nat} {e' : TypeId} {z n : Nat} {Qs : List Th} (C : CpI W w e g3 Ps F) (hk : Ps[k]? = some (isRow e' z n Qs)) (hq : ∀ Q ∈ Qs, OwnT Q) {j1 j2 j3 : Nat} {P1 P2 P3 : Th} (h1 : Qs[j1]? = some P1) (h2 : Qs[j2]? = some P2) (h3 : Qs[j3]? = some P3) (n12 : j1 ≠ j2) (n13 : j1 ≠ j3) (n23 : j2 ≠ j3)
    (cA : Chg [] w wA) (cB : Chg [] wA wB) (cC : Chg [] wB wC) {F1 F2 F3 : Fp} {Q1 Q2 Q3 : Th} {v1 v2 v3 : Value} (f1 : ∀ k, F1 k → w.heap.size ≤ k) (f2 : ∀ k, F2 k → wA.heap.size ≤ k) (f3 : ∀ k, F3 k → wB.heap.size ≤ k)
    (g1 : OwnT Q1) (g2 : OwnT Q2) (g3' : OwnT Q3) (t1 : Q1 wA F1 v1) (t2 : Q2 wB F2 v2) (t3 : Q3 wC F3 v3) :
    ∃ (b c : Nat) (X : Array Value) (eb : TypeId), ldC (hp w g3) k = some (.slice (some ⟨b, 0, none⟩) n c) ∧ b ≠ g3 ∧ (∃ v, ldC (hp w b) j1 = some v ∧ ∃ Fv, P1 w Fv v) ∧ (∃ v, ldC (hp w b) j2 = some v ∧ ∃ Fv, P2 w Fv v) ∧ (∃ v, ldC (hp w b) j3 = some v ∧ ∃ Fv, P3 w Fv v) ∧
      getC (hp w b) = X ∧ getE (hp w b) = eb ∧ okC (hp w b) (j1 + 1) = true ∧ okC (some (.cells (X.setIfInBounds j1 v1) eb)) (j2 + 1) = true ∧ okC (some (.cells ((X.setIfInBounds j1 v1).setIfInBounds j2 v2) eb)) (j3 + 1) = true ∧
      ∃ F', CpI W (put wC b (((X.setIfInBounds j1 v1).setIfInBounds j2 v2).setIfInBounds j3 v3) eb) e g3 (Ps.set k (isRow e' z n (((Qs.set j1 Q1).set j2 Q2).set j3 Q3))) F' := by
  have hkl := (List.getElem?_eq_some_iff.1 hk).1
  obtain ⟨b, c, v, Fk, hl, hbg, hld, hv, hput⟩ := C.row hk hq h1
  obtain ⟨b2, c2, v2', Fk2, hl2, _, hld2, hv2, _⟩ := C.row hk hq h2
  rw [hl] at hl2; cases hl2
  obtain ⟨b3, c3, v3', Fk3, hl3, _, hld3, hv3, _⟩ := C.row hk hq h3
  rw [hl] at hl3; cases hl3
  have hb := ldC_lt hld
  have hbA : hp wA b = hp w b := cA.block b hb (by simp)
  obtain ⟨ok1, _, _, Fa, Ca⟩ := hput cA f1 g1 t1
  rw [hbA] at ok1 Ca
  have sA := cA.size
  have sB := cB.size
  obtain ⟨ok2, _, _, Fb, Cb⟩ := Ca.next (wB := wB) (List.getElem?_set_self hkl) (mem_setG hq g1) (j := j2) (P := P2) (by rw [List.getElem?_set_ne n12]; exact h2) (by omega) hbg (chg_ld cA hl) cB f2 g2 t2
  rw [List.set_set] at Cb
  obtain ⟨ok3, _, _, Fc, Cc⟩ := Cb.next (wB := wC) (List.getElem?_set_self hkl) (mem_setG (mem_setG hq g1) g2) (j := j3) (P := P3) (by rw [List.getElem?_set_ne n23, List.getElem?_set_ne n13]; exact h3) (by omega) hbg (chg_ld cB (chg_ld cA hl)) cC f3 g3' t3
  rw [List.set_set] at Cc
  exact ⟨b, c, _, _, hl, hbg, ⟨v, hld, _, hv⟩, ⟨v2', hld2, _, hv2⟩, ⟨v3', hld3, _, hv3⟩, rfl, rfl, ok1, ok2, ok3, Fc, Cc⟩
end
end Go.Proofs.Yteapggpkgfiacaa

namespace Go.Proofs.Yteapggpkgfiacaa
open Go Ev Go.RowKit
set_option linter.unusedSimpArgs false
set_option linter.unusedVariables false
set_option maxRecDepth 10000

section
variable {W w w1 : World} {g3 : Nat} {Ps : List Th} {F : Fp} {m : MdV}
/-- a cell of a row that a cell of a row of the block owns, written anew -/
theorem CpI.inner {e : TypeId} (h : CpI W w e g3 Ps F) {k : Nat} {e' : TypeId} {z n : Nat} {Qs : List Th} (hk : Ps[k]? = some (isRow e' z n Qs)) (hq : ∀ Q ∈ Qs, OwnT Q) {j : Nat} {e2 : TypeId} {z2 n2 : Nat} {Rs : List Th} (hj : Qs[j]? = some (isRow e2 z2 n2 Rs)) (hr : ∀ R ∈ Rs, OwnT R) {l : Nat} {P : Th} (hl : Rs[l]? = some P) :
    ∃ (b c bw cw : Nat) (v : Value) (Fk : Fp), ldC (hp w g3) k = some (.slice (some ⟨b, 0, none⟩) n c) ∧ ldC (hp w b) j = some (.slice (some ⟨bw, 0, none⟩) n2 cw) ∧ ldC (hp w bw) l = some v ∧ P w Fk v ∧ bw ≠ b ∧ bw ≠ g3 ∧
      ∀ {w1 : World} {F' : Fp} {P' : Th} {v' : Value}, Chg [] w w1 → (∀ k, F' k → w.heap.size ≤ k) → OwnT P' → P' w1 F' v' → okC (hp w1 bw) (l + 1) = true ∧ v'.cells = #[v'] ∧ v'.oneCell' = true ∧
        ∃ F1, CpI W (put w1 bw ((getC (hp w1 bw)).setIfInBounds l v') (getE (hp w1 bw))) e g3 (Ps.set k (isRow e' z n (Qs.set j (isRow e2 z2 n2 (Rs.set l P'))))) F1 := by
  obtain ⟨b, c, rv, Fr, h9, _, _, _, hnb, hng, hld, hR, hres, _⟩ := isAt.row h.I h.good hk hq hj
  obtain ⟨bw, cw, v, Fk, hx, hFb, _, _, hld2, hv, _, hst⟩ := isRow.cell hR hr hl
  subst hx
  refine ⟨b, c, bw, cw, v, Fk, h9, hld, hld2, hv, fun e => hnb (e ▸ hFb), fun e => hng (e ▸ hFb), fun {w1 F' P' v'} hc hn hg hp' => ?_⟩
  obtain ⟨ok, F1, hrow, hupd⟩ := hst w1 F' P' v' (upd_new hc hn) hg hp'
  obtain ⟨F2, i2, u2⟩ := hres _ F1 _ hupd hrow
  obtain ⟨o1, o2⟩ := hg.one hp'
  exact ⟨ok, o1, o2, F2, h.upd i2 (mem_setG h.good (good_isRow (mem_setG hq (good_isRow (mem_setG hr hg))))) u2⟩
theorem words2_done (L : List (List Int)) : isRow 112 1 (L.map fun l => (l, (none : Option Value))).length ((L.map fun l => (l, (none : Option Value))).map wordT2) = wordsT L := by
  rw [List.length_map, List.map_map]; rfl
def doneR (r : RgV) : RgS := ⟨r, none, .new (r.words.map fun l => (l, none)), none⟩
theorem doneR_T (r : RgV) : rgT2 (doneR r) = rgT r := by
  have e : wsT r (doneR r).ow = wordsT r.words := words2_done r.words
  simp only [rgT2, rgT, doneR] at e ⊢
  rw [e]
theorem rgs2_done {L : List RgS} (hL : L.length = m.rgs.length) (h1 : ∀ (j : Nat) (p : RgS), L[j]? = some p → ∃ r, m.rgs[j]? = some r ∧ p = doneR r) : rgsT2 L = rgsT m.rgs := by
  have e : L = m.rgs.map doneR := by
    apply List.ext_getElem?
    intro j
    rcases Nat.lt_or_ge j L.length with hj | hj
    · obtain ⟨r, a, b⟩ := h1 j _ (List.getElem?_eq_getElem hj)
      rw [List.getElem?_map, a, List.getElem?_eq_getElem hj, Option.map_some, b]
    · rw [List.getElem?_eq_none hj, List.getElem?_eq_none (by simpa using (by omega : m.rgs.length ≤ j))]
  subst e
  rw [rgsT2, rgsT, List.length_map, List.flatMap_map]
  congr 1
  exact congrArg (fun f => m.rgs.flatMap f) (funext doneR_T)
end
end Go.Proofs.Yteapggpkgfiacaa

namespace Go.Proofs.Yteapggpkgfiacaa
open Go Ev Go.RowKit
set_option linter.unusedSimpArgs false
set_option linter.unusedVariables false
set_option maxRecDepth 10000

section
variable {W w w1 : World} {g g3 : Nat} {m : MdV} {F : Fp}
theorem good_ws2 (L : List (List Int × Option Value)) (h : ∀ p ∈ L, ∀ u, p.2 = some u → u.cells = #[u] ∧ u.oneCell' = true) : ∀ P ∈ L.map wordT2, OwnT P := fun P hP => by
  obtain ⟨p, hp, rfl⟩ := List.mem_map.1 hP
  unfold wordT2
  cases hp2 : p.2 with
  | none => exact good_word _
  | some u => exact good_isV (h p hp u hp2)
set_option maxHeartbeats 4000000 in
theorem l_copy4 {sT hT : Th} {Q : Value → World → Prop} {n i : Nat} {r : RgV} {b c bw cw : Nat} {L0 : List RgS} (hlen : r.words.length ≤ 1000000) (hww : ∀ l ∈ r.words, l.length ≤ 1000000) (hin : (i : Int) + 1 < 1000000000)
    (N : ∀ w F L, CpI W w 72 g3 (mdT2 m sT (rgsT2 L) hT) F → L.length = n → L[i]? = some (doneR r) → (∀ j, j ≠ i → L[j]? = L0[j]?) → P38_2 (.pointer (some ⟨g3, 0, none⟩)) (.int .i64 n) (.int .i64 ((i : Int) + 1)) w Q) :
    ∀ (t kk : Nat) (w : World) (F : Fp) (L : List RgS) (Lw : List (List Int × Option Value)), kk + t = r.words.length → CpI W w 72 g3 (mdT2 m sT (rgsT2 L) hT) F → L.length = n → (∀ Q ∈ L.flatMap rgT2, OwnT Q) → L[i]? = some ⟨r, none, .new Lw, none⟩ → Lw.length = r.words.length → (∀ j, j ≠ i → L[j]? = L0[j]?) →
      (∀ (j : Nat) (p : List Int × Option Value), Lw[j]? = some p → r.words[j]? = some p.1 ∧ (j < kk → p.2 = none) ∧ (kk ≤ j → ∃ u, p.2 = some u ∧ SrcU W p.1 u)) →
      ldC (hp w g3) 8 = some (.slice (some ⟨b, 0, none⟩) n c) → ldC (hp w b) (i * 7 + 5) = some (.slice (some ⟨bw, 0, none⟩) r.words.length cw) →
      P38_4 (.pointer (some ⟨g3, 0, none⟩)) (.pointer (some ⟨b, i * 7, none⟩)) (.int .i64 n) (.int .i64 i) (.slice (some ⟨bw, 0, none⟩) r.words.length cw) (.int .i64 r.words.length) (.int .i64 kk) w Q
  | 0, kk, w, F, L, Lw, hk, C, hL, gL, hLi, hLw, hO, hl, h8, h5 => by
    apply L38_4_ok
    have : ¬ (kk : Int) < r.words.length := by omega
    simp -implicitDefEqProofs only [L38_4, zS, this, bp_add, wrapi (n := (i : Int) + 1) (by omega) (by omega)]
    refine N w F L C hL ?_ hO
    have e : Lw = r.words.map fun l => (l, none) := by
      apply List.ext_getElem?
      intro j
      rcases Nat.lt_or_ge j Lw.length with hj | hj
      · obtain ⟨a, b', _⟩ := hl j _ (List.getElem?_eq_getElem hj)
        rw [List.getElem?_map, a, List.getElem?_eq_getElem hj, Option.map_some]
        exact congrArg some (Prod.ext rfl (b' (by omega)))
      · rw [List.getElem?_eq_none hj, List.getElem?_eq_none (by simpa using (by omega : r.words.length ≤ j))]
    rw [hLi, e]; rfl
  | t + 1, kk, w, F, L, Lw, hk, C, hL, gL, hLi, hLw, hO, hl, h8, h5 => by
    apply L38_4_ok
    have hlt : (kk : Int) < r.words.length := by omega
    obtain ⟨p, hp'⟩ : ∃ p, Lw[kk]? = some p := ⟨_, List.getElem?_eq_getElem (by omega)⟩
    obtain ⟨hm, _, h2⟩ := hl kk p hp'
    obtain ⟨u, hu, hS⟩ := h2 (Nat.le_refl _)
    obtain ⟨l, q⟩ := p
    simp only at hu hm hS
    subst hu
    have gw : ∀ Q ∈ Lw.map wordT2, OwnT Q := good_ws2 Lw fun p hp u hu => by
      obtain ⟨j, hj⟩ := List.getElem?_of_mem hp
      obtain ⟨_, a, b⟩ := hl j p hj
      rcases Nat.lt_or_ge j kk with h | h
      · rw [a h] at hu; cases hu
      · obtain ⟨u', e1, A, c, rfl, _⟩ := b h
        rw [e1] at hu; cases hu
        exact ⟨rfl, rfl⟩
    have Cd := C.keep (Chg.refl [] w).drew
    have hj : (L.flatMap rgT2)[i * 7 + 5]? = some (isRow 112 1 Lw.length (Lw.map wordT2)) := flatM_get (f := rgT2) (z := 7) (fun _ => rfl) L i _ hLi 5 (by omega)
    have hjw : (Lw.map wordT2)[kk]? = some (isV u) := by rw [List.getElem?_map, hp']; rfl
    obtain ⟨b1, c1, bw1, cw1, v, Fk, q8, q5, qv, hvu, nb, ng, hput⟩ := Cd.inner (k := 8) (e' := 98) (z := 7) (n := L.length) (Qs := L.flatMap rgT2) rfl gL hj gw hjw
    rw [hL, show ldC (hp w.drew g3) 8 = _ from h8] at q8
    cases q8
    rw [hLw, show ldC (hp w.drew b) (i * 7 + 5) = _ from h5] at q5
    cases q5
    rw [hvu.1] at qv
    obtain ⟨A, ca, rfl, hR⟩ := hS.keep Cd.chg
    have qv' : ldC (hp w bw) kk = some (.slice A l.length ca) := qv
    have iaw := ia_96 (b := bw) (p := 0) (n := r.words.length) (c := cw) (j := .i64) (i := (kk : Int)) (by omega) (by omega)
    rw [Int.toNat_natCast, Nat.zero_add, Nat.mul_one] at iaw
    simp -implicitDefEqProofs only [L38_4, zS, hlt, iaw, ld_112, qv', fa_98_4, ld_96, h5]
    repeat' (with_reducible apply And.intro)
    all_goals
      refine (c_clU64s hR (by simp [u64s]) (fun x hx => by obtain ⟨k, y, rfl⟩ := u64s_int _ x hx; rfl) (hww l (List.mem_of_getElem? hm))).mono ?_
      rintro v2 w2 ⟨ho, c2⟩
      obtain ⟨A2, cc2, rfl, _, hnew, _⟩ := rdV_of_own ho
      have hT2 : wordT l w2 (fun b => (Value.slice A2 l.length cc2).ownBlock = some b) (.slice A2 l.length cc2) := own_flat ho
      obtain ⟨ok, s1, s2, F1, C1⟩ := hput c2 (fun k hk => by
        cases A2 with
        | none => simp [Value.ownBlock] at hk
        | some p => simp [Value.ownBlock] at hk; rw [← hk]; exact (hnew p rfl).1) (good_word _) hT2
      have h5b := chg_ld c2 (show ldC (hp w.drew b) (i * 7 + 5) = _ from h5)
      have h8b := chg_ld c2 (show ldC (hp w.drew g3) 8 = _ from h8)
      try simp -implicitDefEqProofs only [zS, fa_98_4, ld_96, h5b, iaw]
      try simp -implicitDefEqProofs only [zS, iaw]
      rw [st_112 (o := kk) s1 s2 ok]
      apply L38_5_ok
      simp -implicitDefEqProofs only [L38_5, zS, bp_add, wrapi (n := (kk : Int) + 1) (by omega) (by omega)]
      have ew : (Lw.map wordT2).set kk (wordT l) = (Lw.set kk (l, none)).map wordT2 := by rw [List.map_set]; rfl
      have ew2 : isRow 112 1 Lw.length ((Lw.set kk (l, none)).map wordT2) = wsT r (.new (Lw.set kk (l, none))) := by simp only [wsT, List.length_set]
      have eset : (L.flatMap rgT2).set (i * 7 + 5) (wsT r (.new (Lw.set kk (l, none)))) = (L.set i ⟨r, none, .new (Lw.set kk (l, none)), none⟩).flatMap rgT2 := flatM_setP (f := rgT2) (z := 7) (fun _ => rfl) (by omega) (x' := ⟨r, none, .new (Lw.set kk (l, none)), none⟩) rfl hLi
      have e2 : isRow 98 7 L.length ((L.set i ⟨r, none, .new (Lw.set kk (l, none)), none⟩).flatMap rgT2) = rgsT2 (L.set i ⟨r, none, .new (Lw.set kk (l, none)), none⟩) := by rw [rgsT2, List.length_set]
      rw [ew, ew2, eset, e2, mdT2_r] at C1
      have hil := (List.getElem?_eq_some_iff.1 hLi).1
      have := l_copy4 hlen hww hin N t (kk + 1) _ F1 (L.set i ⟨r, none, .new (Lw.set kk (l, none)), none⟩) (Lw.set kk (l, none)) (by omega) C1 (by rw [List.length_set]; exact hL) (by rw [← eset]; exact mem_setG gL (by rw [← ew2, ← ew]; exact good_isRow (mem_setG gw (good_word _)))) (by rw [List.getElem?_set, if_pos rfl, if_pos hil]) (by rw [List.length_set]; exact hLw) (fun j hj => by rw [List.getElem?_set, if_neg (fun h => hj h.symm)]; exact hO j hj) (fun j p hp'' => by
        by_cases hij : kk = j
        · subst hij
          rw [List.getElem?_set, if_pos rfl, if_pos (by omega)] at hp''
          cases hp''
          exact ⟨hm, fun _ => rfl, fun h => by omega⟩
        · rw [List.getElem?_set, if_neg hij] at hp''
          obtain ⟨a, b', c'⟩ := hl j p hp''
          exact ⟨a, fun h => b' (by omega), fun h => c' (by omega)⟩) (by rw [put_other ng.symm]; exact h8b) (by rw [put_other nb.symm]; exact h5b)
      rw [Int.natCast_add kk 1] at this
      exact this
end
end Go.Proofs.Yteapggpkgfiacaa

namespace Go.Proofs.Yteapggpkgfiacaa
open Go Ev Go.RowKit
set_option linter.unusedSimpArgs false
set_option linter.unusedVariables false
set_option maxRecDepth 10000

section
variable {W w w1 : World} {g g3 : Nat} {m : MdV} {F : Fp}
def oldR (r : RgV) (u : Value × Value × Value) : RgS := ⟨r, some u.1, .old u.2.1, some u.2.2⟩
theorem good_rg2 (L : List RgS) (h : ∀ p ∈ L, (∃ r, p = doneR r) ∨ ∃ r u, p = oldR r u ∧ SrcR W r u) : ∀ P ∈ L.flatMap rgT2, OwnT P := fun P hP => by
  obtain ⟨p, hp, h1⟩ := List.mem_flatMap.1 hP
  rcases h p hp with ⟨r, rfl⟩ | ⟨r, u, rfl, hS⟩
  · rw [doneR_T] at h1; exact good_rg r P h1
  · obtain ⟨⟨A, c, e1, _⟩, ⟨A', c', vs, e2, _⟩, ⟨A'', c'', e3, _⟩⟩ := hS
    simp only [rgT2, oldR, wsT, List.mem_cons, List.not_mem_nil, or_false] at h1
    rcases h1 with rfl | rfl | rfl | rfl | rfl | rfl | rfl
    · exact good_int _ _
    · exact good_int _ _
    · exact good_int _ _
    · exact good_int _ _
    · exact good_isV (by rw [e1]; exact ⟨rfl, rfl⟩)
    · exact good_isV (by rw [e2]; exact ⟨rfl, rfl⟩)
    · exact good_isV (by rw [e3]; exact ⟨rfl, rfl⟩)
theorem own_new {w1 : World} {e : TypeId} {z n : Nat} {v : Value} {cs : List Value} {base : Nat} (h : w1.ownsRow base e z v n cs) : ∀ k, v.ownBlock = some k → base ≤ k := fun k hk => by
  obtain ⟨A, c, rfl, _, hn, _⟩ := rdV_of_own h
  cases A with
  | none => simp [Value.ownBlock] at hk
  | some p => simp [Value.ownBlock] at hk; rw [← hk]; exact (hn p rfl).1
set_option maxHeartbeats 8000000 in
theorem l_copy2 {K : Nat} (Wm : Wf m K) (hK : K ≤ 1000000) {sT hT : Th} {Q : Value → World → Prop} (N : ∀ w F, CpI W w 72 g3 (mdT2 m sT (rgsT m.rgs) hT) F → Q (.pointer (some ⟨g3, 0, none⟩)) w) :
    ∀ (t i : Nat) (w : World) (F : Fp) (L : List RgS), i + t = m.rgs.length → L.length = m.rgs.length → CpI W w 72 g3 (mdT2 m sT (rgsT2 L) hT) F →
      (∀ (j : Nat) (p : RgS), L[j]? = some p → ∃ r, m.rgs[j]? = some r ∧ (j < i → p = doneR r) ∧ (i ≤ j → ∃ u, p = oldR r u ∧ SrcR W r u)) →
      P38_2 (.pointer (some ⟨g3, 0, none⟩)) (.int .i64 m.rgs.length) (.int .i64 i) w Q
  | 0, i, w, F, L, hi, hL, C, hl => by
    apply L38_2_ok
    have : ¬ (i : Int) < m.rgs.length := by omega
    simp -implicitDefEqProofs only [L38_2, zS, this]
    rw [rgs2_done hL fun j p hp => by
      obtain ⟨r, a, b, _⟩ := hl j p hp
      exact ⟨r, a, b (by have := (List.getElem?_eq_some_iff.1 hp).1; omega)⟩] at C
    exact N w F C
  | t + 1, i, w, F, L, hi, hL, C, hl => by
    apply L38_2_ok
    have hlt : (i : Int) < m.rgs.length := by omega
    have hrl := Wm.rl
    obtain ⟨p, hp'⟩ : ∃ p, L[i]? = some p := ⟨_, List.getElem?_eq_getElem (by omega)⟩
    obtain ⟨r, hm, _, h2⟩ := hl i p hp'
    obtain ⟨u, rfl, hS⟩ := h2 (Nat.le_refl _)
    have gL : ∀ Q ∈ L.flatMap rgT2, OwnT Q := good_rg2 (W := W) L fun p hp => by
      obtain ⟨j, hj⟩ := List.getElem?_of_mem hp
      obtain ⟨r, _, a, b⟩ := hl j p hj
      rcases Nat.lt_or_ge j i with h | h
      · exact .inl ⟨r, a h⟩
      · obtain ⟨u, e, s⟩ := b h
        exact .inr ⟨r, u, e, s⟩
    have cd : Chg [] w w.drew := (Chg.refl _ _).drew
    have Cd := C.keep cd
    obtain ⟨⟨A, ca, e1, R1⟩, ⟨A', ca', vs, e2, hvl, R2, hvs⟩, ⟨A'', ca'', e3, R3⟩⟩ := hS
    obtain ⟨u1, u2, u3⟩ := u
    simp only at e1 e2 e3
    subst e1 e2 e3
    have j1 : (L.flatMap rgT2)[i * 7 + 4]? = some (isV (.slice A r.chunks.length ca)) := flatM_get (f := rgT2) (z := 7) (fun _ => rfl) L i _ hp' 4 (by omega)
    have j2 : (L.flatMap rgT2)[i * 7 + 6]? = some (isV (.slice A'' r.objs.length ca'')) := flatM_get (f := rgT2) (z := 7) (fun _ => rfl) L i _ hp' 6 (by omega)
    have j3 : (L.flatMap rgT2)[i * 7 + 5]? = some (isV (.slice A' r.words.length ca')) := flatM_get (f := rgT2) (z := 7) (fun _ => rfl) L i _ hp' 5 (by omega)
    obtain ⟨b, c, v, Fk, h8, hbg, hv4, hu4, _⟩ := Cd.row (k := 8) (e' := 98) (z := 7) (n := L.length) (Qs := L.flatMap rgT2) rfl gL j1
    obtain ⟨b2, c2, v', Fk', h8b, _, hv6, hu6, _⟩ := Cd.row (k := 8) (e' := 98) (z := 7) (n := L.length) (Qs := L.flatMap rgT2) rfl gL j2
    rw [h8] at h8b; cases h8b
    obtain ⟨b3, c3, v'', Fk'', h8c, _, hv5, hu5, _⟩ := Cd.row (k := 8) (e' := 98) (z := 7) (n := L.length) (Qs := L.flatMap rgT2) rfl gL j3
    rw [h8] at h8c; cases h8c
    rw [hu4.1] at hv4; rw [hu6.1] at hv6; rw [hu5.1] at hv5
    rw [hL] at h8
    have h8' : ldC (hp w g3) (0 + 8) = some (.slice (some ⟨b, 0, none⟩) m.rgs.length c) := h8
    have hv4' : ldC (hp w b) (i * 7 + 4) = some (.slice A r.chunks.length ca) := hv4
    have hv6' : ldC (hp w b) (i * 7 + 6) = some (.slice A'' r.objs.length ca'') := hv6
    have hv5' : ldC (hp w b) (i * 7 + 5) = some (.slice A' r.words.length ca') := hv5
    have ia := ia_69 (b := b) (p := 0) (n := m.rgs.length) (c := c) (j := .i64) (i := (i : Int)) (by omega) (by omega)
    rw [Int.toNat_natCast, Nat.zero_add] at ia
    have hR := Wm.rg r (List.mem_of_getElem? hm)
    have hcl := hR.cl
    have hol := hR.ol
    have hwl := hR.wl
    have W2 := Wm.w2
    simp -implicitDefEqProofs only [L38_2, zS, hlt, fa_72_3, ld_69, h8', ia, fa_98_3, fa_98_4, fa_98_5, ld_36, ld_48, ld_96, hv4', hv5', hv6']
    have fin : ∀ (wA wB wC : World) (v1 v2 v3 : Value), Chg [] w.drew wA → Chg [] wA wB → Chg [] wB wC → wA.ownsRow w.drew.heap.size 3 1 v1 r.chunks.length (ints r.chunks) → wB.ownsRow wA.heap.size 27 5 v2 r.objs.length (r.objs.flatMap hnC) → wC.ownsRow wB.heap.size 112 1 v3 r.words.length vs →
        effu Try.prog (Instr.storeAt 36 (.pointer (some ⟨b, i * 7 + 4, none⟩)) v1) wC fun w => effu Try.prog (Instr.storeAt 48 (.pointer (some ⟨b, i * 7 + 6, none⟩)) v2) w fun w => effu Try.prog (Instr.storeAt 96 (.pointer (some ⟨b, i * 7 + 5, none⟩)) v3) w fun w => P38_3 (.pointer (some ⟨g3, 0, none⟩)) (.pointer (some ⟨b, i * 7, none⟩)) (.int .i64 m.rgs.length) (.int .i64 i) w Q := by
      intro wA wB wC v1 v2 v3 cA cB cC o1 o2 o3
      have t1 : intsT r.chunks wA (fun b => v1.ownBlock = some b) v1 := own_flat o1
      have t2 : objsT r.objs wB (fun b => v2.ownBlock = some b) v2 := own_flat o2
      have ev : (r.words.zip (vs.map some)).map wordT2 = vs.map isV := by
        apply List.ext_getElem?
        intro j
        rcases Nat.lt_or_ge j vs.length with hj | hj
        · have hz : (r.words.zip (vs.map some))[j]? = some (r.words[j]'(by omega), some vs[j]) := by
            rw [List.getElem?_zip_eq_some]
            exact ⟨List.getElem?_eq_getElem (by omega), by rw [List.getElem?_map, List.getElem?_eq_getElem hj]; rfl⟩
          rw [List.getElem?_map, hz, List.getElem?_map, List.getElem?_eq_getElem hj]; rfl
        · rw [List.getElem?_eq_none (by simp; omega), List.getElem?_eq_none (by simpa using hj)]
      have hzl : (r.words.zip (vs.map some)).length = r.words.length := by simp [hvl]
      have vone : ∀ x ∈ vs, x.cells = #[x] ∧ x.oneCell' = true := fun x hx => by
        obtain ⟨j, hj⟩ := List.getElem?_of_mem hx
        have hjl := (List.getElem?_eq_some_iff.1 hj).1
        obtain ⟨_, _, e, _⟩ := hvs j _ x (List.getElem?_eq_getElem (by omega)) hj
        rw [e]; exact ⟨rfl, rfl⟩
      have gv : OwnT (isRow 112 1 r.words.length (vs.map isV)) := good_isRow (good_flat vone)
      have t3 : isRow 112 1 r.words.length (vs.map isV) wC (fun b => v3.ownBlock = some b) v3 := own_flat o3
      obtain ⟨b', c', X, eb, q8, _, _, _, _, hX, hE, ok1, ok2, ok3, F', C'⟩ := Cd.three (k := 8) (e' := 98) (z := 7) (n := L.length) (Qs := L.flatMap rgT2) rfl gL j1 j2 j3 (by omega) (by omega) (by omega) cA cB cC (own_new o1) (own_new o2) (own_new o3) (good_intsT _) (good_objs _) gv t1 t2 t3
      rw [hL, h8] at q8
      cases q8
      have hbl := ldC_lt hv4
      have cAC := (cA.trans cB).trans cC
      have hbC : hp wC b = hp w.drew b := cAC.block b hbl (by simp)
      have szC := cAC.size
      have s1 := (good_intsT _).one t1
      have s2 := (good_objs _).one t2
      have s3 := gv.one t3
      have hp1 : hp (put wC b (X.setIfInBounds (i * 7 + 4) v1) eb) b = some (.cells (X.setIfInBounds (i * 7 + 4) v1) eb) := put_same (by omega) _ _
      have hp2 : hp (put wC b ((X.setIfInBounds (i * 7 + 4) v1).setIfInBounds (i * 7 + 6) v2) eb) b = some (.cells ((X.setIfInBounds (i * 7 + 4) v1).setIfInBounds (i * 7 + 6) v2) eb) := put_same (by omega) _ _
      rw [st_36 (o := i * 7 + 4) s1.1 s1.2 (by rw [hbC]; exact ok1), hbC, hX, hE]
      rw [st_48 (o := i * 7 + 6) s2.1 s2.2 (by rw [hp1]; exact ok2), hp1, getC_some, getE_some, put_put]
      rw [st_96 (o := i * 7 + 5) s3.1 s3.2 (by rw [hp2]; exact ok3), hp2, getC_some, getE_some, put_put]
      have q1 := flatM_setP (f := rgT2) (z := 7) (fun _ => rfl) (k := 4) (p := intsT r.chunks) (by omega) (x := oldR r (.slice A r.chunks.length ca, .slice A' r.words.length ca', .slice A'' r.objs.length ca'')) (x' := ⟨r, none, .old (.slice A' r.words.length ca'), some (.slice A'' r.objs.length ca'')⟩) rfl hp'
      have hil := (List.getElem?_eq_some_iff.1 hp').1
      have q2 := flatM_setP (f := rgT2) (z := 7) (fun _ => rfl) (k := 6) (p := objsT r.objs) (by omega) (x := ⟨r, none, .old (.slice A' r.words.length ca'), some (.slice A'' r.objs.length ca'')⟩) (x' := ⟨r, none, .old (.slice A' r.words.length ca'), none⟩) rfl (show (L.set i ⟨r, none, .old (.slice A' r.words.length ca'), some (.slice A'' r.objs.length ca'')⟩)[i]? = some _ by rw [List.getElem?_set, if_pos rfl, if_pos hil])
      have q3 := flatM_setP (f := rgT2) (z := 7) (fun _ => rfl) (k := 5) (p := wsT r (.new (r.words.zip (vs.map some)))) (by omega) (x := ⟨r, none, .old (.slice A' r.words.length ca'), none⟩) (x' := ⟨r, none, .new (r.words.zip (vs.map some)), none⟩) rfl (show ((L.set i ⟨r, none, .old (.slice A' r.words.length ca'), some (.slice A'' r.objs.length ca'')⟩).set i ⟨r, none, .old (.slice A' r.words.length ca'), none⟩)[i]? = some _ by rw [List.getElem?_set, if_pos rfl, if_pos (by rw [List.length_set]; exact hil)])
      have ew : isRow 112 1 r.words.length (vs.map isV) = wsT r (.new (r.words.zip (vs.map some))) := by simp only [wsT, hzl, ev]
      rw [q1, q2, ew, q3, List.set_set, List.set_set] at C'
      have e2 : isRow 98 7 L.length ((L.set i ⟨r, none, .new (r.words.zip (vs.map some)), none⟩).flatMap rgT2) = rgsT2 (L.set i ⟨r, none, .new (r.words.zip (vs.map some)), none⟩) := by rw [rgsT2, List.length_set]
      rw [e2, mdT2_r] at C'
      have hG := mem_setG (k := i * 7 + 5) (mem_setG (k := i * 7 + 6) (mem_setG (k := i * 7 + 4) gL (good_intsT r.chunks)) (good_objs r.objs)) gv
      rw [q1, q2, ew, q3, List.set_set, List.set_set] at hG
      have hLs : (L.set i ⟨r, none, .new (r.words.zip (vs.map some)), none⟩)[i]? = some ⟨r, none, .new (r.words.zip (vs.map some)), none⟩ := by rw [List.getElem?_set, if_pos rfl, if_pos hil]
      have hLo : ∀ j, j ≠ i → (L.set i ⟨r, none, .new (r.words.zip (vs.map some)), none⟩)[j]? = L[j]? := fun j hj => by rw [List.getElem?_set, if_neg (fun h => hj h.symm)]
      have hLl : (L.set i ⟨r, none, .new (r.words.zip (vs.map some)), none⟩).length = m.rgs.length := by rw [List.length_set]; exact hL
      have again : ∀ (w : World) (F : Fp) (L2 : List RgS), CpI W w 72 g3 (mdT2 m sT (rgsT2 L2) hT) F → L2.length = m.rgs.length → L2[i]? = some (doneR r) → (∀ j, j ≠ i → L2[j]? = L[j]?) → P38_2 (.pointer (some ⟨g3, 0, none⟩)) (.int .i64 m.rgs.length) (.int .i64 ((i : Int) + 1)) w Q := by
        intro w F L2 C2 hl2 hd hO2
        have := l_copy2 Wm hK N t (i + 1) w F L2 (by omega) hl2 C2 fun j p hp => by
          by_cases hij : j = i
          · subst hij
            rw [hd] at hp; cases hp
            exact ⟨r, hm, fun _ => rfl, fun h => by omega⟩
          · rw [hO2 j hij] at hp
            obtain ⟨r', a, b, c⟩ := hl j p hp
            exact ⟨r', a, fun h => b (by omega), fun h => c (by omega)⟩
        rw [Int.natCast_add i 1] at this
        exact this
      have hp3 : ∀ Y, hp (put wC b Y eb) b = some (.cells Y eb) := fun Y => put_same (by omega) _ _
      have h5f : ldC (hp (put wC b (((X.setIfInBounds (i * 7 + 4) v1).setIfInBounds (i * 7 + 6) v2).setIfInBounds (i * 7 + 5) v3) eb) b) (i * 7 + 5) = some v3 := by
        rw [okC_some, decide_eq_true_eq] at ok3
        rw [hp3, ldC_some, Array.getElem?_setIfInBounds_self_of_lt (by omega)]
      have h8f : ldC (hp (put wC b (((X.setIfInBounds (i * 7 + 4) v1).setIfInBounds (i * 7 + 6) v2).setIfInBounds (i * 7 + 5) v3) eb) g3) 8 = some (.slice (some ⟨b, 0, none⟩) m.rgs.length c) := by
        rw [put_other hbg.symm]; exact chg_ld cAC h8
      apply L38_3_ok
      rcases o3.2 with ⟨e3, h0⟩ | ⟨gw, cap, cur, e3, _⟩
      · have hw0 : r.words = [] := List.length_eq_zero_iff.1 h0
        rw [e3] at h5f ⊢
        rw [e3] at C'
        simp -implicitDefEqProofs only [L38_3, zS, fa_98_4, ld_96, h5f, len_96]
        apply L38_4_ok
        simp -implicitDefEqProofs only [L38_4, zS, bp_add, wrapi (n := (i : Int) + 1) (by omega) (by omega), Int.lt_irrefl, show ¬ ((0 : Int) < ((0 : Nat) : Int)) by decide]
        refine again _ F' _ C' hLl ?_ hLo
        rw [hLs]
        simp only [doneR, hw0, List.zip_nil_left, List.map_nil]
      · rw [e3] at h5f h8f C' ⊢
        simp -implicitDefEqProofs only [L38_3, zS, fa_98_4, ld_96, h5f, len_96]
        refine l_copy4 (L0 := L) (by omega) (fun l hl => by have := hR.ww l hl; omega) (by omega) again r.words.length 0 _ F' _ _ (by omega) C' hLl hG hLs hzl hLo (fun j p hp => ?_) h8f h5f
        rw [List.getElem?_zip_eq_some] at hp
        rw [List.getElem?_map] at hp
        obtain ⟨a, b⟩ := hp
        obtain ⟨u, hu, e⟩ := Option.map_eq_some_iff.1 b
        exact ⟨a, fun h => absurd h (by omega), fun _ => ⟨u, e.symm, hvs j _ u a hu⟩⟩
    repeat'  (with_reducible apply And.intro)
    all_goals
      refine (c_clInts (R1.keep Cd.chg.below) (by simp [ints]) (fun x hx => by obtain ⟨k, y, rfl⟩ := ints_int _ x hx; rfl) (by omega)).mono ?_
      rintro v1 wA ⟨o1, cA⟩
      have a5 := chg_ld cA (show ldC (hp w.drew b) (i * 7 + 5) = _ from hv5)
      have a6 := chg_ld cA (show ldC (hp w.drew b) (i * 7 + 6) = _ from hv6)
      try simp -implicitDefEqProofs only [zS, ld_48, ld_96, a5, a6]
      refine (c_clHandles (R3.keep (Cd.chg.trans cA).below) (flat_len hnC_len r.objs) (fun x hx => by obtain ⟨k, y, rfl⟩ := hnC_int _ x hx; rfl) (by omega)).mono ?_
      rintro v2 wB ⟨o2, cB⟩
      have b5 := chg_ld cB a5
      try simp -implicitDefEqProofs only [zS, ld_96, b5]
      refine (c_clWords (R2.keep ((Cd.chg.trans cA).trans cB).below) (by omega) (fun x hx => by
        obtain ⟨j, hj⟩ := List.getElem?_of_mem hx
        have hjl := (List.getElem?_eq_some_iff.1 hj).1
        obtain ⟨_, _, e, _⟩ := hvs j _ x (List.getElem?_eq_getElem (by omega)) hj
        rw [e]; rfl) (by omega)).mono ?_
      rintro v3 wC ⟨o3, cC⟩
      try simp -implicitDefEqProofs only [zS, fa_98_3, fa_98_4, fa_98_5]
      exact fin wA wB wC v1 v2 v3 cA cB cC o1 o2 o3
end
end Go.Proofs.Yteapggpkgfiacaa

namespace Go.Proofs.Yteapggpkgfiacaa
open Go Ev Go.RowKit
set_option linter.unusedSimpArgs false
set_option linter.unusedVariables false
set_option maxRecDepth 10000

section
variable {w : World} {g : Nat} {m : MdV} {F : Fp}
theorem hd2_eq (L : List HdV) (us : List Value) : (L.zip (us.map some)).flatMap hdT2 = ((L.zip us).flatMap fun p => [Value.int .i64 p.1.depth, p.2]).map isV := by
  rw [List.zip_map_right, List.flatMap_map, List.map_flatMap]; rfl
theorem rg2_eq (L : List RgV) (us : List (Value × Value × Value)) : ((L.zip us).map fun p => oldR p.1 p.2).flatMap rgT2 = ((L.zip us).flatMap rgC2).map isV := by
  rw [List.flatMap_map, List.map_flatMap]; rfl
set_option maxHeartbeats 4000000 in
theorem c_mCopy {K : Nat} (I : MdI w g m F) (Wm : Wf m K) (hK : K ≤ 1000000) (hn : m.hands.length ≤ 1000000) :
    CallR Try.prog 38 [.pointer (some ⟨g, 0, none⟩)] w fun v w' => ∃ g3 F', v = .pointer (some ⟨g3, 0, none⟩) ∧ MdI w' g3 m F' ∧ (∀ k, F' k → w.heap.size ≤ k) ∧ Chg [] w w' := by
  apply F38_ok
  obtain ⟨sv, rv, hv, R⟩ := I.rd
  obtain ⟨sv', rv', hv', xs, h1, hxl, hx1, _, _, _, hfirst⟩ := cp_first I
  have hsl := Wm.sl
  have hrl := Wm.rl
  have W2 := Wm.w2
  have ldm : ldv Try.prog 72 (.pointer (some ⟨g, 0, none⟩)) w = some (.agg xs.toArray) := ldv_whole (t := 72) ag_72 (by rw [sz_72]; simp [hxl]) h1
  simp -implicitDefEqProofs only [F38, nilv_some, wpB_some', ldm, al_72]
  generalize hwa : w.alloc _ = wa
  have ca : Chg [] w wa := by rw [← hwa]; exact (Chg.refl _ _).alloc _
  obtain ⟨z, ha, hz⟩ : ∃ z : Array Value, hp wa w.heap.size = some (.cells z 72) ∧ z.size = 10 := by rw [← hwa, alloc_heap, if_pos rfl]; exact ⟨_, rfl, rfl⟩
  clear hwa
  rw [st_72 (by simp [hxl]) hx1 (by rw [ha, okC_some]; exact decide_eq_true (by omega)) (by rw [ha]; exact hz), ha, getE_some]
  have c1 : Chg [] w (put wa w.heap.size xs.toArray 72) := ca.put (.inr (Nat.le_refl _)) _ _
  have C0 := hfirst c1 (Nat.le_refl _) (put_same (blk_lt ha) _ _)
  generalize put wa w.heap.size xs.toArray 72 = w1 at *
  generalize hg3 : w.heap.size = g3 at C0 ⊢
  have R1 := R.keep C0.chg
  simp -implicitDefEqProofs only [nilv_some, wpB_some', fa_72_2, ld_68, R1.sl]
  obtain ⟨Fs, tS⟩ := R1.sT
  obtain ⟨oS, _⟩ := flat_own tS
  obtain ⟨As, cS, rfl, rS, _, _⟩ := rdV_of_own oS
  refine (c_clSlot rS (flat_len (z := 2) (fun _ => rfl) m.slots) (fun x hx => by obtain ⟨k, y, rfl⟩ := nmC_int _ x hx; rfl) hsl).mono ?_
  rintro v2 w2 ⟨o2, c2⟩
  obtain ⟨ok2, a2, b2, F2, C2⟩ := C0.cell (k := 7) (P := isV sv') rfl (P' := slotsT m.slots) c2 (own_new o2) (good_slots _) (own_flat o2)
  simp -implicitDefEqProofs only [nilv_some, wpB_some', fa_72_2, fa_72_4]
  rw [st_68 (o := 0 + 7) a2 b2 ok2]
  rw [mdT2_s] at C2
  change CpI w (put w2 g3 ((getC (hp w2 g3)).setIfInBounds (0 + 7) v2) (getE (hp w2 g3))) _ _ _ _ at C2
  generalize put w2 g3 ((getC (hp w2 g3)).setIfInBounds (0 + 7) v2) (getE (hp w2 g3)) = w3 at *
  have R2 := R.keep C2.chg
  simp -implicitDefEqProofs only [nilv_some, wpB_some', fa_72_4, ld_70, R2.hl]
  obtain ⟨Fh, tH⟩ := R.hT
  obtain ⟨Ah, cH, us, rfl, hul, hus, rH⟩ := src_hands tH
  have hzl : ((m.hands.zip us).flatMap fun p => [Value.int .i64 p.1.depth, p.2]).length = m.hands.length * 2 := by
    rw [flat_len (z := 2) (fun p => rfl)]; simp [hul]
  refine (c_clHand (rH.keep C2.chg.below) hzl (fun x hx => ?_) hn).mono ?_
  · obtain ⟨p, hp, hx⟩ := List.mem_flatMap.1 hx
    simp only [List.mem_cons, List.not_mem_nil, or_false] at hx
    rcases hx with rfl | rfl
    · rfl
    · obtain ⟨i, hi⟩ := List.getElem?_of_mem hp
      rw [List.getElem?_zip_eq_some] at hi
      obtain ⟨A, c, e, _⟩ := hus i _ _ hi.1 hi.2
      rw [e]; rfl
  rintro v4 w4 ⟨o4, c4⟩
  have t4 : handsT2 (m.hands.zip (us.map some)) w4 (fun b => v4.ownBlock = some b) v4 := by
    have e := own_flat o4
    rw [← hd2_eq] at e
    have el : (m.hands.zip (us.map some)).length = m.hands.length := by simp [hul]
    unfold handsT2
    rw [el]; exact e
  have gh : OwnT (handsT2 (m.hands.zip (us.map some))) := good_isRow (good_hd2 _ fun p hp u hu => by
    obtain ⟨i, hi⟩ := List.getElem?_of_mem hp
    rw [List.getElem?_zip_eq_some, List.getElem?_map] at hi
    obtain ⟨u', hu', e⟩ := Option.map_eq_some_iff.1 hi.2
    rw [hu] at e; cases e
    obtain ⟨A, c, e, _⟩ := hus i _ _ hi.1 hu'
    rw [e]; exact ⟨rfl, rfl⟩)
  obtain ⟨ok4, a4, b4, F4, C4⟩ := C2.cell (k := 9) (P := isV hv') rfl (P' := handsT2 (m.hands.zip (us.map some))) c4 (own_new o4) gh t4
  rw [st_70 (o := 0 + 9) a4 b4 ok4]
  rw [mdT2_h] at C4
  change CpI w (put w4 g3 ((getC (hp w4 g3)).setIfInBounds (0 + 9) v4) (getE (hp w4 g3))) _ _ _ _ at C4
  obtain ⟨v9, F9, _, _, l9, t9, _⟩ := isAt.repl C4.I C4.good (k := 9) (P := handsT2 (m.hands.zip (us.map some))) rfl
  obtain ⟨A9, c9, xs9, Fs9, e9, _⟩ := isRow.rd t9
  have el : (m.hands.zip (us.map some)).length = m.hands.length := by simp [hul]
  rw [el] at e9
  subst e9
  generalize put w4 g3 ((getC (hp w4 g3)).setIfInBounds (0 + 9) v4) (getE (hp w4 g3)) = w5 at *
  have l9' : ldC (hp w5 g3) (0 + 9) = some (.slice A9 m.hands.length c9) := l9
  simp -implicitDefEqProofs only [nilv_some, wpB_some', fa_72_4, ld_70, l9', len_70]
  refine l_copy0 Wm hK hn (fun w6 F6 C6 => ?_) m.hands.length 0 w5 F4 (m.hands.zip (us.map some)) (by omega) el C4 (fun j p hp => ?_)
  case refine_2 =>
    rw [List.getElem?_zip_eq_some, List.getElem?_map] at hp
    obtain ⟨u', hu', e⟩ := Option.map_eq_some_iff.1 hp.2
    exact ⟨hp.1, fun h => absurd h (by omega), fun _ => ⟨u', e.symm, hus j _ _ hp.1 hu'⟩⟩
  apply L38_0_ok
  have R6 := R.keep C6.chg
  simp -implicitDefEqProofs only [L38_0, zS, Int.lt_irrefl, fa_72_3, ld_69, R6.rl]
  obtain ⟨Fr, tR⟩ := R.rT
  obtain ⟨Ar, cR, ur, rfl, hrl2, hur, rR⟩ := src_rgs tR
  have hzr : ((m.rgs.zip ur).flatMap rgC2).length = m.rgs.length * 7 := by
    rw [flat_len (z := 7) (fun p => rfl)]; simp [hrl2]
  refine (c_clRegion (rR.keep C6.chg.below) hzr (fun x hx => ?_) (by omega)).mono ?_
  · obtain ⟨p, hp, hx⟩ := List.mem_flatMap.1 hx
    obtain ⟨i, hi⟩ := List.getElem?_of_mem hp
    rw [List.getElem?_zip_eq_some] at hi
    obtain ⟨⟨A, c, e1, _⟩, ⟨A', c', vs, e2, _⟩, ⟨A'', c'', e3, _⟩⟩ := hur i _ _ hi.1 hi.2
    simp only [rgC2, List.mem_cons, List.not_mem_nil, or_false] at hx
    rcases hx with rfl | rfl | rfl | rfl | rfl | rfl | rfl
    · rfl
    · rfl
    · rfl
    · rfl
    · rw [e1]; rfl
    · rw [e2]; rfl
    · rw [e3]; rfl
  rintro v7 w7 ⟨o7, c7⟩
  have hl7 : ((m.rgs.zip ur).map fun p => oldR p.1 p.2).length = m.rgs.length := by simp [hrl2]
  have t7 : rgsT2 ((m.rgs.zip ur).map fun p => oldR p.1 p.2) w7 (fun b => v7.ownBlock = some b) v7 := by
    have e := own_flat o7
    rw [← rg2_eq] at e
    unfold rgsT2
    rw [hl7]; exact e
  have hsrc : ∀ (j : Nat) (p : RgS), ((m.rgs.zip ur).map fun p => oldR p.1 p.2)[j]? = some p → ∃ r u, m.rgs[j]? = some r ∧ p = oldR r u ∧ SrcR w r u := fun j p hp => by
    rw [List.getElem?_map] at hp
    obtain ⟨q, hq, rfl⟩ := Option.map_eq_some_iff.1 hp
    rw [List.getElem?_zip_eq_some] at hq
    exact ⟨q.1, q.2, hq.1, rfl, hur j _ _ hq.1 hq.2⟩
  have gr : OwnT (rgsT2 ((m.rgs.zip ur).map fun p => oldR p.1 p.2)) := good_isRow (good_rg2 (W := w) _ fun p hp => by
    obtain ⟨i, hi⟩ := List.getElem?_of_mem hp
    obtain ⟨r, u, _, e, s⟩ := hsrc i p hi
    exact .inr ⟨r, u, e, s⟩)
  obtain ⟨ok7, a7, b7, F7, C7⟩ := C6.cell (k := 8) (P := isV rv') rfl (P' := rgsT2 ((m.rgs.zip ur).map fun p => oldR p.1 p.2)) c7 (own_new o7) gr t7
  rw [st_69 (o := 0 + 8) a7 b7 ok7]
  rw [mdT2_r] at C7
  change CpI w (put w7 g3 ((getC (hp w7 g3)).setIfInBounds (0 + 8) v7) (getE (hp w7 g3))) _ _ _ _ at C7
  obtain ⟨v8, F8, _, _, l8, t8, _⟩ := isAt.repl C7.I C7.good (k := 8) (P := rgsT2 ((m.rgs.zip ur).map fun p => oldR p.1 p.2)) rfl
  obtain ⟨A8, c8, xs8, Fs8, e8, _⟩ := isRow.rd t8
  rw [hl7] at e8
  subst e8
  generalize put w7 g3 ((getC (hp w7 g3)).setIfInBounds (0 + 8) v7) (getE (hp w7 g3)) = w8 at *
  have l8' : ldC (hp w8 g3) (0 + 8) = some (.slice A8 m.rgs.length c8) := l8
  simp -implicitDefEqProofs only [nilv_some, wpB_some', fa_72_3, ld_69, l8', len_69]
  refine l_copy2 Wm hK (fun w9 F9 C9 => ⟨g3, F9, rfl, (mdT2_full m ▸ C9.I : isAt 72 g3 (mdT m) w9 F9), fun k hk => hg3 ▸ C9.new k hk, C9.chg⟩) m.rgs.length 0 w8 F7 _ (by omega) hl7 C7 (fun j p hp => ?_)
  obtain ⟨r, u, e1, e2, e3⟩ := hsrc j p hp
  exact ⟨r, e1, fun h => absurd h (by omega), fun _ => ⟨u, e2, e3⟩⟩
end
end Go.Proofs.Yteapggpkgfiacaa

namespace Go.Proofs.Yteapggpkgfiacaa
open Go Ev Go.RowKit
set_option linter.unusedSimpArgs false
set_option linter.unusedVariables false
set_option maxRecDepth 10000

/-- how many are not put -/
def leftN (l : List SpV) (put : List Int) : Nat := (List.range l.length).countP fun i : Nat => !put.contains (i : Int)
theorem countP_lt {p q : Nat → Bool} : ∀ {L : List Nat}, (∀ x ∈ L, q x = true → p x = true) → (∃ x ∈ L, p x = true ∧ q x = false) → L.countP q < L.countP p
  | [], _, ⟨x, hx, _⟩ => by cases hx
  | y :: L, h, hex => by
    rw [List.countP_cons, List.countP_cons]
    have hle : L.countP q ≤ L.countP p := List.countP_mono_left fun x hx => h x (List.mem_cons_of_mem _ hx)
    by_cases hy : p y = true ∧ q y = false
    · rw [if_pos hy.1, hy.2]; simp only [Bool.false_eq_true, if_false]; omega
    · obtain ⟨x, hx, h1, h2⟩ := hex
      rcases List.mem_cons.1 hx with rfl | hx
      · exact absurd ⟨h1, h2⟩ hy
      · have := countP_lt (L := L) (fun x hx => h x (List.mem_cons_of_mem _ hx)) ⟨x, hx, h1, h2⟩
        have := h y (by simp)
        by_cases hq : q y = true
        · rw [if_pos hq, if_pos (this hq)]; omega
        · rw [if_neg hq]; split <;> omega
theorem leftN_lt {l : List SpV} {put : List Int} {i : Nat} (hi : i < l.length) (hn : nextV l put i = true) : leftN l (put ++ [(i : Int)]) < leftN l put := by
  have hc : put.contains (i : Int) = false := by
    unfold nextV at hn
    simp only [Bool.and_eq_true, Bool.not_eq_true'] at hn
    exact hn.2
  refine countP_lt (p := fun x : Nat => !put.contains (x : Int)) (q := fun x : Nat => !(put ++ [(i : Int)]).contains (x : Int)) (fun x _ hx => ?_) ⟨i, List.mem_range.2 hi, ?_, ?_⟩
  · cases h : put.contains (x : Int) with
    | false => rfl
    | true =>
      have : (put ++ [(i : Int)]).contains (x : Int) = true := List.contains_iff_mem.2 (List.mem_append_left _ (List.contains_iff_mem.1 h))
      simp only [this] at hx
      cases hx
  · simp only [hc]; rfl
  · have : (put ++ [(i : Int)]).contains (i : Int) = true := List.contains_iff_mem.2 (by simp)
    simp only [this]; rfl
theorem goV_t {rec : MdV → List Int → Int → SkO} {l : List SpV} {top : Int} {m : MdV} {put : List Int} (hr : ∀ m p t, t ≤ (rec m p t).2.2.1) : ∀ {is : List Nat} {t : Int}, t ≤ (goV rec l top m put is t).2.2.1
  | [], t => Int.le_refl _
  | i :: is, t => by
    unfold goV
    split
    · exact goV_t hr
    · cases hl : l[i]? with
      | none => exact Int.le_refl _
      | some s =>
        simp only
        cases hre : resV l m s with
        | none => exact goV_t hr
        | some r =>
          simp only
          split
          · exact Int.le_refl _
          · split
            · exact Int.le_trans (by omega) (goV_t (t := t + 1) hr)
            · have h1 := hr (doV m s.wk s.op (handV l s) r).2 (put ++ [(i : Int)]) (t + 1)
              generalize rec (doV m s.wk s.op (handV l s) r).2 (put ++ [(i : Int)]) (t + 1) = R at *
              obtain ⟨b, p', t', mn⟩ := R
              simp only at h1
              cases b with
              | true => simp only; omega
              | false =>
                cases mn with
                | true => simp only; omega
                | false => exact Int.le_trans (by omega) (goV_t (t := t') hr)
theorem findV_t {l : List SpV} {top : Int} : ∀ {f : Nat} {m : MdV} {p : List Int} {t : Int}, t ≤ (findV l top f m p t).2.2.1
  | 0, m, p, t => Int.le_refl _
  | f + 1, m, p, t => by
    unfold findV
    split
    · exact Int.le_refl _
    · exact goV_t fun m p t => findV_t
def Gs (sk : Nat) (pv : Value) : Fp := fun k => k = sk ∨ pv.ownBlock = some k
structure SkI (W w : World) (sk : Nat) (A Ah : Option Addr) (cs ch : Nat) (l : List SpV) (pv : Value) (put : List Int) (t top : Int) (mn : Bool) : Prop where
  chg : ChgP (· = sk) W w
  h : hp w sk = some (.cells (skA A Ah l.length cs ch pv t top mn) 50)
  own : w.ownsRow W.heap.size 3 1 pv put.length (ints put)
/-- what does not change: the spans, the handles -/
structure SkB (W : World) (sk : Nat) (A Ah : Option Addr) (l : List SpV) : Prop where
  lt : sk < W.heap.size
  rs : RdV W A (l.flatMap spC)
  ns : ∀ p, A = some p → l ≠ [] → p.block ≠ sk
  rh : RdV W Ah ((l.map (handV l)).flatMap hnC)
  nh : ∀ p, Ah = some p → l ≠ [] → p.block ≠ sk
section
variable {W w w' : World} {sk : Nat} {A Ah : Option Addr} {cs ch : Nat} {l : List SpV} {pv pv' : Value} {put : List Int} {t top : Int} {mn : Bool}
theorem SkI.keep (S : SkI W w sk A Ah cs ch l pv put t top mn) (hc : Chg [] w w') : SkI W w' sk A Ah cs ch l pv put t top mn :=
  ⟨⟨hc.os.trans S.chg.os, hc.tape.trans S.chg.tape, hc.output.trans S.chg.output, Nat.le_trans S.chg.size hc.size, fun k hk hn => (hc.block k (Nat.lt_of_lt_of_le hk S.chg.size) (by simp)).trans (S.chg.block k hk hn)⟩, hc.at S.h (by simp), ownsRow_chg S.own hc fun k hk => by simp⟩
theorem SkI.rs (S : SkI W w sk A Ah cs ch l pv put t top mn) (B : SkB W sk A Ah l) : RdV w A (l.flatMap spC) := rd_chgP B.rs S.chg fun p hp hn => B.ns p hp fun h => hn (by rw [h]; rfl)
theorem SkI.rh (S : SkI W w sk A Ah cs ch l pv put t top mn) (B : SkB W sk A Ah l) : RdV w Ah ((l.map (handV l)).flatMap hnC) := rd_chgP B.rh S.chg fun p hp hn => B.nh p hp fun h => hn (by rw [h]; rfl)
theorem SkI.li (S : SkI W w sk A Ah cs ch l pv put t top mn) : SlI w pv put := SlI.of_own S.own
/-- a cell of the seeker is written -/
theorem SkI.set (S : SkI W w sk A Ah cs ch l pv put t top mn) {put' : List Int} {t' : Int} {mn' : Bool} (hne : ∀ k, pv.ownBlock = some k → k ≠ sk) (ho : w.ownsRow W.heap.size 3 1 pv' put'.length (ints put')) (hne' : ∀ k, pv'.ownBlock = some k → k ≠ sk) :
    SkI W (Ev.put w sk (skA A Ah l.length cs ch pv' t' top mn') 50) sk A Ah cs ch l pv' put' t' top mn' := by
  have hcp := ChgP.put w sk (skA A Ah l.length cs ch pv' t' top mn') 50
  refine ⟨⟨S.chg.os, S.chg.tape, S.chg.output, Nat.le_trans S.chg.size hcp.size, fun k hk hn => (hcp.block k (Nat.lt_of_lt_of_le hk S.chg.size) hn).trans (S.chg.block k hk hn)⟩, put_same (blk_lt S.h) _ _, ?_⟩
  exact hcp.row ho hne'
theorem hn_at {L : List HnV} {c i : Nat} (h : RdV w A (L.flatMap hnC)) (hi : i < L.length) : ∃ b o, pureRun Try.prog (Instr.indexAt 48 (.slice A L.length c) (.int .i64 i)) = some (.pointer (some ⟨b, o, none⟩)) ∧ ldv Try.prog 27 (.pointer (some ⟨b, o, none⟩)) w = some (.agg (hnC L[i]).toArray) := by
  obtain ⟨b, o, h1, h2, h3, _⟩ := h.elem (P := Try.prog) (c := c) (n := L.length) (i := (i : Int)) (j := .i64) Try.underlying48 sz_27 (by omega) (by rw [flat_len hnC_len]; exact Nat.le_refl _) (by omega) (by omega)
  rw [Int.toNat_natCast, flat_at hnC_len L i hi] at h3
  exact ⟨b, o, h1, by rw [ld_27, h3]; rfl⟩
end
end Go.Proofs.Yteapggpkgfiacaa

namespace Go.Proofs.Yteapggpkgfiacaa
open Go Ev Go.RowKit
set_option linter.unusedSimpArgs false
set_option linter.unusedVariables false
set_option maxRecDepth 10000

theorem setWord_cO (m : MdV) (h : HnV) (n y : Int) : (setWordV m h n y).c = m.c := by
  unfold setWordV
  repeat' split
  all_goals rfl
theorem does_cO (m : MdV) (w : Int) (o : OpV) (h : HnV) : (doesV m w o h).c = m.c := by
  unfold doesV
  repeat' split
  all_goals first | rfl | exact setWord_cO _ _ _ _
theorem creates_cO (m : MdV) (x : Int) (r : RsV) : (createsV m x r).2.c = m.c := by
  unfold createsV
  repeat' split
  all_goals rfl
theorem gives_cO (m : MdV) (x : Int) (h : HnV) (r : RsV) : (givesV m x h r).2.c = m.c := by
  unfold givesV
  split
  · rfl
  split
  · rfl
  · dsimp only
    split
    · rfl
    split
    · rfl
    split
    · rfl
    · rfl
theorem do_cO (m : MdV) (w : Int) (o : OpV) (h : HnV) (r : RsV) : (doV m w o h r).2.c = m.c := by
  unfold doV
  split
  · rfl
  split
  · split
    · dsimp only
      split
      · exact does_cO _ _ _ _
      · rfl
    · rfl
  split
  · exact creates_cO _ _ _
  · exact gives_cO _ _ _ _
/-- a model of a configuration -/
structure StO (m : MdV) (c : CfV) (K : Nat) : Prop where
  wf : Wf m K
  wn : Wn m K
  mc : m.c = c
theorem StO.doV {m : MdV} {c : CfV} {K : Nat} (s : StO m c K) (hK : K ≤ 1000) (w : Int) (o : OpV) (h : HnV) (r : RsV) : StO (doV m w o h r).2 c (K + 1) := ⟨s.wf.doV w o h r, s.wn.doV (by omega) w o h r, (do_cO m w o h r).trans s.mc⟩
theorem StO.hands {m : MdV} {c : CfV} {K : Nat} (s : StO m c K) (hc : mayC c = true) : m.hands.length ≤ 1000000 := by
  have h1 := s.wn.cw
  rw [s.mc] at h1
  simp only [mayC, Bool.and_eq_true, decide_eq_true_eq] at hc
  omega
section
variable {W : World} {sk : Nat} {A Ah : Option Addr} {cs ch : Nat} {l : List SpV} {top : Int}
theorem SkI.nsk {w : World} {pv : Value} {put : List Int} {t : Int} {mn : Bool} (S : SkI W w sk A Ah cs ch l pv put t top mn) (B : SkB W sk A Ah l) : ∀ k, pv.ownBlock = some k → k ≠ sk := fun k hk => by
  have := own_ge S.own hk
  have := B.lt
  omega
theorem upd_md {w w' : World} {g : Nat} {m : MdV} {F G G' : Fp} (I : MdI w g m F) (hd : FDis F G) (u : UpdP G G' w w') : MdI w' g m F ∧ FDis F G' :=
  ⟨isAt.frame I (good_md _) u.chg hd, fun k h1 h2 => by
    rcases u.sub k h2 with h3 | h3
    · exact hd k h1 h3
    · have := isAt.lt I (good_md _) k h1; omega⟩
/-- what a part of the search leaves -/
def SkP (W : World) (sk : Nat) (A Ah : Option Addr) (cs ch : Nat) (l : List SpV) (top : Int) (w0 : World) (pv0 : Value) (r : SkO) (v : Value) (w' : World) : Prop :=
  ∃ pv', v = .bool r.1 ∧ SkI W w' sk A Ah cs ch l pv' r.2.1 r.2.2.1 top r.2.2.2 ∧ UpdP (Gs sk pv0) (Gs sk pv') w0 w'
/-- the search, with so much left -/
def FindC (W : World) (sk : Nat) (A Ah : Option Addr) (cs ch : Nat) (l : List SpV) (top : Int) (c : CfV) (f : Nat) : Prop := ∀ (m : MdV) (g : Nat) (F : Fp) (K : Nat) (put : List Int) (t : Int) (pv : Value) (w : World),
  SkI W w sk A Ah cs ch l pv put t top false → MdI w g m F → FDis F (Gs sk pv) → StO m c K → K + f ≤ 900 → put.length + f ≤ 900 → 0 ≤ t → leftN l put < f →
  CallR Try.prog 18 [.pointer (some ⟨sk, 0, none⟩), .pointer (some ⟨g, 0, none⟩)] w (SkP W sk A Ah cs ch l top w pv (findV l top f m put t))
theorem own_lt {w : World} {base : Nat} {e : TypeId} {z : Nat} {v : Value} {n : Nat} {xs : List Value} (h : w.ownsRow base e z v n xs) {k : Nat} (hk : v.ownBlock = some k) : k < w.heap.size := by
  rcases h.2 with ⟨rfl, _⟩ | ⟨g, cap, cur, rfl, hbg, hg, _⟩
  · cases hk
  · cases hk; exact blk_lt (o := _) hg
theorem UpdP.setSk {w : World} {pv : Value} (c : Array Value) (e : TypeId) : UpdP (Gs sk pv) (Gs sk pv) w (Ev.put w sk c e) :=
  ⟨(ChgP.put w sk c e).mono fun k hk => .inl hk, fun k hk => .inl hk⟩
theorem ld_rs {w : World} {r : RsV} {g : Nat} {e : TypeId} (hb : hp w g = some (.cells (rsC r).toArray e)) : ldv Try.prog 32 (.pointer (some ⟨g, 0, none⟩)) w = some (.agg (rsC r).toArray) := ldv_whole (t := 32) (c := (rsC r).toArray) ag_32 (show (Try.prog.info? 32).map (·.size) = some (rsC r).toArray.size from sz_32) hb
theorem own_shrink {w : World} {base n : Nat} {e : TypeId} {v : Value} {xs : List Int} {x : Int} (h : w.ownsRow base e 1 v (n + 1) (ints (xs ++ [x]))) (hn : n = xs.length) :
    ∃ g c, v = .slice (some ⟨g, 0, none⟩) (n + 1) c ∧ n ≤ c ∧ w.ownsRow base e 1 (.slice (some ⟨g, 0, none⟩) n c) n (ints xs) := by
  rcases h.2 with ⟨rfl, h0⟩ | ⟨g, cap, cur, rfl, hbg, hg, hnc, hcm, hcs, htake⟩
  · omega
  · refine ⟨g, cap, rfl, by omega, ⟨by simp [ints, hn], .inr ⟨g, cap, cur, rfl, hbg, hg, by omega, hcm, hcs, ?_⟩⟩⟩
    have := congrArg (List.take n) htake
    rw [List.take_take] at this
    rw [Nat.mul_one, Nat.min_eq_left (by omega)] at this
    rw [Nat.mul_one, this, hn]
    simp [ints]
def zRsA : Array Value := #[.int .i64 0, .int .i64 0, .int .i64 0, .int .i64 0, .int .i64 0, .int .i64 0, .int .i64 0, .int .u64 0]
theorem skA_5 {n : Nat} {pv : Value} {t : Int} {mn x : Bool} : (skA A Ah n cs ch pv t top mn).setIfInBounds (0 + 5) (.bool x) = skA A Ah n cs ch pv t top x := rfl
theorem skA_3 {n : Nat} {pv : Value} {t x : Int} {mn : Bool} : (skA A Ah n cs ch pv t top mn).setIfInBounds (0 + 3) (.int .i64 x) = skA A Ah n cs ch pv x top mn := rfl
theorem skA_2 {n : Nat} {pv x : Value} {t : Int} {mn : Bool} : (skA A Ah n cs ch pv t top mn).setIfInBounds (0 + 2) x = skA A Ah n cs ch x t top mn := rfl
set_option maxHeartbeats 4000000 in
theorem l_sgo (B : SkB W sk A Ah l) (hl : l.length ≤ 12) (htop : top ≤ 9223372036854775807) {c : CfV} (hc : mayC c = true) {f : Nat} (rec : FindC W sk A Ah cs ch l top c f) {m : MdV} {g : Nat} {F : Fp} {K : Nat} {put : List Int} (Sm : StO m c K) (hK : K + f ≤ 899) (hp9 : put.length + f ≤ 899) (hleft : leftN l put ≤ f) {w0 : World} {pv0 : Value} :
    ∀ (d i : Nat) (t : Int) (pv : Value) (w : World), SkI W w sk A Ah cs ch l pv put t top false → MdI w g m F → FDis F (Gs sk pv) → UpdP (Gs sk pv0) (Gs sk pv) w0 w → 0 ≤ t → i + d = l.length →
    P18_0 (.pointer (some ⟨sk, 0, none⟩)) (.pointer (some ⟨g, 0, none⟩)) (.slice A l.length cs) (.int .i64 l.length) (.int .i64 i) w (SkP W sk A Ah cs ch l top w0 pv0 (goV (findV l top f) l top m put (List.range' i d) t)) := by
  intro d
  induction d with
  | zero =>
    intro i t pv w S I hF hU ht hi
    apply L18_0_ok
    have : ¬ ((i : Int) < l.length) := by omega
    simp -implicitDefEqProofs only [L18_0, zS, this]
    exact ⟨pv, rfl, S, hU⟩
  | succ d ih =>
    intro i t pv w S I hF hU ht hi
    apply L18_0_ok
    have hlt : (i : Int) < l.length := by omega
    have hil : i < l.length := by omega
    obtain ⟨b, o, q1, q2⟩ := sp_at' (c := cs) (j := .i64) (i := i) (S.rs B) hil
    simp -implicitDefEqProofs only [L18_0, zS, hlt, q1, q2.ld, al_34]
    rw [st_34 (by rfl) (by rfl) (by rw [alloc_heap, if_pos rfl]; rfl) (by rw [alloc_heap, if_pos rfl]; rfl), alloc_heap, if_pos rfl, getE_some]
    generalize hw1 : Ev.put (w.alloc _) w.heap.size (spA l[i]) 34 = w1
    have c1 : Chg [] w w1 := by rw [← hw1]; exact ((Chg.refl _ _).alloc _).put (.inr (Nat.le_refl _)) _ _
    have b6 : hp w1 w.heap.size = some (.cells (spA l[i]) 34) := by rw [← hw1, put_heap, if_pos rfl, if_pos (by simp)]
    clear hw1
    have skl : sk < w.heap.size := blk_lt S.h
    have pvl : ∀ k, pv.ownBlock = some k → k < w.heap.size := fun k hk => own_lt S.own hk
    generalize hg6 : w.heap.size = g6 at *
    -- the next one
    have next : ∀ (t' : Int) (pv' : Value) (w' : World), SkI W w' sk A Ah cs ch l pv' put t' top false → MdI w' g m F → FDis F (Gs sk pv') → UpdP (Gs sk pv0) (Gs sk pv') w0 w' → 0 ≤ t' →
        P18_1 (.pointer (some ⟨sk, 0, none⟩)) (.pointer (some ⟨g, 0, none⟩)) (.slice A l.length cs) (.int .i64 l.length) (.int .i64 i) w' (SkP W sk A Ah cs ch l top w0 pv0 (goV (findV l top f) l top m put (List.range' (i + 1) d) t')) := by
      intro t' pv' w' S' I' hF' hU' ht'
      apply L18_1_ok
      simp -implicitDefEqProofs only [L18_1, bp_add, wrapi (n := (i : Int) + 1) (by omega) (by omega), zS]
      exact ih (i + 1) t' pv' w' S' I' hF' hU' ht' (by omega)
    have S1 := S.keep c1
    have I1 := I.keep c1
    have U1 := hU.trans (UpdP.of0 c1)
    refine (c_sMay (by omega) (S1.rs B) (by omega) S1.h S1.li hil).mono ?_
    rintro _ w2 ⟨rfl, c2⟩
    have S2 := S1.keep c2
    have I2 := I1.keep c2
    have U2 := U1.trans (UpdP.of0 c2)
    have b62 := c2.at b6 (by simp)
    have hrange : List.range' i (d + 1) = i :: List.range' (i + 1) d := rfl
    rw [hrange]
    cases hn : nextV l put i with
    | false =>
      simp -implicitDefEqProofs only [zS]
      have : goV (findV l top f) l top m put (i :: List.range' (i + 1) d) t = goV (findV l top f) l top m put (List.range' (i + 1) d) t := by
        rw [goV, if_pos hn]
      rw [this]
      exact next t pv w2 S2 I2 hF U2 ht
    | true =>
    have hgo : goV (findV l top f) l top m put (i :: List.range' (i + 1) d) t = (match resV l m l[i] with
      | none => goV (findV l top f) l top m put (List.range' (i + 1) d) t
      | some r =>
        if top ≤ t then (false, put, t, true) else
        if (doV m l[i].wk l[i].op (handV l l[i]) r).1 = false then goV (findV l top f) l top m put (List.range' (i + 1) d) (t + 1) else
        match findV l top f (doV m l[i].wk l[i].op (handV l l[i]) r).2 (put ++ [(i : Int)]) (t + 1) with
        | (true, p', t', mn) => (true, p', t', mn)
        | (false, p', t', true) => (false, p', t', true)
        | (false, p', t', false) => goV (findV l top f) l top m put (List.range' (i + 1) d) t') := by
      rw [goV, if_neg (by rw [hn]; simp), List.getElem?_eq_getElem hil]
      all_goals rfl
    rw [hgo]
    clear hgo
    generalize hs : l[i] = s at *
    have hhl : i < (l.map (handV l)).length := by rw [List.length_map]; exact hil
    have hhi : (l.map (handV l))[i] = handV l s := by rw [List.getElem_map, hs]
    simp -implicitDefEqProofs only [zS, fa_34_7, At.ldre b62, al_32]
    rw [st_res (c := _) (e := 32) (by rw [alloc_heap, if_pos rfl]) rfl]
    generalize hw3 : Ev.put (w2.alloc _) w2.heap.size (rsC s.re).toArray 32 = w3
    have c3 : Chg [] w2 w3 := by rw [← hw3]; exact ((Chg.refl _ _).alloc _).put (.inr (Nat.le_refl _)) _ _
    have b7 : hp w3 w2.heap.size = some (.cells (rsC s.re).toArray 32) := by rw [← hw3, put_heap, if_pos rfl, if_pos (by simp)]
    clear hw3
    have hg67 : g6 < w2.heap.size := blk_lt b62
    generalize hg7 : w2.heap.size = g7 at *
    have b63 := c3.at b62 (by simp)
    have S3 := S2.keep c3
    have I3 := I2.keep c3
    have U3 := U2.trans (UpdP.of0 c3)
    -- with the answer that must be, or was given
    have tryit : ∀ (r : RsV) (w4 : World), Chg [] w2 w4 → hp w4 g7 = some (.cells (rsC r).toArray 32) →
        P18_3 (.pointer (some ⟨sk, 0, none⟩)) (.pointer (some ⟨g, 0, none⟩)) (.int .i64 i) (.pointer (some ⟨g6, 0, none⟩)) (.pointer (some ⟨g7, 0, none⟩)) (.slice A l.length cs) (.int .i64 l.length) (.int .i64 i) w4 (SkP W sk A Ah cs ch l top w0 pv0 (
        if top ≤ t then (false, put, t, true) else
        if (doV m s.wk s.op (handV l s) r).1 = false then goV (findV l top f) l top m put (List.range' (i + 1) d) (t + 1) else
        match findV l top f (doV m s.wk s.op (handV l s) r).2 (put ++ [(i : Int)]) (t + 1) with
        | (true, p', t', mn) => (true, p', t', mn)
        | (false, p', t', true) => (false, p', t', true)
        | (false, p', t', false) => goV (findV l top f) l top m put (List.range' (i + 1) d) t')) := by
      intro r w4 c24 b74
      apply L18_3_ok
      have S4 := (S2.keep c24).keep (Chg.refl [] w4).drew
      have I4 := (I2.keep c24).keep (Chg.refl [] w4).drew
      have U4 := U2.trans (UpdP.of0 (c24.trans (Chg.refl [] w4).drew))
      have b64 : hp w4.drew g6 = some (.cells (spA s) 34) := c24.at b62 (by simp)
      have b74 : hp w4.drew g7 = some (.cells (rsC r).toArray 32) := b74
      have h4 : hp w4 sk = some (.cells (skA A Ah l.length cs ch pv t top false) 50) := S4.h
      have lt4 : sk < w4.drew.heap.size := blk_lt S4.h
      have ok : ∀ k, k < 6 → okC (hp w4.drew sk) (0 + k + 1) = true := fun k hk => by rw [S4.h, okC_some]; exact decide_eq_true (by show 0 + k + 1 ≤ 6; omega)
      simp -implicitDefEqProofs only [L18_3, nilv_some, zS, fa_50_3, fa_50_4, fa_50_5, ld_3, hp_drew, sk3 h4, sk4 h4, bp_geq]
      by_cases hto : top ≤ t
      · simp -implicitDefEqProofs only [zS, hto]
        rw [effu_store1 sz_4 rfl rfl (ok 5 (by omega)), S4.h]
        simp -implicitDefEqProofs only [getC_some, getE_some, skA_5, if_true]
        exact ⟨pv, rfl, S4.set (S4.nsk B) S4.own (S4.nsk B), U4.trans (UpdP.setSk _ _)⟩
      simp -implicitDefEqProofs only [zS, hto, bp_add, wrapi (n := t + 1) (by omega) (by omega)]
      rw [effu_store1 sz_3 rfl rfl (ok 3 (by omega)), S4.h]
      simp -implicitDefEqProofs only [getC_some, getE_some, skA_3, if_false]
      have S5 := S4.set (put' := put) (t' := t + 1) (mn' := false) (S4.nsk B) S4.own (S4.nsk B)
      have u5 := UpdP.setSk (w := w4.drew) (sk := sk) (pv := pv) (skA A Ah l.length cs ch pv (t + 1) top false) 50
      obtain ⟨I5, _⟩ := upd_md I4 hF u5
      have U5 := U4.trans u5
      have nG : ∀ k, g6 ≤ k → ¬ Gs sk pv k := fun k hk h => by
        rcases h with h | h
        · omega
        · have := pvl k h; omega
      have b65 := u5.chg.at b64 (nG g6 (Nat.le_refl _))
      have b75 := u5.chg.at b74 (nG g7 (by omega))
      generalize Ev.put w4.drew sk (skA A Ah l.length cs ch pv (t + 1) top false) 50 = w5 at *
      refine (c_mCopy I5 Sm.wf (by omega) (Sm.hands hc)).mono ?_
      rintro _ w6 ⟨g3, F3, rfl, I6, hF3, c6⟩
      have c6d := c6.trans (Chg.refl [] w6).drew
      have S6 := S5.keep c6d
      have b66 := c6d.at b65 (by simp)
      have b76 := c6d.at b75 (by simp)
      obtain ⟨bh, oh, p1, p2⟩ := hn_at (c := ch) (S6.rh B) hhl
      rw [List.length_map] at p1
      rw [hhi] at p2
      have h6 : hp w6 sk = some (.cells (skA A Ah l.length cs ch pv (t + 1) top false) 50) := S6.h
      have f60 : ldC (hp w6 g6) (0 + 0) = some (.int .i64 s.wk) := sp_c (w := w6) b66 0
      simp -implicitDefEqProofs only [nilv_some, zS, fa_50_1, fa_34_0, fa_34_2, ld_3, ld_48, hp_drew, f60, (at_blk b66).ldop, sk1 h6, p1, p2, ld_rs b76]
      refine (c_mDo (I6.keep (Chg.refl [] w6).drew) Sm.wf (by omega) _ _ _ _).mono ?_
      rintro _ w7 ⟨rfl, F4, I7, u7⟩
      have c57 : Chg [] w5 w7 := chg_updP c6d u7 hF3
      have hF4 : ∀ k, F4 k → w5.heap.size ≤ k := updP_new c6d u7 hF3
      have S7 := S5.keep c57
      have I7m := I5.keep c57
      have U7 := U5.trans (UpdP.of0 c57)
      cases hdo : (doV m s.wk s.op (handV l s) r).1 with
      | false =>
        simp -implicitDefEqProofs only [zS, if_true]
        exact next (t + 1) pv w7 S7 I7m hF U7 (by omega)
      | true =>
      have h7 := S7.h
      simp -implicitDefEqProofs only [zS, nilv_some, fa_50_2, ld_36, sk2 h7, if_false, Bool.true_eq_false]
      refine ps_36 (by simp) S7.own (by omega) S7.chg.size fun pv8 w8 o8 g8 n8 => ?_
      have c8 : Chg (blk pv) w7 w8 := (Chg.refl _ _).grown g8 fun k hk => .inl (by simpa using hk)
      have h8 : hp w8 sk = some (.cells (skA A Ah l.length cs ch pv (t + 1) top false) 50) := c8.at h7 fun hm => (S7.nsk B) sk (by simpa using hm) rfl
      have u8 : UpdP (Gs sk pv) (Gs sk pv8) w7 w8 := ⟨(ChgP.of c8).mono fun k hk => .inr (by simpa using hk), fun k hk => by
        rcases hk with hk | hk
        · exact .inl (.inl hk)
        · rcases n8 k hk with h | h
          · exact .inl (.inr h)
          · exact .inr h⟩
      have nsk8 : ∀ k, pv8.ownBlock = some k → k ≠ sk := fun k hk => by have := own_ge o8 hk; have := B.lt; omega
      have ok8 : okC (hp w8 sk) (0 + 2 + 1) = true := by rw [h8, okC_some]; exact decide_eq_true (by show 0 + 2 + 1 ≤ 6; omega)
      have hpv8 : pv8.cells = #[pv8] ∧ pv8.oneCell' = true := by
        obtain ⟨A8, c8', rfl, _⟩ := rdV_of_own o8
        exact ⟨rfl, rfl⟩
      rw [effu_store1 sz_36 hpv8.1 hpv8.2 ok8, h8]
      simp -implicitDefEqProofs only [getC_some, getE_some, skA_2]
      have S8 : SkI W w8 sk A Ah cs ch l pv put (t + 1) top false → True := fun _ => trivial
      have cp9 := ChgP.put w8 sk (skA A Ah l.length cs ch pv8 (t + 1) top false) 50
      have u9 : UpdP (Gs sk pv8) (Gs sk pv8) w8 (Ev.put w8 sk (skA A Ah l.length cs ch pv8 (t + 1) top false) 50) := UpdP.setSk _ _
      have S9 : SkI W (Ev.put w8 sk (skA A Ah l.length cs ch pv8 (t + 1) top false) 50) sk A Ah cs ch l pv8 (put ++ [(i : Int)]) (t + 1) top false := by
        refine ⟨⟨cp9.os.trans (c8.os.trans S7.chg.os), cp9.tape.trans (c8.tape.trans S7.chg.tape), cp9.output.trans (c8.output.trans S7.chg.output), Nat.le_trans S7.chg.size (Nat.le_trans c8.size cp9.size), fun k hk hn => ?_⟩, put_same (blk_lt h8) _ _, ?_⟩
        · rw [cp9.block k (Nat.lt_of_lt_of_le hk (Nat.le_trans S7.chg.size c8.size)) hn, c8.block k (Nat.lt_of_lt_of_le hk S7.chg.size) fun hm => by have := own_ge S7.own (k := k) (by simpa using hm); omega]
          exact S7.chg.block k hk hn
        · refine cp9.row ?_ nsk8
          rw [List.length_append]
          simpa [ints] using o8
      generalize Ev.put w8 sk (skA A Ah l.length cs ch pv8 (t + 1) top false) 50 = w9 at *
      have u79 := u8.trans u9
      obtain ⟨I9m, hF9⟩ := upd_md I7m hF u79
      have dis4 : FDis F4 (Gs sk pv) := fun k h1 h2 => by
        have := hF4 k h1
        rcases h2 with h2 | h2
        · have := blk_lt S5.h; omega
        · have := own_lt S5.own h2; omega
      obtain ⟨I9n, hF9n⟩ := upd_md I7 dis4 u79
      have hlf := leftN_lt hil hn
      refine (rec _ g3 F4 (K + 1) (put ++ [(i : Int)]) (t + 1) pv8 w9 S9 I9n hF9n (Sm.doV (by omega) _ _ _ _) (by omega) (by simp; omega) (by omega) (by omega)).mono ?_
      rintro v w10 ⟨pv10, rfl, S10, u10⟩
      have ht' := findV_t (l := l) (top := top) (f := f) (m := (doV m s.wk s.op (handV l s) r).2) (p := put ++ [(i : Int)]) (t := t + 1)
      have hput := findV_put (l := l) (top := top) (f := f) (m := (doV m s.wk s.op (handV l s) r).2) (put := put ++ [(i : Int)]) (t := t + 1)
      have U10 := (U7.trans u79).trans u10
      generalize findV l top f (doV m s.wk s.op (handV l s) r).2 (put ++ [(i : Int)]) (t + 1) = R at *
      obtain ⟨bb, p', t', mn'⟩ := R
      simp only at S10 ht' hput
      cases bb with
      | true =>
        simp -implicitDefEqProofs only [zS]
        exact ⟨pv10, rfl, S10, U10⟩
      | false =>
      have h10 := S10.h
      simp -implicitDefEqProofs only [zS, nilv_some, fa_50_5, ld_4, sk5 h10]
      cases mn' with
      | true =>
        simp -implicitDefEqProofs only [zS]
        exact ⟨pv10, rfl, S10, U10⟩
      | false =>
      obtain rfl := hput rfl rfl
      have o10 := S10.own
      rw [List.length_append] at o10
      obtain ⟨g10, c10, rfl, hle10, o11⟩ := own_shrink (n := put.length) o10 rfl
      have hd10 : Chg [] w10 w10.drew := (Chg.refl _ _).drew
      have S10d := S10.keep hd10
      have h10d : hp w10.drew sk = some (.cells (skA A Ah l.length cs ch (.slice (some ⟨g10, 0, none⟩) (put.length + 1) c10) t' top false) 50) := h10
      have e1 : (((put.length + 1 : Nat) : Int) - 1) = ((put.length : Nat) : Int) := by omega
      have okd : okC (hp w10.drew sk) (0 + 2 + 1) = true := by rw [h10d, okC_some]; exact decide_eq_true (by show 0 + 2 + 1 ≤ 6; omega)
      have hsl := pr_slice_h (P := Try.prog) (t := 36) (A := some ⟨g10, 0, none⟩) (n := put.length + 1) (c := c10) (k := .i64) (l := ((put.length : Nat) : Int)) Try.underlying36 sz_3 (by omega) (by omega)
      rw [Int.toNat_natCast] at hsl
      simp -implicitDefEqProofs only [zS, nilv_some, fa_50_2, ld_36, hp_drew, sk2 h10, len_36, bp_sub, e1, wrapi (n := ((put.length : Nat) : Int)) (by omega) (by omega), hsl]
      rw [effu_store1 sz_36 rfl rfl okd, h10d]
      simp -implicitDefEqProofs only [getC_some, getE_some, skA_2]
      have S11 := S10d.set (pv' := .slice (some ⟨g10, 0, none⟩) put.length c10) (put' := put) (t' := t') (mn' := false) (S10d.nsk B) (ownsRow_drew o11) (fun k hk => S10d.nsk B k hk)
      have u11 : UpdP (Gs sk (.slice (some ⟨g10, 0, none⟩) (put.length + 1) c10)) (Gs sk (.slice (some ⟨g10, 0, none⟩) put.length c10)) w10 (Ev.put w10.drew sk (skA A Ah l.length cs ch (.slice (some ⟨g10, 0, none⟩) put.length c10) t' top false) 50) :=
        (UpdP.of0 hd10).trans (UpdP.setSk (pv := .slice (some ⟨g10, 0, none⟩) put.length c10) _ _)
      obtain ⟨I10m, hF10⟩ := upd_md I9m hF9 u10
      obtain ⟨I11m, hF11⟩ := upd_md I10m hF10 u11
      exact next t' _ _ S11 I11m hF11 (U10.trans u11) (by omega)
    have f11 : ldC (hp w3 g6) (0 + 11) = some (.int .i64 s.rs) := sp_c b63 11
    have f9 : ldC (hp w3 g6) (0 + 9) = some (.int .i64 s.pt) := sp_c b63 9
    have f0 : ldC (hp w3 g6) (0 + 0) = some (.int .i64 s.wk) := sp_c b63 0
    by_cases h1 : s.rs < 0
    case neg =>
      have hr : resV l m s = some s.re := by rw [resV, if_neg (fun h => h1 h.1)]
      rw [hr]
      simp -implicitDefEqProofs only [zS, fa_34_6, ld_3, f11, h1]
      exact tryit s.re w3 c3 b7
    by_cases h2 : s.pt < 0
    case neg =>
      have hr : resV l m s = some s.re := by rw [resV, if_neg (fun h => h2 h.2)]
      rw [hr]
      simp -implicitDefEqProofs only [zS, fa_34_4, fa_34_6, ld_3, f11, f9, h1, h2]
      exact tryit s.re w3 c3 b7
    have hr : resV l m s = if (mustV m s.wk s.op (handV l s)).2 = true then some (mustV m s.wk s.op (handV l s)).1 else none := by rw [resV, if_pos ⟨h1, h2⟩]
    rw [hr]
    have hlt7 : g7 < w3.heap.size := blk_lt b7
    have must : ∀ (w5 : World) (g8 : Nat), Chg [] w3 w5 → hp w5 g8 = some (.cells (rsC (mustV m s.wk s.op (handV l s)).1).toArray 32) → w3.heap.size ≤ g8 →
        P18_2 (.pointer (some ⟨sk, 0, none⟩)) (.pointer (some ⟨g, 0, none⟩)) (.int .i64 i) (.pointer (some ⟨g6, 0, none⟩)) (.pointer (some ⟨g7, 0, none⟩)) (.pointer (some ⟨g8, 0, none⟩)) (.bool (mustV m s.wk s.op (handV l s)).2) (.slice A l.length cs) (.int .i64 l.length) (.int .i64 i) w5 (SkP W sk A Ah cs ch l top w0 pv0 (
        match (if (mustV m s.wk s.op (handV l s)).2 = true then some (mustV m s.wk s.op (handV l s)).1 else none) with
        | none => goV (findV l top f) l top m put (List.range' (i + 1) d) t
        | some r =>
          if top ≤ t then (false, put, t, true) else
          if (doV m s.wk s.op (handV l s) r).1 = false then goV (findV l top f) l top m put (List.range' (i + 1) d) (t + 1) else
          match findV l top f (doV m s.wk s.op (handV l s) r).2 (put ++ [(i : Int)]) (t + 1) with
          | (true, p', t', mn) => (true, p', t', mn)
          | (false, p', t', true) => (false, p', t', true)
          | (false, p', t', false) => goV (findV l top f) l top m put (List.range' (i + 1) d) t')) := by
      intro w5 g8 c5 b8 hg8
      apply L18_2_ok
      cases hm2 : (mustV m s.wk s.op (handV l s)).2 with
      | false =>
        simp -implicitDefEqProofs only [L18_2, zS, if_false, Bool.false_eq_true]
        exact next t pv w5 (S3.keep c5) (I3.keep c5) hF (U3.trans (UpdP.of0 c5)) ht
      | true =>
        have b75 := c5.at b7 (by simp)
        simp -implicitDefEqProofs only [L18_2, zS, ld_rs b8, st_res b75 rfl, if_true]
        refine tryit _ _ ?_ (put_same (blk_lt b75) _ _)
        exact (c3.trans c5).put (.inr (by omega)) _ _
    obtain ⟨bh, oh, p1, p2⟩ := hn_at (c := ch) (S3.rh B) hhl
    rw [List.length_map] at p1
    rw [hhi] at p2
    have hd : Chg [] w3 w3.drew := (Chg.refl _ _).drew
    have p2d : ldv Try.prog 27 (.pointer (some ⟨bh, oh, none⟩)) w3.drew = some (.agg (hnC (handV l s)).toArray) := p2
    have h3 := S3.h
    have opd : ldv Try.prog 29 (.pointer (some ⟨g6, 0 + 2, none⟩)) w3.drew = some (.agg (opC s.op).toArray) := (at_blk b63).ldop
    simp -implicitDefEqProofs only [zS, fa_34_0, fa_34_2, fa_34_4, fa_34_6, ld_3, hp_drew, f11, f9, f0, h1, h2, nilv_some, fa_50_1, ld_48, sk1 h3, p1, p2d, opd, al_32]
    constructor
    · have cA : Chg [] w3 (w3.drew.alloc (.cells zRsA 32)) := hd.alloc _
      refine (c_mMust (I3.keep cA) Sm.wf (by omega) _ _ _).mono ?_
      rintro _ w5 ⟨rfl, c5⟩
      have b8 : hp w5 w3.drew.heap.size = some (.cells zRsA 32) := c5.at (by rw [alloc_heap, if_pos rfl]) (by simp)
      simp -implicitDefEqProofs only [tup0, tup1, wpB_some']
      rw [st_res b8 rfl]
      exact must _ _ ((cA.trans c5).put (.inr (Nat.le_refl _)) _ _) (put_same (blk_lt b8) _ _) (Nat.le_refl _)
    · refine (c_mMust (I3.keep hd) Sm.wf (by omega) _ _ _).mono ?_
      rintro _ w5 ⟨rfl, c5⟩
      simp -implicitDefEqProofs only [tup0, tup1, wpB_some']
      have cB := hd.trans c5
      have b8 : hp (w5.alloc (.cells zRsA 32)) w5.heap.size = some (.cells zRsA 32) := by rw [alloc_heap, if_pos rfl]
      rw [show (#[.int .i64 0, .int .i64 0, .int .i64 0, .int .i64 0, .int .i64 0, .int .i64 0, .int .i64 0, .int .u64 0] : Array Value) = zRsA from rfl, st_res b8 rfl]
      exact must _ _ ((cB.alloc _).put (.inr cB.size) _ _) (put_same (blk_lt b8) _ _) cB.size
/-- the search -/
theorem c_sfind (B : SkB W sk A Ah l) (hl : l.length ≤ 12) (htop : top ≤ 9223372036854775807) {c : CfV} (hc : mayC c = true) : ∀ f : Nat, f ≤ 800 → FindC W sk A Ah cs ch l top c f
  | 0, _, m, g, F, K, put, t, pv, w, _, _, _, _, _, _, _, hlt => absurd hlt (by omega)
  | f + 1, hf, m, g, F, K, put, t, pv, w, S, I, hF, Sm, hK, hp9, ht, hlt => by
    apply F18_ok
    simp -implicitDefEqProofs only [F18]
    refine (c_sOver (by omega) (S.rs B) (by omega) S.h S.li).mono ?_
    rintro _ w1 ⟨rfl, c1⟩
    have S1 := S.keep c1
    have h1 := S1.h
    unfold findV
    cases ho : overV l put with
    | true =>
      simp -implicitDefEqProofs only [zS, if_true]
      exact ⟨pv, rfl, S1, UpdP.of0 c1⟩
    | false =>
      simp -implicitDefEqProofs only [zS, nilv_some, fa_50_0, ld_35, sk0 h1, len_35, if_false, Bool.false_eq_true]
      rw [List.range_eq_range']
      exact l_sgo B hl htop hc (c_sfind B hl htop hc f (by omega)) Sm (by omega) (by omega) (by omega) l.length 0 t pv w1 S1 (I.keep c1) hF (UpdP.of0 c1) ht (by omega)
end
end Go.Proofs.Yteapggpkgfiacaa

namespace Go.Proofs.Yteapggpkgfiacaa
open Go Ev Go.RowKit
set_option linter.unusedSimpArgs false
set_option linter.unusedVariables false
set_option maxRecDepth 10000

theorem pr_max2 {P : Program} {ts : Array TypeId} {t : TypeId} {k : IntKind} {a b : Int} : pureRun P (Builtin.max_ ts t #[.int k a, .int k b]) = some (.int k (if b > a then b else a)) := pureRun_of fun w => by simp [Builtin.max_, Builtin.max2]
theorem rd_lt {w : World} {A : Option Addr} {cs : List Value} (h : RdV w A cs) (hne : cs ≠ []) {p : Addr} (hp : A = some p) : p.block < w.heap.size := by
  cases cs with
  | nil => exact absurd rfl hne
  | cons u cs =>
    obtain ⟨q, hq, hc⟩ := h 0 u rfl
    rw [hp] at hq; cases hq
    have := cell_lt hc
    simpa [Addr.add] using this
def skH (A : Option Addr) (n cs : Nat) (hv : Value) (top : Int) : Array Value := #[.slice A n cs, hv, .slice none 0 0, .int .i64 0, .int .i64 top, .bool false]
theorem skH_1 {A : Option Addr} {n cs : Nat} {hv x : Value} {top : Int} : (skH A n cs hv top).setIfInBounds (0 + 1) x = skH A n cs x top := rfl
def handsTo (l : List SpV) (i : Nat) : List HnV := (l.take i).map (handV l)
theorem handsTo_succ {l : List SpV} {i : Nat} (hi : i < l.length) : handsTo l (i + 1) = handsTo l i ++ [handV l l[i]] := by
  rw [handsTo, List.take_succ_eq_append_getElem hi, List.map_append]; rfl
section
variable {w : World} {A : Option Addr} {cs : Nat} {l : List SpV}
set_option maxHeartbeats 1000000 in
theorem l_sFind {W0 Wb : World} {sk : Nat} (hl : l.length ≤ 12) (hA : RdV W0 A (l.flatMap spC)) (hm : mayB l = true) {c : CfV} (hc : mayC c = true) {g3 : Nat} {most : Int} (hmost : most ≤ 9223372036854775807) (hsk : sk < Wb.heap.size) (hsk0 : W0.heap.size ≤ sk) (h3 : W0.heap.size ≤ g3) (h3s : g3 < sk) (hWb : W0.heap.size ≤ Wb.heap.size) :
    ∀ (d i : Nat) (hv : Value) (w : World), Chg [] W0 w → hp w sk = some (.cells (skH A l.length cs hv (max most 0)) 50) → hp w g3 = some (.cells (cfC c).toArray 25) → Wb.heap.size ≤ w.heap.size →
    w.ownsRow Wb.heap.size 27 5 hv i ((handsTo l i).flatMap hnC) → i + d = l.length →
    P6_0 (.slice A l.length cs) (.pointer (some ⟨g3, 0, none⟩)) (.pointer (some ⟨sk, 0, none⟩)) (.int .i64 l.length) (.int .i64 i) w fun v w' => ∃ pv, v = .tuple #[pv, .int .i64 (findTop c l most).2] ∧ SlI w' pv (findTop c l most).1 ∧ Chg [] W0 w' := by
  intro d
  induction d with
  | zero =>
    intro i hv w hW h h3' hb ho hi
    apply L6_0_ok
    have : ¬ ((i : Int) < l.length) := by omega
    simp -implicitDefEqProofs only [L6_0, zS, this, ld_cf h3']
    have hi' : i = l.length := by omega
    subst hi'
    refine (c_mLoose c w).mono ?_
    rintro v w1 ⟨c1, hv1⟩
    rcases hv1 with ⟨hm', _⟩ | ⟨_, g, F, rfl, I, hF⟩
    · rw [hc] at hm'; cases hm'
    simp -implicitDefEqProofs only [tup0, tup1, zS]
    have h1 := c1.at h (by simp)
    have ho1 := ownsRow_chg ho c1 fun k hk => by simp
    have ht : handsTo l l.length = l.map (handV l) := by rw [handsTo, List.take_length]
    rw [ht] at ho1
    obtain ⟨Ah, ch, rfl, hRh, hBh, _⟩ := rdV_of_own ho1
    have B : SkB w1 sk A Ah l := ⟨blk_lt h1, hA.keep (hW.trans c1).below, fun p hp hne hs => by
        have := rd_lt hA (fun h => hne (by
          cases l with
          | nil => rfl
          | cons a l => simp [spC] at h)) hp
        omega, hRh, fun p hp _ hs => by have := (hBh p hp).1; omega⟩
    have S : SkI w1 w1 sk A Ah cs ch l (.slice none 0 0) [] 0 (max most 0) false := ⟨ChgP.refl _ _, h1, World.ownsRow_nil _ _ _ _⟩
    have hlf : leftN l [] < l.length + 1 := by
      have := List.countP_le_length (p := fun i : Nat => !([] : List Int).contains (i : Int)) (l := List.range l.length)
      rw [List.length_range] at this
      unfold leftN; omega
    refine (c_sfind B hl (by omega) hc (l.length + 1) (by omega) (newM c true) g F 0 [] 0 (.slice none 0 0) w1 S I (fun k h1' h2 => by
      have := hF k h1'
      have hs := blk_lt h
      rcases h2 with h2 | h2
      · omega
      · cases h2) ⟨wf_new hc true, wn_new hc true, rfl⟩ (by omega) (by simp; omega) (by omega) hlf).mono ?_
    rintro v w2 ⟨pv, rfl, S2, u2⟩
    have hW2 : Chg [] W0 w2 := by
      have h01 := hW.trans c1
      refine ⟨u2.chg.os.trans h01.os, u2.chg.tape.trans h01.tape, u2.chg.output.trans h01.output, Nat.le_trans h01.size u2.chg.size, fun k hk hn => ?_⟩
      rw [u2.chg.block k (Nat.lt_of_lt_of_le hk h01.size) fun hg => by
        rcases hg with hg | hg
        · omega
        · cases hg]
      exact h01.block k hk hn
    have hft : findTop c l most = match findV l (max most 0) (l.length + 1) (newM c true) [] 0 with
      | (true, p, _, _) => (p, 0)
      | (false, _, _, true) => ([], 11)
      | (false, _, _, false) => ([], 10) := by rw [findTop, if_pos ⟨hc, hm, hl⟩]; all_goals rfl
    rw [hft]
    clear hft
    generalize findV l (max most 0) (l.length + 1) (newM c true) [] 0 = R at *
    obtain ⟨bb, p', t', mn⟩ := R
    have h2 := S2.h
    cases bb with
    | true =>
      simp -implicitDefEqProofs only [zS, nilv_some, fa_50_2, ld_36, sk2 h2]
      exact ⟨pv, rfl, S2.li, hW2⟩
    | false =>
      simp -implicitDefEqProofs only [zS, nilv_some, fa_50_5, ld_4, sk5 h2]
      have nl : SlI w2 (.slice none 0 0) [] := ⟨none, 0, rfl, fun i hi => absurd hi (by simp)⟩
      cases mn with
      | true =>
        simp -implicitDefEqProofs only [zS]
        exact ⟨_, rfl, nl, hW2⟩
      | false =>
        simp -implicitDefEqProofs only [zS]
        exact ⟨_, rfl, nl, hW2⟩
  | succ d ih =>
    intro i hv w hW h h3' hb ho hi
    apply L6_0_ok
    have hlt : (i : Int) < l.length := by omega
    have hil : i < l.length := by omega
    have hd : Chg [] w w.drew := (Chg.refl _ _).drew
    have h1 : ldC (hp w sk) (0 + 1) = some hv := by rw [h, ldC_some]; rfl
    simp -implicitDefEqProofs only [L6_0, zS, hlt, nilv_some, fa_50_1, ld_48, hp_drew, h1]
    refine callX_chg (R := fun v _ => v = .agg (hnC (handQ l i)).toArray) ((c_oHandle (c := cs) (by omega) (hA.keep (hW.trans hd).below) i).mono fun _ _ h => h) fun v w1 hv1 c1 => ?_
    subst hv1
    have hq : handQ l (i : Int) = handV l l[i] := by rw [handQ, if_pos hm, handX_nat hil]
    rw [hq]
    have c1 := hd.trans c1
    have ho1 := ownsRow_chg ho c1 fun k hk => by simp
    have hh1 := c1.at h (by simp)
    have h31 := c1.at h3' (by simp)
    refine ps_48 (fun u hu => by
      obtain ⟨k, y, rfl⟩ := hnC_int [handV l l[i]] u (by simpa [hnC] using hu); rfl) ho1 (by omega) (Nat.le_trans hb c1.size) fun x' w2 o2 g2 n2 => ?_
    have c2 : Chg (blk hv) w1 w2 := (Chg.refl _ _).grown g2 fun k hk => .inl (by simpa using hk)
    have nb : ∀ k, hv.ownBlock = some k → Wb.heap.size ≤ k := fun k hk => own_ge ho hk
    have hh2 := c2.at hh1 fun hm => by have := nb sk (by simpa using hm); omega
    have h32 := c2.at h31 fun hm => by
      have := nb g3 (by simpa using hm)
      omega
    have okk : okC (hp w2 sk) (0 + 1 + 1) = true := by rw [hh2, okC_some]; exact decide_eq_true (by show 0 + 1 + 1 ≤ 6; omega)
    have hx : x'.cells = #[x'] ∧ x'.oneCell' = true := by
      obtain ⟨A8, c8', rfl, _⟩ := rdV_of_own o2
      exact ⟨rfl, rfl⟩
    rw [effu_store1 sz_48 hx.1 hx.2 okk, hh2]
    simp -implicitDefEqProofs only [getC_some, getE_some, skH_1, zS, bp_add, wrapi (n := (i : Int) + 1) (by omega) (by omega)]
    have hW2 : Chg [] W0 w2 := (hW.trans c1).grown g2 fun k hk => .inr (by have := nb k hk; omega)
    have nx : ∀ k, x'.ownBlock = some k → k ≠ sk := fun k hk => by have := own_ge o2 hk; omega
    refine ih (i + 1) x' _ (hW2.put (.inr hsk0) _ _) (put_same (blk_lt hh2) _ _) ?_ ?_ ?_ (by omega)
    · rw [put_heap, if_neg (by omega)]; exact h32
    · exact Nat.le_trans (Nat.le_trans hb (Nat.le_trans c1.size c2.size)) (ChgP.put w2 sk _ _).size
    · refine (ChgP.put w2 sk _ _).row ?_ nx
      rw [handsTo_succ hil, List.flatMap_append]
      simpa [hnC] using o2
theorem c_Find (hl : l.length ≤ 1000) (hA : RdV w A (l.flatMap spC)) (c : CfV) {most : Int} (hmost : most ≤ 9223372036854775807) : CallR Try.prog 6 [.agg (cfC c).toArray, .slice A l.length cs, .int .i64 most] w fun v w' => ∃ pv, v = .tuple #[pv, .int .i64 (findTop c l most).2] ∧ SlI w' pv (findTop c l most).1 ∧ Chg [] w w' := by
  apply F6_ok
  simp -implicitDefEqProofs only [F6, effv_box, cells_agg]
  generalize hw : w.alloc _ = w1
  have c1 : Chg [] w w1 := by rw [← hw]; exact (Chg.refl _ _).alloc _
  have b2 : hp w1 w.heap.size = some (.cells (cfC c).toArray 25) := by rw [← hw, alloc_heap, if_pos rfl]
  have s1 : w1.heap.size = w.heap.size + 1 := by rw [← hw, alloc_size]
  clear hw
  have nl : ∀ w', SlI w' (.slice none 0 0) [] := fun w' => ⟨none, 0, rfl, fun i hi => absurd hi (by simp)⟩
  simp -implicitDefEqProofs only [ld_cf b2, wpB_some']
  refine (c_layMay c w1).mono ?_
  rintro _ w2 ⟨rfl, c2⟩
  have c02 := c1.trans c2
  cases hc : mayC c with
  | false =>
    have hft : findTop c l most = ([], 1) := by rw [findTop, if_neg (by rw [hc]; simp)]
    rw [hft]
    simp -implicitDefEqProofs only [zS]
    exact ⟨_, rfl, nl _, c02⟩
  | true =>
  simp -implicitDefEqProofs only [zS]
  refine (c_RMay (by omega) ⟨A, cs, rfl, hA.keep c02.below⟩).mono ?_
  rintro _ w3 ⟨rfl, c3⟩
  have c03 := c02.trans c3
  cases hm : mayB l with
  | false =>
    have hft : findTop c l most = ([], 1) := by rw [findTop, if_neg (by rw [hm]; simp)]
    rw [hft]
    simp -implicitDefEqProofs only [zS]
    exact ⟨_, rfl, nl _, c03⟩
  | true =>
  by_cases h12 : (12 : Int) < l.length
  · have hft : findTop c l most = ([], 1) := by rw [findTop, if_neg (by omega)]
    rw [hft]
    simp -implicitDefEqProofs only [zS, len_35, h12]
    exact ⟨_, rfl, nl _, c03⟩
  have hbd : ∀ t : Int, pureRun Try.prog (Instr.build 50 #[(0, .slice A l.length cs), (4, .int .i64 t)]) = some (.agg (skH A l.length cs (.slice none 0 0) t)) := fun t => bd_50_0_4
  have hmx : (if (0 : Int) > most then 0 else most) = max most 0 := by
    by_cases h : (0 : Int) > most
    · rw [if_pos h, Int.max_eq_right (by omega)]
    · rw [if_neg h, Int.max_eq_left (by omega)]
  simp -implicitDefEqProofs only [zS, len_35, h12, pr_max2, hmx, hbd, effv_box, cells_agg]
  generalize hw4 : w3.alloc _ = w4
  have c4 : Chg [] w3 w4 := by rw [← hw4]; exact (Chg.refl _ _).alloc _
  have b4 : hp w4 w3.heap.size = some (.cells (skH A l.length cs (.slice none 0 0) (max most 0)) 50) := by rw [← hw4, alloc_heap, if_pos rfl]
  have s4 : w4.heap.size = w3.heap.size + 1 := by rw [← hw4, alloc_size]
  clear hw4
  have b24 := (c2.trans (c3.trans c4)).at b2 (by simp)
  have := c03.size
  have := (c2.trans c3).size
  exact l_sFind (W0 := w) (Wb := w4) (by omega) hA hm hc hmost (by omega) (by omega) (Nat.le_refl _) (by omega) (by omega) l.length 0 _ w4 (c03.trans c4) b4 b24 (Nat.le_refl _) (World.ownsRow_nil _ _ _ _) (by omega)
end
end Go.Proofs.Yteapggpkgfiacaa

namespace Go.Proofs.Yteapggpkgfiacaa
open Go Ev Go.RowKit
set_option linter.unusedSimpArgs false
set_option linter.unusedVariables false
set_option maxRecDepth 100000

/-- a record that may be, decided -/
def mayLB (l : List SpV) : Bool := (List.range l.length).all fun i => match l[i]? with
  | none => true
  | some s => right s && ((decide (i = 0) || match l[i - 1]? with | some p => decide (p.iv < s.iv) | none => true) && (List.range i).all fun k => match l[k]? with | some a => !clash a s | none => true)
theorem mayLB_ok {l : List SpV} (h : mayLB l = true) : mayL l := fun i hi s hs => by
  have h1 := List.all_eq_true.1 h i (List.mem_range.2 hi)
  rw [hs] at h1
  simp only [Bool.and_eq_true, Bool.or_eq_true, decide_eq_true_eq] at h1
  obtain ⟨a, b, c⟩ := h1
  refine ⟨a, fun p h0 hp => ?_, fun k x hk hx => ?_⟩
  · rcases b with b | b
    · omega
    · rw [hp] at b
      simpa using b
  · have := List.all_eq_true.1 c k (List.mem_range.2 hk)
    rw [hx] at this
    simpa using this
/-- behind an attempt of one -/
def wrapV (put : List Int) : SkO → SkO
  | (true, p', t', mn) => (true, p', t', mn)
  | (false, p', t', true) => (false, p', t', true)
  | (false, _, t', false) => (false, put, t', false)
section
variable {l : List SpV} {top t : Int} {m m' : MdV} {put : List Int} {rec : MdV → List Int → Int → SkO} {a b is js : List Nat} {i f : Nat} {s : SpV} {r : RsV} {h : HnV}
theorem goV_skip : ∀ {is : List Nat}, (is.all fun j => !nextV l put j) = true → goV rec l top m put (is ++ js) t = goV rec l top m put js t
  | [], _ => rfl
  | i :: is, hs => by
    simp only [List.all_cons, Bool.and_eq_true, Bool.not_eq_true'] at hs
    rw [List.cons_append, goV, if_pos hs.1]
    exact goV_skip hs.2
theorem goV_none (hs : (is.all fun j => !nextV l put j) = true) : goV rec l top m put is t = (false, put, t, false) := by
  have := goV_skip (rec := rec) (top := top) (m := m) (t := t) (js := []) hs
  rw [List.append_nil] at this
  rw [this]; rfl
theorem goV_at (hn : nextV l put i = true) (hl : l[i]? = some s) (hr : resV l m s = some r) (hh : handV l s = h) : goV rec l top m put (i :: is) t =
    (if top ≤ t then (false, put, t, true) else
      if (doV m s.wk s.op h r).1 = false then goV rec l top m put is (t + 1) else
      match rec (doV m s.wk s.op h r).2 (put ++ [(i : Int)]) (t + 1) with
      | (true, p', t', mn) => (true, p', t', mn)
      | (false, p', t', true) => (false, p', t', true)
      | (false, p', t', false) => goV rec l top m put is t') := by
  rw [goV, if_neg (by rw [hn]; simp), hl]
  simp only [hr, hh]
  all_goals rfl
theorem findV_go (ho : overV l put = false) (hs : List.range l.length = a ++ is) (ha : (a.all fun j => !nextV l put j) = true) : findV l top (f + 1) m put t = goV (findV l top f) l top m put is t := by
  rw [findV, if_neg (by rw [ho]; simp), hs, goV_skip ha]
theorem findV_over (ho : overV l put = true) : findV l top (f + 1) m put t = (true, put, t, false) := by rw [findV, if_pos ho]
theorem findV_many (ho : overV l put = false) (hs : List.range l.length = a ++ i :: b) (ha : (a.all fun j => !nextV l put j) = true) (hn : nextV l put i = true) (hl : l[i]? = some s) (hr : resV l m s = some r) (ht : top ≤ t) : findV l top (f + 1) m put t = (false, put, t, true) := by
  rw [findV_go ho hs ha, goV_at hn hl hr rfl, if_pos ht]
theorem findV_one (ho : overV l put = false) (hs : List.range l.length = a ++ i :: b) (ha : (a.all fun j => !nextV l put j) = true) (hn : nextV l put i = true) (hb : (b.all fun j => !nextV l put j) = true) (hl : l[i]? = some s) (hr : resV l m s = some r) (hh : handV l s = h) (ht : t < top) (hd : (doV m s.wk s.op h r).1 = true) :
    findV l top (f + 1) m put t = wrapV put (findV l top f (doV m s.wk s.op h r).2 (put ++ [(i : Int)]) (t + 1)) := by
  rw [findV_go ho hs ha, goV_at hn hl hr hh, if_neg (by omega), if_neg (by rw [hd]; simp)]
  generalize findV l top f (doV m s.wk s.op h r).2 (put ++ [(i : Int)]) (t + 1) = R
  obtain ⟨bb, p', t', mn⟩ := R
  cases bb with
  | true => rfl
  | false =>
    cases mn with
    | true => rfl
    | false => exact goV_none hb
theorem findV_fail (ho : overV l put = false) (hs : List.range l.length = a ++ i :: b) (ha : (a.all fun j => !nextV l put j) = true) (hn : nextV l put i = true) (hb : (b.all fun j => !nextV l put j) = true) (hl : l[i]? = some s) (hr : resV l m s = some r) (hh : handV l s = h) (ht : t < top) (hd : (doV m s.wk s.op h r).1 = false) :
    findV l top (f + 1) m put t = (false, put, t + 1, false) := by
  rw [findV_go ho hs ha, goV_at hn hl hr hh, if_neg (by omega), if_pos hd, goV_none hb]
theorem findV_two {k : Nat} {s' : SpV} {r' : RsV} {h' : HnV} (ho : overV l put = false) (hs : List.range l.length = a ++ i :: k :: b) (ha : (a.all fun j => !nextV l put j) = true) (hn : nextV l put i = true) (hn' : nextV l put k = true) (hb : (b.all fun j => !nextV l put j) = true)
    (hl : l[i]? = some s) (hr : resV l m s = some r) (hh : handV l s = h) (hl' : l[k]? = some s') (hr' : resV l m s' = some r') (hh' : handV l s' = h') (ht : t < top) (hd : (doV m s.wk s.op h r).1 = true) (hd' : (doV m s'.wk s'.op h' r').1 = true) :
    findV l top (f + 1) m put t = match findV l top f (doV m s.wk s.op h r).2 (put ++ [(i : Int)]) (t + 1) with
      | (true, p', t', mn) => (true, p', t', mn)
      | (false, p', t', true) => (false, p', t', true)
      | (false, p', t', false) => if top ≤ t' then (false, put, t', true) else wrapV put (findV l top f (doV m s'.wk s'.op h' r').2 (put ++ [(k : Int)]) (t' + 1)) := by
  rw [findV_go ho hs ha, goV_at hn hl hr hh, if_neg (by omega), if_neg (by rw [hd]; simp)]
  generalize findV l top f (doV m s.wk s.op h r).2 (put ++ [(i : Int)]) (t + 1) = R
  obtain ⟨bb, p', t', mn⟩ := R
  cases bb with
  | true => rfl
  | false =>
    cases mn with
    | true => rfl
    | false =>
      show goV (findV l top f) l top m put (k :: b) t' = _
      rw [goV_at hn' hl' hr' hh', if_neg (show ¬ (doV m s'.wk s'.op h' r').1 = false by rw [hd']; simp)]
      simp only
      split
      · rfl
      generalize findV l top f (doV m s'.wk s'.op h' r').2 (put ++ [(k : Int)]) (t' + 1) = R
      obtain ⟨bb, p', t2, mn⟩ := R
      cases bb with
      | true => rfl
      | false =>
        cases mn with
        | true => rfl
        | false => exact goV_none hb
end
def hT : HnV := (0, 1, 0, 0, 0)
def oT : HnV := (0, 1, 0, 0, 2)
def pinT (i at' : Int) : SpV := ⟨i, 2, (3, 0, 0, 0, 0, 0), at', at', -1, at', re0'⟩
where re0' : RsV := (0, (0, 0, 0, 0, 0), 0, 0)
def holdT (i at' : Int) : SpV := ⟨i, 3, (5, 0, 0, 0, 0, 0), at', at', -1, at', (0, (0, 0, 0, 0, 0), 0, 0)⟩
def storeT (i v a b d : Int) : SpV := ⟨i, 4, (7, 0, 1, 0, v, 0), a, b, -1, d, (0, (0, 0, 0, 0, 0), 0, 0)⟩
def loadT (x : Int) : SpV := ⟨2, 4, (6, 0, 1, 0, 0, 0), 26, 26, -1, 26, (0, (0, 0, 0, 0, 0), 0, x)⟩
def createT : SpV := ⟨0, 0, (1, 0, 0, 0, 0, 0), 0, 1, -1, 2, (0, hT, 0, 0)⟩
def allocT : SpV := ⟨0, 1, (2, 0, 0, 2, 0, 0), 3, 4, -1, 5, (0, oT, 0, 0)⟩
def sT (v w x : Int) : List SpV := [createT, allocT, pinT 0 6, holdT 0 7, pinT 1 8, holdT 1 9, pinT 2 10, holdT 2 11, storeT 0 v 20 22 24, storeT 1 w 21 23 25, loadT x]
def cT : CfV := (3, 1, 8, 1, 0, 1)
theorem sT_may (v w x : Int) : mayL (sT v w x) := mayLB_ok (by kernel_rfl)
end Go.Proofs.Yteapggpkgfiacaa

namespace Go.Proofs.Yteapggpkgfiacaa
open Go Ev Go.RowKit
set_option linter.unusedSimpArgs false
set_option linter.unusedVariables false
set_option maxRecDepth 100000

theorem doV_must {m : MdV} {w : Int} {o : OpV} {h : HnV} {r r' : RsV} (hm : mayV m w o = true) (h' : mustV m w o h = (r', true)) : (doV m w o h r).1 = decide (r = r') := by
  rw [doV, if_neg (by rw [hm]; simp), h']
  simp only [if_true]
  by_cases e : r = r'
  · rw [if_pos e, decide_eq_true e]
  · rw [if_neg e, decide_eq_false e]
def spans8 : List (SpV × HnV) := [(createT, noH), (allocT, hT), (pinT 0 6, noH), (holdT 0 7, hT), (pinT 1 8, noH), (holdT 1 9, hT), (pinT 2 10, noH), (holdT 2 11, hT)]
def mT (k : Nat) : MdV := (spans8.take k).foldl (fun m p => (doV m p.1.wk p.1.op p.2 p.1.re).2) (newM cT true)
section
variable {v w x top : Int} {f : Nat}
theorem fT0 (ht : 0 < top) : findV (sT v w x) top (f + 1) (mT 0) [] 0 = wrapV [] (findV (sT v w x) top f (doV (mT 0) (createT).wk (createT).op noH (createT).re).2 ([] ++ [((0 : Nat) : Int)]) (0 + 1)) :=
  findV_one (a := []) (b := [1, 2, 3, 4, 5, 6, 7, 8, 9, 10]) (i := 0) (s := createT) (r := (createT).re) (h := noH) (by kernel_rfl) (by kernel_rfl) (by kernel_rfl) (by kernel_rfl) (by kernel_rfl) (by kernel_rfl) (by kernel_rfl) (by kernel_rfl) ht (by kernel_rfl)
theorem nT0 (ht : top ≤ 0) : findV (sT v w x) top (f + 1) (mT 0) [] 0 = (false, [], 0, true) :=
  findV_many (a := []) (b := [1, 2, 3, 4, 5, 6, 7, 8, 9, 10]) (i := 0) (s := createT) (r := (createT).re) (by kernel_rfl) (by kernel_rfl) (by kernel_rfl) (by kernel_rfl) (by kernel_rfl) (by kernel_rfl) ht
theorem fT1 (ht : 1 < top) : findV (sT v w x) top (f + 1) (mT 1) [0] 1 = wrapV [0] (findV (sT v w x) top f (doV (mT 1) (allocT).wk (allocT).op hT (allocT).re).2 ([0] ++ [((1 : Nat) : Int)]) (1 + 1)) :=
  findV_one (a := [0]) (b := [2, 3, 4, 5, 6, 7, 8, 9, 10]) (i := 1) (s := allocT) (r := (allocT).re) (h := hT) (by kernel_rfl) (by kernel_rfl) (by kernel_rfl) (by kernel_rfl) (by kernel_rfl) (by kernel_rfl) (by kernel_rfl) (by kernel_rfl) ht (by kernel_rfl)
theorem nT1 (ht : top ≤ 1) : findV (sT v w x) top (f + 1) (mT 1) [0] 1 = (false, [0], 1, true) :=
  findV_many (a := [0]) (b := [2, 3, 4, 5, 6, 7, 8, 9, 10]) (i := 1) (s := allocT) (r := (allocT).re) (by kernel_rfl) (by kernel_rfl) (by kernel_rfl) (by kernel_rfl) (by kernel_rfl) (by kernel_rfl) ht
theorem fT2 (ht : 2 < top) : findV (sT v w x) top (f + 1) (mT 2) [0, 1] 2 = wrapV [0, 1] (findV (sT v w x) top f (doV (mT 2) (pinT 0 6).wk (pinT 0 6).op noH (pinT 0 6).re).2 ([0, 1] ++ [((2 : Nat) : Int)]) (2 + 1)) :=
  findV_one (a := [0, 1]) (b := [3, 4, 5, 6, 7, 8, 9, 10]) (i := 2) (s := pinT 0 6) (r := (pinT 0 6).re) (h := noH) (by kernel_rfl) (by kernel_rfl) (by kernel_rfl) (by kernel_rfl) (by kernel_rfl) (by kernel_rfl) (by kernel_rfl) (by kernel_rfl) ht (by kernel_rfl)
theorem nT2 (ht : top ≤ 2) : findV (sT v w x) top (f + 1) (mT 2) [0, 1] 2 = (false, [0, 1], 2, true) :=
  findV_many (a := [0, 1]) (b := [3, 4, 5, 6, 7, 8, 9, 10]) (i := 2) (s := pinT 0 6) (r := (pinT 0 6).re) (by kernel_rfl) (by kernel_rfl) (by kernel_rfl) (by kernel_rfl) (by kernel_rfl) (by kernel_rfl) ht
theorem fT3 (ht : 3 < top) : findV (sT v w x) top (f + 1) (mT 3) [0, 1, 2] 3 = wrapV [0, 1, 2] (findV (sT v w x) top f (doV (mT 3) (holdT 0 7).wk (holdT 0 7).op hT (holdT 0 7).re).2 ([0, 1, 2] ++ [((3 : Nat) : Int)]) (3 + 1)) :=
  findV_one (a := [0, 1, 2]) (b := [4, 5, 6, 7, 8, 9, 10]) (i := 3) (s := holdT 0 7) (r := (holdT 0 7).re) (h := hT) (by kernel_rfl) (by kernel_rfl) (by kernel_rfl) (by kernel_rfl) (by kernel_rfl) (by kernel_rfl) (by kernel_rfl) (by kernel_rfl) ht (by kernel_rfl)
theorem nT3 (ht : top ≤ 3) : findV (sT v w x) top (f + 1) (mT 3) [0, 1, 2] 3 = (false, [0, 1, 2], 3, true) :=
  findV_many (a := [0, 1, 2]) (b := [4, 5, 6, 7, 8, 9, 10]) (i := 3) (s := holdT 0 7) (r := (holdT 0 7).re) (by kernel_rfl) (by kernel_rfl) (by kernel_rfl) (by kernel_rfl) (by kernel_rfl) (by kernel_rfl) ht
theorem fT4 (ht : 4 < top) : findV (sT v w x) top (f + 1) (mT 4) [0, 1, 2, 3] 4 = wrapV [0, 1, 2, 3] (findV (sT v w x) top f (doV (mT 4) (pinT 1 8).wk (pinT 1 8).op noH (pinT 1 8).re).2 ([0, 1, 2, 3] ++ [((4 : Nat) : Int)]) (4 + 1)) :=
  findV_one (a := [0, 1, 2, 3]) (b := [5, 6, 7, 8, 9, 10]) (i := 4) (s := pinT 1 8) (r := (pinT 1 8).re) (h := noH) (by kernel_rfl) (by kernel_rfl) (by kernel_rfl) (by kernel_rfl) (by kernel_rfl) (by kernel_rfl) (by kernel_rfl) (by kernel_rfl) ht (by kernel_rfl)
theorem nT4 (ht : top ≤ 4) : findV (sT v w x) top (f + 1) (mT 4) [0, 1, 2, 3] 4 = (false, [0, 1, 2, 3], 4, true) :=
  findV_many (a := [0, 1, 2, 3]) (b := [5, 6, 7, 8, 9, 10]) (i := 4) (s := pinT 1 8) (r := (pinT 1 8).re) (by kernel_rfl) (by kernel_rfl) (by kernel_rfl) (by kernel_rfl) (by kernel_rfl) (by kernel_rfl) ht
theorem fT5 (ht : 5 < top) : findV (sT v w x) top (f + 1) (mT 5) [0, 1, 2, 3, 4] 5 = wrapV [0, 1, 2, 3, 4] (findV (sT v w x) top f (doV (mT 5) (holdT 1 9).wk (holdT 1 9).op hT (holdT 1 9).re).2 ([0, 1, 2, 3, 4] ++ [((5 : Nat) : Int)]) (5 + 1)) :=
  findV_one (a := [0, 1, 2, 3, 4]) (b := [6, 7, 8, 9, 10]) (i := 5) (s := holdT 1 9) (r := (holdT 1 9).re) (h := hT) (by kernel_rfl) (by kernel_rfl) (by kernel_rfl) (by kernel_rfl) (by kernel_rfl) (by kernel_rfl) (by kernel_rfl) (by kernel_rfl) ht (by kernel_rfl)
theorem nT5 (ht : top ≤ 5) : findV (sT v w x) top (f + 1) (mT 5) [0, 1, 2, 3, 4] 5 = (false, [0, 1, 2, 3, 4], 5, true) :=
  findV_many (a := [0, 1, 2, 3, 4]) (b := [6, 7, 8, 9, 10]) (i := 5) (s := holdT 1 9) (r := (holdT 1 9).re) (by kernel_rfl) (by kernel_rfl) (by kernel_rfl) (by kernel_rfl) (by kernel_rfl) (by kernel_rfl) ht
theorem fT6 (ht : 6 < top) : findV (sT v w x) top (f + 1) (mT 6) [0, 1, 2, 3, 4, 5] 6 = wrapV [0, 1, 2, 3, 4, 5] (findV (sT v w x) top f (doV (mT 6) (pinT 2 10).wk (pinT 2 10).op noH (pinT 2 10).re).2 ([0, 1, 2, 3, 4, 5] ++ [((6 : Nat) : Int)]) (6 + 1)) :=
  findV_one (a := [0, 1, 2, 3, 4, 5]) (b := [7, 8, 9, 10]) (i := 6) (s := pinT 2 10) (r := (pinT 2 10).re) (h := noH) (by kernel_rfl) (by kernel_rfl) (by kernel_rfl) (by kernel_rfl) (by kernel_rfl) (by kernel_rfl) (by kernel_rfl) (by kernel_rfl) ht (by kernel_rfl)
theorem nT6 (ht : top ≤ 6) : findV (sT v w x) top (f + 1) (mT 6) [0, 1, 2, 3, 4, 5] 6 = (false, [0, 1, 2, 3, 4, 5], 6, true) :=
  findV_many (a := [0, 1, 2, 3, 4, 5]) (b := [7, 8, 9, 10]) (i := 6) (s := pinT 2 10) (r := (pinT 2 10).re) (by kernel_rfl) (by kernel_rfl) (by kernel_rfl) (by kernel_rfl) (by kernel_rfl) (by kernel_rfl) ht
theorem fT7 (ht : 7 < top) : findV (sT v w x) top (f + 1) (mT 7) [0, 1, 2, 3, 4, 5, 6] 7 = wrapV [0, 1, 2, 3, 4, 5, 6] (findV (sT v w x) top f (doV (mT 7) (holdT 2 11).wk (holdT 2 11).op hT (holdT 2 11).re).2 ([0, 1, 2, 3, 4, 5, 6] ++ [((7 : Nat) : Int)]) (7 + 1)) :=
  findV_one (a := [0, 1, 2, 3, 4, 5, 6]) (b := [8, 9, 10]) (i := 7) (s := holdT 2 11) (r := (holdT 2 11).re) (h := hT) (by kernel_rfl) (by kernel_rfl) (by kernel_rfl) (by kernel_rfl) (by kernel_rfl) (by kernel_rfl) (by kernel_rfl) (by kernel_rfl) ht (by kernel_rfl)
theorem nT7 (ht : top ≤ 7) : findV (sT v w x) top (f + 1) (mT 7) [0, 1, 2, 3, 4, 5, 6] 7 = (false, [0, 1, 2, 3, 4, 5, 6], 7, true) :=
  findV_many (a := [0, 1, 2, 3, 4, 5, 6]) (b := [8, 9, 10]) (i := 7) (s := holdT 2 11) (r := (holdT 2 11).re) (by kernel_rfl) (by kernel_rfl) (by kernel_rfl) (by kernel_rfl) (by kernel_rfl) (by kernel_rfl) ht
theorem nT8 (ht : top ≤ 8) : findV (sT v w x) top (f + 1) (mT 8) [0, 1, 2, 3, 4, 5, 6, 7] 8 = (false, [0, 1, 2, 3, 4, 5, 6, 7], 8, true) :=
  findV_many (a := [0, 1, 2, 3, 4, 5, 6, 7]) (b := [9, 10]) (i := 8) (s := storeT 0 v 20 22 24) (r := (storeT 0 v 20 22 24).re) (by kernel_rfl) (by kernel_rfl) (by kernel_rfl) (by kernel_rfl) (by kernel_rfl) (by kernel_rfl) ht
def mA (v : Int) : MdV := (doV (mT 8) 0 (7, 0, 1, 0, v, 0) oT (0, (0, 0, 0, 0, 0), 0, 0)).2
def mB (w : Int) : MdV := (doV (mT 8) 1 (7, 0, 1, 0, w, 0) oT (0, (0, 0, 0, 0, 0), 0, 0)).2
def mAB (v w : Int) : MdV := (doV (mA v) 1 (7, 0, 1, 0, w, 0) oT (0, (0, 0, 0, 0, 0), 0, 0)).2
def mBA (v w : Int) : MdV := (doV (mB w) 0 (7, 0, 1, 0, v, 0) oT (0, (0, 0, 0, 0, 0), 0, 0)).2
theorem nT9 (ht : top ≤ 9) : findV (sT v w x) top (f + 1) (mA v) [0, 1, 2, 3, 4, 5, 6, 7, 8] 9 = (false, [0, 1, 2, 3, 4, 5, 6, 7, 8], 9, true) :=
  findV_many (a := [0, 1, 2, 3, 4, 5, 6, 7, 8]) (b := [10]) (i := 9) (s := storeT 1 w 21 23 25) (r := (storeT 1 w 21 23 25).re) (by kernel_rfl) (by kernel_rfl) (by kernel_rfl) (by kernel_rfl) (by kernel_rfl) (by kernel_rfl) ht
theorem uAB : mustV (mAB v w) 2 (6, 0, 1, 0, 0, 0) oT = ((0, (0, 0, 0, 0, 0), 0, w), true) := by kernel_rfl
theorem lAB : (doV (mAB v w) 2 (6, 0, 1, 0, 0, 0) oT (0, (0, 0, 0, 0, 0), 0, x)).1 = decide (x = w) := by
  rw [doV_must (by kernel_rfl) uAB, decide_eq_decide]
  constructor
  · intro h; exact (Prod.mk.inj (Prod.mk.inj (Prod.mk.inj h).2).2).2
  · intro h; rw [h]
theorem yAB (ht : 10 < top) (hx : x = w) : findV (sT v w x) top (f + 2) (mAB v w) [0, 1, 2, 3, 4, 5, 6, 7, 8, 9] 10 = (true, [0, 1, 2, 3, 4, 5, 6, 7, 8, 9] ++ [10], 10 + 1, false) := by
  rw [findV_one (a := [0, 1, 2, 3, 4, 5, 6, 7, 8, 9]) (b := []) (i := 10) (s := loadT x) (r := (loadT x).re) (h := oT) (by kernel_rfl) (by kernel_rfl) (by kernel_rfl) (by kernel_rfl) (by kernel_rfl) (by kernel_rfl) (by kernel_rfl) (by kernel_rfl) ht (lAB.trans (decide_eq_true hx))]
  rw [findV_over (by kernel_rfl)]; rfl
theorem zAB (ht : 10 < top) (hx : ¬ x = w) : findV (sT v w x) top (f + 1) (mAB v w) [0, 1, 2, 3, 4, 5, 6, 7, 8, 9] 10 = (false, [0, 1, 2, 3, 4, 5, 6, 7, 8, 9], 10 + 1, false) :=
  findV_fail (a := [0, 1, 2, 3, 4, 5, 6, 7, 8, 9]) (b := []) (i := 10) (s := loadT x) (r := (loadT x).re) (h := oT) (by kernel_rfl) (by kernel_rfl) (by kernel_rfl) (by kernel_rfl) (by kernel_rfl) (by kernel_rfl) (by kernel_rfl) (by kernel_rfl) ht (lAB.trans (decide_eq_false hx))
theorem uBA : mustV (mBA v w) 2 (6, 0, 1, 0, 0, 0) oT = ((0, (0, 0, 0, 0, 0), 0, v), true) := by kernel_rfl
theorem lBA : (doV (mBA v w) 2 (6, 0, 1, 0, 0, 0) oT (0, (0, 0, 0, 0, 0), 0, x)).1 = decide (x = v) := by
  rw [doV_must (by kernel_rfl) uBA, decide_eq_decide]
  constructor
  · intro h; exact (Prod.mk.inj (Prod.mk.inj (Prod.mk.inj h).2).2).2
  · intro h; rw [h]
theorem yBA (ht : 13 < top) (hx : x = v) : findV (sT v w x) top (f + 2) (mBA v w) [0, 1, 2, 3, 4, 5, 6, 7, 9, 8] 13 = (true, [0, 1, 2, 3, 4, 5, 6, 7, 9, 8] ++ [10], 13 + 1, false) := by
  rw [findV_one (a := [0, 1, 2, 3, 4, 5, 6, 7, 8, 9]) (b := []) (i := 10) (s := loadT x) (r := (loadT x).re) (h := oT) (by kernel_rfl) (by kernel_rfl) (by kernel_rfl) (by kernel_rfl) (by kernel_rfl) (by kernel_rfl) (by kernel_rfl) (by kernel_rfl) ht (lBA.trans (decide_eq_true hx))]
  rw [findV_over (by kernel_rfl)]; rfl
theorem zBA (ht : 13 < top) (hx : ¬ x = v) : findV (sT v w x) top (f + 1) (mBA v w) [0, 1, 2, 3, 4, 5, 6, 7, 9, 8] 13 = (false, [0, 1, 2, 3, 4, 5, 6, 7, 9, 8], 13 + 1, false) :=
  findV_fail (a := [0, 1, 2, 3, 4, 5, 6, 7, 8, 9]) (b := []) (i := 10) (s := loadT x) (r := (loadT x).re) (h := oT) (by kernel_rfl) (by kernel_rfl) (by kernel_rfl) (by kernel_rfl) (by kernel_rfl) (by kernel_rfl) (by kernel_rfl) (by kernel_rfl) ht (lBA.trans (decide_eq_false hx))
theorem oA (ht : 9 < top) : findV (sT v w x) top (f + 1) (mA v) [0, 1, 2, 3, 4, 5, 6, 7, 8] 9 = wrapV [0, 1, 2, 3, 4, 5, 6, 7, 8] (findV (sT v w x) top f (mAB v w) [0, 1, 2, 3, 4, 5, 6, 7, 8, 9] 10) :=
  findV_one (a := [0, 1, 2, 3, 4, 5, 6, 7, 8]) (b := [10]) (i := 9) (s := storeT 1 w 21 23 25) (r := (storeT 1 w 21 23 25).re) (h := oT) (by kernel_rfl) (by kernel_rfl) (by kernel_rfl) (by kernel_rfl) (by kernel_rfl) (by kernel_rfl) (by kernel_rfl) (by kernel_rfl) ht (by kernel_rfl)
theorem oB (ht : 12 < top) : findV (sT v w x) top (f + 1) (mB w) [0, 1, 2, 3, 4, 5, 6, 7, 9] 12 = wrapV [0, 1, 2, 3, 4, 5, 6, 7, 9] (findV (sT v w x) top f (mBA v w) [0, 1, 2, 3, 4, 5, 6, 7, 9, 8] 13) :=
  findV_one (a := [0, 1, 2, 3, 4, 5, 6, 7]) (b := [9, 10]) (i := 8) (s := storeT 0 v 20 22 24) (r := (storeT 0 v 20 22 24).re) (h := oT) (by kernel_rfl) (by kernel_rfl) (by kernel_rfl) (by kernel_rfl) (by kernel_rfl) (by kernel_rfl) (by kernel_rfl) (by kernel_rfl) ht (by kernel_rfl)
theorem two8 (ht : 8 < top) : findV (sT v w x) top (f + 1) (mT 8) [0, 1, 2, 3, 4, 5, 6, 7] 8 = match findV (sT v w x) top f (mA v) [0, 1, 2, 3, 4, 5, 6, 7, 8] 9 with
      | (true, p', t', mn) => (true, p', t', mn)
      | (false, p', t', true) => (false, p', t', true)
      | (false, p', t', false) => if top ≤ t' then (false, [0, 1, 2, 3, 4, 5, 6, 7], t', true) else wrapV [0, 1, 2, 3, 4, 5, 6, 7] (findV (sT v w x) top f (mB w) [0, 1, 2, 3, 4, 5, 6, 7, 9] (t' + 1)) :=
  findV_two (a := [0, 1, 2, 3, 4, 5, 6, 7]) (b := [10]) (i := 8) (k := 9) (s := storeT 0 v 20 22 24) (r := (storeT 0 v 20 22 24).re) (h := oT) (s' := storeT 1 w 21 23 25) (r' := (storeT 1 w 21 23 25).re) (h' := oT) (by kernel_rfl) (by kernel_rfl) (by kernel_rfl) (by kernel_rfl) (by kernel_rfl) (by kernel_rfl)
    (by kernel_rfl) (by kernel_rfl) (by kernel_rfl) (by kernel_rfl) (by kernel_rfl) (by kernel_rfl) ht (by kernel_rfl) (by kernel_rfl)
/-- the last one is told -/
theorem end_w (ht : 14 < top) (hx : x = w) : findV (sT v w x) top 4 (mT 8) [0, 1, 2, 3, 4, 5, 6, 7] 8 = (true, [0, 1, 2, 3, 4, 5, 6, 7, 8, 9, 10], 11, false) := by
  rw [two8 (by omega), oA (by omega), yAB (by omega) hx]; rfl
theorem end_v (ht : 14 < top) (hx : ¬ x = w) (hv : x = v) : findV (sT v w x) top 4 (mT 8) [0, 1, 2, 3, 4, 5, 6, 7] 8 = (true, [0, 1, 2, 3, 4, 5, 6, 7, 9, 8, 10], 14, false) := by
  rw [two8 (by omega), oA (by omega), zAB (by omega) hx]
  simp only [wrapV]
  rw [if_neg (by omega), show ((10 : Int) + 1 + 1) = 12 from rfl, oB (by omega), yBA (by omega) hv]; rfl
theorem end_no (ht : 14 < top) (hx : ¬ x = w) (hv : ¬ x = v) : findV (sT v w x) top 4 (mT 8) [0, 1, 2, 3, 4, 5, 6, 7] 8 = (false, [0, 1, 2, 3, 4, 5, 6, 7], 14, false) := by
  rw [two8 (by omega), oA (by omega), zAB (by omega) hx]
  simp only [wrapV]
  rw [if_neg (by omega), show ((10 : Int) + 1 + 1) = 12 from rfl, oB (by omega), zBA (by omega) hv]; rfl
theorem eight (ht : 8 ≤ top) : findV (sT v w x) top 12 (newM cT true) [] 0 = wrapV [] (wrapV [0] (wrapV [0, 1] (wrapV [0, 1, 2] (wrapV [0, 1, 2, 3] (wrapV [0, 1, 2, 3, 4] (wrapV [0, 1, 2, 3, 4, 5] (wrapV [0, 1, 2, 3, 4, 5, 6] (findV (sT v w x) top 4 (mT 8) [0, 1, 2, 3, 4, 5, 6, 7] 8)))))))) := by
  rw [show newM cT true = mT 0 from rfl, fT0 (by omega)]
  rw [show (findV (sT v w x) top 11 (doV (mT 0) (createT).wk (createT).op noH (createT).re).2 ([] ++ [((0 : Nat) : Int)]) (0 + 1)) = findV (sT v w x) top 11 (mT 1) [0] 1 from rfl, fT1 (by omega)]
  rw [show (findV (sT v w x) top 10 (doV (mT 1) (allocT).wk (allocT).op hT (allocT).re).2 ([0] ++ [((1 : Nat) : Int)]) (1 + 1)) = findV (sT v w x) top 10 (mT 2) [0, 1] 2 from rfl, fT2 (by omega)]
  rw [show (findV (sT v w x) top 9 (doV (mT 2) (pinT 0 6).wk (pinT 0 6).op noH (pinT 0 6).re).2 ([0, 1] ++ [((2 : Nat) : Int)]) (2 + 1)) = findV (sT v w x) top 9 (mT 3) [0, 1, 2] 3 from rfl, fT3 (by omega)]
  rw [show (findV (sT v w x) top 8 (doV (mT 3) (holdT 0 7).wk (holdT 0 7).op hT (holdT 0 7).re).2 ([0, 1, 2] ++ [((3 : Nat) : Int)]) (3 + 1)) = findV (sT v w x) top 8 (mT 4) [0, 1, 2, 3] 4 from rfl, fT4 (by omega)]
  rw [show (findV (sT v w x) top 7 (doV (mT 4) (pinT 1 8).wk (pinT 1 8).op noH (pinT 1 8).re).2 ([0, 1, 2, 3] ++ [((4 : Nat) : Int)]) (4 + 1)) = findV (sT v w x) top 7 (mT 5) [0, 1, 2, 3, 4] 5 from rfl, fT5 (by omega)]
  rw [show (findV (sT v w x) top 6 (doV (mT 5) (holdT 1 9).wk (holdT 1 9).op hT (holdT 1 9).re).2 ([0, 1, 2, 3, 4] ++ [((5 : Nat) : Int)]) (5 + 1)) = findV (sT v w x) top 6 (mT 6) [0, 1, 2, 3, 4, 5] 6 from rfl, fT6 (by omega)]
  rw [show (findV (sT v w x) top 5 (doV (mT 6) (pinT 2 10).wk (pinT 2 10).op noH (pinT 2 10).re).2 ([0, 1, 2, 3, 4, 5] ++ [((6 : Nat) : Int)]) (6 + 1)) = findV (sT v w x) top 5 (mT 7) [0, 1, 2, 3, 4, 5, 6] 7 from rfl, fT7 (by omega)]
  rfl
theorem few (h0 : 0 ≤ top) (h9 : top ≤ 9) : ∃ p t, findV (sT v w x) top 12 (newM cT true) [] 0 = (false, p, t, true) := by
  by_cases h8 : 8 ≤ top
  · rw [eight h8]
    by_cases h8' : top ≤ 8
    · rw [nT8 h8']; exact ⟨_, _, rfl⟩
    · rw [two8 (by omega), nT9 h9]; exact ⟨_, _, rfl⟩
  rw [show newM cT true = mT 0 from rfl]
  by_cases h10 : top ≤ 0
  · rw [nT0 h10]; exact ⟨_, _, rfl⟩
  rw [fT0 (by omega)]
  rw [show (findV (sT v w x) top 11 (doV (mT 0) (createT).wk (createT).op noH (createT).re).2 ([] ++ [((0 : Nat) : Int)]) (0 + 1)) = findV (sT v w x) top 11 (mT 1) [0] 1 from rfl]
  by_cases h11 : top ≤ 1
  · rw [nT1 h11]; exact ⟨_, _, rfl⟩
  rw [fT1 (by omega)]
  rw [show (findV (sT v w x) top 10 (doV (mT 1) (allocT).wk (allocT).op hT (allocT).re).2 ([0] ++ [((1 : Nat) : Int)]) (1 + 1)) = findV (sT v w x) top 10 (mT 2) [0, 1] 2 from rfl]
  by_cases h12 : top ≤ 2
  · rw [nT2 h12]; exact ⟨_, _, rfl⟩
  rw [fT2 (by omega)]
  rw [show (findV (sT v w x) top 9 (doV (mT 2) (pinT 0 6).wk (pinT 0 6).op noH (pinT 0 6).re).2 ([0, 1] ++ [((2 : Nat) : Int)]) (2 + 1)) = findV (sT v w x) top 9 (mT 3) [0, 1, 2] 3 from rfl]
  by_cases h13 : top ≤ 3
  · rw [nT3 h13]; exact ⟨_, _, rfl⟩
  rw [fT3 (by omega)]
  rw [show (findV (sT v w x) top 8 (doV (mT 3) (holdT 0 7).wk (holdT 0 7).op hT (holdT 0 7).re).2 ([0, 1, 2] ++ [((3 : Nat) : Int)]) (3 + 1)) = findV (sT v w x) top 8 (mT 4) [0, 1, 2, 3] 4 from rfl]
  by_cases h14 : top ≤ 4
  · rw [nT4 h14]; exact ⟨_, _, rfl⟩
  rw [fT4 (by omega)]
  rw [show (findV (sT v w x) top 7 (doV (mT 4) (pinT 1 8).wk (pinT 1 8).op noH (pinT 1 8).re).2 ([0, 1, 2, 3] ++ [((4 : Nat) : Int)]) (4 + 1)) = findV (sT v w x) top 7 (mT 5) [0, 1, 2, 3, 4] 5 from rfl]
  by_cases h15 : top ≤ 5
  · rw [nT5 h15]; exact ⟨_, _, rfl⟩
  rw [fT5 (by omega)]
  rw [show (findV (sT v w x) top 6 (doV (mT 5) (holdT 1 9).wk (holdT 1 9).op hT (holdT 1 9).re).2 ([0, 1, 2, 3, 4] ++ [((5 : Nat) : Int)]) (5 + 1)) = findV (sT v w x) top 6 (mT 6) [0, 1, 2, 3, 4, 5] 6 from rfl]
  by_cases h16 : top ≤ 6
  · rw [nT6 h16]; exact ⟨_, _, rfl⟩
  rw [fT6 (by omega)]
  rw [show (findV (sT v w x) top 5 (doV (mT 6) (pinT 2 10).wk (pinT 2 10).op noH (pinT 2 10).re).2 ([0, 1, 2, 3, 4, 5] ++ [((6 : Nat) : Int)]) (6 + 1)) = findV (sT v w x) top 5 (mT 7) [0, 1, 2, 3, 4, 5, 6] 7 from rfl]
  rw [nT7 (by omega)]; exact ⟨_, _, rfl⟩
theorem may_sT : mayB (sT v w x) = true := mayB_t (sT_may v w x)
theorem top_w : findTop cT (sT v w w) 1000 = ([0, 1, 2, 3, 4, 5, 6, 7, 8, 9, 10], 0) := by
  rw [findTop, if_pos ⟨by decide, may_sT, Nat.le_of_ble_eq_true rfl⟩, show (max (1000 : Int) 0) = 1000 from rfl, show (sT v w w).length + 1 = 12 from rfl, eight (by omega), end_w (by omega) rfl]; rfl
theorem top_v (h : ¬ v = w) : findTop cT (sT v w v) 1000 = ([0, 1, 2, 3, 4, 5, 6, 7, 9, 8, 10], 0) := by
  rw [findTop, if_pos ⟨by decide, may_sT, Nat.le_of_ble_eq_true rfl⟩, show (max (1000 : Int) 0) = 1000 from rfl, show (sT v w v).length + 1 = 12 from rfl, eight (by omega), end_v (by omega) h rfl]; rfl
theorem top_no (h : ¬ x = w) (h' : ¬ x = v) : findTop cT (sT v w x) 1000 = ([], 10) := by
  rw [findTop, if_pos ⟨by decide, may_sT, Nat.le_of_ble_eq_true rfl⟩, show (max (1000 : Int) 0) = 1000 from rfl, show (sT v w x).length + 1 = 12 from rfl, eight (by omega), end_no (by omega) h h']; rfl
theorem top_few (h0 : 0 ≤ top) (h9 : top ≤ 9) : findTop cT (sT v w x) top = ([], 11) := by
  obtain ⟨p, t, h⟩ := few (v := v) (w := w) (x := x) h0 h9
  rw [findTop, if_pos ⟨by decide, may_sT, Nat.le_of_ble_eq_true rfl⟩, Int.max_eq_left h0, show (sT v w x).length + 1 = 12 from rfl, h]
theorem top_many : findTop cT (sT v w x ++ sT v w x) 1000 = ([], 1) := by rw [findTop, if_neg (by rintro ⟨_, _, h⟩; have h : 22 ≤ 12 := h; omega)]
end
end Go.Proofs.Yteapggpkgfiacaa

namespace Go.Proofs.Yteapggpkgfiacaa
open Go Ev Go.RowKit
set_option linter.unusedSimpArgs false
set_option linter.unusedVariables false
set_option maxRecDepth 10000

theorem spC_one0 (s : SpV) : ∀ u ∈ spC s, u.oneCell' = true := fun u hu => List.all_eq_true.1 (show (spC s).all (·.oneCell') = true from rfl) u hu
theorem rdV_blk {w : World} {b : Nat} {cs : List Value} {e : TypeId} (h : hp w b = some (.cells cs.toArray e)) : RdV w (some ⟨b, 0, none⟩) cs := fun j u hj => by
  refine ⟨_, rfl, ?_⟩
  rw [addr_add, cell_ldC, h, ldC_some, Nat.zero_add]
  simpa using hj
def re0 : RsV := (0, (0, 0, 0, 0, 0), 0, 0)
def cF : CfV := (1, 1, 8, 1, 0, 1)
def opP : OpV := (3, 0, 0, 0, 0, 0)
def sF (r : RsV) : SpV := ⟨0, 0, opP, 0, 1, -1, 1, r⟩
theorem may_one (r : RsV) : mayB [sF r] = true := mayB_t fun i hi s hs => by
  have hi : i < 1 := hi
  obtain rfl : i = 0 := by omega
  have : sF r = s := Option.some.inj hs
  subst this
  exact ⟨rfl, fun p h => by omega, fun k a h => by omega⟩
end Go.Proofs.Yteapggpkgfiacaa

namespace Go.Proofs.Yteapggpkgfiacaa
open Go Ev Go.RowKit
set_option linter.unusedSimpArgs false
set_option linter.unusedVariables false
set_option maxRecDepth 10000

theorem top_0 : findTop cF [] 5 = ([], 0) := by
  rw [findTop, if_pos ⟨by decide, mayB_t fun i hi => absurd hi (by simp), by decide⟩]; decide +kernel
theorem top_1 : findTop cF [sF re0] 5 = ([0], 0) := by
  rw [findTop, if_pos ⟨by decide, may_one _, by decide⟩]; decide +kernel
theorem li_len {w : World} {v : Value} {xs : List Int} (h : SlI w v xs) : pureRun Try.prog (Builtin.len_ #[36] 3 #[v]) = some (.int .i64 xs.length) := by
  obtain ⟨A, c, rfl, _⟩ := h
  exact len_36
theorem li_at {w : World} {v : Value} {xs : List Int} (h : SlI w v xs) {i : Nat} {y : Int} (hy : xs[i]? = some y) :
    ∃ q : Addr, pureRun Try.prog (Instr.indexAt 36 v (.int .i64 (i : Int))) = some (.pointer (some q)) ∧ ldv Try.prog 3 (.pointer (some q)) w = some (.int .i64 y) := by
  obtain ⟨A, c, rfl, hR⟩ := h
  exact int_at hR hy
set_option maxHeartbeats 1000000 in
theorem c_first26 (w : World) : CallR Try.prog 5 [] w fun v w' => v = .bool true ∧ Chg [] w w' := by
  apply F5_ok
  have hbc : pureRun Try.prog (Instr.build 25 #[(0, .int .i64 1), (1, .int .i64 1), (2, .int .i64 8), (3, .int .i64 1), (5, .int .i64 1)]) = some (.agg (cfC cF).toArray) := bd_25_0_1_2_3_5
  have hbs : pureRun Try.prog (Instr.build 34 #[(2, .agg (opC opP).toArray), (4, .int .i64 1), (5, .int .i64 (-1)), (6, .int .i64 1)]) = some (.agg (spA (sF re0))) := bd_34_2_4_5_6
  have hbo : pureRun Try.prog (Instr.build 29 #[(0, .int .i64 3)]) = some (.agg (opC opP).toArray) := bd_29_0
  have hsl : ∀ (s : SpV) (w : World) (K : Value → World → Prop), effv Try.prog (Instr.buildSlice 35 1 #[(0, .agg (spA s))]) w K = K (.slice (some ⟨w.heap.size, 0, none⟩) 1 1) (w.alloc (.cells (spA s) 34)) := fun s w K => bs_35_1
  simp -implicitDefEqProofs only [F5, hbc, wpB_some', al_25]
  rw [st_25 rfl rfl (by rw [alloc_heap, if_pos rfl]; rfl) (by rw [alloc_heap, if_pos rfl]; rfl), alloc_heap, if_pos rfl, getE_some]
  generalize hw1 : Ev.put (w.alloc _) w.heap.size (cfC cF).toArray 25 = w1
  have c1 : Chg [] w w1 := by rw [← hw1]; exact ((Chg.refl _ _).alloc _).put (.inr (Nat.le_refl _)) _ _
  have b1 : hp w1 w.heap.size = some (.cells (cfC cF).toArray 25) := by rw [← hw1, put_heap, if_pos rfl, if_pos (by simp)]
  clear hw1
  simp -implicitDefEqProofs only [ld_cf b1, wpB_some']
  refine (c_Find (l := []) (by simp) (A := none) (cs := 0) (RdV.nil _ _) cF (most := 5) (by omega)).mono ?_
  rintro _ w2 ⟨p1, rfl, li1, c2⟩
  rw [top_0] at li1 ⊢
  have b2 := c2.at b1 (by simp)
  simp -implicitDefEqProofs only [tup0, tup1, zS, hbo, hbs, hsl, ld_cf b2]
  have ca : Chg [] w2 (w2.alloc (.cells (spA (sF re0)) 34)) := (Chg.refl _ _).alloc _
  have ra : RdV (w2.alloc (.cells (spA (sF re0)) 34)) (some ⟨w2.heap.size, 0, none⟩) ([sF re0].flatMap spC) := by
    have := rdV_blk (w := w2.alloc (.cells (spA (sF re0)) 34)) (b := w2.heap.size) (cs := spC (sF re0)) (e := 34) (by rw [alloc_heap, if_pos rfl]; rfl)
    simpa using this
  refine (c_Find (l := [sF re0]) (by simp) (cs := 1) ra cF (most := 5) (by omega)).mono ?_
  rintro _ w3 ⟨p2, rfl, li2, c3⟩
  rw [top_1] at li2 ⊢
  obtain ⟨q, q1, q2⟩ := li_at li2 (i := 0) (y := 0) rfl
  have q1 : pureRun Try.prog (Instr.indexAt 36 p2 (.int .i64 0)) = some (.pointer (some q)) := q1
  simp -implicitDefEqProofs only [tup0, tup1, zS, li_len li1, li_len li2, List.length_nil, List.length_singleton, q1, q2, show (((0 : Nat) : Int) == 0) = true from rfl, show (((1 : Nat) : Int) == 1) = true from rfl]
  exact ⟨trivial, (c1.trans c2).trans (ca.trans c3)⟩
theorem own_newT {w : World} {base : Nat} {e : TypeId} {z n : Nat} {cs : List Value} (hl : cs.length = n * z) (hb : base ≤ w.heap.size) (hn : n ≤ 1000) : (w.alloc (.cells cs.toArray e)).ownsRow base e z (.slice (some ⟨w.heap.size, 0, none⟩) n n) n cs :=
  ⟨hl, .inr ⟨w.heap.size, n, cs.toArray, rfl, hb, by have := alloc_heap w (.cells cs.toArray e) w.heap.size; rw [if_pos rfl] at this; exact this, Nat.le_refl _, by unfold maxLen; omega, by simp [hl], by simp [← hl]⟩⟩
structure TurnS (W : World) (Bz g10 : Nat) (w : World) (v : Value) (L : List SpV) : Prop where
  chg : Chg [] W w
  b10 : hp w g10 = some (.cells (cfC cT).toArray 25)
  own : w.ownsRow Bz 34 20 v L.length (L.flatMap spC)
  hB : W.heap.size ≤ Bz
  h10 : g10 < Bz
  le : Bz ≤ w.heap.size
section
variable {W w w' : World} {Bz g10 : Nat} {v v' : Value} {L L' : List SpV}
theorem TurnS.keep (T : TurnS W Bz g10 w v L) (hc : Chg [] w w') : TurnS W Bz g10 w' v L := ⟨T.chg.trans hc, hc.at T.b10 (by simp), ownsRow_chg T.own hc fun k hk => by simp, T.hB, T.h10, Nat.le_trans T.le hc.size⟩
theorem TurnS.grow (T : TurnS W Bz g10 w v L) (hg : w.grownBy w' v.ownBlock) (ho : w'.ownsRow Bz 34 20 v' L'.length (L'.flatMap spC)) : TurnS W Bz g10 w' v' L' := by
  have c : Chg (blk v) w w' := (Chg.refl _ _).grown hg fun k hk => .inl (by simpa using hk)
  exact ⟨T.chg.grown hg fun k hk => .inr (by have := own_ge T.own hk; have := T.hB; omega), c.at T.b10 fun hm => by have := own_ge T.own (k := g10) (by simpa using hm); have := T.h10; omega, ho, T.hB, T.h10, Nat.le_trans T.le c.size⟩
theorem TurnS.app (T : TurnS W Bz g10 w v L) {M : List SpV} {A : Option Addr} {c n : Nat} (hn : n = M.length) (hM : RdV w A (M.flatMap spC)) (hl : L.length + M.length ≤ 1000) {K : Value → World → Prop} (hk : ∀ v' w', TurnS W Bz g10 w' v' (L ++ M) → K v' w') :
    effv Try.prog (Builtin.append_ #[35, 35] 35 #[v, .slice A n c]) w K := by
  subst hn
  obtain ⟨i, hi, hz, hs, hb'⟩ := inf_34
  refine eff_append (base := Bz) (xs := L.flatMap spC) (n := L.length) (news := M.flatMap spC) (m := M.length) Try.underlying35 hi hz hs rfl (by omega) T.own (flat_len spC_len M) (fun j u hj => hM j u hj) (fun u hu => ?_) (by unfold maxLen; omega) (by rw [hb']; omega) T.le fun x' w' ho hg => hk x' w' (T.grow hg ?_)
  · obtain ⟨s, _, hu⟩ := List.mem_flatMap.1 hu
    exact spC_one0 s u hu
  · rw [List.length_append, List.flatMap_append]; exact ho
/-- two more -/
theorem TurnS.two (T : TurnS W Bz g10 w v L) {a b : SpV} (hl : L.length ≤ 900) {K : Value → World → Prop} (hk : ∀ v' w', TurnS W Bz g10 w' v' (L ++ [a, b]) → K v' w') :
    effv Try.prog (Instr.buildSlice 35 2 #[(0, .agg (spA a)), (1, .agg (spA b))]) w fun y w1 => effv Try.prog (Builtin.append_ #[35, 35] 35 #[v, y]) w1 K := by
  have hbs : ∀ K : Value → World → Prop, effv Try.prog (Instr.buildSlice 35 2 #[(0, .agg (spA a)), (1, .agg (spA b))]) w K = K (.slice (some ⟨w.heap.size, 0, none⟩) 2 2) (w.alloc (.cells ([a, b].flatMap spC).toArray 34)) := fun K => bs_35_2
  rw [hbs]
  exact (T.keep ((Chg.refl _ _).alloc _)).app (M := [a, b]) rfl (rdV_blk (by rw [alloc_heap, if_pos rfl])) (by simp; omega) hk
theorem TurnS.one (T : TurnS W Bz g10 w v L) {a : SpV} (hl : L.length ≤ 900) {K : Value → World → Prop} (hk : ∀ v' w', TurnS W Bz g10 w' v' (L ++ [a]) → K v' w') :
    effv Try.prog (Instr.buildSlice 35 1 #[(0, .agg (spA a))]) w fun y w1 => effv Try.prog (Builtin.append_ #[35, 35] 35 #[v, y]) w1 K := by
  have hbs : ∀ K : Value → World → Prop, effv Try.prog (Instr.buildSlice 35 1 #[(0, .agg (spA a))]) w K = K (.slice (some ⟨w.heap.size, 0, none⟩) 1 1) (w.alloc (.cells (spC a).toArray 34)) := fun K => bs_35_1
  rw [hbs]
  refine (T.keep ((Chg.refl _ _).alloc _)).app (M := [a]) rfl ?_ (by simp; omega) hk
  have := rdV_blk (w := w.alloc (.cells (spC a).toArray 34)) (b := w.heap.size) (cs := spC a) (e := 34) (by rw [alloc_heap, if_pos rfl])
  simpa using this
end
end Go.Proofs.Yteapggpkgfiacaa

namespace Go.Proofs.Yteapggpkgfiacaa
open Go Ev Go.RowKit
set_option linter.unusedSimpArgs false
set_option linter.unusedVariables false
set_option maxRecDepth 10000

theorem bp_xor_ex {P : Program} {t : TypeId} {k : IntKind} (a b : Int) : ∃ y : Int, bp P .xor t (.int k a) (.int k b) = some (.int k y) := by
  refine ⟨?_, ?_⟩
  rotate_left
  · refine bp_of fun w => ?_
    simp [binOp, Op.intBits]
    rfl
section
variable {W w w' : World} {Bz g10 : Nat} {v v' : Value} {L : List SpV}
/-- the last one's value is written anew -/
theorem TurnS.load {a b x : Int} (T : TurnS W Bz g10 w v (sT a b x)) (y : Int) : ∃ q : Addr, ∃ w', pureRun Try.prog (Instr.indexAt 35 v (.int .i64 10)) = some (.pointer (some ⟨q.block, 200, none⟩)) ∧
    (∀ K : World → Prop, effu Try.prog (Instr.storeAt 22 (.pointer (some ⟨q.block, 200 + 12 + 7, none⟩)) (.int .u64 y)) w K = K w') ∧ TurnS W Bz g10 w' v (sT a b y) := by
  obtain ⟨g, c, rfl, e2, e3, _, _, _⟩ := own_elem (i := 10) (j := .i64) T.own Try.underlying35 sz_34 (by omega) (by show (10 : Int) < (11 : Nat); omega)
  obtain ⟨p1, p2⟩ := ownsRow_put (vs := [.int .u64 y]) T.own (g := g) rfl (o := 10 * 20 + 19) (by show 10 * 20 + 19 + 1 ≤ 11 * 20; omega)
  have hf := flat_part spC_len (loadT y) 19 [.int .u64 y] (by show 19 + 1 ≤ 20; omega) (sT a b x) 10 (by show 10 < 11; omega) rfl
  have hL : (sT a b x).set 10 (loadT y) = sT a b y := rfl
  rw [hL] at hf
  rw [hf] at p1
  refine ⟨⟨g, 0, none⟩, _, e3, fun K => effu_store1 sz_22 rfl rfl p2, ?_⟩
  have hge : Bz ≤ g := own_ge T.own (k := g) rfl
  have h10 := T.h10
  have hcp := ChgP.put w g ((getC (hp w g)).setIfInBounds (200 + 12 + 7) (.int .u64 y)) (getE (hp w g))
  have hWg : W.heap.size ≤ g := Nat.le_trans T.hB hge
  refine ⟨T.chg.put (.inr hWg) _ _, hcp.at T.b10 (fun h => by have : g10 = g := h; omega), p1, T.hB, T.h10, Nat.le_trans T.le hcp.size⟩
theorem TurnS.rd (T : TurnS W Bz g10 w v L) : ∃ A c, v = .slice A L.length c ∧ RdV w A (L.flatMap spC) := by
  obtain ⟨A, c, h1, h2, _⟩ := rdV_of_own T.own
  exact ⟨A, c, h1, h2⟩
def pre3 : List SpV := [createT, allocT, pinT 0 6, holdT 0 7, pinT 1 8, holdT 1 9, pinT 2 10, holdT 2 11]
theorem bdp (i a : Int) : pureRun Try.prog (Instr.build 34 #[(0, .int .i64 i), (1, .int .i64 2), (2, .agg (opC (3, 0, 0, 0, 0, 0)).toArray), (3, .int .i64 a), (4, .int .i64 a), (5, .int .i64 (-1)), (6, .int .i64 a)]) = some (.agg (spA (pinT i a))) := bd_34_0_1_2_3_4_5_6
theorem bdh (i a : Int) : pureRun Try.prog (Instr.build 34 #[(0, .int .i64 i), (1, .int .i64 3), (2, .agg (opC (5, 0, 0, 0, 0, 0)).toArray), (3, .int .i64 a), (4, .int .i64 a), (5, .int .i64 (-1)), (6, .int .i64 a)]) = some (.agg (spA (holdT i a))) := bd_34_0_1_2_3_4_5_6
theorem bdst (i v a b d : Int) : pureRun Try.prog (Instr.build 34 #[(0, .int .i64 i), (1, .int .i64 4), (2, .agg (opC (7, 0, 1, 0, v, 0)).toArray), (3, .int .i64 a), (4, .int .i64 b), (5, .int .i64 (-1)), (6, .int .i64 d)]) = some (.agg (spA (storeT i v a b d))) := bd_34_0_1_2_3_4_5_6
theorem bdld : pureRun Try.prog (Instr.build 34 #[(0, .int .i64 2), (1, .int .i64 4), (2, .agg (opC (6, 0, 1, 0, 0, 0)).toArray), (3, .int .i64 26), (4, .int .i64 26), (5, .int .i64 (-1)), (6, .int .i64 26)]) = some (.agg (spA (loadT 0))) := bd_34_0_1_2_3_4_5_6
theorem bdo1 (k : Int) : pureRun Try.prog (Instr.build 29 #[(0, .int .i64 k)]) = some (.agg (opC (k, 0, 0, 0, 0, 0)).toArray) := bd_29_0
theorem bdo2 (k n : Int) : pureRun Try.prog (Instr.build 29 #[(0, .int .i64 k), (3, .int .i64 n)]) = some (.agg (opC (k, 0, 0, n, 0, 0)).toArray) := bd_29_0_3
theorem bdo3 (k a : Int) : pureRun Try.prog (Instr.build 29 #[(0, .int .i64 k), (2, .int .i64 a)]) = some (.agg (opC (k, 0, a, 0, 0, 0)).toArray) := bd_29_0_2
theorem bdo4 (k a v : Int) : pureRun Try.prog (Instr.build 29 #[(0, .int .i64 k), (2, .int .i64 a), (4, .int .u64 v)]) = some (.agg (opC (k, 0, a, 0, v, 0)).toArray) := bd_29_0_2_4
/-- one round of the loop -/
theorem l_tround {x0 x1 x2 x3 x9 x10 : Value} {i a : Nat} (hi : i < 3) (ha : a ≤ 100) (T : TurnS W Bz g10 w v L) (hl : L.length ≤ 800) {Q : Value → World → Prop} (hk : ∀ v' w', TurnS W Bz g10 w' v' (L ++ [pinT i a, holdT i ((a : Int) + 1)]) → P3_0 x0 x1 x2 x3 x9 x10 v' (.int .i64 ((a : Int) + 2)) (.int .i64 ((i : Int) + 1)) w' Q) :
    P3_0 x0 x1 x2 x3 x9 x10 v (.int .i64 a) (.int .i64 i) w Q := by
  apply L3_0_ok
  have hlt : (i : Int) < 3 := by omega
  simp -implicitDefEqProofs only [L3_0, zS, hlt, bdo1, bdp, bp_add, wrapi (n := (a : Int) + 1) (by omega) (by omega), wrapi (n := (a : Int) + 2) (by omega) (by omega), wrapi (n := (i : Int) + 1) (by omega) (by omega), bdh]
  exact T.two (by omega) hk
/-- the end: what is told of all -/
theorem l_tlast (p q : Value) (hp : SlI w p []) (hq : SlI w q []) (hc : Chg [] W w) : P3_3 (.bool true) p (.int .i64 11) q (.int .i64 1) w fun v w' => v = .bool true ∧ Chg [] W w' := by
  apply L3_3_ok
  simp -implicitDefEqProofs only [L3_3, zS, li_len hp, li_len hq, List.length_nil, show (((0 : Nat) : Int) == 0) = true from rfl]
  exact ⟨trivial, hc⟩
set_option maxHeartbeats 1000000 in
theorem l_tfew {a b x few : Int} (T : TurnS W Bz g10 w v (sT a b x)) : P3_2 (.int .u64 a) (.int .i64 few) (.bool true) (.pointer (some ⟨g10, 0, none⟩)) v w fun v w' => v = .bool true ∧ Chg [] W w' := by
  apply L3_2_ok
  obtain ⟨q, w1, e1, e2, T1⟩ := T.load a
  have T2 := T1.keep (Chg.refl [] w1).drew
  have b2 : hp w1.drew g10 = some (.cells (cfC cT).toArray 25) := T2.b10
  simp -implicitDefEqProofs only [L3_2, zS, e1, fa_34_7, fa_32_3, e2, ld_cf b2]
  refine callX_step (c_Number few 10 _ (by omega) (by omega)) ?_
  obtain ⟨A, c, rfl, hA⟩ := T2.rd
  refine callX_chg (R := fun r w' => ∃ pv, r = .tuple #[pv, .int .i64 (findTop cT (sT a b a) (few % 10)).2] ∧ SlI w' pv (findTop cT (sT a b a) (few % 10)).1) ((c_Find (l := sT a b a) (cs := c) (by show 11 ≤ 1000; omega) hA cT (most := few % 10) (by omega)).mono fun r w' ⟨pv, h1, h2, h3⟩ => ⟨⟨pv, h1, h2⟩, h3⟩) fun r w3 hr c3 => ?_
  obtain ⟨p, rfl, li⟩ := hr
  rw [top_few (by omega) (by omega)] at li ⊢
  have T3 := T2.keep c3
  have T4 := T3.keep (Chg.refl [] w3).drew
  have b4 : hp w3.drew g10 = some (.cells (cfC cT).toArray 25) := T4.b10
  simp -implicitDefEqProofs only [tup0, tup1, zS]
  have hA4 : RdV w3.drew A ((sT a b a).flatMap spC) := hA.keep (c3.trans (Chg.refl [] w3).drew).below
  have fin : ∀ (w5 : World) (v5 : Value), TurnS W Bz g10 w5 v5 (sT a b a ++ sT a b a) → SlI w5 p [] → CallR Try.prog 6 [.agg (cfC cT).toArray, v5, .int .i64 1000] w5 fun t169 w => wpB (pureRun Try.prog (Instr.extract t169 0)) fun t170 => wpB (pureRun Try.prog (Instr.extract t169 1)) fun t171 =>
      P3_3 (.bool true) p (.int .i64 11) t170 t171 w fun v w' => v = .bool true ∧ Chg [] W w' := by
    intro w5 v5 T5 li5
    obtain ⟨A5, c5, rfl, hA5⟩ := T5.rd
    refine (c_Find (l := sT a b a ++ sT a b a) (cs := c5) (by show 22 ≤ 1000; omega) hA5 cT (most := 1000) (by omega)).mono ?_
    rintro _ w6 ⟨q6, rfl, li6, c6⟩
    rw [top_many] at li6 ⊢
    simp -implicitDefEqProofs only [tup0, tup1, wpB_some']
    exact l_tlast p q6 (li5.keep c6.below) li6 (T5.chg.trans c6)
  have lip2 : ∀ w5, SlI w5 p [] := fun w5 => by
    obtain ⟨A', c', h1, _⟩ := li
    exact ⟨A', c', h1, fun i hi => absurd hi (by simp)⟩
  constructor
  · simp -implicitDefEqProofs only [ld_cf b4, wpB_some']
    exact T4.app (M := sT a b a) rfl hA4 (by show 11 + 11 ≤ 1000; omega) fun v5 w5 T5 => fin w5 v5 T5 (lip2 w5)
  · refine T4.app (M := sT a b a) rfl hA4 (by show 11 + 11 ≤ 1000; omega) fun v5 w5 T5 => ?_
    simp -implicitDefEqProofs only [ld_cf T5.b10, wpB_some']
    exact fin w5 v5 T5 (lip2 w5)
end
end Go.Proofs.Yteapggpkgfiacaa

namespace Go.Proofs.Yteapggpkgfiacaa
open Go Ev Go.RowKit
set_option linter.unusedSimpArgs false
set_option linter.unusedVariables false
set_option maxRecDepth 10000

section
variable {W w w' : World} {Bz g10 : Nat} {v v' : Value} {L : List SpV}
def pre9 (a b : Int) : List SpV := pre3 ++ [storeT 0 a 20 22 24, storeT 1 b 21 23 25]
theorem found (a b : Int) (second : Bool) : ∃ (F : List Int) (n9 : Int), findTop cT (sT a b (if second = true then b else a)) 1000 = (F, 0) ∧ F.length = 11 ∧ F[9]? = some n9 ∧ F[10]? = some 10 ∧ (a ≠ b → (n9 == 9) = second) := by
  cases second with
  | true => exact ⟨_, 9, top_w, rfl, rfl, rfl, fun _ => rfl⟩
  | false =>
    by_cases h : a = b
    · subst h
      exact ⟨_, 9, top_w, rfl, rfl, rfl, fun h => absurd rfl h⟩
    · exact ⟨_, 8, top_v h, rfl, rfl, rfl, fun _ => rfl⟩
set_option maxHeartbeats 1000000 in
theorem l_tmid {a b few : Int} {second : Bool} {g16 : Nat} (T : TurnS W Bz g10 w v (pre9 a b)) (b16 : hp w g16 = some (.cells (spA (loadT (if second = true then b else a))) 34)) :
    P3_1 (.int .u64 a) (.int .u64 b) (.bool second) (.int .i64 few) (.bool true) (.pointer (some ⟨g10, 0, none⟩)) v (.pointer (some ⟨g16, 0, none⟩)) w fun v w' => v = .bool true ∧ Chg [] W w' := by
  apply L3_1_ok
  simp -implicitDefEqProofs only [L3_1, (at_blk b16).ld, wpB_some']
  refine T.one (by show 10 ≤ 900; omega) fun v1 w1 T1 => ?_
  obtain ⟨F, n9, f0, f1, f2, f3, f4⟩ := found a b second
  generalize hx : (if second = true then b else a) = x at *
  have T1 : TurnS W Bz g10 w1 v1 (sT a b x) := T1
  obtain ⟨A, c, hv1, hA⟩ := T1.rd
  simp -implicitDefEqProofs only [ld_cf T1.b10, wpB_some']
  subst hv1
  refine (c_Find (l := sT a b x) (cs := c) (by show 11 ≤ 1000; omega) hA cT (most := 1000) (by omega)).mono ?_
  rintro _ w2 ⟨p, rfl, li, c2⟩
  rw [f0] at li ⊢
  simp only at li ⊢
  have T2 := T1.keep c2
  obtain ⟨q10, i10, d10⟩ := li_at li (i := 10) f3
  obtain ⟨q9, i9, d9⟩ := li_at li (i := 9) f2
  have i10 : pureRun Try.prog (Instr.indexAt 36 p (.int .i64 10)) = some (.pointer (some q10)) := i10
  have i9 : pureRun Try.prog (Instr.indexAt 36 p (.int .i64 9)) = some (.pointer (some q9)) := i9
  have l11 : ((F.length : Nat) : Int) = 11 := by omega
  simp -implicitDefEqProofs only [tup0, tup1, zS, li_len li, l11, i10, d10]
  obtain ⟨y1, hy1⟩ := bp_xor_ex (P := Try.prog) (t := 22) (k := .u64) a b
  obtain ⟨y, hy⟩ := bp_xor_ex (P := Try.prog) (t := 22) (k := .u64) y1 1
  obtain ⟨q, w3, e1, e2, T3⟩ := T2.load y
  obtain ⟨A3, k3, hv3, hA3⟩ := T3.rd
  cases hv3
  have rest : wpB (bp Try.prog .xor 22 (.int .u64 a) (.int .u64 b)) fun t119 => wpB (bp Try.prog .xor 22 t119 (.int .u64 1)) fun t120 => wpB (pureRun Try.prog (Instr.indexAt 35 (.slice A (sT a b x).length c) (.int .i64 10))) fun t121 =>
      wpB (pureRun Try.prog (Instr.fieldAt 34 t121 7)) fun t122 => wpB (pureRun Try.prog (Instr.fieldAt 32 t122 3)) fun t123 => effu Try.prog (Instr.storeAt 22 t123 t120) w2 fun w =>
      wpB (bp Try.prog .xor 22 (.int .u64 a) (.int .u64 b)) fun t126 => wpB (bp Try.prog .xor 22 t126 (.int .u64 1)) fun t127 => wpB (be Try.prog .neq 22 (.tmp 127) (.tmp 128) t127 (.int .u64 a)) fun t129 =>
      wpB (gd t129 true (bp Try.prog .xor 22 (gv t129 true (.int .u64 a)) (gv t129 true (.int .u64 b)))) fun t133 => wpB (gd t129 true (bp Try.prog .xor 22 t133 (.int .u64 1))) fun t134 =>
      wpB (gd t129 true (be Try.prog .neq 22 (.tmp 134) (.tmp 135) t134 (gv t129 true (.int .u64 b)))) fun t136 => wpB (pickv t129 (some t136) (some (.bool false))) fun t137 =>
      cnd t137
      (wpB (ldv Try.prog 25 (.pointer (some ⟨g10, 0, none⟩)) w) fun t139 => CallR Try.prog 6 [t139, .slice A (sT a b x).length c, (.int .i64 1000)] w fun t141 w =>
        wpB (pureRun Try.prog (Instr.extract t141 0)) fun t142 => wpB (pureRun Try.prog (Instr.extract t141 1)) fun t143 => wpB (pureRun Try.prog (Builtin.len_ #[36] 3 #[t142])) fun t145 =>
        wpB (be Try.prog .neq 3 (.tmp 145) (.const (.int .i64 0)) t145 (.int .i64 0)) fun t146 => wpB (gd t146 false (be Try.prog .neq 30 (.tmp 148) (.const (.int .i64 10)) (gv t146 false t143) (.int .i64 10))) fun t149 =>
        wpB (pickv t146 (some (.bool true)) (some t149)) fun t150 => cnd t150 ((Value.bool false) = .bool true ∧ Chg [] W w)
        (P3_2 (.int .u64 a) (.int .i64 few) (.bool true) (.pointer (some ⟨g10, 0, none⟩)) (.slice A (sT a b x).length c) w fun v w' => v = .bool true ∧ Chg [] W w'))
      (P3_2 (.int .u64 a) (.int .i64 few) (.bool true) (.pointer (some ⟨g10, 0, none⟩)) (.slice A (sT a b x).length c) w fun v w' => v = .bool true ∧ Chg [] W w') := by
    simp -implicitDefEqProofs only [hy1, hy, zS, e1, fa_34_7, fa_32_3, e2]
    by_cases h1 : y = a
    · simp -implicitDefEqProofs only [h1, zS]
      subst h1
      exact l_tfew T3
    have n1 : (y != a) = true := bne_iff_ne.2 h1
    by_cases h2 : y = b
    · have n3 : (b != a) = true := h2 ▸ n1
      simp -implicitDefEqProofs only [n3, hy1, hy, h2, zS]
      subst h2
      exact l_tfew T3
    have n2 : (y != b) = true := bne_iff_ne.2 h2
    simp -implicitDefEqProofs only [n1, n2, hy1, hy, zS, ld_cf T3.b10]
    refine (c_Find (l := sT a b y) (cs := c) (by show 11 ≤ 1000; omega) hA3 cT (most := 1000) (by omega)).mono ?_
    rintro _ w4 ⟨p4, rfl, li4, c4⟩
    rw [top_no h2 h1] at li4 ⊢
    simp -implicitDefEqProofs only [tup0, tup1, zS, li_len li4, List.length_nil, show (((0 : Nat) : Int) != 0) = false from rfl]
    exact l_tfew (T3.keep c4)
  by_cases hab : a = b
  · have e : (a != b) = false := by rw [hab]; simp
    simp -implicitDefEqProofs only [e, zS]
    exact rest
  · have e : (a != b) = true := bne_iff_ne.2 hab
    simp -implicitDefEqProofs only [e, zS, i9, d9, f4 hab, be_neqb Try.underlying4]
    exact rest
set_option maxHeartbeats 1000000 in
theorem c_turns (a b few : Int) (second : Bool) (w : World) : CallR Try.prog 3 [.int .u64 a, .int .u64 b, .bool second, .int .i64 few] w fun v w' => v = .bool true ∧ Chg [] w w' := by
  apply F3_ok
  have hbc : pureRun Try.prog (Instr.build 25 #[(0, .int .i64 3), (1, .int .i64 1), (2, .int .i64 8), (3, .int .i64 1), (5, .int .i64 1)]) = some (.agg (cfC cT).toArray) := bd_25_0_1_2_3_5
  have hbo : pureRun Try.prog (Instr.build 27 #[(1, .int .i64 1), (4, .int .i64 2)]) = some (.agg (hnC oT).toArray) := bd_27_1_4
  have hbh : pureRun Try.prog (Instr.build 27 #[(1, .int .i64 1)]) = some (.agg (hnC hT).toArray) := bd_27_1
  have hbr : ∀ h : HnV, pureRun Try.prog (Instr.build 32 #[(1, .agg (hnC h).toArray)]) = some (.agg (rsC (0, h, 0, 0)).toArray) := fun h => bd_32_1
  have hs1 : pureRun Try.prog (Instr.build 34 #[(2, .agg (opC (1, 0, 0, 0, 0, 0)).toArray), (3, .int .i64 0), (4, .int .i64 1), (5, .int .i64 (-1)), (6, .int .i64 2), (7, .agg (rsC (0, hT, 0, 0)).toArray)]) = some (.agg (spA createT)) := bd_34_2_3_4_5_6_7
  have hs2 : pureRun Try.prog (Instr.build 34 #[(1, .int .i64 1), (2, .agg (opC (2, 0, 0, 2, 0, 0)).toArray), (3, .int .i64 3), (4, .int .i64 4), (5, .int .i64 (-1)), (6, .int .i64 5), (7, .agg (rsC (0, oT, 0, 0)).toArray)]) = some (.agg (spA allocT)) := bd_34_1_2_3_4_5_6_7
  have hsl : ∀ (w : World) (K : Value → World → Prop), effv Try.prog (Instr.buildSlice 35 2 #[(0, .agg (spA createT)), (1, .agg (spA allocT))]) w K = K (.slice (some ⟨w.heap.size, 0, none⟩) 2 2) (w.alloc (.cells ([createT, allocT].flatMap spC).toArray 34)) := fun w K => bs_35_2
  simp -implicitDefEqProofs only [F3]
  refine (c_first26 w).mono ?_
  rintro _ w0 ⟨rfl, c0⟩
  simp -implicitDefEqProofs only [zS, hbc, al_25]
  rw [st_25 rfl rfl (by rw [alloc_heap, if_pos rfl]; rfl) (by rw [alloc_heap, if_pos rfl]; rfl), alloc_heap, if_pos rfl, getE_some]
  generalize hw1 : Ev.put (w0.alloc _) w0.heap.size (cfC cT).toArray 25 = w1
  have c1 : Chg [] w0 w1 := by rw [← hw1]; exact ((Chg.refl _ _).alloc _).put (.inr (Nat.le_refl _)) _ _
  have b1 : hp w1 w0.heap.size = some (.cells (cfC cT).toArray 25) := by rw [← hw1, put_heap, if_pos rfl, if_pos (by simp)]
  clear hw1
  generalize hg10 : w0.heap.size = g10 at *
  have hwg : w.heap.size ≤ g10 := by have := c0.size; omega
  simp -implicitDefEqProofs only [hbh, wpB_some', al_27]
  rw [st_hn (by rw [alloc_heap, if_pos rfl]) rfl]
  generalize hw2 : Ev.put (w1.alloc _) w1.heap.size (hnC hT).toArray 27 = w2
  have c2 : Chg [] w1 w2 := by rw [← hw2]; exact ((Chg.refl _ _).alloc _).put (.inr (Nat.le_refl _)) _ _
  have b2 : hp w2 w1.heap.size = some (.cells (hnC hT).toArray 27) := by rw [← hw2, put_heap, if_pos rfl, if_pos (by simp)]
  clear hw2
  generalize w1.heap.size = g11 at *
  simp -implicitDefEqProofs only [hbo, wpB_some', al_27]
  rw [st_hn (by rw [alloc_heap, if_pos rfl]) rfl]
  generalize hw3 : Ev.put (w2.alloc _) w2.heap.size (hnC oT).toArray 27 = w3
  have c3 : Chg [] w2 w3 := by rw [← hw3]; exact ((Chg.refl _ _).alloc _).put (.inr (Nat.le_refl _)) _ _
  have b3 : hp w3 w2.heap.size = some (.cells (hnC oT).toArray 27) := by rw [← hw3, put_heap, if_pos rfl, if_pos (by simp)]
  clear hw3
  generalize w2.heap.size = g12 at *
  have b23 := c3.at b2 (by simp)
  have b13 := (c2.trans c3).at b1 (by simp)
  simp -implicitDefEqProofs only [bdo1, bdo2, wpB_some', ld_hn b23, ld_hn b3, hbr, hs1, hs2, hsl]
  have ca : Chg [] w3 (w3.alloc (.cells ([createT, allocT].flatMap spC).toArray 34)) := (Chg.refl _ _).alloc _
  have cw3 : Chg [] w w3 := c0.trans (c1.trans (c2.trans c3))
  have T0 : TurnS w w3.heap.size g10 (w3.alloc (.cells ([createT, allocT].flatMap spC).toArray 34)) (.slice (some ⟨w3.heap.size, 0, none⟩) 2 2) [createT, allocT] :=
    ⟨cw3.trans ca, ca.at b13 (by simp), own_newT (n := 2) rfl (Nat.le_refl _) (by omega), cw3.size, blk_lt b13, ca.size⟩
  generalize w3.alloc (.cells ([createT, allocT].flatMap spC).toArray 34) = w4 at *
  generalize w3.heap.size = Bz at *
  refine l_tround (i := 0) (a := 6) (by omega) (by omega) T0 (by show 2 ≤ 800; omega) fun v5 w5 T5 => ?_
  refine l_tround (i := 1) (a := 8) (by omega) (by omega) T5 (by show 4 ≤ 800; omega) fun v6 w6 T6 => ?_
  refine l_tround (i := 2) (a := 10) (by omega) (by omega) T6 (by show 6 ≤ 800; omega) fun v7 w7 T7 => ?_
  have T7 : TurnS w Bz g10 w7 v7 pre3 := T7
  apply L3_0_ok
  simp -implicitDefEqProofs only [L3_0, zS, show ¬ (((2 : Nat) : Int) + 1 < 3) from by decide, bdo4, bdst]
  refine T7.two (by show 8 ≤ 900; omega) fun v8 w8 T8 => ?_
  have T8 : TurnS w Bz g10 w8 v8 (pre9 a b) := T8
  simp -implicitDefEqProofs only [bdo3, bdld, wpB_some', al_34]
  rw [st_34 (by rfl) (by rfl) (by rw [alloc_heap, if_pos rfl]; rfl) (by rw [alloc_heap, if_pos rfl]; rfl), alloc_heap, if_pos rfl, getE_some]
  generalize hw9 : Ev.put (w8.alloc _) w8.heap.size (spA (loadT 0)) 34 = w9
  have c9 : Chg [] w8 w9 := by rw [← hw9]; exact ((Chg.refl _ _).alloc _).put (.inr (Nat.le_refl _)) _ _
  have b9 : hp w9 w8.heap.size = some (.cells (spA (loadT 0)) 34) := by rw [← hw9, put_heap, if_pos rfl, if_pos (by simp)]
  clear hw9
  have st : ∀ (x y : Int) (w : World) (K : World → Prop), hp w w8.heap.size = some (.cells (spA (loadT x)) 34) → effu Try.prog (Instr.storeAt 22 (.pointer (some ⟨w8.heap.size, 0 + 12 + 7, none⟩)) (.int .u64 y)) w K = K (Ev.put w w8.heap.size (spA (loadT y)) 34) := fun x y w K hb => by
    rw [effu_store1 sz_22 rfl rfl (by rw [hb]; rfl), hb]; rfl
  simp -implicitDefEqProofs only [fa_34_7, fa_32_3, wpB_some']
  rw [st 0 a w9 _ b9]
  have c10 : Chg [] w8 (Ev.put w9 w8.heap.size (spA (loadT a)) 34) := c9.put (.inr (Nat.le_refl _)) _ _
  have b10 : hp (Ev.put w9 w8.heap.size (spA (loadT a)) 34) w8.heap.size = some (.cells (spA (loadT a)) 34) := put_same (blk_lt b9) _ _
  generalize Ev.put w9 w8.heap.size (spA (loadT a)) 34 = w10 at *
  cases second with
  | false =>
    simp -implicitDefEqProofs only [zS]
    exact l_tmid (second := false) (T8.keep c10) b10
  | true =>
    simp -implicitDefEqProofs only [zS]
    rw [st a b w10 _ b10]
    exact l_tmid (second := true) (T8.keep (c10.put (.inr (Nat.le_refl _)) _ _)) (put_same (blk_lt b10) _ _)
theorem lawTurns {W : World} (a0 : Int) (_ : (Lit.int .u64 a0).wf = true) (a1 : Int) (_ : (Lit.int .u64 a1).wf = true) (a2 : Bool) (a3 : Int) (_ : (Lit.int .i64 a3).wf = true) :
    CallR Try.prog 3 [.int .u64 a0, .int .u64 a1, .bool a2, .int .i64 a3] W fun v w' => v = .bool true ∧ Below W.heap.size W w' :=
  (c_turns a0 a1 a3 a2 W).mono fun _ _ h => ⟨h.1, h.2.below⟩
end
end Go.Proofs.Yteapggpkgfiacaa

