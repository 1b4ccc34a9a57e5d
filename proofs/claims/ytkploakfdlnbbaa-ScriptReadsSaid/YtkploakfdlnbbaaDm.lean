/- The call of ScriptReads answers true. -/
import Derived.Test.YtkploakfdlnbbaaDl
namespace Go.Proofs.Ytkploakfdlnbbaa
open Go Ev Go.RowKit
set_option linter.unusedSimpArgs false
set_option linter.unusedVariables false
set_option maxRecDepth 10000

theorem slB_of {W : World} {A : Option Addr} {n c : Nat} {zs : List Int} (h : InInts .u8 W A n c zs) : ∃ bs, bs.length = n ∧ SlB W (.slice A n c) bs ∧ IsBytes bs := by
  obtain ⟨h1, h2, h3, _, h5⟩ := h.rd
  refine ⟨zs.take n, h2, ⟨A, c, by rw [h2], fun j u hj => ?_, by rw [h2]; exact h3, fun p hp hne => ?_⟩, fun b hb => ?_⟩
  · have hlt : j < (zs.take n).length := by have := (List.getElem?_eq_some_iff.1 hj).1; simpa using this
    obtain ⟨p, hp, hc⟩ := h1 j hlt
    rw [u8s_get _ _ hlt] at hj
    exact ⟨p, hp, by rw [hc, hj]⟩
  · have hlt : 0 < (zs.take n).length := List.length_pos_iff.2 hne
    obtain ⟨q, hq, hc⟩ := h1 0 hlt
    rw [hp] at hq
    cases hq
    exact cell_lt (p := p) hc
  · have := h5 b hb
    simp [Lit.wf] at this
    have e1 : IntKind.u8.min = 0 := rfl
    have e2 : IntKind.u8.max = 255 := rfl
    omega
theorem SlB.of_own {w : World} {base : Nat} {e : TypeId} {v : Value} {bs : List Int} (h : w.ownsRow base e 1 v bs.length (u8s bs)) : SlB w v bs := by
  obtain ⟨A, c, h1, h2, h3, _⟩ := rdV_of_own h
  refine ⟨A, c, h1, h2, ?_, fun p hp _ => (h3 p hp).2⟩
  rcases h.2 with ⟨rfl, h0⟩ | ⟨g, cap, cur, h4, _, _, hnc, _⟩
  · omega
  · rw [h4] at h1
    injection h1 with _ _ h6
    omega
theorem law11 {W : World} (A : Option Addr) (n c : Nat) (zs : List Int) (h : InInts .u8 W A n c zs) :
    CallR Try.prog 11 [.slice A n c] W fun v w' => v = .bool true ∧ Below W.heap.size W w' := by
  obtain ⟨bs, hn, hSl, hbs⟩ := slB_of h
  subst hn
  apply F11_ok
  refine (c_first20 W).mono ?_
  rintro v w ⟨rfl, hc0⟩
  simp -implicitDefEqProofs only [F11, pr_not, Bool.not_true, wpB_some', cnd_false, len_40, bp_gtr]
  by_cases hl : (2000 : Int) < bs.length
  · simp -implicitDefEqProofs only [hl, decide_true, cnd_true]
    exact ⟨trivial, hc0.below⟩
  · simp -implicitDefEqProofs only [hl, decide_false, cnd_false]
    have hSl0 := hSl.chg hc0
    obtain ⟨A', c', hv, hA, hcap, hAb⟩ := hSl0
    cases hv
    obtain ⟨i, hi, hz, hs, hb⟩ := inf_5
    refine eff_append (base := w.heap.size) (xs := []) (n := 0) (news := u8s bs) (m := bs.length) Try.underlying40 hi hz hs rfl (by omega) (World.ownsRow_nil _ _ _ _) (by simp) (fun j u hj => hA j u hj) (fun u hu => ?_) (by unfold maxLen; omega) (by rw [hb]; omega) (Nat.le_refl _)
      fun x' w1 ho hg => ?_
    · simp only [u8s, List.mem_map] at hu
      obtain ⟨b, _, rfl⟩ := hu
      rfl
    have hc1 : Chg [] w w1 := (Chg.refl _ _).grown hg fun k hk => by simp [Value.ownBlock] at hk
    have hx : SlB w1 x' bs := .of_own (by simpa using ho)
    refine (c_Read hx hbs).mono ?_
    rintro v2 w2 ⟨hS, hc2⟩
    obtain ⟨B, d, vs, vp, rfl, a2, a3, a4, a5⟩ := hS.ex
    obtain ⟨D, e, rfl, hD⟩ := a5
    simp -implicitDefEqProofs only [al_43]
    rw [st_43 (by rfl) (by rfl) (by rw [alloc_heap, if_pos rfl]; rfl) (by rw [alloc_heap, if_pos rfl]; rfl), alloc_heap, if_pos rfl]
    simp -implicitDefEqProofs only [getE_some]
    have hc3 : Chg [] w2 (put (w2.alloc (.cells #[.slice none 0 0, .slice none 0 0] 43)) w2.heap.size #[.slice B (pRead bs).1.length d, .slice D (pRead bs).2.length e] 43) := ((Chg.refl _ _).alloc _).put (.inr (Nat.le_refl _)) _ _
    have hg3 : hp (put (w2.alloc (.cells #[.slice none 0 0, .slice none 0 0] 43)) w2.heap.size #[.slice B (pRead bs).1.length d, .slice D (pRead bs).2.length e] 43) w2.heap.size = some (.cells #[.slice B (pRead bs).1.length d, .slice D (pRead bs).2.length e] 43) := by rw [put_heap, if_pos rfl, if_pos (by simp)]
    have hS3 := hS.keep hc3.below
    generalize put (w2.alloc (.cells #[.slice none 0 0, .slice none 0 0] 43)) w2.heap.size #[.slice B (pRead bs).1.length d, .slice D (pRead bs).2.length e] 43 = w3 at *
    generalize w2.heap.size = g at *
    have hc03 : Chg [] W w3 := ((hc0.trans hc1).trans hc2).trans hc3
    have hSl3 : SlB w3 (.slice A bs.length c) bs := hSl.chg hc03
    have ld : ∀ w : World, Chg [] w3 w → ldv Try.prog 43 (.pointer (some ⟨g, 0, none⟩)) w = some (.agg #[.slice B (pRead bs).1.length d, .slice D (pRead bs).2.length e]) := by
      intro w hc
      rw [ld_43, hc.at hg3 (by simp)]; rfl
    have h64 := pRead_len bs
    have h1000 := pRead_le bs
    have hpk := pRead_picks bs
    have rest : ∀ (t19 : Value) (w4 : World), IsS w4 t19 (pRead bs) → Chg [] w3 w4 →
        CallR Try.prog 38 [.agg #[.slice B (pRead bs).1.length d, .slice D (pRead bs).2.length e], t19] w4 fun t20 w =>
          wpB (pickv (.bool true) (some t20) (some (Go.Value.bool false))) fun t21 =>
          wpB (gd t21 true (ldv Try.prog 43 (.pointer (some ⟨g, 0, none⟩)) w)) fun t23 =>
          gE t21 true (CallR Try.prog 40 [t23] w) (fun t24 w => wpB (pickv t21 (some t24) (some (Go.Value.bool false))) fun t25 => (t25 = .bool true ∧ Below W.heap.size W w)) w := by
      intro t19 w4 hT hc4
      refine (c_SameScript (s := pRead bs) (t := pRead bs) (by omega) (fun l hl => by have := h1000 l hl; omega) (by omega) (hS3.keep hc4.below) hT).mono ?_
      rintro _ w5 ⟨rfl, hb5⟩
      have hc5 := hc4.trans (Chg.of_below hb5 _)
      simp -implicitDefEqProofs only [scEq_self, pickv_true, wpB_some', gd_true, ld w5 hc5, gE_true]
      refine (c_SMay (s := pRead bs) (by omega) (hS3.keep hc5.below)).mono ?_
      rintro _ w6 ⟨rfl, hb6⟩
      simp -implicitDefEqProofs only [mayS_read, pickv_true, wpB_some']
      exact ⟨trivial, ((hc03.trans hc5).trans (Chg.of_below hb6 _)).below⟩
    constructor
    · simp -implicitDefEqProofs only [gd_true, gv_true, gE_true, ld w3.drew (Chg.refl _ _).drew, wpB_some']
      refine (c_ReadScript (W := w3.drew) hSl3 (by omega) hbs).mono ?_
      rintro t19 w4 ⟨hT, hc4⟩
      exact rest t19 w4 hT ((Chg.refl _ _).drew.trans hc4)
    · simp -implicitDefEqProofs only [gd_true, gv_true, gE_true]
      refine (c_ReadScript (W := w3.drew) hSl3 (by omega) hbs).mono ?_
      rintro t19 w4 ⟨hT, hc4⟩
      have hc4' : Chg [] w3 w4 := (Chg.refl _ _).drew.trans hc4
      simp -implicitDefEqProofs only [ld w4 hc4', wpB_some']
      exact rest t19 w4 hT hc4'
end Go.Proofs.Ytkploakfdlnbbaa
