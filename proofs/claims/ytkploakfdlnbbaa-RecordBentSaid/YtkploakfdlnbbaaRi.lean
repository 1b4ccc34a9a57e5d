/- Spans: any two, ahead, asked of both. -/
import Derived.Test.YtkploakfdlnbbaaRh
namespace Go.Proofs.Ytkploakfdlnbbaa
open Go Ev Go.RowKit
set_option linter.unusedSimpArgs false
set_option linter.unusedVariables false
set_option maxRecDepth 10000

set_option maxHeartbeats 1000000 in
theorem l_both1 {l : List SpV} (hl : l.length ≤ 1000000) {A : Option Addr} {c i : Nat} (hi : i < l.length) {W : World} (next : ∀ w, RdV w A (l.flatMap spC) → Chg [] W w → P12_0 (.slice A l.length c) (.bool true) (.int .i64 ((i : Int) + 1)) w fun v w' => v = .bool true ∧ Chg [] W w') :
    ∀ (d k : Nat) (w : World), RdV w A (l.flatMap spC) → Chg [] W w → k + d = l.length → P12_1 (.slice A l.length c) (.bool true) (.int .i64 i) (.int .i64 k) w fun v w' => v = .bool true ∧ Chg [] W w' := by
  intro d
  induction d with
  | zero =>
    intro k w hA hW hk
    apply L12_1_ok
    have : ¬ ((k : Int) < l.length) := by omega
    simp -implicitDefEqProofs only [L12_1, len_48, wpB_some', bp_lss, this, decide_false, cnd_false, bp_add, wrapi (n := (i : Int) + 1) (by omega) (by omega)]
    exact next w hA hW
  | succ d ih =>
    intro k w hA hW hk
    apply L12_1_ok
    have hlt : (k : Int) < l.length := by omega
    have hkl : k < l.length := by omega
    obtain ⟨b, o, q1, q2⟩ := sp_at' (c := c) (j := .i64) (i := k) hA hkl
    obtain ⟨b', o', p1, p2⟩ := sp_at' (c := c) (j := .i64) (i := i) hA hi
    have ldk : ∀ w', Chg [] w w' → ldv Try.prog 59 (.pointer (some ⟨b, o, none⟩)) w' = some (.agg (spA l[k])) := fun w' hc => (q2.keep hc).ld
    have ldi : ∀ w', Chg [] w w' → ldv Try.prog 59 (.pointer (some ⟨b', o', none⟩)) w' = some (.agg (spA l[i])) := fun w' hc => (p2.keep hc).ld
    have hd : Chg [] w w.drew := (Chg.refl _ _).drew
    have go : ∀ w', Chg [] w w' → P12_2 (.slice A l.length c) (.bool true) (.int .i64 i) (.int .i64 k) (.bool false) w' fun v w' => v = .bool true ∧ Chg [] W w' := by
      intro w' hc
      apply L12_2_ok
      simp -implicitDefEqProofs only [L12_2, cnd_false, bp_add, wpB_some', wrapi (n := (k : Int) + 1) (by omega) (by omega)]
      have h := ih (k + 1) w' (hA.keep hc.below) (hW.trans hc) (by omega)
      rw [Int.natCast_add k 1] at h
      exact h
    simp -implicitDefEqProofs only [L12_1, len_48, wpB_some', bp_lss, hlt, decide_true, cnd_true, q1, p1, ldk _ hd, ldi _ hd]
    repeat' apply And.intro
    all_goals
      first
      | (refine (c_Ahead _ _ _).mono ?_
         rintro v w1 ⟨rfl, hc1⟩
         have hc1 := hd.trans hc1
         try simp -implicitDefEqProofs only [q1, p1, ldk _ hc1, ldi _ hc1, wpB_some']
         refine (c_AheadRef _ _ _).mono ?_
         rintro v w2 ⟨rfl, hc2⟩
         have hc2 := hc1.trans hc2
         simp -implicitDefEqProofs only [be_neqb Try.underlying4, bne_self_eq_false, wpB_some']
         exact go w2 hc2)
      | (refine (c_AheadRef _ _ _).mono ?_
         rintro v w1 ⟨rfl, hc1⟩
         have hc1 := hd.trans hc1
         try simp -implicitDefEqProofs only [q1, p1, ldk _ hc1, ldi _ hc1, wpB_some']
         refine (c_Ahead _ _ _).mono ?_
         rintro v w2 ⟨rfl, hc2⟩
         have hc2 := hc1.trans hc2
         simp -implicitDefEqProofs only [be_neqb Try.underlying4, bne_self_eq_false, wpB_some']
         exact go w2 hc2)
theorem l_both0 {l : List SpV} (hl : l.length ≤ 1000000) {A : Option Addr} {c : Nat} {W : World} : ∀ (d i : Nat) (w : World), RdV w A (l.flatMap spC) → Chg [] W w → i + d = l.length → P12_0 (.slice A l.length c) (.bool true) (.int .i64 i) w fun v w' => v = .bool true ∧ Chg [] W w' := by
  intro d
  induction d with
  | zero =>
    intro i w hA hW hi
    apply L12_0_ok
    have : ¬ ((i : Int) < l.length) := by omega
    simp -implicitDefEqProofs only [L12_0, len_48, wpB_some', bp_lss, this, decide_false, cnd_false]
    exact ⟨trivial, hW⟩
  | succ d ih =>
    intro i w hA hW hi
    apply L12_0_ok
    have hlt : (i : Int) < l.length := by omega
    simp -implicitDefEqProofs only [L12_0, len_48, wpB_some', bp_lss, hlt, decide_true, cnd_true]
    exact l_both1 hl (i := i) (by omega) (fun w' hA' hW' => by
      have h := ih (i + 1) w' hA' hW' (by omega)
      rw [Int.natCast_add i 1] at h
      exact h) l.length 0 w hA hW (by omega)
end Go.Proofs.Ytkploakfdlnbbaa
