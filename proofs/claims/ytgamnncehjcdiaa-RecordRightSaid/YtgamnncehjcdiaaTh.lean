/- The call of RecordRight answers true. -/
import Derived.Test.YtgamnncehjcdiaaTg
import Derived.Test.YtgamnncehjcdiaaEv15
namespace Go.Proofs.Ytgamnncehjcdiaa
open Go Ev Go.RowKit
set_option linter.unusedSimpArgs false
set_option linter.unusedVariables false
set_option maxRecDepth 10000

theorem At.f11 {w : World} {b o : Nat} {s : SpV} (h : At w b o s) : ldC (hp w b) (o + 11) = some (.int .i64 s.rs) := (h.f 11 (by omega)).trans (sp11 s)
theorem spAt_el {S : List SpV} {i : Nat} (h : i < S.length) : S[i] = spAt S i := by unfold spAt; simp [List.getD_eq_getElem?_getD, h]
theorem spAt_at {w : World} {A : Option Addr} {l : List SpV} {c i : Nat} {j : IntKind} (h : RdV w A (l.flatMap spC)) (hi : i < l.length) :
    ∃ b o, pureRun Try.prog (Instr.indexAt 54 (.slice A l.length c) (.int j i)) = some (.pointer (some ⟨b, o, none⟩)) ∧ At w b o (spAt l i) := by
  have := sp_at' (c := c) (j := j) h hi
  rw [spAt_el hi] at this
  exact this
/-- any third one -/
theorem l_Right5 {W : World} {S : List SpV} (hS : MayP S) (hl : S.length ≤ 1000) {A : Option Addr} {c i k g15 g16 : Nat} (hi : i < S.length) (hk : k < S.length)
    (next : ∀ w, RdV w A (S.flatMap spC) → Chg [] W w → P7_3 (.bool true) (.slice A S.length c) (.int .i64 i) (.int .i64 ((k : Int) + 1)) w (OkT W)) :
    ∀ (d j : Nat) (w : World), RdV w A (S.flatMap spC) → At w g15 0 (spAt S i) → At w g16 0 (spAt S k) → Chg [] W w → j + d = S.length →
      P7_5 (.bool true) (.slice A S.length c) (.int .i64 i) (.int .i64 k) (.pointer (some ⟨g15, 0, none⟩)) (.pointer (some ⟨g16, 0, none⟩)) (.bool (ahead (spAt S i) (spAt S k))) (.int .i64 j) w (OkT W) := by
  intro d
  induction d with
  | zero =>
    intro j w hA h1 h2 hW hj
    apply L7_5_ok
    have : ¬ (j : Int) < S.length := by omega
    simp -implicitDefEqProofs only [L7_5, wpB_some', gd_true, gd_false, gd_tf, gd_ft, gd_ut, gd_uf, gv_true, gv_false, gv_tf, gv_ft, gv_ut, gv_uf, gE_true, gE_false, gE_tf, gE_ft, gE_ut, gE_uf, gU_true, gU_false, gU_tf, gU_ft, pickv_true, pickv_false, cnd_true, cnd_false, decide_true, decide_false, Bool.not_true, Bool.not_false, pr_not, nilv_some, bp_lss, bp_leq, bp_gtr, bp_geq, be_eql, be_neq, bne_self_eq_false, beq_self_eq_true, ldC_some, Option.isNone_none, Option.isNone_some, hp_drew, len_54, this, bp_add, wrapi (n := (k : Int) + 1) (by omega) (by omega)]
    exact next w hA hW
  | succ d ih =>
    intro j w hA h1 h2 hW hj
    apply L7_5_ok
    have hlt : (j : Int) < S.length := by omega
    have hd : Chg [] w w.drew := (Chg.refl _ _).drew
    have go : ∀ w', Chg [] w w' → P7_5 (.bool true) (.slice A S.length c) (.int .i64 i) (.int .i64 k) (.pointer (some ⟨g15, 0, none⟩)) (.pointer (some ⟨g16, 0, none⟩)) (.bool (ahead (spAt S i) (spAt S k))) (.int .i64 ((j : Int) + 1)) w' (OkT W) := fun w' hc => by
      have := ih (j + 1) w' (hA.keep hc.below) (h1.keep hc) (h2.keep hc) (hW.trans hc) (by omega)
      rw [Int.natCast_add j 1] at this
      exact this
    cases ha : ahead (spAt S i) (spAt S k) with
    | false =>
      rw [ha] at go
      simp -implicitDefEqProofs only [L7_5, wpB_some', gd_true, gd_false, gd_tf, gd_ft, gd_ut, gd_uf, gv_true, gv_false, gv_tf, gv_ft, gv_ut, gv_uf, gE_true, gE_false, gE_tf, gE_ft, gE_ut, gE_uf, gU_true, gU_false, gU_tf, gU_ft, pickv_true, pickv_false, cnd_true, cnd_false, decide_true, decide_false, Bool.not_true, Bool.not_false, pr_not, nilv_some, bp_lss, bp_leq, bp_gtr, bp_geq, be_eql, be_neq, bne_self_eq_false, beq_self_eq_true, ldC_some, Option.isNone_none, Option.isNone_some, hp_drew, len_54, hlt, bp_add, wrapi (n := (j : Int) + 1) (by omega) (by omega)]
      exact go _ hd
    | true =>
      rw [ha] at go
      obtain ⟨b, o, q1, q2⟩ := spAt_at (c := c) (j := .i64) (i := j) hA (by omega)
      simp -implicitDefEqProofs only [L7_5, wpB_some', gd_true, gd_false, gd_tf, gd_ft, gd_ut, gd_uf, gv_true, gv_false, gv_tf, gv_ft, gv_ut, gv_uf, gE_true, gE_false, gE_tf, gE_ft, gE_ut, gE_uf, gU_true, gU_false, gU_tf, gU_ft, pickv_true, pickv_false, cnd_true, cnd_false, decide_true, decide_false, Bool.not_true, Bool.not_false, pr_not, nilv_some, bp_lss, bp_leq, bp_gtr, bp_geq, be_eql, be_neq, bne_self_eq_false, beq_self_eq_true, ldC_some, Option.isNone_none, Option.isNone_some, hp_drew, len_54, hlt, q1, (q2.keep hd).ld, (h2.keep hd).ld]
      refine (c_Ahead _ _ _).mono ?_
      rintro v w1 ⟨rfl, c1⟩
      have c1 := hd.trans c1
      cases hb : ahead (spAt S k) (spAt S j) with
      | false =>
        simp -implicitDefEqProofs only [wpB_some', gd_true, gd_false, gd_tf, gd_ft, gd_ut, gd_uf, gv_true, gv_false, gv_tf, gv_ft, gv_ut, gv_uf, gE_true, gE_false, gE_tf, gE_ft, gE_ut, gE_uf, gU_true, gU_false, gU_tf, gU_ft, pickv_true, pickv_false, cnd_true, cnd_false, decide_true, decide_false, Bool.not_true, Bool.not_false, pr_not, nilv_some, bp_lss, bp_leq, bp_gtr, bp_geq, be_eql, be_neq, bne_self_eq_false, beq_self_eq_true, ldC_some, Option.isNone_none, Option.isNone_some, hp_drew, bp_add, wrapi (n := (j : Int) + 1) (by omega) (by omega)]
        exact go _ c1
      | true =>
        simp -implicitDefEqProofs only [wpB_some', gd_true, gd_false, gd_tf, gd_ft, gd_ut, gd_uf, gv_true, gv_false, gv_tf, gv_ft, gv_ut, gv_uf, gE_true, gE_false, gE_tf, gE_ft, gE_ut, gE_uf, gU_true, gU_false, gU_tf, gU_ft, pickv_true, pickv_false, cnd_true, cnd_false, decide_true, decide_false, Bool.not_true, Bool.not_false, pr_not, nilv_some, bp_lss, bp_leq, bp_gtr, bp_geq, be_eql, be_neq, bne_self_eq_false, beq_self_eq_true, ldC_some, Option.isNone_none, Option.isNone_some, hp_drew, q1, (q2.keep c1).ld, (h1.keep c1).ld]
        refine (c_Ahead _ _ _).mono ?_
        rintro v w2 ⟨rfl, c2⟩
        rw [ahead_trans hS hk ha hb]
        simp -implicitDefEqProofs only [wpB_some', gd_true, gd_false, gd_tf, gd_ft, gd_ut, gd_uf, gv_true, gv_false, gv_tf, gv_ft, gv_ut, gv_uf, gE_true, gE_false, gE_tf, gE_ft, gE_ut, gE_uf, gU_true, gU_false, gU_tf, gU_ft, pickv_true, pickv_false, cnd_true, cnd_false, decide_true, decide_false, Bool.not_true, Bool.not_false, pr_not, nilv_some, bp_lss, bp_leq, bp_gtr, bp_geq, be_eql, be_neq, bne_self_eq_false, beq_self_eq_true, ldC_some, Option.isNone_none, Option.isNone_some, hp_drew, bp_add, wrapi (n := (j : Int) + 1) (by omega) (by omega)]
        exact go _ (c1.trans c2)
/-- any two -/
theorem l_Right4 {W : World} {S : List SpV} (hS : MayP S) (hl : S.length ≤ 1000) {A : Option Addr} {c i k g15 g16 : Nat} (hi : i < S.length) (hk : k < S.length)
    (next : ∀ w, RdV w A (S.flatMap spC) → Chg [] W w → P7_3 (.bool true) (.slice A S.length c) (.int .i64 i) (.int .i64 ((k : Int) + 1)) w (OkT W)) {w : World} (hA : RdV w A (S.flatMap spC)) (h1 : At w g15 0 (spAt S i)) (h2 : At w g16 0 (spAt S k)) (hW : Chg [] W w) :
    P7_4 (.bool true) (.slice A S.length c) (.int .i64 i) (.int .i64 k) (.pointer (some ⟨g15, 0, none⟩)) (.pointer (some ⟨g16, 0, none⟩)) w (OkT W) := by
  apply L7_4_ok
  have fin : ∀ w', Chg [] w w' → P7_5 (.bool true) (.slice A S.length c) (.int .i64 i) (.int .i64 k) (.pointer (some ⟨g15, 0, none⟩)) (.pointer (some ⟨g16, 0, none⟩)) (.bool (ahead (spAt S i) (spAt S k))) (.int .i64 0) w' (OkT W) := fun w' hc =>
    l_Right5 hS hl hi hk next S.length 0 w' (hA.keep hc.below) (h1.keep hc) (h2.keep hc) (hW.trans hc) (by omega)
  by_cases z1 : 0 ≤ (spAt S i).rs
  · by_cases z2 : (spAt S i).rs < (spAt S k).iv
    · have ha : ahead (spAt S i) (spAt S k) = true := (ahead_iff _ _).2 ⟨z1, z2⟩
      obtain ⟨n1, n2⟩ := ahead_not hS hi hk ha
      have n3 : ¬ (k : Int) ≤ i := by omega
      simp -implicitDefEqProofs only [L7_4, wpB_some', gd_true, gd_false, gd_tf, gd_ft, gd_ut, gd_uf, gv_true, gv_false, gv_tf, gv_ft, gv_ut, gv_uf, gE_true, gE_false, gE_tf, gE_ft, gE_ut, gE_uf, gU_true, gU_false, gU_tf, gU_ft, pickv_true, pickv_false, cnd_true, cnd_false, decide_true, decide_false, Bool.not_true, Bool.not_false, pr_not, nilv_some, bp_lss, bp_leq, bp_gtr, bp_geq, be_eql, be_neq, bne_self_eq_false, beq_self_eq_true, ldC_some, Option.isNone_none, Option.isNone_some, hp_drew, fa_58_6, fa_58_3, ld_3, h1.f11, h2.f8, z1, z2, h1.ld, h2.ld]
      refine (c_Ahead _ _ _).mono ?_
      rintro v w1 ⟨rfl, c1⟩
      rw [ha]
      simp -implicitDefEqProofs only [be_neqb Try.underlying4, wpB_some', gd_true, gd_false, gd_tf, gd_ft, gd_ut, gd_uf, gv_true, gv_false, gv_tf, gv_ft, gv_ut, gv_uf, gE_true, gE_false, gE_tf, gE_ft, gE_ut, gE_uf, gU_true, gU_false, gU_tf, gU_ft, pickv_true, pickv_false, cnd_true, cnd_false, decide_true, decide_false, Bool.not_true, Bool.not_false, pr_not, nilv_some, bp_lss, bp_leq, bp_gtr, bp_geq, be_eql, be_neq, bne_self_eq_false, beq_self_eq_true, ldC_some, Option.isNone_none, Option.isNone_some, hp_drew, (h1.keep c1).ld, (h2.keep c1).ld]
      refine (c_Ahead _ _ _).mono ?_
      rintro v w2 ⟨rfl, c2⟩
      rw [n1]
      simp -implicitDefEqProofs only [wpB_some', gd_true, gd_false, gd_tf, gd_ft, gd_ut, gd_uf, gv_true, gv_false, gv_tf, gv_ft, gv_ut, gv_uf, gE_true, gE_false, gE_tf, gE_ft, gE_ut, gE_uf, gU_true, gU_false, gU_tf, gU_ft, pickv_true, pickv_false, cnd_true, cnd_false, decide_true, decide_false, Bool.not_true, Bool.not_false, pr_not, nilv_some, bp_lss, bp_leq, bp_gtr, bp_geq, be_eql, be_neq, bne_self_eq_false, beq_self_eq_true, ldC_some, Option.isNone_none, Option.isNone_some, hp_drew, n3]
      have := fin w2 (c1.trans c2)
      rw [ha] at this
      exact this
    · have ha : ahead (spAt S i) (spAt S k) = false := by rw [Bool.eq_false_iff]; intro h; exact z2 ((ahead_iff _ _).1 h).2
      simp -implicitDefEqProofs only [L7_4, wpB_some', gd_true, gd_false, gd_tf, gd_ft, gd_ut, gd_uf, gv_true, gv_false, gv_tf, gv_ft, gv_ut, gv_uf, gE_true, gE_false, gE_tf, gE_ft, gE_ut, gE_uf, gU_true, gU_false, gU_tf, gU_ft, pickv_true, pickv_false, cnd_true, cnd_false, decide_true, decide_false, Bool.not_true, Bool.not_false, pr_not, nilv_some, bp_lss, bp_leq, bp_gtr, bp_geq, be_eql, be_neq, bne_self_eq_false, beq_self_eq_true, ldC_some, Option.isNone_none, Option.isNone_some, hp_drew, fa_58_6, fa_58_3, ld_3, h1.f11, h2.f8, z1, z2, h1.ld, h2.ld]
      refine (c_Ahead _ _ _).mono ?_
      rintro v w1 ⟨rfl, c1⟩
      rw [ha]
      simp -implicitDefEqProofs only [be_neqb Try.underlying4, wpB_some', gd_true, gd_false, gd_tf, gd_ft, gd_ut, gd_uf, gv_true, gv_false, gv_tf, gv_ft, gv_ut, gv_uf, gE_true, gE_false, gE_tf, gE_ft, gE_ut, gE_uf, gU_true, gU_false, gU_tf, gU_ft, pickv_true, pickv_false, cnd_true, cnd_false, decide_true, decide_false, Bool.not_true, Bool.not_false, pr_not, nilv_some, bp_lss, bp_leq, bp_gtr, bp_geq, be_eql, be_neq, bne_self_eq_false, beq_self_eq_true, ldC_some, Option.isNone_none, Option.isNone_some, hp_drew]
      have := fin w1 c1
      rw [ha] at this
      exact this
  · have ha : ahead (spAt S i) (spAt S k) = false := by rw [Bool.eq_false_iff]; intro h; exact z1 ((ahead_iff _ _).1 h).1
    simp -implicitDefEqProofs only [L7_4, wpB_some', gd_true, gd_false, gd_tf, gd_ft, gd_ut, gd_uf, gv_true, gv_false, gv_tf, gv_ft, gv_ut, gv_uf, gE_true, gE_false, gE_tf, gE_ft, gE_ut, gE_uf, gU_true, gU_false, gU_tf, gU_ft, pickv_true, pickv_false, cnd_true, cnd_false, decide_true, decide_false, Bool.not_true, Bool.not_false, pr_not, nilv_some, bp_lss, bp_leq, bp_gtr, bp_geq, be_eql, be_neq, bne_self_eq_false, beq_self_eq_true, ldC_some, Option.isNone_none, Option.isNone_some, hp_drew, fa_58_6, ld_3, h1.f11, z1, h1.ld, h2.ld]
    refine (c_Ahead _ _ _).mono ?_
    rintro v w1 ⟨rfl, c1⟩
    rw [ha]
    simp -implicitDefEqProofs only [be_neqb Try.underlying4, wpB_some', gd_true, gd_false, gd_tf, gd_ft, gd_ut, gd_uf, gv_true, gv_false, gv_tf, gv_ft, gv_ut, gv_uf, gE_true, gE_false, gE_tf, gE_ft, gE_ut, gE_uf, gU_true, gU_false, gU_tf, gU_ft, pickv_true, pickv_false, cnd_true, cnd_false, decide_true, decide_false, Bool.not_true, Bool.not_false, pr_not, nilv_some, bp_lss, bp_leq, bp_gtr, bp_geq, be_eql, be_neq, bne_self_eq_false, beq_self_eq_true, ldC_some, Option.isNone_none, Option.isNone_some, hp_drew]
    have := fin w1 c1
    rw [ha] at this
    exact this
/-- two variables are made, and set -/
theorem two_vars {w : World} {a b : SpV} {z : Array Value} (hz : z.size = 20) :
    At (put (put ((w.alloc (.cells z 58)).alloc (.cells z 58)) w.heap.size (spA a) 58) (w.heap.size + 1) (spA b) 58) w.heap.size 0 a ∧ At (put (put ((w.alloc (.cells z 58)).alloc (.cells z 58)) w.heap.size (spA a) 58) (w.heap.size + 1) (spA b) 58) (w.heap.size + 1) 0 b ∧ Chg [] w (put (put ((w.alloc (.cells z 58)).alloc (.cells z 58)) w.heap.size (spA a) 58) (w.heap.size + 1) (spA b) 58) := by
  refine ⟨at_blk (e := 58) ?_, at_blk (e := 58) ?_, (((((Chg.refl _ _).alloc _).alloc _).put (.inr (Nat.le_refl _)) _ _).put (.inr (Nat.le_succ _)) _ _)⟩
  · simp
  · simp
theorem two_vars' {w : World} {a b : SpV} {z : Array Value} (hz : z.size = 20) :
    At (put (put ((w.alloc (.cells z 58)).alloc (.cells z 58)) (w.heap.size + 1) (spA a) 58) w.heap.size (spA b) 58) (w.heap.size + 1) 0 a ∧ At (put (put ((w.alloc (.cells z 58)).alloc (.cells z 58)) (w.heap.size + 1) (spA a) 58) w.heap.size (spA b) 58) w.heap.size 0 b ∧ Chg [] w (put (put ((w.alloc (.cells z 58)).alloc (.cells z 58)) (w.heap.size + 1) (spA a) 58) w.heap.size (spA b) 58) := by
  refine ⟨at_blk (e := 58) ?_, at_blk (e := 58) ?_, (((((Chg.refl _ _).alloc _).alloc _).put (.inr (Nat.le_succ _)) _ _).put (.inr (Nat.le_refl _)) _ _)⟩
  · simp
  · simp
set_option maxHeartbeats 2000000 in
theorem l_Right3 {W : World} {S : List SpV} (hS : MayP S) (hl : S.length ≤ 1000) {A : Option Addr} {c i : Nat} (hi : i < S.length)
    (next : ∀ w, RdV w A (S.flatMap spC) → Chg [] W w → P7_2 (.bool true) (.slice A S.length c) (.int .i64 ((i : Int) + 1)) w (OkT W)) :
    ∀ (d k : Nat) (w : World), RdV w A (S.flatMap spC) → Chg [] W w → k + d = S.length → P7_3 (.bool true) (.slice A S.length c) (.int .i64 i) (.int .i64 k) w (OkT W) := by
  intro d
  induction d with
  | zero =>
    intro k w hA hW hk
    apply L7_3_ok
    have : ¬ (k : Int) < S.length := by omega
    simp -implicitDefEqProofs only [L7_3, wpB_some', gd_true, gd_false, gd_tf, gd_ft, gd_ut, gd_uf, gv_true, gv_false, gv_tf, gv_ft, gv_ut, gv_uf, gE_true, gE_false, gE_tf, gE_ft, gE_ut, gE_uf, gU_true, gU_false, gU_tf, gU_ft, pickv_true, pickv_false, cnd_true, cnd_false, decide_true, decide_false, Bool.not_true, Bool.not_false, pr_not, nilv_some, bp_lss, bp_leq, bp_gtr, bp_geq, be_eql, be_neq, bne_self_eq_false, beq_self_eq_true, ldC_some, Option.isNone_none, Option.isNone_some, hp_drew, len_54, this, bp_add, wrapi (n := (i : Int) + 1) (by omega) (by omega)]
    exact next w hA hW
  | succ d ih =>
    intro k w hA hW hk
    apply L7_3_ok
    have hlt : (k : Int) < S.length := by omega
    have hkl : k < S.length := by omega
    have nx : ∀ w, RdV w A (S.flatMap spC) → Chg [] W w → P7_3 (.bool true) (.slice A S.length c) (.int .i64 i) (.int .i64 ((k : Int) + 1)) w (OkT W) := fun w' hA' hW' => by
      have := ih (k + 1) w' hA' hW' (by omega)
      rw [Int.natCast_add k 1] at this
      exact this
    have hd : Chg [] w w.drew := (Chg.refl _ _).drew
    obtain ⟨b, o, q1, q2⟩ := spAt_at (c := c) (j := .i64) (i := k) hA hkl
    obtain ⟨b', o', p1, p2⟩ := spAt_at (c := c) (j := .i64) (i := i) hA hi
    have q3 := q2.keep hd
    have p3 := p2.keep hd
    have keep : ∀ (z z' : Array Value), At (put ((w.drew.alloc (.cells z 58)).alloc (.cells z 58)) w.drew.heap.size z' 58) b o (spAt S k) := fun z z' =>
      q3.keep ((((Chg.refl _ _).alloc _).alloc _).put (.inr (Nat.le_refl _)) _ _)
    have keep' : ∀ (z z' : Array Value), At (put ((w.drew.alloc (.cells z 58)).alloc (.cells z 58)) (w.drew.heap.size + 1) z' 58) b o (spAt S k) := fun z z' =>
      q3.keep ((((Chg.refl _ _).alloc _).alloc _).put (.inr (Nat.le_succ _)) _ _)
    simp -implicitDefEqProofs only [L7_3, wpB_some', gd_true, gd_false, gd_tf, gd_ft, gd_ut, gd_uf, gv_true, gv_false, gv_tf, gv_ft, gv_ut, gv_uf, gE_true, gE_false, gE_tf, gE_ft, gE_ut, gE_uf, gU_true, gU_false, gU_tf, gU_ft, pickv_true, pickv_false, cnd_true, cnd_false, decide_true, decide_false, Bool.not_true, Bool.not_false, pr_not, nilv_some, bp_lss, bp_leq, bp_gtr, bp_geq, be_eql, be_neq, bne_self_eq_false, beq_self_eq_true, ldC_some, Option.isNone_none, Option.isNone_some, hp_drew, len_54, hlt, q1, p1, q3.ld, p3.ld, al_58, alloc_size]
    generalize hz : (#[Value.int .i64 0, .int .i64 0, .int .i64 0, .int .i64 0, .int .i64 0, .int .i64 0, .int .u64 0, .int .u64 0, .int .i64 0, .int .i64 0, .int .i64 0, .int .i64 0, .int .i64 0, .int .i64 0, .int .i64 0, .int .i64 0, .int .i64 0, .int .i64 0, .int .i64 0, .int .u64 0] : Array Value) = z
    have hzs : z.size = 20 := by rw [← hz]; rfl
    have st1 : ∀ (s : SpV) L, effu Try.prog (Instr.storeAt 58 (.pointer (some ⟨w.drew.heap.size, 0, none⟩)) (.agg (spA s))) ((w.drew.alloc (.cells z 58)).alloc (.cells z 58)) L = L (put ((w.drew.alloc (.cells z 58)).alloc (.cells z 58)) w.drew.heap.size (spA s) 58) := fun s L => by
      rw [st_58 rfl rfl (by simp [hzs]) (by simp [hzs])]; simp
    have st2 : ∀ (s : SpV) L, effu Try.prog (Instr.storeAt 58 (.pointer (some ⟨w.drew.heap.size + 1, 0, none⟩)) (.agg (spA s))) ((w.drew.alloc (.cells z 58)).alloc (.cells z 58)) L = L (put ((w.drew.alloc (.cells z 58)).alloc (.cells z 58)) (w.drew.heap.size + 1) (spA s) 58) := fun s L => by
      rw [st_58 rfl rfl (by simp [hzs]) (by simp [hzs])]; simp
    have st3 : ∀ (s t : SpV) L, effu Try.prog (Instr.storeAt 58 (.pointer (some ⟨w.drew.heap.size + 1, 0, none⟩)) (.agg (spA s))) (put ((w.drew.alloc (.cells z 58)).alloc (.cells z 58)) w.drew.heap.size (spA t) 58) L = L (put (put ((w.drew.alloc (.cells z 58)).alloc (.cells z 58)) w.drew.heap.size (spA t) 58) (w.drew.heap.size + 1) (spA s) 58) := fun s t L => by
      rw [st_58 rfl rfl (by simp [hzs]) (by simp [hzs])]; simp
    have st4 : ∀ (s t : SpV) L, effu Try.prog (Instr.storeAt 58 (.pointer (some ⟨w.drew.heap.size, 0, none⟩)) (.agg (spA s))) (put ((w.drew.alloc (.cells z 58)).alloc (.cells z 58)) (w.drew.heap.size + 1) (spA t) 58) L = L (put (put ((w.drew.alloc (.cells z 58)).alloc (.cells z 58)) (w.drew.heap.size + 1) (spA t) 58) w.drew.heap.size (spA s) 58) := fun s t L => by
      rw [st_58 rfl rfl (by simp [hzs]) (by simp [hzs])]; simp
    have go1 := two_vars (w := w.drew) (a := spAt S i) (b := spAt S k) hzs
    have go2 := two_vars' (w := w.drew) (a := spAt S i) (b := spAt S k) hzs
    have hWd : Chg [] W w.drew := hW.drew
    have f1 := l_Right4 hS hl (c := c) (A := A) hi hkl nx ((hA.keep hd.below).keep go1.2.2.below) go1.1 go1.2.1 (hWd.trans go1.2.2)
    have f2 := l_Right4 hS hl (c := c) (A := A) hi hkl nx ((hA.keep hd.below).keep go2.2.2.below) go2.1 go2.2.1 (hWd.trans go2.2.2)
    simp -implicitDefEqProofs only [st1, st2, st3, st4, (keep _ _).ld, (keep' _ _).ld, wpB_some']
    exact ⟨⟨f1, f2⟩, ⟨f1, f2⟩⟩
theorem l_Right2 {W : World} {S : List SpV} (hS : MayP S) (hl : S.length ≤ 1000) {A : Option Addr} {c : Nat} : ∀ (d i : Nat) (w : World), RdV w A (S.flatMap spC) → Chg [] W w → i + d = S.length → P7_2 (.bool true) (.slice A S.length c) (.int .i64 i) w (OkT W) := by
  intro d
  induction d with
  | zero =>
    intro i w hA hW hi
    apply L7_2_ok
    have : ¬ (i : Int) < S.length := by omega
    simp -implicitDefEqProofs only [L7_2, wpB_some', gd_true, gd_false, gd_tf, gd_ft, gd_ut, gd_uf, gv_true, gv_false, gv_tf, gv_ft, gv_ut, gv_uf, gE_true, gE_false, gE_tf, gE_ft, gE_ut, gE_uf, gU_true, gU_false, gU_tf, gU_ft, pickv_true, pickv_false, cnd_true, cnd_false, decide_true, decide_false, Bool.not_true, Bool.not_false, pr_not, nilv_some, bp_lss, bp_leq, bp_gtr, bp_geq, be_eql, be_neq, bne_self_eq_false, beq_self_eq_true, ldC_some, Option.isNone_none, Option.isNone_some, hp_drew, len_54, this]
    exact ⟨rfl, hW.below⟩
  | succ d ih =>
    intro i w hA hW hi
    apply L7_2_ok
    have hlt : (i : Int) < S.length := by omega
    simp -implicitDefEqProofs only [L7_2, wpB_some', gd_true, gd_false, gd_tf, gd_ft, gd_ut, gd_uf, gv_true, gv_false, gv_tf, gv_ft, gv_ut, gv_uf, gE_true, gE_false, gE_tf, gE_ft, gE_ut, gE_uf, gU_true, gU_false, gU_tf, gU_ft, pickv_true, pickv_false, cnd_true, cnd_false, decide_true, decide_false, Bool.not_true, Bool.not_false, pr_not, nilv_some, bp_lss, bp_leq, bp_gtr, bp_geq, be_eql, be_neq, bne_self_eq_false, beq_self_eq_true, ldC_some, Option.isNone_none, Option.isNone_some, hp_drew, len_54, hlt]
    exact l_Right3 hS hl (i := i) (by omega) (fun w' hA' hW' => by
      have := ih (i + 1) w' hA' hW' (by omega)
      rw [Int.natCast_add i 1] at this
      exact this) S.length 0 w hA hW (by omega)
end Go.Proofs.Ytgamnncehjcdiaa
