/- The call of ScriptCuts answers true. -/
import Derived.Test.YtgamnncehjcdiaaVi
namespace Go.Proofs.Ytgamnncehjcdiaa
open Go Ev Go.RowKit Go.ChangeShapes
set_option linter.unusedSimpArgs false
set_option linter.unusedVariables false
set_option maxRecDepth 10000

/-- a script in a block -/
structure ScB (w : World) (g : Nat) (s : ScV) (A : Option Addr) (c : Nat) (vs : List Value) (B : Option Addr) (d : Nat) : Prop where
  hb : hp w g = some (.cells #[.slice A s.1.length c, .slice B s.2.length d] 25)
  rd : RdV w A vs
  len : vs.length = s.1.length
  el : ∀ (j : Nat) (x : Value) (ops : List OpV), vs[j]? = some x → s.1[j]? = some ops → SlO w x ops
  num : RdI .i64 w B s.2
theorem ScB.drew {w : World} {g : Nat} {s : ScV} {A : Option Addr} {c : Nat} {vs : List Value} {B : Option Addr} {d : Nat} (h : ScB w g s A c vs B d) : ScB w.drew g s A c vs B d := ⟨h.hb, h.rd, h.len, h.el, h.num⟩
theorem ScB.keep {w w' : World} {g : Nat} {s : ScV} {A : Option Addr} {c : Nat} {vs : List Value} {B : Option Addr} {d : Nat} (h : ScB w g s A c vs B d) (hc : Chg [] w w') : ScB w' g s A c vs B d :=
  ⟨hc.at h.hb (by simp), h.rd.keep hc.below, h.len, fun j x ops a b => (h.el j x ops a b).keep hc.below, h.num.keep hc.below⟩
theorem ScB.at {w : World} {g : Nat} {s : ScV} {A : Option Addr} {c : Nat} {vs : List Value} {B : Option Addr} {d : Nat} (h : ScB w g s A c vs B d) {i : Nat} {l : List OpV} (hl : s.1[i]? = some l) :
    ∃ b o A' c', pureRun Try.prog (Instr.indexAt 22 (.slice A s.1.length c) (.int .i64 i)) = some (.pointer (some ⟨b, o, none⟩)) ∧ ldC (hp w b) o = some (.slice A' l.length c') ∧ RdV w A' (l.flatMap opC) := by
  have hi := (List.getElem?_eq_some_iff.1 hl).1
  obtain ⟨x, hx⟩ : ∃ x, vs[i]? = some x := ⟨_, List.getElem?_eq_getElem (by rw [h.len]; exact hi)⟩
  obtain ⟨b, o, q1, q2⟩ := val_at (c := c) (j := .i64) h.rd h.len hx
  obtain ⟨A', c', rfl, r⟩ := h.el i x l hx hl
  exact ⟨b, o, A', c', q1, q2, r⟩
/-- what is known of the two -/
structure CutI (s r : ScV) (n k : Nat) : Prop where
  fs : s.1.length ≤ 64
  fp : s.2.length ≤ 300
  fc : tot s.1 ≤ 40
  cut : Cut r.1 s.1
  pre : r.2 <+: s.2
  sh : (∃ (j : Nat) (l' l : List OpV), r.1[j]? = some l' ∧ s.1[j]? = some l ∧ l'.length < l.length) → r.2 = []
  last : s.2.length ≤ n - k ∨ r.2.length + (n - k) = s.2.length
  kn : k ≤ n
  nn : n ≤ 700000
section
variable {W : World} {g8 g12 : Nat} {s r : ScV} {n k : Nat} {A : Option Addr} {c : Nat} {vs : List Value} {B : Option Addr} {d : Nat} {A' : Option Addr} {c' : Nat} {vs' : List Value} {B' : Option Addr} {d' : Nat} {bA : Option Addr} {bc : Nat}
set_option maxHeartbeats 2000000 in
theorem l_cut2 (H : CutI s r n k) {short : Bool} (hsh : short = true → r.2 = []) : ∀ (e i : Nat) (w : World), ScB w g8 s A c vs B d → ScB w g12 r A' c' vs' B' d' → Chg [] W w → i + e = r.2.length →
    P5_2 (.bool true) (.pointer (some ⟨g8, 0, none⟩)) (.slice bA n bc) (.int .i64 k) (.pointer (some ⟨g12, 0, none⟩)) (.bool short) (.int .i64 i) w (OkS W) := by
  have hf := H.fp
  have hkn := H.kn
  have hnn := H.nn
  have hrl := H.pre.length_le
  intro e
  induction e with
  | zero =>
    intro i w h8 h12 hc hi
    apply L5_2_ok
    have hlt : ¬ (i : Int) < r.2.length := by omega
    have e1 : (n : Int) - k = ((n - k : Nat) : Int) := by omega
    by_cases hge : (s.2.length : Int) ≤ ((n - k : Nat) : Int)
    · simp -implicitDefEqProofs only [L5_2, wpB_some', gd_true, gd_false, gd_tf, gd_ft, gd_ut, gd_uf, gv_true, gv_false, gv_tf, gv_ft, gv_ut, gv_uf, gE_true, gE_false, gE_tf, gE_ft, gE_ut, gE_uf, gU_true, gU_false, gU_tf, gU_ft, pickv_true, pickv_false, cnd_true, cnd_false, decide_true, decide_false, Bool.not_true, Bool.not_false, pr_not, nilv_some, bp_lss, bp_leq, bp_gtr, bp_geq, be_eql, be_neq, bne_self_eq_false, beq_self_eq_true, ldC_some, Option.isNone_none, Option.isNone_some, hp_drew, fa_25_1, ld_23, h8.hb, h12.hb, t2_1, len_23, len_28, hlt, bp_sub, e1, wrapi (n := ((n - k : Nat) : Int)) (by omega) (by omega), bp_geq, hge]
      exact ⟨rfl, hc.below⟩
    · have e2 : (r.2.length : Int) = (s.2.length : Int) - ((n - k : Nat) : Int) := by have := H.last; omega
      have e3 : ((r.2.length : Int) == (s.2.length : Int) - ((n - k : Nat) : Int)) = true := by rw [e2]; simp
      simp -implicitDefEqProofs only [L5_2, wpB_some', gd_true, gd_false, gd_tf, gd_ft, gd_ut, gd_uf, gv_true, gv_false, gv_tf, gv_ft, gv_ut, gv_uf, gE_true, gE_false, gE_tf, gE_ft, gE_ut, gE_uf, gU_true, gU_false, gU_tf, gU_ft, pickv_true, pickv_false, cnd_true, cnd_false, decide_true, decide_false, Bool.not_true, Bool.not_false, pr_not, nilv_some, bp_lss, bp_leq, bp_gtr, bp_geq, be_eql, be_neq, bne_self_eq_false, beq_self_eq_true, ldC_some, Option.isNone_none, Option.isNone_some, hp_drew, fa_25_1, ld_23, h8.hb, h12.hb, t2_1, len_23, len_28, hlt, bp_sub, e1, wrapi (n := ((n - k : Nat) : Int)) (by omega) (by omega), wrapi (n := (s.2.length : Int) - ((n - k : Nat) : Int)) (by omega) (by omega), bp_geq, hge, e3]
      exact ⟨rfl, hc.below⟩
  | succ e ih =>
    intro i w h8 h12 hc hi
    apply L5_2_ok
    have hlt : (i : Int) < r.2.length := by omega
    have hs : short = false := by
      cases short with
      | false => rfl
      | true => have := hsh rfl; rw [this] at hi; simp at hi
    subst hs
    have hir : i < r.2.length := by omega
    have his : i < s.2.length := by omega
    obtain ⟨q, q1, q2⟩ := (h12.num.drew).at (P := Try.prog) (c := d') (j := .i64) Try.underlying23 Try.underlying3 sz_3 (i := (i : Int)) (by omega) (by omega)
    obtain ⟨p, p1, p2⟩ := (h8.num.drew).at (P := Try.prog) (c := d) (j := .i64) Try.underlying23 Try.underlying3 sz_3 (i := (i : Int)) (by omega) (by omega)
    have hv : r.2.getD i 0 = s.2.getD i 0 := by
      obtain ⟨u, hu⟩ := H.pre
      rw [List.getD_eq_getElem?_getD, List.getD_eq_getElem?_getD, ← hu, List.getElem?_append_left hir]
    rw [Int.toNat_natCast] at q2 p2
    rw [hv] at q2
    have hne : (s.2.getD i 0 != s.2.getD i 0) = false := by simp
    simp -implicitDefEqProofs only [L5_2, wpB_some', gd_true, gd_false, gd_tf, gd_ft, gd_ut, gd_uf, gv_true, gv_false, gv_tf, gv_ft, gv_ut, gv_uf, gE_true, gE_false, gE_tf, gE_ft, gE_ut, gE_uf, gU_true, gU_false, gU_tf, gU_ft, pickv_true, pickv_false, cnd_true, cnd_false, decide_true, decide_false, Bool.not_true, Bool.not_false, pr_not, nilv_some, bp_lss, bp_leq, bp_gtr, bp_geq, be_eql, be_neq, bne_self_eq_false, beq_self_eq_true, ldC_some, Option.isNone_none, Option.isNone_some, hp_drew, fa_25_1, ld_23, h8.hb, h12.hb, t2_1, len_23, hlt, q1, q2, p1, p2, hne, bp_add, wrapi (n := (i : Int) + 1) (by omega) (by omega)]
    have := ih (i + 1) w.drew h8.drew h12.drew hc.drew (by omega)
    rw [Int.natCast_add i 1] at this
    exact this
set_option maxHeartbeats 2000000 in
theorem l_cut1 (H : CutI s r n k) {short : Bool} {i : Nat} {l' l : List OpV} (hl' : r.1[i]? = some l') (hl : s.1[i]? = some l)
    (next : ∀ w, ScB w g8 s A c vs B d → ScB w g12 r A' c' vs' B' d' → Chg [] W w → P5_0 (.bool true) (.pointer (some ⟨g8, 0, none⟩)) (.slice bA n bc) (.int .i64 k) (.pointer (some ⟨g12, 0, none⟩)) (.bool (short || decide (l'.length < l.length))) (.int .i64 ((i : Int) + 1)) w (OkS W)) :
    ∀ (e j : Nat) (w : World), ScB w g8 s A c vs B d → ScB w g12 r A' c' vs' B' d' → Chg [] W w → j + e = l'.length →
    P5_1 (.bool true) (.pointer (some ⟨g8, 0, none⟩)) (.slice bA n bc) (.int .i64 k) (.pointer (some ⟨g12, 0, none⟩)) (.bool short) (.int .i64 i) (.int .i64 j) w (OkS W) := by
  have hpre := H.cut.2.1 i l' l hl' hl
  have hll := hpre.length_le
  have hil := (List.getElem?_eq_some_iff.1 hl).1
  have hfs := H.fs
  have htl : l.length ≤ 40 := by have := tot_ge (List.mem_of_getElem? hl); have := H.fc; omega
  intro e
  induction e with
  | zero =>
    intro j w h8 h12 hc hj
    apply L5_1_ok
    obtain ⟨b, o, X, y, q1, q2, q3⟩ := h12.at hl'
    obtain ⟨b2, o2, X2, y2, p1, p2, p3⟩ := h8.at hl
    have hlt : ¬ (j : Int) < l'.length := by omega
    have next := next w.drew h8.drew h12.drew hc.drew
    cases short with
    | true =>
      simp -implicitDefEqProofs only [L5_1, wpB_some', gd_true, gd_false, gd_tf, gd_ft, gd_ut, gd_uf, gv_true, gv_false, gv_tf, gv_ft, gv_ut, gv_uf, gE_true, gE_false, gE_tf, gE_ft, gE_ut, gE_uf, gU_true, gU_false, gU_tf, gU_ft, pickv_true, pickv_false, cnd_true, cnd_false, decide_true, decide_false, Bool.not_true, Bool.not_false, pr_not, nilv_some, bp_lss, bp_leq, bp_gtr, bp_geq, be_eql, be_neq, bne_self_eq_false, beq_self_eq_true, ldC_some, Option.isNone_none, Option.isNone_some, hp_drew, fa_25_0, ld_22, ld_27, h8.hb, h12.hb, t2_0, q1, q2, p1, p2, len_27, hlt, bp_add, wrapi (n := (i : Int) + 1) (by omega) (by omega)]
      simp only [Bool.true_or] at next
      exact next
    | false =>
      have hd : decide ((l'.length : Int) < l.length) = decide (l'.length < l.length) := by simp
      simp -implicitDefEqProofs only [L5_1, wpB_some', gd_true, gd_false, gd_tf, gd_ft, gd_ut, gd_uf, gv_true, gv_false, gv_tf, gv_ft, gv_ut, gv_uf, gE_true, gE_false, gE_tf, gE_ft, gE_ut, gE_uf, gU_true, gU_false, gU_tf, gU_ft, pickv_true, pickv_false, cnd_true, cnd_false, decide_true, decide_false, Bool.not_true, Bool.not_false, pr_not, nilv_some, bp_lss, bp_leq, bp_gtr, bp_geq, be_eql, be_neq, bne_self_eq_false, beq_self_eq_true, ldC_some, Option.isNone_none, Option.isNone_some, hp_drew, fa_25_0, ld_22, ld_27, h8.hb, h12.hb, t2_0, q1, q2, p1, p2, len_27, hlt, bp_add, wrapi (n := (i : Int) + 1) (by omega) (by omega), hd]
      simp only [Bool.false_or] at next
      exact next
  | succ e ih =>
    intro j w h8 h12 hc hj
    apply L5_1_ok
    obtain ⟨b, o, X, y, q1, q2, q3⟩ := h12.at hl'
    obtain ⟨b2, o2, X2, y2, p1, p2, p3⟩ := h8.at hl
    have hlt : (j : Int) < l'.length := by omega
    have hjl' : j < l'.length := by omega
    have hjl : j < l.length := by omega
    obtain ⟨b3, o3, r1, r2⟩ := op_at (c := y) (j := .i64) (show RdV w.drew X _ from q3) hjl'
    obtain ⟨b4, o4, t1, t2⟩ := op_at (c := y2) (j := .i64) (show RdV w.drew X2 _ from p3) hjl
    have heq : l'[j] = l[j] := by
      obtain ⟨u, hu⟩ := hpre
      subst hu
      rw [List.getElem_append_left hjl']
    rw [heq] at r2
    have hne : be Try.prog .neq 40 (.tmp 128) (.tmp 136) (.agg (opC l[j]).toArray) (.agg (opC l[j]).toArray) = some (.bool (!decide (l[j] = l[j]))) := by
      rw [← opEq]; exact be_neq_40
    have hdt : (!decide (l[j] = l[j])) = false := by simp
    rw [hdt] at hne
    simp -implicitDefEqProofs only [L5_1, wpB_some', gd_true, gd_false, gd_tf, gd_ft, gd_ut, gd_uf, gv_true, gv_false, gv_tf, gv_ft, gv_ut, gv_uf, gE_true, gE_false, gE_tf, gE_ft, gE_ut, gE_uf, gU_true, gU_false, gU_tf, gU_ft, pickv_true, pickv_false, cnd_true, cnd_false, decide_true, decide_false, Bool.not_true, Bool.not_false, pr_not, nilv_some, bp_lss, bp_leq, bp_gtr, bp_geq, be_eql, be_neq, bne_self_eq_false, beq_self_eq_true, ldC_some, Option.isNone_none, Option.isNone_some, hp_drew, fa_25_0, ld_22, ld_27, h8.hb, h12.hb, t2_0, q1, q2, p1, p2, len_27, hlt, r1, r2, t1, t2, hne, bp_add, wrapi (n := (j : Int) + 1) (by omega) (by omega)]
    have := ih (j + 1) w.drew h8.drew h12.drew hc.drew (by omega)
    rw [Int.natCast_add j 1] at this
    exact this
set_option maxHeartbeats 2000000 in
theorem l_cut0 (H : CutI s r n k) : ∀ (e i : Nat) (short : Bool) (w : World), ScB w g8 s A c vs B d → ScB w g12 r A' c' vs' B' d' → Chg [] W w → (short = true → ∃ (j : Nat) (l' l : List OpV), j < i ∧ r.1[j]? = some l' ∧ s.1[j]? = some l ∧ l'.length < l.length) → i + e = s.1.length →
    P5_0 (.bool true) (.pointer (some ⟨g8, 0, none⟩)) (.slice bA n bc) (.int .i64 k) (.pointer (some ⟨g12, 0, none⟩)) (.bool short) (.int .i64 i) w (OkS W) := by
  have hfs := H.fs
  have hcl := H.cut.1
  intro e
  induction e with
  | zero =>
    intro i short w h8 h12 hc hsh hi
    apply L5_0_ok
    have hlt : ¬ (i : Int) < s.1.length := by omega
    simp -implicitDefEqProofs only [L5_0, wpB_some', gd_true, gd_false, gd_tf, gd_ft, gd_ut, gd_uf, gv_true, gv_false, gv_tf, gv_ft, gv_ut, gv_uf, gE_true, gE_false, gE_tf, gE_ft, gE_ut, gE_uf, gU_true, gU_false, gU_tf, gU_ft, pickv_true, pickv_false, cnd_true, cnd_false, decide_true, decide_false, Bool.not_true, Bool.not_false, pr_not, nilv_some, bp_lss, bp_leq, bp_gtr, bp_geq, be_eql, be_neq, bne_self_eq_false, beq_self_eq_true, ldC_some, Option.isNone_none, Option.isNone_some, hp_drew, fa_25_0, ld_22, h8.hb, t2_0, len_22, hlt]
    exact l_cut2 H (fun h => by obtain ⟨j, l', l, _, a, b, c⟩ := hsh h; exact H.sh ⟨j, l', l, a, b, c⟩) r.2.length 0 w h8 h12 hc (by omega)
  | succ e ih =>
    intro i short w h8 h12 hc hsh hi
    apply L5_0_ok
    have hlt : (i : Int) < s.1.length := by omega
    obtain ⟨l, hl⟩ : ∃ l, s.1[i]? = some l := ⟨_, List.getElem?_eq_getElem (by omega)⟩
    obtain ⟨l', hl'⟩ : ∃ l', r.1[i]? = some l' := ⟨_, List.getElem?_eq_getElem (by omega)⟩
    obtain ⟨b, o, X, y, q1, q2, q3⟩ := h12.at hl'
    obtain ⟨b2, o2, X2, y2, p1, p2, p3⟩ := h8.at hl
    have hll := (H.cut.2.1 i l' l hl' hl).length_le
    have hgt : ¬ (l.length : Int) < l'.length := by omega
    have go := l_cut1 (W := W) (g8 := g8) (g12 := g12) (A := A) (c := c) (vs := vs) (B := B) (d := d) (A' := A') (c' := c') (vs' := vs') (B' := B') (d' := d') (bA := bA) (bc := bc) H (short := short) hl' hl (fun w h8 h12 hc => by
      have := ih (i + 1) (short || decide (l'.length < l.length)) w h8 h12 hc (fun h => by
        rcases Bool.or_eq_true_iff.1 h with h | h
        · obtain ⟨j, a, b, h0, h1⟩ := hsh h
          exact ⟨j, a, b, by omega, h1⟩
        · exact ⟨i, l', l, by omega, hl', hl, of_decide_eq_true h⟩) (by omega)
      rw [Int.natCast_add i 1] at this
      exact this) l'.length 0 w.drew h8.drew h12.drew hc.drew (by omega)
    cases short with
    | true =>
      have hz : l' = [] := by
        obtain ⟨j, a, b, h0, h1, h2, h3⟩ := hsh rfl
        exact H.cut.2.2 i j a b l' h0 h1 h2 h3 hl'
      have hz0 : ¬ (0 : Int) < l'.length := by rw [hz]; simp
      simp -implicitDefEqProofs only [L5_0, wpB_some', gd_true, gd_false, gd_tf, gd_ft, gd_ut, gd_uf, gv_true, gv_false, gv_tf, gv_ft, gv_ut, gv_uf, gE_true, gE_false, gE_tf, gE_ft, gE_ut, gE_uf, gU_true, gU_false, gU_tf, gU_ft, pickv_true, pickv_false, cnd_true, cnd_false, decide_true, decide_false, Bool.not_true, Bool.not_false, pr_not, nilv_some, bp_lss, bp_leq, bp_gtr, bp_geq, be_eql, be_neq, bne_self_eq_false, beq_self_eq_true, ldC_some, Option.isNone_none, Option.isNone_some, hp_drew, fa_25_0, ld_22, ld_27, h8.hb, h12.hb, t2_0, q1, q2, p1, p2, len_22, len_27, hlt, hgt, hz0]
      exact go
    | false =>
      simp -implicitDefEqProofs only [L5_0, wpB_some', gd_true, gd_false, gd_tf, gd_ft, gd_ut, gd_uf, gv_true, gv_false, gv_tf, gv_ft, gv_ut, gv_uf, gE_true, gE_false, gE_tf, gE_ft, gE_ut, gE_uf, gU_true, gU_false, gU_tf, gU_ft, pickv_true, pickv_false, cnd_true, cnd_false, decide_true, decide_false, Bool.not_true, Bool.not_false, pr_not, nilv_some, bp_lss, bp_leq, bp_gtr, bp_geq, be_eql, be_neq, bne_self_eq_false, beq_self_eq_true, ldC_some, Option.isNone_none, Option.isNone_some, hp_drew, fa_25_0, ld_22, ld_27, h8.hb, h12.hb, t2_0, q1, q2, p1, p2, len_22, len_27, hlt, hgt]
      exact go
end
end Go.Proofs.Ytgamnncehjcdiaa
