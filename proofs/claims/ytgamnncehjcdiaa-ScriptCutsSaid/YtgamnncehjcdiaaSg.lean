/- Scripts as bytes: the reference's PutScript. -/
import Derived.Test.YtgamnncehjcdiaaSf
namespace Go.Proofs.Ytgamnncehjcdiaa
open Go Ev Go.RowKit
set_option linter.unusedSimpArgs false
set_option linter.unusedVariables false
set_option maxRecDepth 10000

/-- the picks -/
theorem l_PutR2 {W : World} {ps : List Int} (hl : ps.length ≤ 1000000) {A B : Option Addr} {c n cn : Nat} {g1 : Nat} (h1 : hp W g1 = some (.cells #[.slice B n cn, .slice A ps.length c] 25)) (hA : RdI .i64 W A ps) {bs : List Int} (hB : bs.length + ps.length ≤ 800000) {Q : Value → World → Prop}
    (bad : (∃ k ∈ ps, okP k = false) → ∀ w', Chg [] W w' → Q (.tuple #[.slice none 0 0, .int .i64 10]) w')
    (next : (∀ k ∈ ps, okP k = true) → ∀ w' x', Out W w' x' (bs ++ ps) → Q (.tuple #[x', .int .i64 0]) w') :
    ∀ (d j : Nat) (w : World) (x : Value), Out W w x (bs ++ ps.take j) → (∀ k ∈ ps.take j, okP k = true) → j + d = ps.length →
      P16_2 (.pointer (some ⟨g1, 0, none⟩)) x (.int .i64 j) w Q := by
  intro d
  induction d with
  | zero =>
    intro j w x h hok hj
    obtain rfl : j = ps.length := by omega
    rw [List.take_length] at h hok
    apply L16_2_ok
    have h1w := h.ch.at h1 (by simp)
    simp -implicitDefEqProofs only [L16_2, wpB_some', gd_true, gd_false, gd_tf, gd_ft, gd_ut, gd_uf, gv_true, gv_false, gv_tf, gv_ft, gv_ut, gv_uf, gE_true, gE_false, gE_tf, gE_ft, gE_ut, gE_uf, gU_true, gU_false, gU_tf, gU_ft, pickv_true, pickv_false, cnd_true, cnd_false, decide_true, decide_false, Bool.not_true, Bool.not_false, pr_not, nilv_some, bp_lss, bp_leq, bp_gtr, bp_geq, be_eql, be_neq, bne_self_eq_false, beq_self_eq_true, ldC_some, Option.isNone_none, Option.isNone_some, hp_drew, fa_25_1, ld_23, h1w, t2_1, len_23, Int.lt_irrefl]
    exact next hok w x h
  | succ d ih =>
    intro j w x h hok hj
    apply L16_2_ok
    have hlt : (j : Int) < ps.length := by omega
    have hjl : j < ps.length := by omega
    have h1w := h.ch.at h1 (by simp)
    obtain ⟨q, q1, q2⟩ := (hA.keep h.ch.below).at (P := Try.prog) (c := c) (j := .i64) Try.underlying23 Try.underlying3 sz_3 (i := (j : Int)) (by omega) hlt
    have hk : ps.getD (j : Int).toNat 0 = ps[j] := by simp [List.getD_eq_getElem?_getD, hjl]
    rw [hk] at q2
    have hmem : ps[j] ∈ ps := List.getElem_mem hjl
    have stepOk : okP ps[j] = true → ∀ k ∈ ps.take (j + 1), okP k = true := fun hm k hk => by
      rw [take_snoc hjl] at hk
      rcases List.mem_append.1 hk with h1 | h1
      · exact hok k h1
      · simp at h1; subst h1; exact hm
    have hbe : bs ++ ps.take (j + 1) = (bs ++ ps.take j) ++ [ps[j]] := by rw [take_snoc hjl, List.append_assoc]
    have hlen : (bs ++ ps.take j).length ≤ 800000 := by simp only [List.length_append, List.length_take]; omega
    have badj : okP ps[j] = false → ∀ w', Chg [] W w' → Q (.tuple #[.slice none 0 0, .int .i64 10]) w' := fun hm => bad ⟨_, hmem, hm⟩
    generalize ps[j] = e at *
    simp -implicitDefEqProofs only [L16_2, wpB_some', gd_true, gd_false, gd_tf, gd_ft, gd_ut, gd_uf, gv_true, gv_false, gv_tf, gv_ft, gv_ut, gv_uf, gE_true, gE_false, gE_tf, gE_ft, gE_ut, gE_uf, gU_true, gU_false, gU_tf, gU_ft, pickv_true, pickv_false, cnd_true, cnd_false, decide_true, decide_false, Bool.not_true, Bool.not_false, pr_not, nilv_some, bp_lss, bp_leq, bp_gtr, bp_geq, be_eql, be_neq, bne_self_eq_false, beq_self_eq_true, ldC_some, Option.isNone_none, Option.isNone_some, hp_drew, fa_25_1, ld_23, h1w, t2_1, len_23, hlt, q1, q2]
    refine (c_in18 _ _ _ _).step ?_
    by_cases k1 : 0 ≤ e ∧ e ≤ 255
    · have ek : IntKind.u8.wrap e = e := by rw [wrap8]; omega
      simp -implicitDefEqProofs only [decide_eq_true k1, wpB_some', gd_true, gd_false, gd_tf, gd_ft, gd_ut, gd_uf, gv_true, gv_false, gv_tf, gv_ft, gv_ut, gv_uf, gE_true, gE_false, gE_tf, gE_ft, gE_ut, gE_uf, gU_true, gU_false, gU_tf, gU_ft, pickv_true, pickv_false, cnd_true, cnd_false, decide_true, decide_false, Bool.not_true, Bool.not_false, pr_not, nilv_some, bp_lss, bp_leq, bp_gtr, bp_geq, be_eql, be_neq, bne_self_eq_false, beq_self_eq_true, ldC_some, Option.isNone_none, Option.isNone_some, hp_drew, fa_25_1, ld_23, h1w, t2_1, q1, q2, cv_3_5, ek]
      refine h.push (by omega) e fun x' w' h' u => ?_
      simp -implicitDefEqProofs only [bp_add, wpB_some', gd_true, gd_false, gd_tf, gd_ft, gd_ut, gd_uf, gv_true, gv_false, gv_tf, gv_ft, gv_ut, gv_uf, gE_true, gE_false, gE_tf, gE_ft, gE_ut, gE_uf, gU_true, gU_false, gU_tf, gU_ft, pickv_true, pickv_false, cnd_true, cnd_false, decide_true, decide_false, Bool.not_true, Bool.not_false, pr_not, nilv_some, bp_lss, bp_leq, bp_gtr, bp_geq, be_eql, be_neq, bne_self_eq_false, beq_self_eq_true, ldC_some, Option.isNone_none, Option.isNone_some, hp_drew, wrapi (n := (j : Int) + 1) (by omega) (by omega)]
      have := ih (j + 1) w' x' (by rw [hbe]; exact h') (stepOk (decide_eq_true k1)) (by omega)
      rw [Int.natCast_add j 1] at this
      exact this
    · simp -implicitDefEqProofs only [decide_eq_false k1, wpB_some', gd_true, gd_false, gd_tf, gd_ft, gd_ut, gd_uf, gv_true, gv_false, gv_tf, gv_ft, gv_ut, gv_uf, gE_true, gE_false, gE_tf, gE_ft, gE_ut, gE_uf, gU_true, gU_false, gU_tf, gU_ft, pickv_true, pickv_false, cnd_true, cnd_false, decide_true, decide_false, Bool.not_true, Bool.not_false, pr_not, nilv_some, bp_lss, bp_leq, bp_gtr, bp_geq, be_eql, be_neq, bne_self_eq_false, beq_self_eq_true, ldC_some, Option.isNone_none, Option.isNone_some, hp_drew]
      exact badj (decide_eq_false k1) w h.ch
set_option maxHeartbeats 1000000 in
theorem l_PutR0 {W : World} {s : ScV} (hwf : WfS s) (hms : mayS s = true) (hsz : (encS s).length ≤ 700000) {A B : Option Addr} {c cp : Nat} {vs : List Value} {g1 : Nat} (h1 : hp W g1 = some (.cells #[.slice A s.1.length c, .slice B s.2.length cp] 25)) (h2 : RdV W A vs) (h3 : vs.length = s.1.length)
    (h4 : ∀ (j : Nat) (x : Value) (ops : List OpV), vs[j]? = some x → s.1[j]? = some ops → SlO W x ops) (h5 : RdI .i64 W B s.2) :
    ∀ (d i : Nat) (w : World) (x : Value), Out W w x ([(s.1.length : Int)] ++ (s.1.take i).flatMap encL) → (∀ l ∈ s.1.take i, ∀ o ∈ l, mayO o = true) → i + d = s.1.length →
      P16_0 (.pointer (some ⟨g1, 0, none⟩)) x (.int .i64 i) w (PutP W s) := by
  have hm64 : s.1.length ≤ 64 ∧ ∀ l ∈ s.1, l.length ≤ 1000 := by
    simp only [mayS, Bool.and_eq_true, List.all_eq_true, decide_eq_true_eq] at hms
    exact ⟨hms.2.1, hms.1⟩
  have hsz' : 1 + (s.1.flatMap encL).length + s.2.length ≤ 700000 := by
    have := hsz
    simp only [encS, List.length_append, List.length_singleton] at this; omega
  intro d
  induction d with
  | zero =>
    intro i w x h hok hi
    obtain rfl : i = s.1.length := by omega
    rw [List.take_length] at h hok
    apply L16_0_ok
    have h1w := h.ch.at h1 (by simp)
    simp -implicitDefEqProofs only [L16_0, wpB_some', gd_true, gd_false, gd_tf, gd_ft, gd_ut, gd_uf, gv_true, gv_false, gv_tf, gv_ft, gv_ut, gv_uf, gE_true, gE_false, gE_tf, gE_ft, gE_ut, gE_uf, gU_true, gU_false, gU_tf, gU_ft, pickv_true, pickv_false, cnd_true, cnd_false, decide_true, decide_false, Bool.not_true, Bool.not_false, pr_not, nilv_some, bp_lss, bp_leq, bp_gtr, bp_geq, be_eql, be_neq, bne_self_eq_false, beq_self_eq_true, ldC_some, Option.isNone_none, Option.isNone_some, hp_drew, fa_25_0, ld_22, h1w, t2_0, len_22, Int.lt_irrefl]
    refine l_PutR2 (W := W) (ps := s.2) (by omega) h1 h5 (bs := [(s.1.length : Int)] ++ s.1.flatMap encL) (by simp only [List.length_append, List.length_singleton]; omega) (fun hb w' hc => putP_bad hms (okS_f2 hb) hc) (fun hk w' x' h' => ?_) s.2.length 0 w x (by simpa using h) (by simp) (by omega)
    have ho : okS s = true := (okS_iff s).2 ⟨hok, hk⟩
    exact ⟨x', by rw [putS_t hms ho], by rw [putS_t hms ho]; exact h'.own, h'.ch⟩
  | succ d ih =>
    intro i w x h hok hi
    apply L16_0_ok
    have hlt : (i : Int) < s.1.length := by omega
    have hil : i < s.1.length := by omega
    have h1w := h.ch.at h1 (by simp)
    obtain ⟨A', c', hx, hO⟩ := IsS.list (A := A) (c := c) (vp := .slice B s.2.length cp) h3 h4 hil
    have hmem : s.1[i] ∈ s.1 := List.getElem_mem hil
    obtain ⟨b, o, q1, q2⟩ := val_at (c := c) (j := .i64) (h2.keep h.ch.below) h3 hx
    have hl1000 := hm64.2 _ hmem
    have htk := flat_take_le encL s.1 (i + 1)
    rw [take_snoc hil, List.flatMap_append] at htk
    simp only [List.flatMap_cons, List.flatMap_nil, List.append_nil, List.length_append, len_encL] at htk
    simp -implicitDefEqProofs only [L16_0, wpB_some', gd_true, gd_false, gd_tf, gd_ft, gd_ut, gd_uf, gv_true, gv_false, gv_tf, gv_ft, gv_ut, gv_uf, gE_true, gE_false, gE_tf, gE_ft, gE_ut, gE_uf, gU_true, gU_false, gU_tf, gU_ft, pickv_true, pickv_false, cnd_true, cnd_false, decide_true, decide_false, Bool.not_true, Bool.not_false, pr_not, nilv_some, bp_lss, bp_leq, bp_gtr, bp_geq, be_eql, be_neq, bne_self_eq_false, beq_self_eq_true, ldC_some, Option.isNone_none, Option.isNone_some, hp_drew, fa_25_0, ld_22, h1w, t2_0, len_22, hlt, q1, ld_27, q2, len_27, cv_3_38, wrapu (n := ((s.1[i]).length : Int)) (by omega) (by omega)]
    refine h.lowR (v := ((s.1[i]).length : Int)) (by omega) (n := 2) (by omega) (by simp only [List.length_append, List.length_singleton]; omega) fun x' w' h' st => ?_
    refine l_PutR1 (W := W) h1 h2 h3 hil (by omega) (l := s.1[i]) (fun o ho => hwf _ hmem o ho) (by omega) hx hO (bs := [(s.1.length : Int)] ++ (s.1.take i).flatMap encL ++ lowB (s.1[i]).length 2) (by simp only [List.length_append, List.length_singleton, lowB_len]; omega) (fun hb w2 hc => putP_bad hms (okS_f1 hmem hb) hc) (fun hall w2 x2 h2' => ?_) (s.1[i]).length 0 w' x' (by simpa using h') (by simp) (by omega)
    have e : [(s.1.length : Int)] ++ (s.1.take i).flatMap encL ++ lowB (s.1[i]).length 2 ++ (s.1[i]).flatMap encO = [(s.1.length : Int)] ++ (s.1.take (i + 1)).flatMap encL := by
      rw [take_snoc hil, List.flatMap_append]
      simp [encL]
    rw [e] at h2'
    have := ih (i + 1) w2 x2 h2' (fun l hl => by
      rw [take_snoc hil] at hl
      rcases List.mem_append.1 hl with h1 | h1
      · exact hok l h1
      · simp at h1; subst h1; exact hall) (by omega)
    rw [Int.natCast_add i 1] at this
    exact this
theorem c_PutScript {W : World} {s : ScV} (hwf : WfS s) (hsz : (encS s).length ≤ 700000) (hl : s.1.length ≤ 1000000) (hl2 : s.2.length ≤ 1000000) {v : Value} (hv : IsS W v s) : CallR Try.prog 16 [v] W (PutP W s) := by
  obtain ⟨A, c, vs, vp, rfl, h2, h3, h4, h5⟩ := hv.ex
  obtain ⟨B, cp, rfl, hB⟩ := h5
  apply F16_ok
  have hc1 : Chg [] W (W.alloc (.cells #[.slice A s.1.length c, .slice B s.2.length cp] 25)) := (Chg.refl _ _).alloc _
  have h1 : hp (W.alloc (.cells #[.slice A s.1.length c, .slice B s.2.length cp] 25)) W.heap.size = some (.cells #[.slice A s.1.length c, .slice B s.2.length cp] 25) := by rw [alloc_heap, if_pos rfl]
  have hv1 := hv.keep hc1.below
  have hld : ldv Try.prog 25 (.pointer (some ⟨W.heap.size, 0, none⟩)) (W.alloc (.cells #[.slice A s.1.length c, .slice B s.2.length cp] 25)) = some (.agg #[.slice A s.1.length c, .slice B s.2.length cp]) := ldv_whole ag_25 sz_25 h1
  simp -implicitDefEqProofs only [F16, effv_box, cells_agg, hld, wpB_some']
  generalize W.alloc (.cells #[.slice A s.1.length c, .slice B s.2.length cp] 25) = w1 at *
  refine (c_RMay18 (s := s) (by omega) (by omega) hv1).mono ?_
  rintro _ w2 ⟨rfl, hc2⟩
  have h12 := hc2.at h1 (by simp)
  cases hm : mayS s with
  | false =>
    simp -implicitDefEqProofs only [wpB_some', gd_true, gd_false, gd_tf, gd_ft, gd_ut, gd_uf, gv_true, gv_false, gv_tf, gv_ft, gv_ut, gv_uf, gE_true, gE_false, gE_tf, gE_ft, gE_ut, gE_uf, gU_true, gU_false, gU_tf, gU_ft, pickv_true, pickv_false, cnd_true, cnd_false, decide_true, decide_false, Bool.not_true, Bool.not_false, pr_not, nilv_some, bp_lss, bp_leq, bp_gtr, bp_geq, be_eql, be_neq, bne_self_eq_false, beq_self_eq_true, ldC_some, Option.isNone_none, Option.isNone_some, hp_drew]
    refine ⟨.slice none 0 0, by rw [putS_n hm], ?_, hc1.trans hc2⟩
    rw [putS_n hm]; exact World.ownsRow_nil _ _ _ _
  | true =>
    have hm64 : s.1.length ≤ 64 := by
      have := hm
      simp only [mayS, Bool.and_eq_true, List.all_eq_true, decide_eq_true_eq] at this
      exact this.2.1
    have ek : IntKind.u8.wrap (s.1.length : Int) = s.1.length := by rw [wrap8]; omega
    simp -implicitDefEqProofs only [wpB_some', gd_true, gd_false, gd_tf, gd_ft, gd_ut, gd_uf, gv_true, gv_false, gv_tf, gv_ft, gv_ut, gv_uf, gE_true, gE_false, gE_tf, gE_ft, gE_ut, gE_uf, gU_true, gU_false, gU_tf, gU_ft, pickv_true, pickv_false, cnd_true, cnd_false, decide_true, decide_false, Bool.not_true, Bool.not_false, pr_not, nilv_some, bp_lss, bp_leq, bp_gtr, bp_geq, be_eql, be_neq, bne_self_eq_false, beq_self_eq_true, ldC_some, Option.isNone_none, Option.isNone_some, hp_drew, fa_25_0, ld_22, h12, t2_0, len_22, cv_3_5, ek, bs_28_1]
    have hc3 : Chg [] w2 (w2.alloc (.cells #[.int .u8 s.1.length] 5)) := (Chg.refl _ _).alloc _
    have hown : (w2.alloc (.cells #[.int .u8 s.1.length] 5)).ownsRow w2.heap.size 5 1 (.slice (some ⟨w2.heap.size, 0, none⟩) 1 1) 1 (u8s [(s.1.length : Int)]) := World.ownsRow_lit w2 #[.int .u8 s.1.length] 1 (Nat.le_refl _) (by unfold maxLen; omega) rfl
    have h2' := (h2.keep hc1.below).keep hc2.below
    have h4' : ∀ (j : Nat) (x : Value) (ops : List OpV), vs[j]? = some x → s.1[j]? = some ops → SlO w2 x ops := fun j x ops a b => ((h4 j x ops a b).keep hc1.below).keep hc2.below
    have := l_PutR0 (W := w2) hwf hm hsz h12 h2' h3 h4' ((hB.keep hc1.below).keep hc2.below) s.1.length 0 _ _ ⟨by simpa using hown, hc3⟩ (by simp) (by omega)
    refine Part.mono this fun v w' ⟨x, e1, e2, e3⟩ => ⟨x, e1, ownsRow_mono e2 (Nat.le_trans hc1.size hc2.size), (hc1.trans hc2).trans e3⟩
end Go.Proofs.Ytgamnncehjcdiaa
