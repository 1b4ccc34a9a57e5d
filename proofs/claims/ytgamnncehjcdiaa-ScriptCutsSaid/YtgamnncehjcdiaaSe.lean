/- Scripts as bytes: the program's Put. -/
import Derived.Test.YtgamnncehjcdiaaSd
namespace Go.Proofs.Ytgamnncehjcdiaa
open Go Ev Go.RowKit
set_option linter.unusedSimpArgs false
set_option linter.unusedVariables false
set_option maxRecDepth 10000

theorem len_encL (l : List OpV) : (encL l).length = 2 + (l.flatMap encO).length := by simp [encL, lowB_len]
theorem flat_mem_le {l : List (List OpV)} {x : List OpV} (h : x ∈ l) : (encL x).length ≤ (l.flatMap encL).length := by
  induction l with
  | nil => simp at h
  | cons y ys ih =>
    rw [List.flatMap_cons, List.length_append]
    rcases List.mem_cons.1 h with rfl | h
    · omega
    · have := ih h; omega
theorem putS_t {s : ScV} (hm : mayS s = true) (ho : okS s = true) : pPut s = (encS s, 0) := by simp [pPut, hm, ho]
theorem putS_f {s : ScV} (hm : mayS s = true) (ho : okS s = false) : pPut s = ([], 10) := by simp [pPut, hm, ho]
theorem putS_n {s : ScV} (hm : mayS s = false) : pPut s = ([], 11) := by simp [pPut, hm]
theorem okS_iff (s : ScV) : okS s = true ↔ (∀ l ∈ s.1, ∀ o ∈ l, mayO o = true) ∧ ∀ k ∈ s.2, okP k = true := by
  simp [okS, List.all_eq_true]
theorem okS_f1 {s : ScV} {l : List OpV} (hl : l ∈ s.1) (h : ∃ o ∈ l, mayO o = false) : okS s = false := by
  rw [Bool.eq_false_iff]
  intro ho
  obtain ⟨o, h1, h2⟩ := h
  rw [((okS_iff s).1 ho).1 l hl o h1] at h2
  cases h2
theorem okS_f2 {s : ScV} (h : ∃ k ∈ s.2, okP k = false) : okS s = false := by
  rw [Bool.eq_false_iff]
  intro ho
  obtain ⟨o, h1, h2⟩ := h
  rw [((okS_iff s).1 ho).2 o h1] at h2
  cases h2
theorem putP_bad {W w' : World} {s : ScV} (hm : mayS s = true) (ho : okS s = false) (hc : Chg [] W w') : PutP W s (.tuple #[.slice none 0 0, .int .i64 10]) w' := by
  refine ⟨.slice none 0 0, by rw [putS_f hm ho], ?_, hc⟩
  rw [putS_f hm ho]
  exact World.ownsRow_nil _ _ _ _
/-- a list of a script: its slice's value -/
theorem IsS.list {w : World} {A : Option Addr} {c : Nat} {vp : Value} {s : ScV} {vs : List Value} (h3 : vs.length = s.1.length) (h4 : ∀ (j : Nat) (x : Value) (ops : List OpV), vs[j]? = some x → s.1[j]? = some ops → SlO w x ops) {i : Nat} (hi : i < s.1.length) :
    ∃ A' c', vs[i]? = some (.slice A' (s.1[i]).length c') ∧ RdV w A' ((s.1[i]).flatMap opC) := by
  obtain ⟨x, hx⟩ : ∃ x, vs[i]? = some x := ⟨_, List.getElem?_eq_getElem (by omega)⟩
  obtain ⟨A', c', e, hO⟩ := h4 i x s.1[i] hx (List.getElem?_eq_getElem hi)
  exact ⟨A', c', by rw [hx, e], hO⟩
set_option maxHeartbeats 1000000 in
theorem l_Put0 {W : World} {s : ScV} (hwf : WfS s) (hms : mayS s = true) (hsz : (encS s).length ≤ 800000) {A : Option Addr} {c : Nat} {vs : List Value} {vp : Value} {g1 : Nat} (h1 : hp W g1 = some (.cells #[.slice A s.1.length c, vp] 25)) (h2 : RdV W A vs) (h3 : vs.length = s.1.length)
    (h4 : ∀ (j : Nat) (x : Value) (ops : List OpV), vs[j]? = some x → s.1[j]? = some ops → SlO W x ops) (h5 : SlI W vp s.2) :
    ∀ (d i : Nat) (w : World) (x : Value), Out W w x ([(s.1.length : Int)] ++ (s.1.take i).flatMap encL) → (∀ l ∈ s.1.take i, ∀ o ∈ l, mayO o = true) → i + d = s.1.length →
      P15_0 (.pointer (some ⟨g1, 0, none⟩)) x (.slice A s.1.length c) (.int .i64 s.1.length) (.int .i64 i) w (PutP W s) := by
  have hm64 : s.1.length ≤ 64 ∧ ∀ l ∈ s.1, l.length ≤ 1000 := by
    simp only [mayS, Bool.and_eq_true, List.all_eq_true, decide_eq_true_eq] at hms
    exact ⟨hms.2.1, hms.1⟩
  have hps : s.2.length ≤ 1048576 := by
    simp only [mayS, Bool.and_eq_true, List.all_eq_true, decide_eq_true_eq] at hms
    exact hms.2.2
  have hsz' : 1 + (s.1.flatMap encL).length + s.2.length ≤ 800000 := by
    have := hsz
    simp only [encS, List.length_append, List.length_singleton] at this; omega
  intro d
  induction d with
  | zero =>
    intro i w x h hok hi
    obtain rfl : i = s.1.length := by omega
    rw [List.take_length] at h hok
    apply L15_0_ok
    obtain ⟨B, e, rfl, hB⟩ := h5
    have h1w := h.ch.at h1 (by simp)
    simp -implicitDefEqProofs only [L15_0, wpB_some', gd_true, gd_false, gd_tf, gd_ft, gd_ut, gd_uf, gv_true, gv_false, gv_tf, gv_ft, gv_ut, gv_uf, gE_true, gE_false, gE_tf, gE_ft, gE_ut, gE_uf, gU_true, gU_false, gU_tf, gU_ft, pickv_true, pickv_false, cnd_true, cnd_false, decide_true, decide_false, Bool.not_true, Bool.not_false, pr_not, nilv_some, bp_lss, bp_leq, bp_gtr, bp_geq, be_eql, be_neq, bne_self_eq_false, beq_self_eq_true, ldC_some, Option.isNone_none, Option.isNone_some, hp_drew, Int.lt_irrefl, fa_25_1, ld_23, h1w, t2_1, len_23]
    refine l_Put2 (W := W) (ps := s.2) (by omega) hB (bs := [(s.1.length : Int)] ++ s.1.flatMap encL) (by simp only [List.length_append, List.length_singleton]; omega) (fun hb w' hc => putP_bad hms (okS_f2 hb) hc) (fun hk w' x' h' => ?_) s.2.length 0 w x (by simpa using h) (by simp) (by omega)
    have ho : okS s = true := (okS_iff s).2 ⟨hok, hk⟩
    exact ⟨x', by rw [putS_t hms ho], by rw [putS_t hms ho]; exact h'.own, h'.ch⟩
  | succ d ih =>
    intro i w x h hok hi
    apply L15_0_ok
    have hlt : (i : Int) < s.1.length := by omega
    have hil : i < s.1.length := by omega
    obtain ⟨A', c', hx, hO⟩ := IsS.list (A := A) (c := c) (vp := vp) h3 h4 hil
    have hmem : s.1[i] ∈ s.1 := List.getElem_mem hil
    obtain ⟨b, o, q1, q2⟩ := val_at (c := c) (j := .i64) (h2.keep h.ch.below) h3 hx
    have hl1000 := hm64.2 _ hmem
    have htk := flat_take_le encL s.1 (i + 1)
    rw [take_snoc hil, List.flatMap_append] at htk
    simp only [List.flatMap_cons, List.flatMap_nil, List.append_nil, List.length_append, len_encL] at htk
    simp -implicitDefEqProofs only [L15_0, wpB_some', gd_true, gd_false, gd_tf, gd_ft, gd_ut, gd_uf, gv_true, gv_false, gv_tf, gv_ft, gv_ut, gv_uf, gE_true, gE_false, gE_tf, gE_ft, gE_ut, gE_uf, gU_true, gU_false, gU_tf, gU_ft, pickv_true, pickv_false, cnd_true, cnd_false, decide_true, decide_false, Bool.not_true, Bool.not_false, pr_not, nilv_some, bp_lss, bp_leq, bp_gtr, bp_geq, be_eql, be_neq, bne_self_eq_false, beq_self_eq_true, ldC_some, Option.isNone_none, Option.isNone_some, hp_drew, hlt, q1, ld_27, q2, len_27, cv_3_38, wrapu (n := ((s.1[i]).length : Int)) (by omega) (by omega)]
    refine h.low (by simp only [List.length_append, List.length_singleton]; omega) (v := ((s.1[i]).length : Int)) (by omega) (n := 2) (by omega) fun x' w' h' u => ?_
    refine l_Put1 (W := W) (l := s.1[i]) (fun o ho => hwf _ hmem o ho) (by omega) hO (i := i) (by omega) (bs := [(s.1.length : Int)] ++ (s.1.take i).flatMap encL ++ lowB (s.1[i]).length 2) (by simp only [List.length_append, List.length_singleton, lowB_len]; omega) (fun hb w2 hc => putP_bad hms (okS_f1 hmem hb) hc) (fun hall w2 x2 h2' => ?_) (s.1[i]).length 0 w' x' (by simpa using h') (by simp) (by omega)
    have e : [(s.1.length : Int)] ++ (s.1.take i).flatMap encL ++ lowB (s.1[i]).length 2 ++ (s.1[i]).flatMap encO = [(s.1.length : Int)] ++ (s.1.take (i + 1)).flatMap encL := by
      rw [take_snoc hil, List.flatMap_append]
      simp [encL]
    rw [e] at h2'
    have := ih (i + 1) w2 x2 h2' (fun l hl => by
      rw [take_snoc hil] at hl
      rcases List.mem_append.1 hl with h1 | h1
      · exact hok l h1
      · simp at h1; subst h1; exact hall) (by omega)
    rw [Int.natCast_add i 1] at this
    exact this
theorem c_Put {W : World} {s : ScV} (hwf : WfS s) (hsz : (encS s).length ≤ 800000) (hl : s.1.length ≤ 1000000) {v : Value} (hv : IsS W v s) : CallR Try.prog 15 [v] W (PutP W s) := by
  obtain ⟨A, c, vs, vp, rfl, h2, h3, h4, h5⟩ := hv.ex
  apply F15_ok
  have hc1 : Chg [] W (W.alloc (.cells #[.slice A s.1.length c, vp] 25)) := (Chg.refl _ _).alloc _
  have h1 : hp (W.alloc (.cells #[.slice A s.1.length c, vp] 25)) W.heap.size = some (.cells #[.slice A s.1.length c, vp] 25) := by rw [alloc_heap, if_pos rfl]
  have hv1 := hv.keep hc1.below
  have hld : ldv Try.prog 25 (.pointer (some ⟨W.heap.size, 0, none⟩)) (W.alloc (.cells #[.slice A s.1.length c, vp] 25)) = some (.agg #[.slice A s.1.length c, vp]) := ldv_whole ag_25 sz_25 h1
  have hsz1 : W.heap.size ≤ (W.alloc (.cells #[.slice A s.1.length c, vp] 25)).heap.size := hc1.size
  simp -implicitDefEqProofs only [F15, effv_box, cells_agg, hld, wpB_some']
  generalize W.alloc (.cells #[.slice A s.1.length c, vp] 25) = w1 at *
  refine (c_SMay (s := s) (by omega) hv1).mono ?_
  rintro _ w2 ⟨rfl, hb2⟩
  have hc2 := Chg.of_below hb2 []
  have h12 := hc2.at h1 (by simp)
  cases hm : mayS s with
  | false =>
    simp -implicitDefEqProofs only [wpB_some', gd_true, gd_false, gd_tf, gd_ft, gd_ut, gd_uf, gv_true, gv_false, gv_tf, gv_ft, gv_ut, gv_uf, gE_true, gE_false, gE_tf, gE_ft, gE_ut, gE_uf, gU_true, gU_false, gU_tf, gU_ft, pickv_true, pickv_false, cnd_true, cnd_false, decide_true, decide_false, Bool.not_true, Bool.not_false, pr_not, nilv_some, bp_lss, bp_leq, bp_gtr, bp_geq, be_eql, be_neq, bne_self_eq_false, beq_self_eq_true, ldC_some, Option.isNone_none, Option.isNone_some, hp_drew]
    refine ⟨.slice none 0 0, by rw [putS_n hm], ?_, hc1.trans hc2⟩
    rw [putS_n hm]; exact World.ownsRow_nil _ _ _ _
  | true =>
    have hm64 : s.1.length ≤ 64 := by
      have := hm
      simp only [mayS, Bool.and_eq_true, List.all_eq_true, decide_eq_true_eq] at this
      exact this.2.1
    have ek : IntKind.u8.wrap (s.1.length : Int) = s.1.length := by rw [wrap8]; omega
    simp -implicitDefEqProofs only [wpB_some', gd_true, gd_false, gd_tf, gd_ft, gd_ut, gd_uf, gv_true, gv_false, gv_tf, gv_ft, gv_ut, gv_uf, gE_true, gE_false, gE_tf, gE_ft, gE_ut, gE_uf, gU_true, gU_false, gU_tf, gU_ft, pickv_true, pickv_false, cnd_true, cnd_false, decide_true, decide_false, Bool.not_true, Bool.not_false, pr_not, nilv_some, bp_lss, bp_leq, bp_gtr, bp_geq, be_eql, be_neq, bne_self_eq_false, beq_self_eq_true, ldC_some, Option.isNone_none, Option.isNone_some, hp_drew, fa_25_0, ld_22, h12, t2_0, len_22, cv_3_5, ek, bs_28_1]
    have hc3 : Chg [] w2 (w2.alloc (.cells #[.int .u8 s.1.length] 5)) := (Chg.refl _ _).alloc _
    have hown : (w2.alloc (.cells #[.int .u8 s.1.length] 5)).ownsRow w2.heap.size 5 1 (.slice (some ⟨w2.heap.size, 0, none⟩) 1 1) 1 (u8s [(s.1.length : Int)]) := World.ownsRow_lit w2 #[.int .u8 s.1.length] 1 (Nat.le_refl _) (by unfold maxLen; omega) rfl
    have h13 := hc3.at h12 (by simp)
    simp -implicitDefEqProofs only [wpB_some', gd_true, gd_false, gd_tf, gd_ft, gd_ut, gd_uf, gv_true, gv_false, gv_tf, gv_ft, gv_ut, gv_uf, gE_true, gE_false, gE_tf, gE_ft, gE_ut, gE_uf, gU_true, gU_false, gU_tf, gU_ft, pickv_true, pickv_false, cnd_true, cnd_false, decide_true, decide_false, Bool.not_true, Bool.not_false, pr_not, nilv_some, bp_lss, bp_leq, bp_gtr, bp_geq, be_eql, be_neq, bne_self_eq_false, beq_self_eq_true, ldC_some, Option.isNone_none, Option.isNone_some, hp_drew, fa_25_0, ld_22, h13, t2_0, len_22]
    have h2' := (h2.keep hc1.below).keep hc2.below
    have h4' : ∀ (j : Nat) (x : Value) (ops : List OpV), vs[j]? = some x → s.1[j]? = some ops → SlO w2 x ops := fun j x ops a b => ((h4 j x ops a b).keep hc1.below).keep hc2.below
    have h5' := (h5.keep hc1.below).keep hc2.below
    have := l_Put0 (W := w2) hwf hm hsz h12 h2' h3 h4' h5' s.1.length 0 _ _ ⟨by simpa using hown, hc3⟩ (by simp) (by omega)
    refine Part.mono this fun v w' ⟨x, e1, e2, e3⟩ => ⟨x, e1, ownsRow_mono e2 (Nat.le_trans hc1.size hc2.size), (hc1.trans hc2).trans e3⟩
end Go.Proofs.Ytgamnncehjcdiaa
