/- Scripts as bytes: the program's Put, its loops. -/
import Derived.Test.YtgamnncehjcdiaaSc
namespace Go.Proofs.Ytgamnncehjcdiaa
open Go Ev Go.RowKit
set_option linter.unusedSimpArgs false
set_option linter.unusedVariables false
set_option maxRecDepth 10000

theorem quad0 (a b c d : Value) : pureRun Try.prog (Instr.extract (.tuple #[a, b, c, d]) 0) = some a := by rw [pr_extract]; rfl
theorem quad1 (a b c d : Value) : pureRun Try.prog (Instr.extract (.tuple #[a, b, c, d]) 1) = some b := by rw [pr_extract]; rfl
theorem quad2 (a b c d : Value) : pureRun Try.prog (Instr.extract (.tuple #[a, b, c, d]) 2) = some c := by rw [pr_extract]; rfl
theorem quad3 (a b c d : Value) : pureRun Try.prog (Instr.extract (.tuple #[a, b, c, d]) 3) = some d := by rw [pr_extract]; rfl
theorem encO_len (o : OpV) : (encO o).length ≤ 22 := by
  have e0 : (fE o).length ≤ 3 := by unfold fE; split <;> simp [lowB_len]
  have e1 : (nE o).length ≤ 2 := by unfold nE; split <;> simp [lowB_len]
  have e2 : (vE o).length ≤ 8 := by unfold vE; split <;> simp [lowB_len]
  have e3 : (wE o).length ≤ 8 := by unfold wE; split <;> simp [lowB_len]
  simp only [encO, List.length_append, List.length_singleton]; omega
theorem take_snoc {α : Type} {l : List α} {j : Nat} (h : j < l.length) : l.take (j + 1) = l.take j ++ [l[j]] := by rw [List.take_add_one]; simp [h]
theorem flat_take_le {α : Type} (f : α → List Int) (l : List α) (j : Nat) : ((l.take j).flatMap f).length ≤ (l.flatMap f).length := by
  have : l.flatMap f = (l.take j).flatMap f ++ (l.drop j).flatMap f := by rw [← List.flatMap_append, List.take_append_drop]
  rw [this, List.length_append]; omega
theorem mayO_bounds {o : OpV} (h : mayO o = true) : (1 ≤ o.1 ∧ o.1 ≤ 12) ∧ (0 ≤ o.2.1 ∧ o.2.1 ≤ 63) ∧ (0 ≤ o.2.2.1 ∧ o.2.2.1 ≤ 999) ∧ (0 ≤ o.2.2.2.1 ∧ o.2.2.2.1 ≤ 65535) := by
  have hm := of_decide_eq_true h
  obtain ⟨a, b, c, d, _⟩ := hm
  unfold frM at b
  unfold atM at c
  unfold nM at d
  refine ⟨a, ?_, ?_, ?_⟩
  · split at b <;> omega
  · split at c <;> omega
  · split at d
    · omega
    · split at d <;> omega
set_option maxHeartbeats 2000000 in
theorem l_Put1 {W : World} {l : List OpV} (hwf : ∀ o ∈ l, WfO o) (hll : l.length ≤ 1000000) {A' : Option Addr} {c' : Nat} (hA : RdV W A' (l.flatMap opC)) {x1 x24 x25 : Value} {i : Nat} (hi : i ≤ 1000000) {bs : List Int} (hB : bs.length + (l.flatMap encO).length ≤ 800000) {Q : Value → World → Prop}
    (bad : (∃ o ∈ l, mayO o = false) → ∀ w', Chg [] W w' → Q (.tuple #[.slice none 0 0, .int .i64 10]) w')
    (next : (∀ o ∈ l, mayO o = true) → ∀ w' x', Out W w' x' (bs ++ l.flatMap encO) → P15_0 x1 x' x24 x25 (.int .i64 ((i : Int) + 1)) w' Q) :
    ∀ (d j : Nat) (w : World) (x : Value), Out W w x (bs ++ (l.take j).flatMap encO) → (∀ o ∈ l.take j, mayO o = true) → j + d = l.length →
      P15_1 x1 x x24 x25 (.int .i64 i) (.slice A' l.length c') (.int .i64 l.length) (.int .i64 j) w Q := by
  intro d
  induction d with
  | zero =>
    intro j w x h hok hj
    obtain rfl : j = l.length := by omega
    rw [List.take_length] at h hok
    apply L15_1_ok
    simp -implicitDefEqProofs only [L15_1, wpB_some', gd_true, gd_false, gd_tf, gd_ft, gd_ut, gd_uf, gv_true, gv_false, gv_tf, gv_ft, gv_ut, gv_uf, gE_true, gE_false, gE_tf, gE_ft, gE_ut, gE_uf, gU_true, gU_false, gU_tf, gU_ft, pickv_true, pickv_false, cnd_true, cnd_false, decide_true, decide_false, Bool.not_true, Bool.not_false, pr_not, nilv_some, bp_lss, bp_leq, bp_gtr, bp_geq, be_eql, be_neq, bne_self_eq_false, beq_self_eq_true, ldC_some, Option.isNone_none, Option.isNone_some, hp_drew, Int.lt_irrefl, bp_add, wrapi (n := (i : Int) + 1) (by omega) (by omega)]
    exact next hok w x h
  | succ d ih =>
    intro j w x h hok hj
    apply L15_1_ok
    have hlt : (j : Int) < l.length := by omega
    have hjl : j < l.length := by omega
    have hAw := hA.keep h.ch.below
    obtain ⟨b, o, q1, q2⟩ := op_at (c := c') (j := .i64) (i := j) hAw hjl
    have hmem : l[j] ∈ l := List.getElem_mem hjl
    have htk := flat_take_le encO l j
    have htk1 := flat_take_le encO l (j + 1)
    rw [take_snoc hjl, List.flatMap_append] at htk1
    simp only [List.flatMap_cons, List.flatMap_nil, List.append_nil, List.length_append] at htk1
    have stepOk : mayO l[j] = true → ∀ o ∈ l.take (j + 1), mayO o = true := fun hm o ho => by
      rw [take_snoc hjl] at ho
      rcases List.mem_append.1 ho with h1 | h1
      · exact hok o h1
      · simp at h1; subst h1; exact hm
    have hbe : bs ++ (l.take (j + 1)).flatMap encO = (bs ++ (l.take j).flatMap encO) ++ encO l[j] := by rw [take_snoc hjl, List.flatMap_append]; simp
    have go : mayO l[j] = true → ∀ w' x', Out W w' x' ((bs ++ (l.take j).flatMap encO) ++ encO l[j]) → P15_6 x1 x' x24 x25 (.int .i64 i) (.slice A' l.length c') (.int .i64 l.length) (.int .i64 j) w' Q := fun hm w' x' h' => by
      apply L15_6_ok
      simp -implicitDefEqProofs only [L15_6, wpB_some', gd_true, gd_false, gd_tf, gd_ft, gd_ut, gd_uf, gv_true, gv_false, gv_tf, gv_ft, gv_ut, gv_uf, gE_true, gE_false, gE_tf, gE_ft, gE_ut, gE_uf, gU_true, gU_false, gU_tf, gU_ft, pickv_true, pickv_false, cnd_true, cnd_false, decide_true, decide_false, Bool.not_true, Bool.not_false, pr_not, nilv_some, bp_lss, bp_leq, bp_gtr, bp_geq, be_eql, be_neq, bne_self_eq_false, beq_self_eq_true, ldC_some, Option.isNone_none, Option.isNone_some, hp_drew, bp_add, wrapi (n := (j : Int) + 1) (by omega) (by omega)]
      have := ih (j + 1) w' x' (by rw [hbe]; exact h') (stepOk hm) (by omega)
      rw [Int.natCast_add j 1] at this
      exact this
    have hwfj := hwf _ hmem
    have badj : mayO l[j] = false → ∀ w', Chg [] W w' → Q (.tuple #[.slice none 0 0, .int .i64 10]) w' := fun hm => bad ⟨_, hmem, hm⟩
    have hlen : (bs ++ (l.take j).flatMap encO).length ≤ 800000 := by rw [List.length_append]; omega
    generalize bs ++ (l.take j).flatMap encO = bj at *
    clear hbe stepOk htk htk1 ih hok hmem
    generalize l[j] = e at *
    simp -implicitDefEqProofs only [L15_1, wpB_some', gd_true, gd_false, gd_tf, gd_ft, gd_ut, gd_uf, gv_true, gv_false, gv_tf, gv_ft, gv_ut, gv_uf, gE_true, gE_false, gE_tf, gE_ft, gE_ut, gE_uf, gU_true, gU_false, gU_tf, gU_ft, pickv_true, pickv_false, cnd_true, cnd_false, decide_true, decide_false, Bool.not_true, Bool.not_false, pr_not, nilv_some, bp_lss, bp_leq, bp_gtr, bp_geq, be_eql, be_neq, bne_self_eq_false, beq_self_eq_true, ldC_some, Option.isNone_none, Option.isNone_some, hp_drew, hlt, q1, q2, al_40]
    rw [st_40 (by rfl) (by rfl) (by rw [alloc_heap, if_pos rfl]; rfl) (by rw [alloc_heap, if_pos rfl]; rfl), alloc_heap, if_pos rfl]
    simp -implicitDefEqProofs only [getE_some]
    generalize hz : w.alloc _ = wa
    have hca : Chg [] w wa := by rw [← hz]; exact (Chg.refl _ _).alloc _
    have hza : wa.heap.size = w.heap.size + 1 := by rw [← hz]; simp
    have hcp : Chg [] w (put wa w.heap.size (opC e).toArray 40) := hca.put (.inr (Nat.le_refl _)) _ _
    have h8 : hp (put wa w.heap.size (opC e).toArray 40) w.heap.size = some (.cells (opC e).toArray 40) := by rw [put_heap, if_pos rfl, if_pos (by omega)]
    have n8 : w.heap.size ∉ blk x := fun hm => by have := (h.own.lt _ (mem_blk.1 hm)).2; omega
    have h1 := h.grow hcp
    clear hz hca hza hcp h
    generalize put wa w.heap.size (opC e).toArray 40 = w1 at *
    generalize w.heap.size = g8 at *
    simp -implicitDefEqProofs only [ldv_whole ag_40 (show (Try.prog.info? 40).map (·.size) = some (opC e).toArray.size from sz_40) h8, wpB_some']
    refine (c_opMay e w1).mono ?_
    rintro v w2 ⟨rfl, c2⟩
    have h2 := h1.grow c2
    have h82 := c2.at h8 (by simp)
    cases hm : mayO e with
    | false =>
      simp -implicitDefEqProofs only [wpB_some', gd_true, gd_false, gd_tf, gd_ft, gd_ut, gd_uf, gv_true, gv_false, gv_tf, gv_ft, gv_ut, gv_uf, gE_true, gE_false, gE_tf, gE_ft, gE_ut, gE_uf, gU_true, gU_false, gU_tf, gU_ft, pickv_true, pickv_false, cnd_true, cnd_false, decide_true, decide_false, Bool.not_true, Bool.not_false, pr_not, nilv_some, bp_lss, bp_leq, bp_gtr, bp_geq, be_eql, be_neq, bne_self_eq_false, beq_self_eq_true, ldC_some, Option.isNone_none, Option.isNone_some, hp_drew]
      exact badj hm w2 h2.ch
    | true =>
      have hb := mayO_bounds hm
      simp -implicitDefEqProofs only [wpB_some', gd_true, gd_false, gd_tf, gd_ft, gd_ut, gd_uf, gv_true, gv_false, gv_tf, gv_ft, gv_ut, gv_uf, gE_true, gE_false, gE_tf, gE_ft, gE_ut, gE_uf, gU_true, gU_false, gU_tf, gU_ft, pickv_true, pickv_false, cnd_true, cnd_false, decide_true, decide_false, Bool.not_true, Bool.not_false, pr_not, nilv_some, bp_lss, bp_leq, bp_gtr, bp_geq, be_eql, be_neq, bne_self_eq_false, beq_self_eq_true, ldC_some, Option.isNone_none, Option.isNone_some, hp_drew, fa_40_0, ld_3, h82, op_0]
      refine (c_has e.1 w2).mono ?_
      rintro v w3 ⟨rfl, c3⟩
      have h3 := h2.grow c3
      have h83 := c3.at h82 (by simp)
      have ek : IntKind.u8.wrap e.1 = e.1 := by rw [wrap8]; omega
      simp -implicitDefEqProofs only [quad0, quad1, quad2, quad3, wpB_some', gd_true, gd_false, gd_tf, gd_ft, gd_ut, gd_uf, gv_true, gv_false, gv_tf, gv_ft, gv_ut, gv_uf, gE_true, gE_false, gE_tf, gE_ft, gE_ut, gE_uf, gU_true, gU_false, gU_tf, gU_ft, pickv_true, pickv_false, cnd_true, cnd_false, decide_true, decide_false, Bool.not_true, Bool.not_false, pr_not, nilv_some, bp_lss, bp_leq, bp_gtr, bp_geq, be_eql, be_neq, bne_self_eq_false, beq_self_eq_true, ldC_some, Option.isNone_none, Option.isNone_some, hp_drew, fa_40_0, ld_3, h83, op_0, cv_3_5, ek]
      refine h3.push (by omega) e.1 fun x4 w4 h4 u4 => ?_
      obtain ⟨h84, n84⟩ := h3.keepB u4 h83 n8
      by_cases hk : ofK e.1 = 0
      · have hfe : fE e = [] := by simp [fE, hk]
        simp -implicitDefEqProofs only [hk, decide_true, Bool.not_true, cnd_false]
        refine l_Put3 hm hwfj (by rw [List.length_append, List.length_singleton]; omega) h4 h84 n84 fun w' x' h' => go hm w' x' ?_
        have e5 : bj ++ [e.1] ++ nE e ++ vE e ++ wE e = bj ++ encO e := by simp [encO, hfe]
        rw [← e5]; exact h'
      · have hfe : fE e = [e.2.1] ++ lowB e.2.2.1 2 := by simp [fE, hk]
        have ef : IntKind.u8.wrap e.2.1 = e.2.1 := by rw [wrap8]; omega
        have tail : ∀ w' x', Out W w' x' (bj ++ [e.1] ++ [e.2.1] ++ lowB e.2.2.1 2) → hp w' g8 = some (.cells (opC e).toArray 40) → g8 ∉ blk x' → P15_3 x1 x' (.pointer (some ⟨g8, 0, none⟩)) (.bool (nB e.1)) (.bool (vB e.1)) (.bool (wB e.1)) x24 x25 (.int .i64 i) (.slice A' l.length c') (.int .i64 l.length) (.int .i64 j) w' Q := fun w' x' h' k1 k2 => by
          refine l_Put3 hm hwfj (by simp only [List.length_append, List.length_singleton, lowB_len]; omega) h' k1 k2 fun w'' x'' h'' => go hm w'' x'' ?_
          have e5 : bj ++ [e.1] ++ [e.2.1] ++ lowB e.2.2.1 2 ++ nE e ++ vE e ++ wE e = bj ++ encO e := by simp [encO, hfe]
          rw [← e5]; exact h''
        have hd : Chg [] w4 w4.drew := (Chg.refl _ _).drew
        have h4d := h4.grow hd
        have h84d : hp w4.drew g8 = some (.cells (opC e).toArray 40) := h84
        have lenb : (bj ++ [e.1]).length ≤ 900000 := by rw [List.length_append, List.length_singleton]; omega
        have lenc : (bj ++ [e.1] ++ [e.2.1]).length ≤ 900000 := by simp only [List.length_append, List.length_singleton]; omega
        have pushLow : ∀ {K : Value → World → Prop}, (∀ w' x', Out W w' x' (bj ++ [e.1] ++ [e.2.1] ++ lowB e.2.2.1 2) → hp w' g8 = some (.cells (opC e).toArray 40) → g8 ∉ blk x' → K x' w') → effv Try.prog (Instr.buildSlice 28 1 #[(0, .int .u8 e.2.1)]) w4.drew fun y w1 => effv Try.prog (Builtin.append_ #[28, 28] 28 #[x4, y]) w1 fun x5 w5 => CallR Try.prog 59 [x5, .int .u64 e.2.2.1, .int .i64 2] w5 K := by
          intro K hk
          refine h4d.push (by omega) e.2.1 fun x5 w5 h5 u5 => ?_
          obtain ⟨h85, n85⟩ := h4d.keepB u5 h84d n84
          refine h5.low (by omega) hb.2.2.1.1 (n := 2) (by omega) fun x6 w6 h6 u6 => ?_
          obtain ⟨h86, n86⟩ := h5.keepB u6 h85 n85
          exact hk w6 x6 h6 h86 n86
        simp -implicitDefEqProofs only [hk, decide_false, Bool.not_false, cnd_true, fa_40_1, fa_40_2, wpB_some', gd_true, gd_false, gd_tf, gd_ft, gd_ut, gd_uf, gv_true, gv_false, gv_tf, gv_ft, gv_ut, gv_uf, gE_true, gE_false, gE_tf, gE_ft, gE_ut, gE_uf, gU_true, gU_false, gU_tf, gU_ft, pickv_true, pickv_false, cnd_true, cnd_false, decide_true, decide_false, Bool.not_true, Bool.not_false, pr_not, nilv_some, bp_lss, bp_leq, bp_gtr, bp_geq, be_eql, be_neq, bne_self_eq_false, beq_self_eq_true, ldC_some, Option.isNone_none, Option.isNone_some, hp_drew, ld_3, h84, op_1, op_2, cv_3_5, ef, cv_3_38, wrapu (n := e.2.2.1) (by omega) (by omega)]
        constructor
        · exact pushLow fun w' x' a b c => tail w' x' a b c
        · refine h4d.push (by omega) e.2.1 fun x5 w5 h5 u5 => ?_
          obtain ⟨h85, n85⟩ := h4d.keepB u5 h84d n84
          simp -implicitDefEqProofs only [wpB_some', gd_true, gd_false, gd_tf, gd_ft, gd_ut, gd_uf, gv_true, gv_false, gv_tf, gv_ft, gv_ut, gv_uf, gE_true, gE_false, gE_tf, gE_ft, gE_ut, gE_uf, gU_true, gU_false, gU_tf, gU_ft, pickv_true, pickv_false, cnd_true, cnd_false, decide_true, decide_false, Bool.not_true, Bool.not_false, pr_not, nilv_some, bp_lss, bp_leq, bp_gtr, bp_geq, be_eql, be_neq, bne_self_eq_false, beq_self_eq_true, ldC_some, Option.isNone_none, Option.isNone_some, hp_drew, ld_3, h85, op_2, cv_3_38, wrapu (n := e.2.2.1) (by omega) (by omega)]
          refine h5.low (by omega) hb.2.2.1.1 (n := 2) (by omega) fun x6 w6 h6 u6 => ?_
          obtain ⟨h86, n86⟩ := h5.keepB u6 h85 n85
          exact tail w6 x6 h6 h86 n86
/-- the picks -/
theorem l_Put2 {W : World} {ps : List Int} (hl : ps.length ≤ 1000000) {A : Option Addr} {c : Nat} (hA : RdI .i64 W A ps) {bs : List Int} (hB : bs.length + ps.length ≤ 800000) {Q : Value → World → Prop}
    (bad : (∃ k ∈ ps, okP k = false) → ∀ w', Chg [] W w' → Q (.tuple #[.slice none 0 0, .int .i64 10]) w')
    (next : (∀ k ∈ ps, okP k = true) → ∀ w' x', Out W w' x' (bs ++ ps) → Q (.tuple #[x', .int .i64 0]) w') :
    ∀ (d j : Nat) (w : World) (x : Value), Out W w x (bs ++ ps.take j) → (∀ k ∈ ps.take j, okP k = true) → j + d = ps.length →
      P15_2 x (.slice A ps.length c) (.int .i64 ps.length) (.int .i64 j) w Q := by
  intro d
  induction d with
  | zero =>
    intro j w x h hok hj
    obtain rfl : j = ps.length := by omega
    rw [List.take_length] at h hok
    apply L15_2_ok
    simp -implicitDefEqProofs only [L15_2, wpB_some', gd_true, gd_false, gd_tf, gd_ft, gd_ut, gd_uf, gv_true, gv_false, gv_tf, gv_ft, gv_ut, gv_uf, gE_true, gE_false, gE_tf, gE_ft, gE_ut, gE_uf, gU_true, gU_false, gU_tf, gU_ft, pickv_true, pickv_false, cnd_true, cnd_false, decide_true, decide_false, Bool.not_true, Bool.not_false, pr_not, nilv_some, bp_lss, bp_leq, bp_gtr, bp_geq, be_eql, be_neq, bne_self_eq_false, beq_self_eq_true, ldC_some, Option.isNone_none, Option.isNone_some, hp_drew, Int.lt_irrefl]
    exact next hok w x h
  | succ d ih =>
    intro j w x h hok hj
    apply L15_2_ok
    have hlt : (j : Int) < ps.length := by omega
    have hjl : j < ps.length := by omega
    obtain ⟨q, q1, q2⟩ := (hA.keep h.ch.below).at (P := Try.prog) (c := c) (j := .i64) Try.underlying23 Try.underlying3 sz_3 (i := (j : Int)) (by omega) hlt
    have hk : ps.getD (j : Int).toNat 0 = ps[j] := by simp [List.getD_eq_getElem?_getD, hjl]
    rw [hk] at q2
    have hmem : ps[j] ∈ ps := List.getElem_mem hjl
    have stepOk : okP ps[j] = true → ∀ k ∈ ps.take (j + 1), okP k = true := fun hm k hk => by
      rw [take_snoc hjl] at hk
      rcases List.mem_append.1 hk with h1 | h1
      · exact hok k h1
      · simp at h1; subst h1; exact hm
    have hbe : bs ++ ps.take (j + 1) = (bs ++ ps.take j) ++ [ps[j]] := by rw [take_snoc hjl, List.append_assoc]
    have hlen : (bs ++ ps.take j).length ≤ 800000 := by simp only [List.length_append, List.length_take]; omega
    have badj : okP ps[j] = false → ∀ w', Chg [] W w' → Q (.tuple #[.slice none 0 0, .int .i64 10]) w' := fun hm => bad ⟨_, hmem, hm⟩
    generalize ps[j] = e at *
    by_cases k1 : e < 0
    · simp -implicitDefEqProofs only [L15_2, wpB_some', gd_true, gd_false, gd_tf, gd_ft, gd_ut, gd_uf, gv_true, gv_false, gv_tf, gv_ft, gv_ut, gv_uf, gE_true, gE_false, gE_tf, gE_ft, gE_ut, gE_uf, gU_true, gU_false, gU_tf, gU_ft, pickv_true, pickv_false, cnd_true, cnd_false, decide_true, decide_false, Bool.not_true, Bool.not_false, pr_not, nilv_some, bp_lss, bp_leq, bp_gtr, bp_geq, be_eql, be_neq, bne_self_eq_false, beq_self_eq_true, ldC_some, Option.isNone_none, Option.isNone_some, hp_drew, hlt, q1, q2, k1]
      exact badj (decide_eq_false (by omega)) w h.ch
    by_cases k2 : (255 : Int) < e
    · simp -implicitDefEqProofs only [L15_2, wpB_some', gd_true, gd_false, gd_tf, gd_ft, gd_ut, gd_uf, gv_true, gv_false, gv_tf, gv_ft, gv_ut, gv_uf, gE_true, gE_false, gE_tf, gE_ft, gE_ut, gE_uf, gU_true, gU_false, gU_tf, gU_ft, pickv_true, pickv_false, cnd_true, cnd_false, decide_true, decide_false, Bool.not_true, Bool.not_false, pr_not, nilv_some, bp_lss, bp_leq, bp_gtr, bp_geq, be_eql, be_neq, bne_self_eq_false, beq_self_eq_true, ldC_some, Option.isNone_none, Option.isNone_some, hp_drew, hlt, q1, q2, k1, k2]
      exact badj (decide_eq_false (by omega)) w h.ch
    have ek : IntKind.u8.wrap e = e := by rw [wrap8]; omega
    simp -implicitDefEqProofs only [L15_2, wpB_some', gd_true, gd_false, gd_tf, gd_ft, gd_ut, gd_uf, gv_true, gv_false, gv_tf, gv_ft, gv_ut, gv_uf, gE_true, gE_false, gE_tf, gE_ft, gE_ut, gE_uf, gU_true, gU_false, gU_tf, gU_ft, pickv_true, pickv_false, cnd_true, cnd_false, decide_true, decide_false, Bool.not_true, Bool.not_false, pr_not, nilv_some, bp_lss, bp_leq, bp_gtr, bp_geq, be_eql, be_neq, bne_self_eq_false, beq_self_eq_true, ldC_some, Option.isNone_none, Option.isNone_some, hp_drew, hlt, q1, q2, k1, k2, cv_3_5, ek]
    refine h.push (by omega) e fun x' w' h' u => ?_
    simp -implicitDefEqProofs only [bp_add, wpB_some', gd_true, gd_false, gd_tf, gd_ft, gd_ut, gd_uf, gv_true, gv_false, gv_tf, gv_ft, gv_ut, gv_uf, gE_true, gE_false, gE_tf, gE_ft, gE_ut, gE_uf, gU_true, gU_false, gU_tf, gU_ft, pickv_true, pickv_false, cnd_true, cnd_false, decide_true, decide_false, Bool.not_true, Bool.not_false, pr_not, nilv_some, bp_lss, bp_leq, bp_gtr, bp_geq, be_eql, be_neq, bne_self_eq_false, beq_self_eq_true, ldC_some, Option.isNone_none, Option.isNone_some, hp_drew, wrapi (n := (j : Int) + 1) (by omega) (by omega)]
    have := ih (j + 1) w' x' (by rw [hbe]; exact h') (stepOk (decide_eq_true (by omega))) (by omega)
    rw [Int.natCast_add j 1] at this
    exact this
end Go.Proofs.Ytgamnncehjcdiaa
