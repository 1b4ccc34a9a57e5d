/- The chapter's example of a script. -/
import Derived.Test.YtgamnncehjcdiaaDk
namespace Go.Proofs.Ytgamnncehjcdiaa
open Go Ev Go.RowKit
set_option linter.unusedSimpArgs false
set_option linter.unusedVariables false
set_option maxRecDepth 10000

theorem read1 : pRead [1, 1, 0, 3, 0, 0] = ([[(3, 0, 0, 0, 0, 0)]], [0, 0]) := by
  have e1 : pNum 1 ([1, 1, 0, 3, 0, 0], false) = (1, ([1, 0, 3, 0, 0], false)) := by decide
  have e2 : pNum 2 ([1, 0, 3, 0, 0], false) = (1, ([3, 0, 0], false)) := by decide
  have e3 : pOp ([3, 0, 0], false) = ((3, 0, 0, 0, 0, 0), ([0, 0], false)) := by decide
  have e4 : pList ([1, 0, 3, 0, 0], false) = ([(3, 0, 0, 0, 0, 0)], ([0, 0], false)) := by
    simp only [pList, manyOf, e2]
    show pOps 1 ([3, 0, 0], false) = _
    simp [pOps, e3]
  simp only [pRead, e1]
  show ((pLists 1 ([1, 0, 3, 0, 0], false)).1, fin (pLists 1 ([1, 0, 3, 0, 0], false)).2) = _
  simp [pLists, e4, fin]
theorem c_first20 (W : World) : CallR Try.prog 14 [] W fun v w' => v = .bool true ∧ Chg [] W w' := by
  apply F14_ok
  simp -implicitDefEqProofs only [F14, bs_28_6]
  have hc0 : Chg [] W (W.alloc (.cells #[.int .u8 1, .int .u8 1, .int .u8 0, .int .u8 3, .int .u8 0, .int .u8 0] 5)) := (Chg.refl _ _).alloc _
  have hSl : SlB (W.alloc (.cells #[.int .u8 1, .int .u8 1, .int .u8 0, .int .u8 3, .int .u8 0, .int .u8 0] 5)) (.slice (some ⟨W.heap.size, 0, none⟩) 6 6) [1, 1, 0, 3, 0, 0] := by
    refine ⟨some ⟨W.heap.size, 0, none⟩, 6, rfl, fun j u hj => ⟨_, rfl, ?_⟩, by decide, fun p hp _ => by cases hp; simp⟩
    rw [addr_add, cell_ldC, alloc_heap, if_pos rfl, ldC_some]
    simpa [u8s] using hj
  refine (c_Read hSl (by intro b hb; simp at hb; omega)).mono ?_
  rintro v w1 ⟨hS, hc1⟩
  rw [read1] at hS
  have hcW : Chg [] W w1 := hc0.trans hc1
  obtain ⟨A, c, vs, vp, rfl, a2, a3, a4, a5⟩ := hS.ex
  obtain ⟨B, d, rfl, hB⟩ := a5
  simp -implicitDefEqProofs only [al_25]
  rw [st_25 (by rfl) (by rfl) (by rw [alloc_heap, if_pos rfl]; rfl) (by rw [alloc_heap, if_pos rfl]; rfl), alloc_heap, if_pos rfl]
  simp -implicitDefEqProofs only [getE_some]
  have hc2 : Chg [] w1 (put (w1.alloc (.cells #[.slice none 0 0, .slice none 0 0] 25)) w1.heap.size #[.slice A ([[(3, 0, 0, 0, 0, 0)]] : List (List OpV)).length c, .slice B ([0, 0] : List Int).length d] 25) := ((Chg.refl _ _).alloc _).put (.inr (Nat.le_refl _)) _ _
  have hg : hp (put (w1.alloc (.cells #[.slice none 0 0, .slice none 0 0] 25)) w1.heap.size #[.slice A ([[(3, 0, 0, 0, 0, 0)]] : List (List OpV)).length c, .slice B ([0, 0] : List Int).length d] 25) w1.heap.size = some (.cells #[.slice A 1 c, .slice B 2 d] 25) := by rw [put_heap, if_pos rfl, if_pos (by simp)]; rfl
  have hS2 := hS.keep hc2.below
  have a2 := a2.keep hc2.below
  have hB := hB.keep hc2.below
  have a4' : ∀ (j : Nat) (x : Value) (ops : List OpV), vs[j]? = some x → ([[(3, 0, 0, 0, 0, 0)]] : List (List OpV))[j]? = some ops → SlO _ x ops := fun j x ops hx ho => (a4 j x ops hx ho).keep hc2.below
  generalize put (w1.alloc (.cells #[.slice none 0 0, .slice none 0 0] 25)) w1.heap.size #[.slice A ([[(3, 0, 0, 0, 0, 0)]] : List (List OpV)).length c, .slice B ([0, 0] : List Int).length d] 25 = w2 at *
  generalize w1.heap.size = g at *
  have h3 : vs.length = 1 := a3
  obtain ⟨x, hx⟩ : ∃ x, vs[0]? = some x := ⟨_, List.getElem?_eq_getElem (by omega)⟩
  obtain ⟨A', c', rfl, hO⟩ := a4' 0 x [(3, 0, 0, 0, 0, 0)] hx rfl
  obtain ⟨b1, o1, q1, q2⟩ := val_at (c := c) (j := .i64) a2 h3 hx
  obtain ⟨b2, o2, r1, r2⟩ := op_at (c := c') (j := .i64) (i := 0) hO (by decide)
  have r2 : ldv Try.prog 40 (.pointer (some ⟨b2, o2, none⟩)) w2 = some (.agg #[.int .i64 3, .int .i64 0, .int .i64 0, .int .i64 0, .int .u64 0, .int .u64 0]) := r2
  obtain ⟨p0, t1, t2⟩ := hB.at (P := Try.prog) (c := d) (j := .i64) Try.underlying23 Try.underlying3 sz_3 (i := 0) (by omega) (by decide)
  obtain ⟨p1, u1, u2⟩ := hB.at (P := Try.prog) (c := d) (j := .i64) Try.underlying23 Try.underlying3 sz_3 (i := 1) (by omega) (by decide)
  have q1 : pureRun Try.prog (Instr.indexAt 22 (.slice A 1 c) (.int .i64 0)) = some (.pointer (some ⟨b1, o1, none⟩)) := q1
  have r1 : pureRun Try.prog (Instr.indexAt 27 (.slice A' 1 c') (.int .i64 0)) = some (.pointer (some ⟨b2, o2, none⟩)) := r1
  have t1 : pureRun Try.prog (Instr.indexAt 23 (.slice B 2 d) (.int .i64 0)) = some (.pointer (some p0)) := t1
  have u1 : pureRun Try.prog (Instr.indexAt 23 (.slice B 2 d) (.int .i64 1)) = some (.pointer (some p1)) := u1
  have t2 : ldv Try.prog 3 (.pointer (some p0)) w2 = some (.int .i64 0) := t2
  have u2 : ldv Try.prog 3 (.pointer (some p1)) w2 = some (.int .i64 0) := u2
  have e1 : (((1 : Nat) : Int) == 1) = true := rfl
  have e2 : (((2 : Nat) : Int) == 2) = true := rfl
  have e3 : ((0 : Int) == 0) = true := rfl
  have l1 : ([(3, 0, 0, 0, 0, 0)] : List OpV).length = 1 := rfl
  rw [l1] at q2
  have hld : ldv Try.prog 25 (.pointer (some ⟨g, 0, none⟩)) w2 = some (.agg #[.slice A 1 c, .slice B 2 d]) := by rw [ld_25, hg]; rfl
  simp -implicitDefEqProofs only [fa_25_0, fa_25_1, wpB_some', ld_22, ld_23, ld_27, hg, ldC_some, t2_0, t2_1, len_22, len_27, len_23, be_eql, e1, e2, e3, gd_true, gv_true, q1, q2, r1, r2, t1, t2, u1, u2, pickv_true, bd_40_0, be_eql_40, beq_self_eq_true, Bool.and_self, hld, gE_true]
  refine (c_SMay (s := ([[(3, 0, 0, 0, 0, 0)]], [0, 0])) (by decide) hS2).mono ?_
  rintro _ w3 ⟨rfl, hb3⟩
  have : mayS ([[(3, 0, 0, 0, 0, 0)]], [0, 0]) = true := by decide
  simp -implicitDefEqProofs only [this, pickv_true, wpB_some']
  exact ⟨trivial, (hcW.trans hc2).trans (Chg.of_below hb3 _)⟩
end Go.Proofs.Ytgamnncehjcdiaa
