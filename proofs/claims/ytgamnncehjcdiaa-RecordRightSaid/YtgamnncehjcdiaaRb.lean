/- Spans: the reference's test of one; what two share, in the program. -/
import Derived.Test.YtgamnncehjcdiaaRa
namespace Go.Proofs.Ytgamnncehjcdiaa
open Go Ev Go.RowKit
set_option linter.unusedSimpArgs false
set_option linter.unusedVariables false
set_option maxRecDepth 10000

theorem l_Index {xs : List Int} (hl : xs.length ≤ 4611686018427387904) {A : Option Addr} {c : Nat} {w : World} (hr : RdI .i64 w A xs) (x : Int) : ∀ (d i : Nat), i + d = xs.length →
    P115_0 (.slice A xs.length c) (.int .i64 x) (.int .i64 xs.length) (.int .i64 i) w fun v w' => (∃ k : Int, v = .int .i64 k ∧ (decide (0 ≤ k) = (xs.drop i).contains x)) ∧ w' = w := by
  intro d
  induction d with
  | zero =>
    intro i hi
    apply L115_0_ok
    have : ¬ ((i : Int) < xs.length) := by omega
    simp -implicitDefEqProofs only [L115_0, wpB_some', bp_lss, this, decide_false, cnd_false]
    exact ⟨⟨-1, rfl, by rw [List.drop_of_length_le (by omega)]; rfl⟩, trivial⟩
  | succ d ih =>
    intro i hi
    apply L115_0_ok
    have hlt : (i : Int) < xs.length := by omega
    have hix : i < xs.length := by omega
    obtain ⟨q, hq1, hq2⟩ := hr.at (P := Try.prog) (c := c) (j := .i64) Try.underlying23 Try.underlying3 sz_3 (i := (i : Int)) (by omega) hlt
    have hd : xs.drop i = xs.getD i 0 :: xs.drop (i + 1) := by
      rw [List.drop_eq_getElem_cons hix, List.getD_eq_getElem?_getD, List.getElem?_eq_getElem hix]; rfl
    rw [Int.toNat_natCast] at hq2
    simp -implicitDefEqProofs only [L115_0, wpB_some', bp_lss, hlt, decide_true, cnd_true, hq1, hq2, be_eql, hd, List.contains_cons]
    by_cases h : x = xs.getD i 0
    · have hb : (x == xs.getD i 0) = true := by rw [h]; simp
      simp -implicitDefEqProofs only [hb, cnd_true, Bool.true_or]
      exact ⟨⟨i, rfl, by simp⟩, trivial⟩
    · have hb : (x == xs.getD i 0) = false := eqf h
      simp -implicitDefEqProofs only [hb, cnd_false, bp_add, wpB_some', wrapi (n := (i : Int) + 1) (by omega) (by omega), Bool.false_or]
      have h := ih (i + 1) (by omega)
      rw [Int.natCast_add i 1] at h
      exact h
theorem c_Contains {xs : List Int} (hl : xs.length ≤ 4611686018427387904) {v : Value} {w : World} (hr : SlI w v xs) (x : Int) : CallR Try.prog 112 [v, .int .i64 x] w fun v w' => v = .bool (xs.contains x) ∧ w' = w := by
  obtain ⟨A, c, rfl, hr⟩ := hr
  apply F112_ok
  have hi : CallR Try.prog 115 [.slice A xs.length c, .int .i64 x] w fun v w' => (∃ k : Int, v = .int .i64 k ∧ (decide (0 ≤ k) = xs.contains x)) ∧ w' = w := by
    apply F115_ok
    simp -implicitDefEqProofs only [F115, len_23, wpB_some']
    have := l_Index (c := c) hl hr x xs.length 0 (by omega)
    simp only [List.drop_zero] at this
    exact this
  refine hi.mono ?_
  rintro v w' ⟨⟨k, rfl, hk⟩, rfl⟩
  simp -implicitDefEqProofs only [bp_geq, wpB_some', hk]
  exact ⟨trivial, trivial⟩
/-! ### steps in common -/
def stps (s : SpV) : List Int := [s.iv, s.pt, s.bk, s.rs]
def shrd (a b : SpV) : Bool := (stps b).any fun x => (x != -1) && (stps a).contains x
theorem slI_lit {w : World} {g : Nat} {a b c d : Int} {e : TypeId} (h : hp w g = some (.cells #[.int .i64 a, .int .i64 b, .int .i64 c, .int .i64 d] e)) : SlI w (.slice (some ⟨g, 0, none⟩) 4 4) [a, b, c, d] := by
  refine ⟨some ⟨g, 0, none⟩, 4, rfl, fun i hi => ⟨_, rfl, ?_⟩⟩
  rw [addr_add, cell_ldC, h, ldC_some]
  have hi : i < 4 := hi
  rcases (by omega : i = 0 ∨ i = 1 ∨ i = 2 ∨ i = 3) with rfl | rfl | rfl | rfl <;> rfl
theorem l_shared {a : List Int} (ha : a.length = 4) {b : List Int} (hb : b.length = 4) {w : World} {x5 x25 : Value} (h5 : SlI w x5 a) (h25 : SlI w x25 b) : ∀ (d i : Nat), i + d = 4 →
    P77_0 x5 x25 (.int .i64 4) (.int .i64 i) w fun v w' => v = .bool ((b.drop i).any fun x => (x != -1) && a.contains x) ∧ w' = w := by
  intro d
  induction d with
  | zero =>
    intro i hi
    apply L77_0_ok
    have : ¬ ((i : Int) < 4) := by omega
    simp -implicitDefEqProofs only [L77_0, wpB_some', bp_lss, this, decide_false, cnd_false]
    exact ⟨by rw [List.drop_of_length_le (by omega)]; rfl, trivial⟩
  | succ d ih =>
    intro i hi
    apply L77_0_ok
    have hlt : (i : Int) < 4 := by omega
    have hix : i < b.length := by omega
    obtain ⟨B, c, rfl, hB⟩ := h25
    obtain ⟨q, hq1, hq2⟩ := hB.at (P := Try.prog) (c := c) (j := .i64) Try.underlying23 Try.underlying3 sz_3 (i := (i : Int)) (by omega) (by omega)
    have hd : b.drop i = b.getD i 0 :: b.drop (i + 1) := by
      rw [List.drop_eq_getElem_cons hix, List.getD_eq_getElem?_getD, List.getElem?_eq_getElem hix]; rfl
    rw [Int.toNat_natCast] at hq2
    simp -implicitDefEqProofs only [L77_0, wpB_some', bp_lss, hlt, decide_true, cnd_true, hq1, hq2, be_neq, hd, List.any_cons]
    have next := ih (i + 1) (by omega)
    rw [Int.natCast_add i 1] at next
    by_cases h : b.getD i 0 = -1
    · have hb : (b.getD i 0 != -1) = false := by rw [h]; rfl
      simp -implicitDefEqProofs only [hb, gE_ft, pickv_false, cnd_false, wpB_some', bp_add, wrapi (n := (i : Int) + 1) (by omega) (by omega), Bool.false_and, Bool.false_or]
      exact next
    · have hb : (b.getD i 0 != -1) = true := bne_iff_ne.2 h
      simp -implicitDefEqProofs only [hb, gE_true, gv_true]
      refine (c_Contains (by omega) h5 _).step ?_
      cases hcn : a.contains (b.getD i 0)
      · simp -implicitDefEqProofs only [pickv_true, wpB_some', cnd_false, bp_add, wrapi (n := (i : Int) + 1) (by omega) (by omega), Bool.and_false, Bool.false_or]
        exact next
      · simp -implicitDefEqProofs only [pickv_true, wpB_some', cnd_true, Bool.and_true, Bool.true_or]
        exact ⟨trivial, trivial⟩
theorem c_shared (a b : SpV) (w : World) : CallR Try.prog 77 [.agg (spA a), .agg (spA b)] w fun v w' => v = .bool (shrd a b) ∧ Chg [] w w' := by
  apply F77_ok
  simp -implicitDefEqProofs [F77, effv_box, sp8, sp9, sp10, sp11]
  have hc : Chg [] w ((((w.alloc (.cells (spA a) 58)).alloc (.cells (spA b) 58)).alloc (.cells #[.int .i64 a.iv, .int .i64 a.pt, .int .i64 a.bk, .int .i64 a.rs] 3)).alloc (.cells #[.int .i64 b.iv, .int .i64 b.pt, .int .i64 b.bk, .int .i64 b.rs] 3)) := ((((Chg.refl _ _).alloc _).alloc _).alloc _).alloc _
  have := l_shared (a := stps a) (b := stps b) rfl rfl (slI_lit (g := w.heap.size + 1 + 1) (e := 3) (by simp)) (slI_lit (w := ((((w.alloc (.cells (spA a) 58)).alloc (.cells (spA b) 58)).alloc (.cells #[.int .i64 a.iv, .int .i64 a.pt, .int .i64 a.bk, .int .i64 a.rs] 3)).alloc (.cells #[.int .i64 b.iv, .int .i64 b.pt, .int .i64 b.bk, .int .i64 b.rs] 3))) (g := w.heap.size + 1 + 1 + 1) (e := 3) (by simp)) 4 0 (by omega)
  refine Part.mono this ?_
  rintro v w' ⟨rfl, rfl⟩
  exact ⟨rfl, hc⟩
end Go.Proofs.Ytgamnncehjcdiaa
