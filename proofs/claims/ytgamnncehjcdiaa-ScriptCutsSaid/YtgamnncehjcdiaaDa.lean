/- What operations are of, and have, in the program and in the reference. -/
import Derived.Test.YtgamnncehjcdiaaTb
import Derived.Test.YtgamnncehjcdiaaGs
namespace Go.Proofs.Ytgamnncehjcdiaa
open Go Ev Go.RowKit
set_option linter.unusedSimpArgs false
set_option linter.unusedVariables false
set_option maxRecDepth 10000

def ofK (k : Int) : Int := if k = 2 ∨ k = 10 ∨ k = 12 then 1 else if 6 ≤ k ∧ k ≤ 9 then 2 else if k = 5 then 3 else 0
def nB (k : Int) : Bool := decide (k = 1 ∨ k = 2 ∨ (6 ≤ k ∧ k ≤ 9))
def vB (k : Int) : Bool := decide (7 ≤ k ∧ k ≤ 9)
def wB (k : Int) : Bool := decide (k = 9)
theorem kind_cases (k : Int) : k = 1 ∨ k = 2 ∨ k = 3 ∨ k = 4 ∨ k = 5 ∨ k = 6 ∨ k = 7 ∨ k = 8 ∨ k = 9 ∨ k = 10 ∨ k = 11 ∨ k = 12 ∨ (k < 1 ∨ 12 < k) := by omega
theorem eqf {k c : Int} (h : k ≠ c) : (k == c) = false := by simpa using h
theorem c_Of (k : Int) (w : World) : CallR Try.prog 63 [.int .i64 k] w fun v w' => v = .int .i64 (ofK k) ∧ w' = w := by
  rcases kind_cases k with rfl | rfl | rfl | rfl | rfl | rfl | rfl | rfl | rfl | rfl | rfl | rfl | h
  all_goals
    apply F63_ok
    try simp -implicitDefEqProofs [F63]
    try rw [eqf (show k ≠ 2 by omega), eqf (show k ≠ 10 by omega), eqf (show k ≠ 12 by omega)]
    try simp -implicitDefEqProofs only [cnd_false]
    try apply L63_0_ok
    try simp -implicitDefEqProofs [L63_0]
    try rw [eqf (show k ≠ 6 by omega), eqf (show k ≠ 7 by omega), eqf (show k ≠ 8 by omega), eqf (show k ≠ 9 by omega)]
    try simp -implicitDefEqProofs only [cnd_false]
    try apply L63_1_ok
    try simp -implicitDefEqProofs [L63_1]
    try rw [eqf (show k ≠ 5 by omega)]
    try simp -implicitDefEqProofs only [cnd_false]
    try (simp [ofK]; done)
    try (rw [ofK, if_neg (by omega), if_neg (by omega), if_neg (by omega)])
theorem c_HasN (k : Int) (w : World) : CallR Try.prog 64 [.int .i64 k] w fun v w' => v = .bool (nB k) ∧ w' = w := by
  apply F64_ok
  by_cases h1 : k = 1 <;> by_cases h2 : k = 2 <;> by_cases h6 : 6 ≤ k <;> by_cases h9 : k ≤ 9 <;> simp -implicitDefEqProofs [F64, h1, h2, h6, h9, eqf, nB] <;> omega
theorem c_HasV (k : Int) (w : World) : CallR Try.prog 65 [.int .i64 k] w fun v w' => v = .bool (vB k) ∧ w' = w := by
  apply F65_ok
  by_cases h6 : 7 ≤ k <;> by_cases h9 : k ≤ 9 <;> simp -implicitDefEqProofs [F65, h6, h9, vB]
/-! ### the table -/
def nameK (k : Int) : ByteArray :=
  if k = 1 then { data := #[99, 114, 101, 97, 116, 101] } else if k = 2 then { data := #[97, 108, 108, 111, 99] } else if k = 3 then { data := #[112, 105, 110] } else if k = 4 then { data := #[117, 110, 112, 105, 110] }
  else if k = 5 then { data := #[104, 111, 108, 100] } else if k = 6 then { data := #[108, 111, 97, 100] } else if k = 7 then { data := #[115, 116, 111, 114, 101] } else if k = 8 then { data := #[97, 100, 100] }
  else if k = 9 then { data := #[99, 97, 115] } else if k = 10 then { data := #[102, 114, 101, 101] } else if k = 11 then { data := #[99, 111, 108, 108, 101, 99, 116] } else if k = 12 then { data := #[115, 116, 97, 116, 115] } else { data := #[] }
def formC (k : Int) : List Value := [.string (nameK k), .int .i64 (ofK k), .bool (nB k), .bool (vB k), .bool (wB k)]
theorem formC_out {k : Int} (h : k < 1 ∨ 12 < k) : formC k = [.string { data := #[] }, .int .i64 0, .bool false, .bool false, .bool false] := by
  have e1 : nameK k = { data := #[] } := by
    unfold nameK
    rw [if_neg (by omega), if_neg (by omega), if_neg (by omega), if_neg (by omega), if_neg (by omega), if_neg (by omega), if_neg (by omega), if_neg (by omega), if_neg (by omega), if_neg (by omega), if_neg (by omega), if_neg (by omega)]
  have e2 : ofK k = 0 := by rw [ofK, if_neg (by omega), if_neg (by omega), if_neg (by omega)]
  have e3 : nB k = false := by simp [nB]; omega
  have e4 : vB k = false := by simp [vB]; omega
  have e5 : wB k = false := by simp [wB]; omega
  rw [formC, e1, e2, e3, e4, e5]
theorem c_formOf (k : Int) (w : World) : CallR Try.prog 108 [.int .i64 k] w fun v w' => v = .agg (formC k).toArray ∧ Chg [] w w' := by
  have hb : ∀ w' : World, w' = w → Chg [] w w' := fun w' h => h ▸ Chg.refl _ _
  have hch : ∀ c1 c2 c3 : Array Value, Chg [] w (put ((w.alloc (.cells c1 170)).alloc (.cells c2 170)) w.heap.size c3 170) := fun c1 c2 c3 => (((Chg.refl [] w).alloc _).alloc _).put (.inr (Nat.le_refl _)) _ _
  rcases kind_cases k with rfl | rfl | rfl | rfl | rfl | rfl | rfl | rfl | rfl | rfl | rfl | rfl | h
  case inr.inr.inr.inr.inr.inr.inr.inr.inr.inr.inr.inr =>
    apply F108_ok
    rw [formC_out h]
    rcases h with h | h
    · have h' : k < 1 := h
      simp -implicitDefEqProofs [F108, h', ia_189, ld_170, st_170, hch]
    · have h1 : ¬ k < 1 := by omega
      have h2 : (13 : Int) ≤ k := by omega
      simp -implicitDefEqProofs [F108, h1, h2, ia_189, ld_170, st_170, hch]
  all_goals
    apply F108_ok
    simp -implicitDefEqProofs [F108, ia_189, ld_170, st_170, formC, nameK, ofK, nB, vB, wB, hch]
theorem c_opOf (k : Int) (w : World) : CallR Try.prog 110 [.int .i64 k] w fun v w' => v = .int .i64 (ofK k) ∧ Chg [] w w' := by
  apply F110_ok
  refine (c_formOf k w).mono ?_
  rintro v w1 ⟨rfl, hc⟩
  simp -implicitDefEqProofs [F110, formC, hc]
theorem c_has (k : Int) (w : World) : CallR Try.prog 61 [.int .i64 k] w fun v w' => v = .tuple #[.bool (!decide (ofK k = 0)), .bool (nB k), .bool (vB k), .bool (wB k)] ∧ Chg [] w w' := by
  have last : ∀ n v x : Bool, n = nB k → v = vB k → x = wB k → P61_1 (.int .i64 k) (.bool n) (.bool v) (.bool x) w fun v w' => v = .tuple #[.bool (!decide (ofK k = 0)), .bool (nB k), .bool (vB k), .bool (wB k)] ∧ Chg [] w w' := by
    rintro n v x rfl rfl rfl
    apply L61_1_ok
    refine (c_opOf k w).mono ?_
    rintro v w1 ⟨rfl, hc⟩
    have : (ofK k != 0) = !decide (ofK k = 0) := by by_cases h : ofK k = 0 <;> simp [h]
    simp -implicitDefEqProofs [hc, this]
  rcases kind_cases k with rfl | rfl | rfl | rfl | rfl | rfl | rfl | rfl | rfl | rfl | rfl | rfl | h
  all_goals
    apply F61_ok
    try simp -implicitDefEqProofs only [F61, be_eql, wpB_some', cnd_true, cnd_false]
    try simp -implicitDefEqProofs only [eqf (show k ≠ 1 by omega), eqf (show k ≠ 2 by omega), eqf (show k ≠ 6 by omega), cnd_false]
    try simp -implicitDefEqProofs
    try apply L61_0_ok
    try simp -implicitDefEqProofs only [L61_0, be_eql, wpB_some', cnd_true, cnd_false]
    try simp -implicitDefEqProofs only [eqf (show k ≠ 7 by omega), eqf (show k ≠ 8 by omega), cnd_false]
    try simp -implicitDefEqProofs
    try apply L61_2_ok
    try simp -implicitDefEqProofs only [L61_2, be_eql, wpB_some', cnd_true, cnd_false]
    try simp -implicitDefEqProofs only [eqf (show k ≠ 9 by omega), cnd_false]
    try simp -implicitDefEqProofs
    try (exact last _ _ _ (by simp [nB] <;> omega) (by simp [vB] <;> omega) (by simp [wB] <;> omega))
end Go.Proofs.Ytgamnncehjcdiaa
