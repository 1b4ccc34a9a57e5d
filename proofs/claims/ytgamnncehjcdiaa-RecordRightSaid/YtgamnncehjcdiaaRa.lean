/- Spans: which can be, which is ahead of which, what they share. -/
import Derived.Test.YtgamnncehjcdiaaDd
import Derived.Test.YtgamnncehjcdiaaGr
namespace Go.Proofs.Ytgamnncehjcdiaa
open Go Ev Go.RowKit
set_option linter.unusedSimpArgs false
set_option linter.unusedVariables false
set_option maxRecDepth 10000

abbrev HV := Int × Int × Int × Int × Int
abbrev ResV := Int × HV × Int × Int
/-- a span -/
structure SpV where
  wk : Int
  ix : Int
  op : OpV
  iv : Int
  pt : Int
  bk : Int
  rs : Int
  re : ResV
def resC (r : ResV) : List Value := [.int .i64 r.1, .int .i64 r.2.1.1, .int .i64 r.2.1.2.1, .int .i64 r.2.1.2.2.1, .int .i64 r.2.1.2.2.2.1, .int .i64 r.2.1.2.2.2.2, .int .i64 r.2.2.1, .int .u64 r.2.2.2]
def spC (s : SpV) : List Value := [.int .i64 s.wk, .int .i64 s.ix, .int .i64 s.op.1, .int .i64 s.op.2.1, .int .i64 s.op.2.2.1, .int .i64 s.op.2.2.2.1, .int .u64 s.op.2.2.2.2.1, .int .u64 s.op.2.2.2.2.2,
  .int .i64 s.iv, .int .i64 s.pt, .int .i64 s.bk, .int .i64 s.rs, .int .i64 s.re.1, .int .i64 s.re.2.1.1, .int .i64 s.re.2.1.2.1, .int .i64 s.re.2.1.2.2.1, .int .i64 s.re.2.1.2.2.2.1, .int .i64 s.re.2.1.2.2.2.2, .int .i64 s.re.2.2.1, .int .u64 s.re.2.2.2]
theorem spC_len (s : SpV) : (spC s).length = 20 := rfl
def spA (s : SpV) : Array Value := (spC s).toArray
theorem sp0 (s : SpV) : (spA s)[0]? = some (.int .i64 s.wk) := rfl
theorem sp1 (s : SpV) : (spA s)[1]? = some (.int .i64 s.ix) := rfl
theorem sp8 (s : SpV) : (spA s)[8]? = some (.int .i64 s.iv) := rfl
theorem sp9 (s : SpV) : (spA s)[9]? = some (.int .i64 s.pt) := rfl
theorem sp10 (s : SpV) : (spA s)[10]? = some (.int .i64 s.bk) := rfl
theorem sp11 (s : SpV) : (spA s)[11]? = some (.int .i64 s.rs) := rfl
theorem pr_max3 {P : Program} {ts : Array TypeId} {t : TypeId} {k : IntKind} {a b c : Int} : pureRun P (Builtin.max_ ts t #[.int k a, .int k b, .int k c]) = some (.int k (if c > (if b > a then b else a) then c else (if b > a then b else a))) := pureRun_of fun w => by simp [Builtin.max_, Builtin.max2]
def ahead (a b : SpV) : Bool := decide (0 ≤ a.rs) && decide (a.rs < b.iv)
theorem c_Ahead (a b : SpV) (w : World) : CallR Try.prog 31 [.agg (spA a), .agg (spA b)] w fun v w' => v = .bool (ahead a b) ∧ Chg [] w w' := by
  apply F31_ok
  have hc : ∀ x y : Array Value, Chg [] w ((w.alloc (.cells x 58)).alloc (.cells y 58)) := fun x y => ((Chg.refl _ _).alloc _).alloc _
  by_cases h : 0 ≤ a.rs <;> simp -implicitDefEqProofs [F31, effv_box, sp11, sp8, h, ahead, hc]
/-- can its steps be? -/
def right (s : SpV) : Bool := decide (0 ≤ s.wk ∧ s.wk < 64 ∧ 0 ≤ s.iv ∧ (s.pt = -1 ∨ s.iv ≤ s.pt) ∧ (s.bk = -1 ∨ (s.pt ≠ -1 ∧ s.pt < s.bk)) ∧ (s.rs = -1 ∨ (s.pt ≠ -1 ∧ s.pt ≤ s.rs ∧ s.bk ≤ s.rs)))
theorem c_right (s : SpV) (w : World) : CallR Try.prog 76 [.agg (spA s)] w fun v w' => v = .bool (right s) ∧ Chg [] w w' := by
  apply F76_ok
  have hc : ∀ x : Array Value, Chg [] w (w.alloc (.cells x 58)) := fun x => (Chg.refl _ _).alloc _
  have no : ∀ (h : ¬ (0 ≤ s.wk ∧ s.wk < 64 ∧ 0 ≤ s.iv ∧ (s.pt = -1 ∨ s.iv ≤ s.pt) ∧ (s.bk = -1 ∨ (s.pt ≠ -1 ∧ s.pt < s.bk)) ∧ (s.rs = -1 ∨ (s.pt ≠ -1 ∧ s.pt ≤ s.rs ∧ s.bk ≤ s.rs)))), right s = false := fun h => decide_eq_false h
  have yes : ∀ (h : (0 ≤ s.wk ∧ s.wk < 64 ∧ 0 ≤ s.iv ∧ (s.pt = -1 ∨ s.iv ≤ s.pt) ∧ (s.bk = -1 ∨ (s.pt ≠ -1 ∧ s.pt < s.bk)) ∧ (s.rs = -1 ∨ (s.pt ≠ -1 ∧ s.pt ≤ s.rs ∧ s.bk ≤ s.rs)))), right s = true := fun h => decide_eq_true h
  by_cases h1 : s.wk < 0
  · simp -implicitDefEqProofs [F76, effv_box, sp0, h1, hc, no (by omega)]
  by_cases h2 : 64 ≤ s.wk
  · simp -implicitDefEqProofs [F76, effv_box, sp0, h1, h2, hc, no (by omega)]
  by_cases h3 : s.iv < 0
  · simp -implicitDefEqProofs [F76, effv_box, sp0, sp8, h1, h2, h3, hc, no (by omega)]
  by_cases h4 : s.pt = -1
  · by_cases h5 : s.bk = -1
    · by_cases h6 : s.rs = -1
      · simp -implicitDefEqProofs [F76, effv_box, sp0, sp8, sp9, sp10, sp11, h1, h2, h3, h4, h5, h6, hc, yes (by omega)]
      · simp -implicitDefEqProofs [F76, effv_box, sp0, sp8, sp9, sp10, sp11, h1, h2, h3, h4, h5, h6, eqf h6, hc, no (by omega)]
    · simp -implicitDefEqProofs [F76, effv_box, sp0, sp8, sp9, sp10, sp11, h1, h2, h3, h4, h5, bne_iff_ne.2 h5, hc, no (by omega)]
  have b4 : (s.pt != -1) = true := bne_iff_ne.2 h4
  have b4' : (s.pt == -1) = false := eqf h4
  by_cases h7 : s.pt < s.iv
  · simp -implicitDefEqProofs [F76, effv_box, sp0, sp8, sp9, sp10, sp11, h1, h2, h3, b4, b4', h7, hc, no (by omega)]
  have fin : (s.bk = -1 ∨ s.pt < s.bk) → ∃ v, True := fun _ => ⟨0, trivial⟩
  by_cases h5 : s.bk = -1
  · by_cases h6 : s.rs = -1
    · simp -implicitDefEqProofs [F76, effv_box, sp0, sp8, sp9, sp10, sp11, h1, h2, h3, b4, b4', h7, h5, h6, hc, yes (by omega)]
    · simp -implicitDefEqProofs [F76, effv_box, sp0, sp8, sp9, sp10, sp11, h1, h2, h3, b4, b4', h7, h5, eqf h6, pr_max3, hc]
      rw [right, decide_eq_decide]
      omega
  · by_cases h8 : s.bk ≤ s.pt
    · simp -implicitDefEqProofs [F76, effv_box, sp0, sp8, sp9, sp10, sp11, h1, h2, h3, b4, b4', h7, bne_iff_ne.2 h5, h8, hc, no (by omega)]
    · by_cases h6 : s.rs = -1
      · simp -implicitDefEqProofs [F76, effv_box, sp0, sp8, sp9, sp10, sp11, h1, h2, h3, b4, b4', h7, bne_iff_ne.2 h5, h8, h6, hc, yes (by omega)]
      · simp -implicitDefEqProofs [F76, effv_box, sp0, sp8, sp9, sp10, sp11, h1, h2, h3, b4, b4', h7, bne_iff_ne.2 h5, h8, eqf h6, pr_max3, hc]
        rw [right, decide_eq_decide]
        omega
end Go.Proofs.Ytgamnncehjcdiaa
