/- Parts of the proof of ModelPlays, one behind the other. Conditions: none. -/
import Derived.Test.YtgamnncehjcdiaaZModelPlays12
set_option linter.unusedSimpArgs false
set_option linter.unusedVariables false
set_option maxRecDepth 10000
namespace Go.Proofs.Ytgamnncehjcdiaa
open Go Ev Go.RowKit

theorem c_rIn (n a b : Int) (w : World) : CallR Try.prog 137 [.int .i64 n, .int .i64 a, .int .i64 b] w fun v w' => v = .bool (decide (a ≤ n ∧ n ≤ b)) ∧ w' = w := by
  apply F137_ok
  by_cases h1 : a ≤ n
  · simp -implicitDefEqProofs only [F137, ad, ax, am, aM, aN, aQ, aR, av, ak, aJ, aK, aS, aT, ay, ap, aU, aV, aX, aY, ae, ac, aj, ag, z1z, z2z, z3z, z4z, aH, af, aD, aB, aC, aA, aE, aG, z5z, z6z, ah, z7z, z8z, au, aA, aB, h1, ge_iff_le, true_and, and_self]
  · simp -implicitDefEqProofs only [F137, ad, ax, am, aM, aN, aQ, aR, av, ak, aJ, aK, aS, aT, ay, ap, aU, aV, aX, aY, ae, ac, aj, ag, z1z, z2z, z3z, z4z, aH, af, aD, aB, aC, aA, aE, aG, z5z, z6z, ah, z7z, z8z, au, aA, aB, h1, ge_iff_le, false_and, and_self]
theorem c_rRight (a n : Int) (w : World) : CallR Try.prog 138 [.int .i64 a, .int .i64 n] w fun v w' => v = .bool (rightV a n) ∧ w' = w := by
  apply F138_ok
  simp -implicitDefEqProofs only [F138]
  refine (c_rIn a 1 1024 w).step ?_
  by_cases h1 : 1 ≤ a ∧ a ≤ 1024
  · simp -implicitDefEqProofs only [decide_eq_true h1, ad, ax, am, aM, aN, aQ, aR, av, ak, aJ, aK, aS, aT, ay, ap, aU, aV, aX, aY, ae, ac, aj, ag, z1z, z2z, z3z, z4z, aH, af, aD, aB, aC, aA, aE, aG, z5z, z6z, ah, z7z, z8z, au]
    refine (c_rIn n 1 a w).step ?_
    simp -implicitDefEqProofs only [ad, ax, am, aM, aN, aQ, aR, av, ak, aJ, aK, aS, aT, ay, ap, aU, aV, aX, aY, ae, ac, aj, ag, z1z, z2z, z3z, z4z, aH, af, aD, aB, aC, aA, aE, aG, z5z, z6z, ah, z7z, z8z, au]
    exact ⟨by simp [rightV, h1.1, h1.2], trivial⟩
  · simp -implicitDefEqProofs only [decide_eq_false h1, ad, ax, am, aM, aN, aQ, aR, av, ak, aJ, aK, aS, aT, ay, ap, aU, aV, aX, aY, ae, ac, aj, ag, z1z, z2z, z3z, z4z, aH, af, aD, aB, aC, aA, aE, aG, z5z, z6z, ah, z7z, z8z, au]
    refine ⟨?_, trivial⟩
    rw [rightV, decide_eq_false (fun h => h1 ⟨h.1, h.2.1⟩)]
theorem c_rAlone (a n : Int) (w : World) : CallR Try.prog 139 [.int .i64 a, .int .i64 n] w fun v w' => v = .bool (aloneV a n) ∧ w' = w := by
  apply F139_ok
  simp -implicitDefEqProofs only [F139]
  refine (c_rRight a n w).step ?_
  cases hr : rightV a n with
  | true =>
    have := right_iff hr
    simp -implicitDefEqProofs only [ad, ax, am, aM, aN, aQ, aR, av, ak, aJ, aK, aS, aT, ay, ap, aU, aV, aX, aY, ae, ac, aj, ag, z1z, z2z, z3z, z4z, aH, af, aD, aB, aC, aA, aE, aG, z5z, z6z, ah, z7z, z8z, au, bp_sub, bC (n := a - n) (by omega) (by omega)]
    refine ⟨?_, trivial⟩
    rw [aloneV, hr, Bool.true_and]
    congr 2
    exact propext ⟨fun h => by omega, fun h => by omega⟩
  | false =>
    simp -implicitDefEqProofs only [ad, ax, am, aM, aN, aQ, aR, av, ak, aJ, aK, aS, aT, ay, ap, aU, aV, aX, aY, ae, ac, aj, ag, z1z, z2z, z3z, z4z, aH, af, aD, aB, aC, aA, aE, aG, z5z, z6z, ah, z7z, z8z, au]
    exact ⟨by simp [aloneV, hr], trivial⟩
theorem c_rFits2 (a off n : Int) (w : World) : CallR Try.prog 136 [.int .i64 a, .int .i64 off, .int .i64 n] w fun v w' => v = .bool (fitsV a off n) ∧ w' = w := by
  apply F136_ok
  simp -implicitDefEqProofs only [F136]
  refine (c_rRight a n w).step ?_
  cases hr : rightV a n with
  | true =>
    have := right_iff hr
    simp -implicitDefEqProofs only [ad, ax, am, aM, aN, aQ, aR, av, ak, aJ, aK, aS, aT, ay, ap, aU, aV, aX, aY, ae, ac, aj, ag, z1z, z2z, z3z, z4z, aH, af, aD, aB, aC, aA, aE, aG, z5z, z6z, ah, z7z, z8z, au]
    refine (c_rAlone a n w).step ?_
    cases ha : aloneV a n with
    | true =>
      simp -implicitDefEqProofs only [ad, ax, am, aM, aN, aQ, aR, av, ak, aJ, aK, aS, aT, ay, ap, aU, aV, aX, aY, ae, ac, aj, ag, z1z, z2z, z3z, z4z, aH, af, aD, aB, aC, aA, aE, aG, z5z, z6z, ah, z7z, z8z, au]
      exact ⟨by simp [fitsV, ha], trivial⟩
    | false =>
      by_cases h0 : 0 ≤ off
      · simp -implicitDefEqProofs only [ad, ax, am, aM, aN, aQ, aR, av, ak, aJ, aK, aS, aT, ay, ap, aU, aV, aX, aY, ae, ac, aj, ag, z1z, z2z, z3z, z4z, aH, af, aD, aB, aC, aA, aE, aG, z5z, z6z, ah, z7z, z8z, au, aA, aB, bp_sub, h0, ge_iff_le, bC (n := a - n) (by omega) (by omega)]
        exact ⟨by simp [fitsV, hr, ha, h0], trivial⟩
      · simp -implicitDefEqProofs only [ad, ax, am, aM, aN, aQ, aR, av, ak, aJ, aK, aS, aT, ay, ap, aU, aV, aX, aY, ae, ac, aj, ag, z1z, z2z, z3z, z4z, aH, af, aD, aB, aC, aA, aE, aG, z5z, z6z, ah, z7z, z8z, au, aA, h0, ge_iff_le]
        exact ⟨by simp [fitsV, h0], trivial⟩
  | false =>
    simp -implicitDefEqProofs only [ad, ax, am, aM, aN, aQ, aR, av, ak, aJ, aK, aS, aT, ay, ap, aU, aV, aX, aY, ae, ac, aj, ag, z1z, z2z, z3z, z4z, aH, af, aD, aB, aC, aA, aE, aG, z5z, z6z, ah, z7z, z8z, au]
    exact ⟨by simp [fitsV, hr], trivial⟩
theorem c_rAfter (a n : Int) (w : World) : CallR Try.prog 125 [.int .i64 a, .int .i64 n] w fun v w' => v = .int .i64 (afterV a n) ∧ w' = w := by
  apply F125_ok
  simp -implicitDefEqProofs only [F125]
  refine (c_rRight a n w).step ?_
  cases hr : rightV a n with
  | true =>
    simp -implicitDefEqProofs only [ad, ax, am, aM, aN, aQ, aR, av, ak, aJ, aK, aS, aT, ay, ap, aU, aV, aX, aY, ae, ac, aj, ag, z1z, z2z, z3z, z4z, aH, af, aD, aB, aC, aA, aE, aG, z5z, z6z, ah, z7z, z8z, au]
    refine (c_rAlone a n w).step ?_
    cases ha : aloneV a n with
    | true => simp -implicitDefEqProofs only [ad, ax, am, aM, aN, aQ, aR, av, ak, aJ, aK, aS, aT, ay, ap, aU, aV, aX, aY, ae, ac, aj, ag, z1z, z2z, z3z, z4z, aH, af, aD, aB, aC, aA, aE, aG, z5z, z6z, ah, z7z, z8z, au]; exact ⟨by simp [afterV, hr, ha], trivial⟩
    | false => simp -implicitDefEqProofs only [ad, ax, am, aM, aN, aQ, aR, av, ak, aJ, aK, aS, aT, ay, ap, aU, aV, aX, aY, ae, ac, aj, ag, z1z, z2z, z3z, z4z, aH, af, aD, aB, aC, aA, aE, aG, z5z, z6z, ah, z7z, z8z, au]; exact ⟨by simp [afterV, hr, ha], trivial⟩
  | false => simp -implicitDefEqProofs only [ad, ax, am, aM, aN, aQ, aR, av, ak, aJ, aK, aS, aT, ay, ap, aU, aV, aX, aY, ae, ac, aj, ag, z1z, z2z, z3z, z4z, aH, af, aD, aB, aC, aA, aE, aG, z5z, z6z, ah, z7z, z8z, au]; exact ⟨by simp [afterV, hr], trivial⟩
theorem round_step {k n : Int} (hk : k = 1 ∨ k = 2 ∨ k = 4 ∨ k = 8) (h0 : 0 < n) : (n % k = 0 → roundS k n = n) ∧ (n % k ≠ 0 → roundS k (n + 1) = roundS k n ∧ n < roundS k n) := by
  unfold roundS
  rcases hk with rfl | rfl | rfl | rfl <;> constructor <;> intro h <;> (try constructor) <;> omega
theorem l_rRound1 {k : Int} (hk : k = 1 ∨ k = 2 ∨ k = 4 ∨ k = 8) (w : World) : ∀ (d : Nat) (n : Int), 0 < n → n ≤ 2000 → roundS k n - n ≤ d → P123_1 (.int .i64 n) (.int .i64 k) w fun v w' => v = .int .i64 (roundS k n) ∧ w' = w
  | d, n, h0, h1, hd => by
    apply L123_1_ok
    obtain ⟨s1, s2⟩ := round_step hk h0
    have hm : n.tmod k = n % k := Int.tmod_eq_emod_of_nonneg (by omega)
    by_cases hz : n % k = 0
    · have e : (n % k != 0) = false := by rw [hz]; rfl
      simp -implicitDefEqProofs only [L123_1, bp_rem (show k ≠ 0 by omega), hm, ad, ax, am, aM, aN, aQ, aR, av, ak, aJ, aK, aS, aT, ay, ap, aU, aV, aX, aY, ae, ac, aj, ag, z1z, z2z, z3z, z4z, aH, af, aD, aB, aC, aA, aE, aG, z5z, z6z, ah, z7z, z8z, au, e]
      rw [s1 hz]
      exact ⟨rfl, trivial⟩
    · have e : (n % k != 0) = true := bne_iff_ne.2 hz
      obtain ⟨s3, s4⟩ := s2 hz
      simp -implicitDefEqProofs only [L123_1, bp_rem (show k ≠ 0 by omega), hm, ad, ax, am, aM, aN, aQ, aR, av, ak, aJ, aK, aS, aT, ay, ap, aU, aV, aX, aY, ae, ac, aj, ag, z1z, z2z, z3z, z4z, aH, af, aD, aB, aC, aA, aE, aG, z5z, z6z, ah, z7z, z8z, au, e, bG, bC (n := n + 1) (by omega) (by omega)]
      match d with
      | 0 => omega
      | d + 1 =>
        have hb : roundS k n ≤ 2000 ∨ 2000 < roundS k n := by omega
        have := l_rRound1 hk w d (n + 1) (by omega) (by
          rcases hb with hb | hb
          · omega
          · unfold roundS at hb s4
            rcases hk with rfl | rfl | rfl | rfl <;> omega) (by rw [s3]; omega)
        rw [s3] at this
        exact this
theorem c_rRound (cls n : Int) (w : World) : CallR Try.prog 123 [.int .i64 cls, .int .i64 n] w fun v w' => v = .int .i64 (roundV cls n) ∧ w' = w := by
  apply F123_ok
  simp -implicitDefEqProofs only [F123]
  refine (c_rIn n 1 1024 w).step ?_
  by_cases hn : 1 ≤ n ∧ n ≤ 1024
  · have rv : roundV cls n = roundS (stepOf cls) n := by rw [roundV, if_neg (by omega)]
    simp -implicitDefEqProofs only [decide_eq_true hn, ad, ax, am, aM, aN, aQ, aR, av, ak, aJ, aK, aS, aT, ay, ap, aU, aV, aX, aY, ae, ac, aj, ag, z1z, z2z, z3z, z4z, aH, af, aD, aB, aC, aA, aE, aG, z5z, z6z, ah, z7z, z8z, au]
    rw [rv]
    have fin : ∀ k, k = 1 ∨ k = 2 ∨ k = 4 ∨ k = 8 → stepOf cls = k → P123_1 (.int .i64 n) (.int .i64 k) w fun v w' => v = .int .i64 (roundS (stepOf cls) n) ∧ w' = w := fun k hk e => by
      rw [e]; exact l_rRound1 hk w (roundS k n - n).toNat n (by omega) (by omega) (by omega)
    apply L123_0_ok
    by_cases c0 : 0 < cls
    · simp -implicitDefEqProofs only [L123_0, ad, ax, am, aM, aN, aQ, aR, av, ak, aJ, aK, aS, aT, ay, ap, aU, aV, aX, aY, ae, ac, aj, ag, z1z, z2z, z3z, z4z, aH, af, aD, aB, aC, aA, aE, aG, z5z, z6z, ah, z7z, z8z, au, c0, show (0 : Int) < 3 by decide, bp_mul, bG, show IntKind.i64.wrap (2 * 1) = 2 by decide, show IntKind.i64.wrap (0 + 1) = 1 by decide]
      apply L123_0_ok
      by_cases c1 : 1 < cls
      · simp -implicitDefEqProofs only [L123_0, ad, ax, am, aM, aN, aQ, aR, av, ak, aJ, aK, aS, aT, ay, ap, aU, aV, aX, aY, ae, ac, aj, ag, z1z, z2z, z3z, z4z, aH, af, aD, aB, aC, aA, aE, aG, z5z, z6z, ah, z7z, z8z, au, c1, show (1 : Int) < 3 by decide, bp_mul, bG, show IntKind.i64.wrap (2 * 2) = 4 by decide, show IntKind.i64.wrap (1 + 1) = 2 by decide]
        apply L123_0_ok
        by_cases c2 : 2 < cls
        · simp -implicitDefEqProofs only [L123_0, ad, ax, am, aM, aN, aQ, aR, av, ak, aJ, aK, aS, aT, ay, ap, aU, aV, aX, aY, ae, ac, aj, ag, z1z, z2z, z3z, z4z, aH, af, aD, aB, aC, aA, aE, aG, z5z, z6z, ah, z7z, z8z, au, c2, show (2 : Int) < 3 by decide, bp_mul, bG, show IntKind.i64.wrap (2 * 4) = 8 by decide, show IntKind.i64.wrap (2 + 1) = 3 by decide]
          apply L123_0_ok
          by_cases c3 : 3 < cls
          · simp -implicitDefEqProofs only [L123_0, ad, ax, am, aM, aN, aQ, aR, av, ak, aJ, aK, aS, aT, ay, ap, aU, aV, aX, aY, ae, ac, aj, ag, z1z, z2z, z3z, z4z, aH, af, aD, aB, aC, aA, aE, aG, z5z, z6z, ah, z7z, z8z, au, c3, show ¬ (3 : Int) < 3 by decide]
            exact fin 8 (by omega) (by rw [stepOf, if_neg (by omega), if_neg (by omega), if_neg (by omega)])
          · simp -implicitDefEqProofs only [L123_0, ad, ax, am, aM, aN, aQ, aR, av, ak, aJ, aK, aS, aT, ay, ap, aU, aV, aX, aY, ae, ac, aj, ag, z1z, z2z, z3z, z4z, aH, af, aD, aB, aC, aA, aE, aG, z5z, z6z, ah, z7z, z8z, au, c3]
            exact fin 8 (by omega) (by rw [stepOf, if_neg (by omega), if_neg (by omega), if_neg (by omega)])
        · simp -implicitDefEqProofs only [L123_0, ad, ax, am, aM, aN, aQ, aR, av, ak, aJ, aK, aS, aT, ay, ap, aU, aV, aX, aY, ae, ac, aj, ag, z1z, z2z, z3z, z4z, aH, af, aD, aB, aC, aA, aE, aG, z5z, z6z, ah, z7z, z8z, au, c2]
          exact fin 4 (by omega) (by rw [stepOf, if_neg (by omega), if_neg (by omega), if_pos (by omega)])
      · simp -implicitDefEqProofs only [L123_0, ad, ax, am, aM, aN, aQ, aR, av, ak, aJ, aK, aS, aT, ay, ap, aU, aV, aX, aY, ae, ac, aj, ag, z1z, z2z, z3z, z4z, aH, af, aD, aB, aC, aA, aE, aG, z5z, z6z, ah, z7z, z8z, au, c1]
        exact fin 2 (by omega) (by rw [stepOf, if_neg (by omega), if_pos (by omega)])
    · simp -implicitDefEqProofs only [L123_0, ad, ax, am, aM, aN, aQ, aR, av, ak, aJ, aK, aS, aT, ay, ap, aU, aV, aX, aY, ae, ac, aj, ag, z1z, z2z, z3z, z4z, aH, af, aD, aB, aC, aA, aE, aG, z5z, z6z, ah, z7z, z8z, au, c0]
      exact fin 1 (by omega) (by rw [stepOf, if_pos (by omega)])
  · simp -implicitDefEqProofs only [decide_eq_false hn, ad, ax, am, aM, aN, aQ, aR, av, ak, aJ, aK, aS, aT, ay, ap, aU, aV, aX, aY, ae, ac, aj, ag, z1z, z2z, z3z, z4z, aH, af, aD, aB, aC, aA, aE, aG, z5z, z6z, ah, z7z, z8z, au]
    exact ⟨by rw [roundV, if_pos (by omega)], trivial⟩
theorem c_rLater (n : Int) (hn : n ≤ 4294967295) (w : World) (h0 : 0 ≤ n) : CallR Try.prog 95 [.int .i64 n] w fun v w' => v = .int .i64 (laterV n) ∧ w' = w := by
  apply F95_ok
  by_cases h : n ≥ 4294967295
  · simp -implicitDefEqProofs only [F95, ad, ax, am, aM, aN, aQ, aR, av, ak, aJ, aK, aS, aT, ay, ap, aU, aV, aX, aY, ae, ac, aj, ag, z1z, z2z, z3z, z4z, aH, af, aD, aB, aC, aA, aE, aG, z5z, z6z, ah, z7z, z8z, au, aA, h]
    exact ⟨by rw [laterV, if_neg (by omega)], trivial⟩
  · simp -implicitDefEqProofs only [F95, ad, ax, am, aM, aN, aQ, aR, av, ak, aJ, aK, aS, aT, ay, ap, aU, aV, aX, aY, ae, ac, aj, ag, z1z, z2z, z3z, z4z, aH, af, aD, aB, aC, aA, aE, aG, z5z, z6z, ah, z7z, z8z, au, aA, h, bG, bC (n := n + 1) (by omega) (by omega)]
    exact ⟨by rw [laterV, if_pos (by omega)], trivial⟩
section
variable {w : World} {g : Nat} {x : RfV} {s gn r d h : Value}
theorem int_at {w : World} {A : Option Addr} {c : Nat} {L : List Int} (hR : RdI .i64 w A L) {i : Nat} {y : Int} (hy : L[i]? = some y) :
    ∃ q : Addr, pureRun Try.prog (Instr.indexAt 23 (.slice A L.length c) (.int .i64 (i : Int))) = some (.pointer (some q)) ∧ ldv Try.prog 3 (.pointer (some q)) w = some (.int .i64 y) := by
  have hil := (List.getElem?_eq_some_iff.1 hy).1
  obtain ⟨q, q1, q2⟩ := hR.at (P := Try.prog) (c := c) (j := .i64) Try.underlying23 Try.underlying3 sz_3 (i := (i : Int)) (by omega) (by omega)
  have hg : L.getD i 0 = y := by rw [List.getD_eq_getElem?_getD, hy]; rfl
  rw [Int.toNat_natCast, hg] at q2
  exact ⟨q, q1, q2⟩
def ixR (o : Option Nat) : Int := match o with | some i => (i : Int) | none => -1
def findX (L : List (RgV × Bool)) (n : NmV) : Option Nat := findR (L.map (·.1)) n
set_option maxHeartbeats 1000000 in
theorem c_rFind (R : RfR w g x s gn r d h) (n : NmV) (hl : x.rgs.length ≤ 1000000) : CallR Try.prog 92 [.pointer (some ⟨g, 0, none⟩), .int .i64 n.1, .int .i64 n.2] w fun v w' => v = .int .i64 (ixR (findX x.rgs n)) ∧ w' = w := by
  apply F92_ok
  simp -implicitDefEqProofs only [F92]
  obtain ⟨Fr, hFr⟩ := R.rT
  have main : ∀ (d i : Nat), (∀ (j : Nat) (p : RgV × Bool), j < i → x.rgs[j]? = some p → p.1.nm ≠ n) → i + d = x.rgs.length →
      P92_0 (.pointer (some ⟨g, 0, none⟩)) (.int .i64 n.1) (.int .i64 n.2) (.int .i64 i) w fun v w' => v = .int .i64 (ixR (findX x.rgs n)) ∧ w' = w := by
    intro d
    induction d with
    | zero =>
      intro i hn hi
      apply L92_0_ok
      obtain ⟨A, c, _, _, e, _⟩ := isRow.rd hFr
      have hrl := R.rl
      rw [e] at hrl
      have : ¬ (i : Int) < x.rgs.length := by omega
      simp -implicitDefEqProofs only [L92_0, ad, ax, am, aM, aN, aQ, aR, av, ak, aJ, aK, aS, aT, ay, ap, aU, aV, aX, aY, ae, ac, aj, ag, z1z, z2z, z3z, z4z, aH, af, aD, aB, aC, aA, aE, aG, z5z, z6z, ah, z7z, z8z, au, bK, bN, hrl, len_151, this]
      have : findX x.rgs n = none := findR_none fun j r hj => by
        rw [List.getElem?_map] at hj
        cases hq : x.rgs[j]? with
        | none => rw [hq] at hj; cases hj
        | some p => rw [hq] at hj; cases hj; exact hn j p (by have := (List.getElem?_eq_some_iff.1 hq).1; omega) hq
      rw [this]
      exact ⟨rfl, trivial⟩
    | succ d ih =>
      intro i hn hi
      apply L92_0_ok
      have hlt : (i : Int) < x.rgs.length := by omega
      obtain ⟨p, hp'⟩ : ∃ p, x.rgs[i]? = some p := ⟨_, List.getElem?_eq_getElem (by omega)⟩
      obtain ⟨b, c, rfl, cv, wv, ov, Q⟩ := rr_at hFr hp'
      have ia := ia_151 (b := b) (p := 0) (n := x.rgs.length) (c := c) (j := .i64) (i := (i : Int)) (by omega) (by omega)
      rw [Int.toNat_natCast, Nat.zero_add] at ia
      have next : p.1.nm ≠ n → P92_0 (.pointer (some ⟨g, 0, none⟩)) (.int .i64 n.1) (.int .i64 n.2) (.int .i64 ((i : Int) + 1)) w fun v w' => v = .int .i64 (ixR (findX x.rgs n)) ∧ w' = w := by
        intro hne
        have := ih (i + 1) (fun j r hj hr => by
          rcases Nat.lt_or_ge j i with h1 | h1
          · exact hn j r h1 hr
          · have : j = i := by omega
            subst this
            rw [hp'] at hr; cases hr; exact hne) (by omega)
        rw [Int.natCast_add i 1] at this
        exact this
      by_cases h1 : p.1.nm.1 = n.1
      · have e1 : (p.1.nm.1 == n.1) = true := by rw [h1]; exact beq_self_eq_true _
        by_cases h2 : p.1.nm.2 = n.2
        · have e2 : (p.1.nm.2 == n.2) = true := by rw [h2]; exact beq_self_eq_true _
          simp -implicitDefEqProofs only [L92_0, ad, ax, am, aM, aN, aQ, aR, av, ak, aJ, aK, aS, aT, ay, ap, aU, aV, aX, aY, ae, ac, aj, ag, z1z, z2z, z3z, z4z, aH, af, aD, aB, aC, aA, aE, aG, z5z, z6z, ah, z7z, z8z, au, bK, bN, R.rl, len_151, hlt, ia, fa_158_0, fa_158_1, bj, Q.c0, Q.c1, e1, e2]
          have : findX x.rgs n = some i := findR_some (r := p.1) (by rw [List.getElem?_map, hp']; rfl) (Prod.ext h1 h2) fun j r hj hr => by
            rw [List.getElem?_map] at hr
            cases hq : x.rgs[j]? with
            | none => rw [hq] at hr; cases hr
            | some p => rw [hq] at hr; cases hr; exact hn j p hj hq
          rw [this]
          exact ⟨rfl, trivial⟩
        · simp -implicitDefEqProofs only [L92_0, ad, ax, am, aM, aN, aQ, aR, av, ak, aJ, aK, aS, aT, ay, ap, aU, aV, aX, aY, ae, ac, aj, ag, z1z, z2z, z3z, z4z, aH, af, aD, aB, aC, aA, aE, aG, z5z, z6z, ah, z7z, z8z, au, bK, bN, R.rl, len_151, hlt, ia, fa_158_0, fa_158_1, bj, Q.c0, Q.c1, e1, eqf h2, bG, bC (n := (i : Int) + 1) (by omega) (by omega)]
          exact next fun e => h2 (by rw [e])
      · simp -implicitDefEqProofs only [L92_0, ad, ax, am, aM, aN, aQ, aR, av, ak, aJ, aK, aS, aT, ay, ap, aU, aV, aX, aY, ae, ac, aj, ag, z1z, z2z, z3z, z4z, aH, af, aD, aB, aC, aA, aE, aG, z5z, z6z, ah, z7z, z8z, au, bK, bN, R.rl, len_151, hlt, ia, fa_158_0, bj, Q.c0, eqf h1, bG, bC (n := (i : Int) + 1) (by omega) (by omega)]
        exact next fun e => h1 (by rw [e])
  exact main x.rgs.length 0 (fun j p hj => by omega) (by omega)
def spareI (L : List Int) : Nat := (L.filter fun p => decide (p = 0)).length
set_option maxHeartbeats 1000000 in
theorem c_rSpare (R : RfR w g x s gn r d h) (hl : x.state.length ≤ 1000000) : CallR Try.prog 107 [.pointer (some ⟨g, 0, none⟩)] w fun v w' => v = .int .i64 (spareI x.state) ∧ w' = w := by
  apply F107_ok
  simp -implicitDefEqProofs only [F107]
  obtain ⟨A, c, rfl, hR⟩ := ints_sh R.sT
  have main : ∀ (d i : Nat), i + d = x.state.length → P107_0 (.pointer (some ⟨g, 0, none⟩)) (.int .i64 (spareI (x.state.take i))) (.int .i64 i) w fun v w' => v = .int .i64 (spareI x.state) ∧ w' = w := by
    intro d
    induction d with
    | zero =>
      intro i hi
      apply L107_0_ok
      have : ¬ (i : Int) < x.state.length := by omega
      simp -implicitDefEqProofs only [L107_0, ad, ax, am, aM, aN, aQ, aR, av, ak, aJ, aK, aS, aT, ay, ap, aU, aV, aX, aY, ae, ac, aj, ag, z1z, z2z, z3z, z4z, aH, af, aD, aB, aC, aA, aE, aG, z5z, z6z, ah, z7z, z8z, au, fa_154_2, ce, R.sl, len_23, this]
      rw [List.take_of_length_le (by omega)]
      exact ⟨rfl, trivial⟩
    | succ d ih =>
      intro i hi
      apply L107_0_ok
      have hlt : (i : Int) < x.state.length := by omega
      have hil : i < x.state.length := by omega
      obtain ⟨q, q1, q2⟩ := int_at (c := c) hR (List.getElem?_eq_getElem hil)
      have hsn : spareI (x.state.take (i + 1)) = spareI (x.state.take i) + if x.state[i] = 0 then 1 else 0 := by
        rw [List.take_add_one, List.getElem?_eq_getElem hil]
        simp only [spareI, Option.toList_some, List.filter_append, List.length_append]
        by_cases h : x.state[i] = 0 <;> simp [h]
      have hle : spareI (x.state.take i) ≤ i := by
        have := List.length_filter_le (fun p : Int => decide (p = 0)) (x.state.take i)
        simp only [spareI]; simp at this ⊢; omega
      have one : ∀ k : Nat, k = spareI (x.state.take (i + 1)) → P107_1 (.pointer (some ⟨g, 0, none⟩)) (.int .i64 k) (.int .i64 i) w fun v w' => v = .int .i64 (spareI x.state) ∧ w' = w := by
        rintro k rfl
        apply L107_1_ok
        simp -implicitDefEqProofs only [L107_1, ad, ax, am, aM, aN, aQ, aR, av, ak, aJ, aK, aS, aT, ay, ap, aU, aV, aX, aY, ae, ac, aj, ag, z1z, z2z, z3z, z4z, aH, af, aD, aB, aC, aA, aE, aG, z5z, z6z, ah, z7z, z8z, au, bG, bC (n := (i : Int) + 1) (by omega) (by omega)]
        have := ih (i + 1) (by omega)
        rw [Int.natCast_add i 1] at this
        exact this
      generalize x.state[i] = y at *
      by_cases h0 : y = 0
      · have e1 : (y == 0) = true := by rw [h0]; rfl
        simp -implicitDefEqProofs only [L107_0, ad, ax, am, aM, aN, aQ, aR, av, ak, aJ, aK, aS, aT, ay, ap, aU, aV, aX, aY, ae, ac, aj, ag, z1z, z2z, z3z, z4z, aH, af, aD, aB, aC, aA, aE, aG, z5z, z6z, ah, z7z, z8z, au, fa_154_2, ce, R.sl, len_23, hlt, q1, q2, e1, bG, bC (n := (spareI (x.state.take i) : Int) + 1) (by omega) (by omega)]
        have := one (spareI (x.state.take i) + 1) (by rw [hsn, if_pos h0])
        rw [Int.natCast_add _ 1] at this
        exact this
      · simp -implicitDefEqProofs only [L107_0, ad, ax, am, aM, aN, aQ, aR, av, ak, aJ, aK, aS, aT, ay, ap, aU, aV, aX, aY, ae, ac, aj, ag, z1z, z2z, z3z, z4z, aH, af, aD, aB, aC, aA, aE, aG, z5z, z6z, ah, z7z, z8z, au, fa_154_2, ce, R.sl, len_23, hlt, q1, q2, eqf h0]
        exact one _ (by rw [hsn, if_neg h0]; rfl)
  exact main x.state.length 0 (by omega)
end
end Go.Proofs.Ytgamnncehjcdiaa

namespace Go.Proofs.Ytgamnncehjcdiaa
open Go Ev Go.RowKit

section
variable {w : World} {g : Nat} {x : RfV} {s gn r d h : Value}
def liveX (x : RfV) (n : Int) : Int × Bool := if 0 ≤ n ∧ n < x.state.length then (if x.state.getD n.toNat 0 = 1 then (x.gen.getD n.toNat 0, true) else (0, false)) else (0, false)
set_option maxHeartbeats 1000000 in
theorem c_rLive (R : RfR w g x s gn r d h) (hs : (x.state.length : Int) = x.c.2.2.2.1) (hg : x.gen.length = x.state.length) (n : Int) : CallR Try.prog 103 [.pointer (some ⟨g, 0, none⟩), .int .i64 n] w fun v w' => v = .tuple #[.int .i64 (liveX x n).1, .bool (liveX x n).2] ∧ w' = w := by
  apply F103_ok
  obtain ⟨A, c, rfl, hR⟩ := ints_sh R.sT
  obtain ⟨A2, c2, rfl, hR2⟩ := ints_sh R.gT
  have hc3 : ldC (hp w g) (0 + 0 + 3) = some (.int .i64 x.state.length) := by rw [hs]; exact R.c 3 (by omega)
  by_cases h0 : n < 0
  · simp -implicitDefEqProofs only [F103, ad, ax, am, aM, aN, aQ, aR, av, ak, aJ, aK, aS, aT, ay, ap, aU, aV, aX, aY, ae, ac, aj, ag, z1z, z2z, z3z, z4z, aH, af, aD, aB, aC, aA, aE, aG, z5z, z6z, ah, z7z, z8z, au, h0]
    rw [liveX, if_neg (by omega)]
    exact ⟨by first | rfl | trivial, trivial⟩
  by_cases h1 : (x.state.length : Int) ≤ n
  · simp -implicitDefEqProofs only [F103, ad, ax, am, aM, aN, aQ, aR, av, ak, aJ, aK, aS, aT, ay, ap, aU, aV, aX, aY, ae, ac, aj, ag, z1z, z2z, z3z, z4z, aH, af, aD, aB, aC, aA, aE, aG, z5z, z6z, ah, z7z, z8z, au, h0, cr, fa_74_3, bj, hc3, aA, ge_iff_le, h1]
    rw [liveX, if_neg (by omega)]
    exact ⟨by first | rfl | trivial, trivial⟩
  obtain ⟨i, rfl⟩ : ∃ i : Nat, n = i := ⟨n.toNat, by omega⟩
  have hil : i < x.state.length := by omega
  obtain ⟨q, q1, q2⟩ := int_at (c := c) hR (List.getElem?_eq_getElem hil)
  obtain ⟨p, p1, p2⟩ := int_at (c := c2) hR2 (List.getElem?_eq_getElem (show i < x.gen.length by omega))
  have e1 : x.state.getD i 0 = x.state[i] := by rw [List.getD_eq_getElem?_getD, List.getElem?_eq_getElem hil]; rfl
  have e2 : x.gen.getD i 0 = x.gen[i] := by rw [List.getD_eq_getElem?_getD, List.getElem?_eq_getElem (show i < x.gen.length by omega)]; rfl
  have lv : liveX x (i : Int) = if x.state[i] = 1 then (x.gen[i], true) else (0, false) := by rw [liveX, if_pos (by omega), Int.toNat_natCast, e1, e2]
  by_cases hz : x.state[i] = 1
  · have e3 : (x.state[i] != 1) = false := by rw [hz]; rfl
    simp -implicitDefEqProofs only [F103, ad, ax, am, aM, aN, aQ, aR, av, ak, aJ, aK, aS, aT, ay, ap, aU, aV, aX, aY, ae, ac, aj, ag, z1z, z2z, z3z, z4z, aH, af, aD, aB, aC, aA, aE, aG, z5z, z6z, ah, z7z, z8z, au, h0, cr, fa_154_2, fa_154_3, fa_74_3, bj, hc3, aA, ge_iff_le, h1, ce, R.sl, R.gl, q1]
    rw [← bj] at *
    simp -implicitDefEqProofs only [q2, e3, ad, ax, am, aM, aN, aQ, aR, av, ak, aJ, aK, aS, aT, ay, ap, aU, aV, aX, aY, ae, ac, aj, ag, z1z, z2z, z3z, z4z, aH, af, aD, aB, aC, aA, aE, aG, z5z, z6z, ah, z7z, z8z, au, p1, p2]
    rw [lv, if_pos hz]
    exact ⟨by first | rfl | trivial, trivial⟩
  · have e3 : (x.state[i] != 1) = true := bne_iff_ne.2 hz
    simp -implicitDefEqProofs only [F103, ad, ax, am, aM, aN, aQ, aR, av, ak, aJ, aK, aS, aT, ay, ap, aU, aV, aX, aY, ae, ac, aj, ag, z1z, z2z, z3z, z4z, aH, af, aD, aB, aC, aA, aE, aG, z5z, z6z, ah, z7z, z8z, au, h0, cr, fa_154_2, fa_74_3, bj, hc3, aA, ge_iff_le, h1, ce, R.sl, q1]
    simp -implicitDefEqProofs only [q2, e3, ad, ax, am, aM, aN, aQ, aR, av, ak, aJ, aK, aS, aT, ay, ap, aU, aV, aX, aY, ae, ac, aj, ag, z1z, z2z, z3z, z4z, aH, af, aD, aB, aC, aA, aE, aG, z5z, z6z, ah, z7z, z8z, au]
    rw [lv, if_neg hz]
    exact ⟨by first | rfl | trivial, trivial⟩
def rgA (p : RgV × Bool) (cv wv ov : Value) : Array Value := #[.int .i64 p.1.nm.1, .int .i64 p.1.nm.2, .int .i64 p.1.cls, .int .i64 p.1.off, .bool p.2, cv, wv, ov]
theorem ld_rg {b o : Nat} {p : RgV × Bool} {cv wv ov : Value} (Q : RrR w b o p cv wv ov) : ldv Try.prog 158 (.pointer (some ⟨b, o, none⟩)) w = some (.agg (rgA p cv wv ov)) := by
  rw [ld_158, ldL_take 8 o [.int .i64 p.1.nm.1, .int .i64 p.1.nm.2, .int .i64 p.1.cls, .int .i64 p.1.off, .bool p.2, cv, wv, ov] rfl fun j u hj => by
    have hj' := (List.getElem?_eq_some_iff.1 hj).1
    simp at hj'
    have h7 : j = 0 ∨ j = 1 ∨ j = 2 ∨ j = 3 ∨ j = 4 ∨ j = 5 ∨ j = 6 ∨ j = 7 := by omega
    rcases h7 with rfl | rfl | rfl | rfl | rfl | rfl | rfl | rfl <;> cases hj
    · exact Q.c0
    · exact Q.c1
    · exact Q.c2
    · exact Q.c3
    · exact Q.c4
    · exact Q.c5
    · exact Q.c6
    · exact Q.c7]
  rfl
set_option maxHeartbeats 1000000 in
theorem c_rAt {p : RgV × Bool} {A : Option Addr} {c : Nat} {wv ov : Value} (hR : RdI .i64 w A p.1.chunks) (hl : p.1.chunks.length ≤ 1000000) (y : Int) : CallR Try.prog 121 [.agg (rgA p (.slice A p.1.chunks.length c) wv ov), .int .i64 y] w fun v w' => v = .int .i64 (ixOf p.1.chunks y) ∧ Chg [] w w' := by
  apply F121_ok
  have b2 : hp (w.alloc (.cells (rgA p (.slice A p.1.chunks.length c) wv ov) 158)) w.heap.size = some (.cells (rgA p (.slice A p.1.chunks.length c) wv ov) 158) := by rw [bc, if_pos rfl]
  have c0 : Chg [] w (w.alloc (.cells (rgA p (.slice A p.1.chunks.length c) wv ov) 158)) := (Chg.refl _ _).alloc _
  simp -implicitDefEqProofs only [F121, bE, bA]
  generalize w.alloc (.cells (rgA p (.slice A p.1.chunks.length c) wv ov) 158) = w0 at *
  generalize w.heap.size = g2 at *
  have hR0 := hR.keep c0.below
  have e5 : (rgA p (.slice A p.1.chunks.length c) wv ov)[0 + 5]? = some (.slice A p.1.chunks.length c) := rfl
  have main : ∀ (d i : Nat), (∀ (j : Nat) (z : Int), j < i → p.1.chunks[j]? = some z → z ≠ y) → i + d = p.1.chunks.length →
      P121_0 (.int .i64 y) (.pointer (some ⟨g2, 0, none⟩)) (.int .i64 i) w0 fun v w' => v = .int .i64 (ixOf p.1.chunks y) ∧ Chg [] w w' := by
    intro d
    induction d with
    | zero =>
      intro i hn hi
      apply L121_0_ok
      have : ¬ (i : Int) < p.1.chunks.length := by omega
      simp -implicitDefEqProofs only [L121_0, ad, ax, am, aM, aN, aQ, aR, av, ak, aJ, aK, aS, aT, ay, ap, aU, aV, aX, aY, ae, ac, aj, ag, z1z, z2z, z3z, z4z, aH, af, aD, aB, aC, aA, aE, aG, z5z, z6z, ah, z7z, z8z, au, fa_158_5, ce, b2, e5, len_23, this]
      rw [ixOf_none fun j z hj => hn j z (by have := (List.getElem?_eq_some_iff.1 hj).1; omega) hj]
      exact ⟨rfl, c0⟩
    | succ d ih =>
      intro i hn hi
      apply L121_0_ok
      have hlt : (i : Int) < p.1.chunks.length := by omega
      have hil : i < p.1.chunks.length := by omega
      obtain ⟨z, hz⟩ : ∃ z, p.1.chunks[i]? = some z := ⟨_, List.getElem?_eq_getElem hil⟩
      obtain ⟨q, q1, q2⟩ := int_at (c := c) hR0 hz
      by_cases hzy : z = y
      · have e : (z == y) = true := by rw [hzy]; exact beq_self_eq_true _
        simp -implicitDefEqProofs only [L121_0, ad, ax, am, aM, aN, aQ, aR, av, ak, aJ, aK, aS, aT, ay, ap, aU, aV, aX, aY, ae, ac, aj, ag, z1z, z2z, z3z, z4z, aH, af, aD, aB, aC, aA, aE, aG, z5z, z6z, ah, z7z, z8z, au, fa_158_5, ce, b2, e5, len_23, hlt, q1, q2, e]
        rw [ixOf_some hz hzy hn]
        exact ⟨rfl, c0⟩
      · simp -implicitDefEqProofs only [L121_0, ad, ax, am, aM, aN, aQ, aR, av, ak, aJ, aK, aS, aT, ay, ap, aU, aV, aX, aY, ae, ac, aj, ag, z1z, z2z, z3z, z4z, aH, af, aD, aB, aC, aA, aE, aG, z5z, z6z, ah, z7z, z8z, au, fa_158_5, ce, b2, e5, len_23, hlt, q1, q2, eqf hzy, bG, bC (n := (i : Int) + 1) (by omega) (by omega)]
        have := ih (i + 1) (fun j u hj hu => by
          rcases Nat.lt_or_ge j i with h1 | h1
          · exact hn j u h1 hu
          · have : j = i := by omega
            subst this
            rw [hz] at hu; cases hu; exact hzy) (by omega)
        rw [Int.natCast_add i 1] at this
        exact this
  exact main p.1.chunks.length 0 (fun j r hj => by omega) (by omega)
def knownX (x : RfV) (a : HnV) : Bool × Bool := match findX x.rgs (nmOf a) with
  | none => (false, false)
  | some i => (decide (a.2.2.1 = 0 ∧ a.2.2.2.1 = 0 ∧ a.2.2.2.2 = 0), match x.rgs[i]? with | some p => decide (a ∈ p.1.objs) | none => false)
theorem findX_at {L : List (RgV × Bool)} {n : NmV} {i : Nat} (h : findX L n = some i) : ∃ p, L[i]? = some p ∧ p.1.nm = n := by
  obtain ⟨r, h1, h2⟩ := findR_at h
  rw [List.getElem?_map] at h1
  cases hq : L[i]? with
  | none => rw [hq] at h1; cases h1
  | some p => rw [hq] at h1; cases h1; exact ⟨p, rfl, h2⟩
set_option maxHeartbeats 2000000 in
theorem c_rKnown (R : RfR w g x s gn r d h) (hl : x.rgs.length ≤ 1000000) (ho : ∀ p ∈ x.rgs, p.1.objs.length ≤ 1000000) (a : HnV) : CallR Try.prog 120 [.pointer (some ⟨g, 0, none⟩), .agg (hnC a).toArray] w fun v w' => v = .tuple #[.bool (knownX x a).1, .bool (knownX x a).2] ∧ Chg [] w w' := by
  apply F120_ok
  have b3 : hp (w.alloc (.cells (hnC a).toArray 51)) w.heap.size = some (.cells (hnC a).toArray 51) := by rw [bc, if_pos rfl]
  have c0 : Chg [] w (w.alloc (.cells (hnC a).toArray 51)) := (Chg.refl _ _).alloc _
  simp -implicitDefEqProofs only [F120, bE, bA]
  generalize w.alloc (.cells (hnC a).toArray 51) = w0 at *
  generalize w.heap.size = g3 at *
  have R0 := R.keep c0
  have e0 : (hnC a).toArray[0 + 0]? = some (.int .i64 a.1) := rfl
  have e1 : (hnC a).toArray[0 + 1]? = some (.int .i64 a.2.1) := rfl
  have e2 : (hnC a).toArray[0 + 2]? = some (.int .i64 a.2.2.1) := rfl
  have e3 : (hnC a).toArray[0 + 3]? = some (.int .i64 a.2.2.2.1) := rfl
  have e4 : (hnC a).toArray[0 + 4]? = some (.int .i64 a.2.2.2.2) := rfl
  simp -implicitDefEqProofs only [ad, ax, am, aM, aN, aQ, aR, av, ak, aJ, aK, aS, aT, ay, ap, aU, aV, aX, aY, ae, ac, aj, ag, z1z, z2z, z3z, z4z, aH, af, aD, aB, aC, aA, aE, aG, z5z, z6z, ah, z7z, z8z, au, bX, fa_51_1, bj, b3, e0, e1]
  refine (c_rFind R0 (nmOf a) hl).step ?_
  cases hf : findX x.rgs (nmOf a) with
  | none =>
    have kv : knownX x a = (false, false) := by rw [knownX, hf]
    have hneg : (-1 : Int) < 0 := by omega
    simp -implicitDefEqProofs only [ixR, ad, ax, am, aM, aN, aQ, aR, av, ak, aJ, aK, aS, aT, ay, ap, aU, aV, aX, aY, ae, ac, aj, ag, z1z, z2z, z3z, z4z, aH, af, aD, aB, aC, aA, aE, aG, z5z, z6z, ah, z7z, z8z, au, hneg]
    rw [kv]
    exact ⟨by first | rfl | trivial, c0⟩
  | some i =>
    obtain ⟨p, hp', hnm⟩ := findX_at hf
    have kv : knownX x a = (decide (a.2.2.1 = 0 ∧ a.2.2.2.1 = 0 ∧ a.2.2.2.2 = 0), decide (a ∈ p.1.objs)) := by rw [knownX, hf]; simp only [hp']
    have hol := ho p (List.mem_of_getElem? hp')
    have hnn : ¬ (i : Int) < 0 := by omega
    obtain ⟨Fr, hFr⟩ := R0.rT
    obtain ⟨b, c, rfl, cv, wv, ov, Q⟩ := rr_at hFr hp'
    obtain ⟨A, co, rfl, hR⟩ := objs_sh Q.oT
    have hi := (List.getElem?_eq_some_iff.1 hp').1
    have ia := ia_151 (b := b) (p := 0) (n := x.rgs.length) (c := c) (j := .i64) (i := (i : Int)) (by omega) (by omega)
    rw [Int.toNat_natCast, Nat.zero_add] at ia
    have main : ∀ (t : Bool) (d k : Nat) (w1 : World), Chg [] w0 w1 → (∀ (j : Nat) (y : HnV), j < k → p.1.objs[j]? = some y → y ≠ a) → k + d = p.1.objs.length →
        P120_0 (.pointer (some ⟨g, 0, none⟩)) (.pointer (some ⟨g3, 0, none⟩)) (.int .i64 i) (.bool t) (.int .i64 k) w1 fun v w' => v = .tuple #[.bool t, .bool (decide (a ∈ p.1.objs))] ∧ Chg [] w w' := by
      intro t d
      induction d with
      | zero =>
        intro k w1 c1 hn hk
        apply L120_0_ok
        have : ¬ (k : Int) < p.1.objs.length := by omega
        have R1 := R0.keep c1
        have Q1 := Q.keep c1
        simp -implicitDefEqProofs only [L120_0, ad, ax, am, aM, aN, aQ, aR, av, ak, aJ, aK, aS, aT, ay, ap, aU, aV, aX, aY, ae, ac, aj, ag, z1z, z2z, z3z, z4z, aH, af, aD, aB, aC, aA, aE, aG, z5z, z6z, ah, z7z, z8z, au, bK, bN, R1.rl, ia, fa_158_7, ld_90, Q1.c7, len_90, this]
        refine ⟨?_, c0.trans c1⟩
        rw [decide_eq_false (fun hm => by
          obtain ⟨j, hj⟩ := List.getElem?_of_mem hm
          exact hn j a (by have := (List.getElem?_eq_some_iff.1 hj).1; omega) hj rfl)]
      | succ d ih =>
        intro k w1 c1 hn hk
        apply L120_0_ok
        have hlt : (k : Int) < p.1.objs.length := by omega
        have hkl : k < p.1.objs.length := by omega
        have cd1 : Chg [] w0 w1.drew := c1.drew
        have R1 := R0.keep c1
        have Q1 := Q.keep c1
        have R1d := R0.keep cd1
        have Q1d := Q.keep cd1
        obtain ⟨y, hy⟩ : ∃ y, p.1.objs[k]? = some y := ⟨_, List.getElem?_eq_getElem hkl⟩
        obtain ⟨bb, oo, q1, _, q3, _⟩ := (hR.keep cd1.below).elem (P := Try.prog) (c := co) (n := p.1.objs.length) (i := (k : Int)) (j := .i64) Try.underlying90 sz_51 (by omega) (by rw [flat_len hnC_len]; exact Nat.le_refl _) (by omega) (by omega)
        have hyl : p.1.objs[k] = y := by rw [List.getElem?_eq_getElem hkl] at hy; exact Option.some.inj hy
        rw [Int.toNat_natCast, flat_at hnC_len p.1.objs k hkl, hyl] at q3
        have ly : ldv Try.prog 51 (.pointer (some ⟨bb, oo, none⟩)) w1.drew = some (.agg (hnC y).toArray) := by rw [ld_51, q3]; rfl
        have lx := ld_hn (show hp w1.drew g3 = _ from c1.at b3 (by simp))
        have hbe : be Try.prog .eql 51 (.tmp 53) (.tmp 54) (.agg (hnC y).toArray) (.agg (hnC a).toArray) = some (.bool (decide (y = a))) := by
          rw [← hn_beq]; exact be_eql_51
        simp -implicitDefEqProofs only [L120_0, ad, ax, am, aM, aN, aQ, aR, av, ak, aJ, aK, aS, aT, ay, ap, aU, aV, aX, aY, ae, ac, aj, ag, z1z, z2z, z3z, z4z, aH, af, aD, aB, aC, aA, aE, aG, z5z, z6z, ah, z7z, z8z, au, bK, bN, R1.rl, R1d.rl, ia, fa_158_7, ld_90, Q1.c7, Q1d.c7, len_90, hlt, q1, ly, lx, hbe]
        by_cases hya : y = a
        · simp -implicitDefEqProofs only [decide_eq_true hya, ad, ax, am, aM, aN, aQ, aR, av, ak, aJ, aK, aS, aT, ay, ap, aU, aV, aX, aY, ae, ac, aj, ag, z1z, z2z, z3z, z4z, aH, af, aD, aB, aC, aA, aE, aG, z5z, z6z, ah, z7z, z8z, au]
          refine ⟨?_, c0.trans cd1⟩
          rw [decide_eq_true (by rw [← hya]; exact List.mem_of_getElem? hy)]
        · simp -implicitDefEqProofs only [decide_eq_false hya, ad, ax, am, aM, aN, aQ, aR, av, ak, aJ, aK, aS, aT, ay, ap, aU, aV, aX, aY, ae, ac, aj, ag, z1z, z2z, z3z, z4z, aH, af, aD, aB, aC, aA, aE, aG, z5z, z6z, ah, z7z, z8z, au, bG, bC (n := (k : Int) + 1) (by omega) (by omega)]
          have := ih (k + 1) w1.drew cd1 (fun j z hj hz => by
            rcases Nat.lt_or_ge j k with h1 | h1
            · exact hn j z h1 hz
            · have : j = k := by omega
              subst this
              rw [hy] at hz; cases hz; exact hya) (by omega)
          rw [Int.natCast_add k 1] at this
          exact this
    have fin := fun t => main t p.1.objs.length 0 w0 (Chg.refl _ _) (fun j y hj => by omega) (by omega)
    rw [kv]
    by_cases h2 : a.2.2.1 = 0
    · have k2 : (a.2.2.1 == 0) = true := by rw [h2]; rfl
      by_cases h3 : a.2.2.2.1 = 0
      · have k3 : (a.2.2.2.1 == 0) = true := by rw [h3]; rfl
        by_cases h4 : a.2.2.2.2 = 0
        · have k4 : (a.2.2.2.2 == 0) = true := by rw [h4]; rfl
          simp -implicitDefEqProofs only [ixR, ad, ax, am, aM, aN, aQ, aR, av, ak, aJ, aK, aS, aT, ay, ap, aU, aV, aX, aY, ae, ac, aj, ag, z1z, z2z, z3z, z4z, aH, af, aD, aB, aC, aA, aE, aG, z5z, z6z, ah, z7z, z8z, au, hnn, cj, fa_51_3, fa_51_4, bj, b3, e2, e3, e4, k2, k3, k4]
          rw [decide_eq_true ⟨h2, h3, h4⟩]
          exact fin true
        · simp -implicitDefEqProofs only [ixR, ad, ax, am, aM, aN, aQ, aR, av, ak, aJ, aK, aS, aT, ay, ap, aU, aV, aX, aY, ae, ac, aj, ag, z1z, z2z, z3z, z4z, aH, af, aD, aB, aC, aA, aE, aG, z5z, z6z, ah, z7z, z8z, au, hnn, cj, fa_51_3, fa_51_4, bj, b3, e2, e3, e4, k2, k3, eqf h4]
          rw [decide_eq_false (show ¬ (a.2.2.1 = 0 ∧ a.2.2.2.1 = 0 ∧ a.2.2.2.2 = 0) from fun h => h4 h.2.2)]
          exact fin false
      · simp -implicitDefEqProofs only [ixR, ad, ax, am, aM, aN, aQ, aR, av, ak, aJ, aK, aS, aT, ay, ap, aU, aV, aX, aY, ae, ac, aj, ag, z1z, z2z, z3z, z4z, aH, af, aD, aB, aC, aA, aE, aG, z5z, z6z, ah, z7z, z8z, au, hnn, cj, fa_51_3, bj, b3, e2, e3, k2, eqf h3]
        rw [decide_eq_false (show ¬ (a.2.2.1 = 0 ∧ a.2.2.2.1 = 0 ∧ a.2.2.2.2 = 0) from fun h => h3 h.2.1)]
        exact fin false
    · simp -implicitDefEqProofs only [ixR, ad, ax, am, aM, aN, aQ, aR, av, ak, aJ, aK, aS, aT, ay, ap, aU, aV, aX, aY, ae, ac, aj, ag, z1z, z2z, z3z, z4z, aH, af, aD, aB, aC, aA, aE, aG, z5z, z6z, ah, z7z, z8z, au, hnn, cj, bj, b3, e2, eqf h2]
      rw [decide_eq_false (show ¬ (a.2.2.1 = 0 ∧ a.2.2.2.1 = 0 ∧ a.2.2.2.2 = 0) from fun h => h2 h.1)]
      exact fin false
def goodX (x : RfV) (k : Int) (a : HnV) : Bool := if ofK k = 1 then (knownX x a).1 else if ofK k = 2 then (knownX x a).2 else if ofK k = 3 then (knownX x a).1 || (knownX x a).2 else true
set_option maxHeartbeats 1000000 in
theorem c_rGood (R : RfR w g x s gn r d h) (hl : x.rgs.length ≤ 1000000) (ho : ∀ p ∈ x.rgs, p.1.objs.length ≤ 1000000) (o : OpV) (a : HnV) : CallR Try.prog 91 [.pointer (some ⟨g, 0, none⟩), .agg (opC o).toArray, .agg (hnC a).toArray] w fun v w' => v = .bool (goodX x o.1 a) ∧ Chg [] w w' := by
  apply F91_ok
  simp -implicitDefEqProofs only [F91, bE, bA, bf]
  generalize hw : (w.alloc (.cells (opC o).toArray 40)).alloc _ = w1
  have c1 : Chg [] w w1 := by rw [← hw]; exact ((Chg.refl _ _).alloc _).alloc _
  have a4 : hp w1 w.heap.size = some (.cells (opC o).toArray 40) := by rw [← hw, bc, bf, if_neg (by omega), bc, if_pos rfl]
  have a5 : hp w1 (w.heap.size + 1) = some (.cells (hnC a).toArray 51) := by rw [← hw, bc, bf, if_pos rfl]
  clear hw
  simp -implicitDefEqProofs only [ld_hn a5, ad]
  refine (c_rKnown (R.keep c1) hl ho a).mono ?_
  rintro _ w2 ⟨rfl, c2⟩
  have c02 := c1.trans c2
  have a42 := c2.at a4 (by simp)
  simp -implicitDefEqProofs only [tup0, tup1, ad, ax, am, aM, aN, aQ, aR, av, ak, aJ, aK, aS, aT, ay, ap, aU, aV, aX, aY, ae, ac, aj, ag, z1z, z2z, z3z, z4z, aH, af, aD, aB, aC, aA, aE, aG, z5z, z6z, ah, z7z, z8z, au, bq, bj, a42, bD]
  refine (c_Of o.1 w2).step ?_
  have gx : goodX x o.1 a = if ofK o.1 = 1 then (knownX x a).1 else if ofK o.1 = 2 then (knownX x a).2 else if ofK o.1 = 3 then (knownX x a).1 || (knownX x a).2 else true := rfl
  rw [gx]
  by_cases k1 : ofK o.1 = 1
  · have q : (ofK o.1 == 1) = true := by rw [k1]; rfl
    simp -implicitDefEqProofs only [ad, ax, am, aM, aN, aQ, aR, av, ak, aJ, aK, aS, aT, ay, ap, aU, aV, aX, aY, ae, ac, aj, ag, z1z, z2z, z3z, z4z, aH, af, aD, aB, aC, aA, aE, aG, z5z, z6z, ah, z7z, z8z, au, q]
    rw [if_pos k1]; exact ⟨by first | rfl | trivial, c02⟩
  by_cases k2 : ofK o.1 = 2
  · have q : (ofK o.1 == 2) = true := by rw [k2]; rfl
    simp -implicitDefEqProofs only [ad, ax, am, aM, aN, aQ, aR, av, ak, aJ, aK, aS, aT, ay, ap, aU, aV, aX, aY, ae, ac, aj, ag, z1z, z2z, z3z, z4z, aH, af, aD, aB, aC, aA, aE, aG, z5z, z6z, ah, z7z, z8z, au, eqf k1, q]
    rw [if_neg k1, if_pos k2]; exact ⟨by first | rfl | trivial, c02⟩
  by_cases k3 : ofK o.1 = 3
  · have q : (ofK o.1 == 3) = true := by rw [k3]; rfl
    cases hk : (knownX x a).1 with
    | true =>
      simp -implicitDefEqProofs only [ad, ax, am, aM, aN, aQ, aR, av, ak, aJ, aK, aS, aT, ay, ap, aU, aV, aX, aY, ae, ac, aj, ag, z1z, z2z, z3z, z4z, aH, af, aD, aB, aC, aA, aE, aG, z5z, z6z, ah, z7z, z8z, au, eqf k1, eqf k2, q]
      rw [if_neg k1, if_neg k2, if_pos k3]; exact ⟨by first | rfl | trivial | simp, c02⟩
    | false =>
      simp -implicitDefEqProofs only [ad, ax, am, aM, aN, aQ, aR, av, ak, aJ, aK, aS, aT, ay, ap, aU, aV, aX, aY, ae, ac, aj, ag, z1z, z2z, z3z, z4z, aH, af, aD, aB, aC, aA, aE, aG, z5z, z6z, ah, z7z, z8z, au, eqf k1, eqf k2, q]
      rw [if_neg k1, if_neg k2, if_pos k3]; exact ⟨by first | rfl | trivial | simp, c02⟩
  · simp -implicitDefEqProofs only [ad, ax, am, aM, aN, aQ, aR, av, ak, aJ, aK, aS, aT, ay, ap, aU, aV, aX, aY, ae, ac, aj, ag, z1z, z2z, z3z, z4z, aH, af, aD, aB, aC, aA, aE, aG, z5z, z6z, ah, z7z, z8z, au, eqf k1, eqf k2, eqf k3]
    rw [if_neg k1, if_neg k2, if_neg k3]; exact ⟨by first | rfl | trivial, c02⟩
end
end Go.Proofs.Ytgamnncehjcdiaa

namespace Go.Proofs.Ytgamnncehjcdiaa
open Go Ev Go.RowKit

section
variable {w : World} {g : Nat} {x : RfV} {s gn r d h : Value} {F : Fp}
theorem hold_at {L : List (List NmV)} {F : Fp} {y : Value} (hh : holdsT L w F y) {i : Nat} {l : List NmV} (hi : L[i]? = some l) : ∃ b c v, y = .slice (some ⟨b, 0, none⟩) L.length c ∧ ldC (hp w b) i = some v ∧ ∃ F, keysT l w F v := by
  obtain ⟨b, c, v, Fk, hx, _, _, _, hld, hv, _⟩ := isRow.cell hh (good_holdsL L) (k := i) (P := keysT l) (by rw [List.getElem?_map, hi]; rfl)
  exact ⟨b, c, v, hx, hld, Fk, hv⟩
theorem keys_sh {L : List NmV} {v : Value} (hh : ∃ F, keysT L w F v) : ∃ A c, v = .slice A L.length c ∧ RdV w A (L.flatMap nmC) := by
  obtain ⟨F, hh⟩ := hh
  obtain ⟨h1, _⟩ := flat_own hh
  obtain ⟨A, c, e, r, _⟩ := rdV_of_own h1
  exact ⟨A, c, e, r⟩
set_option maxHeartbeats 1000000 in
theorem c_rHas (R : RfR w g x s gn r d h) {n : Int} (n0 : 0 ≤ n) {l : List NmV} (hl : x.holds[n.toNat]? = some l) (hll : l.length ≤ 1000000) (nm : NmV) : CallR Try.prog 93 [.pointer (some ⟨g, 0, none⟩), .int .i64 n, .int .i64 nm.1, .int .i64 nm.2] w fun v w' => v = .bool (decide (nm ∈ l)) ∧ w' = w := by
  apply F93_ok
  simp -implicitDefEqProofs only [F93]
  obtain ⟨Fh, hFh⟩ := R.hT
  obtain ⟨b, c, v, rfl, hv, hk⟩ := hold_at hFh hl
  obtain ⟨A, co, rfl, hR⟩ := keys_sh hk
  have hn := (List.getElem?_eq_some_iff.1 hl).1
  have ia := ia_152 (b := b) (p := 0) (n := x.holds.length) (c := c) (j := .i64) (i := n) (by omega) (by omega)
  rw [Nat.zero_add, Nat.mul_one] at ia
  have main : ∀ (d i : Nat), (∀ (j : Nat) (y : NmV), j < i → l[j]? = some y → y ≠ nm) → i + d = l.length →
      P93_0 (.pointer (some ⟨g, 0, none⟩)) (.int .i64 n) (.int .i64 nm.1) (.int .i64 nm.2) (.int .i64 i) w fun v w' => v = .bool (decide (nm ∈ l)) ∧ w' = w := by
    intro d
    induction d with
    | zero =>
      intro i hne hi
      apply L93_0_ok
      have : ¬ (i : Int) < l.length := by omega
      simp -implicitDefEqProofs only [L93_0, ad, ax, am, aM, aN, aQ, aR, av, ak, aJ, aK, aS, aT, ay, ap, aU, aV, aX, aY, ae, ac, aj, ag, z1z, z2z, z3z, z4z, aH, af, aD, aB, aC, aA, aE, aG, z5z, z6z, ah, z7z, z8z, au, fa_154_6, ld_152, R.hl, ia, ld_159, hv, len_159, this]
      rw [decide_eq_false (fun hm => by
        obtain ⟨j, hj⟩ := List.getElem?_of_mem hm
        exact hne j nm (by have := (List.getElem?_eq_some_iff.1 hj).1; omega) hj rfl)]
      exact ⟨by first | rfl | trivial, trivial⟩
    | succ d ih =>
      intro i hne hi
      apply L93_0_ok
      have hlt : (i : Int) < l.length := by omega
      have hil : i < l.length := by omega
      obtain ⟨y, hy⟩ : ∃ y, l[i]? = some y := ⟨_, List.getElem?_eq_getElem hil⟩
      obtain ⟨bb, oo, q1, _, q3, _⟩ := hR.elem (P := Try.prog) (c := co) (n := l.length) (i := (i : Int)) (j := .i64) Try.underlying159 sz_187 (by omega) (by rw [flat_len nmC_len]; exact Nat.le_refl _) (by omega) (by omega)
      have hyl : l[i] = y := by rw [List.getElem?_eq_getElem hil] at hy; exact Option.some.inj hy
      rw [Int.toNat_natCast, flat_at nmC_len l i hil, hyl] at q3
      have ly : ldv Try.prog 187 (.pointer (some ⟨bb, oo, none⟩)) w = some (.agg (nmC y).toArray) := by rw [ld_187, q3]; rfl
      have hbe : be Try.prog .eql 187 (.tmp 31) (.tmp 34) (.agg (nmC y).toArray) (.agg #[.int .i64 nm.1, .int .i64 nm.2]) = some (.bool (decide (y = nm))) := by
        rw [← nm_beq]; exact be_eql_187
      simp -implicitDefEqProofs only [L93_0, ad, ax, am, aM, aN, aQ, aR, av, ak, aJ, aK, aS, aT, ay, ap, aU, aV, aX, aY, ae, ac, aj, ag, z1z, z2z, z3z, z4z, aH, af, aD, aB, aC, aA, aE, aG, z5z, z6z, ah, z7z, z8z, au, fa_154_6, ld_152, R.hl, ia, ld_159, hv, len_159, hlt, q1, ly, bd_187_0_1, hbe]
      by_cases hyn : y = nm
      · simp -implicitDefEqProofs only [decide_eq_true hyn, ad, ax, am, aM, aN, aQ, aR, av, ak, aJ, aK, aS, aT, ay, ap, aU, aV, aX, aY, ae, ac, aj, ag, z1z, z2z, z3z, z4z, aH, af, aD, aB, aC, aA, aE, aG, z5z, z6z, ah, z7z, z8z, au]
        rw [decide_eq_true (by rw [← hyn]; exact List.mem_of_getElem? hy)]
        exact ⟨by first | rfl | trivial, trivial⟩
      · simp -implicitDefEqProofs only [decide_eq_false hyn, ad, ax, am, aM, aN, aQ, aR, av, ak, aJ, aK, aS, aT, ay, ap, aU, aV, aX, aY, ae, ac, aj, ag, z1z, z2z, z3z, z4z, aH, af, aD, aB, aC, aA, aE, aG, z5z, z6z, ah, z7z, z8z, au, bG, bC (n := (i : Int) + 1) (by omega) (by omega)]
        have := ih (i + 1) (fun j z hj hz => by
          rcases Nat.lt_or_ge j i with h1 | h1
          · exact hne j z h1 hz
          · have : j = i := by omega
            subst this
            rw [hy] at hz; cases hz; exact hyn) (by omega)
        rw [Int.natCast_add i 1] at this
        exact this
  exact main l.length 0 (fun j y hj => by omega) (by omega)
set_option maxHeartbeats 2000000 in
theorem c_rFits (R : RfR w g x s gn r d h) {i : Nat} {p : RgV × Bool} (hp' : x.rgs[i]? = some p) (hl : x.rgs.length ≤ 1000000) (n : Int) : CallR Try.prog 122 [.pointer (some ⟨g, 0, none⟩), .int .i64 i, .int .i64 n] w fun v w' => v = .bool (rfitsV p.1 x.c.2.2.1 (roundV p.1.cls n)) ∧ Chg [] w w' := by
  apply F122_ok
  simp -implicitDefEqProofs only [F122]
  obtain ⟨Fr, hFr⟩ := R.rT
  obtain ⟨b, c, rfl, cv, wv, ov, Q⟩ := rr_at hFr hp'
  obtain ⟨A, cc, rfl, hRc⟩ := ints_sh Q.cT
  have hi := (List.getElem?_eq_some_iff.1 hp').1
  have ia := ia_151 (b := b) (p := 0) (n := x.rgs.length) (c := c) (j := .i64) (i := (i : Int)) (by omega) (by omega)
  rw [Int.toNat_natCast, Nat.zero_add] at ia
  obtain ⟨Fw, hFw⟩ := Q.wT
  obtain ⟨Fo, hFo⟩ := Q.oT
  have one2 := ((good_words _).one hFw).2
  have one3 := ((cm _).one hFo).2
  simp -implicitDefEqProofs only [ad, ax, am, aM, aN, aQ, aR, av, ak, aJ, aK, aS, aT, ay, ap, aU, aV, aX, aY, ae, ac, aj, ag, z1z, z2z, z3z, z4z, aH, af, aD, aB, aC, aA, aE, aG, z5z, z6z, ah, z7z, z8z, au, bK, bN, R.rl, ia, ld_rg Q, al_158]
  rw [st_158 (by rfl) (by
    have oi : ∀ (k : IntKind) (x : Int), (Value.int k x).oneCell' = true := fun _ _ => rfl
    have ob : ∀ b, (Value.bool b).oneCell' = true := fun _ => rfl
    have os : ∀ a n c, (Value.slice a n c).oneCell' = true := fun _ _ _ => rfl
    show (List.all [_, _, _, _, _, _, wv, ov] _) = true; simp [one2, one3, oi, ob, os]) (by rw [bc, if_pos rfl]; rfl) (by rw [bc, if_pos rfl]; rfl), bc, if_pos rfl, bM]
  generalize hw1 : put (w.alloc _) w.heap.size _ _ = w1
  have c1 : Chg [] w w1 := by rw [← hw1]; exact ((Chg.refl _ _).alloc _).put (.inr (Nat.le_refl _)) _ _
  have a7 : hp w1 w.heap.size = some (.cells (rgA p (.slice A p.1.chunks.length cc) wv ov) 158) := by rw [← hw1]; exact bv (by simp) _ _
  clear hw1
  have R1 := R.keep c1
  have cd : Chg [] w w1.drew := c1.drew
  have e2 : (rgA p (.slice A p.1.chunks.length cc) wv ov)[0 + 2]? = some (.int .i64 p.1.cls) := rfl
  have e3 : (rgA p (.slice A p.1.chunks.length cc) wv ov)[0 + 3]? = some (.int .i64 p.1.off) := rfl
  have e5 : (rgA p (.slice A p.1.chunks.length cc) wv ov)[0 + 5]? = some (.slice A p.1.chunks.length cc) := rfl
  have hc2 : ldC (hp w1 g) (0 + 0 + 2) = some (.int .i64 x.c.2.2.1) := R1.c 2 (by omega)
  by_cases h0 : (0 : Int) < p.1.chunks.length
  · have h1 : 0 < p.1.chunks.length := by omega
    have rf : rfitsV p.1 x.c.2.2.1 (roundV p.1.cls n) = fitsV x.c.2.2.1 p.1.off (roundV p.1.cls n) := by rw [rfitsV, decide_eq_true h1, Bool.true_and]
    simp -implicitDefEqProofs only [ad, ax, am, aM, aN, aQ, aR, av, ak, aJ, aK, aS, aT, ay, ap, aU, aV, aX, aY, ae, ac, aj, ag, z1z, z2z, z3z, z4z, aH, af, aD, aB, aC, aA, aE, aG, z5z, z6z, ah, z7z, z8z, au, fa_158_5, fa_158_3, fa_158_2, cr, fa_74_2, ce, bj, a7, e2, e3, e5, len_23, h0, hc2, gt_iff_lt]
    rw [rf]
    repeat' (with_reducible apply And.intro)
    all_goals
      refine (c_rRound p.1.cls n w1.drew).step ?_
      try simp -implicitDefEqProofs only [ad, ax, am, aM, aN, aQ, aR, av, ak, aJ, aK, aS, aT, ay, ap, aU, aV, aX, aY, ae, ac, aj, ag, z1z, z2z, z3z, z4z, aH, af, aD, aB, aC, aA, aE, aG, z5z, z6z, ah, z7z, z8z, au, bj, show hp w1.drew w.heap.size = _ from a7, e3, show ldC (hp w1.drew g) (0 + 0 + 2) = _ from hc2, a7, hc2]
      refine (c_rFits2 x.c.2.2.1 p.1.off (roundV p.1.cls n) w1.drew).step ?_
      try simp -implicitDefEqProofs only [ad, ax, am, aM, aN, aQ, aR, av, ak, aJ, aK, aS, aT, ay, ap, aU, aV, aX, aY, ae, ac, aj, ag, z1z, z2z, z3z, z4z, aH, af, aD, aB, aC, aA, aE, aG, z5z, z6z, ah, z7z, z8z, au]
      exact ⟨by first | rfl | trivial, cd⟩
  · have h1 : ¬ 0 < p.1.chunks.length := by omega
    have rf : rfitsV p.1 x.c.2.2.1 (roundV p.1.cls n) = false := by rw [rfitsV, decide_eq_false h1]; rfl
    simp -implicitDefEqProofs only [ad, ax, am, aM, aN, aQ, aR, av, ak, aJ, aK, aS, aT, ay, ap, aU, aV, aX, aY, ae, ac, aj, ag, z1z, z2z, z3z, z4z, aH, af, aD, aB, aC, aA, aE, aG, z5z, z6z, ah, z7z, z8z, au, fa_158_5, fa_158_3, fa_158_2, cr, fa_74_2, ce, bj, a7, e2, e3, e5, len_23, h0, hc2, gt_iff_lt]
    rw [rf]
    first | exact ⟨by first | rfl | trivial, cd⟩ | (repeat' (with_reducible apply And.intro)) <;> first | exact cd | rfl | trivial
def takenX (L : List (RgV × Bool)) (ch : Int) : Bool := L.any fun p => p.2 && decide (ch ∈ p.1.chunks)
set_option maxHeartbeats 1000000 in
theorem c_rTaken (R : RfR w g x s gn r d h) (hl : x.rgs.length ≤ 1000000) (hcl : ∀ p ∈ x.rgs, p.1.chunks.length ≤ 1000000) (y : Int) : CallR Try.prog 124 [.pointer (some ⟨g, 0, none⟩), .int .i64 y] w fun v w' => v = .bool (takenX x.rgs y) ∧ Chg [] w w' := by
  apply F124_ok
  simp -implicitDefEqProofs only [F124]
  have main : ∀ (d i : Nat) (w1 : World), Chg [] w w1 → (∀ (j : Nat) (p : RgV × Bool), j < i → x.rgs[j]? = some p → (p.2 && decide (y ∈ p.1.chunks)) = false) → i + d = x.rgs.length →
      P124_0 (.pointer (some ⟨g, 0, none⟩)) (.int .i64 y) (.int .i64 i) w1 fun v w' => v = .bool (takenX x.rgs y) ∧ Chg [] w w' := by
    intro d
    induction d with
    | zero =>
      intro i w1 hc hn hi
      apply L124_0_ok
      obtain ⟨Fr, hFr⟩ := (R.keep hc).rT
      obtain ⟨A, c, _, _, e, _⟩ := isRow.rd hFr
      have hrl := (R.keep hc).rl
      rw [e] at hrl
      have : ¬ (i : Int) < x.rgs.length := by omega
      simp -implicitDefEqProofs only [L124_0, ad, ax, am, aM, aN, aQ, aR, av, ak, aJ, aK, aS, aT, ay, ap, aU, aV, aX, aY, ae, ac, aj, ag, z1z, z2z, z3z, z4z, aH, af, aD, aB, aC, aA, aE, aG, z5z, z6z, ah, z7z, z8z, au, bK, bN, hrl, len_151, this]
      refine ⟨?_, hc⟩
      have : takenX x.rgs y = false := by
        rw [takenX, List.any_eq_false]
        intro p hp'
        obtain ⟨j, hj⟩ := List.getElem?_of_mem hp'
        rw [hn j p (by have := (List.getElem?_eq_some_iff.1 hj).1; omega) hj]; simp
      rw [this]
    | succ d ih =>
      intro i w1 hc hn hi
      apply L124_0_ok
      have hlt : (i : Int) < x.rgs.length := by omega
      obtain ⟨p, hp'⟩ : ∃ p, x.rgs[i]? = some p := ⟨_, List.getElem?_eq_getElem (by omega)⟩
      have R1 := R.keep hc
      obtain ⟨Fr, hFr⟩ := R1.rT
      obtain ⟨b, c, hx, cv, wv, ov, Q⟩ := rr_at hFr hp'
      have hrl := R1.rl
      rw [hx] at hrl
      obtain ⟨A, cc, rfl, hRc⟩ := ints_sh Q.cT
      have ia := ia_151 (b := b) (p := 0) (n := x.rgs.length) (c := c) (j := .i64) (i := (i : Int)) (by omega) (by omega)
      rw [Int.toNat_natCast, Nat.zero_add] at ia
      have next : ∀ w3, Chg [] w w3 → (p.2 && decide (y ∈ p.1.chunks)) = false → P124_0 (.pointer (some ⟨g, 0, none⟩)) (.int .i64 y) (.int .i64 ((i : Int) + 1)) w3 fun v w' => v = .bool (takenX x.rgs y) ∧ Chg [] w w' := by
        intro w3 c3 hf
        have := ih (i + 1) w3 c3 (fun j r hj hr => by
          rcases Nat.lt_or_ge j i with h1 | h1
          · exact hn j r h1 hr
          · have : j = i := by omega
            subst this
            rw [hp'] at hr; cases hr; exact hf) (by omega)
        rw [Int.natCast_add i 1] at this
        exact this
      cases hp2 : p.2 with
      | false =>
        have c4 : ldC (hp w1 b) (i * 8 + 4) = some (.bool false) := by rw [Q.c4, hp2]
        simp -implicitDefEqProofs only [L124_0, ad, ax, am, aM, aN, aQ, aR, av, ak, aJ, aK, aS, aT, ay, ap, aU, aV, aX, aY, ae, ac, aj, ag, z1z, z2z, z3z, z4z, aH, af, aD, aB, aC, aA, aE, aG, z5z, z6z, ah, z7z, z8z, au, bK, bN, hrl, len_151, hlt, ia, fa_158_4, ld_4, c4, bG, bC (n := (i : Int) + 1) (by omega) (by omega)]
        exact next w1 hc (by rw [hp2]; rfl)
      | true =>
        have c4 : ldC (hp w1 b) (i * 8 + 4) = some (.bool true) := by rw [Q.c4, hp2]
        simp -implicitDefEqProofs only [L124_0, ad, ax, am, aM, aN, aQ, aR, av, ak, aJ, aK, aS, aT, ay, ap, aU, aV, aX, aY, ae, ac, aj, ag, z1z, z2z, z3z, z4z, aH, af, aD, aB, aC, aA, aE, aG, z5z, z6z, ah, z7z, z8z, au, bK, bN, hrl, len_151, hlt, ia, fa_158_4, ld_4, c4, ld_rg Q]
        refine (c_rAt (p := p) (c := cc) hRc (hcl p (List.mem_of_getElem? hp')) y).mono ?_
        rintro _ w3 ⟨rfl, c3⟩
        have hge : decide (ixOf p.1.chunks y ≥ 0) = decide (y ∈ p.1.chunks) := ixOf_mem _ _
        by_cases hm : y ∈ p.1.chunks
        · rw [decide_eq_true hm] at hge
          have hge' := of_decide_eq_true hge
          simp -implicitDefEqProofs only [ad, ax, am, aM, aN, aQ, aR, av, ak, aJ, aK, aS, aT, ay, ap, aU, aV, aX, aY, ae, ac, aj, ag, z1z, z2z, z3z, z4z, aH, af, aD, aB, aC, aA, aE, aG, z5z, z6z, ah, z7z, z8z, au, aA, hge']
          refine ⟨?_, hc.trans c3⟩
          have : takenX x.rgs y = true := by
            rw [takenX, List.any_eq_true]
            exact ⟨p, List.mem_of_getElem? hp', by rw [hp2, decide_eq_true hm]; rfl⟩
          rw [this]
        · rw [decide_eq_false hm] at hge
          have hge' := of_decide_eq_false hge
          simp -implicitDefEqProofs only [ad, ax, am, aM, aN, aQ, aR, av, ak, aJ, aK, aS, aT, ay, ap, aU, aV, aX, aY, ae, ac, aj, ag, z1z, z2z, z3z, z4z, aH, af, aD, aB, aC, aA, aE, aG, z5z, z6z, ah, z7z, z8z, au, aA, hge', bG, bC (n := (i : Int) + 1) (by omega) (by omega)]
          exact next w3 (hc.trans c3) (by rw [decide_eq_false hm]; simp)
  exact main x.rgs.length 0 w (Chg.refl _ _) (fun j r hj => by omega) (by omega)
theorem RfI.intPut {k : Nat} {L : List Int} (I : RfI w g x F) (hk : (rfT x)[k]? = some (intsT L)) {i : Nat} {y : Int} (hy : L[i]? = some y) :
    ∃ b c, ldC (hp w g) k = some (.slice (some ⟨b, 0, none⟩) L.length c) ∧ b ≠ g ∧ F b ∧ ldC (hp w b) i = some (.int .i64 y) ∧
      ∀ z, okC (hp w b) (i + 1) = true ∧ ∃ F1, isAt 154 g ((rfT x).set k (intsT (L.set i z))) (put w b ((getC (hp w b)).setIfInBounds i (.int .i64 z)) (getE (hp w b))) F1 ∧ UpdP F F1 w (put w b ((getC (hp w b)).setIfInBounds i (.int .i64 z)) (getE (hp w b))) := by
  have hj : ((ints L).map isV)[i]? = some (isV (.int .i64 y)) := by rw [ints, List.map_map, List.getElem?_map, hy]; rfl
  obtain ⟨b, c, v, Fk, hl, hbg, hFb, _, _, _, hld, hv, _, hput⟩ := isAt.row I (cf x) hk (good_ints (ints_int L)) hj
  refine ⟨b, c, hl, hbg, hFb, by rw [hld, hv.1], fun z => ?_⟩
  obtain ⟨ok, _, _, _, F1, h1, h2⟩ := hput w none' (isV (.int .i64 z)) (.int .i64 z) (UpdP.none hv.2 w) (good_int _ _) ⟨rfl, fun _ h => h⟩
  have hset : ((ints L).map isV).set i (isV (.int .i64 z)) = (ints (L.set i z)).map isV := by rw [← List.map_set, flat_set1]
  rw [hset] at h1
  have e : intsT (L.set i z) = isRow 3 1 L.length ((ints (L.set i z)).map isV) := by rw [intsT, List.length_set]
  rw [e]
  exact ⟨ok, F1, h1, h2⟩
end
end Go.Proofs.Ytgamnncehjcdiaa

namespace Go.Proofs.Ytgamnncehjcdiaa
open Go Ev Go.RowKit

section
variable {w : World} {g : Nat} {x : RfV} {F : Fp}
def backX (x : RfV) (n : Int) : Bool × RfV := if 0 ≤ n ∧ n < x.state.length ∧ x.state.getD n.toNat 0 = 2 then (true, { x with state := x.state.set n.toNat 0 }) else (false, x)
set_option maxHeartbeats 1000000 in
theorem c_rBack (I : RfI w g x F) (hs : (x.state.length : Int) = x.c.2.2.2.1) (n : Int) : CallR Try.prog 51 [.pointer (some ⟨g, 0, none⟩), .int .i64 n] w fun v w' => v = .bool (backX x n).1 ∧ ∃ F', RfI w' g (backX x n).2 F' ∧ UpdP F F' w w' := by
  apply F51_ok
  obtain ⟨s, gn, r, d, h, R⟩ := I.rd
  have hc3 : ldC (hp w g) (0 + 0 + 3) = some (.int .i64 x.state.length) := by rw [hs]; exact R.c 3 (by omega)
  by_cases h0 : n < 0
  · simp -implicitDefEqProofs only [F51, ad, ax, am, aM, aN, aQ, aR, av, ak, aJ, aK, aS, aT, ay, ap, aU, aV, aX, aY, ae, ac, aj, ag, z1z, z2z, z3z, z4z, aH, af, aD, aB, aC, aA, aE, aG, z5z, z6z, ah, z7z, z8z, au, h0]
    rw [backX, if_neg (by omega)]
    exact ⟨by first | rfl | trivial, F, I, UpdP.refl _ _⟩
  by_cases h1 : (x.state.length : Int) ≤ n
  · simp -implicitDefEqProofs only [F51, ad, ax, am, aM, aN, aQ, aR, av, ak, aJ, aK, aS, aT, ay, ap, aU, aV, aX, aY, ae, ac, aj, ag, z1z, z2z, z3z, z4z, aH, af, aD, aB, aC, aA, aE, aG, z5z, z6z, ah, z7z, z8z, au, h0, cr, fa_74_3, bj, hc3, aA, ge_iff_le, h1]
    rw [backX, if_neg (by omega)]
    exact ⟨by first | rfl | trivial, F, I, UpdP.refl _ _⟩
  have hil : n.toNat < x.state.length := by omega
  obtain ⟨b, c, hl, hbg, hFb, hld, hput⟩ := I.intPut (k := 7) (L := x.state) rfl (i := n.toNat) (List.getElem?_eq_getElem hil)
  obtain ⟨ok, F1, t1, t2⟩ := hput 0
  have e1 : x.state.getD n.toNat 0 = x.state[n.toNat] := by rw [List.getD_eq_getElem?_getD, List.getElem?_eq_getElem hil]; rfl
  have ia := ia_23 (b := b) (p := 0) (n := x.state.length) (c := c) (j := .i64) (i := n) (by omega) (by omega)
  rw [Nat.zero_add, Nat.mul_one] at ia
  have hl7 : ldC (hp w g) (0 + 7) = some (.slice (some ⟨b, 0, none⟩) x.state.length c) := hl
  by_cases hz : x.state[n.toNat] = 2
  · have e3 : (x.state[n.toNat] != 2) = false := by rw [hz]; rfl
    have hld' : ldC (hp w b) n.toNat = some (.int .i64 2) := by rw [hld, hz]
    have e4 : ((2 : Int) != 2) = false := rfl
    simp -implicitDefEqProofs only [F51, ad, ax, am, aM, aN, aQ, aR, av, ak, aJ, aK, aS, aT, ay, ap, aU, aV, aX, aY, ae, ac, aj, ag, z1z, z2z, z3z, z4z, aH, af, aD, aB, aC, aA, aE, aG, z5z, z6z, ah, z7z, z8z, au, h0, cr, fa_154_2, fa_74_3, bj, hc3, aA, ge_iff_le, h1, ce, hl7, ia, hld', e4]
    rw [st_3 rfl rfl ok, backX, if_pos ⟨by omega, by omega, by rw [e1, hz]⟩]
    exact ⟨by first | rfl | trivial, F1, t1, t2⟩
  · have e3 : (x.state[n.toNat] != 2) = true := bne_iff_ne.2 hz
    simp -implicitDefEqProofs only [F51, ad, ax, am, aM, aN, aQ, aR, av, ak, aJ, aK, aS, aT, ay, ap, aU, aV, aX, aY, ae, ac, aj, ag, z1z, z2z, z3z, z4z, aH, af, aD, aB, aC, aA, aE, aG, z5z, z6z, ah, z7z, z8z, au, h0, cr, fa_154_2, fa_74_3, bj, hc3, aA, ge_iff_le, h1, ce, hl7, ia, hld, e3]
    rw [backX, if_neg (fun h => hz (by rw [← e1]; exact h.2.2))]
    exact ⟨by first | rfl | trivial, F, I, UpdP.refl _ _⟩
theorem ints_row {n : Nat} (hn : n ≤ maxLen) {b : Nat} (hb : hp w b = some (.cells (ints (List.replicate n 0)).toArray 3)) : intsT (List.replicate n 0) w (fun k => k = b) (.slice (some ⟨b, 0, none⟩) n n) := by
  have h : w.ownsRow 0 3 1 (.slice (some ⟨b, 0, none⟩) n n) n (ints (List.replicate n 0)) :=
    ⟨by simp [ints], .inr ⟨b, n, _, rfl, Nat.zero_le _, hb, Nat.le_refl _, hn, by simp [ints], by simp [ints]⟩⟩
  have h2 := own_flat h
  have e : (fun k => (Value.slice (some ⟨b, 0, none⟩) n n).ownBlock = some k) = (fun k => k = b) := by
    funext k
    simp [Value.ownBlock, eq_comm]
  rw [e] at h2
  rw [intsT, List.length_replicate]
  exact h2
theorem holds_row {n : Nat} (hn : n ≤ maxLen) {b : Nat} (hb : hp w b = some (.cells (List.replicate n (Value.slice none 0 0)).toArray 159)) : holdsT (List.replicate n []) w (fun k => k = b) (.slice (some ⟨b, 0, none⟩) n n) := by
  have h : w.ownsRow 0 159 1 (.slice (some ⟨b, 0, none⟩) n n) n (List.replicate n (Value.slice none 0 0)) :=
    ⟨by simp, .inr ⟨b, n, _, rfl, Nat.zero_le _, hb, Nat.le_refl _, hn, by simp, by simp⟩⟩
  refine ⟨_, fun _ => none', by rw [List.length_replicate]; exact h, ⟨by simp, fun k P v hP hv => ?_, fun _ _ _ _ _ b hb _ => hb⟩, fun b ⟨_, _, hb⟩ => hb.elim, fun k => ⟨fun hk => .inl (by rw [hk]; rfl), fun hk => ?_⟩⟩
  · rw [List.getElem?_map, List.getElem?_replicate] at hP
    rw [List.getElem?_replicate] at hv
    split at hP
    · rename_i hk
      rw [if_pos hk] at hv
      cases hP; cases hv
      exact isRow.nil
    · cases hP
  · rcases hk with hk | ⟨_, _, hk⟩
    · simp [Value.ownBlock] at hk; exact hk.symm
    · exact hk.elim
theorem rf_parts {x : RfV} {sv gv rv dv hv : Value} {Fs Fg Fr Fd Fh : Fp} (hs : intsT x.state w Fs sv) (hg : intsT x.gen w Fg gv) (hr : rrsT x.rgs w Fr rv) (hd : intsT x.depth w Fd dv) (hh : holdsT x.holds w Fh hv)
    (dis : ∀ i j : Nat, i < 5 → j < 5 → i ≠ j → FDis ((fun k : Nat => if k = 0 then Fs else if k = 1 then Fg else if k = 2 then Fr else if k = 3 then Fd else Fh) i) ((fun k : Nat => if k = 0 then Fs else if k = 1 then Fg else if k = 2 then Fr else if k = 3 then Fd else Fh) j)) :
    Parts w (rfT x) (cfC x.c ++ [.bool x.loose, sv, gv, rv, dv, hv]) (fun k => if k < 7 then none' else (fun k : Nat => if k = 0 then Fs else if k = 1 then Fg else if k = 2 then Fr else if k = 3 then Fd else Fh) (k - 7)) := by
  refine ⟨rfl, fun k P v hP hv' => ?_, fun j k hj hk hjk => ?_⟩
  · have hk := (List.getElem?_eq_some_iff.1 hP).1
    have hk' : (rfT x).length = 12 := rfl
    rw [hk'] at hk
    have h12 : k = 0 ∨ k = 1 ∨ k = 2 ∨ k = 3 ∨ k = 4 ∨ k = 5 ∨ k = 6 ∨ k = 7 ∨ k = 8 ∨ k = 9 ∨ k = 10 ∨ k = 11 := by omega
    rcases h12 with rfl | rfl | rfl | rfl | rfl | rfl | rfl | rfl | rfl | rfl | rfl | rfl <;> cases hP <;> cases hv'
    · exact ⟨rfl, fun _ h => h⟩
    · exact ⟨rfl, fun _ h => h⟩
    · exact ⟨rfl, fun _ h => h⟩
    · exact ⟨rfl, fun _ h => h⟩
    · exact ⟨rfl, fun _ h => h⟩
    · exact ⟨rfl, fun _ h => h⟩
    · exact ⟨rfl, fun _ h => h⟩
    · exact hs
    · exact hg
    · exact hr
    · exact hd
    · exact hh
  · have hl : (rfT x).length = 12 := rfl
    rw [hl] at hj hk
    by_cases h1 : j < 7
    · simp only [if_pos h1]; exact fun _ h _ => h
    · by_cases h2 : k < 7
      · simp only [if_pos h2]; exact fun _ _ h => h
      · simp only [if_neg h1, if_neg h2]
        exact dis (j - 7) (k - 7) (by omega) (by omega) (by omega)
set_option maxHeartbeats 4000000 in
theorem c_rNew (c : CfV) (loose : Bool) (hm : mayC c = true) (w : World) : CallR Try.prog 88 [.agg (cfC c).toArray, .bool loose] w fun v w' => ∃ g F, v = .pointer (some ⟨g, 0, none⟩) ∧ Chg [] w w' ∧ RfI w' g (toRf (newM c loose)) F ∧ ∀ k, F k → w.heap.size ≤ k := by
  apply F88_ok
  have b2 : hp (w.alloc (.cells (cfC c).toArray 74)) w.heap.size = some (.cells (cfC c).toArray 74) := by rw [bc, if_pos rfl]
  have c0 : Chg [] w (w.alloc (.cells (cfC c).toArray 74)) := (Chg.refl _ _).alloc _
  simp -implicitDefEqProofs only [F88, bE, bA]
  generalize w.alloc (.cells (cfC c).toArray 74) = w0 at *
  obtain ⟨h1, h2, h3, h4⟩ := may_cf hm
  have e3 : (cfC c).toArray[0 + 3]? = some (.int .i64 ((c.2.2.2.1.toNat : Nat) : Int)) := by rw [cf_3]; congr; omega
  have e0 : (cfC c).toArray[0 + 0]? = some (.int .i64 ((c.1.toNat : Nat) : Int)) := by rw [cf_0]; congr; omega
  have nm : toRf (newM c loose) = ⟨c, loose, List.replicate c.2.2.2.1.toNat 0, List.replicate c.2.2.2.1.toNat 0, [], List.replicate c.1.toNat 0, List.replicate c.1.toNat []⟩ := by simp [toRf, newM]
  have l1 : c.2.2.2.1.toNat ≤ 4096 := by omega
  have l2 : c.1.toNat ≤ 64 := by omega
  generalize c.2.2.2.1.toNat = ns at *
  generalize c.1.toNat = nh at *
  obtain ⟨ii, hii, hzi, hsi, hbi⟩ := inf_3
  obtain ⟨ik, hik, hzk, hsk, hbk⟩ := inf_159
  have mk1 : ∀ n, madeCells (Value.int .i64 0).cells (n * ii.size) = (ints (List.replicate n 0)).toArray := fun n => by
    apply Array.toList_inj.1
    rw [hsi, Nat.mul_one]
    have := toList_madeCells_one (Value.int .i64 0) n
    rw [ints, List.map_replicate]
    exact this
  have mk2 : madeCells (Value.slice none 0 0).cells (nh * ik.size) = (List.replicate nh (Value.slice none 0 0)).toArray := by
    apply Array.toList_inj.1
    rw [hsk, Nat.mul_one]
    exact toList_madeCells_one (Value.slice none 0 0) nh
  have hml : ns ≤ maxLen ∧ nh ≤ maxLen := by unfold maxLen; omega
  have fin : ∀ (w4 : World) (bs bg bd bh : Nat), Chg [] w w4 → hp w4 bs = some (.cells (ints (List.replicate ns 0)).toArray 3) → hp w4 bg = some (.cells (ints (List.replicate ns 0)).toArray 3) → hp w4 bd = some (.cells (ints (List.replicate nh 0)).toArray 3) → hp w4 bh = some (.cells (List.replicate nh (Value.slice none 0 0)).toArray 159) →
      w.heap.size ≤ bs ∧ w.heap.size ≤ bg ∧ w.heap.size ≤ bd ∧ w.heap.size ≤ bh ∧ bs ≠ bg ∧ bs ≠ bd ∧ bs ≠ bh ∧ bg ≠ bd ∧ bg ≠ bh ∧ bd ≠ bh →
      ∃ g F, Value.pointer (some ⟨w4.heap.size, 0, none⟩) = .pointer (some ⟨g, 0, none⟩) ∧ Chg [] w (w4.alloc (.cells (cfC c ++ [Value.bool loose, Value.slice (some ⟨bs, 0, none⟩) ns ns, Value.slice (some ⟨bg, 0, none⟩) ns ns, Value.slice none 0 0, Value.slice (some ⟨bd, 0, none⟩) nh nh, Value.slice (some ⟨bh, 0, none⟩) nh nh]).toArray 154)) ∧
        RfI (w4.alloc (.cells (cfC c ++ [Value.bool loose, Value.slice (some ⟨bs, 0, none⟩) ns ns, Value.slice (some ⟨bg, 0, none⟩) ns ns, Value.slice none 0 0, Value.slice (some ⟨bd, 0, none⟩) nh nh, Value.slice (some ⟨bh, 0, none⟩) nh nh]).toArray 154)) g (toRf (newM c loose)) F ∧ ∀ k, F k → w.heap.size ≤ k := by
    intro w4 bs bg bd bh c4 hs hg hd hh ⟨n1, n2, n3, n4, d1, d2, d3, d4, d5, d6⟩
    rw [nm]
    have hp' := rf_parts (w := w4) (x := ⟨c, loose, List.replicate ns 0, List.replicate ns 0, [], List.replicate nh 0, List.replicate nh []⟩) (ints_row hml.1 hs) (ints_row hml.1 hg) (Fr := none') (rv := .slice none 0 0) isRow.nil (ints_row hml.2 hd) (holds_row hml.2 hh) (by
      intro i j hi hj hij b hb1 hb2
      have hi' : i = 0 ∨ i = 1 ∨ i = 2 ∨ i = 3 ∨ i = 4 := by omega
      have hj' : j = 0 ∨ j = 1 ∨ j = 2 ∨ j = 3 ∨ j = 4 := by omega
      rcases hi' with rfl | rfl | rfl | rfl | rfl <;> rcases hj' with rfl | rfl | rfl | rfl | rfl <;> first
        | omega
        | (simp only [if_true, if_false, Nat.reduceEqDiff, none'] at hb1 hb2; omega)
        | (simp [none'] at hb1 hb2; omega)
        | (simp [none'] at hb1 hb2))
    refine ⟨w4.heap.size, _, rfl, c4.alloc _, isAt.new hp' (cf _), fun k hk => ?_⟩
    have sz := c4.size
    rcases hk with hk | ⟨j, _, hk⟩
    · omega
    · split at hk
      · exact hk.elim
      · repeat' split at hk
        · have : k = bs := hk; omega
        · have : k = bg := hk; omega
        · exact hk.elim
        · have : k = bd := hk; omega
        · have : k = bh := hk; omega
  have hbd : ∀ a b e f, pureRun Try.prog (Instr.build 154 #[(0, .agg (cfC c).toArray), (1, .bool loose), (2, .slice (some ⟨a, 0, none⟩) ns ns), (3, .slice (some ⟨b, 0, none⟩) ns ns), (5, .slice (some ⟨e, 0, none⟩) nh nh), (6, .slice (some ⟨f, 0, none⟩) nh nh)]) = some (.agg (cfC c ++ [Value.bool loose, Value.slice (some ⟨a, 0, none⟩) ns ns, Value.slice (some ⟨b, 0, none⟩) ns ns, Value.slice none 0 0, Value.slice (some ⟨e, 0, none⟩) nh nh, Value.slice (some ⟨f, 0, none⟩) nh nh]).toArray) := fun a b e f => bd_154_0_1_2_3_5_6
  have b2d : hp w0.drew w.heap.size = some (.cells (cfC c).toArray 74) := b2
  have cd := c0.drew
  have sz : w.heap.size ≤ w0.drew.heap.size := cd.size
  have ea : ∀ {P : Program} {w : World} {K : Value → World → Prop}, True := fun {P w K} => trivial
  simp -implicitDefEqProofs only [ad, ax, am, aM, aN, aQ, aR, av, ak, aJ, aK, aS, aT, ay, ap, aU, aV, aX, aY, ae, ac, aj, ag, z1z, z2z, z3z, z4z, aH, af, aD, aB, aC, aA, aE, aG, z5z, z6z, ah, z7z, z8z, au, fa_74_3, fa_74_0, bj, ld_cf b2d, b2, e3, e0, effv_make (P := Try.prog) (kl := .i64) (kc := .i64) (n := ns) Try.underlying23 hii hzi (by rw [hsi]; omega) (by rw [hbi]; omega) (by omega), effv_make (P := Try.prog) (kl := .i64) (kc := .i64) (n := nh) Try.underlying23 hii hzi (by rw [hsi]; omega) (by rw [hbi]; omega) (by omega),
    effv_make (P := Try.prog) (kl := .i64) (kc := .i64) (n := nh) Try.underlying152 hik hzk (by rw [hsk]; omega) (by rw [hbk]; omega) (by omega), mk1, mk2, hbd, bE, bA]
  repeat' (with_reducible apply And.intro)
  all_goals
    refine fin _ _ _ _ _ ((((cd.alloc _).alloc _).alloc _).alloc _) ?_ ?_ ?_ ?_ ⟨?_, ?_, ?_, ?_, ?_, ?_, ?_, ?_, ?_, ?_⟩
    all_goals first
      | (simp only [bc, bf, if_true]; done)
      | ((try simp only [bc, bf, if_true]); (repeat' split) <;> first | rfl | omega)
      | ((try simp only [bf]); omega)
end
end Go.Proofs.Ytgamnncehjcdiaa

namespace Go.Proofs.Ytgamnncehjcdiaa
open Go Ev Go.RowKit

section
variable {W w : World} {g : Nat} {m : MdV} {F : Fp} {K : Nat}
structure MdW (W w : World) (g : Nat) (m : MdV) (K : Nat) (F : Fp) : Prop where
  chg : Chg [] W w
  I : MdI w g m F
  new : ∀ k, F k → W.heap.size ≤ k
  wf : Wf m K
theorem MdW.keep {w' : World} (h : MdW W w g m K F) (hc : Chg [] w w') : MdW W w' g m K F := ⟨h.chg.trans hc, h.I.keep hc, h.new, h.wf⟩
theorem MdW.upd {w' : World} {m' : MdV} {K' : Nat} {F' : Fp} (h : MdW W w g m K F) (I : MdI w' g m' F') (u : UpdP F F' w w') (wf : Wf m' K') : MdW W w' g m' K' F' := by
  have hs := h.chg.size
  refine ⟨⟨u.chg.os.trans h.chg.os, u.chg.tape.trans h.chg.tape, u.chg.output.trans h.chg.output, Nat.le_trans hs u.chg.size, fun k hk _ => ?_⟩, I, fun k hk => ?_, wf⟩
  · rw [u.chg.block k (Nat.lt_of_lt_of_le hk hs) fun hf => by have := h.new k hf; omega]
    exact h.chg.block k hk (by simp)
  · rcases u.sub k hk with h1 | h1
    · exact h.new k h1
    · omega


theorem bdo_0 (k : Int) : pureRun Try.prog (Instr.build 40 #[(0, .int .i64 k)]) = some (.agg (opC (k, 0, 0, 0, 0, 0)).toArray) := bd_40_0
theorem bdh_ : pureRun Try.prog (Instr.build 51 #[]) = some (.agg (hnC noH).toArray) := bd_51_
theorem bdh_1 (x : Int) : pureRun Try.prog (Instr.build 51 #[(1, .int .i64 x)]) = some (.agg (hnC (0, x, 0, 0, 0)).toArray) := bd_51_1
theorem bdh_01 (x y : Int) : pureRun Try.prog (Instr.build 51 #[(0, .int .i64 x), (1, .int .i64 y)]) = some (.agg (hnC (x, y, 0, 0, 0)).toArray) := bd_51_0_1
theorem bdr_ : pureRun Try.prog (Instr.build 53 #[]) = some (.agg (rsC noR).toArray) := bd_53_
theorem bdr_0 (x : Int) : pureRun Try.prog (Instr.build 53 #[(0, .int .i64 x)]) = some (.agg (rsC (codeR x)).toArray) := bd_53_0
theorem bdr_1 (h : HnV) : pureRun Try.prog (Instr.build 53 #[(1, .agg (hnC h).toArray)]) = some (.agg (rsC (0, h, 0, 0)).toArray) := bd_53_1
theorem st_hn {r : HnV} {b : Nat} {c : Array Value} {e : TypeId} (hb : hp w b = some (.cells c e)) (hs : c.size = 5) {L : World → Prop} : effu Try.prog (Instr.storeAt 51 (.pointer (some ⟨b, 0, none⟩)) (.agg (hnC r).toArray)) w L = L (put w b (hnC r).toArray e) := by
  rw [st_51 rfl rfl (by rw [hb, okC_some]; exact decide_eq_true (by omega)) (by rw [hb]; exact hs), hb]; rfl
def m0F : MdV := newM (1, 1, 8, 1, 0, 1) false
def m1F : MdV := (doV m0F 0 (1, 0, 0, 0, 0, 0) noH (0, (0, 1, 0, 0, 0), 0, 0)).2
def m2F : MdV := (doV m1F 0 (10, 0, 0, 0, 0, 0) (0, 1, 0, 0, 0) noR).2
theorem m0_must : mustV m0F 0 (10, 0, 0, 0, 0, 0) noH = (codeR 2, true) := by kernel_rfl
theorem m0_do : (doV m0F 0 (1, 0, 0, 0, 0, 0) noH (0, (0, 1, 0, 0, 0), 0, 0)).1 = true := by decide +kernel
theorem m1_do : (doV m1F 0 (10, 0, 0, 0, 0, 0) (0, 1, 0, 0, 0) noR).1 = true := by decide +kernel
theorem m2_spare : spareN m2F.slots = 0 := by decide +kernel
theorem m2_back : (backV m2F 0).1 = true := by decide +kernel
theorem m3_spare : spareN (backV m2F 0).2.slots = 1 := by decide +kernel
set_option maxHeartbeats 1000000 in
theorem c_mFirst (w : World) : CallR Try.prog 40 [] w fun v w' => v = .bool true ∧ Chg [] w w' := by
  apply F40_ok
  have hbc : pureRun Try.prog (Instr.build 74 #[(0, .int .i64 1), (1, .int .i64 1), (2, .int .i64 8), (3, .int .i64 1), (5, .int .i64 1)]) = some (.agg (cfC (1, 1, 8, 1, 0, 1)).toArray) := bd_74_0_1_2_3_5
  simp -implicitDefEqProofs only [F40, hbc, ad]
  refine (c_mNew (1, 1, 8, 1, 0, 1) w).mono ?_
  rintro v w1 ⟨c1, hv⟩
  rcases hv with ⟨hm, _⟩ | ⟨hm, g, F, rfl, I, hF⟩
  · exact absurd hm (by decide)
  have M0 : MdW w w1 g m0F 0 F := ⟨c1, I, hF, wf_new hm false⟩
  have en : ((0 : Int) != 0) = false := rfl
  simp -implicitDefEqProofs only [tup0, tup1, ad, ax, am, aM, aN, aQ, aR, av, ak, aJ, aK, aS, aT, ay, ap, aU, aV, aX, aY, ae, ac, aj, ag, z1z, z2z, z3z, z4z, aH, af, aD, aB, aC, aA, aE, aG, z5z, z6z, ah, z7z, z8z, au, be_eqlp Try.underlying75, z8z, en, bdo_0, bdh_]
  refine (c_mMust M0.I M0.wf (by omega) 0 (10, 0, 0, 0, 0, 0) noH).mono ?_
  rintro _ w2 ⟨rfl, c2⟩
  have M1 := M0.keep c2
  rw [m0_must]
  simp -implicitDefEqProofs only [tup0, tup1, ad, ax, am, aM, aN, aQ, aR, av, ak, aJ, aK, aS, aT, ay, ap, aU, aV, aX, aY, ae, ac, aj, ag, z1z, z2z, z3z, z4z, aH, af, aD, aB, aC, aA, aE, aG, z5z, z6z, ah, z7z, z8z, au, al_53]
  rw [st_res (c := (rsC noR).toArray) (e := 53) (by rw [bc, if_pos rfl]; rfl) rfl]
  generalize hw3 : put (w2.alloc _) w2.heap.size _ _ = w3
  have c3 : Chg [] w2 w3 := by rw [← hw3]; exact ((Chg.refl _ _).alloc _).put (.inr (Nat.le_refl _)) _ _
  have a3 : hp w3 w2.heap.size = some (.cells (rsC (codeR 2)).toArray 53) := by rw [← hw3]; exact bv (by simp) _ _
  clear hw3
  have M2 := M1.keep c3
  have n3 : ¬ F w2.heap.size := fun h => by have := isAt.lt M1.I (bY _) _ h; omega
  generalize w2.heap.size = g3 at *
  simp -implicitDefEqProofs only [bdh_1, ad, al_51]
  rw [st_hn (c := (hnC noH).toArray) (e := 51) (by rw [bc, if_pos rfl]; rfl) rfl]
  generalize hw4 : put (w3.alloc _) w3.heap.size _ _ = w4
  have c4 : Chg [] w3 w4 := by rw [← hw4]; exact ((Chg.refl _ _).alloc _).put (.inr (Nat.le_refl _)) _ _
  have a5 : hp w4 w3.heap.size = some (.cells (hnC (0, 1, 0, 0, 0)).toArray 51) := by rw [← hw4]; exact bv (by simp) _ _
  clear hw4
  have M3 := M2.keep c4
  have n5 : ¬ F w3.heap.size := fun h => by have := isAt.lt M2.I (bY _) _ h; omega
  have a34 := c4.at a3 (by simp)
  generalize w3.heap.size = g5 at *
  simp -implicitDefEqProofs only [bdo_0, bdh_, ld_hn a5, bdr_1, ad]
  refine (c_mDo M3.I M3.wf (by omega) 0 (1, 0, 0, 0, 0, 0) noH (0, (0, 1, 0, 0, 0), 0, 0)).mono ?_
  rintro _ w5 ⟨rfl, F5, i5, u5⟩
  have M5 := M3.upd i5 u5 (M3.wf.doV _ _ _ _)
  have a55 := u5.keep a5 n5
  have a35 := u5.keep a34 n3
  rw [m0_do]
  simp -implicitDefEqProofs only [bdo_0, bdr_, ld_hn a55.1, ad]
  refine (c_mDo M5.I M5.wf (by omega) 0 (10, 0, 0, 0, 0, 0) (0, 1, 0, 0, 0) noR).mono ?_
  rintro _ w6 ⟨rfl, F6, i6, u6⟩
  have M6 : MdW w w6 g m2F 2 F6 := M5.upd i6 u6 (M5.wf.doV _ _ _ _)
  have a36 := u6.keep a35.1 a35.2
  have e1 : (doV (doV m0F 0 (1, 0, 0, 0, 0, 0) noH (0, (0, 1, 0, 0, 0), 0, 0)).2 0 (10, 0, 0, 0, 0, 0) (0, 1, 0, 0, 0) noR).1 = true := m1_do
  have hbe : be Try.prog .eql 53 (.tmp 40) (.tmp 41) (.agg (rsC (codeR 2)).toArray) (.agg (rsC (codeR 2)).toArray) = some (.bool true) := by rw [be_rs, decide_eq_true rfl]
  obtain ⟨_, _, _, R6⟩ := M6.I.rd
  rw [e1]
  simp -implicitDefEqProofs only [ad, ax, am, aM, aN, aQ, aR, av, ak, aJ, aK, aS, aT, ay, ap, aU, aV, aX, aY, ae, ac, aj, ag, z1z, z2z, z3z, z4z, aH, af, aD, aB, aC, aA, aE, aG, z5z, z6z, ah, z7z, z8z, au, bV a36.1, bdr_0, hbe]
  refine (c_mSpare R6 M6.wf.sl).mono ?_
  rintro _ w7 ⟨rfl, c7⟩
  have M7 := M6.keep c7
  have e2 : (((spareN m2F.slots : Nat) : Int) == 0) = true := by rw [m2_spare]; rfl
  simp -implicitDefEqProofs only [ad, ax, am, aM, aN, aQ, aR, av, ak, aJ, aK, aS, aT, ay, ap, aU, aV, aX, aY, ae, ac, aj, ag, z1z, z2z, z3z, z4z, aH, af, aD, aB, aC, aA, aE, aG, z5z, z6z, ah, z7z, z8z, au, e2]
  refine (c_mBack M7.I 0).mono ?_
  rintro _ w8 ⟨rfl, F8, i8, u8⟩
  have M8 := M7.upd i8 u8 (M7.wf.back 0)
  rw [m2_back]
  obtain ⟨_, _, _, R8⟩ := M8.I.rd
  simp -implicitDefEqProofs only [ad, ax, am, aM, aN, aQ, aR, av, ak, aJ, aK, aS, aT, ay, ap, aU, aV, aX, aY, ae, ac, aj, ag, z1z, z2z, z3z, z4z, aH, af, aD, aB, aC, aA, aE, aG, z5z, z6z, ah, z7z, z8z, au]
  refine (c_mSpare R8 M8.wf.sl).mono ?_
  rintro _ w9 ⟨rfl, c9⟩
  have e3 : (((spareN (backV m2F 0).2.slots : Nat) : Int) == 1) = true := by rw [m3_spare]; rfl
  simp -implicitDefEqProofs only [ad, ax, am, aM, aN, aQ, aR, av, ak, aJ, aK, aS, aT, ay, ap, aU, aV, aX, aY, ae, ac, aj, ag, z1z, z2z, z3z, z4z, aH, af, aD, aB, aC, aA, aE, aG, z5z, z6z, ah, z7z, z8z, au, e3]
  exact ⟨by first | rfl | trivial, (M8.keep c9).chg⟩
end
end Go.Proofs.Ytgamnncehjcdiaa

namespace Go.Proofs.Ytgamnncehjcdiaa
open Go Ev Go.RowKit

section
variable {W w : World} {c : CfV} {loose : Bool}
def pairA (c : CfV) (g gx : Nat) (kn : Value) : Array Value := (cfC c ++ [Value.pointer (some ⟨g, 0, none⟩), Value.pointer (some ⟨gx, 0, none⟩), kn]).toArray
structure PairN (W w : World) (gp g gx : Nat) (c : CfV) (m : MdV) (Fm Fx : Fp) : Prop where
  chg : Chg [] W w
  hp : hp w gp = some (.cells (pairA c g gx (.slice none 0 0)) 92)
  I : MdI w g m Fm
  X : RfI w gx (toRf m) Fx
  dis : FDis Fm Fx
  pm : ¬ Fm gp
  px : ¬ Fx gp
  nm : ∀ k, Fm k → W.heap.size ≤ k
  nx : ∀ k, Fx k → W.heap.size ≤ k
  np : W.heap.size ≤ gp
set_option maxHeartbeats 2000000 in
theorem c_made24 (hm : mayC c = true) (w : World) : CallR Try.prog 46 [.agg (cfC c).toArray, .bool loose] w fun v w' => ∃ gp g gx Fm Fx, v = .pointer (some ⟨gp, 0, none⟩) ∧ PairN w w' gp g gx c (newM c loose) Fm Fx := by
  apply F46_ok
  have b2 : Ev.hp (w.alloc (.cells (cfC c).toArray 74)) w.heap.size = some (.cells (cfC c).toArray 74) := by rw [bc, if_pos rfl]
  have c0 : Chg [] w (w.alloc (.cells (cfC c).toArray 74)) := (Chg.refl _ _).alloc _
  simp -implicitDefEqProofs only [F46, bE, bA]
  generalize w.alloc (.cells (cfC c).toArray 74) = w0 at *
  simp -implicitDefEqProofs only [ld_cf b2, ad]
  have z0 : ((0 : Int) != 0) = false := rfl
  have rest : ∀ (w1 : World) (g : Nat) (F : Fp), Chg [] w w1 → Ev.hp w1 w.heap.size = some (.cells (cfC c).toArray 74) → MdI w1 g (newM c loose) F → (∀ k, F k → w.heap.size ≤ k) →
      P46_0 (.bool loose) (.pointer (some ⟨w.heap.size, 0, none⟩)) (.pointer (some ⟨g, 0, none⟩)) (.int .i64 0) w1 fun v w' => ∃ gp g gx Fm Fx, v = .pointer (some ⟨gp, 0, none⟩) ∧ PairN w w' gp g gx c (newM c loose) Fm Fx := by
    intro w1 g F c1 hb I hF
    apply L46_0_ok
    have hbd : Ev.hp w1.drew w.heap.size = some (.cells (cfC c).toArray 74) := hb
    have cd : Chg [] w1 w1.drew := (Chg.refl _ _).drew
    have fin : ∀ (w2 : World) (gx : Nat) (Fx : Fp), Chg [] w1 w2 → RfI w2 gx (toRf (newM c loose)) Fx → (∀ k, Fx k → w1.drew.heap.size ≤ k) →
        ∃ gp g' gx' Fm Fx, Value.pointer (some ⟨w2.heap.size, 0, none⟩) = .pointer (some ⟨gp, 0, none⟩) ∧ PairN w (w2.alloc (.cells (pairA c g gx (.slice none 0 0)) 92)) gp g' gx' c (newM c loose) Fm Fx := by
      intro w2 gx Fx c2 X hX
      have ca : Chg [] w2 (w2.alloc (.cells (pairA c g gx (.slice none 0 0)) 92)) := (Chg.refl _ _).alloc _
      have I2 := I.keep c2
      refine ⟨w2.heap.size, g, gx, F, Fx, rfl, c1.trans (c2.trans ca), by rw [bc, if_pos rfl], I2.keep ca, X.keep ca, fun k h1 h2 => ?_, fun h => ?_, fun h => ?_, hF, fun k hk => ?_, (c1.trans c2).size⟩
      · have a1 := isAt.lt I (bY _) k h1
        have a2 := hX k h2
        have : w1.drew.heap.size = w1.heap.size := rfl
        omega
      · have := isAt.lt I2 (bY _) _ h; omega
      · have := isAt.lt X (cf _) _ h; omega
      · have a2 := hX k hk
        have : w1.drew.heap.size = w1.heap.size := rfl
        have := c1.size
        omega
    have hbd2 : ∀ gx, pureRun Try.prog (Instr.build 92 #[(0, .agg (cfC c).toArray), (1, .pointer (some ⟨g, 0, none⟩)), (2, .pointer (some ⟨gx, 0, none⟩))]) = some (.agg (pairA c g gx (.slice none 0 0))) := fun gx => bd_92_0_1_2
    simp -implicitDefEqProofs only [L46_0, ad, ax, am, aM, aN, aQ, aR, av, ak, aJ, aK, aS, aT, ay, ap, aU, aV, aX, aY, ae, ac, aj, ag, z1z, z2z, z3z, z4z, aH, af, aD, aB, aC, aA, aE, aG, z5z, z6z, ah, z7z, z8z, au, be_eqlp Try.underlying75, z8z, z0, ld_cf hbd]
    constructor
    · refine (c_rNew c loose hm w1.drew).mono ?_
      rintro _ w2 ⟨gx, Fx, rfl, c2, X, hX⟩
      simp -implicitDefEqProofs only [hbd2, ad, bE, bA]
      exact fin w2 gx Fx (cd.trans c2) X hX
    · refine (c_rNew c loose hm w1.drew).mono ?_
      rintro _ w2 ⟨gx, Fx, rfl, c2, X, hX⟩
      have hb2 := (cd.trans c2).at hb (by simp)
      simp -implicitDefEqProofs only [ld_cf hb2, hbd2, ad, bE, bA]
      exact fin w2 gx Fx (cd.trans c2) X hX
  refine (c_mNew c w0).mono ?_
  rintro v w1 ⟨c1, hv⟩
  have b21 := c1.at b2 (by simp)
  have s0 := c0.size
  have s1 := c1.size
  rcases hv with ⟨hm', _⟩ | ⟨_, g, F, rfl, I, hF⟩
  · rw [hm] at hm'; cases hm'
  cases loose with
  | false =>
    simp -implicitDefEqProofs only [tup0, tup1, ad, ax, am, aM, aN, aQ, aR, av, ak, aJ, aK, aS, aT, ay, ap, aU, aV, aX, aY, ae, ac, aj, ag, z1z, z2z, z3z, z4z, aH, af, aD, aB, aC, aA, aE, aG, z5z, z6z, ah, z7z, z8z, au]
    exact rest w1 g F (c0.trans c1) b21 I fun k hk => by have := hF k hk; omega
  | true =>
    simp -implicitDefEqProofs only [tup0, tup1, ad, ax, am, aM, aN, aQ, aR, av, ak, aJ, aK, aS, aT, ay, ap, aU, aV, aX, aY, ae, ac, aj, ag, z1z, z2z, z3z, z4z, aH, af, aD, aB, aC, aA, aE, aG, z5z, z6z, ah, z7z, z8z, au, ld_cf b21]
    refine (c_mLoose c w1).mono ?_
    rintro v w2 ⟨c2, hv⟩
    rcases hv with ⟨hm', _⟩ | ⟨_, g2, F2, rfl, I2, hF2⟩
    · rw [hm] at hm'; cases hm'
    simp -implicitDefEqProofs only [tup0, tup1, ad, ax, am, aM, aN, aQ, aR, av, ak, aJ, aK, aS, aT, ay, ap, aU, aV, aX, aY, ae, ac, aj, ag, z1z, z2z, z3z, z4z, aH, af, aD, aB, aC, aA, aE, aG, z5z, z6z, ah, z7z, z8z, au]
    exact rest w2 g2 F2 (c0.trans (c1.trans c2)) (c2.at b21 (by simp)) I2 fun k hk => by have := hF2 k hk; omega
end
end Go.Proofs.Ytgamnncehjcdiaa

namespace Go.Proofs.Ytgamnncehjcdiaa
open Go Ev Go.RowKit

structure Wn (m : MdV) (K : Nat) : Prop where
  gk : ∀ p ∈ m.slots, 0 ≤ p.2 ∧ p.2 ≤ K
  gn : ∀ r ∈ m.rgs, 0 ≤ r.nm.1 ∧ r.nm.1 < m.slots.length ∧ 1 ≤ r.nm.2 ∧ ∀ p, m.slots[r.nm.1.toNat]? = some p → r.nm.2 ≤ p.2
  nd : (m.rgs.map (·.nm)).Nodup
  lv : ∀ (i : Nat) (p : NmV), m.slots[i]? = some p → p.1 = 1 → ∃ k, findR m.rgs ((i : Int), p.2) = some k
  cw : m.c.1 = m.hands.length
  cs : m.c.2.2.2.1 = m.slots.length
theorem Wn.mono {m : MdV} {K K' : Nat} (h : Wn m K) (hk : K ≤ K') : Wn m K' := ⟨fun p hp => by have := h.gk p hp; omega, h.gn, h.nd, h.lv, h.cw, h.cs⟩
theorem wn_new {c : CfV} (h : mayC c = true) (l : Bool) : Wn (newM c l) 0 := by
  obtain ⟨h1, h2, h3, h4⟩ := may_cf h
  refine ⟨fun p hp => ?_, (fun r hr => by cases hr), List.nodup_nil, fun i p hp h1 => ?_, by simp only [newM, List.length_replicate]; omega, by simp only [newM, List.length_replicate]; omega⟩
  · rw [List.eq_of_mem_replicate hp]; exact ⟨Int.le_refl _, Int.le_refl _⟩
  · have := List.eq_of_mem_replicate (List.mem_of_getElem? hp)
    rw [this] at h1; cases h1
theorem findR_set {L : List RgV} {i : Nat} {r r' : RgV} (hi : L[i]? = some r) (hn : r'.nm = r.nm) (n : NmV) : findR (L.set i r') n = findR L n := by
  unfold findR
  have : ∀ (M : List RgV) (i : Nat), M[i]? = some r → (M.set i r').findIdx? (fun x => decide (x.nm = n)) = M.findIdx? (fun x => decide (x.nm = n)) := by
    intro M
    induction M with
    | nil => intro i h; simp at h
    | cons x M ih =>
      intro i h
      cases i with
      | zero =>
        simp at h; subst h
        rw [List.set_cons_zero, List.findIdx?_cons, List.findIdx?_cons, hn]
      | succ i =>
        rw [List.set_cons_succ, List.findIdx?_cons, List.findIdx?_cons, ih i (by simpa using h)]
  exact this L i hi
theorem Wn.setRg {m : MdV} {K : Nat} (h : Wn m K) {i : Nat} {r r' : RgV} (hi : m.rgs[i]? = some r) (hn : r'.nm = r.nm) : Wn { m with rgs := m.rgs.set i r' } K := by
  refine ⟨h.gk, fun x hx => ?_, ?_, fun j p hp h1 => ?_, h.cw, h.cs⟩
  · rcases List.mem_or_eq_of_mem_set hx with h1 | h1
    · exact h.gn x h1
    · rw [h1, hn]; exact h.gn r (List.mem_of_getElem? hi)
  · have : (m.rgs.set i r').map (·.nm) = m.rgs.map (·.nm) := by
      rw [List.map_set, hn]
      exact set_same (by rw [List.getElem?_map, hi]; rfl)
    rw [this]; exact h.nd
  · obtain ⟨k, hk⟩ := h.lv j p hp h1
    exact ⟨k, by rw [findR_set hi hn]; exact hk⟩
theorem Wn.setHd {m : MdV} {K : Nat} (h : Wn m K) (w : Int) (d : HdV) : Wn (setHd m w d) K := ⟨h.gk, h.gn, h.nd, h.lv, by simp only [Go.Proofs.Ytgamnncehjcdiaa.setHd, List.length_set]; exact h.cw, h.cs⟩
theorem Wn.setSl {m : MdV} {K : Nat} (h : Wn m K) {i : Nat} {p : NmV} (hp : m.slots[i]? = some p) {v : Int} (hv : v ≠ 1) : Wn { m with slots := m.slots.set i (v, p.2) } K := by
  have hpm := h.gk p (List.mem_of_getElem? hp)
  refine ⟨mem_set h.gk hpm, fun r hr => ?_, h.nd, fun j q hq h1 => ?_, h.cw, by simp only [List.length_set]; exact h.cs⟩
  · obtain ⟨a, b, c, d⟩ := h.gn r hr
    refine ⟨a, by simp only [List.length_set]; exact b, c, fun q hq => ?_⟩
    simp only at hq
    rw [List.getElem?_set] at hq
    split at hq
    · rename_i e
      split at hq
      · cases hq; exact d p (by rw [← e]; exact hp)
      · cases hq
    · exact d q hq
  · simp only at hq
    rw [List.getElem?_set] at hq
    split at hq
    · split at hq
      · cases hq; exact absurd h1 hv
      · cases hq
    · exact h.lv j q hq h1
theorem Wn.setWord {m : MdV} {K : Nat} (h : Wn m K) (a : HnV) (n x : Int) : Wn (setWordV m a n x) K := by
  unfold setWordV
  split
  · split
    · rename_i r hr
      exact h.setRg hr rfl
    · exact h
  · exact h
theorem Wn.back {m : MdV} {K : Nat} (h : Wn m K) (n : Int) : Wn (backV m n).2 K := by
  unfold backV
  split
  · split
    · rename_i p hp
      split
      · exact h.setSl hp (by decide)
      · exact h
    · exact h
  · exact h
theorem Wn.does {m : MdV} {K : Nat} (h : Wn m K) (w : Int) (o : OpV) (a : HnV) : Wn (doesV m w o a) K := by
  unfold doesV
  split
  · exact h
  · split
    · exact h.setHd _ _
    split
    · exact h.setHd _ _
    split
    · split
      · exact h
      · exact h.setHd _ _
    split
    · exact h.setWord _ _ _
    split
    · exact h.setWord _ _ _
    split
    · split
      · exact h.setWord _ _ _
      · exact h
    split
    · split
      · rename_i p hp
        refine h.setSl hp ?_
        split <;> decide
      · exact h
    · exact h
theorem findR_app_left {L : List RgV} {x : RgV} {n : NmV} {k : Nat} (h : findR L n = some k) : findR (L ++ [x]) n = some k := by
  unfold findR at h ⊢
  rw [List.findIdx?_append, h]; rfl
theorem findR_app_new {L : List RgV} {x : RgV} (h : findR L x.nm = none) : findR (L ++ [x]) x.nm = some L.length := by
  unfold findR at h ⊢
  rw [List.findIdx?_append, h]
  simp [List.findIdx?_cons]
theorem Wn.fresh {m : MdV} {K : Nat} (h : Wn m K) {i : Nat} {p : NmV} (hp : m.slots[i]? = some p) (r : RgV) (hr : r ∈ m.rgs) : r.nm ≠ ((i : Int), p.2 + 1) := fun e => by
  obtain ⟨a, b, c, d⟩ := h.gn r hr
  rw [e] at d
  have := d p (by rw [Int.toNat_natCast]; exact hp)
  simp only at this; omega
theorem Wn.creates {m : MdV} {K : Nat} (h : Wn m K) (hK : K ≤ 1000000) (cls : Int) (r : RsV) : Wn (createsV m cls r).2 (K + 1) := by
  have h1 := h.mono (Nat.le_succ K)
  unfold createsV
  split
  · exact h1
  split
  · rename_i hs
    split
    · rename_i p hp
      split
      · exact h1
      split
      · have hpm := h.gk p (List.mem_of_getElem? hp)
        have hl : laterV p.2 = p.2 + 1 := by rw [laterV, if_pos (by omega)]
        have hnn : ((r.2.1.1.toNat : Nat) : Int) = r.2.1.1 := by omega
        have hfr : findR m.rgs (r.2.1.1, p.2 + 1) = none := findR_none fun j x hx => by
          have := h.fresh hp x (List.mem_of_getElem? hx)
          rw [hnn] at this; exact this
        rw [hl]
        refine ⟨mem_set h1.gk (by simp only; omega), fun x hx => ?_, ?_, fun j q hq hq1 => ?_, h.cw, by simp only [List.length_set]; exact h.cs⟩
        · simp only [List.length_set]
          rcases List.mem_append.1 hx with hx | hx
          · obtain ⟨a, b, c, d⟩ := h.gn x hx
            refine ⟨a, b, c, fun q hq => ?_⟩
            rw [List.getElem?_set] at hq
            split at hq
            · rename_i e
              split at hq
              · cases hq
                have := d p (by rw [← e]; exact hp)
                simp only; omega
              · cases hq
            · exact d q hq
          · rw [List.mem_singleton.1 hx]
            refine ⟨hs.1, hs.2, by simp only; omega, fun q hq => ?_⟩
            simp only at hq
            rw [List.getElem?_set, if_pos rfl] at hq
            split at hq
            · cases hq; exact Int.le_refl _
            · cases hq
        · rw [List.map_append, List.nodup_append]
          refine ⟨h.nd, by simp, fun a ha b hb => ?_⟩
          obtain ⟨x, hx, rfl⟩ := List.mem_map.1 ha
          rw [List.map_cons, List.map_nil, List.mem_singleton] at hb
          rw [hb]
          have := h.fresh hp x hx
          rw [hnn] at this; exact this
        · simp only at hq
          rw [List.getElem?_set] at hq
          split at hq
          · rename_i e
            split at hq
            · cases hq
              rw [← e, hnn]
              exact ⟨_, findR_app_new (x := ⟨(r.2.1.1, p.2 + 1), cls, 0, [], [], []⟩) hfr⟩
            · cases hq
          · obtain ⟨k, hk⟩ := h.lv j q hq hq1
            exact ⟨k, findR_app_left hk⟩
      · exact h1
    · exact h1
  · exact h1
theorem Wn.gives {m : MdV} {K : Nat} (h : Wn m K) (n : Int) (a : HnV) (r : RsV) : Wn (givesV m n a r).2 (K + 1) := by
  have h1 := h.mono (Nat.le_succ K)
  unfold givesV
  split
  · exact h1
  · split
    · exact h1
    · rename_i i _ x hx
      simp only
      split
      · exact h1
      split
      · exact h1
      split
      · refine h1.setRg hx ?_
        unfold growV
        split <;> rfl
      · exact h1
theorem Wn.doV {m : MdV} {K : Nat} (h : Wn m K) (hK : K ≤ 1000000) (w : Int) (o : OpV) (a : HnV) (r : RsV) : Wn (doV m w o a r).2 (K + 1) := by
  have h1 := h.mono (Nat.le_succ K)
  unfold Go.Proofs.Ytgamnncehjcdiaa.doV
  split
  · exact h1
  split
  · split
    · simp only
      split
      · exact (h.does _ _ _).mono (Nat.le_succ K)
      · exact h1
    · exact h1
  split
  · exact h.creates hK _ _
  · exact h.gives _ _ _
section
variable {m : MdV} {K : Nat}
theorem findX_rf (m : MdV) (n : NmV) : findX (toRf m).rgs n = findR m.rgs n := by
  unfold findX toRf
  simp only [List.map_map]
  rw [show (Prod.fst ∘ fun r : RgV => (r, isLv m r.nm)) = id from rfl, List.map_id]
theorem rgs_rf (m : MdV) (i : Nat) : (toRf m).rgs[i]? = (m.rgs[i]?).map fun r => (r, isLv m r.nm) := by
  simp [toRf, List.getElem?_map]
theorem good_rfv (W : Wf m K) (k : Int) (a : HnV) : goodX (toRf m) k a = (if ofK k = 0 then true else knownV m a (ofK k)) := by
  have hcase : ofK k = 0 ∨ ofK k = 1 ∨ ofK k = 2 ∨ ofK k = 3 := by
    unfold ofK; repeat' split
    all_goals omega
  have kx : knownX (toRf m) a = match findR m.rgs (nmOf a) with
    | none => (false, false)
    | some i => (decide (a.2.2.1 = 0 ∧ a.2.2.2.1 = 0 ∧ a.2.2.2.2 = 0), match m.rgs[i]? with | some r => decide (a ∈ r.objs) | none => false) := by
    unfold knownX
    rw [findX_rf]
    cases findR m.rgs (nmOf a) with
    | none => rfl
    | some i =>
      simp only [rgs_rf]
      cases m.rgs[i]? <;> rfl
  have kv : ∀ of, knownV m a of = match findR m.rgs (nmOf a) with
    | none => false
    | some i => if a.2.2.2.2 = 0 then decide (a.2.2.1 = 0) && (decide (a.2.2.2.1 = 0) && decide (of ≠ 2)) else decide (of ≠ 1) && (match m.rgs[i]? with | some r => decide (a ∈ r.objs) | none => false) := fun of => rfl
  unfold goodX
  rw [kx]
  cases hf : findR m.rgs (nmOf a) with
  | none =>
    rcases hcase with h | h | h | h <;> rw [h] <;> simp [kv, hf]
  | some i =>
    obtain ⟨r, hr, _⟩ := findR_at hf
    have hob : a.2.2.2.2 = 0 → a ∉ r.objs := fun h0 hm => by
      have := ((W.rg r (List.mem_of_getElem? hr)).ob a hm).2.2.1
      omega
    simp only [hr]
    rcases hcase with h | h | h | h <;> rw [h]
    · simp
    · simp only [if_true, kv, hf, hr]
      by_cases h0 : a.2.2.2.2 = 0
      · simp [h0]
      · simp [h0]
    · simp only [show ¬ (2 : Int) = 1 by decide, show ¬ (2 : Int) = 0 by decide, if_true, if_false, kv, hf, hr]
      by_cases h0 : a.2.2.2.2 = 0
      · rw [if_pos h0, decide_eq_false (hob h0)]; simp
      · rw [if_neg h0]; simp
    · simp only [show ¬ (3 : Int) = 1 by decide, show ¬ (3 : Int) = 2 by decide, show ¬ (3 : Int) = 0 by decide, if_true, if_false, kv, hf, hr]
      by_cases h0 : a.2.2.2.2 = 0
      · rw [if_pos h0, decide_eq_false (hob h0)]; simp [h0]
      · rw [if_neg h0]; simp [h0]
theorem rf_live (m : MdV) (n : Int) : liveX (toRf m) n = liveV m n := by
  unfold liveX liveV
  have hl : (toRf m).state.length = m.slots.length := by simp [toRf]
  rw [hl]
  by_cases h : 0 ≤ n ∧ n < m.slots.length
  · rw [if_pos h, if_pos h]
    obtain ⟨p, hp⟩ : ∃ p, m.slots[n.toNat]? = some p := ⟨_, List.getElem?_eq_getElem (by omega)⟩
    have e1 : (toRf m).state.getD n.toNat 0 = p.1 := by rw [List.getD_eq_getElem?_getD]; simp [toRf, hp]
    have e2 : (toRf m).gen.getD n.toNat 0 = p.2 := by rw [List.getD_eq_getElem?_getD]; simp [toRf, hp]
    rw [e1, e2, hp]
  · rw [if_neg h, if_neg h]
theorem rf_spare (m : MdV) : spareI (toRf m).state = spareN m.slots := by
  rw [spareI, spareN]
  show ((m.slots.map (·.1)).filter _).length = _
  rw [List.filter_map, List.length_map]; rfl
theorem rf_taken (m : MdV) (ch : Int) : takenX (toRf m).rgs ch = takenV m ch := by
  unfold takenX takenV
  show ((m.rgs.map _).any _) = _
  rw [List.any_map]; rfl
theorem rf_back (m : MdV) (n : Int) : backX (toRf m) n = ((backV m n).1, toRf (backV m n).2) := by
  unfold backX backV
  have hl : (toRf m).state.length = m.slots.length := by simp [toRf]
  rw [hl]
  by_cases h : 0 ≤ n ∧ n < m.slots.length
  · obtain ⟨p, hp⟩ : ∃ p, m.slots[n.toNat]? = some p := ⟨_, List.getElem?_eq_getElem (by omega)⟩
    have e1 : (toRf m).state.getD n.toNat 0 = p.1 := by rw [List.getD_eq_getElem?_getD]; simp [toRf, hp]
    rw [if_pos h, e1, hp]
    by_cases h2 : p.1 = 2
    · rw [if_pos ⟨h.1, h.2, h2⟩]
      simp only [if_pos h2]
      congr 1
      have lvE : ∀ q : NmV, isLv { m with slots := m.slots.set n.toNat (0, p.2) } q = isLv m q := fun q => by
        unfold isLv
        simp only [List.length_set]
        congr 1
        by_cases hq : n.toNat = q.1.toNat
        · have a1 : m.slots[q.1.toNat]? = some p := by rw [← hq]; exact hp
          have a2 : (m.slots.set n.toNat (0, p.2))[q.1.toNat]? = some (0, p.2) := by rw [← hq, List.getElem?_set, if_pos rfl, if_pos (List.getElem?_eq_some_iff.1 hp).1]
          rw [decide_eq_false (by rw [a2]; intro e; have := congrArg Prod.fst (Option.some.inj e); simp at this), decide_eq_false (by rw [a1]; intro e; have := congrArg Prod.fst (Option.some.inj e); simp only at this; omega)]
        · have : (m.slots.set n.toNat (0, p.2))[q.1.toNat]? = m.slots[q.1.toNat]? := by rw [List.getElem?_set, if_neg hq]
          rw [this]
      unfold toRf
      simp only [List.map_set, lvE]
      congr 1
      rw [set_same]
      rw [List.getElem?_map, hp]; rfl
    · rw [if_neg (fun h' => h2 h'.2.2)]
      simp only [if_neg h2]
  · rw [if_neg (fun h' => h ⟨h'.1, h'.2.1⟩), if_neg h]
end
end Go.Proofs.Ytgamnncehjcdiaa

namespace Go.Proofs.Ytgamnncehjcdiaa
open Go Ev Go.RowKit

section
variable {W w : World} {g g6 g7 g8 g10 : Nat} {x : RfV} {m : MdV} {F : Fp} {K : Nat} {o : OpV} {h : HnV} {d : HdV}
theorem RfI.word (I : RfI w g x F) {i : Nat} {p : RgV × Bool} (hi : x.rgs[i]? = some p) {k : Nat} {L : List Int} (hL : p.1.words[k]? = some L) {j : Nat} {y : Int} (hj : L[j]? = some y) :
    ∃ b c bw cw g2 c2, ldC (hp w g) (0 + 9) = some (.slice (some ⟨b, 0, none⟩) x.rgs.length c) ∧ ldC (hp w b) (i * 8 + 6) = some (.slice (some ⟨bw, 0, none⟩) p.1.words.length cw) ∧ ldC (hp w bw) k = some (.slice (some ⟨g2, 0, none⟩) L.length c2) ∧ ldC (hp w g2) j = some (.int .u64 y) ∧
      ∀ z, okC (hp w g2) (j + 1) = true ∧ ∃ F', RfI (put w g2 ((getC (hp w g2)).setIfInBounds j (.int .u64 z)) (getE (hp w g2))) g { x with rgs := x.rgs.set i ({ p.1 with words := p.1.words.set k (L.set j z) }, p.2) } F' ∧ UpdP F F' w (put w g2 ((getC (hp w g2)).setIfInBounds j (.int .u64 z)) (getE (hp w g2))) := by
  have hP0 : (x.rgs.flatMap rrT)[i * 8 + 6]? = some (wordsT p.1.words) := flatM_get rrT_len x.rgs i p hi 6 (by omega)
  obtain ⟨b, c, v, Fk, hl, hbg, hFb, hsub, _, _, hld, hP, hres, _⟩ := isAt.row I (cf x) (k := 9) (e' := 158) (z := 8) (n := x.rgs.length) (Qs := x.rgs.flatMap rrT) rfl (good_rrL x.rgs) hP0
  have hPw : (p.1.words.map wordT)[k]? = some (wordT L) := by rw [List.getElem?_map, hL]; rfl
  obtain ⟨bw, cw, v2, Fk2, hx2, _, _, _, hld2, hP2, hres2, _⟩ := isRow.cell hP (fun P hP => by obtain ⟨l, _, rfl⟩ := List.mem_map.1 hP; exact good_word l) hPw
  have hPu : ((u64s L).map isV)[j]? = some (isV (.int .u64 y)) := by rw [u64s, List.map_map, List.getElem?_map, hj]; rfl
  obtain ⟨g2, c2, v3, Fk3, hx3, _, _, _, hld3, hv3, _, hst⟩ := isRow.cell hP2 (good_ints (u64s_int L)) hPu
  refine ⟨b, c, bw, cw, g2, c2, hl, by rw [← hx2]; exact hld, by rw [← hx3]; exact hld2, by rw [hld3, hv3.1], fun z => ?_⟩
  obtain ⟨ok, F1, hrow, hupd⟩ := hst w none' (isV (.int .u64 z)) (.int .u64 z) (UpdP.none hv3.2 w) (good_int _ _) ⟨rfl, fun _ h => h⟩
  have hset : ((u64s L).map isV).set j (isV (.int .u64 z)) = (u64s (L.set j z)).map isV := by simp [u64s, List.map_set]
  rw [hset] at hrow
  have hrow' : wordT (L.set j z) (put w g2 ((getC (hp w g2)).setIfInBounds j (.int .u64 z)) (getE (hp w g2))) F1 v2 := by rw [wordT, List.length_set]; exact hrow
  obtain ⟨F2, hrow2, hupd2⟩ := hres2 _ F1 (wordT (L.set j z)) hupd hrow'
  rw [← List.map_set] at hrow2
  have hrow2' : wordsT (p.1.words.set k (L.set j z)) (put w g2 ((getC (hp w g2)).setIfInBounds j (.int .u64 z)) (getE (hp w g2))) F2 v := by rw [wordsT, List.length_set]; exact hrow2
  obtain ⟨F3, h1, h2⟩ := hres _ F2 (wordsT (p.1.words.set k (L.set j z))) hupd2 hrow2'
  rw [flatM_setP rrT_len (x' := ({ p.1 with words := p.1.words.set k (L.set j z) }, p.2)) (by omega) rfl hi] at h1
  have e : rrsT (x.rgs.set i ({ p.1 with words := p.1.words.set k (L.set j z) }, p.2)) = isRow 158 8 x.rgs.length ((x.rgs.set i ({ p.1 with words := p.1.words.set k (L.set j z) }, p.2)).flatMap rrT) := by rw [rrsT, List.length_set]
  rw [← e] at h1
  exact ⟨ok, F3, h1, h2⟩
theorem ObjAt.rf {i : Nat} {r : RgV} {k : Nat} {L : List Int} {j : Nat} {n : Int} (O : ObjAt m h n i r k L j) : (toRf m).rgs[i]? = some (r, isLv m r.nm) := by rw [rgs_rf, O.ri]; rfl
theorem hands_rf {n : Int} (hd : m.hands[n.toNat]? = some d) : (toRf m).holds[n.toNat]? = some d.holds ∧ (toRf m).depth[n.toNat]? = some d.depth := by simp [toRf, hd]
theorem l_rTouch2 {L : World → Prop} (hc : Chg [] W w) {c8 : Array Value} (h10 : hp w g10 = some (.cells c8 53)) (hs : c8.size = 8) (n10 : W.heap.size ≤ g10) :
    P94_2 (.pointer (some ⟨g10, 0, none⟩)) w fun v w' => v = .agg (rsC noR).toArray ∧ Chg [] W w' := by
  apply L94_2_ok
  simp -implicitDefEqProofs only [L94_2, bdr_, ad]
  rw [st_res h10 hs, bV (bv (bz h10) _ _), ad]
  exact ⟨rfl, hc.put (.inr n10) _ _⟩
set_option maxHeartbeats 1000000 in
theorem l_rTouch0 (hc : Chg [] W w) {c8 : Array Value} (h10 : hp w g10 = some (.cells c8 53)) (hs : c8.size = 8) (n10 : W.heap.size ≤ g10) (h8 : hp w g8 = some (.cells (opC o).toArray 40)) (h6 : 6 ≤ o.1) (h9 : o.1 ≤ 9) :
    P94_0 (.pointer (some ⟨g8, 0, none⟩)) (.pointer (some ⟨g10, 0, none⟩)) (.int .u64 (wordV m h o.2.2.2.1)) w fun v w' => v = .agg (rsC (mustB m o h)).toArray ∧ Chg [] W w' := by
  apply L94_0_ok
  have one : ∀ t : Bool, t = decide (o.1 = 6 ∨ o.1 = 8) → P94_1 (.pointer (some ⟨g8, 0, none⟩)) (.pointer (some ⟨g10, 0, none⟩)) (.int .u64 (wordV m h o.2.2.2.1)) (.int .i64 o.1) (.bool t) w fun v w' => v = .agg (rsC (mustB m o h)).toArray ∧ Chg [] W w' := by
    intro t ht
    apply L94_1_ok
    by_cases k68 : o.1 = 6 ∨ o.1 = 8
    · have ht' : t = true := by rw [ht]; exact decide_eq_true k68
      subst ht'
      have e : mustB m o h = (0, noH, 0, wordV m h o.2.2.2.1) := by rw [mustB, if_pos k68]
      have hb : pureRun Try.prog (Instr.build 53 #[(3, .int .u64 (wordV m h o.2.2.2.1))]) = some (.agg (rsC (0, noH, 0, wordV m h o.2.2.2.1)).toArray) := bd_53_3
      simp -implicitDefEqProofs only [L94_1, ad, ax, am, aM, aN, aQ, aR, av, ak, aJ, aK, aS, aT, ay, ap, aU, aV, aX, aY, ae, ac, aj, ag, z1z, z2z, z3z, z4z, aH, af, aD, aB, aC, aA, aE, aG, z5z, z6z, ah, z7z, z8z, au, hb]
      rw [st_res h10 hs, bV (bv (bz h10) _ _), ad, e]
      exact ⟨rfl, hc.put (.inr n10) _ _⟩
    have ht' : t = false := by rw [ht]; exact decide_eq_false k68
    subst ht'
    by_cases k9 : o.1 = 9
    · have q9 : (o.1 == 9) = true := by rw [k9]; rfl
      by_cases hv : wordV m h o.2.2.2.1 = o.2.2.2.2.1
      · have ev : (wordV m h o.2.2.2.1 == o.2.2.2.2.1) = true := by rw [hv]; exact beq_self_eq_true _
        have e : mustB m o h = (0, noH, 1, 0) := by rw [mustB, if_neg k68, if_pos k9, if_pos hv]
        have hb : pureRun Try.prog (Instr.build 53 #[(2, .int .i64 1)]) = some (.agg (rsC (0, noH, 1, 0)).toArray) := bd_53_2
        simp -implicitDefEqProofs only [L94_1, ad, ax, am, aM, aN, aQ, aR, av, ak, aJ, aK, aS, aT, ay, ap, aU, aV, aX, aY, ae, ac, aj, ag, z1z, z2z, z3z, z4z, aH, af, aD, aB, aC, aA, aE, aG, z5z, z6z, ah, z7z, z8z, au, q9, fa_40_4, ld_38, h8, op_4, ev, hb]
        rw [st_res h10 hs, bV (bv (bz h10) _ _), ad, e]
        exact ⟨rfl, hc.put (.inr n10) _ _⟩
      · have e : mustB m o h = noR := by rw [mustB, if_neg k68, if_pos k9, if_neg hv]; rfl
        simp -implicitDefEqProofs only [L94_1, ad, ax, am, aM, aN, aQ, aR, av, ak, aJ, aK, aS, aT, ay, ap, aU, aV, aX, aY, ae, ac, aj, ag, z1z, z2z, z3z, z4z, aH, af, aD, aB, aC, aA, aE, aG, z5z, z6z, ah, z7z, z8z, au, q9, fa_40_4, ld_38, h8, op_4, eqf hv]
        rw [e]
        exact l_rTouch2 (L := fun _ => True) hc h10 hs n10
    · have e : mustB m o h = noR := by rw [mustB, if_neg k68, if_neg k9, if_neg (by omega)]
      simp -implicitDefEqProofs only [L94_1, ad, ax, am, aM, aN, aQ, aR, av, ak, aJ, aK, aS, aT, ay, ap, aU, aV, aX, aY, ae, ac, aj, ag, z1z, z2z, z3z, z4z, aH, af, aD, aB, aC, aA, aE, aG, z5z, z6z, ah, z7z, z8z, au, eqf k9]
      rw [e]
      exact l_rTouch2 (L := fun _ => True) hc h10 hs n10
  by_cases k6 : o.1 = 6
  · have q : (o.1 == 6) = true := by rw [k6]; rfl
    have f := one true (by rw [k6]; rfl)
    simp -implicitDefEqProofs only [L94_0, ad, ax, am, aM, aN, aQ, aR, av, ak, aJ, aK, aS, aT, ay, ap, aU, aV, aX, aY, ae, ac, aj, ag, z1z, z2z, z3z, z4z, aH, af, aD, aB, aC, aA, aE, aG, z5z, z6z, ah, z7z, z8z, au, bq, bj, h8, bD, q]
    exact f
  · have f := one (o.1 == 8) (by
      by_cases k8 : o.1 = 8
      · rw [k8]; rfl
      · rw [eqf k8]; exact (decide_eq_false (by omega)).symm)
    simp -implicitDefEqProofs only [L94_0, ad, ax, am, aM, aN, aQ, aR, av, ak, aJ, aK, aS, aT, ay, ap, aU, aV, aX, aY, ae, ac, aj, ag, z1z, z2z, z3z, z4z, aH, af, aD, aB, aC, aA, aE, aG, z5z, z6z, ah, z7z, z8z, au, bq, bj, h8, bD, eqf k6]
    exact f
def touchV (m : MdV) (d : HdV) (o : OpV) (h : HnV) : RsV := if holdsV d h = false then codeR 4 else if h.2.2.2.2 ≤ o.2.2.2.1 then codeR 5 else mustB m o h
set_option maxHeartbeats 4000000 in
theorem c_rTouch (I : RfI w g (toRf m) F) (Wm : Wf m K) (hK : K ≤ 1000000) {n : Int} (n0 : 0 ≤ n) (hd : m.hands[n.toNat]? = some d) (hk : knownV m h 2 = true) (o0 : 0 ≤ o.2.2.2.1) (o6 : 6 ≤ o.1) (o9 : o.1 ≤ 9) {i : Nat} (hf : findR m.rgs (nmOf h) = some i) :
    CallR Try.prog 94 [.pointer (some ⟨g, 0, none⟩), .int .i64 n, .int .i64 i, .agg (opC o).toArray, .agg (hnC h).toArray] w fun v w' => v = .agg (rsC (touchV m d o h)).toArray ∧ Chg [] w w' := by
  apply F94_ok
  simp -implicitDefEqProofs only [F94, bE, bA, al_53, bf]
  generalize hw : ((w.alloc (.cells (opC o).toArray 40)).alloc _).alloc _ = w1
  have c1 : Chg [] w w1 := by rw [← hw]; exact (((Chg.refl _ _).alloc _).alloc _).alloc _
  have b8 : hp w1 w.heap.size = some (.cells (opC o).toArray 40) := by rw [← hw, bc, bf, bf, if_neg (by omega), bc, bf, if_neg (by omega), bc, if_pos rfl]
  have b9 : hp w1 (w.heap.size + 1) = some (.cells (hnC h).toArray 51) := by rw [← hw, bc, bf, bf, if_neg (by omega), bc, bf, if_pos rfl]
  have b10 : hp w1 (w.heap.size + 1 + 1) = some (.cells (rsC noR).toArray 53) := by rw [← hw, bc, bf, bf, if_pos rfl]; rfl
  clear hw
  obtain ⟨s, gn, r, dd, hh, R⟩ := (I.keep c1).rd
  have e0 : (hnC h).toArray[0 + 0]? = some (.int .i64 h.1) := rfl
  have e1 : (hnC h).toArray[0 + 1]? = some (.int .i64 h.2.1) := rfl
  have e2 : (hnC h).toArray[0 + 2]? = some (.int .i64 h.2.2.1) := rfl
  have e3 : (hnC h).toArray[0 + 3]? = some (.int .i64 h.2.2.2.1) := rfl
  have e4 : (hnC h).toArray[0 + 4]? = some (.int .i64 h.2.2.2.2) := rfl
  have hD := Wm.hd d (List.mem_of_getElem? hd)
  simp -implicitDefEqProofs only [ad, ax, am, aM, aN, aQ, aR, av, ak, aJ, aK, aS, aT, ay, ap, aU, aV, aX, aY, ae, ac, aj, ag, z1z, z2z, z3z, z4z, aH, af, aD, aB, aC, aA, aE, aG, z5z, z6z, ah, z7z, z8z, au, bX, fa_51_1, bj, b9, e0, e1]
  refine (c_rHas R n0 (hands_rf hd).1 (by omega) (nmOf h)).step ?_
  have ht : decide (nmOf h ∈ d.holds) = holdsV d h := rfl
  rw [ht]
  cases hh2 : holdsV d h with
  | false =>
    have tv : touchV m d o h = codeR 4 := by rw [touchV, if_pos hh2]
    simp -implicitDefEqProofs only [ad, ax, am, aM, aN, aQ, aR, av, ak, aJ, aK, aS, aT, ay, ap, aU, aV, aX, aY, ae, ac, aj, ag, z1z, z2z, z3z, z4z, aH, af, aD, aB, aC, aA, aE, aG, z5z, z6z, ah, z7z, z8z, au, bdr_0]
    rw [st_res b10 rfl, bV (bv (bz b10) _ _), ad, tv]
    exact ⟨rfl, c1.put (.inr (by omega)) _ _⟩
  | true =>
    by_cases n1 : h.2.2.2.2 ≤ o.2.2.2.1
    · have tv : touchV m d o h = codeR 5 := by rw [touchV, if_neg (by rw [hh2]; simp), if_pos n1]
      simp -implicitDefEqProofs only [ad, ax, am, aM, aN, aQ, aR, av, ak, aJ, aK, aS, aT, ay, ap, aU, aV, aX, aY, ae, ac, aj, ag, z1z, z2z, z3z, z4z, aH, af, aD, aB, aC, aA, aE, aG, z5z, z6z, ah, z7z, z8z, au, bT, fa_51_4, bj, b8, b9, op_3, e4, aA, ge_iff_le, n1, bdr_0]
      rw [st_res b10 rfl, bV (bv (bz b10) _ _), ad, tv]
      exact ⟨rfl, c1.put (.inr (by omega)) _ _⟩
    have tv : touchV m d o h = mustB m o h := by rw [touchV, if_neg (by rw [hh2]; simp), if_neg n1]
    rw [tv]
    obtain ⟨i', rg, k, L, j, O⟩ := obj_at Wm hk o0 (by omega)
    have hii : i' = i := by have := O.fi; rw [hf] at this; exact (Option.some.inj this).symm
    subst hii
    have cd : Chg [] w1 w1.drew := (Chg.refl _ _).drew
    have W1 := Wm.w1
    have W2 := Wm.w2
    have all : ∀ w2, Chg [] w1 w2 → ∃ b c bw cw g2 c2, ldC (hp w2 g) (0 + 9) = some (.slice (some ⟨b, 0, none⟩) (toRf m).rgs.length c) ∧ ldC (hp w2 b) (i' * 8 + 6) = some (.slice (some ⟨bw, 0, none⟩) rg.words.length cw) ∧ ldC (hp w2 bw) k = some (.slice (some ⟨g2, 0, none⟩) L.length c2) ∧ ldC (hp w2 g2) j = some (.int .u64 (wordV m h o.2.2.2.1)) := fun w2 c2 => by
      obtain ⟨b, c, bw, cw, g2, c2', p1, p2, p3, p4, _⟩ := (I.keep (c1.trans c2)).word O.rf O.wk O.val
      exact ⟨b, c, bw, cw, g2, c2', p1, p2, p3, p4⟩
    obtain ⟨b, c, bw, cw, g2, c2, p1, p2, p3, p4⟩ := all w1 (Chg.refl _ _)
    obtain ⟨Fr, hFr⟩ := (R.keep cd).rT
    obtain ⟨b', c', hx, cv, wv, ov, Q⟩ := rr_at hFr O.rf
    have hrl := R.rl
    rw [p1, hx] at hrl
    cases hrl
    obtain ⟨A, cc, rfl, hRc⟩ := ints_sh Q.cT
    have hil : i' < (toRf m).rgs.length := (List.getElem?_eq_some_iff.1 O.rf).1
    have ia := ia_151 (b := b) (p := 0) (n := (toRf m).rgs.length) (c := c) (j := .i64) (i := (i' : Int)) (by omega) (by omega)
    rw [Int.toNat_natCast, Nat.zero_add] at ia
    have hlw := (List.getElem?_eq_some_iff.1 O.wk).1
    have iaw := ia_142 (b := bw) (p := 0) (n := rg.words.length) (c := cw) (j := .i64) (i := (k : Int)) (by omega) (by omega)
    rw [Int.toNat_natCast, Nat.zero_add, Nat.mul_one] at iaw
    have hjl := O.jl
    have hwl := O.wl
    have iau := ia_177 (b := g2) (p := 0) (n := L.length) (c := c2) (j := .i64) (i := (j : Int)) (by omega) (by omega)
    rw [Int.toNat_natCast, Nat.zero_add, Nat.mul_one] at iau
    have hcl : rg.chunks.length ≤ 1000000 := Nat.le_trans (Wm.rg rg (List.mem_of_getElem? O.ri)).cl hK
    have cat := c_rAt (w := w1.drew) (p := (rg, isLv m rg.nm)) (c := cc) (wv := wv) (ov := ov) hRc hcl h.2.2.1
    rw [show ixOf (rg, isLv m rg.nm).1.chunks h.2.2.1 = (k : Int) from O.ix] at cat
    have sz := c1.size
    simp -implicitDefEqProofs only [ad, ax, am, aM, aN, aQ, aR, av, ak, aJ, aK, aS, aT, ay, ap, aU, aV, aX, aY, ae, ac, aj, ag, z1z, z2z, z3z, z4z, aH, af, aD, aB, aC, aA, aE, aG, z5z, z6z, ah, z7z, z8z, au, bT, cj, fa_51_3, fa_51_4, bK, fa_158_6, bN, ld_142, bj, b8, b9, op_3, e2, e3, e4, aA, ge_iff_le, n1, p1, p2, ia, ld_rg Q, bG, O.jn, bC (n := (j : Int)) (by omega) (by omega)]
    repeat' (with_reducible apply And.intro)
    all_goals
      refine cat.mono ?_
      rintro _ w3 ⟨rfl, c3⟩
      have c13 := cd.trans c3
      have t1 := bR c13 p1
      have t2 := bR c13 p2
      have t3 := bR c13 p3
      have t4 := bR c13 p4
      have t8 := c13.at b8 (by simp)
      have t9 := c13.at b9 (by simp)
      have t10 := c13.at b10 (by simp)
      simp -implicitDefEqProofs only [ad, ax, am, aM, aN, aQ, aR, av, ak, aJ, aK, aS, aT, ay, ap, aU, aV, aX, aY, ae, ac, aj, ag, z1z, z2z, z3z, z4z, aH, af, aD, aB, aC, aA, aE, aG, z5z, z6z, ah, z7z, z8z, au, fa_158_6, bN, ld_142, ld_177, ld_38, bj, t1, t2, t3, t4, t8, t9, op_3, e3, ia, iaw, bG, O.jn, bC (n := (j : Int)) (by omega) (by omega), iau]
      exact l_rTouch0 (c1.trans c13) t10 rfl (by omega) t8 o6 o9
end
end Go.Proofs.Ytgamnncehjcdiaa

namespace Go.Proofs.Ytgamnncehjcdiaa
open Go Ev Go.RowKit

section
variable {W w : World} {g g6 g7 g8 g10 : Nat} {m : MdV} {F : Fp} {K : Nat} {o : OpV} {h : HnV} {d : HdV} {n : Int}
theorem l_rMust1 (x : Int) (hc : Chg [] W w) {c8 : Array Value} (h8 : hp w g8 = some (.cells c8 53)) (hs : c8.size = 8) (n8 : W.heap.size ≤ g8) :
    P54_1 (.pointer (some ⟨g8, 0, none⟩)) (.int .i64 x) w fun v w' => v = .tuple #[.agg (rsC (codeR x)).toArray, .bool true] ∧ Chg [] W w' := by
  apply L54_1_ok
  simp -implicitDefEqProofs only [L54_1, bdr_0, ad]
  rw [st_res h8 hs, bV (bv (bz h8) _ _), ad]
  exact ⟨rfl, hc.put (.inr n8) _ _⟩
theorem refuses_eq (hk : ofK o.1 = 0 ∨ knownV m h (ofK o.1) = true) : refusesV m d o h = codeV m.c.2.2.1 d (holdsV d h) (staleV m h) o h.2.2.2.2 := by
  rw [refusesV, if_neg]
  rintro ⟨h1, h2⟩
  rcases hk with hk | hk
  · exact h1 hk
  · rw [hk] at h2; cases h2
theorem must_eq (hm : mayV m n o = true) (hd : m.hands[n.toNat]? = some d) : mustV m n o h = if refusesV m d o h ≠ 0 then (codeR (refusesV m d o h), true) else if o.1 = 1 ∨ o.1 = 2 then (noR, false) else (mustB m o h, true) := by
  rw [mustV, if_neg (by rw [hm]; simp), hd]
theorem rf_flag (I : RfI w g (toRf m) F) {i : Nat} {r : RgV} (hi : m.rgs[i]? = some r) : ∃ b c, ldC (hp w g) (0 + 9) = some (.slice (some ⟨b, 0, none⟩) (toRf m).rgs.length c) ∧ (∃ cv wv ov, RrR w b (i * 8) (r, isLv m r.nm) cv wv ov) ∧ i < (toRf m).rgs.length := by
  obtain ⟨s, gn, rv, dd, hh, R⟩ := I.rd
  obtain ⟨Fr, hFr⟩ := R.rT
  have hx : (toRf m).rgs[i]? = some (r, isLv m r.nm) := by rw [rgs_rf, hi]; rfl
  obtain ⟨b, c, rfl, Q⟩ := rr_at hFr hx
  exact ⟨b, c, R.rl, Q, (List.getElem?_eq_some_iff.1 hx).1⟩
theorem out_res (r : RsV) (b : Bool) {w2 : World} {P : RsV × Bool} {c8 : Array Value} (hc : Chg [] W w2) (h82 : hp w2 g8 = some (.cells c8 53)) (hs : c8.size = 8) (n8 : W.heap.size ≤ g8) (e : P = (r, b)) :
    effu Try.prog (Instr.storeAt 53 (.pointer (some ⟨g8, 0, none⟩)) (.agg (rsC r).toArray)) w2 fun w => wpB (ldv Try.prog 53 (.pointer (some ⟨g8, 0, none⟩)) w) fun r8 => Value.tuple #[r8, .bool b] = .tuple #[.agg (rsC P.1).toArray, .bool P.2] ∧ Chg [] W w := by
  rw [st_res h82 hs, bV (bv (bz h82) _ _), ad, e]
  exact ⟨rfl, hc.put (.inr n8) _ _⟩
set_option maxHeartbeats 4000000 in
theorem l_rMust0 {nn : Nat} (hc : Chg [] W w) (I : RfI w g (toRf m) F) (Wm : Wf m K) (hK : K ≤ 1000000) (h6 : hp w g6 = some (.cells (opC o).toArray 40)) (h7 : hp w g7 = some (.cells (hnC h).toArray 51)) {c8 : Array Value} (h8 : hp w g8 = some (.cells c8 53)) (hs : c8.size = 8) (n8 : W.heap.size ≤ g8)
    (hm : mayV m nn o = true) (hd : m.hands[nn]? = some d) (hk : ofK o.1 = 0 ∨ knownV m h (ofK o.1) = true) {ix : Int} (hix : ofK o.1 ≠ 0 → ∃ i, findR m.rgs (nmOf h) = some i ∧ ix = i) :
    P54_0 (.pointer (some ⟨g, 0, none⟩)) (.int .i64 nn) (.pointer (some ⟨g6, 0, none⟩)) (.pointer (some ⟨g7, 0, none⟩)) (.pointer (some ⟨g8, 0, none⟩)) (.int .i64 ix) w fun v w' => v = .tuple #[.agg (rsC (mustV m nn o h).1).toArray, .bool (mustV m nn o h).2] ∧ Chg [] W w' := by
  apply L54_0_ok
  obtain ⟨n0, n1, o0⟩ := may_n hm
  obtain ⟨k1', k12'⟩ := may_k hm
  obtain ⟨s, gn, rv, dd, hh, R⟩ := I.rd
  have cd : Chg [] w w.drew := (Chg.refl _ _).drew
  have hd' : m.hands[(nn : Int).toNat]? = some d := hd
  have me := must_eq (h := h) hm hd'
  rw [refuses_eq hk] at me
  have hD := Wm.hd d (List.mem_of_getElem? hd)
  have h6d : hp w.drew g6 = some (.cells (opC o).toArray 40) := h6
  have h8d : hp w.drew g8 = some (.cells c8 53) := h8
  have hw2 : ldC (hp w g) (0 + 0 + 2) = some (.int .i64 m.c.2.2.1) := R.c 2 (by omega)
  obtain ⟨Ad, cd', hdv, hRd⟩ := ints_sh R.dT
  have hdl := R.dl
  rw [hdv] at hdl
  have hdd := (hands_rf hd').2
  rw [Int.toNat_natCast] at hdd
  obtain ⟨qd, qd1, qd2⟩ := int_at (c := cd') hRd hdd
  have cb : ∀ x, x ≠ 0 → codeV m.c.2.2.1 d (holdsV d h) (staleV m h) o h.2.2.2.2 = x → mustV m nn o h = (codeR x, true) := fun x hx e => by rw [me, e, if_pos hx]
  have op : codeV m.c.2.2.1 d (holdsV d h) (staleV m h) o h.2.2.2.2 = 0 → o.1 = 1 ∨ o.1 = 2 → mustV m nn o h = (noR, false) := fun e hx => by rw [me, e, if_neg (by simp), if_pos hx]
  have nb : ∀ r, mustB m o h = r → codeV m.c.2.2.1 d (holdsV d h) (staleV m h) o h.2.2.2.2 = 0 → ¬ (o.1 = 1 ∨ o.1 = 2) → mustV m nn o h = (r, true) := fun r e1 e2 hx => by
    rw [me, e2, if_neg (by simp), if_neg hx, e1]
  have fin : ∀ (x : Int), mustV m nn o h = (codeR x, true) → P54_1 (.pointer (some ⟨g8, 0, none⟩)) (.int .i64 x) w fun v w' => v = .tuple #[.agg (rsC (mustV m nn o h).1).toArray, .bool (mustV m nn o h).2] ∧ Chg [] W w' := fun x e => by
    rw [e]; exact l_rMust1 x hc h8 hs n8
  by_cases k1 : o.1 = 1
  · have q : (o.1 == 1) = true := by rw [k1]; rfl
    have e := op (by rw [codeV, if_neg (by omega), if_neg (by omega), if_neg (by omega), if_neg (by omega), if_neg (by omega), if_neg (by omega)]) (.inl k1)
    simp -implicitDefEqProofs only [L54_0, ad, ax, am, aM, aN, aQ, aR, av, ak, aJ, aK, aS, aT, ay, ap, aU, aV, aX, aY, ae, ac, aj, ag, z1z, z2z, z3z, z4z, aH, af, aD, aB, aC, aA, aE, aG, z5z, z6z, ah, z7z, z8z, au, bq, bj, h6, bD, q, bdr_]
    exact out_res noR false hc h8 hs n8 e
  have flag : ofK o.1 ≠ 0 → ∃ i r b c, findR m.rgs (nmOf h) = some i ∧ ix = (i : Int) ∧ ldC (hp w g) (0 + 9) = some (.slice (some ⟨b, 0, none⟩) (toRf m).rgs.length c) ∧ pureRun Try.prog (Instr.indexAt 151 (.slice (some ⟨b, 0, none⟩) (toRf m).rgs.length c) (.int .i64 ix)) = some (.pointer (some ⟨b, i * 8, none⟩)) ∧
      m.rgs[i]? = some r ∧ ldC (hp w b) (i * 8 + 4) = some (.bool (isLv m (nmOf h))) ∧ ldC (hp w b) (i * 8 + 3) = some (.int .i64 r.off) := fun hof => by
    obtain ⟨i, hfi, rfl⟩ := hix hof
    obtain ⟨r, hri, hrn⟩ := findR_at hfi
    obtain ⟨b, c, hb, ⟨cv, wv, ov, Q⟩, hil⟩ := rf_flag I hri
    have ia := ia_151 (b := b) (p := 0) (n := (toRf m).rgs.length) (c := c) (j := .i64) (i := (i : Int)) (by omega) (by omega)
    rw [Int.toNat_natCast, Nat.zero_add] at ia
    exact ⟨i, r, b, c, hfi, rfl, hb, ia, hri, by rw [← hrn]; exact Q.c4, Q.c3⟩
  have stT : isLv m (nmOf h) = true → staleV m h = 0 := fun hl => by unfold staleV; exact if_pos hl
  have stF : isLv m (nmOf h) = false → staleV m h = 3 := fun hl => by rw [staleV, if_neg (by show ¬ isLv m (nmOf h) = true; rw [hl]; simp)]
  by_cases k2 : o.1 = 2
  · have q : (o.1 == 2) = true := by rw [k2]; rfl
    obtain ⟨i, r, b, c, hfi, rfl, hb, ia, hri, hfl, _⟩ := flag (by rw [show ofK o.1 = 1 by rw [k2]; rfl]; decide)
    have cvv : codeV m.c.2.2.1 d (holdsV d h) (staleV m h) o h.2.2.2.2 = if o.2.2.2.1 < 1 ∨ m.c.2.2.1 < o.2.2.2.1 then 5 else staleV m h := by rw [codeV, if_pos k2]
    by_cases a1 : o.2.2.2.1 < 1
    · have e := cb 5 (by decide) (by rw [cvv, if_pos (.inl a1)])
      simp -implicitDefEqProofs only [L54_0, ad, ax, am, aM, aN, aQ, aR, av, ak, aJ, aK, aS, aT, ay, ap, aU, aV, aX, aY, ae, ac, aj, ag, z1z, z2z, z3z, z4z, aH, af, aD, aB, aC, aA, aE, aG, z5z, z6z, ah, z7z, z8z, au, bq, bT, bj, h6, bD, op_3, eqf k1, q, a1, bdr_0]
      exact out_res (codeR 5) true hc.drew h8d hs n8 e
    by_cases a2 : m.c.2.2.1 < o.2.2.2.1
    · have e := cb 5 (by decide) (by rw [cvv, if_pos (.inr a2)])
      simp -implicitDefEqProofs only [L54_0, ad, ax, am, aM, aN, aQ, aR, av, ak, aJ, aK, aS, aT, ay, ap, aU, aV, aX, aY, ae, ac, aj, ag, z1z, z2z, z3z, z4z, aH, af, aD, aB, aC, aA, aE, aG, z5z, z6z, ah, z7z, z8z, au, bq, bT, bj, h6, bD, op_3, eqf k1, q, a1, cr, fa_74_2, hw2, gt_iff_lt, a2, bdr_0]
      exact out_res (codeR 5) true hc.drew h8d hs n8 e
    have cv2 : codeV m.c.2.2.1 d (holdsV d h) (staleV m h) o h.2.2.2.2 = staleV m h := by rw [cvv, if_neg (by omega)]
    cases hl : isLv m (nmOf h) with
    | true =>
      have e := op (by rw [cv2, stT hl]) (.inr k2)
      rw [hl] at hfl
      simp -implicitDefEqProofs only [L54_0, ad, ax, am, aM, aN, aQ, aR, av, ak, aJ, aK, aS, aT, ay, ap, aU, aV, aX, aY, ae, ac, aj, ag, z1z, z2z, z3z, z4z, aH, af, aD, aB, aC, aA, aE, aG, z5z, z6z, ah, z7z, z8z, au, bq, bT, bj, h6, bD, op_3, eqf k1, q, a1, cr, bK, fa_74_2, hw2, gt_iff_lt, a2, bN, hb, ia, fa_158_4, ld_4, hfl, bdr_]
      exact out_res noR false hc.drew h8d hs n8 e
    | false =>
      have e := cb 3 (by decide) (by rw [cv2, stF hl])
      rw [hl] at hfl
      simp -implicitDefEqProofs only [L54_0, ad, ax, am, aM, aN, aQ, aR, av, ak, aJ, aK, aS, aT, ay, ap, aU, aV, aX, aY, ae, ac, aj, ag, z1z, z2z, z3z, z4z, aH, af, aD, aB, aC, aA, aE, aG, z5z, z6z, ah, z7z, z8z, au, bq, bT, bj, h6, bD, op_3, eqf k1, q, a1, cr, bK, fa_74_2, hw2, gt_iff_lt, a2, bN, hb, ia, fa_158_4, ld_4, hfl, bdr_0]
      exact out_res (codeR 3) true hc.drew h8d hs n8 e
  have k12 : ¬ (o.1 = 1 ∨ o.1 = 2) := by omega
  have cno : (noR : RsV) = codeR 0 := rfl
  by_cases k3 : o.1 = 3
  · have q : (o.1 == 3) = true := by rw [k3]; rfl
    have mb : mustB m o h = codeR 0 := by rw [mustB, if_neg (by omega), if_neg (by omega), if_neg (by omega)]; rfl
    have cvv : codeV m.c.2.2.1 d (holdsV d h) (staleV m h) o h.2.2.2.2 = if d.depth = 15 then 8 else 0 := by rw [codeV, if_neg k2, if_pos k3]
    by_cases a1 : d.depth = 15
    · have e : (d.depth == 15) = true := by rw [a1]; rfl
      have f := fin 8 (cb 8 (by decide) (by rw [cvv, if_pos a1]))
      simp -implicitDefEqProofs only [L54_0, ad, ax, am, aM, aN, aQ, aR, av, ak, aJ, aK, aS, aT, ay, ap, aU, aV, aX, aY, ae, ac, aj, ag, z1z, z2z, z3z, z4z, aH, af, aD, aB, aC, aA, aE, aG, z5z, z6z, ah, z7z, z8z, au, bq, bj, h6, bD, eqf k1, eqf k2, q, fa_154_5, ce, hdl, qd1, qd2, e]
      exact f
    · have f := fin 0 (nb _ mb (by rw [cvv, if_neg a1]) k12)
      simp -implicitDefEqProofs only [L54_0, ad, ax, am, aM, aN, aQ, aR, av, ak, aJ, aK, aS, aT, ay, ap, aU, aV, aX, aY, ae, ac, aj, ag, z1z, z2z, z3z, z4z, aH, af, aD, aB, aC, aA, aE, aG, z5z, z6z, ah, z7z, z8z, au, bq, bj, h6, bD, eqf k1, eqf k2, q, fa_154_5, ce, hdl, qd1, qd2, eqf a1]
      exact f
  by_cases k4 : o.1 = 4
  · have q : (o.1 == 4) = true := by rw [k4]; rfl
    have mb : mustB m o h = codeR 0 := by rw [mustB, if_neg (by omega), if_neg (by omega), if_neg (by omega)]; rfl
    have cvv : codeV m.c.2.2.1 d (holdsV d h) (staleV m h) o h.2.2.2.2 = if d.depth = 0 then 4 else 0 := by rw [codeV, if_neg k2, if_neg k3, if_pos k4]
    by_cases a1 : d.depth = 0
    · have e : (d.depth == 0) = true := by rw [a1]; rfl
      have f := fin 4 (cb 4 (by decide) (by rw [cvv, if_pos a1]))
      simp -implicitDefEqProofs only [L54_0, ad, ax, am, aM, aN, aQ, aR, av, ak, aJ, aK, aS, aT, ay, ap, aU, aV, aX, aY, ae, ac, aj, ag, z1z, z2z, z3z, z4z, aH, af, aD, aB, aC, aA, aE, aG, z5z, z6z, ah, z7z, z8z, au, bq, bj, h6, bD, eqf k1, eqf k2, eqf k3, q, fa_154_5, ce, hdl, qd1, qd2, e]
      exact f
    · have f := fin 0 (nb _ mb (by rw [cvv, if_neg a1]) k12)
      simp -implicitDefEqProofs only [L54_0, ad, ax, am, aM, aN, aQ, aR, av, ak, aJ, aK, aS, aT, ay, ap, aU, aV, aX, aY, ae, ac, aj, ag, z1z, z2z, z3z, z4z, aH, af, aD, aB, aC, aA, aE, aG, z5z, z6z, ah, z7z, z8z, au, bq, bj, h6, bD, eqf k1, eqf k2, eqf k3, q, fa_154_5, ce, hdl, qd1, qd2, eqf a1]
      exact f
  by_cases k5 : o.1 = 5
  · have q : (o.1 == 5) = true := by rw [k5]; rfl
    have mb : mustB m o h = codeR 0 := by rw [mustB, if_neg (by omega), if_neg (by omega), if_neg (by omega)]; rfl
    have cvv : codeV m.c.2.2.1 d (holdsV d h) (staleV m h) o h.2.2.2.2 = if d.depth = 0 then 4 else if holdsV d h then 0 else if d.holds.length = 8 then 8 else staleV m h := by rw [codeV, if_neg k2, if_neg k3, if_neg k4, if_pos k5]
    obtain ⟨i, r, b, c, hfi, rfl, hb, ia, hri, hfl, _⟩ := flag (by rw [show ofK o.1 = 3 by rw [k5]; rfl]; decide)
    have e0 : (hnC h).toArray[0 + 0]? = some (.int .i64 h.1) := rfl
    have e1 : (hnC h).toArray[0 + 1]? = some (.int .i64 h.2.1) := rfl
    by_cases a1 : d.depth = 0
    · have e : (d.depth == 0) = true := by rw [a1]; rfl
      have f := fin 4 (cb 4 (by decide) (by rw [cvv, if_pos a1]))
      simp -implicitDefEqProofs only [L54_0, ad, ax, am, aM, aN, aQ, aR, av, ak, aJ, aK, aS, aT, ay, ap, aU, aV, aX, aY, ae, ac, aj, ag, z1z, z2z, z3z, z4z, aH, af, aD, aB, aC, aA, aE, aG, z5z, z6z, ah, z7z, z8z, au, bq, bj, h6, bD, eqf k1, eqf k2, eqf k3, eqf k4, q, fa_154_5, ce, hdl, qd1, qd2, e]
      exact f
    rw [if_neg a1] at cvv
    simp -implicitDefEqProofs only [L54_0, ad, ax, am, aM, aN, aQ, aR, av, ak, aJ, aK, aS, aT, ay, ap, aU, aV, aX, aY, ae, ac, aj, ag, z1z, z2z, z3z, z4z, aH, af, aD, aB, aC, aA, aE, aG, z5z, z6z, ah, z7z, z8z, au, bq, bj, h6, bD, eqf k1, eqf k2, eqf k3, eqf k4, q, fa_154_5, ce, hdl, qd1, qd2, eqf a1, bX, fa_51_1, h7, e0, e1]
    refine (c_rHas R n0 (hands_rf hd').1 (by omega) (nmOf h)).step ?_
    rw [show decide (nmOf h ∈ d.holds) = holdsV d h from rfl]
    cases hv : holdsV d h with
    | true =>
      have f := fin 0 (nb _ mb (by rw [cvv, hv]; rfl) k12)
      simp -implicitDefEqProofs only [ad, ax, am, aM, aN, aQ, aR, av, ak, aJ, aK, aS, aT, ay, ap, aU, aV, aX, aY, ae, ac, aj, ag, z1z, z2z, z3z, z4z, aH, af, aD, aB, aC, aA, aE, aG, z5z, z6z, ah, z7z, z8z, au]
      exact f
    | false =>
      rw [if_neg (by rw [hv]; simp)] at cvv
      obtain ⟨Fh, hFh⟩ := R.hT
      obtain ⟨bh, ch, vh, rfl, hvh, hkh⟩ := hold_at hFh (hands_rf hd').1
      obtain ⟨Ah, cch, rfl, _⟩ := keys_sh hkh
      have hnl := (List.getElem?_eq_some_iff.1 (hands_rf hd').1).1
      have iah := ia_152 (b := bh) (p := 0) (n := (toRf m).holds.length) (c := ch) (j := .i64) (i := (nn : Int)) (by omega) (by omega)
      rw [Nat.zero_add, Nat.mul_one] at iah
      by_cases a8 : d.holds.length = 8
      · have e : ((d.holds.length : Int) == 8) = true := by rw [a8]; rfl
        have f := fin 8 (cb 8 (by decide) (by rw [cvv, if_pos a8]))
        simp -implicitDefEqProofs only [ad, ax, am, aM, aN, aQ, aR, av, ak, aJ, aK, aS, aT, ay, ap, aU, aV, aX, aY, ae, ac, aj, ag, z1z, z2z, z3z, z4z, aH, af, aD, aB, aC, aA, aE, aG, z5z, z6z, ah, z7z, z8z, au, fa_154_6, ld_152, R.hl, iah, ld_159, hvh, len_159, e]
        exact f
      · have e : ((d.holds.length : Int) == 8) = false := beq_eq_false_iff_ne.2 (by omega)
        rw [if_neg a8] at cvv
        cases hl : isLv m (nmOf h) with
        | true =>
          have f := fin 0 (nb _ mb (by rw [cvv, stT hl]) k12)
          rw [hl] at hfl
          simp -implicitDefEqProofs only [ad, ax, am, aM, aN, aQ, aR, av, ak, aJ, aK, aS, aT, ay, ap, aU, aV, aX, aY, ae, ac, aj, ag, z1z, z2z, z3z, z4z, aH, af, aD, aB, aC, aA, aE, aG, z5z, z6z, ah, z7z, z8z, au, fa_154_6, bK, ld_152, R.hl, iah, ld_159, hvh, len_159, e, bN, hb, ia, fa_158_4, ld_4, hfl]
          exact f
        | false =>
          have f := fin 3 (cb 3 (by decide) (by rw [cvv, stF hl]))
          rw [hl] at hfl
          simp -implicitDefEqProofs only [ad, ax, am, aM, aN, aQ, aR, av, ak, aJ, aK, aS, aT, ay, ap, aU, aV, aX, aY, ae, ac, aj, ag, z1z, z2z, z3z, z4z, aH, af, aD, aB, aC, aA, aE, aG, z5z, z6z, ah, z7z, z8z, au, fa_154_6, bK, ld_152, R.hl, iah, ld_159, hvh, len_159, e, bN, hb, ia, fa_158_4, ld_4, hfl]
          exact f
  by_cases k10 : o.1 = 10
  · have q : (o.1 == 10) = true := by rw [k10]; rfl
    have mb : mustB m o h = codeR 0 := by rw [mustB, if_neg (by omega), if_neg (by omega), if_neg (by omega)]; rfl
    have cvv : codeV m.c.2.2.1 d (holdsV d h) (staleV m h) o h.2.2.2.2 = staleV m h := by rw [codeV, if_neg k2, if_neg k3, if_neg k4, if_neg k5, if_neg (by omega), if_pos (.inl k10)]
    obtain ⟨i, r, b, c, hfi, rfl, hb, ia, hri, hfl, _⟩ := flag (by rw [show ofK o.1 = 1 by rw [k10]; rfl]; decide)
    cases hl : isLv m (nmOf h) with
    | true =>
      have f := fin 0 (nb _ mb (by rw [cvv, stT hl]) k12)
      rw [hl] at hfl
      simp -implicitDefEqProofs only [L54_0, ad, ax, am, aM, aN, aQ, aR, av, ak, aJ, aK, aS, aT, ay, ap, aU, aV, aX, aY, ae, ac, aj, ag, z1z, z2z, z3z, z4z, aH, af, aD, aB, aC, aA, aE, aG, z5z, z6z, ah, z7z, z8z, au, bq, bj, h6, bD, eqf k1, eqf k2, eqf k3, eqf k4, eqf k5, q, bK, bN, hb, ia, fa_158_4, ld_4, hfl]
      exact f
    | false =>
      have f := fin 3 (cb 3 (by decide) (by rw [cvv, stF hl]))
      rw [hl] at hfl
      simp -implicitDefEqProofs only [L54_0, ad, ax, am, aM, aN, aQ, aR, av, ak, aJ, aK, aS, aT, ay, ap, aU, aV, aX, aY, ae, ac, aj, ag, z1z, z2z, z3z, z4z, aH, af, aD, aB, aC, aA, aE, aG, z5z, z6z, ah, z7z, z8z, au, bq, bj, h6, bD, eqf k1, eqf k2, eqf k3, eqf k4, eqf k5, q, bK, bN, hb, ia, fa_158_4, ld_4, hfl]
      exact f
  by_cases k12 : o.1 = 12
  · have q : (o.1 == 12) = true := by rw [k12]; rfl
    have cvv : codeV m.c.2.2.1 d (holdsV d h) (staleV m h) o h.2.2.2.2 = staleV m h := by rw [codeV, if_neg k2, if_neg k3, if_neg k4, if_neg k5, if_neg (by omega), if_pos (.inr k12)]
    obtain ⟨i, r, b, c, hfi, rfl, hb, ia, hri, hfl, hof⟩ := flag (by rw [show ofK o.1 = 1 by rw [k12]; rfl]; decide)
    have mb : mustB m o h = (0, noH, r.off, 0) := by
      rw [mustB, if_neg (by omega), if_neg (by omega), if_pos k12, rgOf, hfi]
      simp only [Option.bind_some, hri]
    have hb2 : pureRun Try.prog (Instr.build 53 #[(2, .int .i64 r.off)]) = some (.agg (rsC (0, noH, r.off, 0)).toArray) := bd_53_2
    cases hl : isLv m (nmOf h) with
    | true =>
      have e := nb _ mb (by rw [cvv, stT hl]) (by omega)
      rw [hl] at hfl
      simp -implicitDefEqProofs only [L54_0, ad, ax, am, aM, aN, aQ, aR, av, ak, aJ, aK, aS, aT, ay, ap, aU, aV, aX, aY, ae, ac, aj, ag, z1z, z2z, z3z, z4z, aH, af, aD, aB, aC, aA, aE, aG, z5z, z6z, ah, z7z, z8z, au, bq, bj, h6, bD, eqf k1, eqf k2, eqf k3, eqf k4, eqf k5, eqf k10, q, bK, bN, hb, ia, fa_158_4, fa_158_3, ld_4, hfl, hof, hb2]
      exact out_res (0, noH, r.off, 0) true hc h8 hs n8 e
    | false =>
      have e := cb 3 (by decide) (by rw [cvv, stF hl])
      rw [hl] at hfl
      simp -implicitDefEqProofs only [L54_0, ad, ax, am, aM, aN, aQ, aR, av, ak, aJ, aK, aS, aT, ay, ap, aU, aV, aX, aY, ae, ac, aj, ag, z1z, z2z, z3z, z4z, aH, af, aD, aB, aC, aA, aE, aG, z5z, z6z, ah, z7z, z8z, au, bq, bj, h6, bD, eqf k1, eqf k2, eqf k3, eqf k4, eqf k5, eqf k10, q, bK, bN, hb, ia, fa_158_4, ld_4, hfl, bdr_0]
      exact out_res (codeR 3) true hc h8 hs n8 e
  by_cases k11 : o.1 = 11
  · have q : (o.1 == 11) = true := by rw [k11]; rfl
    have mb : mustB m o h = codeR 0 := by rw [mustB, if_neg (by omega), if_neg (by omega), if_neg (by omega)]; rfl
    have f := fin 0 (nb _ mb (by rw [codeV, if_neg k2, if_neg k3, if_neg k4, if_neg k5, if_neg (by omega), if_neg (by omega)]) (by omega))
    simp -implicitDefEqProofs only [L54_0, ad, ax, am, aM, aN, aQ, aR, av, ak, aJ, aK, aS, aT, ay, ap, aU, aV, aX, aY, ae, ac, aj, ag, z1z, z2z, z3z, z4z, aH, af, aD, aB, aC, aA, aE, aG, z5z, z6z, ah, z7z, z8z, au, bq, bj, h6, bD, eqf k1, eqf k2, eqf k3, eqf k4, eqf k5, eqf k10, eqf k12, q]
    exact f
  · have k6 : 6 ≤ o.1 := by omega
    have k9 : o.1 ≤ 9 := by omega
    have eo : ofK o.1 = 2 := by rw [ofK, if_neg (by omega), if_pos ⟨k6, k9⟩]
    obtain ⟨i, r, b, c, hfi, rfl, hb, ia, hri, hfl, hof⟩ := flag (by rw [eo]; decide)
    have hkn : knownV m h 2 = true := by
      rcases hk with hk | hk
      · rw [eo] at hk; omega
      · rw [eo] at hk; exact hk
    have cvv : codeV m.c.2.2.1 d (holdsV d h) (staleV m h) o h.2.2.2.2 = if holdsV d h = false then 4 else if h.2.2.2.2 ≤ o.2.2.2.1 then 5 else 0 := by rw [codeV, if_neg k2, if_neg k3, if_neg k4, if_neg k5, if_pos ⟨k6, k9⟩]
    have e : mustV m nn o h = (touchV m d o h, true) := by
      unfold touchV
      by_cases b1 : holdsV d h = false
      · rw [if_pos b1]; exact cb 4 (by decide) (by rw [cvv, if_pos b1])
      · rw [if_neg b1]
        by_cases b2 : h.2.2.2.2 ≤ o.2.2.2.1
        · rw [if_pos b2]; exact cb 5 (by decide) (by rw [cvv, if_neg b1, if_pos b2])
        · rw [if_neg b2]; exact nb _ rfl (by rw [cvv, if_neg b1, if_neg b2]) (by omega)
    have ldo := bJ (t := 40) (c := (opC o).toArray) ag_40 (show (Try.prog.info? 40).map (·.size) = some (opC o).toArray.size from sz_40) h6
    simp -implicitDefEqProofs only [L54_0, ad, ax, am, aM, aN, aQ, aR, av, ak, aJ, aK, aS, aT, ay, ap, aU, aV, aX, aY, ae, ac, aj, ag, z1z, z2z, z3z, z4z, aH, af, aD, aB, aC, aA, aE, aG, z5z, z6z, ah, z7z, z8z, au, bq, bj, h6, bD, eqf k1, eqf k2, eqf k3, eqf k4, eqf k5, eqf k10, eqf k12, eqf k11, ldo, ld_hn h7]
    refine (c_rTouch I Wm hK n0 hd' hkn o0 k6 k9 hfi).mono ?_
    rintro _ w2 ⟨rfl, c2⟩
    exact out_res (touchV m d o h) true (hc.trans c2) (c2.at h8 (by simp)) hs n8 e
set_option maxHeartbeats 1000000 in
theorem c_rMust (I : RfI w g (toRf m) F) (Wm : Wf m K) (hK : K ≤ 1000000) {nn : Nat} (hm : mayV m nn o = true) (h : HnV) :
    CallR Try.prog 54 [.pointer (some ⟨g, 0, none⟩), .int .i64 nn, .agg (opC o).toArray, .agg (hnC h).toArray] w fun v w' => v = .tuple #[.agg (rsC (mustV m nn o h).1).toArray, .bool (mustV m nn o h).2] ∧ Chg [] w w' := by
  apply F54_ok
  obtain ⟨d, hd⟩ := may_hd hm
  simp -implicitDefEqProofs only [F54, bE, bA, al_53, bf]
  generalize hw : ((w.alloc (.cells (opC o).toArray 40)).alloc _).alloc _ = w1
  have c1 : Chg [] w w1 := by rw [← hw]; exact (((Chg.refl _ _).alloc _).alloc _).alloc _
  have b6 : hp w1 w.heap.size = some (.cells (opC o).toArray 40) := by rw [← hw, bc, bf, bf, if_neg (by omega), bc, bf, if_neg (by omega), bc, if_pos rfl]
  have b7 : hp w1 (w.heap.size + 1) = some (.cells (hnC h).toArray 51) := by rw [← hw, bc, bf, bf, if_neg (by omega), bc, bf, if_pos rfl]
  have b8 : hp w1 (w.heap.size + 1 + 1) = some (.cells (rsC noR).toArray 53) := by rw [← hw, bc, bf, bf, if_pos rfl]; rfl
  clear hw
  have ldo := bJ (t := 40) (c := (opC o).toArray) ag_40 (show (Try.prog.info? 40).map (·.size) = some (opC o).toArray.size from sz_40) b6
  obtain ⟨s, gn, rv, dd, hh, R⟩ := (I.keep c1).rd
  have sm := Wm.small hK
  have hl : (toRf m).rgs.length ≤ 1000000 := by show (m.rgs.map _).length ≤ _; rw [List.length_map]; exact sm.r
  have ho : ∀ p ∈ (toRf m).rgs, p.1.objs.length ≤ 1000000 := fun p hp => by
    obtain ⟨r, hr, rfl⟩ := List.mem_map.1 hp; exact sm.o r hr
  simp -implicitDefEqProofs only [ldo, ld_hn b7, ad]
  refine (c_rGood R hl ho o h).mono ?_
  rintro _ w2 ⟨rfl, c2⟩
  rw [good_rfv Wm o.1 h]
  have c02 := c1.trans c2
  have d6 := c2.at b6 (by simp)
  have d7 := c2.at b7 (by simp)
  have d8 := c2.at b8 (by simp)
  have me := must_eq (h := h) hm hd
  have e0 : (hnC h).toArray[0 + 0]? = some (.int .i64 h.1) := rfl
  have e1 : (hnC h).toArray[0 + 1]? = some (.int .i64 h.2.1) := rfl
  by_cases k0 : ofK o.1 = 0
  · rw [if_pos k0]
    simp -implicitDefEqProofs only [ad, ax, am, aM, aN, aQ, aR, av, ak, aJ, aK, aS, aT, ay, ap, aU, aV, aX, aY, ae, ac, aj, ag, z1z, z2z, z3z, z4z, aH, af, aD, aB, aC, aA, aE, aG, z5z, z6z, ah, z7z, z8z, au, bq, bj, d6, bD]
    refine (c_Of o.1 w2).step ?_
    have ez : (ofK o.1 != 0) = false := by rw [k0]; rfl
    simp -implicitDefEqProofs only [ad, ax, am, aM, aN, aQ, aR, av, ak, aJ, aK, aS, aT, ay, ap, aU, aV, aX, aY, ae, ac, aj, ag, z1z, z2z, z3z, z4z, aH, af, aD, aB, aC, aA, aE, aG, z5z, z6z, ah, z7z, z8z, au, ez]
    exact l_rMust0 c02 (I.keep c02) Wm hK d6 d7 d8 rfl (by omega) hm hd (.inl k0) (fun h => absurd k0 h)
  · rw [if_neg k0]
    cases hk : knownV m h (ofK o.1) with
    | false =>
      have hr : refusesV m d o h = 2 := by rw [refusesV, if_pos ⟨k0, hk⟩]
      have e : mustV m nn o h = (codeR 2, true) := by rw [me, hr, if_pos (by decide)]
      simp -implicitDefEqProofs only [ad, ax, am, aM, aN, aQ, aR, av, ak, aJ, aK, aS, aT, ay, ap, aU, aV, aX, aY, ae, ac, aj, ag, z1z, z2z, z3z, z4z, aH, af, aD, aB, aC, aA, aE, aG, z5z, z6z, ah, z7z, z8z, au, bdr_0]
      exact out_res (codeR 2) true c02 d8 rfl (by omega) e
    | true =>
      simp -implicitDefEqProofs only [ad, ax, am, aM, aN, aQ, aR, av, ak, aJ, aK, aS, aT, ay, ap, aU, aV, aX, aY, ae, ac, aj, ag, z1z, z2z, z3z, z4z, aH, af, aD, aB, aC, aA, aE, aG, z5z, z6z, ah, z7z, z8z, au, bq, bj, d6, bD]
      refine (c_Of o.1 w2).step ?_
      have ez : (ofK o.1 != 0) = true := bne_iff_ne.2 k0
      obtain ⟨s2, gn2, rv2, dd2, hh2, R2⟩ := (I.keep c02).rd
      simp -implicitDefEqProofs only [ad, ax, am, aM, aN, aQ, aR, av, ak, aJ, aK, aS, aT, ay, ap, aU, aV, aX, aY, ae, ac, aj, ag, z1z, z2z, z3z, z4z, aH, af, aD, aB, aC, aA, aE, aG, z5z, z6z, ah, z7z, z8z, au, ez, bX, fa_51_1, bj, d7, e0, e1]
      refine (c_rFind R2 (nmOf h) hl).step ?_
      rw [findX_rf]
      obtain ⟨i, hi⟩ : ∃ i, findR m.rgs (nmOf h) = some i := by
        unfold knownV at hk
        split at hk
        · cases hk
        · rename_i i hi; exact ⟨i, hi⟩
      rw [hi]
      exact l_rMust0 c02 (I.keep c02) Wm hK d6 d7 d8 rfl (by omega) hm hd (.inr hk) (fun _ => ⟨i, hi, rfl⟩)
end
end Go.Proofs.Ytgamnncehjcdiaa

namespace Go.Proofs.Ytgamnncehjcdiaa
open Go Ev Go.RowKit

section
variable {W w : World} {g g6 g7 : Nat} {m : MdV} {x : RfV} {F : Fp} {K : Nat} {o : OpV} {h : HnV} {d : HdV} {nn : Nat}
theorem RfI.rgPut (I : RfI w g x F) {i : Nat} {p : RgV × Bool} (hi : x.rgs[i]? = some p) {k : Nat} (hk : k < 8) {P : Th} (hP : (rrT p)[k]? = some P) :
    ∃ b c v Fk, ldC (hp w g) (0 + 9) = some (.slice (some ⟨b, 0, none⟩) x.rgs.length c) ∧ b ≠ g ∧ F b ∧ (∀ y, Fk y → F y) ∧ ldC (hp w b) (i * 8 + k) = some v ∧ P w Fk v ∧
      ∀ w1 F' P' v' p', UpdP Fk F' w w1 → OwnT P' → P' w1 F' v' → rrT p' = (rrT p).set k P' → okC (hp w1 b) (i * 8 + k + 1) = true ∧ v'.cells = #[v'] ∧ v'.oneCell' = true ∧ hp w1 g = hp w g ∧
        ∃ F1, RfI (put w1 b ((getC (hp w1 b)).setIfInBounds (i * 8 + k) v') (getE (hp w1 b))) g { x with rgs := x.rgs.set i p' } F1 ∧ UpdP F F1 w (put w1 b ((getC (hp w1 b)).setIfInBounds (i * 8 + k) v') (getE (hp w1 b))) := by
  have hP0 : (x.rgs.flatMap rrT)[i * 8 + k]? = some P := (flatM_get rrT_len x.rgs i p hi k hk).trans hP
  obtain ⟨b, c, v, Fk, hl, hbg, hFb, hsub, _, _, hld, hv, _, hput⟩ := isAt.row I (cf x) (k := 9) (e' := 158) (z := 8) (n := x.rgs.length) (Qs := x.rgs.flatMap rrT) rfl (good_rrL x.rgs) hP0
  refine ⟨b, c, v, Fk, hl, hbg, hFb, hsub, hld, hv, fun w1 F' P' v' p' u hg' hp' hr => ?_⟩
  obtain ⟨ok, o1, o2, hgg, F1, h1, h2⟩ := hput w1 F' P' v' u hg' hp'
  rw [flatM_setP rrT_len hk hr hi] at h1
  have e : rrsT (x.rgs.set i p') = isRow 158 8 x.rgs.length ((x.rgs.set i p').flatMap rrT) := by rw [rrsT, List.length_set]
  rw [← e] at h1
  exact ⟨ok, o1, o2, hgg, F1, h1, h2⟩
theorem RfI.holdPut (I : RfI w g x F) {l : List NmV} (hi : x.holds[nn]? = some l) :
    ∃ b c v Fk, ldC (hp w g) (0 + 11) = some (.slice (some ⟨b, 0, none⟩) x.holds.length c) ∧ b ≠ g ∧ F b ∧ (∀ y, Fk y → F y) ∧ ldC (hp w b) nn = some v ∧ keysT l w Fk v ∧
      ∀ w1 F' l' v', UpdP Fk F' w w1 → keysT l' w1 F' v' → okC (hp w1 b) (nn + 1) = true ∧ v'.cells = #[v'] ∧ v'.oneCell' = true ∧ hp w1 g = hp w g ∧
        ∃ F1, RfI (put w1 b ((getC (hp w1 b)).setIfInBounds nn v') (getE (hp w1 b))) g { x with holds := x.holds.set nn l' } F1 ∧ UpdP F F1 w (put w1 b ((getC (hp w1 b)).setIfInBounds nn v') (getE (hp w1 b))) := by
  have hP0 : (x.holds.map keysT)[nn]? = some (keysT l) := by rw [List.getElem?_map, hi]; rfl
  obtain ⟨b, c, v, Fk, hl, hbg, hFb, hsub, _, _, hld, hv, _, hput⟩ := isAt.row I (cf x) (k := 11) (e' := 159) (z := 1) (n := x.holds.length) (Qs := x.holds.map keysT) rfl (good_holdsL x.holds) hP0
  refine ⟨b, c, v, Fk, hl, hbg, hFb, hsub, hld, hv, fun w1 F' l' v' u hp' => ?_⟩
  obtain ⟨ok, o1, o2, hgg, F1, h1, h2⟩ := hput w1 F' (keysT l') v' u (good_keys l') hp'
  rw [← List.map_set] at h1
  have e : holdsT (x.holds.set nn l') = isRow 159 1 x.holds.length ((x.holds.set nn l').map keysT) := by rw [holdsT, List.length_set]
  rw [← e] at h1
  exact ⟨ok, o1, o2, hgg, F1, h1, h2⟩
theorem rf_setHd (m : MdV) (d' : HdV) : toRf (setHd m nn d') = { toRf m with depth := (toRf m).depth.set nn d'.depth, holds := (toRf m).holds.set nn d'.holds } := by
  simp only [toRf, setHd, Int.toNat_natCast, List.map_set]
  rfl
theorem rf_setRg (m : MdV) {i : Nat} {r r' : RgV} (hi : m.rgs[i]? = some r) (hn : r'.nm = r.nm) : toRf { m with rgs := m.rgs.set i r' } = { toRf m with rgs := (toRf m).rgs.set i (r', isLv m r.nm) } := by
  simp only [toRf, List.map_set, ← hn]
  rfl
theorem nd_unique {L : List RgV} (h : (L.map (·.nm)).Nodup) {i j : Nat} {r s : RgV} (hi : L[i]? = some r) (hj : L[j]? = some s) (e : r.nm = s.nm) : i = j := by
  have h1 : (L.map (·.nm))[i]? = some r.nm := by rw [List.getElem?_map, hi]; rfl
  have h2 : (L.map (·.nm))[j]? = some r.nm := by rw [List.getElem?_map, hj, e]; rfl
  obtain ⟨a1, a2⟩ := List.getElem?_eq_some_iff.1 h1
  obtain ⟨b1, b2⟩ := List.getElem?_eq_some_iff.1 h2
  have hp := List.pairwise_iff_getElem.1 h
  rcases Nat.lt_trichotomy i j with hlt | heq | hlt
  · exact absurd (a2.trans b2.symm) (hp i j a1 b1 hlt)
  · exact heq
  · exact absurd (b2.trans a2.symm) (hp j i b1 a1 hlt)
theorem rf_free (Wn' : Wn m K) {i : Nat} {r : RgV} {q : NmV} (hi : m.rgs[i]? = some r) (hq : m.slots[r.nm.1.toNat]? = some (1, q.2)) (hr : r.nm.2 = q.2) {v : Int} (hv : v ≠ 1) :
    toRf { m with slots := m.slots.set r.nm.1.toNat (v, q.2) } = { toRf m with state := (toRf m).state.set r.nm.1.toNat v, rgs := (toRf m).rgs.set i (r, false) } := by
  have lvE : ∀ (j : Nat) (x : RgV), m.rgs[j]? = some x → isLv { m with slots := m.slots.set r.nm.1.toNat (v, q.2) } x.nm = if j = i then false else isLv m x.nm := fun j x hx => by
    unfold isLv
    simp only [List.length_set]
    obtain ⟨a, b, c, dd⟩ := Wn'.gn x (List.mem_of_getElem? hx)
    rw [decide_eq_true (show 0 ≤ x.nm.1 ∧ x.nm.1 < m.slots.length from ⟨a, b⟩), Bool.true_and, Bool.true_and]
    by_cases hs : r.nm.1.toNat = x.nm.1.toNat
    · have a2 : (m.slots.set r.nm.1.toNat (v, q.2))[x.nm.1.toNat]? = some (v, q.2) := by rw [← hs, List.getElem?_set, if_pos rfl, if_pos (List.getElem?_eq_some_iff.1 hq).1]
      rw [decide_eq_false (by rw [a2]; intro e; exact hv (congrArg Prod.fst (Option.some.inj e)))]
      by_cases hj : j = i
      · rw [if_pos hj]
      · rw [if_neg hj]
        refine (decide_eq_false ?_).symm
        rw [← hs, hq]
        intro e
        have e2 : q.2 = x.nm.2 := (Prod.mk.inj (Option.some.inj e)).2
        obtain ⟨a', _⟩ := Wn'.gn r (List.mem_of_getElem? hi)
        exact hj (nd_unique Wn'.nd hx hi (Prod.ext (by omega) (by rw [← e2, hr])))
    · have hj : j ≠ i := fun e => by
        subst e
        rw [hi] at hx
        cases hx
        exact hs rfl
      rw [if_neg hj]
      have : (m.slots.set r.nm.1.toNat (v, q.2))[x.nm.1.toNat]? = m.slots[x.nm.1.toNat]? := by rw [List.getElem?_set, if_neg hs]
      rw [this]
  unfold toRf
  simp only [List.map_set]
  congr 1
  · exact set_same (by rw [List.getElem?_map, hq]; rfl)
  · apply List.ext_getElem?
    intro j
    rw [List.getElem?_map, List.getElem?_set, List.getElem?_map]
    by_cases hj : i = j
    · subst hj
      rw [if_pos rfl, hi]
      simp only [Option.map_some, lvE i r hi, if_true]
      rw [if_pos (by rw [List.length_map]; exact (List.getElem?_eq_some_iff.1 hi).1)]
    · rw [if_neg hj]
      cases hx : m.rgs[j]? with
      | none => rfl
      | some x => simp only [Option.map_some, lvE j x hx, if_neg (Ne.symm hj)]
set_option maxHeartbeats 4000000 in
theorem l_rDoes2 (hc : Chg [] W w) (I : RfI w g (toRf m) F) (Wm : Wf m K) (h6 : hp w g6 = some (.cells (opC o).toArray 40)) {i : Nat} {r : RgV} {k : Nat} {L : List Int} {j : Nat} (O : ObjAt m h o.2.2.2.1 i r k L j) (hd : m.hands[nn]? = some d) (k6 : o.1 = 7 ∨ o.1 = 8 ∨ o.1 = 9) :
    P97_2 (.pointer (some ⟨g, 0, none⟩)) (.pointer (some ⟨g6, 0, none⟩)) (.int .i64 i) (.int .i64 k) (.int .i64 j) w fun v w' => v = .tuple #[] ∧ ∃ F', RfI w' g (toRf (doesV m nn o h)) F' ∧ UpdP F F' W w' := by
  apply L97_2_ok
  have cd : Chg [] w w.drew := (Chg.refl _ _).drew
  obtain ⟨b, c, bw, cw, g2, c2, p1, p2, p3, p4, _⟩ := I.word O.rf O.wk O.val
  obtain ⟨b', c', bw', cw', g2', c2', q1, q2, q3, q4, hput⟩ := (I.keep cd).word O.rf O.wk O.val
  rw [show ldC (hp w.drew g) (0 + 9) = _ from p1] at q1; cases q1
  rw [show ldC (hp w.drew b) (i * 8 + 6) = _ from p2] at q2; cases q2
  rw [show ldC (hp w.drew bw) k = _ from p3] at q3; cases q3
  have W1 := Wm.w1
  have W2 := Wm.w2
  have hil : i < (toRf m).rgs.length := (List.getElem?_eq_some_iff.1 O.rf).1
  have ia := ia_151 (b := b) (p := 0) (n := (toRf m).rgs.length) (c := c) (j := .i64) (i := (i : Int)) (by omega) (by omega)
  rw [Int.toNat_natCast, Nat.zero_add] at ia
  have hlw := (List.getElem?_eq_some_iff.1 O.wk).1
  have iaw := ia_142 (b := bw) (p := 0) (n := r.words.length) (c := cw) (j := .i64) (i := (k : Int)) (by omega) (by omega)
  rw [Int.toNat_natCast, Nat.zero_add, Nat.mul_one] at iaw
  have hjl := O.jl
  have iau := ia_177 (b := g2) (p := 0) (n := L.length) (c := c2) (j := .i64) (i := (j : Int)) (by omega) (by omega)
  rw [Int.toNat_natCast, Nat.zero_add, Nat.mul_one] at iau
  have rd : ∀ y, toRf (setWordV m h o.2.2.2.1 y) = { toRf m with rgs := (toRf m).rgs.set i ({ r with words := r.words.set k (L.set j y) }, isLv m r.nm) } := fun y => by rw [O.put y]; exact rf_setRg m O.ri rfl
  have hd' : m.hands[((nn : Int)).toNat]? = some d := hd
  have fin : ∀ y, doesV m nn o h = setWordV m h o.2.2.2.1 y → effu Try.prog (Instr.storeAt 38 (.pointer (some ⟨g2, j, none⟩)) (.int .u64 y)) w.drew fun w' => ∃ F', RfI w' g (toRf (doesV m nn o h)) F' ∧ UpdP F F' W w' := fun y e => by
    obtain ⟨ok, F1, t1, t2⟩ := hput y
    rw [st_38 rfl rfl ok, e, rd y]
    exact ⟨F1, t1, t2.pre (hc.trans cd)⟩
  have fin2 : ∀ y, doesV m nn o h = setWordV m h o.2.2.2.1 y → effu Try.prog (Instr.storeAt 38 (.pointer (some ⟨g2, j, none⟩)) (.int .u64 y)) w.drew fun w' => True ∧ ∃ F', RfI w' g (toRf (doesV m nn o h)) F' ∧ UpdP F F' W w' := fun y e => by
    obtain ⟨ok, F1, t1, t2⟩ := hput y
    rw [st_38 rfl rfl ok, e, rd y]
    exact ⟨trivial, F1, t1, t2.pre (hc.trans cd)⟩
  by_cases k7 : o.1 = 7
  · have q : (o.1 == 7) = true := by rw [k7]; rfl
    have e : doesV m nn o h = setWordV m h o.2.2.2.1 o.2.2.2.2.1 := by
      rw [doesV, hd']; simp only
      rw [if_neg (by omega), if_neg (by omega), if_neg (by omega), if_pos k7]
    simp -implicitDefEqProofs only [L97_2, ad, ax, am, aM, aN, aQ, aR, av, ak, aJ, aK, aS, aT, ay, ap, aU, aV, aX, aY, ae, ac, aj, ag, z1z, z2z, z3z, z4z, aH, af, aD, aB, aC, aA, aE, aG, z5z, z6z, ah, z7z, z8z, au, bK, fa_158_6, bq, fa_40_4, bN, ld_142, ld_177, ld_38, bj, p1, p2, p3, p4, ia, iaw, iau, h6, bD, op_4, q]
    first | exact fin2 _ e | exact fin _ e
  by_cases k8 : o.1 = 8
  · have q : (o.1 == 8) = true := by rw [k8]; rfl
    have e : doesV m nn o h = setWordV m h o.2.2.2.1 (IntKind.u64.wrap (wordV m h o.2.2.2.1 + o.2.2.2.2.1)) := by
      rw [doesV, hd']; simp only
      rw [if_neg (by omega), if_neg (by omega), if_neg (by omega), if_neg k7, if_pos k8]
    simp -implicitDefEqProofs only [L97_2, ad, ax, am, aM, aN, aQ, aR, av, ak, aJ, aK, aS, aT, ay, ap, aU, aV, aX, aY, ae, ac, aj, ag, z1z, z2z, z3z, z4z, aH, af, aD, aB, aC, aA, aE, aG, z5z, z6z, ah, z7z, z8z, au, bK, fa_158_6, bq, fa_40_4, bN, ld_142, ld_177, ld_38, bj, p1, p2, p3, p4, ia, iaw, iau, h6, bD, op_4, eqf k7, q, bG]
    first | exact fin2 _ e | exact fin _ e
  · have k9 : o.1 = 9 := by omega
    by_cases hv : wordV m h o.2.2.2.1 = o.2.2.2.2.1
    · have ev : (wordV m h o.2.2.2.1 == o.2.2.2.2.1) = true := by rw [hv]; exact beq_self_eq_true _
      have e : doesV m nn o h = setWordV m h o.2.2.2.1 o.2.2.2.2.2 := by
        rw [doesV, hd']; simp only
        rw [if_neg (by omega), if_neg (by omega), if_neg (by omega), if_neg k7, if_neg k8, if_pos k9, if_pos hv]
      simp -implicitDefEqProofs only [L97_2, ad, ax, am, aM, aN, aQ, aR, av, ak, aJ, aK, aS, aT, ay, ap, aU, aV, aX, aY, ae, ac, aj, ag, z1z, z2z, z3z, z4z, aH, af, aD, aB, aC, aA, aE, aG, z5z, z6z, ah, z7z, z8z, au, bK, fa_158_6, bq, fa_40_4, fa_40_5, bN, ld_142, ld_177, ld_38, bj, p1, p2, p3, p4, ia, iaw, iau, h6, bD, op_4, op_5, eqf k7, eqf k8, ev]
      first | exact fin2 _ e | exact fin _ e
    · have e : doesV m nn o h = m := by
        rw [doesV, hd']; simp only
        rw [if_neg (by omega), if_neg (by omega), if_neg (by omega), if_neg k7, if_neg k8, if_pos k9, if_neg hv]
      simp -implicitDefEqProofs only [L97_2, ad, ax, am, aM, aN, aQ, aR, av, ak, aJ, aK, aS, aT, ay, ap, aU, aV, aX, aY, ae, ac, aj, ag, z1z, z2z, z3z, z4z, aH, af, aD, aB, aC, aA, aE, aG, z5z, z6z, ah, z7z, z8z, au, bK, fa_158_6, bq, fa_40_4, bN, ld_142, ld_177, ld_38, bj, p1, p2, p3, p4, ia, iaw, iau, h6, bD, op_4, eqf k7, eqf k8, eqf hv]
      rw [e]
      exact ⟨by first | rfl | trivial, F, I, UpdP.of0 hc⟩
end
end Go.Proofs.Ytgamnncehjcdiaa

namespace Go.Proofs.Ytgamnncehjcdiaa
open Go Ev Go.RowKit

section
variable {W w : World} {g g6 g7 : Nat} {m : MdV} {x : RfV} {F : Fp} {K : Nat} {o : OpV} {h : HnV} {d : HdV} {nn : Nat}
set_option maxHeartbeats 4000000 in
theorem l_rDoes1 (hc : Chg [] W w) (I : RfI w g (toRf m) F) (Wm : Wf m K) (hK : K ≤ 1000000) (h6 : hp w g6 = some (.cells (opC o).toArray 40)) (h7 : hp w g7 = some (.cells (hnC h).toArray 51)) {i : Nat} {r : RgV} {k : Nat} {L : List Int} {j : Nat} (O : ObjAt m h o.2.2.2.1 i r k L j) (hd : m.hands[nn]? = some d) (k6 : o.1 = 7 ∨ o.1 = 8 ∨ o.1 = 9) :
    P97_1 (.pointer (some ⟨g, 0, none⟩)) (.pointer (some ⟨g6, 0, none⟩)) (.pointer (some ⟨g7, 0, none⟩)) (.int .i64 i) (.bool true) w fun v w' => v = .tuple #[] ∧ ∃ F', RfI w' g (toRf (doesV m nn o h)) F' ∧ UpdP F F' W w' := by
  apply L97_1_ok
  have cd : Chg [] w w.drew := (Chg.refl _ _).drew
  obtain ⟨s, gn, rv, dd, hh, R⟩ := (I.keep cd).rd
  obtain ⟨Fr, hFr⟩ := R.rT
  obtain ⟨b, c, rfl, cv, wv, ov, Q⟩ := rr_at hFr O.rf
  obtain ⟨A, cc, rfl, hRc⟩ := ints_sh Q.cT
  have hil : i < (toRf m).rgs.length := (List.getElem?_eq_some_iff.1 O.rf).1
  have ia := ia_151 (b := b) (p := 0) (n := (toRf m).rgs.length) (c := c) (j := .i64) (i := (i : Int)) (by omega) (by omega)
  rw [Int.toNat_natCast, Nat.zero_add] at ia
  have hrl : ldC (hp w g) (0 + 9) = some (.slice (some ⟨b, 0, none⟩) (toRf m).rgs.length c) := R.rl
  have hjl := O.jl
  have hwl := O.wl
  have W2 := Wm.w2
  have hcl : r.chunks.length ≤ 1000000 := Nat.le_trans (Wm.rg r (List.mem_of_getElem? O.ri)).cl hK
  have cat := c_rAt (w := w.drew) (p := (r, isLv m r.nm)) (c := cc) (wv := wv) (ov := ov) hRc hcl h.2.2.1
  rw [show ixOf (r, isLv m r.nm).1.chunks h.2.2.1 = (k : Int) from O.ix] at cat
  have e2 : (hnC h).toArray[0 + 2]? = some (.int .i64 h.2.2.1) := rfl
  have e3 : (hnC h).toArray[0 + 3]? = some (.int .i64 h.2.2.2.1) := rfl
  simp -implicitDefEqProofs only [L97_1, ad, ax, am, aM, aN, aQ, aR, av, ak, aJ, aK, aS, aT, ay, ap, aU, aV, aX, aY, ae, ac, aj, ag, z1z, z2z, z3z, z4z, aH, af, aD, aB, aC, aA, aE, aG, z5z, z6z, ah, z7z, z8z, au, bT, cj, fa_51_3, bK, bN, bj, h6, h7, op_3, e2, e3, hrl, ia, ld_rg Q, bG, O.jn, bC (n := (j : Int)) (by omega) (by omega)]
  repeat' (with_reducible apply And.intro)
  all_goals
    refine cat.mono ?_
    rintro _ w3 ⟨rfl, c3⟩
    have c13 := cd.trans c3
    have t6 := c13.at h6 (by simp)
    have t7 := c13.at h7 (by simp)
    try simp -implicitDefEqProofs only [ad, ax, am, aM, aN, aQ, aR, av, ak, aJ, aK, aS, aT, ay, ap, aU, aV, aX, aY, ae, ac, aj, ag, z1z, z2z, z3z, z4z, aH, af, aD, aB, aC, aA, aE, aG, z5z, z6z, ah, z7z, z8z, au, bT, fa_51_3, bj, t6, t7, op_3, e3, bG, O.jn, bC (n := (j : Int)) (by omega) (by omega)]
    exact l_rDoes2 (hc.trans c13) (I.keep c13) Wm t6 O hd k6
theorem ia_ints {b n c : Nat} {i : Int} (h0 : 0 ≤ i) (h1 : i < n) : pureRun Try.prog (Instr.indexAt 23 (.slice (some ⟨b, 0, none⟩) n c) (.int .i64 i)) = some (.pointer (some ⟨b, i.toNat, none⟩)) := by
  have := ia_23 (b := b) (p := 0) (n := n) (c := c) (j := .i64) (i := i) h0 h1
  rw [Nat.zero_add, Nat.mul_one] at this
  exact this
set_option maxHeartbeats 4000000 in
theorem l_rDoes0 (hc : Chg [] W w) (I : RfI w g (toRf m) F) (Wm : Wf m K) (hK : K ≤ 1000000) (Wn' : Wn m K) (h6 : hp w g6 = some (.cells (opC o).toArray 40)) (h7 : hp w g7 = some (.cells (hnC h).toArray 51)) (f7 : ¬ F g7) (hm : mayV m nn o = true) (hd : m.hands[nn]? = some d) (hr : refusesV m d o h = 0) {ix : Int} (hix : ofK o.1 ≠ 0 → ∃ i, findR m.rgs (nmOf h) = some i ∧ ix = i) :
    P97_0 (.pointer (some ⟨g, 0, none⟩)) (.int .i64 nn) (.pointer (some ⟨g6, 0, none⟩)) (.pointer (some ⟨g7, 0, none⟩)) (.int .i64 ix) w fun v w' => v = .tuple #[] ∧ ∃ F', RfI w' g (toRf (doesV m nn o h)) F' ∧ UpdP F F' W w' := by
  apply L97_0_ok
  obtain ⟨n0, n1, o0⟩ := may_n hm
  obtain ⟨ka, kb⟩ := may_k hm
  have hco := (refuses_code hr).2
  have hD := Wm.hd d (List.mem_of_getElem? hd)
  have hd' : m.hands[(nn : Int).toNat]? = some d := hd
  have dv : doesV m nn o h = if o.1 = 3 then setHd m nn { d with depth := d.depth + 1 }
    else if o.1 = 4 then setHd m nn (if d.depth - 1 = 0 then { depth := 0, holds := [] } else { d with depth := d.depth - 1 })
    else if o.1 = 5 then (if holdsV d h then m else setHd m nn { d with holds := d.holds ++ [nmOf h] })
    else if o.1 = 7 then setWordV m h o.2.2.2.1 o.2.2.2.2.1
    else if o.1 = 8 then setWordV m h o.2.2.2.1 (IntKind.u64.wrap (wordV m h o.2.2.2.1 + o.2.2.2.2.1))
    else if o.1 = 9 then (if wordV m h o.2.2.2.1 = o.2.2.2.2.1 then setWordV m h o.2.2.2.1 o.2.2.2.2.2 else m)
    else if o.1 = 10 then (match m.slots[h.1.toNat]? with | some p => { m with slots := m.slots.set h.1.toNat (if m.loose then 0 else 2, p.2) } | none => m)
    else m := by rw [doesV, hd'] <;> rfl
  have hdd := (hands_rf hd').2
  have hhd := (hands_rf hd').1
  rw [Int.toNat_natCast] at hdd hhd
  have dl : (toRf m).depth.length = m.hands.length := by simp [toRf]
  have hln : (toRf m).holds.length = m.hands.length := by simp [toRf]
  have cd : Chg [] w w.drew := (Chg.refl _ _).drew
  have h7d : hp w.drew g7 = some (.cells (hnC h).toArray 51) := h7
  have e0 : (hnC h).toArray[0 + 0]? = some (.int .i64 h.1) := rfl
  have e1 : (hnC h).toArray[0 + 1]? = some (.int .i64 h.2.1) := rfl
  by_cases k3 : o.1 = 3
  · have q : (o.1 == 3) = true := by rw [k3]; rfl
    rw [if_pos k3] at dv
    obtain ⟨b, c, hl, hbg, hFb, hld, hput⟩ := I.intPut (k := 10) (L := (toRf m).depth) rfl hdd
    obtain ⟨ok, F1, t1, t2⟩ := hput (d.depth + 1)
    have ia := ia_ints (b := b) (n := (toRf m).depth.length) (c := c) (i := (nn : Int)) n0 (by rw [dl]; exact n1)
    rw [Int.toNat_natCast] at ia
    have hl10 : ldC (hp w g) (0 + 10) = some (.slice (some ⟨b, 0, none⟩) (toRf m).depth.length c) := hl
    simp -implicitDefEqProofs only [L97_0, ad, ax, am, aM, aN, aQ, aR, av, ak, aJ, aK, aS, aT, ay, ap, aU, aV, aX, aY, ae, ac, aj, ag, z1z, z2z, z3z, z4z, aH, af, aD, aB, aC, aA, aE, aG, z5z, z6z, ah, z7z, z8z, au, bq, bj, h6, bD, q, fa_154_5, ce, hl10, ia, hld, bG, bC (n := d.depth + 1) (by rw [codeV, if_neg (by omega), if_pos k3] at hco; omega) (by rw [codeV, if_neg (by omega), if_pos k3] at hco; omega)]
    rw [st_3 rfl rfl ok, dv, rf_setHd]
    have hs : (toRf m).holds.set nn d.holds = (toRf m).holds := set_same hhd
    simp only [hs]
    exact ⟨by first | rfl | trivial, F1, t1, t2.pre hc⟩
  by_cases k4 : o.1 = 4
  · have q : (o.1 == 4) = true := by rw [k4]; rfl
    rw [if_neg k3, if_pos k4] at dv
    obtain ⟨b, c, hl, hbg, hFb, hld, hput⟩ := I.intPut (k := 10) (L := (toRf m).depth) rfl hdd
    obtain ⟨ok, F1, t1, t2⟩ := hput (d.depth - 1)
    have ia := ia_ints (b := b) (n := (toRf m).depth.length) (c := c) (i := (nn : Int)) n0 (by rw [dl]; exact n1)
    rw [Int.toNat_natCast] at ia
    have hl10 : ldC (hp w g) (0 + 10) = some (.slice (some ⟨b, 0, none⟩) (toRf m).depth.length c) := hl
    have I1 : RfI (put w b ((getC (hp w b)).setIfInBounds nn (.int .i64 (d.depth - 1))) (getE (hp w b))) g { toRf m with depth := (toRf m).depth.set nn (d.depth - 1) } F1 := t1
    have hdd1 : ((toRf m).depth.set nn (d.depth - 1))[nn]? = some (d.depth - 1) := by rw [List.getElem?_set, if_pos rfl, if_pos (List.getElem?_eq_some_iff.1 hdd).1]
    simp -implicitDefEqProofs only [L97_0, ad, ax, am, aM, aN, aQ, aR, av, ak, aJ, aK, aS, aT, ay, ap, aU, aV, aX, aY, ae, ac, aj, ag, z1z, z2z, z3z, z4z, aH, af, aD, aB, aC, aA, aE, aG, z5z, z6z, ah, z7z, z8z, au, bq, bj, h6, bD, eqf k3, q, fa_154_5, ce, hl10, ia, hld, bp_sub, bC (n := d.depth - 1) (by rw [codeV, if_neg (by omega), if_neg k3, if_pos k4] at hco; omega) (by rw [codeV, if_neg (by omega), if_neg k3, if_pos k4] at hco; omega)]
    rw [st_3 rfl rfl ok, dv]
    generalize put w b ((getC (hp w b)).setIfInBounds nn (.int .i64 (d.depth - 1))) (getE (hp w b)) = w1 at *
    obtain ⟨b1, c1, hl1, hbg1, _, hld1, _⟩ := I1.intPut (k := 10) (L := (toRf m).depth.set nn (d.depth - 1)) rfl hdd1
    have hl11 : ldC (hp w1 g) (0 + 10) = some (.slice (some ⟨b1, 0, none⟩) (toRf m).depth.length c1) := by have := hl1; rw [List.length_set] at this; exact this
    have ia1 := ia_ints (b := b1) (n := (toRf m).depth.length) (c := c1) (i := (nn : Int)) n0 (by rw [dl]; exact n1)
    rw [Int.toNat_natCast] at ia1
    by_cases hz : d.depth - 1 = 0
    · have e : (d.depth - 1 == 0) = true := by rw [hz]; rfl
      obtain ⟨b2, c2, v2, Fk2, hl2, _, _, _, hld2, _, hput2⟩ := I1.holdPut (nn := nn) (l := d.holds) hhd
      have iah := ia_152 (b := b2) (p := 0) (n := (toRf m).holds.length) (c := c2) (j := .i64) (i := (nn : Int)) (by omega) (by omega)
      rw [Int.toNat_natCast, Nat.zero_add, Nat.mul_one] at iah
      obtain ⟨ok2, s1, s2, _, F2, t3, t4⟩ := hput2 w1 none' [] (.slice none 0 0) ⟨ChgP.refl _ _, fun k hk => hk.elim⟩ isRow.nil
      have hl2' : ldC (hp w1 g) (0 + 11) = some (.slice (some ⟨b2, 0, none⟩) (toRf m).holds.length c2) := hl2
      simp -implicitDefEqProofs only [ad, ax, am, aM, aN, aQ, aR, av, ak, aJ, aK, aS, aT, ay, ap, aU, aV, aX, aY, ae, ac, aj, ag, z1z, z2z, z3z, z4z, aH, af, aD, aB, aC, aA, aE, aG, z5z, z6z, ah, z7z, z8z, au, fa_154_5, fa_154_6, ce, bj, hl11, ia1, hld1, e, ld_152, hl2', iah]
      rw [st_159 s1 s2 ok2, if_pos hz, rf_setHd]
      have e2 : (d.depth - 1 : Int) = 0 := hz
      rw [e2] at t3
      exact ⟨by first | rfl | trivial, F2, t3, (t2.trans t4).pre hc⟩
    · simp -implicitDefEqProofs only [ad, ax, am, aM, aN, aQ, aR, av, ak, aJ, aK, aS, aT, ay, ap, aU, aV, aX, aY, ae, ac, aj, ag, z1z, z2z, z3z, z4z, aH, af, aD, aB, aC, aA, aE, aG, z5z, z6z, ah, z7z, z8z, au, fa_154_5, ce, bj, hl11, ia1, hld1, eqf hz]
      rw [if_neg hz, rf_setHd]
      have hs : (toRf m).holds.set nn d.holds = (toRf m).holds := set_same hhd
      simp only [hs]
      exact ⟨by first | rfl | trivial, F1, I1, t2.pre hc⟩
  by_cases k5 : o.1 = 5
  · have q : (o.1 == 5) = true := by rw [k5]; rfl
    rw [if_neg k3, if_neg k4, if_pos k5] at dv
    obtain ⟨s, gn, rv, dd, hh, R⟩ := I.rd
    simp -implicitDefEqProofs only [L97_0, ad, ax, am, aM, aN, aQ, aR, av, ak, aJ, aK, aS, aT, ay, ap, aU, aV, aX, aY, ae, ac, aj, ag, z1z, z2z, z3z, z4z, aH, af, aD, aB, aC, aA, aE, aG, z5z, z6z, ah, z7z, z8z, au, bq, bj, h6, bD, eqf k3, eqf k4, q, bX, fa_51_1, h7, e0, e1]
    refine (c_rHas R n0 (by rw [Int.toNat_natCast]; exact hhd) (by omega) (nmOf h)).step ?_
    rw [show decide (nmOf h ∈ d.holds) = holdsV d h from rfl]
    cases hv : holdsV d h with
    | true =>
      simp -implicitDefEqProofs only [ad, ax, am, aM, aN, aQ, aR, av, ak, aJ, aK, aS, aT, ay, ap, aU, aV, aX, aY, ae, ac, aj, ag, z1z, z2z, z3z, z4z, aH, af, aD, aB, aC, aA, aE, aG, z5z, z6z, ah, z7z, z8z, au]
      rw [dv, if_pos hv]
      exact ⟨by first | rfl | trivial, F, I, UpdP.of0 hc⟩
    | false =>
      rw [if_neg (by rw [hv]; simp)] at dv
      obtain ⟨b2, c2, v2, Fk2, hl2, hbg2, _, _, hld2, hk2, hput2⟩ := (I.keep cd).holdPut (nn := nn) (l := d.holds) hhd
      have iah := ia_152 (b := b2) (p := 0) (n := (toRf m).holds.length) (c := c2) (j := .i64) (i := (nn : Int)) (by omega) (by omega)
      rw [Int.toNat_natCast, Nat.zero_add, Nat.mul_one] at iah
      have hl2' : ldC (hp w g) (0 + 11) = some (.slice (some ⟨b2, 0, none⟩) (toRf m).holds.length c2) := hl2
      have hld2' : ldC (hp w b2) nn = some v2 := hld2
      obtain ⟨hown, _⟩ := flat_own hk2
      simp -implicitDefEqProofs only [ad, ax, am, aM, aN, aQ, aR, av, ak, aJ, aK, aS, aT, ay, ap, aU, aV, aX, aY, ae, ac, aj, ag, z1z, z2z, z3z, z4z, aH, af, aD, aB, aC, aA, aE, aG, z5z, z6z, ah, z7z, z8z, au, fa_154_6, bX, fa_51_1, ld_152, ld_159, bj, hl2', iah, hld2', h7, e0, e1, bd_187_0_1]
      have fin : ∀ (x' : Value) (w2 : World), w2.ownsRow 0 187 2 x' (d.holds.length + 1) (d.holds.flatMap nmC ++ [.int .i64 h.1, .int .i64 h.2.1]) → w.drew.grownBy w2 v2.ownBlock → NewB w.drew v2 x' →
          ldC (hp w2 g) (0 + 11) = some (.slice (some ⟨b2, 0, none⟩) (toRf m).holds.length c2) ∧ effu Try.prog (Instr.storeAt 159 (.pointer (some ⟨b2, nn, none⟩)) x') w2 fun w' => ∃ F', RfI w' g (toRf (doesV m nn o h)) F' ∧ UpdP F F' W w' := by
        intro x' w2 ho hg hnb
        have hk2' : isRow 187 2 d.holds.length ((d.holds.flatMap nmC).map isV) w.drew Fk2 v2 := hk2
        obtain ⟨F2, hr2, hu2⟩ := flat_grown (vs := nmC (nmOf h)) hk2' ho hg hnb
        have hr2' : keysT (d.holds ++ [nmOf h]) w2 F2 x' := by
          rw [keysT, List.length_append]
          have e : (d.holds ++ [nmOf h]).flatMap nmC = d.holds.flatMap nmC ++ nmC (nmOf h) := by simp
          rw [e]; exact hr2
        obtain ⟨ok2, s1, s2, hgg, F3, t3, t4⟩ := hput2 w2 F2 (d.holds ++ [nmOf h]) x' hu2 hr2'
        refine ⟨by rw [hgg]; exact hl2', ?_⟩
        rw [st_159 s1 s2 ok2, dv, rf_setHd]
        have hs : (toRf m).depth.set nn d.depth = (toRf m).depth := set_same hdd
        simp only [hs]
        exact ⟨F3, t3, t4.pre (hc.trans cd)⟩
      have h63 := fun (x' : Value) (w2 : World) (a : _) (b : _) (c : _) => fin x' w2 a b c
      repeat' (with_reducible apply And.intro)
      all_goals
        refine ps_159 (fun u hu => by simp only [List.mem_cons, List.not_mem_nil, or_false] at hu; rcases hu with rfl | rfl <;> rfl) hown (by omega) (Nat.zero_le _) fun x' w2 ho hg hnb => ?_
        obtain ⟨f1, f2⟩ := fin x' w2 ho hg hnb
        try simp -implicitDefEqProofs only [ad, ax, am, aM, aN, aQ, aR, av, ak, aJ, aK, aS, aT, ay, ap, aU, aV, aX, aY, ae, ac, aj, ag, z1z, z2z, z3z, z4z, aH, af, aD, aB, aC, aA, aE, aG, z5z, z6z, ah, z7z, z8z, au, ld_152, f1, iah]
        first | exact f2 | (refine cast ?_ f2; congr 1; funext w'; simp)
  by_cases k10 : o.1 = 10
  · have q : (o.1 == 10) = true := by rw [k10]; rfl
    obtain ⟨i, r, hf, hri, hnm, hlv⟩ := region_ok hr (by omega)
    obtain ⟨i', hf', hixe⟩ := hix (by rw [show ofK o.1 = 1 by rw [k10]; rfl]; decide)
    rw [hf] at hf'
    cases hf'
    rw [hixe]
    obtain ⟨s0, s1, s2⟩ := slots_at hlv
    have hn1 : r.nm.1 = h.1 := by rw [hnm]; rfl
    have hn2 : r.nm.2 = h.2.1 := by rw [hnm]; rfl
    have s0' : 0 ≤ h.1 := s0
    have s1' : h.1 < m.slots.length := s1
    have s2' : m.slots[r.nm.1.toNat]? = some (1, h.2.1) := by rw [hn1]; exact s2
    have hx : (toRf m).rgs[i]? = some (r, isLv m r.nm) := by rw [rgs_rf, hri]; rfl
    have hil : i < (toRf m).rgs.length := (List.getElem?_eq_some_iff.1 hx).1
    obtain ⟨b, c, v, Fk, hl, hbg, hFb, hsub, hld, hv, hput⟩ := I.rgPut hx (k := 4) (by omega) (P := isV (.bool (isLv m r.nm))) rfl
    obtain ⟨ok, _, _, _, F1, t1, t2⟩ := hput w none' (isV (.bool false)) (.bool false) (r, false) (UpdP.none hv.2 w) (good_isV ⟨rfl, rfl⟩) ⟨rfl, fun _ h => h⟩ rfl
    have ia := ia_151 (b := b) (p := 0) (n := (toRf m).rgs.length) (c := c) (j := .i64) (i := (i : Int)) (by omega) (by omega)
    rw [Int.toNat_natCast, Nat.zero_add] at ia
    simp -implicitDefEqProofs only [L97_0, ad, ax, am, aM, aN, aQ, aR, av, ak, aJ, aK, aS, aT, ay, ap, aU, aV, aX, aY, ae, ac, aj, ag, z1z, z2z, z3z, z4z, aH, af, aD, aB, aC, aA, aE, aG, z5z, z6z, ah, z7z, z8z, au, bq, bj, h6, bD, eqf k3, eqf k4, eqf k5, q, bK, bN, hl, ia, fa_158_4]
    rw [st_4 (o := i * 8 + 4) rfl rfl ok]
    have k7a := t2.keep h7 f7
    generalize put w b ((getC (hp w b)).setIfInBounds (i * 8 + 4) (.bool false)) (getE (hp w b)) = w1 at *
    have cd1 : Chg [] w1 w1.drew := (Chg.refl _ _).drew
    have stl : (toRf m).state.length = m.slots.length := by simp [toRf]
    have hst : (toRf m).state[h.1.toNat]? = some 1 := by rw [← hn1]; simp [toRf, s2']
    have I1 : RfI w1.drew g { toRf m with rgs := (toRf m).rgs.set i (r, false) } F1 := RfI.keep t1 cd1
    obtain ⟨b2, c2, hl2, hbg2, hFb2, hld2, hput2⟩ := I1.intPut (k := 7) (L := (toRf m).state) rfl hst
    obtain ⟨ok2, F2, t3, t4⟩ := hput2 2
    have ia2 := ia_ints (b := b2) (n := (toRf m).state.length) (c := c2) (i := h.1) s0' (by rw [stl]; exact s1')
    have hl27 : ldC (hp w1 g) (0 + 7) = some (.slice (some ⟨b2, 0, none⟩) (toRf m).state.length c2) := hl2
    have k7d : hp w1.drew g7 = some (.cells (hnC h).toArray 51) := k7a.1
    simp -implicitDefEqProofs only [ad, ax, am, aM, aN, aQ, aR, av, ak, aJ, aK, aS, aT, ay, ap, aU, aV, aX, aY, ae, ac, aj, ag, z1z, z2z, z3z, z4z, aH, af, aD, aB, aC, aA, aE, aG, z5z, z6z, ah, z7z, z8z, au, fa_154_2, ce, hl27, bX, bj, k7a.1, e0, ia2]
    rw [st_3 (o := h.1.toNat) rfl rfl ok2]
    have k7b := t4.keep k7d k7a.2
    have I2 : RfI (put w1.drew b2 ((getC (hp w1.drew b2)).setIfInBounds h.1.toNat (.int .i64 2)) (getE (hp w1.drew b2))) g { toRf m with rgs := (toRf m).rgs.set i (r, false), state := (toRf m).state.set h.1.toNat 2 } F2 := t3
    have u2 := (t2.trans (t4.pre cd1)).pre hc
    generalize put w1.drew b2 ((getC (hp w1.drew b2)).setIfInBounds h.1.toNat (.int .i64 2)) (getE (hp w1.drew b2)) = w2 at *
    obtain ⟨_, _, _, _, _, R2⟩ := I2.rd
    have ml : ldC (hp w2 g) (0 + 6) = some (.bool m.loose) := R2.l
    have dv' : doesV m nn o h = { m with slots := m.slots.set r.nm.1.toNat (if m.loose then 0 else 2, h.2.1) } := by
      rw [dv, if_neg k3, if_neg k4, if_neg k5, if_neg (by omega), if_neg (by omega), if_neg (by omega), if_pos k10, hn1, ← hn1, s2']
    by_cases hlo : m.loose = true
    · rw [hlo] at ml
      have cd2 : Chg [] w2 w2.drew := (Chg.refl _ _).drew
      have hst2 : ((toRf m).state.set h.1.toNat 2)[h.1.toNat]? = some 2 := by rw [List.getElem?_set, if_pos rfl, if_pos (by rw [stl]; omega)]
      obtain ⟨b3, c3, hl3, _, _, _, hput3⟩ := (I2.keep cd2).intPut (k := 7) (L := (toRf m).state.set h.1.toNat 2) rfl hst2
      obtain ⟨ok3, F3, t5, t6⟩ := hput3 0
      have hl37 : ldC (hp w2 g) (0 + 7) = some (.slice (some ⟨b3, 0, none⟩) (toRf m).state.length c3) := by have := hl3; rw [List.length_set] at this; exact this
      have ia3 := ia_ints (b := b3) (n := (toRf m).state.length) (c := c3) (i := h.1) s0' (by rw [stl]; exact s1')
      simp -implicitDefEqProofs only [ad, ax, am, aM, aN, aQ, aR, av, ak, aJ, aK, aS, aT, ay, ap, aU, aV, aX, aY, ae, ac, aj, ag, z1z, z2z, z3z, z4z, aH, af, aD, aB, aC, aA, aE, aG, z5z, z6z, ah, z7z, z8z, au, fa_154_1, fa_154_2, ld_4, ml, ce, hl37, bX, bj, k7b.1, e0, ia3]
      rw [st_3 (o := h.1.toNat) rfl rfl ok3, dv', if_pos hlo]
      have := rf_free (v := 0) (q := (1, h.2.1)) Wn' hri s2' hn2 (by decide)
      simp only at this
      rw [this, hn1]
      rw [List.set_set] at t5
      exact ⟨by first | rfl | trivial, F3, t5, u2.trans (t6.pre cd2)⟩
    · have hlf : m.loose = false := by simpa using hlo
      rw [hlf] at ml
      simp -implicitDefEqProofs only [ad, ax, am, aM, aN, aQ, aR, av, ak, aJ, aK, aS, aT, ay, ap, aU, aV, aX, aY, ae, ac, aj, ag, z1z, z2z, z3z, z4z, aH, af, aD, aB, aC, aA, aE, aG, z5z, z6z, ah, z7z, z8z, au, fa_154_1, ld_4, ml]
      rw [dv', if_neg hlo]
      have := rf_free (v := 2) (q := (1, h.2.1)) Wn' hri s2' hn2 (by decide)
      simp only at this
      rw [this, hn1]
      exact ⟨by first | rfl | trivial, F2, I2, u2⟩
  have touch : o.1 = 7 ∨ o.1 = 8 ∨ o.1 = 9 → P97_1 (.pointer (some ⟨g, 0, none⟩)) (.pointer (some ⟨g6, 0, none⟩)) (.pointer (some ⟨g7, 0, none⟩)) (.int .i64 ix) (.bool true) w fun v w' => v = .tuple #[] ∧ ∃ F', RfI w' g (toRf (doesV m nn o h)) F' ∧ UpdP F F' W w' := by
    intro hk
    obtain ⟨t1, t2⟩ := touch_ok hr (by omega) (by omega)
    obtain ⟨i, hf, rfl⟩ := hix (by rw [ofK, if_neg (by omega), if_pos ⟨by omega, by omega⟩]; decide)
    obtain ⟨i', r, k, L, j, O⟩ := obj_at Wm t1 o0 t2
    have : i' = i := by have := O.fi; rw [hf] at this; exact (Option.some.inj this).symm
    subst this
    exact l_rDoes1 hc I Wm hK h6 h7 O hd hk
  by_cases k7 : o.1 = 7
  · have q : (o.1 == 7) = true := by rw [k7]; rfl
    simp -implicitDefEqProofs only [L97_0, ad, ax, am, aM, aN, aQ, aR, av, ak, aJ, aK, aS, aT, ay, ap, aU, aV, aX, aY, ae, ac, aj, ag, z1z, z2z, z3z, z4z, aH, af, aD, aB, aC, aA, aE, aG, z5z, z6z, ah, z7z, z8z, au, bq, bj, h6, bD, eqf k3, eqf k4, eqf k5, eqf k10, q]
    exact touch (.inl k7)
  by_cases k8 : o.1 = 8
  · have q : (o.1 == 8) = true := by rw [k8]; rfl
    simp -implicitDefEqProofs only [L97_0, ad, ax, am, aM, aN, aQ, aR, av, ak, aJ, aK, aS, aT, ay, ap, aU, aV, aX, aY, ae, ac, aj, ag, z1z, z2z, z3z, z4z, aH, af, aD, aB, aC, aA, aE, aG, z5z, z6z, ah, z7z, z8z, au, bq, bj, h6, bD, eqf k3, eqf k4, eqf k5, eqf k10, eqf k7, q]
    exact touch (.inr (.inl k8))
  by_cases k9 : o.1 = 9
  · have q : (o.1 == 9) = true := by rw [k9]; rfl
    simp -implicitDefEqProofs only [L97_0, ad, ax, am, aM, aN, aQ, aR, av, ak, aJ, aK, aS, aT, ay, ap, aU, aV, aX, aY, ae, ac, aj, ag, z1z, z2z, z3z, z4z, aH, af, aD, aB, aC, aA, aE, aG, z5z, z6z, ah, z7z, z8z, au, bq, bj, h6, bD, eqf k3, eqf k4, eqf k5, eqf k10, eqf k7, eqf k8, q]
    exact touch (.inr (.inr k9))
  · simp -implicitDefEqProofs only [L97_0, ad, ax, am, aM, aN, aQ, aR, av, ak, aJ, aK, aS, aT, ay, ap, aU, aV, aX, aY, ae, ac, aj, ag, z1z, z2z, z3z, z4z, aH, af, aD, aB, aC, aA, aE, aG, z5z, z6z, ah, z7z, z8z, au, bq, bj, h6, bD, eqf k3, eqf k4, eqf k5, eqf k10, eqf k7, eqf k8, eqf k9]
    apply L97_1_ok
    simp -implicitDefEqProofs only [L97_1, ad, ax, am, aM, aN, aQ, aR, av, ak, aJ, aK, aS, aT, ay, ap, aU, aV, aX, aY, ae, ac, aj, ag, z1z, z2z, z3z, z4z, aH, af, aD, aB, aC, aA, aE, aG, z5z, z6z, ah, z7z, z8z, au]
    rw [dv, if_neg k3, if_neg k4, if_neg k5, if_neg k7, if_neg k8, if_neg k9, if_neg k10]
    exact ⟨by first | rfl | trivial, F, I, UpdP.of0 hc⟩
end
end Go.Proofs.Ytgamnncehjcdiaa

namespace Go.Proofs.Ytgamnncehjcdiaa
open Go Ev Go.RowKit

section
variable {W w : World} {g g6 g7 : Nat} {m : MdV} {x : RfV} {F : Fp} {K : Nat} {o : OpV} {h : HnV} {d : HdV} {nn : Nat} {r : RsV}
theorem RfI.notF (I : RfI W g x F) {y : Nat} (h : W.heap.size ≤ y) : ¬ F y := fun hx => by have := isAt.lt I (cf x) y hx; omega
theorem known_find (hk : knownV m h (ofK o.1) = true) : ∃ i, findR m.rgs (nmOf h) = some i := by
  unfold knownV at hk
  split at hk
  · cases hk
  · rename_i i hi; exact ⟨i, hi⟩
theorem rf_len (m : MdV) : (toRf m).rgs.length = m.rgs.length := by simp [toRf]
set_option maxHeartbeats 1000000 in
theorem c_rDoes (I : RfI w g (toRf m) F) (Wm : Wf m K) (hK : K ≤ 1000000) (Wn' : Wn m K) (hm : mayV m nn o = true) (hd : m.hands[nn]? = some d) (hr : refusesV m d o h = 0) :
    CallR Try.prog 97 [.pointer (some ⟨g, 0, none⟩), .int .i64 nn, .agg (opC o).toArray, .agg (hnC h).toArray] w fun v w' => v = .tuple #[] ∧ ∃ F', RfI w' g (toRf (doesV m nn o h)) F' ∧ UpdP F F' w w' := by
  apply F97_ok
  simp -implicitDefEqProofs only [F97, bE, bA, bf]
  generalize hw : (w.alloc (.cells (opC o).toArray 40)).alloc _ = w1
  have c1 : Chg [] w w1 := by rw [← hw]; exact ((Chg.refl _ _).alloc _).alloc _
  have a6 : hp w1 w.heap.size = some (.cells (opC o).toArray 40) := by rw [← hw, bc, bf, if_neg (by omega), bc, if_pos rfl]
  have a7 : hp w1 (w.heap.size + 1) = some (.cells (hnC h).toArray 51) := by rw [← hw, bc, bf, if_pos rfl]
  clear hw
  have f7 : ¬ F (w.heap.size + 1) := I.notF (by omega)
  have e0 : (hnC h).toArray[0 + 0]? = some (.int .i64 h.1) := rfl
  have e1 : (hnC h).toArray[0 + 1]? = some (.int .i64 h.2.1) := rfl
  simp -implicitDefEqProofs only [ad, ax, am, aM, aN, aQ, aR, av, ak, aJ, aK, aS, aT, ay, ap, aU, aV, aX, aY, ae, ac, aj, ag, z1z, z2z, z3z, z4z, aH, af, aD, aB, aC, aA, aE, aG, z5z, z6z, ah, z7z, z8z, au, bq, bj, a6, bD]
  refine (c_Of o.1 w1).step ?_
  by_cases k0 : ofK o.1 = 0
  · have ez : (ofK o.1 != 0) = false := by rw [k0]; rfl
    simp -implicitDefEqProofs only [ad, ax, am, aM, aN, aQ, aR, av, ak, aJ, aK, aS, aT, ay, ap, aU, aV, aX, aY, ae, ac, aj, ag, z1z, z2z, z3z, z4z, aH, af, aD, aB, aC, aA, aE, aG, z5z, z6z, ah, z7z, z8z, au, ez]
    exact l_rDoes0 c1 (I.keep c1) Wm hK Wn' a6 a7 f7 hm hd hr (fun h => absurd k0 h)
  · have ez : (ofK o.1 != 0) = true := bne_iff_ne.2 k0
    obtain ⟨i, hi⟩ := known_find ((refuses_code hr).1.resolve_left k0)
    obtain ⟨s2, gn2, rv2, dd2, hh2, R2⟩ := (I.keep c1).rd
    simp -implicitDefEqProofs only [ad, ax, am, aM, aN, aQ, aR, av, ak, aJ, aK, aS, aT, ay, ap, aU, aV, aX, aY, ae, ac, aj, ag, z1z, z2z, z3z, z4z, aH, af, aD, aB, aC, aA, aE, aG, z5z, z6z, ah, z7z, z8z, au, ez, bX, fa_51_1, bj, a7, e0, e1]
    refine (c_rFind R2 (nmOf h) (by rw [rf_len]; exact Nat.le_trans Wm.rl hK)).step ?_
    rw [findX_rf, hi]
    exact l_rDoes0 c1 (I.keep c1) Wm hK Wn' a6 a7 f7 hm hd hr (fun _ => ⟨i, hi, rfl⟩)
theorem rrs_grown {L : List (RgV × Bool)} {w' : World} {y y' : Value} {xs : List Value} (hh : rrsT L w F y) (hown : w.ownsRow 0 158 8 y L.length xs) (nm : NmV) (cls : Int)
    (ho : w'.ownsRow 0 158 8 y' (L.length + 1) (xs ++ [.int .i64 nm.1, .int .i64 nm.2, .int .i64 cls, .int .i64 0, .bool true, .slice none 0 0, .slice none 0 0, .slice none 0 0])) (hg : w.grownBy w' y.ownBlock) (hnb : NewB w y y') :
    ∃ F', rrsT (L ++ [(⟨nm, cls, 0, [], [], []⟩, true)]) w' F' y' ∧ UpdP F F' w w' := by
  have hy : Parts w (rrT (⟨nm, cls, 0, [], [], []⟩, true)) [.int .i64 nm.1, .int .i64 nm.2, .int .i64 cls, .int .i64 0, .bool true, .slice none 0 0, .slice none 0 0, .slice none 0 0] (fun _ => none') := by
    refine ⟨rfl, fun k P v hP hv => ?_, fun _ _ _ _ _ b hb _ => hb⟩
    have hk := (List.getElem?_eq_some_iff.1 hP).1
    rw [rrT_len] at hk
    have hk' : k = 0 ∨ k = 1 ∨ k = 2 ∨ k = 3 ∨ k = 4 ∨ k = 5 ∨ k = 6 ∨ k = 7 := by omega
    rcases hk' with rfl | rfl | rfl | rfl | rfl | rfl | rfl | rfl <;> cases hP <;> cases hv
    · exact ⟨rfl, fun _ h => h⟩
    · exact ⟨rfl, fun _ h => h⟩
    · exact ⟨rfl, fun _ h => h⟩
    · exact ⟨rfl, fun _ h => h⟩
    · exact ⟨rfl, fun _ h => h⟩
    · exact isRow.nil
    · exact isRow.nil
    · exact isRow.nil
  obtain ⟨F', h1, h2, _⟩ := isRow.grow (G := none') (m := 1) hh (good_rrL L) (good_rr _) hy (fun b => ⟨fun h => h.elim, fun ⟨_, _, h⟩ => h⟩) (fun _ _ h => h) (fun xs' h' => by rw [own_unique h' hown]; exact ho) hg hnb
  refine ⟨F', ?_, ⟨h2.chg.mono fun k hk => hk.resolve_right id, fun k hk => (h2.sub k hk).imp (·.resolve_right id) id⟩⟩
  rw [rrsT, List.length_append, List.flatMap_append]
  simpa using h1
theorem rf_create (Wn' : Wn m K) {s : Nat} {p : NmV} (hp' : m.slots[s]? = some p) (p0 : p.1 = 0) (cls : Int) (hl : laterV p.2 = p.2 + 1) :
    toRf { m with slots := m.slots.set s (1, laterV p.2), rgs := m.rgs ++ [⟨((s : Int), laterV p.2), cls, 0, [], [], []⟩] } =
      { toRf m with state := (toRf m).state.set s 1, gen := (toRf m).gen.set s (laterV p.2), rgs := (toRf m).rgs ++ [(⟨((s : Int), laterV p.2), cls, 0, [], [], []⟩, true)] } := by
  have hsl := (List.getElem?_eq_some_iff.1 hp').1
  have lvN : isLv { m with slots := m.slots.set s (1, laterV p.2), rgs := m.rgs ++ [⟨((s : Int), laterV p.2), cls, 0, [], [], []⟩] } ((s : Int), laterV p.2) = true := by
    unfold isLv
    simp only [List.length_set, Int.toNat_natCast]
    rw [decide_eq_true (by omega), Bool.true_and]
    exact decide_eq_true (by rw [List.getElem?_set, if_pos rfl, if_pos hsl])
  have lvE : ∀ x ∈ m.rgs, isLv { m with slots := m.slots.set s (1, laterV p.2), rgs := m.rgs ++ [⟨((s : Int), laterV p.2), cls, 0, [], [], []⟩] } x.nm = isLv m x.nm := fun x hx => by
    obtain ⟨a, b, c, dd⟩ := Wn'.gn x hx
    unfold isLv
    simp only [List.length_set]
    congr 1
    by_cases hs : s = x.nm.1.toNat
    · have a1 : m.slots[x.nm.1.toNat]? = some p := by rw [← hs]; exact hp'
      have a2 : (m.slots.set s (1, laterV p.2))[x.nm.1.toNat]? = some (1, laterV p.2) := by rw [← hs, List.getElem?_set, if_pos rfl, if_pos hsl]
      have := dd p a1
      rw [decide_eq_false (by rw [a2]; intro e; have := (Prod.mk.inj (Option.some.inj e)).2; omega), decide_eq_false (by rw [a1]; intro e; have := congrArg Prod.fst (Option.some.inj e); simp only at this; omega)]
    · have : (m.slots.set s (1, laterV p.2))[x.nm.1.toNat]? = m.slots[x.nm.1.toNat]? := by rw [List.getElem?_set, if_neg hs]
      rw [this]
  unfold toRf
  simp only [List.map_set, List.map_append, List.map_cons, List.map_nil, lvN]
  congr 1
  congr 1
  exact List.map_congr_left fun x hx => by rw [lvE x hx]
set_option maxHeartbeats 2000000 in
theorem c_rCreate (I : RfI w g (toRf m) F) (Wm : Wf m K) (Wn' : Wn m K) (hK : K + 1 ≤ 1000000) (o : OpV) (r : RsV) :
    CallR Try.prog 98 [.pointer (some ⟨g, 0, none⟩), .agg (opC o).toArray, .agg (rsC r).toArray] w fun v w' => v = .bool (createsV m o.2.2.2.1 r).1 ∧ ∃ F', RfI w' g (toRf (createsV m o.2.2.2.1 r).2) F' ∧ UpdP F F' w w' := by
  apply F98_ok
  simp -implicitDefEqProofs only [F98, bE, bA, bf]
  generalize hw : (w.alloc (.cells (opC o).toArray 40)).alloc _ = w1
  have c1 : Chg [] w w1 := by rw [← hw]; exact ((Chg.refl _ _).alloc _).alloc _
  have a4 : hp w1 w.heap.size = some (.cells (opC o).toArray 40) := by rw [← hw, bc, bf, if_neg (by omega), bc, if_pos rfl]
  have a5 : hp w1 (w.heap.size + 1) = some (.cells (rsC r).toArray 53) := by rw [← hw, bc, bf, if_pos rfl]
  clear hw
  have f4 : ¬ F w.heap.size := I.notF (Nat.le_refl _)
  have I1 := I.keep c1
  obtain ⟨s, gn, rv, dd, hh, R⟩ := I1.rd
  have hbe : be Try.prog .eql 53 (.tmp 9) (.tmp 10) (.agg (rsC r).toArray) (.agg (rsC (codeR 7)).toArray) = some (.bool (decide (r = codeR 7))) := be_rs r (codeR 7)
  have hl6 : ldC (hp w1 g) (0 + 6) = some (.bool m.loose) := R.l
  simp -implicitDefEqProofs only [bV a5, ad, bdr_0, hbe]
  by_cases r7 : r = codeR 7
  · have cv : createsV m o.2.2.2.1 r = (m.loose || decide (spareN m.slots = 0), m) := by rw [createsV, if_pos r7]
    simp -implicitDefEqProofs only [decide_eq_true r7, ad, ax, am, aM, aN, aQ, aR, av, ak, aJ, aK, aS, aT, ay, ap, aU, aV, aX, aY, ae, ac, aj, ag, z1z, z2z, z3z, z4z, aH, af, aD, aB, aC, aA, aE, aG, z5z, z6z, ah, z7z, z8z, au, fa_154_1, ld_4, hl6]
    rw [cv]
    by_cases hlo : m.loose = true
    · simp -implicitDefEqProofs only [hlo, ad, ax, am, aM, aN, aQ, aR, av, ak, aJ, aK, aS, aT, ay, ap, aU, aV, aX, aY, ae, ac, aj, ag, z1z, z2z, z3z, z4z, aH, af, aD, aB, aC, aA, aE, aG, z5z, z6z, ah, z7z, z8z, au]
      exact ⟨by simp, F, I1, UpdP.of0 c1⟩
    · have hlf : m.loose = false := by simpa using hlo
      simp -implicitDefEqProofs only [hlf, ad, ax, am, aM, aN, aQ, aR, av, ak, aJ, aK, aS, aT, ay, ap, aU, aV, aX, aY, ae, ac, aj, ag, z1z, z2z, z3z, z4z, aH, af, aD, aB, aC, aA, aE, aG, z5z, z6z, ah, z7z, z8z, au]
      refine (c_rSpare R (by simp only [toRf, List.length_map]; exact Wm.sl)).step ?_
      rw [rf_spare]
      simp -implicitDefEqProofs only [ad, ax, am, aM, aN, aQ, aR, av, ak, aJ, aK, aS, aT, ay, ap, aU, aV, aX, aY, ae, ac, aj, ag, z1z, z2z, z3z, z4z, aH, af, aD, aB, aC, aA, aE, aG, z5z, z6z, ah, z7z, z8z, au]
      refine ⟨?_, F, I1, UpdP.of0 c1⟩
      by_cases hz : spareN m.slots = 0
      · rw [hz]; rfl
      · rw [eqf (show (spareN m.slots : Int) ≠ 0 by omega), decide_eq_false hz]; rfl
  · have cvn : ¬ (0 ≤ r.2.1.1 ∧ r.2.1.1 < m.slots.length) → createsV m o.2.2.2.1 r = (false, m) := fun h => by rw [createsV, if_neg r7, if_neg h]
    have hc3 : ldC (hp w1 g) (0 + 0 + 3) = some (.int .i64 m.slots.length) := by
      rw [← Wn'.cs]; exact R.c 3 (by omega)
    have stl : (toRf m).state.length = m.slots.length := by simp [toRf]
    have gnl : (toRf m).gen.length = m.slots.length := by simp [toRf]
    by_cases s0 : r.2.1.1 < 0
    · simp -implicitDefEqProofs only [decide_eq_false r7, ad, ax, am, aM, aN, aQ, aR, av, ak, aJ, aK, aS, aT, ay, ap, aU, aV, aX, aY, ae, ac, aj, ag, z1z, z2z, z3z, z4z, aH, af, aD, aB, aC, aA, aE, aG, z5z, z6z, ah, z7z, z8z, au, fa_53_1, bX, bj, a5, rs_1, s0]
      rw [cvn (by omega)]
      exact ⟨by first | rfl | trivial, F, I1, UpdP.of0 c1⟩
    by_cases s1 : (m.slots.length : Int) ≤ r.2.1.1
    · simp -implicitDefEqProofs only [decide_eq_false r7, ad, ax, am, aM, aN, aQ, aR, av, ak, aJ, aK, aS, aT, ay, ap, aU, aV, aX, aY, ae, ac, aj, ag, z1z, z2z, z3z, z4z, aH, af, aD, aB, aC, aA, aE, aG, z5z, z6z, ah, z7z, z8z, au, fa_53_1, bX, cr, fa_74_3, bj, a5, rs_1, s0, hc3, aA, ge_iff_le, s1]
      rw [cvn (by omega)]
      exact ⟨by first | rfl | trivial, F, I1, UpdP.of0 c1⟩
    obtain ⟨p, hp'⟩ : ∃ p, m.slots[r.2.1.1.toNat]? = some p := ⟨_, List.getElem?_eq_getElem (by omega)⟩
    have hst : (toRf m).state[r.2.1.1.toNat]? = some p.1 := by simp [toRf, hp']
    have hgn : (toRf m).gen[r.2.1.1.toNat]? = some p.2 := by simp [toRf, hp']
    obtain ⟨b, c, hl, hbg, hFb, hld, hput⟩ := I1.intPut (k := 7) (L := (toRf m).state) rfl hst
    obtain ⟨b8, c8, hl8, hbg8, hFb8, hld8, _⟩ := I1.intPut (k := 8) (L := (toRf m).gen) rfl hgn
    have hl7 : ldC (hp w1 g) (0 + 7) = some (.slice (some ⟨b, 0, none⟩) (toRf m).state.length c) := hl
    have hl8' : ldC (hp w1 g) (0 + 8) = some (.slice (some ⟨b8, 0, none⟩) (toRf m).gen.length c8) := hl8
    have ia := ia_ints (b := b) (n := (toRf m).state.length) (c := c) (i := r.2.1.1) (by omega) (by rw [stl]; omega)
    have ia8 := ia_ints (b := b8) (n := (toRf m).gen.length) (c := c8) (i := r.2.1.1) (by omega) (by rw [gnl]; omega)
    by_cases p0 : p.1 = 0
    · have e0 : (p.1 != 0) = false := by rw [p0]; rfl
      have hld' : ldC (hp w1 b) r.2.1.1.toNat = some (.int .i64 p.1) := hld
      have pg := Wm.sg p (List.mem_of_getElem? hp')
      have pk := Wn'.gk p (List.mem_of_getElem? hp')
      have hlat : laterV p.2 = p.2 + 1 := by rw [laterV, if_pos (by omega)]
      have cv : createsV m o.2.2.2.1 r = if r = (0, (r.2.1.1, laterV p.2, 0, 0, 0), 0, 0) then
          (true, { m with slots := m.slots.set r.2.1.1.toNat (1, laterV p.2), rgs := m.rgs ++ [⟨(r.2.1.1, laterV p.2), o.2.2.2.1, 0, [], [], []⟩] }) else (false, m) := by
        rw [createsV, if_neg r7, if_pos (by omega), hp']
        simp only [ne_eq, p0, not_true_eq_false, if_false]
      have hbe2 : be Try.prog .neq 53 (.tmp 53) (.tmp 57) (.agg (rsC r).toArray) (.agg (rsC (0, (r.2.1.1, laterV p.2, 0, 0, 0), 0, 0)).toArray) = some (.bool (!decide (r = (0, (r.2.1.1, laterV p.2, 0, 0, 0), 0, 0)))) := be_nrs r (0, (r.2.1.1, laterV p.2, 0, 0, 0), 0, 0)
      simp -implicitDefEqProofs only [decide_eq_false r7, ad, ax, am, aM, aN, aQ, aR, av, ak, aJ, aK, aS, aT, ay, ap, aU, aV, aX, aY, ae, ac, aj, ag, z1z, z2z, z3z, z4z, aH, af, aD, aB, aC, aA, aE, aG, z5z, z6z, ah, z7z, z8z, au, fa_53_1, bX, cr, fa_154_2, fa_154_3, fa_74_3, bj, ce, a5, rs_1, s0, hc3, aA, ge_iff_le, s1, hl7, ia, hld', e0, hl8', ia8, hld8]
      refine (c_rLater p.2 pg.2 w1 pg.1).step ?_
      simp -implicitDefEqProofs only [ad, ax, am, aM, aN, aQ, aR, av, ak, aJ, aK, aS, aT, ay, ap, aU, aV, aX, aY, ae, ac, aj, ag, z1z, z2z, z3z, z4z, aH, af, aD, aB, aC, aA, aE, aG, z5z, z6z, ah, z7z, z8z, au, bV a5, bdh_01, bdr_1, hbe2]
      by_cases hr : r = (0, (r.2.1.1, laterV p.2, 0, 0, 0), 0, 0)
      · rw [if_pos hr] at cv
        rw [cv]
        have cd : Chg [] w1 w1.drew := (Chg.refl _ _).drew
        have I1d := I1.keep cd
        obtain ⟨bb, cc, hlb, hbgb, hFbb, _, hputb⟩ := I1d.intPut (k := 7) (L := (toRf m).state) rfl hst
        rw [show ldC (hp w1.drew g) 7 = _ from hl] at hlb
        cases hlb
        obtain ⟨ok, F1, t1, t2⟩ := hputb 1
        simp -implicitDefEqProofs only [decide_eq_true hr, ad, ax, am, aM, aN, aQ, aR, av, ak, aJ, aK, aS, aT, ay, ap, aU, aV, aX, aY, ae, ac, aj, ag, z1z, z2z, z3z, z4z, aH, af, aD, aB, aC, aA, aE, aG, z5z, z6z, ah, z7z, z8z, au, fa_154_2, fa_154_3, ce, hl7, hl8', ia, ia8]
        rw [st_3 (o := r.2.1.1.toNat) rfl rfl ok]
        have k4a := t2.keep (show hp w1.drew w.heap.size = _ from a4) f4
        have I2 : RfI (put w1.drew b ((getC (hp w1.drew b)).setIfInBounds r.2.1.1.toNat (.int .i64 1)) (getE (hp w1.drew b))) g { toRf m with state := (toRf m).state.set r.2.1.1.toNat 1 } F1 := t1
        have hl82 : ldC (hp (put w1.drew b ((getC (hp w1.drew b)).setIfInBounds r.2.1.1.toNat (.int .i64 1)) (getE (hp w1.drew b))) g) 8 = some (.slice (some ⟨b8, 0, none⟩) (toRf m).gen.length c8) := by rw [bS (Ne.symm hbg)]; exact hl8
        generalize put w1.drew b ((getC (hp w1.drew b)).setIfInBounds r.2.1.1.toNat (.int .i64 1)) (getE (hp w1.drew b)) = w2 at *
        obtain ⟨bg, cg, hlg, hbgg, _, _, hputg⟩ := I2.intPut (k := 8) (L := (toRf m).gen) rfl hgn
        rw [hl82] at hlg
        cases hlg
        obtain ⟨ok2, F2, t3, t4⟩ := hputg (laterV p.2)
        rw [st_3 (o := r.2.1.1.toNat) rfl rfl ok2]
        have k4b := t4.keep k4a.1 k4a.2
        have I3 : RfI (put w2 b8 ((getC (hp w2 b8)).setIfInBounds r.2.1.1.toNat (.int .i64 (laterV p.2))) (getE (hp w2 b8))) g { toRf m with state := (toRf m).state.set r.2.1.1.toNat 1, gen := (toRf m).gen.set r.2.1.1.toNat (laterV p.2) } F2 := t3
        generalize put w2 b8 ((getC (hp w2 b8)).setIfInBounds r.2.1.1.toNat (.int .i64 (laterV p.2))) (getE (hp w2 b8)) = w3 at *
        have cd3 : Chg [] w3 w3.drew := (Chg.refl _ _).drew
        obtain ⟨v, Fk, hsub, hng, hlr, hRr, hputr⟩ := isAt.repl (I3.keep cd3) (cf _) (k := 9) (P := rrsT (toRf m).rgs) rfl
        have hlr' : ldC (hp w3 g) (0 + 9) = some v := hlr
        obtain ⟨xs, Fs, q1, q2, q3, q4⟩ := hRr
        have hlen : (toRf m).rgs.length = m.rgs.length := rf_len m
        have hrl := Wm.rl
        simp -implicitDefEqProofs only [ad, ax, am, aM, aN, aQ, aR, av, ak, aJ, aK, aS, aT, ay, ap, aU, aV, aX, aY, ae, ac, aj, ag, z1z, z2z, z3z, z4z, aH, af, aD, aB, aC, aA, aE, aG, z5z, z6z, ah, z7z, z8z, au, bK, bT, bN, bj, hlr', k4b.1, op_3, bd_158_0_1_2_4]
        refine ps_151 (fun u hu => by simp only [List.mem_cons, List.not_mem_nil, or_false] at hu; rcases hu with rfl | rfl | rfl | rfl | rfl | rfl | rfl | rfl <;> rfl) q1 (by omega) (Nat.zero_le _) fun y' w4 ho hg hnb => ?_
        obtain ⟨F3, r1, r2⟩ := rrs_grown (nm := (r.2.1.1, laterV p.2)) (cls := o.2.2.2.1) (L := (toRf m).rgs) ⟨xs, Fs, q1, q2, q3, q4⟩ q1 ho hg hnb
        obtain ⟨ok3, z1, z2, _, F4, t5, t6⟩ := hputr w4 F3 (rrsT ((toRf m).rgs ++ [(⟨(r.2.1.1, laterV p.2), o.2.2.2.1, 0, [], [], []⟩, true)])) y' r2 (good_rrs _) r1
        rw [st_151 (o := 0 + 9) z1 z2 ok3]
        have hnat : ((r.2.1.1.toNat : Nat) : Int) = r.2.1.1 := by omega
        have rc := rf_create (s := r.2.1.1.toNat) Wn' hp' p0 o.2.2.2.1 hlat
        rw [hnat] at rc
        rw [rc]
        exact ⟨by first | rfl | trivial, F4, t5, ((t2.trans t4).pre (c1.trans cd)).trans (t6.pre cd3)⟩
      · rw [if_neg hr] at cv
        simp -implicitDefEqProofs only [decide_eq_false hr, ad, ax, am, aM, aN, aQ, aR, av, ak, aJ, aK, aS, aT, ay, ap, aU, aV, aX, aY, ae, ac, aj, ag, z1z, z2z, z3z, z4z, aH, af, aD, aB, aC, aA, aE, aG, z5z, z6z, ah, z7z, z8z, au]
        rw [cv]
        exact ⟨by first | rfl | trivial, F, I1, UpdP.of0 c1⟩
    · have e0 : (p.1 != 0) = true := bne_iff_ne.2 p0
      have cv : createsV m o.2.2.2.1 r = (false, m) := by
        rw [createsV, if_neg r7, if_pos (by omega), hp']
        simp only [ne_eq, p0, not_false_eq_true, if_true]
      simp -implicitDefEqProofs only [decide_eq_false r7, ad, ax, am, aM, aN, aQ, aR, av, ak, aJ, aK, aS, aT, ay, ap, aU, aV, aX, aY, ae, ac, aj, ag, z1z, z2z, z3z, z4z, aH, af, aD, aB, aC, aA, aE, aG, z5z, z6z, ah, z7z, z8z, au, fa_53_1, bX, cr, fa_154_2, fa_74_3, bj, ce, a5, rs_1, s0, hc3, aA, ge_iff_le, s1, hl7, ia, hld, e0]
      rw [cv]
      exact ⟨by first | rfl | trivial, F, I1, UpdP.of0 c1⟩
end
end Go.Proofs.Ytgamnncehjcdiaa

namespace Go.Proofs.Ytgamnncehjcdiaa
open Go Ev Go.RowKit

section
variable {W w : World} {g g7 g11 : Nat} {m : MdV} {x : RfV} {F F0 : Fp} {K : Nat} {o : OpV} {h : HnV} {i : Nat} {p : RgV × Bool} {want : HnV} {need : Int} {r : RsV}
theorem ia_rgs {b n c : Nat} (h1 : i < n) : pureRun Try.prog (Instr.indexAt 151 (.slice (some ⟨b, 0, none⟩) n c) (.int .i64 i)) = some (.pointer (some ⟨b, i * 8, none⟩)) := by
  have := ia_151 (b := b) (p := 0) (n := n) (c := c) (j := .i64) (i := (i : Int)) (by omega) (by omega)
  rw [Int.toNat_natCast, Nat.zero_add] at this
  exact this
theorem set_rr {y z : RgV × Bool} (x : RfV) : { ({ x with rgs := x.rgs.set i y } : RfV) with rgs := ({ x with rgs := x.rgs.set i y } : RfV).rgs.set i z } = { x with rgs := x.rgs.set i z } := by simp [List.set_set]
theorem at_rr {y : RgV × Bool} (hi : x.rgs[i]? = some p) : ({ x with rgs := x.rgs.set i y } : RfV).rgs[i]? = some y := by
  show (x.rgs.set i y)[i]? = _
  rw [List.getElem?_set, if_pos rfl, if_pos (List.getElem?_eq_some_iff.1 hi).1]
set_option maxHeartbeats 2000000 in
theorem l_rAlloc1 (U : UpdP F0 F W w) (I : RfI w g x F) (hi : x.rgs[i]? = some p) (hol : p.1.objs.length ≤ 1000000) (h11 : hp w g11 = some (.cells (hnC want).toArray 51)) :
    P99_1 (.pointer (some ⟨g, 0, none⟩)) (.int .i64 i) (.pointer (some ⟨g11, 0, none⟩)) w fun v w' => v = .bool true ∧ ∃ F', RfI w' g { x with rgs := x.rgs.set i ({ p.1 with objs := p.1.objs ++ [want] }, p.2) } F' ∧ UpdP F0 F' W w' := by
  apply L99_1_ok
  have cd : Chg [] w w.drew := (Chg.refl _ _).drew
  have hil := (List.getElem?_eq_some_iff.1 hi).1
  obtain ⟨b, c, v, Fk, hl, hbg, _, _, hld, hv, hput⟩ := (I.keep cd).rgPut hi (k := 7) (by omega) (P := objsT p.1.objs) rfl
  have hl' : ldC (hp w g) (0 + 9) = some (.slice (some ⟨b, 0, none⟩) x.rgs.length c) := hl
  have hld' : ldC (hp w b) (i * 8 + 7) = some v := hld
  have ia := ia_rgs (b := b) (c := c) hil
  have h11d : hp w.drew g11 = some (.cells (hnC want).toArray 51) := h11
  obtain ⟨hown, _⟩ := flat_own hv
  have fin : ∀ (x' : Value) (w2 : World), w2.ownsRow 0 51 5 x' (p.1.objs.length + 1) (p.1.objs.flatMap hnC ++ hnC want) → w.drew.grownBy w2 v.ownBlock → NewB w.drew v x' →
      ldC (hp w2 g) (0 + 9) = some (.slice (some ⟨b, 0, none⟩) x.rgs.length c) ∧ effu Try.prog (Instr.storeAt 90 (.pointer (some ⟨b, i * 8 + 7, none⟩)) x') w2 fun w' => P99_3 w' fun v w' => v = .bool true ∧ ∃ F', RfI w' g { x with rgs := x.rgs.set i ({ p.1 with objs := p.1.objs ++ [want] }, p.2) } F' ∧ UpdP F0 F' W w' := by
    intro x' w2 ho hg hnb
    obtain ⟨F2, hr2, hu2⟩ := flat_grown (vs := hnC want) hv ho hg hnb
    have hr2' : objsT (p.1.objs ++ [want]) w2 F2 x' := by
      rw [objsT, List.length_append]
      have e : (p.1.objs ++ [want]).flatMap hnC = p.1.objs.flatMap hnC ++ hnC want := by simp
      rw [e]; exact hr2
    obtain ⟨ok, s1, s2, hgg, F3, t1, t2⟩ := hput w2 F2 (objsT (p.1.objs ++ [want])) x' ({ p.1 with objs := p.1.objs ++ [want] }, p.2) hu2 (cm _) hr2' rfl
    refine ⟨by rw [hgg]; exact hl, ?_⟩
    rw [st_90 (o := i * 8 + 7) s1 s2 ok]
    apply L99_3_ok
    exact ⟨rfl, F3, t1, U.trans (t2.pre cd)⟩
  simp -implicitDefEqProofs only [L99_1, ad, ax, am, aM, aN, aQ, aR, av, ak, aJ, aK, aS, aT, ay, ap, aU, aV, aX, aY, ae, ac, aj, ag, z1z, z2z, z3z, z4z, aH, af, aD, aB, aC, aA, aE, aG, z5z, z6z, ah, z7z, z8z, au, bK, fa_158_7, bN, ld_90, hl', ia, hld', ld_hn h11d]
  repeat' (with_reducible apply And.intro)
  all_goals
    refine ps_90 (fun u hu => by simp only [List.mem_cons, List.not_mem_nil, or_false] at hu; rcases hu with rfl | rfl | rfl | rfl | rfl <;> rfl) hown (by omega) (Nat.zero_le _) fun x' w2 ho hg hnb => ?_
    obtain ⟨f1, f2⟩ := fin x' w2 ho hg hnb
    try simp -implicitDefEqProofs only [ad, ax, am, aM, aN, aQ, aR, av, ak, aJ, aK, aS, aT, ay, ap, aU, aV, aX, aY, ae, ac, aj, ag, z1z, z2z, z3z, z4z, aH, af, aD, aB, aC, aA, aE, aG, z5z, z6z, ah, z7z, z8z, au, bN, f1, ia, fa_158_7]
    exact f2
set_option maxHeartbeats 2000000 in
theorem l_rAlloc4 (U : UpdP F0 F W w) (I : RfI w g x F) (hi : x.rgs[i]? = some p) (hol : p.1.objs.length ≤ 1000000) (h11 : hp w g11 = some (.cells (hnC want).toArray 51)) (n11 : ¬ F g11) :
    P99_4 (.pointer (some ⟨g, 0, none⟩)) (.int .i64 i) (.pointer (some ⟨g11, 0, none⟩)) (.int .i64 need) w fun v w' => v = .bool true ∧ ∃ F', RfI w' g { x with rgs := x.rgs.set i ({ p.1 with off := afterV x.c.2.2.1 need, objs := p.1.objs ++ [want] }, p.2) } F' ∧ UpdP F0 F' W w' := by
  apply L99_4_ok
  have cd : Chg [] w w.drew := (Chg.refl _ _).drew
  have hil := (List.getElem?_eq_some_iff.1 hi).1
  obtain ⟨b, c, v, Fk, hl, hbg, _, _, hld, hv, hput⟩ := (I.keep cd).rgPut hi (k := 3) (by omega) (P := iT p.1.off) rfl
  have hl' : ldC (hp w g) (0 + 9) = some (.slice (some ⟨b, 0, none⟩) x.rgs.length c) := hl
  have ia := ia_rgs (b := b) (c := c) hil
  obtain ⟨_, _, _, _, _, R⟩ := I.rd
  have hc2 : ldC (hp w g) (0 + 0 + 2) = some (.int .i64 x.c.2.2.1) := R.c 2 (by omega)
  obtain ⟨ok, _, _, _, F1, t1, t2⟩ := hput w.drew none' (iT (afterV x.c.2.2.1 need)) (.int .i64 (afterV x.c.2.2.1 need)) ({ p.1 with off := afterV x.c.2.2.1 need }, p.2) (UpdP.none hv.2 _) (good_int _ _) ⟨rfl, fun _ h => h⟩ rfl
  have k11 := t2.keep (show hp w.drew g11 = _ from h11) n11
  have fin := l_rAlloc1 (want := want) (U.trans (t2.pre cd)) t1 (at_rr hi) hol k11.1
  rw [set_rr] at fin
  simp -implicitDefEqProofs only [L99_4, ad, ax, am, aM, aN, aQ, aR, av, ak, aJ, aK, aS, aT, ay, ap, aU, aV, aX, aY, ae, ac, aj, ag, z1z, z2z, z3z, z4z, aH, af, aD, aB, aC, aA, aE, aG, z5z, z6z, ah, z7z, z8z, au, bK, cr, fa_74_2, bN, bj, hl', hc2]
  repeat' (with_reducible apply And.intro)
  all_goals
    refine (c_rAfter x.c.2.2.1 need w.drew).step ?_
    simp -implicitDefEqProofs only [ad, ax, am, aM, aN, aQ, aR, av, ak, aJ, aK, aS, aT, ay, ap, aU, aV, aX, aY, ae, ac, aj, ag, z1z, z2z, z3z, z4z, aH, af, aD, aB, aC, aA, aE, aG, z5z, z6z, ah, z7z, z8z, au, bN, hl', ia, fa_158_3]
    rw [st_3 (o := i * 8 + 3) rfl rfl ok]
    exact fin
set_option maxHeartbeats 4000000 in
theorem l_rAlloc2 (U : UpdP F0 F W w) (I : RfI w g x F) (hi : x.rgs[i]? = some p) (hol : p.1.objs.length ≤ 1000000) (hwl : p.1.words.length ≤ 1000000) (w0 : 0 ≤ x.c.2.2.1) (w1 : x.c.2.2.1 ≤ 1024) (h11 : hp w g11 = some (.cells (hnC want).toArray 51)) (n11 : ¬ F g11) :
    P99_2 (.pointer (some ⟨g, 0, none⟩)) (.int .i64 i) (.pointer (some ⟨g11, 0, none⟩)) (.int .i64 need) w fun v w' => v = .bool true ∧ ∃ F', RfI w' g { x with rgs := x.rgs.set i ({ p.1 with words := p.1.words ++ [List.replicate x.c.2.2.1.toNat 0], off := afterV x.c.2.2.1 need, objs := p.1.objs ++ [want] }, p.2) } F' ∧ UpdP F0 F' W w' := by
  apply L99_2_ok
  have cd : Chg [] w w.drew := (Chg.refl _ _).drew
  have hil := (List.getElem?_eq_some_iff.1 hi).1
  obtain ⟨b, c, v5, Fk5, hl, hbg, _, hsub5, hld, hv5, hput5⟩ := (I.keep cd).rgPut hi (k := 6) (by omega) (P := wordsT p.1.words) rfl
  have hl' : ldC (hp w g) (0 + 9) = some (.slice (some ⟨b, 0, none⟩) x.rgs.length c) := hl
  have hld' : ldC (hp w b) (i * 8 + 6) = some v5 := hld
  have ia := ia_rgs (b := b) (c := c) hil
  obtain ⟨_, _, _, _, _, R⟩ := I.rd
  obtain ⟨iu, hiu, hzu, hsu, hbu⟩ := inf_38
  have hc2 : ldC (hp w g) (0 + 0 + 2) = some (.int .i64 ((x.c.2.2.1.toNat : Nat) : Int)) := by
    rw [show ((x.c.2.2.1.toNat : Nat) : Int) = x.c.2.2.1 by omega]; exact R.c 2 (by omega)
  generalize hn : x.c.2.2.1.toNat = n at *
  have hmc : madeCells (Value.int .u64 0).cells (n * iu.size) = (u64s (List.replicate n 0)).toArray := by
    apply Array.toList_inj.1
    rw [hsu, Nat.mul_one]
    have := toList_madeCells_one (Value.int .u64 0) n
    rw [u64s, List.map_replicate]
    exact this
  have ob := own_alloc_u64s (w := w.drew) n (by unfold maxLen; omega)
  have n3 : w.drew.heap.size = w.heap.size := rfl
  simp -implicitDefEqProofs only [L99_2, ad, ax, am, aM, aN, aQ, aR, av, ak, aJ, aK, aS, aT, ay, ap, aU, aV, aX, aY, ae, ac, aj, ag, z1z, z2z, z3z, z4z, aH, af, aD, aB, aC, aA, aE, aG, z5z, z6z, ah, z7z, z8z, au, bK, cr, fa_74_2, fa_158_6, bN, ld_142, bj, hl', ia, hld', hc2, effv_make (P := Try.prog) (kl := .i64) (kc := .i64) (n := n) Try.underlying177 hiu hzu (by rw [hsu]; omega) (by rw [hbu]; omega) (by omega), hmc]
  generalize hwA : w.drew.alloc (.cells (u64s (List.replicate n 0)).toArray 38) = wA at *
  have cA : Chg [] w.drew wA := by rw [← hwA]; exact (Chg.refl _ _).alloc _
  have sA : wA.heap.size = w.heap.size + 1 := by rw [← hwA, bf, n3]
  have hv5A := (good_words p.1.words).frame hv5 (ChgP.of0 cA none') (fun _ _ h => h)
  obtain ⟨xs, Fs, q1, q2, q3, q4⟩ := hv5A
  have hlA := bR cA hl
  have fin : ∀ (x2 : Value) (w4 : World), w4.ownsRow 0 177 1 x2 (p.1.words.length + 1) (xs ++ [.slice (some ⟨w.drew.heap.size, 0, none⟩) n n]) → wA.grownBy w4 v5.ownBlock → NewB wA v5 x2 →
      ldC (hp w4 g) (0 + 9) = some (.slice (some ⟨b, 0, none⟩) x.rgs.length c) ∧ effu Try.prog (Instr.storeAt 142 (.pointer (some ⟨b, i * 8 + 6, none⟩)) x2) w4 fun w' => P99_4 (.pointer (some ⟨g, 0, none⟩)) (.int .i64 i) (.pointer (some ⟨g11, 0, none⟩)) (.int .i64 need) w' fun v w' => v = .bool true ∧ ∃ F', RfI w' g { x with rgs := x.rgs.set i ({ p.1 with words := p.1.words ++ [List.replicate n 0], off := afterV x.c.2.2.1 need, objs := p.1.objs ++ [want] }, p.2) } F' ∧ UpdP F0 F' W w' := by
    intro x2 w4 ho2 hg2 hnb2
    have hy : Parts wA [wordT (List.replicate n 0)] [.slice (some ⟨w.drew.heap.size, 0, none⟩) n n] (fun _ => fun b => b = w.drew.heap.size) := ⟨rfl, fun k P v hP hv => by
      have hk := (List.getElem?_eq_some_iff.1 hP).1
      have : k = 0 := by simp at hk; omega
      subst this
      cases hP; cases hv
      exact ob, fun j k hj hk hjk => by simp at hj hk; omega⟩
    have hF5 : ∀ k, Fk5 k → k < w.heap.size := fun k hk => isAt.lt (I.keep cd) (cf x) k (hsub5 k hk)
    obtain ⟨F5, g1, g2, _⟩ := isRow.grow (G := fun b => b = w.drew.heap.size) (m := 1) ⟨xs, Fs, q1, q2, q3, q4⟩ (fun P hP => by obtain ⟨l, _, rfl⟩ := List.mem_map.1 hP; exact good_word l) (fun P hP => by rw [List.mem_singleton.1 hP]; exact good_word _) hy
      (fun b => ⟨fun h => ⟨0, by simp, h⟩, fun ⟨_, _, h⟩ => h⟩) (fun k hk hk2 => by have := hF5 k hk; omega) (fun xs' h' => by rw [own_unique h' q1]; exact ho2) hg2 hnb2
    have hu5 : UpdP Fk5 F5 w.drew w4 := by
      refine ⟨⟨g2.chg.os.trans cA.os, g2.chg.tape.trans cA.tape, g2.chg.output.trans cA.output, by have := g2.chg.size; omega, fun k hk hn => ?_⟩, fun k hk => ?_⟩
      · rw [g2.chg.block k (by omega) (fun h => by rcases h with h | h; exact hn h; omega)]
        exact cA.block k hk (by simp)
      · rcases g2.sub k hk with h | h
        · rcases h with h | h
          · exact .inl h
          · exact .inr (by omega)
        · exact .inr (by omega)
    have g1' : wordsT (p.1.words ++ [List.replicate n 0]) w4 F5 x2 := by
      rw [wordsT, List.length_append, List.map_append]; exact g1
    obtain ⟨ok5, s51, s52, hgg, F6, t51, t52⟩ := hput5 w4 F5 (wordsT (p.1.words ++ [List.replicate n 0])) x2 ({ p.1 with words := p.1.words ++ [List.replicate n 0] }, p.2) hu5 (good_words _) g1' rfl
    refine ⟨by rw [hgg]; exact hl, ?_⟩
    rw [st_142 (o := i * 8 + 6) s51 s52 ok5]
    have k11 := t52.keep (show hp w.drew g11 = _ from h11) n11
    have f := l_rAlloc4 (want := want) (need := need) (U.trans (t52.pre cd)) t51 (at_rr hi) hol k11.1 k11.2
    rw [set_rr] at f
    exact f
  repeat' (with_reducible apply And.intro)
  all_goals
    refine ps_142 (fun u hu => by simp only [List.mem_cons, List.not_mem_nil, or_false] at hu; rcases hu with rfl; rfl) q1 (by omega) (Nat.zero_le _) fun x2 w4 ho2 hg2 hnb2 => ?_
    obtain ⟨f1, f2⟩ := fin x2 w4 ho2 hg2 hnb2
    try simp -implicitDefEqProofs only [ad, ax, am, aM, aN, aQ, aR, av, ak, aJ, aK, aS, aT, ay, ap, aU, aV, aX, aY, ae, ac, aj, ag, z1z, z2z, z3z, z4z, aH, af, aD, aB, aC, aA, aE, aG, z5z, z6z, ah, z7z, z8z, au, bN, f1, ia, fa_158_6]
    exact f2
end
end Go.Proofs.Ytgamnncehjcdiaa

