/- What the functions of package size and Number answer, each as a plain Lean function. -/
import Derived.Test.YtkploakfdlnbbaaGa
import Derived.Test.YtkploakfdlnbbaaEv9
namespace Go.Proofs.Ytkploakfdlnbbaa
open Go Ev Go.RowKit
set_option linter.unusedSimpArgs false
set_option linter.unusedVariables false

/-! ### package size, and numbers -/
def stp (c : Int) : Int := if c ≤ 0 then 1 else if c = 1 then 2 else if c = 2 then 4 else 8
theorem stp_cases (c : Int) : stp c = 1 ∨ stp c = 2 ∨ stp c = 4 ∨ stp c = 8 := by
  unfold stp; (repeat' split) <;> omega
def rnd (c n : Int) : Int := if n < 1 then 0 else if n > 1024 then 0 else (n + stp c - 1) / stp c * stp c
theorem stp_wrap (c : Int) (k : Int) (h : k = if 3 < (if 0 > c then 0 else c) then 3 else (if 0 > c then 0 else c)) : 0 ≤ k ∧ IntKind.i64.wrap (1 * 2 ^ min k.toNat IntKind.i64.bits) = stp c := by
  have h3 : k = 0 ∨ k = 1 ∨ k = 2 ∨ k = 3 := by (repeat' split at h) <;> omega
  unfold stp
  rcases h3 with rfl | rfl | rfl | rfl <;> refine ⟨by decide, ?_⟩
  · have : c ≤ 0 := by (repeat' split at h) <;> omega
    rw [if_pos this]; rfl
  · have : c = 1 := by (repeat' split at h) <;> omega
    subst this; rfl
  · have : c = 2 := by (repeat' split at h) <;> omega
    subst this; rfl
  · have : 3 ≤ c := by (repeat' split at h) <;> omega
    rw [if_neg (by omega), if_neg (by omega), if_neg (by omega)]; rfl
theorem c15 (c n : Int) (w : World) : CallR Try.prog 15 [.int .i64 c, .int .i64 n] w fun v w' => v = .int .i64 (rnd c n) ∧ w' = w := by
  apply F15_ok
  by_cases h1 : n < 1
  · simp [F15, rnd, h1]
  · by_cases h2 : 1024 < n
    · simp [F15, rnd, h1, h2]
    · obtain ⟨k, hk⟩ : ∃ k : Int, k = if 3 < (if 0 > c then 0 else c) then 3 else (if 0 > c then 0 else c) := ⟨_, rfl⟩
      obtain ⟨h3, h4⟩ := stp_wrap c k hk
      have hs := stp_cases c
      simp only [F15, bp_lss, wpB_some', h1, decide_false, gd_false, gv_false, bp_gtr, h2, pickv_false, cnd_false, pr_max, pr_min, ← hk]
      rw [bp_shl h3, h4]
      simp only [wpB_some', bp_add, bp_sub]
      rw [wrapi (n := n + stp c) (by omega) (by omega), wrapi (by omega) (by omega), bp_quo (by omega)]
      simp only [wpB_some', bp_mul]
      have ht : Int.tdiv (n + stp c - 1) (stp c) = (n + stp c - 1) / stp c := Int.tdiv_eq_ediv_of_nonneg (by omega)
      unfold rnd
      rw [ht, if_neg h1, if_neg h2]
      rcases hs with h | h | h | h <;> rw [h] <;> (rw [wrapi (n := _ / _) (by omega) (by omega), wrapi (n := _ * _) (by omega) (by omega)]; exact ⟨rfl, trivial⟩)
def rgt (w n : Int) : Bool := decide (1 ≤ w ∧ w ≤ 1024 ∧ 1 ≤ n ∧ n ≤ w)
theorem c52 (a n : Int) (w : World) : CallR Try.prog 52 [.int .i64 a, .int .i64 n] w fun v w' => v = .bool (rgt a n) ∧ w' = w := by
  apply F52_ok
  unfold rgt
  by_cases h1 : 1 ≤ a <;> by_cases h2 : a ≤ 1024 <;> by_cases h3 : 1 ≤ n <;> simp [F52, h1, h2, h3]
def aln (w n : Int) : Bool := decide (1 ≤ w ∧ w ≤ 1024 ∧ 1 ≤ n ∧ n ≤ w ∧ 2 * n > w)
theorem c17 (a n : Int) (w : World) : CallR Try.prog 17 [.int .i64 a, .int .i64 n] w fun v w' => v = .bool (aln a n) ∧ w' = w := by
  apply F17_ok
  refine (c52 a n w).mono ?_
  rintro v w' ⟨rfl, rfl⟩
  cases h : rgt a n with
  | true =>
    have h' : 1 ≤ a ∧ a ≤ 1024 ∧ 1 ≤ n ∧ n ≤ a := by simpa [rgt] using h
    simp [aln, wrapi (n := 2 * n) (by omega) (by omega), h'.1, h'.2.1, h'.2.2.1, h'.2.2.2]
  | false =>
    have h' : ¬ (1 ≤ a ∧ a ≤ 1024 ∧ 1 ≤ n ∧ n ≤ a) := by simpa only [rgt, decide_eq_false_iff_not] using h
    simp; unfold aln; simp only [decide_eq_false_iff_not]; omega
def fit (w o n : Int) : Bool := decide (1 ≤ w ∧ w ≤ 1024 ∧ 1 ≤ n ∧ 2 * n ≤ w ∧ 0 ≤ o ∧ o ≤ w - n)
theorem c19 (a o n : Int) (w : World) : CallR Try.prog 19 [.int .i64 a, .int .i64 o, .int .i64 n] w fun v w' => v = .bool (fit a o n) ∧ w' = w := by
  apply F19_ok
  refine (c52 a n w).mono ?_
  rintro v w' ⟨rfl, rfl⟩
  cases h : rgt a n with
  | true =>
    have h' : 1 ≤ a ∧ a ≤ 1024 ∧ 1 ≤ n ∧ n ≤ a := by simpa [rgt] using h
    simp only [gE_true, gv_true]
    refine (c17 a n w').mono ?_
    rintro v w1 ⟨rfl, rfl⟩
    cases h2 : aln a n with
    | true =>
      have h2' : 1 ≤ a ∧ a ≤ 1024 ∧ 1 ≤ n ∧ n ≤ a ∧ 2 * n > a := by simpa only [aln, decide_eq_true_eq] using h2
      simp; unfold fit; simp only [decide_eq_false_iff_not]; omega
    | false =>
      have h2' : ¬ (1 ≤ a ∧ a ≤ 1024 ∧ 1 ≤ n ∧ n ≤ a ∧ 2 * n > a) := by simpa only [aln, decide_eq_false_iff_not] using h2
      by_cases h3 : 0 ≤ o
      · simp [h3, wrapi (n := a - n) (by omega) (by omega)]; unfold fit; rw [decide_eq_decide]; omega
      · simp [h3]; unfold fit; simp only [decide_eq_false_iff_not]; omega
  | false =>
    have h' : ¬ (1 ≤ a ∧ a ≤ 1024 ∧ 1 ≤ n ∧ n ≤ a) := by simpa only [rgt, decide_eq_false_iff_not] using h
    simp; unfold fit; simp only [decide_eq_false_iff_not]; omega
def aft (w n : Int) : Int := if 1 ≤ w ∧ w ≤ 1024 ∧ 1 ≤ n ∧ n ≤ w then (if 2 * n > w then w else n) else 0
theorem c21 (a n : Int) (w : World) : CallR Try.prog 21 [.int .i64 a, .int .i64 n] w fun v w' => v = .int .i64 (aft a n) ∧ w' = w := by
  apply F21_ok
  refine (c52 a n w).mono ?_
  rintro v w' ⟨rfl, rfl⟩
  cases h : rgt a n with
  | true =>
    have h' : 1 ≤ a ∧ a ≤ 1024 ∧ 1 ≤ n ∧ n ≤ a := by simpa [rgt] using h
    simp
    refine (c17 a n w').mono ?_
    rintro v w1 ⟨rfl, rfl⟩
    unfold aft
    rw [if_pos h']
    cases h2 : aln a n with
    | true =>
      have h2' : 1 ≤ a ∧ a ≤ 1024 ∧ 1 ≤ n ∧ n ≤ a ∧ 2 * n > a := by simpa only [aln, decide_eq_true_eq] using h2
      rw [if_pos h2'.2.2.2.2]; simp
    | false =>
      have h2' : ¬ (1 ≤ a ∧ a ≤ 1024 ∧ 1 ≤ n ∧ n ≤ a ∧ 2 * n > a) := by simpa only [aln, decide_eq_false_iff_not] using h2
      rw [if_neg (by omega)]; simp
  | false =>
    have h' : ¬ (1 ≤ a ∧ a ≤ 1024 ∧ 1 ≤ n ∧ n ≤ a) := by simpa only [rgt, decide_eq_false_iff_not] using h
    unfold aft
    rw [if_neg h']; simp
theorem c14 (w : World) : CallR Try.prog 14 [] w fun v w' => v = .bool true ∧ w' = w := by
  apply F14_ok
  refine (c15 3 9 w).mono ?_
  rintro v w' ⟨rfl, rfl⟩
  have e1 : rnd 3 9 = 16 := by decide
  simp [e1]
  refine (c17 16 8 w').mono ?_
  rintro v w1 ⟨rfl, rfl⟩
  have e2 : aln 16 8 = false := by decide
  simp [e2]
  refine (c21 16 9 w1).mono ?_
  rintro v w2 ⟨rfl, rfl⟩
  have e3 : aft 16 9 = 16 := by decide
  simp [e3]
  refine (c19 16 4 8 w2).mono ?_
  rintro v w3 ⟨rfl, rfl⟩
  have e4 : fit 16 4 8 = true := by decide
  simp [e4]
/-- Number: the remainder that is not below nought -/
theorem tmod_cases (a m : Int) (hm : 0 < m) : (0 ≤ a.tmod m ∧ a.tmod m = a % m) ∨ (a.tmod m < 0 ∧ a.tmod m + m = a % m) := by
  have hlt := Int.emod_lt_of_pos a hm
  have hge := Int.emod_nonneg a (b := m) (by omega)
  by_cases ha : 0 ≤ a
  · left; rw [Int.tmod_eq_emod_of_nonneg ha]; exact ⟨hge, rfl⟩
  · have h1 : a.tmod m = - ((-a) % m) := by
      have := Int.neg_tmod (-a) m
      rw [Int.neg_neg] at this; rw [this, Int.tmod_eq_emod_of_nonneg (by omega)]
    have h2 := Int.emod_nonneg (-a) (b := m) (by omega)
    have h3 := Int.emod_lt_of_pos (-a) hm
    have h5 := Int.neg_emod (a := -a) (b := m)
    rw [Int.neg_neg] at h5
    have h6 : (m.natAbs : Int) = m := by omega
    by_cases hd : m ∣ -a
    · have h7 : -a % m = 0 := Int.emod_eq_zero_of_dvd hd
      rw [if_pos hd] at h5; left; omega
    · have h7 : -a % m ≠ 0 := fun h => hd (Int.dvd_of_emod_eq_zero h)
      rw [if_neg hd, h6] at h5; right; omega
theorem c23 (a m : Int) (w : World) (hm : 0 < m) (hm2 : m ≤ 4611686018427387904) : CallR Try.prog 23 [.int .i64 a, .int .i64 m] w fun v w' => v = .int .i64 (a % m) ∧ w' = w := by
  apply F23_ok
  have hlt := Int.emod_lt_of_pos a hm
  have hge := Int.emod_nonneg a (b := m) (by omega)
  simp only [F23, bp_rem (show m ≠ 0 by omega), wpB_some', bp_lss]
  rcases tmod_cases a m hm with ⟨h1, h2⟩ | ⟨h1, h2⟩
  · simp only [show ¬ a.tmod m < 0 by omega, decide_false, cnd_false]
    apply L23_0_ok
    simp only [L23_0, h2, and_self]
  · simp only [h1, decide_true, cnd_true, bp_add, wpB_some']
    apply L23_0_ok
    simp only [L23_0, h2, wrapi (n := a % m) (by omega) (by omega), and_self]
end Go.Proofs.Ytkploakfdlnbbaa
