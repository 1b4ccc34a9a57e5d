/- The Go law SizeRounds answers true for all whole numbers. Conditions: none but that the arguments are values of their Go types. -/
import Derived.Test.YtkploakfdlnbbaaPSizeRoundsx1
namespace Go.Proofs.Ytkploakfdlnbbaa.Pure
open Go.RowKit Go.Proofs.Ytkploakfdlnbbaa.PSizeRounds Go.Proofs.YtkploakfdlnbbaaW.PrintWords Go.Proofs.YtkploakfdlnbbaaW.PrintLast Go.Proofs.YtkploakfdlnbbaaW.PrintMore

theorem w64 {n : Int} (h1 : -9223372036854775808 ≤ n) (h2 : n ≤ 9223372036854775807) : wrap64 n = n := by unfold wrap64; omega

/-- a class's step -/
def stp (c : Int) : Int := if c ≤ 0 then 1 else if c = 1 then 2 else if c = 2 then 4 else 8
theorem stp_pow (c : Int) : (2 : Int) ^ (mn (mx c 0) 3).toNat = stp c := by
  unfold stp
  by_cases h0 : c ≤ 0
  · have : mn (mx c 0) 3 = 0 := by unfold mn mx; (repeat' split) <;> omega
    rw [this, if_pos h0]; rfl
  · rw [if_neg h0]
    by_cases h1 : c = 1
    · subst h1; rfl
    · rw [if_neg h1]
      by_cases h2 : c = 2
      · subst h2; rfl
      · have : mn (mx c 0) 3 = 3 := by unfold mn mx; (repeat' split) <;> omega
        rw [this, if_neg h2]; rfl
theorem stp_cases (c : Int) : stp c = 1 ∨ stp c = 2 ∨ stp c = 4 ∨ stp c = 8 := by
  unfold stp; (repeat' split) <;> omega
/-- what Round answers -/
def rnd (c n : Int) : Int := if n < 1 then 0 else if n > 1024 then 0 else (n + stp c - 1) / stp c * stp c
theorem round_eq (c n : Int) : size_Round.f c n = some (rnd c n) := by
  unfold size_Round.f rnd
  by_cases h1 : n < 1
  · rw [if_pos h1, if_pos h1]
  · rw [if_neg h1, if_neg h1]
    by_cases h2 : n > 1024
    · rw [if_pos h2, if_pos h2]
    · rw [if_neg h2, if_neg h2, stp_pow]
      have ht : ∀ s : Int, 1 ≤ s → Int.tdiv (n + s - 1) s = (n + s - 1) / s := fun s hs => Int.tdiv_eq_ediv_of_nonneg (by omega)
      rcases stp_cases c with h | h | h | h <;> rw [h] <;> (rw [w64 (n := _) (by decide) (by decide), if_neg (by decide), w64 (n := n + _) (by omega) (by omega), w64 (n := n + _ - 1) (by omega) (by omega), ht _ (by decide), w64 (n := _ / _) (by omega) (by omega), w64 (n := _ * _) (by omega) (by omega)])
def rgt (w n : Int) : Bool := decide (1 ≤ w ∧ w ≤ 1024 ∧ 1 ≤ n ∧ n ≤ w)
theorem right_eq (w n : Int) : size_right.f w n = some (rgt w n) := by
  unfold size_right.f rgt
  (repeat' split) <;> (congr 1; first | (simp only [decide_eq_decide]; omega) | (symm; simp only [decide_eq_false_iff_not]; omega))
def aln (w n : Int) : Bool := decide (1 ≤ w ∧ w ≤ 1024 ∧ 1 ≤ n ∧ n ≤ w ∧ 2 * n > w)
theorem alone_eq (w n : Int) : size_Alone.f w n = some (aln w n) := by
  unfold size_Alone.f aln
  rw [right_eq]; unfold rgt; simp only [Option.bind_some, decide_eq_true_eq]
  by_cases h : 1 ≤ w ∧ w ≤ 1024 ∧ 1 ≤ n ∧ n ≤ w
  · rw [if_pos h, w64 (by omega) (by omega)]; congr 1; simp only [decide_eq_decide]; omega
  · rw [if_neg h]; congr 1; symm; simp only [decide_eq_false_iff_not]; omega
def fit (w o n : Int) : Bool := decide (1 ≤ w ∧ w ≤ 1024 ∧ 1 ≤ n ∧ 2 * n ≤ w ∧ 0 ≤ o ∧ o ≤ w - n)
theorem fits_eq (w o n : Int) : size_Fits.f w o n = some (fit w o n) := by
  unfold size_Fits.f fit
  rw [right_eq, alone_eq]; unfold rgt aln; simp only [Option.bind_some, decide_eq_true_eq]
  by_cases h : 1 ≤ w ∧ w ≤ 1024 ∧ 1 ≤ n ∧ n ≤ w
  · rw [if_pos h, w64 (n := w - n) (by omega) (by omega)]
    by_cases h2 : 1 ≤ w ∧ w ≤ 1024 ∧ 1 ≤ n ∧ n ≤ w ∧ 2 * n > w
    · rw [if_pos h2]; congr 1; symm; simp only [decide_eq_false_iff_not]; omega
    · rw [if_neg h2]
      by_cases h3 : o ≥ 0
      · rw [if_pos h3]; congr 1; simp only [decide_eq_decide]; omega
      · rw [if_neg h3]; congr 1; symm; simp only [decide_eq_false_iff_not]; omega
  · rw [if_neg h]; congr 1; symm; simp only [decide_eq_false_iff_not]; omega
def aft (w n : Int) : Int := if 1 ≤ w ∧ w ≤ 1024 ∧ 1 ≤ n ∧ n ≤ w then (if 2 * n > w then w else n) else 0
theorem after_eq (w n : Int) : size_After.f w n = some (aft w n) := by
  unfold size_After.f aft
  rw [right_eq, alone_eq]; unfold rgt aln; simp only [Option.bind_some, decide_eq_true_eq]
  by_cases h : 1 ≤ w ∧ w ≤ 1024 ∧ 1 ≤ n ∧ n ≤ w
  · rw [if_pos h, if_pos h]
    by_cases h2 : 2 * n > w
    · rw [if_pos h2, if_pos (by omega)]
    · rw [if_neg h2, if_neg (by omega)]
  · rw [if_neg h, if_neg h]
theorem first_eq : rundalelaw3_first.f = some true := by
  unfold rundalelaw3_first.f; rw [round_eq, alone_eq, after_eq, fits_eq]; rfl
def num (a m : Int) : Int := a % m
theorem num_eq (a m : Int) (hm : 0 < m) (hm2 : m ≤ 4611686018427387904) : rundalemake_Number.f a m = some (num a m) := by
  unfold rundalemake_Number.f num
  rw [if_neg (by omega)]
  have hpos := Int.emod_nonneg a (b := m) (by omega)
  have hlt := Int.emod_lt_of_pos a hm
  by_cases ha : 0 ≤ a
  · rw [Int.tmod_eq_emod_of_nonneg ha, if_neg (by omega)]
  · have h1 : Int.tmod a m = - ((-a) % m) := by
      have := Int.neg_tmod (-a) m
      rw [Int.neg_neg] at this; rw [this, Int.tmod_eq_emod_of_nonneg (by omega)]
    have h2 := Int.emod_nonneg (-a) (b := m) (by omega)
    have h3 := Int.emod_lt_of_pos (-a) hm
    have h4 : a % m = if (-a) % m = 0 then 0 else m - (-a) % m := by
      have h5 := Int.neg_emod (a := -a) (b := m)
      rw [Int.neg_neg] at h5
      rw [h5]
      have h6 : (m.natAbs : Int) = m := by omega
      by_cases hd : m ∣ -a
      · have h7 : -a % m = 0 := Int.emod_eq_zero_of_dvd hd
        rw [if_pos hd, if_pos h7]
      · have h7 : -a % m ≠ 0 := fun h => hd (Int.dvd_of_emod_eq_zero h)
        rw [if_neg hd, if_neg h7, h6]
    by_cases h0 : (-a) % m = 0
    · rw [if_pos h0] at h4; rw [h1, if_neg (by omega)]; congr 1; omega
    · rw [if_neg h0] at h4; rw [h1, if_pos (by omega), w64 (by omega) (by omega)]; congr 1; omega
theorem num_lo (a m : Int) (hm : 0 < m) : 0 ≤ num a m := Int.emod_nonneg a (by omega)
theorem num_hi (a m : Int) (hm : 0 < m) : num a m < m := Int.emod_lt_of_pos a hm
theorem shl_stp (c : Int) (h0 : 0 ≤ c) (h1 : c < 4) : shl .i64 1 (IntKind.u64.wrap c) = stp c := by
  have hc : c = 0 ∨ c = 1 ∨ c = 2 ∨ c = 3 := by omega
  rcases hc with rfl | rfl | rfl | rfl <;> decide +kernel
theorem rnd_id (c n : Int) (h0 : 1 ≤ n) (h1 : n ≤ 1024) (h : stp c = 1) : rnd c n = n := by unfold rnd; rw [h]; split <;> (try split) <;> omega
theorem SizeRounds : rundalelaw3_SizeRounds.Pure := by
  intro a0 a1 _ _
  unfold rundalelaw3_SizeRounds.f
  rw [first_eq]; simp only [Option.bind_some, if_true]
  rw [num_eq _ _ (by decide) (by decide), num_eq _ _ (by decide) (by decide)]
  have c0 := num_lo a0 4 (by decide)
  have c1 := num_hi a0 4 (by decide)
  have n0 := num_lo a1 1016 (by decide)
  have n1 := num_hi a1 1016 (by decide)
  generalize num a0 4 = c at *
  generalize num a1 1016 = m at *
  simp only [Option.bind_some]
  have hu : IntKind.u64.wrap c = c := by
    have hc : c = 0 ∨ c = 1 ∨ c = 2 ∨ c = 3 := by omega
    rcases hc with rfl | rfl | rfl | rfl <;> rfl
  have hsh := shl_stp c c0 c1
  rw [hsh]
  rw [if_pos (by omega)]
  simp only [round_eq, Option.bind_some]
  rw [w64 (n := 1 + m) (by omega) (by omega), w64 (n := c + 1) (by omega) (by omega), w64 (n := 1 + m + 1) (by omega) (by omega), w64 (n := -c) (by omega) (by omega), w64 (n := 3 + c) (by omega) (by omega), w64 (n := 1 - (1 + m)) (by omega) (by omega), w64 (n := 1024 + (1 + m)) (by omega) (by omega)]
  have s0 : stp 0 = 1 := rfl
  have sn : stp (-c) = 1 := by unfold stp; rw [if_pos (by omega)]
  have s3 : stp (3 + c) = stp 3 := by
    have hc : c = 0 ∨ c = 1 ∨ c = 2 ∨ c = 3 := by omega
    rcases hc with rfl | rfl | rfl | rfl <;> rfl
  have hs : stp c = 1 ∨ stp c = 2 ∨ stp c = 4 ∨ stp c = 8 := stp_cases c
  have hs1 : stp (c + 1) = 2 * stp c ∨ (stp (c + 1) = 8 ∧ stp c = 8) := by
    have hc : c = 0 ∨ c = 1 ∨ c = 2 ∨ c = 3 := by omega
    rcases hc with rfl | rfl | rfl | rfl <;> decide
  have hr : ∀ k n : Int, 1 ≤ n → n ≤ 1024 → rnd k n = (n + stp k - 1) / stp k * stp k := fun k n h0 h1 => by unfold rnd; rw [if_neg (by omega), if_neg (by omega)]
  have e1 := hr c (1 + m) (by omega) (by omega)
  have hle : rnd c (1 + m) ≤ 1024 ∧ 1 + m ≤ rnd c (1 + m) := by rw [e1]; rcases hs with h | h | h | h <;> rw [h] <;> omega
  have e2 := hr c (rnd c (1 + m)) (by omega) (by omega)
  have e3 := hr (c + 1) (1 + m) (by omega) (by omega)
  have e4 := hr c (1 + m + 1) (by omega) (by omega)
  have e5 : rnd 0 (1 + m) = 1 + m := rnd_id 0 (1 + m) (by omega) (by omega) s0
  have e6 : rnd (-c) (1 + m) = 1 + m := rnd_id (-c) (1 + m) (by omega) (by omega) sn
  have e7 : rnd (3 + c) (1 + m) = rnd 3 (1 + m) := by rw [hr _ _ (by omega) (by omega), hr _ _ (by omega) (by omega), s3]
  have e8 : rnd c (1 - (1 + m)) = 0 := by unfold rnd; rw [if_pos (by omega)]
  have e9 : rnd c (1024 + (1 + m)) = 0 := by unfold rnd; rw [if_neg (by omega), if_pos (by omega)]
  rw [e5, e6, e7, e8, e9]
  generalize rnd 3 (1 + m) = x3 at *
  generalize rnd c (rnd c (1 + m)) = rr at *
  generalize rnd c (1 + m) = r at *
  generalize rnd (c + 1) (1 + m) = r1 at *
  generalize rnd c (1 + m + 1) = r2 at *
  generalize stp (c + 1) = t at *
  have ht : 1 ≤ stp c := by rcases hs with h | h | h | h <;> omega
  rw [w64 (n := 1 + m + stp c) (by omega) (by omega)]
  have k1 : r < 1 + m + stp c := by rcases hs with h | h | h | h <;> rw [h] at e1 ⊢ <;> omega
  have k2 : Int.tmod r (stp c) = 0 := by rw [Int.tmod_eq_emod_of_nonneg (by omega), e1]; exact Int.mul_emod_left _ _
  have k3 : rr = r := by rcases hs with h | h | h | h <;> rw [h] at e1 e2 <;> omega
  have k4 : r1 ≥ r := by
    rcases hs1 with h1 | ⟨h1, h2⟩
    · rcases hs with h | h | h | h <;> rw [h1, h] at e3 <;> rw [h] at e1 <;> omega
    · rw [h1] at e3; rw [h2] at e1; omega
  have k5 : r2 ≥ r := by rcases hs with h | h | h | h <;> rw [h] at e1 e4 <;> omega
  rw [if_pos (by omega), if_pos k1, if_neg (by omega), if_pos k2, if_pos k3, if_pos k4, if_pos k5]
  simp

end Go.Proofs.Ytkploakfdlnbbaa.Pure
