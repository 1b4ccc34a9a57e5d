/- The Go law SizeSays answers true for all whole numbers: Round, Alone, Fits and After of package size tell what the reference tells. Conditions: none but that the arguments are values of their Go types. -/
import Derived.Test.YtkploakfdlnbbaaPSizeSaysx2
namespace Go.Proofs.Ytkploakfdlnbbaa.Pure
open Go.RowKit Go.Proofs.Ytkploakfdlnbbaa.PSizeSays Go.Proofs.YtkploakfdlnbbaaW.PrintWords Go.Proofs.YtkploakfdlnbbaaW.PrintLast Go.Proofs.YtkploakfdlnbbaaW.PrintMore
theorem w64 {n : Int} (h1 : -9223372036854775808 ≤ n) (h2 : n ≤ 9223372036854775807) : wrap64 n = n := by unfold wrap64; omega

/-- a class's step -/
def stp (c : Int) : Int := if c ≤ 0 then 1 else if c = 1 then 2 else if c = 2 then 4 else 8
theorem stp_pow (c : Int) : (2 : Int) ^ (mn (mx c 0) 3).toNat = stp c := by
  unfold stp
  by_cases h0 : c ≤ 0
  · have : mn (mx c 0) 3 = 0 := by unfold mn mx; (repeat' split) <;> omega
    rw [this, if_pos h0]; rfl
  · rw [if_neg h0]
    by_cases h1 : c = 1
    · subst h1; rfl
    · rw [if_neg h1]
      by_cases h2 : c = 2
      · subst h2; rfl
      · have : mn (mx c 0) 3 = 3 := by unfold mn mx; (repeat' split) <;> omega
        rw [this, if_neg h2]; rfl
theorem stp_cases (c : Int) : stp c = 1 ∨ stp c = 2 ∨ stp c = 4 ∨ stp c = 8 := by
  unfold stp; (repeat' split) <;> omega
/-- what Round answers -/
def rnd (c n : Int) : Int := if n < 1 then 0 else if n > 1024 then 0 else (n + stp c - 1) / stp c * stp c
theorem round_eq (c n : Int) : size_Round.f c n = some (rnd c n) := by
  unfold size_Round.f rnd
  by_cases h1 : n < 1
  · rw [if_pos h1, if_pos h1]
  · rw [if_neg h1, if_neg h1]
    by_cases h2 : n > 1024
    · rw [if_pos h2, if_pos h2]
    · rw [if_neg h2, if_neg h2, stp_pow]
      have ht : ∀ s : Int, 1 ≤ s → Int.tdiv (n + s - 1) s = (n + s - 1) / s := fun s hs => Int.tdiv_eq_ediv_of_nonneg (by omega)
      rcases stp_cases c with h | h | h | h <;> rw [h] <;> (rw [w64 (n := _) (by decide) (by decide), if_neg (by decide), w64 (n := n + _) (by omega) (by omega), w64 (n := n + _ - 1) (by omega) (by omega), ht _ (by decide), w64 (n := _ / _) (by omega) (by omega), w64 (n := _ * _) (by omega) (by omega)])
def rgt (w n : Int) : Bool := decide (1 ≤ w ∧ w ≤ 1024 ∧ 1 ≤ n ∧ n ≤ w)
theorem right_eq (w n : Int) : size_right.f w n = some (rgt w n) := by
  unfold size_right.f rgt
  (repeat' split) <;> (congr 1; first | (simp only [decide_eq_decide]; omega) | (symm; simp only [decide_eq_false_iff_not]; omega))
def aln (w n : Int) : Bool := decide (1 ≤ w ∧ w ≤ 1024 ∧ 1 ≤ n ∧ n ≤ w ∧ 2 * n > w)
theorem alone_eq (w n : Int) : size_Alone.f w n = some (aln w n) := by
  unfold size_Alone.f aln
  rw [right_eq]; unfold rgt; simp only [Option.bind_some, decide_eq_true_eq]
  by_cases h : 1 ≤ w ∧ w ≤ 1024 ∧ 1 ≤ n ∧ n ≤ w
  · rw [if_pos h, w64 (by omega) (by omega)]; congr 1; simp only [decide_eq_decide]; omega
  · rw [if_neg h]; congr 1; symm; simp only [decide_eq_false_iff_not]; omega
def fit (w o n : Int) : Bool := decide (1 ≤ w ∧ w ≤ 1024 ∧ 1 ≤ n ∧ 2 * n ≤ w ∧ 0 ≤ o ∧ o ≤ w - n)
theorem fits_eq (w o n : Int) : size_Fits.f w o n = some (fit w o n) := by
  unfold size_Fits.f fit
  rw [right_eq, alone_eq]; unfold rgt aln; simp only [Option.bind_some, decide_eq_true_eq]
  by_cases h : 1 ≤ w ∧ w ≤ 1024 ∧ 1 ≤ n ∧ n ≤ w
  · rw [if_pos h, w64 (n := w - n) (by omega) (by omega)]
    by_cases h2 : 1 ≤ w ∧ w ≤ 1024 ∧ 1 ≤ n ∧ n ≤ w ∧ 2 * n > w
    · rw [if_pos h2]; congr 1; symm; simp only [decide_eq_false_iff_not]; omega
    · rw [if_neg h2]
      by_cases h3 : o ≥ 0
      · rw [if_pos h3]; congr 1; simp only [decide_eq_decide]; omega
      · rw [if_neg h3]; congr 1; symm; simp only [decide_eq_false_iff_not]; omega
  · rw [if_neg h]; congr 1; symm; simp only [decide_eq_false_iff_not]; omega
def aft (w n : Int) : Int := if 1 ≤ w ∧ w ≤ 1024 ∧ 1 ≤ n ∧ n ≤ w then (if 2 * n > w then w else n) else 0
theorem after_eq (w n : Int) : size_After.f w n = some (aft w n) := by
  unfold size_After.f aft
  rw [right_eq, alone_eq]; unfold rgt aln; simp only [Option.bind_some, decide_eq_true_eq]
  by_cases h : 1 ≤ w ∧ w ≤ 1024 ∧ 1 ≤ n ∧ n ≤ w
  · rw [if_pos h, if_pos h]
    by_cases h2 : 2 * n > w
    · rw [if_pos h2, if_pos (by omega)]
    · rw [if_neg h2, if_neg (by omega)]
  · rw [if_neg h, if_neg h]
theorem first_eq : rundalelaw3_first.f = some true := by
  unfold rundalelaw3_first.f; rw [round_eq, alone_eq, after_eq, fits_eq]; rfl
theorem in_eq (a b c : Int) : rundaleref1_in.f a b c = some (decide (b ≤ a ∧ a ≤ c)) := by
  unfold rundaleref1_in.f
  by_cases h : a ≥ b
  · rw [if_pos h]; congr 1; simp only [decide_eq_decide]; omega
  · rw [if_neg h]; congr 1; symm; simp only [decide_eq_false_iff_not]; omega
theorem rright_eq (w n : Int) : rundaleref1_right.f w n = some (rgt w n) := by
  unfold rundaleref1_right.f rgt
  rw [in_eq, in_eq]; simp only [Option.bind_some, decide_eq_true_eq]
  by_cases h : 1 ≤ w ∧ w ≤ 1024
  · rw [if_pos h]; congr 1; simp only [decide_eq_decide]; omega
  · rw [if_neg h]; congr 1; symm; simp only [decide_eq_false_iff_not]; omega
theorem ralone_eq (w n : Int) : rundaleref1_Alone.f w n = some (aln w n) := by
  unfold rundaleref1_Alone.f aln
  rw [rright_eq]; unfold rgt; simp only [Option.bind_some, decide_eq_true_eq]
  by_cases h : 1 ≤ w ∧ w ≤ 1024 ∧ 1 ≤ n ∧ n ≤ w
  · rw [if_pos h, w64 (by omega) (by omega)]; congr 1; simp only [decide_eq_decide]; omega
  · rw [if_neg h]; congr 1; symm; simp only [decide_eq_false_iff_not]; omega
theorem rfits_eq (w o n : Int) : rundaleref1_Fits2.f w o n = some (fit w o n) := by
  unfold rundaleref1_Fits2.f fit
  rw [rright_eq, ralone_eq]; unfold rgt aln; simp only [Option.bind_some, decide_eq_true_eq]
  by_cases h : 1 ≤ w ∧ w ≤ 1024 ∧ 1 ≤ n ∧ n ≤ w
  · rw [if_pos h, w64 (n := w - n) (by omega) (by omega)]
    by_cases h2 : 1 ≤ w ∧ w ≤ 1024 ∧ 1 ≤ n ∧ n ≤ w ∧ 2 * n > w
    · rw [if_pos h2]; congr 1; symm; simp only [decide_eq_false_iff_not]; omega
    · rw [if_neg h2]
      by_cases h3 : o ≥ 0
      · rw [if_pos h3]; congr 1; simp only [decide_eq_decide]; omega
      · rw [if_neg h3]; congr 1; symm; simp only [decide_eq_false_iff_not]; omega
  · rw [if_neg h]; congr 1; symm; simp only [decide_eq_false_iff_not]; omega
theorem rafter_eq (w n : Int) : rundaleref1_After.f w n = some (aft w n) := by
  unfold rundaleref1_After.f aft
  rw [rright_eq, ralone_eq]; unfold rgt aln; simp only [Option.bind_some, decide_eq_true_eq]
  by_cases h : 1 ≤ w ∧ w ≤ 1024 ∧ 1 ≤ n ∧ n ≤ w
  · rw [if_pos h, if_pos h]
    by_cases h2 : 2 * n > w
    · rw [if_pos h2, if_pos (by omega)]
    · rw [if_neg h2, if_neg (by omega)]
  · rw [if_neg h, if_neg h]
/-- the reference's second loop: up to the next multiple -/
theorem l1_up (s : Int) (hs : 1 ≤ s) (d : Nat) : ∀ (k : Nat) (n : Int), 1 ≤ n → n + d ≤ 2000 → (n + d) % s = 0 → (∀ e : Nat, e < d → (n + e) % s ≠ 0) → d < k →
    rundaleref1_Round.l1 k n s = some (n + d) := by
  induction d with
  | zero =>
    intro k n h1 h2 h3 _ hk
    obtain ⟨k, rfl⟩ : ∃ m, k = m + 1 := ⟨k - 1, by omega⟩
    simp only [rundaleref1_Round.l1]
    rw [if_neg (by omega), Int.tmod_eq_emod_of_nonneg (by omega), if_pos (by simpa using h3)]; simp
  | succ d ih =>
    intro k n h1 h2 h3 h4 hk
    obtain ⟨k, rfl⟩ : ∃ m, k = m + 1 := ⟨k - 1, by omega⟩
    simp only [rundaleref1_Round.l1]
    have h0 := h4 0 (by omega)
    rw [if_neg (by omega), Int.tmod_eq_emod_of_nonneg (by omega), if_neg (by simpa using h0), w64 (by omega) (by omega), ih k (n + 1) (by omega) (by omega) (by rw [← h3]; congr 1; omega) (fun e he => by have := h4 (e + 1) (by omega); intro h; apply this; rw [← h]; congr 1; omega) (by omega)]
    congr 1; omega
theorem l1_rnd (c n : Int) (h1 : 1 ≤ n) (h2 : n ≤ 1024) (k : Nat) (hk : 8 ≤ k) : rundaleref1_Round.l1 k n (stp c) = some (rnd c n) := by
  have hr : rnd c n = (n + stp c - 1) / stp c * stp c := by unfold rnd; rw [if_neg (by omega), if_neg (by omega)]
  rw [hr]
  rcases stp_cases c with h | h | h | h <;> rw [h]
  · rw [l1_up 1 (by omega) 0 k n (by omega) (by omega) (by omega) (fun e he => by omega) (by omega)]; congr 1; omega
  · rw [l1_up 2 (by omega) ((n + 1) / 2 * 2 - n).toNat k n (by omega) (by omega) (by omega) (fun e he => by omega) (by omega)]; congr 1; omega
  · rw [l1_up 4 (by omega) ((n + 3) / 4 * 4 - n).toNat k n (by omega) (by omega) (by omega) (fun e he => by omega) (by omega)]; congr 1; omega
  · rw [l1_up 8 (by omega) ((n + 7) / 8 * 8 - n).toNat k n (by omega) (by omega) (by omega) (fun e he => by omega) (by omega)]; congr 1; omega
theorem rround_eq (c n : Int) : rundaleref1_Round.f 20 c n = some (rnd c n) := by
  unfold rundaleref1_Round.f
  rw [in_eq]; simp only [Option.bind_some, decide_eq_true_eq]
  by_cases h : 1 ≤ n ∧ n ≤ 1024
  · rw [if_pos h]
    have e := l1_rnd c n h.1 h.2
    have w1 : wrap64 (2 * 1) = 2 := by unfold wrap64; omega
    have w2 : wrap64 (2 * 2) = 4 := by unfold wrap64; omega
    have w4 : wrap64 (2 * 4) = 8 := by unfold wrap64; omega
    have v0 : wrap64 (0 + 1) = 1 := by unfold wrap64; omega
    have v1 : wrap64 (1 + 1) = 2 := by unfold wrap64; omega
    have v2 : wrap64 (2 + 1) = 3 := by unfold wrap64; omega
    by_cases c0 : c ≤ 0
    · have hs : stp c = 1 := by unfold stp; rw [if_pos c0]
      rw [hs] at e
      simp only [rundaleref1_Round.l0]; rw [if_neg (by omega)]; simp only [rundaleref1_Round.j1]; exact e _ (by omega)
    · by_cases c1 : c = 1
      · have hs : stp c = 2 := by subst c1; rfl
        rw [hs] at e
        simp only [rundaleref1_Round.l0]; rw [if_pos (by omega), if_pos (by omega), w1, v0, if_neg (by omega)]; simp only [rundaleref1_Round.j1]; exact e _ (by omega)
      · by_cases c2 : c = 2
        · have hs : stp c = 4 := by subst c2; rfl
          rw [hs] at e
          simp only [rundaleref1_Round.l0]; rw [if_pos (by omega), if_pos (by omega), w1, v0, if_pos (by omega), if_pos (by omega), w2, v1, if_neg (by omega)]; simp only [rundaleref1_Round.j1]; exact e _ (by omega)
        · have hs : stp c = 8 := by unfold stp; rw [if_neg c0, if_neg c1, if_neg c2]
          rw [hs] at e
          simp only [rundaleref1_Round.l0]; rw [if_pos (by omega), if_pos (by omega), w1, v0, if_pos (by omega), if_pos (by omega), w2, v1, if_pos (by omega), if_pos (by omega), w4, v2]
          by_cases c3 : (3 : Int) < c
          · rw [if_pos c3, if_neg (by omega)]; simp only [rundaleref1_Round.j1]; exact e _ (by omega)
          · rw [if_neg c3]; simp only [rundaleref1_Round.j1]; exact e _ (by omega)
  · rw [if_neg h]; unfold rnd; congr 1
    by_cases h1 : n < 1
    · rw [if_pos h1]
    · rw [if_neg h1, if_pos (by omega)]

theorem SizeSays : rundalelaw3_SizeSays.Pure := by
  intro c n w o d _ _ _ _ _
  refine ⟨20, ?_⟩
  unfold rundalelaw3_SizeSays.f
  rw [first_eq, round_eq, rround_eq, alone_eq, ralone_eq, fits_eq, rfits_eq, after_eq, rafter_eq]
  simp

end Go.Proofs.Ytkploakfdlnbbaa.Pure
