/- What rounds, random picks and bursts are, in the program and in the reference; the chapter's first example; TurnsTell and TurnsSay answer true. -/
import Derived.Test.YtkploakfdlnbbaaCc
namespace Go.Proofs.Ytkploakfdlnbbaa
open Go Ev Go.RowKit
set_option linter.unusedSimpArgs false
set_option linter.unusedVariables false
set_option maxRecDepth 10000

/-! ### rounds -/
def rnL (W : Int) : Nat → List Int
  | 0 => []
  | k + 1 => rnL W k ++ [(k : Int) % W]
@[simp] theorem rnL_len (W : Int) : ∀ k, (rnL W k).length = k
  | 0 => rfl
  | k + 1 => by simp [rnL, rnL_len W k]
/-- an own slice of numbers, made since -/
def Own (w w' : World) (v : Value) (xs : List Int) : Prop := w'.ownsRow w.heap.size 3 1 v xs.length (ints xs) ∧ Below w.heap.size w w'
theorem Own.sl {w w' : World} {v : Value} {xs : List Int} (h : Own w w' v xs) : SlI w' v xs := .of_own h.1
theorem l29 (W : Int) (hW : 1 ≤ W) (w0 : World) (N : Nat) (hN : N ≤ 1048576) : ∀ (d k : Nat) (x : Value) (w : World), Own w0 w x (rnL W k) → k + d = N →
    P29_0 (.int .i64 W) x (.int .i64 N) (.int .i64 k) w fun v w' => Own w0 w' v (rnL W N)
  | 0, k, x, w, ho, hd => by
    apply L29_0_ok
    have : ¬ ((k : Int) < N) := by omega
    simp only [L29_0, wpB_some', bp_lss, this, decide_false, cnd_false]
    rw [← show k = N by omega]; exact ho
  | d + 1, k, x, w, ho, hd => by
    apply L29_0_ok
    have hlt : (k : Int) < N := by omega
    simp only [L29_0, wpB_some', bp_lss, hlt, decide_true, cnd_true, bp_rem (show W ≠ 0 by omega), Int.tmod_eq_emod_of_nonneg (show (0 : Int) ≤ k by omega)]
    have ho1 := ho.1
    rw [rnL_len] at ho1
    refine push28 ho1 (by omega) ho.2.size fun x' w' h1 hb => ?_
    simp only [bp_add, wpB_some', wrapi (n := (k : Int) + 1) (by omega) (by omega)]
    exact l29 W hW w0 N hN d (k + 1) x' w' ⟨by rw [rnL_len]; exact h1, ho.2.trans hb⟩ (by omega)
def clampN (n : Int) : Nat := (if 1048576 < (if 0 > n then 0 else n) then 1048576 else (if 0 > n then 0 else n)).toNat
theorem clampN_eq (n : Int) : ((clampN n : Nat) : Int) = if 1048576 < (if 0 > n then 0 else n) then 1048576 else (if 0 > n then 0 else n) := by unfold clampN; (repeat' split) <;> omega
theorem clampN_le (n : Int) : clampN n ≤ 1048576 := by unfold clampN; (repeat' split) <;> omega
theorem own_nil (w : World) : Own w w (.slice none 0 0) [] := ⟨World.ownsRow_nil _ _ _ _, Below.refl _ _⟩
theorem c29 (a n : Int) (w : World) : CallR Try.prog 29 [.int .i64 a, .int .i64 n] w fun v w' => Own w w' v (rnL (cutW a) (clampN n)) := by
  apply F29_ok
  have hc := cutW_bound a
  refine (c54 a w).step ?_
  simp only [pr_max, pr_min, wpB_some', ← clampN_eq]
  exact l29 (cutW a) (by omega) w (clampN n) (clampN_le n) (clampN n) 0 _ w (own_nil w) (by omega)
theorem l33 (W : Int) (hW : 1 ≤ W) (w0 : World) (n : Int) : ∀ (d k : Nat) (x : Value) (w : World), Own w0 w x (rnL W k) → k + d = clampN n →
    P33_0 (.int .i64 n) (.int .i64 W) x (.int .i64 k) w fun v w' => Own w0 w' v (rnL W (clampN n))
  | 0, k, x, w, ho, hd => by
    apply L33_0_ok
    have hq := clampN_eq n
    have hk : k = clampN n := by omega
    by_cases h1 : (k : Int) < n
    · have : ¬ ((k : Int) < 1048576) := by (repeat' split at hq) <;> omega
      simp only [L33_0, wpB_some', bp_lss, h1, decide_true, gd_true, gv_true, this, decide_false, pickv_true, cnd_false]
      rw [← hk]; exact ho
    · simp only [L33_0, wpB_some', bp_lss, h1, decide_false, gd_ft, pickv_false, cnd_false]
      rw [← hk]; exact ho
  | d + 1, k, x, w, ho, hd => by
    apply L33_0_ok
    have hq := clampN_eq n
    have hle := clampN_le n
    have h1 : (k : Int) < n := by (repeat' split at hq) <;> omega
    have h2 : (k : Int) < 1048576 := by omega
    simp only [L33_0, wpB_some', bp_lss, h1, h2, decide_true, gd_true, gv_true, pickv_true, cnd_true, bp_rem (show W ≠ 0 by omega), Int.tmod_eq_emod_of_nonneg (show (0 : Int) ≤ k by omega)]
    have ho1 := ho.1
    rw [rnL_len] at ho1
    refine push28 ho1 (by omega) ho.2.size fun x' w' h1 hb => ?_
    simp only [bp_add, wpB_some', wrapi (n := (k : Int) + 1) (by omega) (by omega)]
    exact l33 W hW w0 n d (k + 1) x' w' ⟨by rw [rnL_len]; exact h1, ho.2.trans hb⟩ (by omega)
theorem c33 (a n : Int) (w : World) : CallR Try.prog 33 [.int .i64 a, .int .i64 n] w fun v w' => Own w w' v (rnL (cutW a) (clampN n)) := by
  apply F33_ok
  have hc := cutW_bound a
  have := l33 (cutW a) (by omega) w n (clampN n) 0 _ w (own_nil w) (by omega)
  simp only [F33, pr_max, pr_min, wpB_some']
  exact this

/-! ### random picks -/
def lcg (s : Int) : Int := IntKind.u64.wrap (IntKind.u64.wrap (s * 6364136223846793005) + 1442695040888963407)
def rS (seed : Int) : Nat → Int
  | 0 => seed
  | k + 1 => lcg (rS seed k)
def rPick (s W : Int) : Int := (IntKind.i64.wrap (s.fdiv (2 ^ (min (33 : Int).toNat IntKind.u64.bits)))).tmod W
def raL (seed W : Int) : Nat → List Int
  | 0 => []
  | k + 1 => raL seed W k ++ [rPick (rS seed (k + 1)) W]
@[simp] theorem raL_len (s W : Int) : ∀ k, (raL s W k).length = k
  | 0 => rfl
  | k + 1 => by simp [raL, raL_len s W k]
theorem u33 : Try.prog.underlying 33 = some (.int .u64) := Try.underlying33
theorem l30 (W seed : Int) (hW : 1 ≤ W) (w0 : World) (N : Nat) (hN : N ≤ 1048576) : ∀ (d k : Nat) (x : Value) (w : World), Own w0 w x (raL seed W k) → k + d = N →
    P30_0 (.int .u64 (rS seed k)) (.int .i64 W) x (.int .i64 N) (.int .i64 k) w fun v w' => Own w0 w' v (raL seed W N)
  | 0, k, x, w, ho, hd => by
    apply L30_0_ok
    have : ¬ ((k : Int) < N) := by omega
    simp only [L30_0, wpB_some', bp_lss, this, decide_false, cnd_false]
    rw [← show k = N by omega]; exact ho
  | d + 1, k, x, w, ho, hd => by
    apply L30_0_ok
    have hlt : (k : Int) < N := by omega
    simp only [L30_0, wpB_some', bp_lss, hlt, decide_true, cnd_true, bp_mul, bp_add, bp_shr (show (0 : Int) ≤ 33 by omega), pr_conv u33 u3, bp_rem (show W ≠ 0 by omega)]
    have ho1 := ho.1
    rw [raL_len] at ho1
    refine push28 ho1 (by omega) ho.2.size fun x' w' h1 hb => ?_
    simp only [wpB_some', wrapi (n := (k : Int) + 1) (by omega) (by omega)]
    exact l30 W seed hW w0 N hN d (k + 1) x' w' ⟨by rw [raL_len]; exact h1, ho.2.trans hb⟩ (by omega)
theorem c30 (s a n : Int) (w : World) : CallR Try.prog 30 [.int .u64 s, .int .i64 a, .int .i64 n] w fun v w' => Own w w' v (raL s (cutW a) (clampN n)) := by
  apply F30_ok
  have hc := cutW_bound a
  refine (c54 a w).step ?_
  simp only [pr_max, pr_min, wpB_some', ← clampN_eq]
  exact l30 (cutW a) s (by omega) w (clampN n) (clampN_le n) (clampN n) 0 _ w (own_nil w) (by omega)
theorem l35 (W seed : Int) (hW : 1 ≤ W) (w0 : World) (n : Int) : ∀ (d k : Nat) (x : Value) (w : World), Own w0 w x (raL seed W k) → k + d = clampN n →
    P35_0 (.int .u64 (rS seed k)) (.int .i64 n) (.int .i64 W) x (.int .i64 k) w fun v w' => Own w0 w' v (raL seed W (clampN n))
  | 0, k, x, w, ho, hd => by
    apply L35_0_ok
    have hq := clampN_eq n
    have hk : k = clampN n := by omega
    by_cases h1 : (k : Int) < n
    · have : ¬ ((k : Int) < 1048576) := by (repeat' split at hq) <;> omega
      simp only [L35_0, wpB_some', bp_lss, h1, decide_true, gd_true, gv_true, this, decide_false, pickv_true, cnd_false]
      rw [← hk]; exact ho
    · simp only [L35_0, wpB_some', bp_lss, h1, decide_false, gd_ft, pickv_false, cnd_false]
      rw [← hk]; exact ho
  | d + 1, k, x, w, ho, hd => by
    apply L35_0_ok
    have hq := clampN_eq n
    have hle := clampN_le n
    have h1 : (k : Int) < n := by (repeat' split at hq) <;> omega
    have h2 : (k : Int) < 1048576 := by omega
    simp only [L35_0, wpB_some', bp_lss, h1, h2, decide_true, gd_true, gv_true, pickv_true, cnd_true, bp_mul, bp_add, bp_shr (show (0 : Int) ≤ 33 by omega), pr_conv u33 u3, bp_rem (show W ≠ 0 by omega)]
    have ho1 := ho.1
    rw [raL_len] at ho1
    refine push28 ho1 (by omega) ho.2.size fun x' w' h1 hb => ?_
    simp only [wpB_some', wrapi (n := (k : Int) + 1) (by omega) (by omega)]
    exact l35 W seed hW w0 n d (k + 1) x' w' ⟨by rw [raL_len]; exact h1, ho.2.trans hb⟩ (by omega)
theorem c35 (s a n : Int) (w : World) : CallR Try.prog 35 [.int .u64 s, .int .i64 a, .int .i64 n] w fun v w' => Own w w' v (raL s (cutW a) (clampN n)) := by
  apply F35_ok
  have hc := cutW_bound a
  have := l35 (cutW a) s (by omega) w n (clampN n) 0 _ w (own_nil w) (by omega)
  simp only [F35, pr_max, pr_min, wpB_some']
  exact this

/-! ### bursts -/
def many (n : Int) : Int := if 1000 < (if 0 > n then 0 else n) then 1000 else (if 0 > n then 0 else n)
theorem many_bound (n : Int) : 0 ≤ many n ∧ many n ≤ 1000 := by unfold many; (repeat' split) <;> omega
/-- behind so many bursts -/
def buL (l : List Int) (W : Int) : Nat → List Int
  | 0 => []
  | i + 1 => buL l W i ++ List.replicate (min (many (l.getD i 0)).toNat (1048576 - (buL l W i).length)) ((i : Int) % W)
theorem buL_le (l : List Int) (W : Int) : ∀ i, (buL l W i).length ≤ 1048576
  | 0 => by simp [buL]
  | i + 1 => by have := buL_le l W i; simp only [buL, List.length_append, List.length_replicate]; omega
theorem snoc_replicate {α : Type} (xs : List α) (a : α) (j : Nat) : xs ++ List.replicate j a ++ [a] = xs ++ List.replicate (j + 1) a := by
  rw [List.append_assoc, ← List.replicate_succ']
theorem l31 (W : Int) (hW : 1 ≤ W) (w0 : World) {l : List Int} (hl : l.length ≤ 17592186044416) {A : Option Addr} {c : Nat} (h0 : RdI .i64 w0 A l) : ∀ (d i : Nat) (x : Value) (w : World), Own w0 w x (buL l W i) → i + d = l.length →
    P31_0 (.int .i64 W) x (.slice A l.length c) (.int .i64 l.length) (.int .i64 i) w fun v w' => Own w0 w' v (buL l W l.length)
  | 0, i, x, w, ho, hd => by
    apply L31_0_ok
    have : ¬ ((i : Int) < l.length) := by omega
    simp only [L31_0, wpB_some', bp_lss, this, decide_false, cnd_false]
    rw [← show i = l.length by omega]; exact ho
  | d + 1, i, x, w, ho, hd => by
    have hle := buL_le l W i
    have hm := many_bound (l.getD i 0)
    -- the burst itself
    have inner : ∀ (M : Nat), M = min (many (l.getD i 0)).toNat (1048576 - (buL l W i).length) → ∀ (e j : Nat) (x : Value) (w : World), Own w0 w x (buL l W i ++ List.replicate j ((i : Int) % W)) → j + e = M →
        P31_1 (.int .i64 W) x (.int .i64 i) (.slice A l.length c) (.int .i64 l.length) (.int .i64 i) (.int .i64 M) (.int .i64 j) w fun v w' => Own w0 w' v (buL l W l.length) := by
      intro M hM e
      induction e with
      | zero =>
        intro j x w ho hj
        apply L31_1_ok
        have : ¬ ((j : Int) < M) := by omega
        simp only [L31_1, wpB_some', bp_lss, this, decide_false, cnd_false, bp_add, wrapi (n := (i : Int) + 1) (by omega) (by omega)]
        refine l31 W hW w0 hl h0 d (i + 1) x w ?_ (by omega)
        rw [buL, ← hM, ← show j = M by omega]; exact ho
      | succ e ih =>
        intro j x w ho hj
        apply L31_1_ok
        have hlt : (j : Int) < M := by omega
        simp only [L31_1, wpB_some', bp_lss, hlt, decide_true, cnd_true, bp_rem (show W ≠ 0 by omega), Int.tmod_eq_emod_of_nonneg (show (0 : Int) ≤ i by omega)]
        have ho1 := ho.1
        have hlen : (buL l W i ++ List.replicate j ((i : Int) % W)).length = (buL l W i).length + j := by simp
        refine push28 (n := (buL l W i ++ List.replicate j ((i : Int) % W)).length) ho1 (by rw [hlen]; omega) ho.2.size fun x' w' h1 hb => ?_
        simp only [bp_add, wpB_some', wrapi (n := (j : Int) + 1) (by omega) (by omega)]
        refine ih (j + 1) x' w' ⟨?_, ho.2.trans hb⟩ (by omega)
        rw [snoc_replicate] at h1
        have e1 : (buL l W i ++ List.replicate (j + 1) ((i : Int) % W)).length = (buL l W i ++ List.replicate j ((i : Int) % W)).length + 1 := by simp; omega
        rw [e1]; exact h1
    apply L31_0_ok
    have hlt : (i : Int) < l.length := by omega
    obtain ⟨q, hq1, hq2⟩ := (h0.keep ho.2).at (P := Try.prog) (c := c) (j := .i64) u28 u3 s3 (i := (i : Int)) (by omega) hlt
    obtain ⟨_, A', c', rfl, _, _⟩ := rd_of_own ho.1
    simp only [L31_0, wpB_some', bp_lss, hlt, decide_true, cnd_true, hq1, hq2, Int.toNat_natCast, pr_max, pr_min, len28, bp_sub, wrapi (n := 1048576 - ((buL l W i).length : Int)) (by omega) (by omega)]
    have hcast : (if 1048576 - ((buL l W i).length : Int) < many (l.getD i 0) then 1048576 - ((buL l W i).length : Int) else many (l.getD i 0)) = ((min (many (l.getD i 0)).toNat (1048576 - (buL l W i).length) : Nat) : Int) := by
      split <;> omega
    obtain ⟨M, hM⟩ : ∃ M, M = min (many (l.getD i 0)).toNat (1048576 - (buL l W i).length) := ⟨_, rfl⟩
    rw [← hM] at hcast
    have := inner M hM M 0 (.slice A' (buL l W i).length c') w (by simpa using ho) (by omega)
    rw [← hcast] at this
    exact this
theorem c31 (a : Int) {l : List Int} (hl : l.length ≤ 17592186044416) {v : Value} {w : World} (hr : SlI w v l) : CallR Try.prog 31 [.int .i64 a, v] w fun v w' => Own w w' v (buL l (cutW a) l.length) := by
  obtain ⟨A, c, rfl, hr⟩ := hr
  apply F31_ok
  have hc := cutW_bound a
  refine (c54 a w).step ?_
  simp only [len28, wpB_some']
  exact l31 (cutW a) (by omega) w hl hr l.length 0 _ w (own_nil w) (by omega)
theorem l34 (W : Int) (hW : 1 ≤ W) (w0 : World) {l : List Int} (hl : l.length ≤ 17592186044416) {A : Option Addr} {c : Nat} (h0 : RdI .i64 w0 A l) : ∀ (d i : Nat) (x : Value) (w : World), Own w0 w x (buL l W i) → i + d = l.length →
    P34_0 (.slice A l.length c) (.int .i64 W) x (.int .i64 i) w fun v w' => Own w0 w' v (buL l W l.length)
  | 0, i, x, w, ho, hd => by
    apply L34_0_ok
    have : ¬ ((i : Int) < l.length) := by omega
    simp only [L34_0, len28, wpB_some', bp_lss, this, decide_false, cnd_false]
    rw [← show i = l.length by omega]; exact ho
  | d + 1, i, x, w, ho, hd => by
    have hle := buL_le l W i
    have hm := many_bound (l.getD i 0)
    have hmd : many (l.getD i 0) = if 1000 < (if 0 > l.getD i 0 then 0 else l.getD i 0) then 1000 else (if 0 > l.getD i 0 then 0 else l.getD i 0) := rfl
    have hlt : (i : Int) < l.length := by omega
    have inner : ∀ (M : Nat), M = min (many (l.getD i 0)).toNat (1048576 - (buL l W i).length) → ∀ (e j : Nat) (x : Value) (w : World), Own w0 w x (buL l W i ++ List.replicate j ((i : Int) % W)) → j + e = M →
        P34_1 (.slice A l.length c) (.int .i64 W) x (.int .i64 i) (.int .i64 j) w fun v w' => Own w0 w' v (buL l W l.length) := by
      intro M hM e
      induction e with
      | zero =>
        intro j x w ho hj
        apply L34_1_ok
        obtain ⟨q, hq1, hq2⟩ := (h0.keep ho.2).at (P := Try.prog) (c := c) (j := .i64) u28 u3 s3 (i := (i : Int)) (by omega) hlt
        obtain ⟨_, A', c', rfl, _, _⟩ := rd_of_own ho.1
        have next : P34_0 (.slice A l.length c) (.int .i64 W) (.slice A' (buL l W i ++ List.replicate j ((i : Int) % W)).length c') (.int .i64 ((i : Int) + 1)) w fun v w' => Own w0 w' v (buL l W l.length) := by
          refine l34 W hW w0 hl h0 d (i + 1) _ w ?_ (by omega)
          rw [buL, ← hM, ← show j = M by omega]; exact ho
        by_cases h1 : (j : Int) < l.getD i 0
        · by_cases h2 : (j : Int) < 1000
          · have h3 : ¬ ((((buL l W i ++ List.replicate j ((i : Int) % W)).length : Nat) : Int) < 1048576) := by
              simp only [List.length_append, List.length_replicate]; (repeat' split at hmd) <;> omega
            simp only [L34_1, hq1, hq2, Int.toNat_natCast, wpB_some', bp_lss, h1, h2, decide_true, gd_true, gv_true, pickv_true, len28, h3, decide_false, cnd_false, bp_add, wrapi (n := (i : Int) + 1) (by omega) (by omega)]
            exact next
          · simp only [L34_1, hq1, hq2, Int.toNat_natCast, wpB_some', bp_lss, h1, h2, decide_true, decide_false, gd_true, gv_true, gv_ft, gd_ft, pickv_true, pickv_false, cnd_false, bp_add, wrapi (n := (i : Int) + 1) (by omega) (by omega)]
            exact next
        · simp only [L34_1, hq1, hq2, Int.toNat_natCast, wpB_some', bp_lss, h1, decide_false, gv_ft, gd_ft, pickv_false, cnd_false, bp_add, wrapi (n := (i : Int) + 1) (by omega) (by omega)]
          exact next
      | succ e ih =>
        intro j x w ho hj
        apply L34_1_ok
        obtain ⟨q, hq1, hq2⟩ := (h0.keep ho.2).at (P := Try.prog) (c := c) (j := .i64) u28 u3 s3 (i := (i : Int)) (by omega) hlt
        obtain ⟨_, A', c', hx, _, _⟩ := rd_of_own ho.1
        have h1 : (j : Int) < l.getD i 0 := by (repeat' split at hmd) <;> omega
        have h2 : (j : Int) < 1000 := by omega
        have h3 : (((buL l W i ++ List.replicate j ((i : Int) % W)).length : Nat) : Int) < 1048576 := by
          simp only [List.length_append, List.length_replicate]; omega
        subst hx
        simp only [L34_1, hq1, hq2, Int.toNat_natCast, wpB_some', bp_lss, h1, h2, h3, decide_true, gd_true, gv_true, pickv_true, len28, cnd_true, bp_rem (show W ≠ 0 by omega), Int.tmod_eq_emod_of_nonneg (show (0 : Int) ≤ i by omega)]
        have ho1 := ho.1
        have hlen : (buL l W i ++ List.replicate j ((i : Int) % W)).length = (buL l W i).length + j := by simp
        refine push28 (n := (buL l W i ++ List.replicate j ((i : Int) % W)).length) ho1 (by rw [hlen]; omega) ho.2.size fun x' w' h1 hb => ?_
        simp only [bp_add, wpB_some', wrapi (n := (j : Int) + 1) (by omega) (by omega)]
        refine ih (j + 1) x' w' ⟨?_, ho.2.trans hb⟩ (by omega)
        rw [snoc_replicate] at h1
        have e1 : (buL l W i ++ List.replicate (j + 1) ((i : Int) % W)).length = (buL l W i ++ List.replicate j ((i : Int) % W)).length + 1 := by simp; omega
        rw [e1]; exact h1
    apply L34_0_ok
    simp only [L34_0, len28, wpB_some', bp_lss, hlt, decide_true, cnd_true]
    obtain ⟨M, hM⟩ : ∃ M, M = min (many (l.getD i 0)).toNat (1048576 - (buL l W i).length) := ⟨_, rfl⟩
    exact inner M hM M 0 x w (by simpa using ho) (by omega)
theorem c34 (a : Int) {l : List Int} (hl : l.length ≤ 17592186044416) {v : Value} {w : World} (hr : SlI w v l) : CallR Try.prog 34 [.int .i64 a, v] w fun v w' => Own w w' v (buL l (cutW a) l.length) := by
  obtain ⟨A, c, rfl, hr⟩ := hr
  apply F34_ok
  have hc := cutW_bound a
  have := l34 (c := c) (cutW a) (by omega) w hl hr l.length 0 _ w (own_nil w) (by omega)
  simp only [F34, pr_max, pr_min, wpB_some']
  exact this
end Go.Proofs.Ytkploakfdlnbbaa
