/- The call of TurnsBursts answers true: what came in is read burst by burst, the changes counted. -/
import Derived.Test.YtkploakfdlnbbaaCe
namespace Go.Proofs.Ytkploakfdlnbbaa
open Go Ev Go.RowKit
set_option linter.unusedSimpArgs false
set_option linter.unusedVariables false

theorem getD_app_right {α : Type} (a b : List α) (j : Nat) (d : α) : (a ++ b).getD (a.length + j) d = b.getD j d := by
  simp [List.getD_eq_getElem?_getD, List.getElem?_append_right]
theorem getD_app_left {α : Type} (a b : List α) (j : Nat) (d : α) (h : j < a.length) : (a ++ b).getD j d = a.getD j d := by
  simp [List.getD_eq_getElem?_getD, List.getElem?_append_left h]
theorem buL_app (l : List Int) (W : Int) : ∀ (d i : Nat), ∃ r, buL l W (i + d) = buL l W i ++ r
  | 0, i => ⟨[], by simp⟩
  | d + 1, i => by
    obtain ⟨r, h⟩ := buL_app l W d i
    exact ⟨_, by rw [show i + (d + 1) = (i + d) + 1 by omega, buL, h, List.append_assoc]⟩
theorem buL_len (l : List Int) (W : Int) : ∀ i, i ≤ 20 → (buL l W i).length ≤ 1000 * i
  | 0, _ => by simp [buL]
  | i + 1, h => by
    have := buL_len l W i (by omega)
    have := many_bound (l.getD i 0)
    simp only [buL, List.length_append, List.length_replicate]; omega
theorem buL_step (l : List Int) (W : Int) (i : Nat) (h : i ≤ 20) : buL l W (i + 1) = buL l W i ++ List.replicate (many (l.getD i 0)).toNat ((i : Int) % W) := by
  have := buL_len l W i h
  have := many_bound (l.getD i 0)
  rw [buL]; congr 2; omega
/-- in the whole, burst i stands behind those before it -/
theorem buL_in (l : List Int) (W : Int) (i n : Nat) (hi : i < n) (hn : n ≤ 20) : (buL l W i).length + (many (l.getD i 0)).toNat ≤ (buL l W n).length ∧
    ∀ j, j < (many (l.getD i 0)).toNat → (buL l W n).getD ((buL l W i).length + j) 0 = (i : Int) % W := by
  obtain ⟨r, h⟩ := buL_app l W (n - (i + 1)) (i + 1)
  rw [show i + 1 + (n - (i + 1)) = n by omega, buL_step l W i (by omega)] at h
  rw [h]
  refine ⟨by simp [-List.getD_eq_getElem?_getD], fun j hj => ?_⟩
  rw [List.append_assoc, getD_app_right, getD_app_left _ _ _ _ (by simpa using hj), List.getD_eq_getElem?_getD, List.getElem?_replicate, if_pos hj]; rfl
/-- a burst has one change at most: at its start -/
theorem swN_burst (xs : List Int) (n : Nat) (v : Int) : ∀ m, (∀ j, j < m → xs.getD (n + j) 0 = v) → swN xs (n + m) = swN xs n + (if 0 < m ∧ 1 ≤ n ∧ xs.getD (n - 1) 0 ≠ v then 1 else 0)
  | 0, _ => by simp
  | m + 1, h => by
    have ih := swN_burst xs n v m fun j hj => h j (by omega)
    rw [show n + (m + 1) = (n + m) + 1 by omega, swN, ih, h m (by omega)]
    cases m with
    | zero =>
      simp only [Nat.add_zero, Nat.lt_irrefl, false_and, if_false, Nat.zero_lt_succ, true_and]
      by_cases h1 : 1 ≤ n ∧ v ≠ xs.getD (n - 1) 0
      · rw [if_pos h1, if_pos ⟨h1.1, h1.2.symm⟩]
      · rw [if_neg h1, if_neg fun h => h1 ⟨h.1, h.2.symm⟩]
    | succ m =>
      have e : xs.getD (n + (m + 1) - 1) 0 = v := by rw [show n + (m + 1) - 1 = n + m by omega]; exact h m (by omega)
      have e' : ¬ (1 ≤ n + (m + 1) ∧ v ≠ xs.getD (n + (m + 1) - 1) 0) := fun hh => hh.2 e.symm
      simp only [e', if_false, Nat.zero_lt_succ, true_and, Nat.add_zero]
/-- who was last -/
def whoB (l : List Int) (W : Int) : Nat → Int
  | 0 => -1
  | i + 1 => if 0 < many (l.getD i 0) then (i : Int) % W else whoB l W i
theorem whoB_in (l : List Int) (W : Int) (hW : 0 < W) (n : Nat) (hn : n ≤ 20) : ∀ i, i ≤ n → (whoB l W i = -1 ∧ (buL l W i).length = 0) ∨ (0 ≤ whoB l W i ∧ 1 ≤ (buL l W i).length ∧ (buL l W n).getD ((buL l W i).length - 1) 0 = whoB l W i)
  | 0, _ => .inl ⟨rfl, rfl⟩
  | i + 1, h => by
    have ih := whoB_in l W hW n hn i (by omega)
    obtain ⟨h1, h2⟩ := buL_in l W i n (by omega) hn
    have hm := many_bound (l.getD i 0)
    by_cases h0 : 0 < many (l.getD i 0)
    · refine .inr ?_
      rw [whoB, if_pos h0, buL_step l W i (by omega), List.length_append, List.length_replicate]
      refine ⟨Int.emod_nonneg _ (by omega), by omega, ?_⟩
      rw [show (buL l W i).length + (many (l.getD i 0)).toNat - 1 = (buL l W i).length + ((many (l.getD i 0)).toNat - 1) by omega]
      exact h2 _ (by omega)
    · rw [whoB, if_neg h0, buL_step l W i (by omega), show (many (l.getD i 0)).toNat = 0 by omega]
      simpa using ih
def NB (l : List Int) (W : Int) (i : Nat) : Nat := (buL l W i).length
def SB (l : List Int) (W : Int) (n i : Nat) : Nat := swN (buL l W n) (NB l W i)
theorem NB_step (l : List Int) (W : Int) (i : Nat) (h : i ≤ 20) : (NB l W (i + 1) : Int) = NB l W i + many (l.getD i 0) := by
  have := many_bound (l.getD i 0)
  unfold NB; rw [buL_step l W i h, List.length_append, List.length_replicate]; omega
theorem SB_step (l : List Int) (W : Int) (hW : 0 < W) (n i : Nat) (hi : i < n) (hn : n ≤ 20) :
    (SB l W n (i + 1) : Int) = SB l W n i + (if 0 < many (l.getD i 0) ∧ 0 ≤ whoB l W i ∧ whoB l W i ≠ (i : Int) % W then 1 else 0) := by
  obtain ⟨h1, h2⟩ := buL_in l W i n hi hn
  have hm := many_bound (l.getD i 0)
  have hs := swN_burst (buL l W n) (NB l W i) ((i : Int) % W) _ h2
  have hN := NB_step l W i (by omega)
  unfold SB
  rw [show NB l W (i + 1) = NB l W i + (many (l.getD i 0)).toNat by omega, hs]
  rcases whoB_in l W hW n hn i (by omega) with ⟨e1, e2⟩ | ⟨e1, e2, e3⟩
  · rw [if_neg (by unfold NB; omega), if_neg (by omega)]; rfl
  · rw [show (buL l W n).getD (NB l W i - 1) 0 = whoB l W i from e3]
    by_cases hc : 0 < many (l.getD i 0) ∧ whoB l W i ≠ (i : Int) % W
    · rw [if_pos ⟨by omega, by unfold NB; omega, hc.2⟩, if_pos ⟨hc.1, e1, hc.2⟩]; rfl
    · rw [if_neg fun h => hc ⟨by omega, h.2.2⟩, if_neg fun h => hc ⟨h.1, h.2.2⟩]; rfl
theorem l9 {W : Int} (hW : 0 < W) (hW5 : W ≤ 5) {l : List Int} (hl : l.length ≤ 20) {A B : Option Addr} {c d : Nat} (w0 : World) : ∀ (e i : Nat) (w : World), RdI .i64 w A l → RdI .i64 w B (buL l W l.length) → Below w0.heap.size w0 w → i + e = l.length →
    P9_0 (.slice A l.length c) (.bool true) (.int .i64 W) (.slice B (buL l W l.length).length d) (.int .i64 (NB l W i)) (.int .i64 (whoB l W i)) (.int .i64 (SB l W l.length i)) (.int .i64 i) w fun v w' => v = .bool true ∧ Below w0.heap.size w0 w'
  | 0, i, w, hA, hB, hb, hd => by
    apply L9_0_ok
    have : ¬ ((i : Int) < l.length) := by omega
    have hi : i = l.length := by omega
    subst hi
    have hle := buL_len l W l.length hl
    simp only [L9_0, len28, wpB_some', bp_lss, this, decide_false, cnd_false, gd_true, gv_true, be_eql, show NB l W l.length = (buL l W l.length).length from rfl, beq_self_eq_true, pickv_true, gE_true]
    refine (c25 (by omega) (⟨B, d, rfl, hB⟩ : SlI w _ (buL l W l.length))).mono ?_
    rintro v w1 ⟨rfl, hb1⟩
    have e : sw (buL l W l.length) = SB l W l.length l.length := by
      unfold sw SB NB
      rcases Nat.eq_zero_or_pos (buL l W l.length).length with h | h
      · rw [h]; rfl
      · rw [show max 1 (buL l W l.length).length = (buL l W l.length).length by omega]
    simp only [e, gd_true, gv_true, be_eql, beq_self_eq_true, pickv_true, wpB_some']
    exact ⟨trivial, hb.trans (hb1.mono hb.size)⟩
  | e + 1, i, w, hA, hB, hb, hd => by
    apply L9_0_ok
    have hlt : (i : Int) < l.length := by omega
    obtain ⟨q, hq1, hq2⟩ := hA.at (P := Try.prog) (c := c) (j := .i64) u28 u3 s3 (i := (i : Int)) (by omega) hlt
    have hm := many_bound (l.getD i 0)
    obtain ⟨h1, h2⟩ := buL_in l W i l.length (by omega) hl
    have hle := buL_len l W l.length hl
    have hmd : (if 1000 < (if 0 > l.getD i 0 then 0 else l.getD i 0) then 1000 else (if 0 > l.getD i 0 then 0 else l.getD i 0)) = many (l.getD i 0) := rfl
    have hNB : NB l W i = (buL l W i).length := rfl
    have hno : ¬ ((buL l W l.length).length : Int) - NB l W i < many (l.getD i 0) := by omega
    have hSt := SB_step l W hW l.length i (by omega) hl
    have hNt := NB_step l W i (by omega)
    have hwt : whoB l W (i + 1) = if 0 < many (l.getD i 0) then (i : Int) % W else whoB l W i := rfl
    simp only [L9_0, len28, wpB_some', bp_lss, hlt, decide_true, cnd_true, hq1, hq2, Int.toNat_natCast, pr_max, pr_min]
    simp only [hmd, bp_sub, wrapi (n := ((buL l W l.length).length : Int) - NB l W i) (by omega) (by omega), wpB_some', bp_gtr, hno, decide_false, cnd_false]
    have next : ∀ (w : World) (hA : RdI .i64 w A l) (hB : RdI .i64 w B (buL l W l.length)) (hb : Below w0.heap.size w0 w) (who s : Int), who = whoB l W (i + 1) → s = SB l W l.length (i + 1) →
        P9_3 (.slice A l.length c) (.bool true) (.int .i64 W) (.slice B (buL l W l.length).length d) (.int .i64 (NB l W i)) (.int .i64 who) (.int .i64 s) (.int .i64 i) (.int .i64 (many (l.getD i 0))) w fun v w' => v = .bool true ∧ Below w0.heap.size w0 w' := by
      intro w hA hB hb who s hwho hs
      subst hwho; subst hs
      apply L9_3_ok
      simp only [L9_3, bp_add, wpB_some', wrapi (n := (NB l W i : Int) + many (l.getD i 0)) (by omega) (by omega), wrapi (n := (i : Int) + 1) (by omega) (by omega), ← hNt]
      have h := l9 (c := c) (d := d) hW hW5 hl w0 e (i + 1) w hA hB hb (by omega)
      rw [Int.natCast_add i 1] at h
      rw [wrapi (n := (NB l W (i + 1) : Int)) (by omega) (by omega)]
      exact h
    have inner : ∀ (k j : Nat) (w : World), RdI .i64 w A l → RdI .i64 w B (buL l W l.length) → Below w0.heap.size w0 w → j + k = (many (l.getD i 0)).toNat →
        P9_1 (.slice A l.length c) (.bool true) (.int .i64 W) (.slice B (buL l W l.length).length d) (.int .i64 (NB l W i)) (.int .i64 (whoB l W i)) (.int .i64 (SB l W l.length i)) (.int .i64 i) (.int .i64 (many (l.getD i 0))) (.int .i64 j) w fun v w' => v = .bool true ∧ Below w0.heap.size w0 w' := by
      intro k
      induction k with
      | zero =>
        intro j w hA hB hb hj
        apply L9_1_ok
        have : ¬ ((j : Int) < many (l.getD i 0)) := by omega
        simp only [L9_1, wpB_some', bp_lss, this, decide_false, cnd_false, bp_gtr]
        have hSB : SB l W l.length i ≤ NB l W i := swN_le _ _
        by_cases h0 : 0 < many (l.getD i 0)
        · have e1 : ∀ s : Int, s = SB l W l.length (i + 1) → P9_2 (.slice A l.length c) (.bool true) (.int .i64 W) (.slice B (buL l W l.length).length d) (.int .i64 (NB l W i)) (.int .i64 s) (.int .i64 i) (.int .i64 (many (l.getD i 0))) w fun v w' => v = .bool true ∧ Below w0.heap.size w0 w' := by
            intro s hs
            apply L9_2_ok
            simp only [L9_2, bp_rem (show W ≠ 0 by omega), Int.tmod_eq_emod_of_nonneg (show (0 : Int) ≤ i by omega), wpB_some']
            exact next w hA hB hb _ _ (by rw [hwt, if_pos h0]) hs
          simp only [h0, decide_true, cnd_true, bp_geq, wpB_some']
          by_cases h3 : 0 ≤ whoB l W i
          · simp only [h3, decide_true, gd_true, gv_true, bp_rem (show W ≠ 0 by omega), Int.tmod_eq_emod_of_nonneg (show (0 : Int) ≤ i by omega), wpB_some', be_neq, pickv_true]
            by_cases h4 : whoB l W i = (i : Int) % W
            · simp only [h4, bne_self_eq_false, cnd_false]
              exact e1 _ (by rw [hSt, if_neg fun h => h.2.2 h4]; omega)
            · simp only [bne_iff_ne.2 h4, cnd_true, bp_add, wpB_some', wrapi (n := (SB l W l.length i : Int) + 1) (by omega) (by omega)]
              exact e1 _ (by rw [hSt, if_pos ⟨h0, h3, h4⟩])
          · simp only [h3, decide_false, gd_ft, gv_ft, wpB_some', pickv_false, cnd_false]
            exact e1 _ (by rw [hSt, if_neg fun h => h3 h.2.1]; omega)
        · simp only [h0, decide_false, cnd_false]
          exact next w hA hB hb _ _ (by rw [hwt, if_neg h0]) (by rw [hSt, if_neg fun h => h0 h.1]; omega)
      | succ k ih =>
        intro j w hA hB hb hj
        apply L9_1_ok
        have hjl : (j : Int) < many (l.getD i 0) := by omega
        obtain ⟨q, hq1, hq2⟩ := (hB.drew).at (P := Try.prog) (c := d) (j := .i64) u28 u3 s3 (i := (NB l W i : Int) + j) (by omega) (by omega)
        rw [show ((NB l W i : Int) + j).toNat = (buL l W i).length + j by omega, h2 j (by omega)] at hq2
        simp only [L9_1, wpB_some', bp_lss, hjl, decide_true, cnd_true, bp_add, wrapi (n := (NB l W i : Int) + j) (by omega) (by omega), hq1, hq2, bp_rem (show W ≠ 0 by omega), Int.tmod_eq_emod_of_nonneg (show (0 : Int) ≤ i by omega), be_neq, bne_self_eq_false, cnd_false, wrapi (n := (j : Int) + 1) (by omega) (by omega)]
        exact ih (j + 1) _ hA.drew hB.drew hb.drew (by omega)
    exact inner (many (l.getD i 0)).toNat 0 w hA hB hb (by omega)
theorem law9 {W : World} (a0 : Int) (_ : (Lit.int .i64 a0).wf = true) (A : Option Addr) (n c : Nat) (zs : List Int) (h : InInts .i64 W A n c zs) :
    CallR Try.prog 9 [.int .i64 a0, .slice A n c] W fun v w' => v = .bool true ∧ Below W.heap.size W w' := by
  obtain ⟨xs, hn, hsl, _⟩ := InInts.sl h
  apply F9_ok
  refine (c24 W).mono ?_
  rintro v w ⟨rfl, hb⟩
  subst hn
  simp only [F9, pr_not, Bool.not_true, wpB_some', cnd_false, len28, bp_gtr]
  by_cases h2 : (20 : Int) < xs.length
  · simp only [h2, decide_true, cnd_true]; exact ⟨trivial, hb⟩
  · have hlen : xs.length ≤ 20 := by omega
    simp only [h2, decide_false, cnd_false]
    refine (c23 _ 5 w (by omega) (by omega)).step ?_
    have n0 := Int.emod_nonneg a0 (b := 5) (by omega)
    have n1 := Int.emod_lt_of_pos a0 (b := 5) (by omega)
    generalize a0 % 5 = t at *
    simp only [bp_add, wpB_some', wrapi (n := 1 + t) (by omega) (by omega)]
    have hsl := hsl.keep hb
    have hsl' := hsl
    obtain ⟨A', c', e, hr⟩ := hsl'
    rw [e]
    refine app28 hr (by omega) fun x w4 ho4 hb4 => ?_
    refine (c31 (1 + t) (by omega) (.of_own ho4)).mono fun v5 w5 o5 => ?_
    have b45 : Below w.heap.size w w5 := hb4.trans (o5.2.mono hb4.size)
    have ec : cutW (1 + t) = 1 + t := by unfold cutW; (repeat' split) <;> omega
    rw [ec] at o5
    obtain ⟨B, d, e5, hB⟩ := o5.sl
    subst e5
    have := l9 (W := 1 + t) (c := c') (d := d) (by omega) (by omega) hlen w5 xs.length 0 w5 (hr.keep b45) hB (Below.refl _ _) (by omega)
    refine Part.mono this ?_
    rintro v w6 ⟨rfl, hb6⟩
    exact ⟨rfl, hb.trans ((b45.trans (hb6.mono b45.size)).mono hb.size)⟩
end Go.Proofs.Ytkploakfdlnbbaa
