/- The call of TurnsFair answers true: rounds count alike, leave no one out longer than the others, change at each step. -/
import Derived.Test.YtkploakfdlnbbaaCg
namespace Go.Proofs.Ytkploakfdlnbbaa
open Go Ev Go.RowKit
set_option linter.unusedSimpArgs false
set_option linter.unusedVariables false

/-! ### plain lists -/
theorem rnL_get (W : Int) : ∀ (n i : Nat), i < n → (rnL W n).getD i 0 = (i : Int) % W
  | n + 1, i, h => by
    rcases Nat.lt_or_ge i n with h1 | h1
    · rw [rnL, getD_app_left _ _ _ _ (by simpa using h1)]; exact rnL_get W n i h1
    · have : i = (rnL W n).length + 0 := by simp; omega
      rw [rnL, this, getD_app_right]; simp
theorem raL_get (s W : Int) : ∀ (n i : Nat), i < n → (raL s W n).getD i 0 = rPick (rS s (i + 1)) W
  | n + 1, i, h => by
    rcases Nat.lt_or_ge i n with h1 | h1
    · rw [raL, getD_app_left _ _ _ _ (by simpa using h1)]; exact raL_get s W n i h1
    · have : i = (raL s W n).length + 0 := by simp; omega
      rw [raL, this, getD_app_right]; simp
theorem rPick_bound (s W : Int) (i : Nat) (hW : 1 ≤ W) : 0 ≤ rPick (rS s (i + 1)) W ∧ rPick (rS s (i + 1)) W < W := by
  have h : 0 ≤ rS s (i + 1) ∧ rS s (i + 1) < 18446744073709551616 := by
    have e : ∀ n, IntKind.u64.wrap n = n % 18446744073709551616 := fun n => by simp [IntKind.wrap, IntKind.bits, IntKind.signed]
    rw [rS, lcg, e]
    exact ⟨Int.emod_nonneg _ (by omega), Int.emod_lt_of_pos _ (by omega)⟩
  generalize rS s (i + 1) = x at *
  unfold rPick
  have e : (2 : Int) ^ (min (33 : Int).toNat IntKind.u64.bits) = 8589934592 := by decide
  rw [e]
  have h1 : 0 ≤ x.fdiv 8589934592 := Int.fdiv_nonneg h.1 (by omega)
  have h2 : x.fdiv 8589934592 ≤ 2147483648 := by
    rw [Int.fdiv_eq_ediv_of_nonneg _ (by omega)]; omega
  rw [wrapi (by omega) (by omega)]
  exact ⟨Int.tmod_nonneg _ h1, Int.tmod_lt_of_pos _ (by omega)⟩
theorem mod_at {W i q r : Nat} (h : i = W * q + r) (hr : r < W) : (i : Int) % W = r := by
  have : i % W = r := by rw [h, Nat.mul_add_mod, Nat.mod_eq_of_lt hr]
  rw [← this]; rfl
/-- the next one -/
theorem qr_next {W i q r : Nat} (h : i = W * q + r) (hr : r < W) : (r + 1 < W ∧ i + 1 = W * q + (r + 1)) ∨ (r + 1 = W ∧ i + 1 = W * (q + 1) + 0) := by
  rcases Nat.lt_or_ge (r + 1) W with h1 | h1
  · exact .inl ⟨h1, by omega⟩
  · exact .inr ⟨by omega, by rw [Nat.mul_succ]; omega⟩
theorem qr_ex (W i : Nat) (hW : 0 < W) : ∃ q r, i = W * q + r ∧ r < W := ⟨i / W, i % W, (Nat.div_add_mod i W).symm, Nat.mod_lt _ hW⟩
/-- changes in rounds -/
theorem sw_rn (W n : Nat) (hW : 1 ≤ W) : ∀ i, i ≤ n → swN (rnL W n) i = if 1 < W then i - 1 else 0
  | 0, _ => by simp [swN]
  | i + 1, h => by
    have ih := sw_rn W n hW i (by omega)
    rw [swN, ih, rnL_get _ _ _ (by omega)]
    rcases Nat.eq_zero_or_pos i with h0 | h0
    · subst h0; simp
    · rw [rnL_get _ _ _ (by omega)]
      obtain ⟨q, r, h1, h2⟩ := qr_ex W (i - 1) hW
      have e1 := mod_at h1 h2
      rw [e1]
      have : i - 1 + 1 = i := by omega
      rcases qr_next h1 h2 with ⟨h3, h4⟩ | ⟨h3, h4⟩
      · rw [this] at h4
        rw [mod_at h4 h3, if_pos (show 1 < W by omega), if_pos ⟨by omega, by omega⟩, if_pos (by omega)]; omega
      · rw [this] at h4
        rw [mod_at h4 (by omega)]
        by_cases hW1 : 1 < W
        · rw [if_pos hW1, if_pos ⟨by omega, by omega⟩, if_pos (by omega)]; omega
        · rw [if_neg hW1, if_neg (by omega), if_neg hW1]
theorem sw_rounds (W n : Nat) (hW : 1 ≤ W) : sw (rnL W n) = if 1 < W then n - 1 else 0 := by
  unfold sw
  rw [rnL_len]
  rcases Nat.eq_zero_or_pos n with h | h
  · subst h; simp [swN]
  · rw [show max 1 n = n by omega, sw_rn W n hW n (Nat.le_refl _)]
/-- how long one is left out in rounds: the present gap -/
theorem gp_rn (W n k : Nat) (m : Int) (hk : k < W) : ∀ i, i ≤ n → ∀ q r, i = W * q + r → r < W → (gp (rnL W n) k m i).2 = if r ≤ k then (if q = 0 then (r : Int) else (r : Int) + W - 1 - k) else (r : Int) - k - 1
  | 0, _, q, r, h, hr => by
    have : r = 0 := by omega
    subst this
    have hq : q = 0 := by
      rcases Nat.eq_zero_or_pos q with h0 | h0
      · exact h0
      · have := Nat.mul_pos (show 0 < W by omega) h0; omega
    simp [gp, hq]
  | i + 1, h, q', r', h', hr' => by
    obtain ⟨q, r, h1, h2⟩ := qr_ex W i (by omega)
    have ih := gp_rn W n k m hk i (by omega) q r h1 h2
    have e : (gp (rnL W n) k m (i + 1)).2 = if (rnL W n).getD i 0 = k then 0 else (gp (rnL W n) k m i).2 + 1 := rfl
    rw [e, ih, rnL_get _ _ _ (by omega), mod_at h1 h2]
    have key : ∀ a b c d : Nat, W * a + b = W * c + d → b < W → d < W → a = c ∧ b = d := by
      intro a b c d h hb hd
      have h3 : (W * a + b) / W = a := by rw [Nat.mul_add_div (by omega), Nat.div_eq_of_lt hb]; omega
      have h4 : (W * c + d) / W = c := by rw [Nat.mul_add_div (by omega), Nat.div_eq_of_lt hd]; omega
      have h5 : a = c := by rw [← h3, ← h4, h]
      subst h5; exact ⟨rfl, by omega⟩
    rcases qr_next h1 h2 with ⟨h3, h4⟩ | ⟨h3, h4⟩
    · obtain ⟨rfl, rfl⟩ := key _ _ _ _ (h'.symm.trans h4) hr' h3
      (repeat' split) <;> omega
    · obtain ⟨rfl, rfl⟩ := key _ _ _ _ (h'.symm.trans h4) hr' (by omega)
      (repeat' split) <;> omega
theorem gp_mono (xs : List Int) (k m : Int) (i : Nat) : (gp xs k m i).1 ≤ (gp xs k m (i + 1)).1 := by simp only [gp, mxi]; split <;> omega
theorem gp_mono' (xs : List Int) (k m : Int) (i : Nat) : ∀ d, (gp xs k m i).1 ≤ (gp xs k m (i + d)).1
  | 0 => Int.le_refl _
  | d + 1 => Int.le_trans (gp_mono' xs k m i d) (gp_mono xs k m (i + d))
theorem gp_cur (xs : List Int) (k m : Int) (i : Nat) (hm : 0 ≤ m) : (gp xs k m i).2 ≤ (gp xs k m i).1 := by
  cases i with
  | zero => exact hm
  | succ i => simp only [gp, mxi]; split <;> omega
theorem gp_rn_up (W n k : Nat) (m B : Int) (hk : k < W) (hm : m ≤ B) (hB : B = min (n : Int) (W - 1)) : ∀ i, i ≤ n → (gp (rnL W n) k m i).1 ≤ B
  | 0, _ => hm
  | i + 1, h => by
    have ih := gp_rn_up W n k m B hk hm hB i (by omega)
    have h1 := gp_bound (rnL W n) k m (i + 1)
    obtain ⟨q, r, h2, h3⟩ := qr_ex W (i + 1) (by omega)
    have h4 := gp_rn W n k m hk (i + 1) h q r h2 h3
    have h5 : (gp (rnL W n) k m (i + 1)).2 ≤ W - 1 := by rw [h4]; (repeat' split) <;> omega
    have e : (gp (rnL W n) k m (i + 1)).1 = mxi (gp (rnL W n) k m i).1 (gp (rnL W n) k m (i + 1)).2 := rfl
    rw [e, mxi]; split <;> omega
theorem gpW_rn_up (W n : Nat) : ∀ k, k ≤ W → gpW (rnL W n) k ≤ min (n : Int) (W - 1) ∨ W = 0
  | 0, _ => by simp only [gpW]; omega
  | k + 1, h => by
    rcases gpW_rn_up W n k (by omega) with h1 | h1
    · exact .inl (by rw [gpW, rnL_len]; exact gp_rn_up W n k _ _ (by omega) h1 rfl n (Nat.le_refl _))
    · omega
theorem gpW_pos (xs : List Int) : ∀ k, 0 ≤ gpW xs k
  | 0 => Int.le_refl _
  | k + 1 => Int.le_trans (gpW_pos xs k) (by rw [gpW]; have := gp_mono' xs k (gpW xs k) 0 xs.length; simpa [gp] using this)
theorem gap_rounds (W n : Nat) (hW : 1 ≤ W) (hW64 : W ≤ 64) : gapOf (rnL W n) W = min (n : Int) (W - 1) := by
  have hc : cutW (W : Int) = W := by unfold cutW; (repeat' split) <;> omega
  unfold gapOf
  rw [hc, Int.toNat_natCast]
  have hup := gpW_rn_up W n W (Nat.le_refl _)
  have hlow : min (n : Int) (W - 1) ≤ gpW (rnL W n) W := by
    obtain ⟨k, rfl⟩ : ∃ k, W = k + 1 := ⟨W - 1, by omega⟩
    rw [gpW, rnL_len]
    have hp := gpW_pos (rnL (k + 1 : Nat) n) k
    generalize gpW (rnL (k + 1 : Nat) n) k = m at *
    have hi : ∃ i, i = min n k := ⟨_, rfl⟩
    obtain ⟨i, hi⟩ := hi
    have h1 := gp_rn (k + 1) n k m (by omega) i (by omega) 0 i (by omega) (by omega)
    rw [if_pos (by omega), if_pos rfl] at h1
    have h2 := gp_cur (rnL (k + 1 : Nat) n) k m i hp
    have h3 := gp_mono' (rnL (k + 1 : Nat) n) k m i (n - i)
    rw [show i + (n - i) = n by omega] at h3
    omega
  omega
/-- how often each stood there, behind q rounds and r of the next -/
def ctL (W : Nat) (q r : Nat) : List Int := (List.range W).map fun k => if k < r then (q : Int) + 1 else q
@[simp] theorem ctL_len (W q r : Nat) : (ctL W q r).length = W := by simp [ctL]
theorem ctL_get (W q r k : Nat) (h : k < W) : (ctL W q r).getD k 0 = if k < r then (q : Int) + 1 else q := by
  simp [ctL, List.getD_eq_getElem?_getD, h]
theorem ctL_set (W q r : Nat) : (ctL W q r).set r ((q : Int) + 1) = ctL W q (r + 1) := by
  apply List.ext_getElem
  · simp
  · intro k h1 h2
    simp only [ctL, List.getElem_set, List.getElem_map, List.getElem_range]
    (repeat' split) <;> omega
theorem ctL_full (W q : Nat) : ctL W q W = ctL W (q + 1) 0 := by
  apply List.ext_getElem
  · simp
  · intro k h1 h2
    simp only [ctL, List.getElem_map, List.getElem_range]
    have : k < W := by simpa using h1
    rw [if_pos this]; simp
/-! ### a made slice, written into -/
theorem make28 {w : World} {K : Value → World → Prop} {n : Nat} (hn : n ≤ 1000)
    (hk : ∀ x w', w'.ownsRow w.heap.size 3 1 x n (ints (List.replicate n 0)) → Below w.heap.size w w' → K x w') : effv Try.prog (Instr.makeSlice 28 (.int .i64 n) (.int .i64 n)) w K := by
  obtain ⟨i, hi, hz, hs, hb⟩ := inf3
  obtain ⟨w', hr, ho, hg⟩ := run_make_full (P := Try.prog) w w.heap.size 28 3 i _ 1 u28 hi hz hs .i64 .i64 n (by rw [hb]; omega) (by unfold maxLen; omega) (Nat.le_refl _)
  refine effv_of hr (hk _ _ ?_ ((Below.refl _ w).grown hg (Nat.le_refl _) fun k hk => by cases hk))
  have e : (madeCells (Value.int .i64 0).cells (n * 1)).toList = ints (List.replicate n 0) := by
    show (madeCells #[.int .i64 0] (n * 1)).toList = _
    rw [toList_madeCells_one]; simp [ints]
  rw [← e]; exact ho
theorem run_storeI {P : Program} {w : World} {base : Nat} {e : TypeId} {x : Value} {n : Nat} {xs : List Int} {s : TypeId} {j : Int} {y : Int} (hown : w.ownsRow base e 1 x n (ints xs)) (hs : P.underlying s = some (.slice e)) (hz : (P.info? e).map (·.size) = some 1)
    (h0 : 0 ≤ j) (h1 : j < n) {K : World → Prop}
    (hk : ∀ w', w'.ownsRow base e 1 x n (ints (xs.set j.toNat y)) → Below base w w' → K w') :
    ∃ q, pureRun P (Instr.indexAt s x (.int .i64 j)) = some (.pointer (some q)) ∧ effu P (Instr.storeAt e (.pointer (some q)) (.int .i64 y)) w K := by
  have hn : n = xs.length := by have := hown.1; simp at this; omega
  rcases hown.2 with ⟨rfl, hz0⟩ | ⟨g, cap, cur, rfl, hbg, hg, hnc, hcm, hcs, htake⟩
  · omega
  · refine ⟨_, pr_index hs hz h0 h1, ?_⟩
    have hadd0 : (Addr.add ⟨g, 0, none⟩ j.toNat) = ⟨g, j.toNat, none⟩ := by
      unfold Addr.add; split
      · rename_i h; rw [h]
      · simp
    have hadd : (Addr.add ⟨g, 0, none⟩ (j.toNat * 1)) = ⟨g, j.toNat, none⟩ := by rw [Nat.mul_one]; exact hadd0
    rw [hadd]
    obtain ⟨ho, hgr⟩ := hown.stored j.toNat (.int .i64 y)
    have hcell : w.cell? ⟨g, j.toNat, none⟩ = some (.int .i64 (xs.getD j.toNat 0)) := by
      rw [← hadd0]
      refine hown.cells (g := g) rfl j.toNat _ ?_
      have : j.toNat < xs.length := by omega
      simp [ints, List.getD_eq_getElem?_getD, this]
    cases hi : P.info? e with
    | none => rw [hi] at hz; simp at hz
    | some i =>
      have hsz : i.size = 1 := by rw [hi] at hz; simpa using hz
      have hrun : (Instr.storeAt e (.pointer (some ⟨g, j.toNat, none⟩)) (.int .i64 y)).run P w = .ok () (w.setCell ⟨g, j.toNat, none⟩ (.int .i64 y)) := by
        have hst := run_store P w ⟨g, j.toNat, none⟩ (.int .i64 y) .plain rfl
        rw [hcell, hown.frozenAt j.toNat] at hst
        simp only [Bool.false_eq_true, if_false] at hst
        have hadd0 : (Addr.add ⟨g, j.toNat, none⟩ 0) = ⟨g, j.toNat, none⟩ := rfl
        simp [Instr.storeAt, Instr.sureAddr, storeVar, Value.cells, sizeOf, typeInfo, hi, hsz, storeCells, hadd0, hst]
      refine effu_of hrun (hk _ ?_ ((Below.refl _ _).setCell hbg _))
      have e1 : ints (xs.set j.toNat y) = (ints xs).set j.toNat (.int .i64 y) := by simp [ints, List.map_set]
      rw [e1]; exact ho
/-! ### the call -/
theorem l8_1 {W : Nat} (hW1 : 1 ≤ W) (hW : W ≤ 64) {n : Nat} (hn : n ≤ 500) {q r : Nat} (hq : n = W * q + r) (hr : r < W) {A : Option Addr} {c : Nat} (w0 : World) : ∀ (e k : Nat) (w : World) (y : Value), w.ownsRow w0.heap.size 3 1 y W (ints (ctL W q r)) → RdI .i64 w A (rnL W n) → Below w0.heap.size w0 w → k + e = W →
    P8_1 (.bool true) (.int .i64 W) (.int .i64 n) (.slice A n c) y (.int .i64 k) w fun v w' => v = .bool true ∧ Below w0.heap.size w0 w'
  | 0, k, w, y, hy, hA, hb, he => by
    apply L8_1_ok
    have : ¬ ((k : Int) < W) := by omega
    have hgap := gap_rounds W n hW1 hW
    have hsw := sw_rounds W n hW1
    have main : ∀ s : Int, s = (sw (rnL W n) : Int) → P8_2 (.bool true) (.int .i64 W) (.slice A n c) (.int .i64 (if (W : Int) - 1 < n then (W : Int) - 1 else n)) (.int .i64 s) w fun v w' => v = .bool true ∧ Below w0.heap.size w0 w' := by
      intro s hs
      subst hs
      apply L8_2_ok
      have hsl : SlI w (.slice A n c) (rnL W n) := ⟨A, c, by simp, hA⟩
      simp only [L8_2, gE_true, gv_true]
      refine (c27 (by simp; omega) hsl W).step ?_
      have e1 : gapOf (rnL W n) W = if (W : Int) - 1 < n then (W : Int) - 1 else n := by rw [hgap]; split <;> omega
      simp only [e1, gd_true, be_eql, beq_self_eq_true, wpB_some', pickv_true, gE_true, gv_true]
      refine (c25 (by simp; omega) hsl).mono ?_
      rintro v w1 ⟨rfl, hb1⟩
      simp only [gd_true, be_eql, beq_self_eq_true, wpB_some', pickv_true]
      exact ⟨trivial, hb.trans (hb1.mono hb.size)⟩
    simp only [L8_1, wpB_some', bp_lss, this, decide_false, cnd_false, bp_sub, wrapi (n := (W : Int) - 1) (by omega) (by omega), pr_min, bp_gtr]
    by_cases h1 : (1 : Int) < W
    · simp only [h1, decide_true, cnd_true, wrapi (n := (n : Int) - 1) (by omega) (by omega), pr_max, wpB_some']
      exact main _ (by rw [hsw, if_pos (show 1 < W by omega)]; split <;> omega)
    · simp only [h1, decide_false, cnd_false]
      exact main _ (by rw [hsw, if_neg (show ¬ 1 < W by omega)]; rfl)
  | e + 1, k, w, y, hy, hA, hb, he => by
    apply L8_1_ok
    have hlt : (k : Int) < W := by omega
    obtain ⟨_, B, d, rfl, hB, _⟩ := rd_of_own hy
    have hlen : (ctL W q r).length = W := by simp
    obtain ⟨p, hp1, hp2⟩ := (hB.drew).at (P := Try.prog) (c := d) (j := .i64) u28 u3 s3 (i := (k : Int)) (by omega) (by omega)
    rw [Int.toNat_natCast, ctL_get _ _ _ _ (by omega)] at hp2
    have hdiv : (n : Int).tdiv W = q := by
      rw [Int.tdiv_eq_ediv_of_nonneg (by omega)]
      have : n / W = q := by rw [hq, Nat.mul_add_div (by omega), Nat.div_eq_of_lt hr]; omega
      rw [← this]; rfl
    have hqn : q ≤ n := by
      have := Nat.mul_le_mul_right q hW1
      omega
    simp only [L8_1, wpB_some', bp_lss, hlt, decide_true, cnd_true, hp1, hp2, bp_quo (show (W : Int) ≠ 0 by omega), hdiv, wrapi (n := (q : Int)) (by omega) (by omega), be_neq]
    have fin : P8_1 (.bool true) (.int .i64 W) (.int .i64 n) (.slice A n c) (.slice B (ctL W q r).length d) (.int .i64 (IntKind.i64.wrap ((k : Int) + 1))) w.drew fun v w' => v = .bool true ∧ Below w0.heap.size w0 w' := by
      rw [wrapi (n := (k : Int) + 1) (by omega) (by omega)]
      exact l8_1 hW1 hW hn hq hr w0 e (k + 1) w.drew _ (ownsRow_drew hy) hA.drew hb.drew (by omega)
    by_cases h1 : k < r
    · have e1 : ((q : Int) + 1 != q) = true := by rw [bne_iff_ne]; omega
      simp only [h1, if_true, e1, gd_true, gv_true, hp1, hp2, wpB_some', bp_quo (show (W : Int) ≠ 0 by omega), hdiv, wrapi (n := (q : Int)) (by omega) (by omega), bp_add, wrapi (n := (q : Int) + 1) (by omega) (by omega), be_neq, bne_self_eq_false, pickv_true, cnd_false]
      exact fin
    · simp only [h1, if_false, bne_self_eq_false, gd_ft, gv_ft, wpB_some', pickv_false, cnd_false, bp_add]
      exact fin
end Go.Proofs.Ytkploakfdlnbbaa
