/- What the functions of package turns and of the reference beside them answer: rounds, bursts, random picks, switches, gaps; each as a plain Lean function. -/
import Derived.Test.YtkploakfdlnbbaaCa
import Derived.Test.YtkploakfdlnbbaaEv10
namespace Go.Proofs.Ytkploakfdlnbbaa
open Go Ev Go.RowKit
set_option linter.unusedSimpArgs false
set_option linter.unusedVariables false

theorem u28 : Try.prog.underlying 28 = some (.slice 3) := Try.underlying28
theorem u3 : Try.prog.underlying 3 = some (.int .i64) := Try.underlying3
theorem s3 : (Try.prog.info? 3).map (·.size) = some 1 := by kernel_rfl
theorem inf3 : ∃ i, Try.prog.info? 3 = some i ∧ i.zero = some (.int .i64 0) ∧ i.size = 1 ∧ i.bytes = 8 := by
  have h : (Try.prog.info? 3).map (fun i => (i.zero, i.size, i.bytes)) = some (some (.int .i64 0), 1, 8) := by kernel_rfl
  obtain ⟨i, hi, h⟩ := Option.map_eq_some_iff.1 h
  simp only [Prod.mk.injEq] at h
  exact ⟨i, hi, h.1, h.2.1, h.2.2⟩
@[simp] theorem len28 {A : Option Addr} {n c : Nat} : pureRun Try.prog (Builtin.len_ #[28] 3 #[.slice A n c]) = some (.int .i64 n) := pr_len u28
/-- one number more behind an own slice -/
theorem push28 {w : World} {K : Value → World → Prop} {x : Value} {base n : Nat} {xs : List Int} {a : Int} (hown : w.ownsRow base 3 1 x n (ints xs)) (hn : n + 1 ≤ 17592186044416) (hbase : base ≤ w.heap.size)
    (hk : ∀ x' w', w'.ownsRow base 3 1 x' (n + 1) (ints (xs ++ [a])) → Below base w w' → K x' w') :
    effv Try.prog (Instr.buildSlice 28 1 #[(0, .int .i64 a)]) w fun y w1 => effv Try.prog (Builtin.append_ #[28, 28] 28 #[x, y]) w1 K := by
  obtain ⟨i, hi, hz, hs, hb⟩ := inf3
  refine eff_push u28 hi hz hs rfl rfl hown (by unfold maxLen; omega) (by rw [hb]; omega) hbase fun x' w' h1 hg => hk x' w' (by rw [ints_append]; exact h1) ?_
  exact (Below.refl base w).grown hg hbase fun k hk => (hown.lt k hk).1
/-- all of a slice behind nothing -/
theorem app28 {w : World} {K : Value → World → Prop} {A : Option Addr} {c : Nat} {xs : List Int} (h : RdI .i64 w A xs) (hn : xs.length ≤ 17592186044416)
    (hk : ∀ x' w', w'.ownsRow w.heap.size 3 1 x' xs.length (ints xs) → Below w.heap.size w w' → K x' w') :
    effv Try.prog (Builtin.append_ #[28, 28] 28 #[.slice none 0 0, .slice A xs.length c]) w K := by
  obtain ⟨i, hi, hz, hs, hb⟩ := inf3
  refine eff_append (base := w.heap.size) (xs := []) (n := 0) (news := ints xs) u28 hi hz hs rfl (by omega) (World.ownsRow_nil _ _ _ _) (by simp) (fun j u hj => ?_) (fun u hu => ?_) (by unfold maxLen; omega) (by rw [hb]; omega) (Nat.le_refl _)
    fun x' w' h1 hg => hk x' w' (by simpa using h1) ((Below.refl _ w).grown hg (Nat.le_refl _) fun k hk => by simp [Value.ownBlock] at hk)
  · have hlt : j < xs.length := by have := (List.getElem?_eq_some_iff.1 hj).1; simpa using this
    obtain ⟨p, hp, hc⟩ := h j hlt
    refine ⟨p, hp, ?_⟩
    rw [hc]
    simp [ints, hlt] at hj
    rw [← hj]; simp [List.getD_eq_getElem?_getD, hlt]
  · simp only [ints, List.mem_map] at hu
    obtain ⟨x, _, rfl⟩ := hu
    rfl

/-! ### how often it is another one -/
def swN (xs : List Int) : Nat → Nat
  | 0 => 0
  | i + 1 => swN xs i + (if 1 ≤ i ∧ xs.getD i 0 ≠ xs.getD (i - 1) 0 then 1 else 0)
theorem swN_le (xs : List Int) : ∀ i, swN xs i ≤ i
  | 0 => Nat.le_refl _
  | i + 1 => by have := swN_le xs i; simp only [swN]; split <;> omega
theorem swN_same {xs : List Int} {i : Nat} (h : xs.getD i 0 = xs.getD (i - 1) 0) : swN xs i = swN xs (i + 1) := by rw [swN, if_neg fun h' => h'.2 h]; rfl
theorem swN_diff {xs : List Int} {i : Nat} (h1 : 1 ≤ i) (h : ¬ xs.getD i 0 = xs.getD (i - 1) 0) : swN xs i + 1 = swN xs (i + 1) := by rw [swN, if_pos ⟨h1, h⟩]
def sw (xs : List Int) : Nat := swN xs (max 1 xs.length)
theorem l25 {xs : List Int} (hl : xs.length ≤ 4611686018427387904) {A : Option Addr} {c : Nat} (w0 : World) : ∀ (d i : Nat) (w : World), RdI .i64 w A xs → Below w0.heap.size w0 w → 1 ≤ i → i + d = max 1 xs.length →
    P25_0 (.slice A xs.length c) (.int .i64 (swN xs i)) (.int .i64 i) w fun v w' => v = .int .i64 (sw xs) ∧ Below w0.heap.size w0 w'
  | 0, i, w, hr, hb, h1, hd => by
    apply L25_0_ok
    have : ¬ ((i : Int) < xs.length) := by omega
    simp only [L25_0, len28, wpB_some', bp_lss, this, decide_false, cnd_false]
    have e : i = max 1 xs.length := by omega
    exact ⟨by rw [e]; rfl, hb⟩
  | d + 1, i, w, hr, hb, h1, hd => by
    have hle := swN_le xs i
    apply L25_0_ok
    have hlt : (i : Int) < xs.length := by omega
    obtain ⟨q, hq1, hq2⟩ := (hr.drew).at (P := Try.prog) (c := c) (j := .i64) u28 u3 s3 (i := (i : Int)) (by omega) hlt
    obtain ⟨r, hr1, hr2⟩ := (hr.drew).at (P := Try.prog) (c := c) (j := .i64) u28 u3 s3 (i := (i : Int) - 1) (by omega) (by omega)
    have ei : ((i : Int) - 1).toNat = i - 1 := by omega
    simp only [L25_0, len28, wpB_some', bp_lss, hlt, decide_true, cnd_true, hq1, hq2, bp_sub, wrapi (n := (i : Int) - 1) (by omega) (by omega), hr1, hr2, be_neq, ei, Int.toNat_natCast, bp_add]
    have hstep : ∀ (k : Nat) (w' : World), RdI .i64 w' A xs → Below w0.heap.size w0 w' → k = swN xs (i + 1) → P25_1 (.slice A xs.length c) (.int .i64 k) (.int .i64 i) w' fun v w' => v = .int .i64 (sw xs) ∧ Below w0.heap.size w0 w' := by
      intro k w' hr' hb' hk
      apply L25_1_ok
      simp only [L25_1, bp_add, wpB_some', wrapi (n := (i : Int) + 1) (by omega) (by omega)]
      rw [hk]
      exact l25 hl w0 d (i + 1) w' hr' hb' (by omega) (by omega)
    by_cases he : xs.getD i 0 = xs.getD (i - 1) 0
    · simp only [he, bne_self_eq_false, cnd_false]
      exact hstep _ _ hr.drew hb.drew (swN_same he)
    · simp only [bne_iff_ne.2 he, cnd_true, wrapi (n := (swN xs i : Int) + 1) (by omega) (by omega)]
      have := hstep (swN xs i + 1) _ hr.drew hb.drew (swN_diff h1 he)
      simpa using this
theorem c25 {xs : List Int} (hl : xs.length ≤ 4611686018427387904) {v : Value} {w : World} (hr : SlI w v xs) : CallR Try.prog 25 [v] w fun v w' => v = .int .i64 (sw xs) ∧ Below w.heap.size w w' := by
  obtain ⟨A, c, rfl, hr⟩ := hr
  apply F25_ok
  have := l25 (c := c) hl w (max 1 xs.length - 1) 1 w hr (Below.refl _ _) (by omega) (by omega)
  simpa [F25, swN] using this
theorem l26 {xs : List Int} (hl : xs.length ≤ 4611686018427387904) {A : Option Addr} {c : Nat} (w0 : World) : ∀ (d i : Nat) (w : World), RdI .i64 w A xs → Below w0.heap.size w0 w → 1 ≤ i → i + d = max 1 xs.length →
    P26_0 (.slice A xs.length c) (.int .i64 (swN xs i)) (.int .i64 i) w fun v w' => v = .int .i64 (sw xs) ∧ Below w0.heap.size w0 w'
  | 0, i, w, hr, hb, h1, hd => by
    apply L26_0_ok
    have : ¬ ((i : Int) < xs.length) := by omega
    simp only [L26_0, len28, wpB_some', bp_lss, this, decide_false, cnd_false]
    have e : i = max 1 xs.length := by omega
    exact ⟨by rw [e]; rfl, hb⟩
  | d + 1, i, w, hr, hb, h1, hd => by
    have hle := swN_le xs i
    apply L26_0_ok
    have hlt : (i : Int) < xs.length := by omega
    obtain ⟨q, hq1, hq2⟩ := (hr.drew).at (P := Try.prog) (c := c) (j := .i64) u28 u3 s3 (i := (i : Int)) (by omega) hlt
    obtain ⟨r, hr1, hr2⟩ := (hr.drew).at (P := Try.prog) (c := c) (j := .i64) u28 u3 s3 (i := (i : Int) - 1) (by omega) (by omega)
    have ei : ((i : Int) - 1).toNat = i - 1 := by omega
    simp only [L26_0, len28, wpB_some', bp_lss, hlt, decide_true, cnd_true, hq1, hq2, bp_sub, wrapi (n := (i : Int) - 1) (by omega) (by omega), hr1, hr2, be_neq, ei, Int.toNat_natCast, bp_add]
    have hstep : ∀ (k : Nat) (w' : World), RdI .i64 w' A xs → Below w0.heap.size w0 w' → k = swN xs (i + 1) → P26_1 (.slice A xs.length c) (.int .i64 k) (.int .i64 i) w' fun v w' => v = .int .i64 (sw xs) ∧ Below w0.heap.size w0 w' := by
      intro k w' hr' hb' hk
      apply L26_1_ok
      simp only [L26_1, bp_add, wpB_some', wrapi (n := (i : Int) + 1) (by omega) (by omega)]
      rw [hk]
      exact l26 hl w0 d (i + 1) w' hr' hb' (by omega) (by omega)
    by_cases he : xs.getD i 0 = xs.getD (i - 1) 0
    · simp only [he, bne_self_eq_false, cnd_false]
      exact hstep _ _ hr.drew hb.drew (swN_same he)
    · simp only [bne_iff_ne.2 he, cnd_true, wrapi (n := (swN xs i : Int) + 1) (by omega) (by omega)]
      have := hstep (swN xs i + 1) _ hr.drew hb.drew (swN_diff h1 he)
      simpa using this
theorem c26 {xs : List Int} (hl : xs.length ≤ 4611686018427387904) {v : Value} {w : World} (hr : SlI w v xs) : CallR Try.prog 26 [v] w fun v w' => v = .int .i64 (sw xs) ∧ Below w.heap.size w w' := by
  obtain ⟨A, c, rfl, hr⟩ := hr
  apply F26_ok
  have := l26 (c := c) hl w (max 1 xs.length - 1) 1 w hr (Below.refl _ _) (by omega) (by omega)
  simpa [F26, swN] using this

/-! ### how long one is left out -/
def mxi (a b : Int) : Int := if b > a then b else a
/-- behind so many picks: the longest so far, the present one -/
def gp (xs : List Int) (who : Int) (m : Int) : Nat → Int × Int
  | 0 => (m, 0)
  | i + 1 => let s := gp xs who m i; let n := if xs.getD i 0 = who then 0 else s.2 + 1; (mxi s.1 n, n)
theorem gp_bound (xs : List Int) (who m : Int) (i : Nat) : 0 ≤ (gp xs who m i).2 ∧ (gp xs who m i).2 ≤ i := by
  induction i with
  | zero => simp [gp]
  | succ i ih => simp only [gp]; split <;> omega
/-- behind so many workers -/
def gpW (xs : List Int) : Nat → Int
  | 0 => 0
  | k + 1 => (gp xs k (gpW xs k) xs.length).1
def cutW (a : Int) : Int := if 64 < (if 1 > a then 1 else a) then 64 else (if 1 > a then 1 else a)
theorem cutW_bound (a : Int) : 1 ≤ cutW a ∧ cutW a ≤ 64 := by unfold cutW; (repeat' split) <;> omega
theorem c54 (a : Int) (w : World) : CallR Try.prog 54 [.int .i64 a] w fun v w' => v = .int .i64 (cutW a) ∧ w' = w := by
  apply F54_ok
  simp [F54, cutW]
theorem l27 {xs : List Int} (hl : xs.length ≤ 4611686018427387904) {A : Option Addr} {c : Nat} {w : World} (hr : RdI .i64 w A xs) (W : Nat) (hW : W ≤ 64) :
    ∀ (e k : Nat), k + e = W → P27_0 (.slice A xs.length c) (.int .i64 (gpW xs k)) (.int .i64 W) (.int .i64 k) w fun v w' => v = .int .i64 (gpW xs W) ∧ w' = w
  | 0, k, he => by
    apply L27_0_ok
    have : ¬ ((k : Int) < W) := by omega
    simp only [L27_0, wpB_some', bp_lss, this, decide_false, cnd_false]
    exact ⟨by rw [show k = W by omega], trivial⟩
  | e + 1, k, he => by
    have inner : ∀ (d i : Nat), i + d = xs.length → P27_1 (.slice A xs.length c) (.int .i64 (gp xs k (gpW xs k) i).1) (.int .i64 k) (.int .i64 (gp xs k (gpW xs k) i).2) (.int .i64 W) (.int .i64 k) (.slice A xs.length c) (.int .i64 xs.length) (.int .i64 i) w
        fun v w' => v = .int .i64 (gpW xs W) ∧ w' = w := by
      intro d
      induction d with
      | zero =>
        intro i hi
        apply L27_1_ok
        have : ¬ ((i : Int) < xs.length) := by omega
        simp only [L27_1, wpB_some', bp_lss, this, decide_false, cnd_false, bp_add, wrapi (n := (k : Int) + 1) (by omega) (by omega)]
        have h := l27 (c := c) hl hr W hW e (k + 1) (by omega)
        rw [show i = xs.length by omega]
        exact h
      | succ d ih =>
        intro i hi
        apply L27_1_ok
        have hlt : (i : Int) < xs.length := by omega
        obtain ⟨q, hq1, hq2⟩ := hr.at (P := Try.prog) (c := c) (j := .i64) u28 u3 s3 (i := (i : Int)) (by omega) hlt
        have hbd := gp_bound xs k (gpW xs k) i
        simp only [L27_1, wpB_some', bp_lss, hlt, decide_true, cnd_true, hq1, hq2, Int.toNat_natCast, be_eql, bp_add, wrapi (n := (gp xs k (gpW xs k) i).2 + 1) (by omega) (by omega)]
        have h := ih (i + 1) (by omega)
        have e2 : ∀ n, n = (gp xs k (gpW xs k) (i + 1)).2 → P27_2 (.slice A xs.length c) (.int .i64 (gp xs k (gpW xs k) i).1) (.int .i64 k) (.int .i64 n) (.int .i64 W) (.int .i64 k) (.slice A xs.length c) (.int .i64 xs.length) (.int .i64 i) w
            fun v w' => v = .int .i64 (gpW xs W) ∧ w' = w := by
          intro n hn
          subst hn
          apply L27_2_ok
          simp only [L27_2, pr_max, wpB_some', bp_add, wrapi (n := (i : Int) + 1) (by omega) (by omega)]
          exact h
        by_cases hx : xs.getD i 0 = k
        · simp only [hx, beq_self_eq_true, cnd_true]
          exact e2 _ (by simp only [gp, hx, if_true])
        · simp only [beq_eq_false_iff_ne.2 hx, cnd_false]
          exact e2 _ (by simp only [gp, if_neg hx])
    apply L27_0_ok
    have : (k : Int) < W := by omega
    simp only [L27_0, wpB_some', bp_lss, this, decide_true, cnd_true, len28]
    exact inner xs.length 0 (by omega)
def gapOf (xs : List Int) (a : Int) : Int := gpW xs (cutW a).toNat
theorem c27 {xs : List Int} (hl : xs.length ≤ 4611686018427387904) {v : Value} {w : World} (hr : SlI w v xs) (a : Int) : CallR Try.prog 27 [v, .int .i64 a] w fun v w' => v = .int .i64 (gapOf xs a) ∧ w' = w := by
  obtain ⟨A, c, rfl, hr⟩ := hr
  apply F27_ok
  have hc := cutW_bound a
  refine (c54 a w).step ?_
  have := l27 (c := c) hl hr (cutW a).toNat (by omega) (cutW a).toNat 0 (by omega)
  rw [show (((cutW a).toNat : Nat) : Int) = cutW a by omega] at this
  exact this
theorem l28 {xs : List Int} (hl : xs.length ≤ 4611686018427387904) {A : Option Addr} {c : Nat} {w : World} (hr : RdI .i64 w A xs) (W : Nat) (hW : W ≤ 64) :
    ∀ (e k : Nat), k + e = W → P28_0 (.slice A xs.length c) (.int .i64 W) (.int .i64 (gpW xs k)) (.int .i64 k) w fun v w' => v = .int .i64 (gpW xs W) ∧ w' = w
  | 0, k, he => by
    apply L28_0_ok
    have : ¬ ((k : Int) < W) := by omega
    simp only [L28_0, wpB_some', bp_lss, this, decide_false, cnd_false]
    exact ⟨by rw [show k = W by omega], trivial⟩
  | e + 1, k, he => by
    have inner : ∀ (d i : Nat), i + d = xs.length → P28_1 (.slice A xs.length c) (.int .i64 W) (.int .i64 (gp xs k (gpW xs k) i).1) (.int .i64 k) (.int .i64 (gp xs k (gpW xs k) i).2) (.int .i64 i) w
        fun v w' => v = .int .i64 (gpW xs W) ∧ w' = w := by
      intro d
      induction d with
      | zero =>
        intro i hi
        apply L28_1_ok
        have : ¬ ((i : Int) < xs.length) := by omega
        simp only [L28_1, len28, wpB_some', bp_lss, this, decide_false, cnd_false, bp_add, wrapi (n := (k : Int) + 1) (by omega) (by omega)]
        have h := l28 (c := c) hl hr W hW e (k + 1) (by omega)
        rw [show i = xs.length by omega]
        exact h
      | succ d ih =>
        intro i hi
        apply L28_1_ok
        have hlt : (i : Int) < xs.length := by omega
        obtain ⟨q, hq1, hq2⟩ := hr.at (P := Try.prog) (c := c) (j := .i64) u28 u3 s3 (i := (i : Int)) (by omega) hlt
        have hbd := gp_bound xs k (gpW xs k) i
        simp only [L28_1, len28, wpB_some', bp_lss, hlt, decide_true, cnd_true, hq1, hq2, Int.toNat_natCast, be_eql, bp_add, wrapi (n := (gp xs k (gpW xs k) i).2 + 1) (by omega) (by omega)]
        have h := ih (i + 1) (by omega)
        have e2 : ∀ n, n = (gp xs k (gpW xs k) (i + 1)).2 → P28_2 (.slice A xs.length c) (.int .i64 W) (.int .i64 (gp xs k (gpW xs k) i).1) (.int .i64 k) (.int .i64 n) (.int .i64 i) w
            fun v w' => v = .int .i64 (gpW xs W) ∧ w' = w := by
          intro n hn
          subst hn
          apply L28_2_ok
          simp only [L28_2, pr_max, wpB_some', bp_add, wrapi (n := (i : Int) + 1) (by omega) (by omega)]
          exact h
        by_cases hx : xs.getD i 0 = k
        · simp only [hx, beq_self_eq_true, cnd_true]
          exact e2 _ (by simp only [gp, hx, if_true])
        · simp only [beq_eq_false_iff_ne.2 hx, cnd_false]
          exact e2 _ (by simp only [gp, if_neg hx])
    apply L28_0_ok
    have : (k : Int) < W := by omega
    simp only [L28_0, wpB_some', bp_lss, this, decide_true, cnd_true]
    exact inner xs.length 0 (by omega)
theorem c28 {xs : List Int} (hl : xs.length ≤ 4611686018427387904) {v : Value} {w : World} (hr : SlI w v xs) (a : Int) : CallR Try.prog 28 [v, .int .i64 a] w fun v w' => v = .int .i64 (gapOf xs a) ∧ w' = w := by
  obtain ⟨A, c, rfl, hr⟩ := hr
  apply F28_ok
  have hc := cutW_bound a
  have := l28 (c := c) hl hr (cutW a).toNat (by omega) (cutW a).toNat 0 (by omega)
  rw [show (((cutW a).toNat : Nat) : Int) = cutW a by omega] at this
  simp only [F28, pr_max, pr_min, wpB_some']
  exact this
end Go.Proofs.Ytkploakfdlnbbaa
