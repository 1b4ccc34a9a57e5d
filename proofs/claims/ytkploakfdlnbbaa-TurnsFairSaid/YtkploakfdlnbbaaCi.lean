/- The call of TurnsFair answers true: the walk. -/
import Derived.Test.YtkploakfdlnbbaaCh
namespace Go.Proofs.Ytkploakfdlnbbaa
open Go Ev Go.RowKit
set_option linter.unusedSimpArgs false
set_option linter.unusedVariables false
theorem l8 {W : Nat} (hW1 : 1 ≤ W) (hW : W ≤ 64) {n m : Nat} (hn : n ≤ 500) (hm : n ≤ m) {s : Int} {A B C : Option Addr} {c d f : Nat} (w0 : World) (hA0 : RdI .i64 w0 A (rnL W n)) (hB0 : RdI .i64 w0 B (raL s W n)) (hC0 : RdI .i64 w0 C (raL s W m)) :
    ∀ (e : Nat), ∀ (i q r : Nat) (w : World) (y : Value), w.ownsRow w0.heap.size 3 1 y W (ints (ctL W q r)) → Below w0.heap.size w0 w → i = W * q + r → r < W → i + e = n →
    P8_0 (.bool true) (.int .i64 W) (.int .i64 n) (.slice A n c) (.slice B n d) (.slice C m f) y (.int .i64 i) w fun v w' => v = .bool true ∧ Below w0.heap.size w0 w'
  := by
  intro e
  induction e with
  | zero =>
    intro i q r w y hy hb hqr hr he
    apply L8_0_ok
    have : ¬ ((i : Int) < n) := by omega
    simp -implicitDefEqProofs only [L8_0, wpB_some', bp_lss, this, decide_false, cnd_false]
    have hi : n = W * q + r := by omega
    exact l8_1 (c := c) hW1 hW hn hi hr w0 W 0 w y hy (hA0.keep hb) hb (by omega)
  | succ e ih =>
    intro i q r w y hy hb hqr hr he
    apply L8_0_ok
    have hlt : (i : Int) < n := by omega
    have hA := (hA0.keep hb).drew
    have hB := (hB0.keep hb).drew
    have hC := (hC0.keep hb).drew
    have lA : (rnL W n).length = n := by simp
    have lB : (raL s W n).length = n := by simp
    have lC : (raL s W m).length = m := by simp
    obtain ⟨p1, a1, a2⟩ := hA.at (P := Try.prog) (c := c) (j := .i64) u28 u3 s3 (i := (i : Int)) (by omega) (by omega)
    obtain ⟨p2, b1, b2⟩ := hB.at (P := Try.prog) (c := d) (j := .i64) u28 u3 s3 (i := (i : Int)) (by omega) (by omega)
    obtain ⟨p3, c1, c2⟩ := hC.at (P := Try.prog) (c := f) (j := .i64) u28 u3 s3 (i := (i : Int)) (by omega) (by omega)
    rw [Int.toNat_natCast, rnL_get _ _ _ (by omega), mod_at hqr hr] at a2
    rw [Int.toNat_natCast, raL_get _ _ _ _ (by omega)] at b2 c2
    rw [lA] at a1
    rw [lB] at b1
    rw [lC] at c1
    obtain ⟨h0, h1⟩ := rPick_bound s W i (by omega)
    generalize rPick (rS s (i + 1)) W = v at *
    have n1 : ¬ ((r : Int) < 0) := by omega
    have n2 : ¬ ((W : Int) ≤ r) := by omega
    have n3 : ¬ (v < 0) := by omega
    have n4 : ¬ ((W : Int) ≤ v) := by omega
    have ext := ctL_get W q r r hr
    rw [if_neg (by omega)] at ext
    have hqn : q ≤ i := by
      have := Nat.mul_le_mul_right q hW1
      omega
    have step : ∀ w', w'.ownsRow w0.heap.size 3 1 y W (ints ((ctL W q r).set (r : Int).toNat ((q : Int) + 1))) → Below w0.heap.size w w' →
        P8_0 (.bool true) (.int .i64 W) (.int .i64 n) (.slice A n c) (.slice B n d) (.slice C m f) y (.int .i64 ((i : Int) + 1)) w' fun v w' => v = .bool true ∧ Below w0.heap.size w0 w' := by
      intro w' ho hb'
      rw [Int.toNat_natCast, ctL_set] at ho
      rcases qr_next hqr hr with ⟨h3, h4⟩ | ⟨h3, h4⟩
      · have h := ih (i + 1) q (r + 1) w' y ho (hb.trans hb') h4 h3 (by omega)
        rw [Int.natCast_add i 1] at h; exact h
      · rw [h3, ctL_full] at ho
        have h := ih (i + 1) (q + 1) 0 w' y ho (hb.trans hb') h4 (by omega) (by omega)
        rw [Int.natCast_add i 1] at h; exact h
    obtain ⟨p4, d1, d3⟩ := run_storeI (P := Try.prog) (w := w.drew) (y := (q : Int) + 1) (ownsRow_drew hy) u28 s3 (j := (r : Int)) (by omega) (by omega)
      (K := fun w => P8_0 (.bool true) (.int .i64 W) (.int .i64 n) (.slice A n c) (.slice B n d) (.slice C m f) y (.int .i64 ((i : Int) + 1)) w fun v w' => v = .bool true ∧ Below w0.heap.size w0 w') (fun w' h h' => step w' h ((Below.refl _ _).drew.trans h'))
    obtain ⟨_, Y, y1, rfl, hY, _⟩ := rd_of_own hy
    obtain ⟨p5, d1', d2⟩ := (hY.drew).at (P := Try.prog) (c := y1) (j := .i64) u28 u3 s3 (i := (r : Int)) (by omega) (by simpa using hr)
    rw [d1] at d1'
    cases d1'
    rw [Int.toNat_natCast, ext] at d2
    simp -implicitDefEqProofs only [L8_0, wpB_some', bp_lss, hlt, decide_true, cnd_true, a1, a2, b1, b2, c1, c2, n1, n2, n3, n4, decide_false, gd_false, gv_false, bp_geq, pickv_false, be_neq, bne_self_eq_false, cnd_false, d1, d2, bp_add, wrapi (n := (q : Int) + 1) (by omega) (by omega), wrapi (n := (i : Int) + 1) (by omega) (by omega)]
    exact d3
theorem law8 {W0 : World} (a0 : Int) (_ : (Lit.int .i64 a0).wf = true) (a1 : Int) (_ : (Lit.int .i64 a1).wf = true) (a2 : Int) (_ : (Lit.int .i64 a2).wf = true) (a3 : Int) (_ : (Lit.int .u64 a3).wf = true) :
    CallR Try.prog 8 [.int .i64 a0, .int .i64 a1, .int .i64 a2, .int .u64 a3] W0 fun v w' => v = .bool true ∧ Below W0.heap.size W0 w' := by
  apply F8_ok
  refine (c24 W0).mono ?_
  rintro v w ⟨rfl, hb⟩
  simp only [F8, pr_not, Bool.not_true, wpB_some', cnd_false]
  refine (c23 _ 64 w (by omega) (by omega)).step ?_
  have n0 := Int.emod_nonneg a0 (b := 64) (by omega)
  have n1 := Int.emod_lt_of_pos a0 (b := 64) (by omega)
  obtain ⟨W, hW⟩ : ∃ W : Nat, (W : Int) = 1 + a0 % 64 := ⟨(1 + a0 % 64).toNat, by omega⟩
  simp only [bp_add, wpB_some', wrapi (n := 1 + a0 % 64) (by omega) (by omega)]
  refine (c23 _ 500 w (by omega) (by omega)).step ?_
  have n2 := Int.emod_nonneg a1 (b := 500) (by omega)
  have n3 := Int.emod_lt_of_pos a1 (b := 500) (by omega)
  obtain ⟨n, hn⟩ : ∃ n : Nat, (n : Int) = a1 % 500 := ⟨(a1 % 500).toNat, by omega⟩
  rw [← hW, ← hn]
  have hc : cutW (W : Int) = W := by unfold cutW; (repeat' split) <;> omega
  have hcl : ∀ k : Nat, k ≤ 1000 → clampN (k : Int) = k := fun k hk => by unfold clampN; (repeat' split) <;> omega
  refine (c29 W n w).mono fun v1 w1 o1 => ?_
  refine (c30 a3 W n w1).mono fun v2 w2 o2 => ?_
  refine (c23 _ 50 w2 (by omega) (by omega)).step ?_
  have n4 := Int.emod_nonneg a2 (b := 50) (by omega)
  have n5 := Int.emod_lt_of_pos a2 (b := 50) (by omega)
  obtain ⟨e, he⟩ : ∃ e : Nat, (e : Int) = a2 % 50 := ⟨(a2 % 50).toNat, by omega⟩
  rw [← he]
  simp only [bp_add, wpB_some', wrapi (n := (n : Int) + e) (by omega) (by omega)]
  rw [← Int.natCast_add]
  refine (c30 a3 W ((n + e : Nat) : Int) w2).mono fun v3 w3 o3 => ?_
  rw [hc, hcl _ (by omega)] at o1 o2 o3
  obtain ⟨A, c, e1, hA⟩ := o1.sl
  obtain ⟨B, d, e2, hB⟩ := o2.sl
  obtain ⟨C, f, e3, hC⟩ := o3.sl
  rw [rnL_len] at e1
  rw [raL_len] at e2 e3
  subst e1; subst e2; subst e3
  have m1 : ¬ (((n + e : Nat) : Int) < n) := by omega
  simp only [len28, wpB_some', be_neq, bne_self_eq_false, gd_false, gv_false, pickv_false, bp_lss, m1, decide_false, cnd_false]
  refine make28 (by omega) fun x w4 ho4 hb4 => ?_
  have ez : List.replicate W (0 : Int) = ctL W 0 0 := by
    apply List.ext_getElem
    · simp
    · intro k h1 h2; simp [ctL]
  rw [ez] at ho4
  have := l8 (c := c) (d := d) (f := f) (W := W) (by omega) (by omega) (n := n) (m := n + e) (by omega) (by omega) w3 (hA.keep (o2.2.trans (o3.2.mono o2.2.size))) (hB.keep o3.2) hC n 0 0 0 w4 x ho4 hb4 (by omega) (by omega) (by omega)
  refine Part.mono this ?_
  rintro v w5 ⟨rfl, hb5⟩
  have b3 := (o1.2.trans (o2.2.mono o1.2.size)).trans (o3.2.mono (Nat.le_trans o1.2.size o2.2.size))
  exact ⟨rfl, hb.trans ((b3.trans (hb5.mono b3.size)).mono hb.size)⟩
end Go.Proofs.Ytkploakfdlnbbaa
