/- The calls of TurnsTell and TurnsSay answer true. -/
import Derived.Test.YtkploakfdlnbbaaCd
namespace Go.Proofs.Ytkploakfdlnbbaa
open Go Ev Go.RowKit
set_option linter.unusedSimpArgs false
set_option linter.unusedVariables false

theorem c24 (w : World) : CallR Try.prog 24 [] w fun v w' => v = .bool true ∧ Below w.heap.size w w' := by
  apply F24_ok
  refine (c29 2 3 w).mono ?_
  intro v w1 ho
  have e1 : rnL (cutW 2) (clampN 3) = [0, 1, 0] := by decide
  rw [e1] at ho
  obtain ⟨A, c, rfl, hr⟩ := ho.sl
  have hr' : RdI .i64 w1 A [0, 1, 0] := hr
  obtain ⟨q0, a1, a2⟩ := hr'.at (P := Try.prog) (c := c) (j := .i64) u28 u3 s3 (i := 0) (by omega) (by simp)
  obtain ⟨q1, b1, b2⟩ := hr'.at (P := Try.prog) (c := c) (j := .i64) u28 u3 s3 (i := 1) (by omega) (by simp)
  obtain ⟨q2, d1, d2⟩ := hr'.at (P := Try.prog) (c := c) (j := .i64) u28 u3 s3 (i := 2) (by omega) (by simp)
  simp at a1 a2 b1 b2 d1 d2
  simp [a1, a2, b1, b2, d1, d2]
  have hsl : SlI w1 (.slice A 3 c) [0, 1, 0] := ⟨A, c, rfl, hr⟩
  refine (c25 (by simp) hsl).mono ?_
  rintro v w2 ⟨rfl, hb2⟩
  have e2 : sw [0, 1, 0] = 2 := by decide
  simp [e2]
  refine (c27 (by simp) (hsl.keep hb2) 2).step ?_
  have e3 : gapOf [0, 1, 0] 2 = 1 := by decide
  simp [e3]
  exact ho.2.trans (hb2.mono ho.2.size)
theorem InInts.sl {W : World} {A : Option Addr} {n c : Nat} {zs : List Int} (h : InInts .i64 W A n c zs) : ∃ xs, xs.length = n ∧ SlI W (.slice A n c) xs ∧ ∀ x ∈ xs, (Lit.int .i64 x).wf = true := by
  obtain ⟨h1, h2, _, _, h3⟩ := h.rd
  exact ⟨zs.take n, h2, ⟨A, c, by rw [h2], h1⟩, h3⟩
/-- what is called with what came in, behind other calls: only new memory -/
theorem law7 {W : World} (A : Option Addr) (n c : Nat) (zs : List Int) (h : InInts .i64 W A n c zs) (a1 : Int) (_ : (Lit.int .i64 a1).wf = true) :
    CallR Try.prog 7 [.slice A n c, .int .i64 a1] W fun v w' => v = .bool true ∧ Below W.heap.size W w' := by
  obtain ⟨xs, hn, hsl, _⟩ := InInts.sl h
  apply F7_ok
  refine (c24 W).mono ?_
  rintro v w ⟨rfl, hb⟩
  by_cases h2 : (200 : Int) < n
  · simp [h2]; exact hb
  · have hlen : xs.length ≤ 200 := by omega
    simp [h2]
    have hsl := hsl.keep hb
    have hsl' := hsl
    obtain ⟨A', c', e, hr⟩ := hsl'
    rw [e]
    refine app28 hr (by omega) fun x w1 ho1 hb1 => ?_
    have hs1 : SlI w1 x xs := .of_own ho1
    refine (c25 (by omega) hs1).mono ?_
    rintro v w2 ⟨rfl, hb2⟩
    have hb12 : Below w.heap.size w w2 := hb1.trans (hb2.mono hb1.size)
    rw [← e]
    refine (c26 (by omega) (hsl.keep hb12)).mono ?_
    rintro v w3 ⟨rfl, hb3⟩
    have hb13 : Below w.heap.size w w3 := hb12.trans (hb3.mono hb12.size)
    simp
    have hsl3 := hsl.keep hb13
    have hsl4 := hsl3
    obtain ⟨A', c', e', hr⟩ := hsl4
    rw [e']
    refine app28 hr (by omega) fun x w4 ho4 hb4 => ?_
    refine (c27 (by omega) (.of_own ho4) a1).step ?_
    rw [← e']
    refine (c28 (by omega) (hsl3.keep hb4) a1).step ?_
    simp
    exact hb.trans ((hb13.trans (hb4.mono hb13.size)).mono hb.size)

/-! ### two lists, the same? -/
theorem l32 {xs ys : List Int} (hl : xs.length ≤ 4611686018427387904) (he : xs.length = ys.length) {A B : Option Addr} {c d : Nat} (w0 : World) : ∀ (e i : Nat) (w : World), RdI .i64 w A xs → RdI .i64 w B ys → Below w0.heap.size w0 w →
    (∀ j, j < i → xs.getD j 0 = ys.getD j 0) → i + e = xs.length → P32_0 (.slice A xs.length c) (.slice B ys.length d) (.int .i64 i) w fun v w' => v = .bool (decide (xs = ys)) ∧ Below w0.heap.size w0 w'
  | 0, i, w, hx, hy, hb, hs, hd => by
    apply L32_0_ok
    have : ¬ ((i : Int) < xs.length) := by omega
    have heq : xs = ys := List.ext_getElem he fun j h1 h2 => by
      have := hs j (by omega)
      simpa [List.getD_eq_getElem?_getD, h1, h2] using this
    simp only [L32_0, len28, wpB_some', bp_lss, this, decide_false, cnd_false]
    exact ⟨by simp [heq], hb⟩
  | e + 1, i, w, hx, hy, hb, hs, hd => by
    apply L32_0_ok
    have hlt : (i : Int) < xs.length := by omega
    obtain ⟨q, hq1, hq2⟩ := (hx.drew).at (P := Try.prog) (c := c) (j := .i64) u28 u3 s3 (i := (i : Int)) (by omega) hlt
    obtain ⟨r, hr1, hr2⟩ := (hy.drew).at (P := Try.prog) (c := d) (j := .i64) u28 u3 s3 (i := (i : Int)) (by omega) (by omega)
    simp only [L32_0, len28, wpB_some', bp_lss, hlt, decide_true, cnd_true, hq1, hq2, hr1, hr2, be_neq, Int.toNat_natCast, bp_add, wrapi (n := (i : Int) + 1) (by omega) (by omega)]
    by_cases h1 : xs.getD i 0 = ys.getD i 0
    · simp only [h1, bne_self_eq_false, cnd_false]
      exact l32 hl he w0 e (i + 1) _ hx.drew hy.drew hb.drew (fun j hj => by
        rcases Nat.lt_or_ge j i with h | h
        · exact hs j h
        · rw [show j = i by omega]; exact h1) (by omega)
    · simp only [bne_iff_ne.2 h1, cnd_true]
      refine ⟨?_, hb.drew⟩
      have : xs ≠ ys := fun h => h1 (by rw [h])
      simp [this]
theorem c32 {xs ys : List Int} (hl : xs.length ≤ 4611686018427387904) {u v : Value} {w : World} (hx : SlI w u xs) (hy : SlI w v ys) : CallR Try.prog 32 [u, v] w fun r w' => r = .bool (decide (xs = ys)) ∧ Below w.heap.size w w' := by
  obtain ⟨A, c, rfl, hx⟩ := hx
  obtain ⟨B, d, rfl, hy⟩ := hy
  apply F32_ok
  by_cases he : xs.length = ys.length
  · have h1 : ((xs.length : Int) != ys.length) = false := by rw [he]; simp
    simp only [F32, len28, wpB_some', be_neq, h1, cnd_false]
    exact l32 hl he w xs.length 0 w hx hy (Below.refl _ _) (fun j hj => by omega) (by omega)
  · have h1 : ((xs.length : Int) != ys.length) = true := by rw [bne_iff_ne]; omega
    simp only [F32, len28, wpB_some', be_neq, h1, cnd_true]
    have : xs ≠ ys := fun h => he (by rw [h])
    exact ⟨by simp [this], Below.refl _ _⟩
theorem law10 {W : World} (a0 : Int) (_ : (Lit.int .i64 a0).wf = true) (a1 : Int) (_ : (Lit.int .i64 a1).wf = true) (A : Option Addr) (n c : Nat) (zs : List Int) (h : InInts .i64 W A n c zs) (a3 : Int) (_ : (Lit.int .u64 a3).wf = true) :
    CallR Try.prog 10 [.int .i64 a0, .int .i64 a1, .slice A n c, .int .u64 a3] W fun v w' => v = .bool true ∧ Below W.heap.size W w' := by
  obtain ⟨xs, hn, hsl, _⟩ := InInts.sl h
  apply F10_ok
  refine (c24 W).mono ?_
  rintro v w ⟨rfl, hb⟩
  by_cases h2 : (40 : Int) < n
  · simp [h2]; exact hb
  · by_cases h3 : (2000 : Int) < a1
    · simp [h2, h3]; exact hb
    · have hlen : xs.length ≤ 40 := by omega
      have hbu : ∀ W, (buL xs W xs.length).length ≤ 1048576 := fun W => buL_le xs W _
      have hcl := clampN_le a1
      simp [h2, h3]
      have hsl := hsl.keep hb
      refine (c29 a0 a1 w).mono fun v1 w1 o1 => ?_
      refine (c33 a0 a1 w1).mono fun v2 w2 o2 => ?_
      refine (c32 (by rw [rnL_len]; omega) (o1.sl.keep o2.2) o2.sl).mono ?_
      rintro _ w3 ⟨rfl, b3⟩
      have b13 : Below w.heap.size w w3 := (o1.2.trans (o2.2.mono o1.2.size)).trans (b3.mono (Nat.le_trans o1.2.size o2.2.size))
      simp
      have hsl3 := hsl.keep b13
      have hsl' := hsl3
      obtain ⟨A', c', e, hr⟩ := hsl'
      rw [e]
      refine app28 hr (by omega) fun x w4 ho4 hb4 => ?_
      refine (c31 a0 (by omega) (.of_own ho4)).mono fun v5 w5 o5 => ?_
      rw [← e]
      have b45 : Below w3.heap.size w3 w5 := hb4.trans (o5.2.mono hb4.size)
      refine (c34 a0 (by omega) (hsl3.keep b45)).mono fun v6 w6 o6 => ?_
      have := hbu (cutW a0)
      refine (c32 (by omega) (o5.sl.keep o6.2) o6.sl).mono ?_
      rintro _ w7 ⟨rfl, b7⟩
      have b37 : Below w3.heap.size w3 w7 := (b45.trans (o6.2.mono b45.size)).trans (b7.mono (Nat.le_trans b45.size o6.2.size))
      simp
      refine (c30 a3 a0 a1 w7).mono fun v8 w8 o8 => ?_
      refine (c35 a3 a0 a1 w8).mono fun v9 w9 o9 => ?_
      refine (c32 (by rw [raL_len]; omega) (o8.sl.keep o9.2) o9.sl).mono ?_
      rintro _ w10 ⟨rfl, b10⟩
      have b710 : Below w7.heap.size w7 w10 := (o8.2.trans (o9.2.mono o8.2.size)).trans (b10.mono (Nat.le_trans o8.2.size o9.2.size))
      simp
      have b310 := b37.trans (b710.mono b37.size)
      exact hb.trans ((b13.trans (b310.mono b13.size)).mono hb.size)
end Go.Proofs.Ytkploakfdlnbbaa
