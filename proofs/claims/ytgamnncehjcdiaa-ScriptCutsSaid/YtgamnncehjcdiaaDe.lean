/- Scripts: the same? may it be? -/
import Derived.Test.YtgamnncehjcdiaaDz
namespace Go.Proofs.Ytgamnncehjcdiaa
open Go Ev Go.RowKit
set_option linter.unusedSimpArgs false
set_option linter.unusedVariables false
set_option maxRecDepth 10000

theorem opEq (a b : OpV) : ((a.1 == b.1) && ((a.2.1 == b.2.1) && ((a.2.2.1 == b.2.2.1) && ((a.2.2.2.1 == b.2.2.2.1) && ((a.2.2.2.2.1 == b.2.2.2.2.1) && ((a.2.2.2.2.2 == b.2.2.2.2.2) && (true))))))) = decide (a = b) := by
  rw [Bool.eq_iff_iff]
  simp [Prod.ext_iff]
/-- a slice of operations -/
def SlO (w : World) (v : Value) (ops : List OpV) : Prop := ∃ A c, v = .slice A ops.length c ∧ RdV w A (ops.flatMap opC)
theorem SlO.keep {w w' : World} {v : Value} {ops : List OpV} (h : SlO w v ops) (hb : Below w.heap.size w w') : SlO w' v ops := by
  obtain ⟨A, c, h1, h2⟩ := h
  exact ⟨A, c, h1, h2.keep hb⟩
/-- lists of operations, numbers -/
abbrev ScV := List (List OpV) × List Int
noncomputable def scEq (s t : ScV) : Bool := @decide (s.1 = t.1 ∧ s.2 = t.2) (Classical.propDecidable _)
theorem scEq_self (s : ScV) : scEq s s = true := by simp [scEq]
structure IsS (w : World) (v : Value) (s : ScV) : Prop where
  ex : ∃ (A : Option Addr) (c : Nat) (vs : List Value) (vp : Value), v = .agg #[.slice A s.1.length c, vp] ∧ RdV w A vs ∧ vs.length = s.1.length ∧ (∀ (j : Nat) (x : Value) (ops : List OpV), vs[j]? = some x → s.1[j]? = some ops → SlO w x ops) ∧ SlI w vp s.2
theorem IsS.keep {w w' : World} {v : Value} {s : ScV} (h : IsS w v s) (hb : Below w.heap.size w w') : IsS w' v s := by
  obtain ⟨A, c, vs, vp, h1, h2, h3, h4, h5⟩ := h.ex
  exact ⟨A, c, vs, vp, h1, h2.keep hb, h3, fun j x ops hx ho => (h4 j x ops hx ho).keep hb, h5.keep hb⟩
/-- an operation of a slice is read -/
theorem op_at {w : World} {A : Option Addr} {ops : List OpV} {c i : Nat} {j : IntKind} (h : RdV w A (ops.flatMap opC)) (hi : i < ops.length) :
    ∃ b o, pureRun Try.prog (Instr.indexAt 27 (.slice A ops.length c) (.int j i)) = some (.pointer (some ⟨b, o, none⟩)) ∧ ldv Try.prog 40 (.pointer (some ⟨b, o, none⟩)) w = some (.agg (opC ops[i]).toArray) := by
  obtain ⟨b, o, h1, h2, h3, _⟩ := h.elem (P := Try.prog) (c := c) (n := ops.length) (i := (i : Int)) (j := j) Try.underlying27 sz_40 (by omega) (by rw [flat_len opC_len]; exact Nat.le_refl _) (by omega) (by omega)
  rw [Int.toNat_natCast, flat_at opC_len ops i hi] at h3
  exact ⟨b, o, h1, by rw [ld_40, h3]; rfl⟩
theorem l_SameOps {xs ys : List OpV} (hl : xs.length ≤ 4611686018427387904) (he : xs.length = ys.length) {A B : Option Addr} {c d : Nat} (w0 : World) : ∀ (e i : Nat) (w : World), RdV w A (xs.flatMap opC) → RdV w B (ys.flatMap opC) → Below w0.heap.size w0 w →
    (∀ j, j < i → xs[j]? = ys[j]?) → i + e = xs.length → P68_0 (.slice A xs.length c) (.slice B ys.length d) (.int .i64 i) w fun v w' => v = .bool (decide (xs = ys)) ∧ Below w0.heap.size w0 w' := by
  intro e
  induction e with
  | zero =>
    intro i w hx hy hb hs hd
    apply L68_0_ok
    have : ¬ ((i : Int) < xs.length) := by omega
    have heq : xs = ys := List.ext_getElem? fun j => by
      rcases Nat.lt_or_ge j i with h | h
      · exact hs j h
      · rw [List.getElem?_eq_none (by omega), List.getElem?_eq_none (by omega)]
    simp -implicitDefEqProofs only [L68_0, len_27, wpB_some', bp_lss, this, decide_false, cnd_false]
    exact ⟨by simp [heq], hb⟩
  | succ e ih =>
    intro i w hx hy hb hs hd
    apply L68_0_ok
    have hlt : (i : Int) < xs.length := by omega
    have hix : i < xs.length := by omega
    have hiy : i < ys.length := by omega
    obtain ⟨b1, o1, q1, q2⟩ := op_at (c := c) (j := .i64) (show RdV w.drew A _ from hx) hix
    obtain ⟨b2, o2, r1, r2⟩ := op_at (c := d) (j := .i64) (show RdV w.drew B _ from hy) hiy
    simp -implicitDefEqProofs only [L68_0, len_27, wpB_some', bp_lss, hlt, decide_true, cnd_true, q1, q2, r1, r2]
    have hne : be Try.prog .neq 40 (.tmp 20) (.tmp 24) (.agg (opC xs[i]).toArray) (.agg (opC ys[i]).toArray) = some (.bool (!decide (xs[i] = ys[i]))) := by
      rw [← opEq]; exact be_neq_40
    rw [hne]
    by_cases h1 : xs[i] = ys[i]
    · simp -implicitDefEqProofs only [h1, decide_true, Bool.not_true, wpB_some', cnd_false, bp_add, wrapi (n := (i : Int) + 1) (by omega) (by omega)]
      have h := ih (i + 1) w.drew hx hy hb.drew (fun j hj => by
        rcases Nat.lt_or_ge j i with h | h
        · exact hs j h
        · rw [show j = i by omega, List.getElem?_eq_getElem hix, List.getElem?_eq_getElem hiy, h1]) (by omega)
      rw [Int.natCast_add i 1] at h
      exact h
    · simp -implicitDefEqProofs only [h1, decide_false, Bool.not_false, wpB_some', cnd_true]
      refine ⟨?_, hb.drew⟩
      have : xs ≠ ys := fun h => h1 (by subst h; rfl)
      simp [this]
theorem c_SameOps {xs ys : List OpV} (hl : xs.length ≤ 4611686018427387904) {u v : Value} {w : World} (hx : SlO w u xs) (hy : SlO w v ys) : CallR Try.prog 68 [u, v] w fun r w' => r = .bool (decide (xs = ys)) ∧ Below w.heap.size w w' := by
  obtain ⟨A, c, rfl, hx⟩ := hx
  obtain ⟨B, d, rfl, hy⟩ := hy
  apply F68_ok
  by_cases he : xs.length = ys.length
  · have h1 : ((xs.length : Int) != ys.length) = false := by rw [he]; simp
    simp -implicitDefEqProofs only [F68, len_27, wpB_some', be_neq, h1, cnd_false]
    exact l_SameOps hl he w xs.length 0 w hx hy (Below.refl _ _) (fun j hj => by omega) (by omega)
  · have h1 : ((xs.length : Int) != ys.length) = true := by rw [bne_iff_ne]; omega
    simp -implicitDefEqProofs only [F68, len_27, wpB_some', be_neq, h1, cnd_true]
    have : xs ≠ ys := fun h => he (by rw [h])
    exact ⟨by simp [this], Below.refl _ _⟩
/-- a list's value out of the lists -/
theorem val_at {w : World} {A : Option Addr} {vs : List Value} {n c i : Nat} {x : Value} {j : IntKind} (h : RdV w A vs) (hn : vs.length = n) (hx : vs[i]? = some x) :
    ∃ b o, pureRun Try.prog (Instr.indexAt 22 (.slice A n c) (.int j i)) = some (.pointer (some ⟨b, o, none⟩)) ∧ ldC (hp w b) o = some x := by
  have hi := (List.getElem?_eq_some_iff.1 hx).1
  obtain ⟨b, o, h1, h2, _⟩ := h.elem1 (P := Try.prog) (c := c) (n := n) (i := (i : Int)) (j := j) Try.underlying22 sz_27 (by omega) (by omega) (by omega)
  rw [Int.toNat_natCast, hx] at h2
  exact ⟨b, o, h1, h2⟩
theorem l_SameScript {s t : ScV} (hs : s.1.length ≤ 4611686018427387904) (hls : ∀ l ∈ s.1, l.length ≤ 4611686018427387904) (he : s.1.length = t.1.length) (hp2 : s.2 = t.2) {A B : Option Addr} {c d g k : Nat} {vs us : List Value} {vp up : Value} (w0 : World) :
    ∀ (e i : Nat) (w : World), RdV w A vs → vs.length = s.1.length → (∀ (j : Nat) (x : Value) (ops : List OpV), vs[j]? = some x → s.1[j]? = some ops → SlO w x ops) → RdV w B us → us.length = t.1.length → (∀ (j : Nat) (x : Value) (ops : List OpV), us[j]? = some x → t.1[j]? = some ops → SlO w x ops) →
    hp w g = some (.cells #[.slice A s.1.length c, vp] 25) → hp w k = some (.cells #[.slice B t.1.length d, up] 25) → Below w0.heap.size w0 w →
    (∀ j, j < i → s.1[j]? = t.1[j]?) → i + e = s.1.length → P19_0 (.pointer (some ⟨g, 0, none⟩)) (.pointer (some ⟨k, 0, none⟩)) (.int .i64 i) w fun v w' => v = .bool (scEq s t) ∧ Below w0.heap.size w0 w' := by
  intro e
  induction e with
  | zero =>
    intro i w h1 h2 h3 h4 h5 h6 hg hk hb hsame hd
    apply L19_0_ok
    have : ¬ ((i : Int) < s.1.length) := by omega
    have heq : s.1 = t.1 := List.ext_getElem? fun j => by
      rcases Nat.lt_or_ge j i with h | h
      · exact hsame j h
      · rw [List.getElem?_eq_none (by omega), List.getElem?_eq_none (by omega)]
    simp -implicitDefEqProofs [L19_0, hg, this]
    exact ⟨by simp [scEq, heq, hp2], hb⟩
  | succ e ih =>
    intro i w h1 h2 h3 h4 h5 h6 hg hk hb hsame hd
    apply L19_0_ok
    have hlt : (i : Int) < s.1.length := by omega
    obtain ⟨x, hx⟩ : ∃ x, vs[i]? = some x := ⟨_, List.getElem?_eq_getElem (by omega)⟩
    obtain ⟨y, hy⟩ : ∃ y, us[i]? = some y := ⟨_, List.getElem?_eq_getElem (by omega)⟩
    obtain ⟨a, ha⟩ : ∃ a, s.1[i]? = some a := ⟨_, List.getElem?_eq_getElem (by omega)⟩
    obtain ⟨b, hb'⟩ : ∃ b, t.1[i]? = some b := ⟨_, List.getElem?_eq_getElem (by omega)⟩
    obtain ⟨b1, o1, q1, q2⟩ := val_at (c := c) (j := .i64) h1 h2 hx
    obtain ⟨b2, o2, r1, r2⟩ := val_at (c := d) (j := .i64) h4 h5 hy
    simp -implicitDefEqProofs [L19_0, hg, hk, hlt, q1, q2, r1, r2]
    have hxo := h3 i x a hx ha
    have hyo := h6 i y b hy hb'
    refine (c_SameOps (w := w.drew) (hls a (List.mem_of_getElem? ha)) hxo hyo).mono ?_
    rintro _ w1 ⟨rfl, hb1⟩
    have hb1 : Below w.heap.size w w1 := (Below.refl _ _).drew.trans hb1
    by_cases hab : a = b
    · simp -implicitDefEqProofs [hab, wrapi (n := (i : Int) + 1) (by omega) (by omega)]
      have hch : Chg [] w w1 := Chg.of_below hb1 _
      have h := ih (i + 1) w1 (h1.keep hb1) h2 (fun j x ops hx ho => (h3 j x ops hx ho).keep hb1) (h4.keep hb1) h5 (fun j x ops hx ho => (h6 j x ops hx ho).keep hb1) (hch.at hg (by simp)) (hch.at hk (by simp)) (hb.trans (hb1.mono hb.size))
        (fun j hj => by
          rcases Nat.lt_or_ge j i with h | h
          · exact hsame j h
          · rw [show j = i by omega, ha, hb', hab]) (by omega)
      rw [Int.natCast_add i 1] at h
      exact h
    · simp -implicitDefEqProofs [hab]
      have : s.1 ≠ t.1 := fun h => hab (by rw [h, hb'] at ha; exact (Option.some.inj ha).symm)
      exact ⟨by simp [scEq, this], hb.trans (hb1.mono hb.size)⟩
theorem c_SameScript {s t : ScV} (hs : s.1.length ≤ 4611686018427387904) (hls : ∀ l ∈ s.1, l.length ≤ 4611686018427387904) (hps : s.2.length ≤ 4611686018427387904) {u v : Value} {w : World} (hu : IsS w u s) (hv : IsS w v t) : CallR Try.prog 19 [u, v] w fun r w' => r = .bool (scEq s t) ∧ Below w.heap.size w w' := by
  have hca : Chg [] w ((w.alloc (.cells u.cells 25)).alloc (.cells v.cells 25)) := ((Chg.refl _ _).alloc _).alloc _
  have hu := hu.keep hca.below
  have hv := hv.keep hca.below
  obtain ⟨A, c, vs, vp, rfl, a2, a3, a4, a5⟩ := hu.ex
  obtain ⟨B, d, us, up, rfl, b2, b3, b4, b5⟩ := hv.ex
  apply F19_ok
  by_cases he : s.1.length = t.1.length
  · have h1 : ((s.1.length : Int) != t.1.length) = false := by rw [he]; simp
    simp -implicitDefEqProofs [F19, effv_box, h1]
    refine (c_SameInts hps a5 b5).mono ?_
    rintro _ w1 ⟨rfl, hb1⟩
    by_cases hpp : s.2 = t.2
    · simp -implicitDefEqProofs [hpp]
      have hch : Chg [] ((w.alloc (.cells #[.slice A s.1.length c, vp] 25)).alloc (.cells #[.slice B t.1.length d, up] 25)) w1 := Chg.of_below hb1 _
      have := l_SameScript (c := c) (d := d) (vp := vp) (up := up) (k := w.heap.size + 1) (g := w.heap.size) hs hls he hpp w s.1.length 0 w1 (a2.keep hb1) a3 (fun j x ops hx ho => (a4 j x ops hx ho).keep hb1) (b2.keep hb1) b3 (fun j x ops hx ho => (b4 j x ops hx ho).keep hb1) (hch.at (by simp) (by simp)) (hch.at (by simp) (by simp)) ((hca.trans hch).below) (fun j hj => by omega) (by omega)
      exact this
    · simp -implicitDefEqProofs [hpp]
      exact ⟨by simp [scEq, hpp], (hca.trans (Chg.of_below hb1 _)).below⟩
  · have h1 : ((s.1.length : Int) != t.1.length) = true := by rw [bne_iff_ne]; omega
    simp -implicitDefEqProofs [F19, effv_box, h1]
    have hne : s.1 ≠ t.1 := fun h => he (by rw [h])
    exact ⟨by simp [scEq, hne], hca.below⟩
end Go.Proofs.Ytgamnncehjcdiaa
