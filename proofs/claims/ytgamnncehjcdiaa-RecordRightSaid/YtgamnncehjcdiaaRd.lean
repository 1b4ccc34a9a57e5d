/- Spans: can they be a record's? The loops of both. -/
import Derived.Test.YtgamnncehjcdiaaRc
namespace Go.Proofs.Ytgamnncehjcdiaa
open Go Ev Go.RowKit
set_option linter.unusedSimpArgs false
set_option linter.unusedVariables false
set_option maxRecDepth 10000

theorem stps_right {s : SpV} (h : right s = true) : ∀ x ∈ stps s, x = -1 ∨ 0 ≤ x := by
  have h := of_decide_eq_true h
  intro x hx
  simp [stps] at hx
  omega
/-- the test of a span behind the others, one by one -/
def clash (a s : SpV) : Bool := (decide (a.wk = s.wk) && (!(ahead a s) || decide (s.ix ≤ a.ix))) || shrd a s
def okAt (l : List SpV) (i : Nat) : Prop := ∀ s, l[i]? = some s → right s = true ∧ (∀ p, 0 < i → l[i - 1]? = some p → p.iv < s.iv) ∧ ∀ k a, k < i → l[k]? = some a → clash a s = false
def mayL (l : List SpV) : Prop := ∀ i, i < l.length → okAt l i
/-- a slice of spans -/
def SlP (w : World) (v : Value) (l : List SpV) : Prop := ∃ A c, v = .slice A l.length c ∧ RdV w A (l.flatMap spC)
theorem SlP.keep {w w' : World} {v : Value} {l : List SpV} (h : SlP w v l) (hb : Below w.heap.size w w') : SlP w' v l := by
  obtain ⟨A, c, h1, h2⟩ := h
  exact ⟨A, c, h1, h2.keep hb⟩
/-- a span of a slice: its place, the whole, its fields -/
theorem sp_at {w : World} {A : Option Addr} {l : List SpV} {c i : Nat} {j : IntKind} (h : RdV w A (l.flatMap spC)) (hi : i < l.length) :
    ∃ b o, pureRun Try.prog (Instr.indexAt 54 (.slice A l.length c) (.int j i)) = some (.pointer (some ⟨b, o, none⟩)) ∧ ldv Try.prog 58 (.pointer (some ⟨b, o, none⟩)) w = some (.agg (spA l[i])) ∧ ∀ k, k < 20 → ldC (hp w b) (o + k) = (spA l[i])[k]? := by
  obtain ⟨b, o, h1, h2, h3, _⟩ := h.elem (P := Try.prog) (c := c) (n := l.length) (i := (i : Int)) (j := j) Try.underlying54 sz_58 (by omega) (by rw [flat_len spC_len]; exact Nat.le_refl _) (by omega) (by omega)
  rw [Int.toNat_natCast, flat_at spC_len l i hi] at h3
  refine ⟨b, o, h1, by rw [ld_58, h3]; rfl, fun k hk => ?_⟩
  rw [h2 k hk, Int.toNat_natCast, flat_get spC_len l i hi k hk]
  simp [spA]
end Go.Proofs.Ytgamnncehjcdiaa
