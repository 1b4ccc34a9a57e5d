/- The call of RecordMay answers true. -/
import Derived.Test.YtkploakfdlnbbaaRo
import Derived.Test.YtkploakfdlnbbaaEv14
namespace Go.Proofs.Ytkploakfdlnbbaa
open Go Ev Go.RowKit
set_option linter.unusedSimpArgs false
set_option linter.unusedVariables false
set_option maxRecDepth 10000

theorem spDec (ns : List Int) (h : ns.length = 20) : ∃ s : SpV, spC s = List.zipWith Value.int [.i64, .i64, .i64, .i64, .i64, .i64, .u64, .u64, .i64, .i64, .i64, .i64, .i64, .i64, .i64, .i64, .i64, .i64, .i64, .u64] ns := by
  match ns, h with
  | [a, b, c, d, e, f, g, h, i, j, k, l, m, n, o, p, q, r, s, t], _ => exact ⟨⟨a, b, (c, d, e, f, g, h), i, j, k, l, (m, (n, o, p, q, r), s, t)⟩, rfl⟩
theorem open_spans {H : Type} {enc : TypeId × Value → H} {w : World} {base : Nat} {spare : Nat → Bool} {held : Bool} {fuel : Nat} {a : Option Addr} {len cap : Nat} {x : DataW H × List MemPlace}
    (h : DataW.trod enc Try.prog w base spare held fuel 48 [.slice a len cap] = some x) : ∃ S : List SpV, S.length = len ∧ RdV w a (S.flatMap spC) ∧ len ≤ cap ∧ cap ≤ maxLen :=
  open_flat (d := 6) (z := 20) (ks := [.i64, .i64, .i64, .i64, .i64, .i64, .u64, .u64, .i64, .i64, .i64, .i64, .i64, .i64, .i64, .i64, .i64, .i64, .i64, .u64]) Try.underlying48 (by kernel_rfl) (by kernel_rfl) (fun ns h _ => spDec ns h) spC_len h
theorem lawMay {W : World} (A : Option Addr) (n c : Nat) (S : List SpV) (hS : S.length = n) (hA : RdV W A (S.flatMap spC)) (hc : n ≤ c) (hm : c ≤ maxLen) :
    CallR Try.prog 12 [.slice A n c] W fun v w' => v = .bool true ∧ Below W.heap.size W w' := by
  subst hS
  apply F12_ok
  refine (c_firstR W).mono ?_
  rintro v w ⟨rfl, hc0⟩
  simp -implicitDefEqProofs only [F12, pr_not, Bool.not_true, wpB_some', cnd_false, len_48, bp_gtr]
  by_cases hl : (12 : Int) < S.length
  · simp -implicitDefEqProofs only [hl, decide_true, cnd_true]
    exact ⟨trivial, hc0.below⟩
  · simp -implicitDefEqProofs only [hl, decide_false, cnd_false]
    have hA0 := hA.keep hc0.below
    obtain ⟨i, hi, hz, hs, hb⟩ := inf_59
    refine eff_append (base := w.heap.size) (xs := []) (n := 0) (news := S.flatMap spC) (m := S.length) Try.underlying48 hi hz hs rfl (by omega) (World.ownsRow_nil _ _ _ _) (flat_len spC_len S) (fun j u hj => hA0 j u hj) (fun u hu => ?_) (by unfold maxLen; omega) (by rw [hb]; omega) (Nat.le_refl _)
      fun x' w1 ho hg => ?_
    · obtain ⟨s, _, hu⟩ := List.mem_flatMap.1 hu
      exact spC_one s u hu
    have hc1 : Chg [] w w1 := (Chg.refl _ _).grown hg fun k hk => by simp [Value.ownBlock] at hk
    rw [List.nil_append] at ho
    refine (c_RMay (l := S) (by omega) (slP_own ho (by omega))).mono ?_
    rintro v w2 ⟨rfl, hc2⟩
    have hA2 := (hA0.keep hc1.below).keep hc2.below
    refine (c_RMayRef (l := S) (by omega) ⟨A, c, rfl, hA2⟩).mono ?_
    rintro v w3 ⟨rfl, hc3⟩
    simp -implicitDefEqProofs only [be_neqb Try.underlying4, bne_self_eq_false, wpB_some', cnd_false]
    refine (l_both0 (l := S) (by omega) S.length 0 w3 (hA2.keep hc3.below) (((hc0.trans hc1).trans hc2).trans hc3) (by omega)).mono ?_
    rintro v w4 ⟨rfl, hc4⟩
    exact ⟨rfl, hc4.below⟩
end Go.Proofs.Ytkploakfdlnbbaa
