/- The record: the chapter's example. -/
import Derived.Test.YtgamnncehjcdiaaRn
namespace Go.Proofs.Ytgamnncehjcdiaa
open Go Ev Go.RowKit
set_option linter.unusedSimpArgs false
set_option linter.unusedVariables false
set_option maxRecDepth 10000

theorem slP_own {w : World} {base n : Nat} {v : Value} {S : List SpV} (h : w.ownsRow base 58 20 v n (S.flatMap spC)) (hn : n = S.length) : SlP w v S := by
  subst hn
  obtain ⟨A, c, rfl, hA, _, _⟩ := rdV_of_own h
  exact ⟨A, c, rfl, hA⟩
/-- a span of an own slice, field by field -/
theorem sp_own {w : World} {base n : Nat} {v : Value} {S : List SpV} (h : w.ownsRow base 58 20 v n (S.flatMap spC)) (hn : n = S.length) {id : Int} (h0 : 0 ≤ id) (hl : id < n) :
    ∃ g c, v = .slice (some ⟨g, 0, none⟩) n c ∧ v.ownBlock = some g ∧ (∀ j, pureRun Try.prog (Instr.indexAt 54 v (.int j id)) = some (.pointer (some ⟨g, id.toNat * 20, none⟩))) ∧ (∀ k, k < 20 → ldC (hp w g) (id.toNat * 20 + k) = (spA (spAt S id))[k]?) ∧ ldL (hp w g) (id.toNat * 20) 20 = some (spC (spAt S id)) := by
  subst hn
  have hi : id.toNat < S.length := by omega
  obtain ⟨g, c, e, hg, q1, q2, q3, q4⟩ := own_elem (P := Try.prog) (i := id) (j := .i64) h Try.underlying54 sz_58 h0 hl
  refine ⟨g, c, e, hg, fun j => ?_, fun k hk => ?_, ?_⟩
  · obtain ⟨g', c', e', hg', q1', _⟩ := own_elem (P := Try.prog) (i := id) (j := j) h Try.underlying54 sz_58 h0 hl
    rw [hg] at hg'
    cases hg'
    exact q1'
  · rw [q2 k hk, flat_get spC_len S id.toNat hi k hk, spAt_eq hi, spA_get]
  · rw [q3, flat_at spC_len S id.toNat hi, spAt_eq hi]
def opPin : OpV := (3, 0, 0, 0, 0, 0)
def spFirst (a b : Int) (p q r : Int) : SpV := ⟨a, 0, opPin, b, p, q, r, resO⟩
theorem c_firstR (w : World) : CallR Try.prog 23 [] w fun v w' => v = .bool true ∧ Chg [] w w' := by
  apply F23_ok
  refine (c_New 2 w).mono ?_
  rintro v w1 ⟨r, F1, rfl, R1, n1, c1⟩
  have e1 : neg1s (min (max (2 : Int) 1) 64).toNat = [-1, -1] := by decide
  rw [e1] at R1
  have b1 : pureRun Try.prog (Instr.build 40 #[(0, .int .i64 3)]) = some (.agg (opC opPin).toArray) := bd_40_0
  have b2 : pureRun Try.prog (Instr.build 53 #[]) = some (.agg (resA resO)) := bd_53_
  simp -implicitDefEqProofs only [F23, be_eqlp Try.underlying43, Option.isNone_some, wpB_some', cnd_false, b1]
  refine (c_Begin R1 (by decide) (by decide) 0 0 opPin 3).mono ?_
  rintro v w2 ⟨rfl, F2, R2, u2⟩
  have e2 : pBegin ([], [-1, -1], 0) 0 0 opPin 3 = ((0, 0), ([spFirst 0 3 (-1) (-1) (-1)], [0, -1], 3)) := rfl
  rw [e2] at R2 ⊢
  have x0 : ∀ a b : Value, pureRun Try.prog (Instr.extract (.tuple #[a, b]) 0) = some a := fun a b => by rw [pr_extract]; rfl
  have x1 : ∀ a b : Value, pureRun Try.prog (Instr.extract (.tuple #[a, b]) 1) = some b := fun a b => by rw [pr_extract]; rfl
  simp -implicitDefEqProofs only [x0, x1, wpB_some', b2]
  refine (c_Point R2 0 5 resO).mono ?_
  rintro v w3 ⟨rfl, F3, R3, u3⟩
  have e3 : pPoint ([spFirst 0 3 (-1) (-1) (-1)], [0, -1], 3) 0 5 resO = (0, ([spFirst 0 3 5 (-1) (-1)], [0, -1], 5)) := rfl
  rw [e3] at R3 ⊢
  simp -implicitDefEqProofs only [wpB_some', b2]
  refine (c_End R3 0 5 resO (fun _ => by decide)).mono ?_
  rintro v w4 ⟨rfl, F4, R4, u4⟩
  have e4 : pEnd ([spFirst 0 3 5 (-1) (-1)], [0, -1], 5) 0 5 resO = (0, ([spFirst 0 3 5 (-1) 5], [-1, -1], 5)) := rfl
  rw [e4] at R4 ⊢
  refine (c_List R4 (by decide)).mono ?_
  rintro v w5 ⟨hv, c5⟩
  have hv : w5.ownsRow w4.heap.size 58 20 v 1 ([spFirst 0 3 5 (-1) 5].flatMap spC) := hv
  have hc : Chg [] w w5 := ((c1.upd ((u2.trans u3).trans u4) fun k hk => .inr (n1 k hk))).trans c5
  obtain ⟨g, c, rfl, hg, q1, q2, q3⟩ := sp_own hv rfl (id := 0) (by omega) (by decide)
  have f8 := q2 8 (by omega)
  have f9 := q2 9 (by omega)
  have f10 := q2 10 (by omega)
  have f11 := q2 11 (by omega)
  rw [sp8] at f8
  rw [sp9] at f9
  rw [sp10] at f10
  rw [sp11] at f11
  have hs : spAt [spFirst 0 3 5 (-1) 5] 0 = spFirst 0 3 5 (-1) 5 := rfl
  rw [hs] at f8 f9 f10 f11
  have one : ((1 : Nat) : Int) == 1 := by decide
  have hmay : mayB [spFirst 0 3 5 (-1) 5] = true := mayB_t fun i hi s hs => by
    have hi : i < 1 := hi
    obtain rfl : i = 0 := by omega
    have : spFirst 0 3 5 (-1) 5 = s := Option.some.inj hs
    subst this
    exact ⟨by decide, fun p h => by omega, fun k a h => by omega⟩
  simp -implicitDefEqProofs only [be_eql, beq_self_eq_true, wpB_some', gd_true, gv_true, pickv_true, len_54, List.length_singleton, one, q1, fa_58_3, fa_58_4, fa_58_5, fa_58_6, ld_3, f8, f9, f10, f11, spFirst, gE_true]
  refine (c_RMay (l := [spFirst 0 3 5 (-1) 5]) (by decide) (slP_own hv rfl)).mono ?_
  rintro v w6 ⟨rfl, c6⟩
  simp -implicitDefEqProofs only [hmay, wpB_some']
  exact ⟨trivial, hc.trans c6⟩
end Go.Proofs.Ytgamnncehjcdiaa
