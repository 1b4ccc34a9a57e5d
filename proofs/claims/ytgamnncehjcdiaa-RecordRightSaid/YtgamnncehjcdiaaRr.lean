/- The call of RecordBent answers true: the calls. -/
import Derived.Test.YtgamnncehjcdiaaRq
namespace Go.Proofs.Ytgamnncehjcdiaa
open Go Ev Go.RowKit
set_option linter.unusedSimpArgs false
set_option linter.unusedVariables false
set_option maxRecDepth 10000

theorem tup0 (a b : Value) : pureRun Try.prog (Instr.extract (.tuple #[a, b]) 0) = some a := by rw [pr_extract]; rfl
theorem tup1 (a b : Value) : pureRun Try.prog (Instr.extract (.tuple #[a, b]) 1) = some b := by rw [pr_extract]; rfl
/-- a number of a span of an own slice: its place; what is written there -/
theorem sp_wr {w : World} {base n : Nat} {v : Value} {S : List SpV} (h : w.ownsRow base 58 20 v n (S.flatMap spC)) (hn : n = S.length) {id : Int} (h0 : 0 ≤ id) (hl : id < n) :
    ∃ g, v.ownBlock = some g ∧ (∀ j, pureRun Try.prog (Instr.indexAt 54 v (.int j id)) = some (.pointer (some ⟨g, id.toNat * 20, none⟩))) ∧ (∀ k, k < 20 → ldC (hp w g) (id.toNat * 20 + k) = (spA (spAt S id))[k]?) ∧
      ∀ (s' : SpV) (k : Nat) (x : Int), k < 20 → spC s' = (spC (spAt S id)).take k ++ [.int .i64 x] ++ (spC (spAt S id)).drop (k + 1) →
        ∃ w', (∀ L, effu Try.prog (Instr.storeAt 3 (.pointer (some ⟨g, id.toNat * 20 + k, none⟩)) (.int .i64 x)) w L = L w') ∧ w'.ownsRow base 58 20 v n ((S.set id.toNat s').flatMap spC) ∧ ∀ W, Chg [] W w → W.heap.size ≤ base → Chg [] W w' := by
  obtain ⟨g, c, e, hg, q1, q2, q3⟩ := sp_own h hn h0 hl
  refine ⟨g, hg, q1, q2, fun s' k x hk he => ?_⟩
  obtain ⟨p1, p2⟩ := sp_put h hn h0 hl hg s' k x hk he
  exact ⟨_, fun L => st_3 (v := .int .i64 x) rfl rfl p2, p1, fun W hW hb => hW.put (.inr (Nat.le_trans hb (h.lt g hg).1)) _ _⟩
theorem spAt_set {S : List SpV} {i : Nat} (s : SpV) (hi : i < S.length) : spAt (S.set i s) (i : Int) = s := by
  unfold spAt; simp [List.getD_eq_getElem?_getD, hi]
theorem spAt_ne {S : List SpV} {i j : Nat} (s : SpV) (h : i ≠ j) : spAt (S.set i s) (j : Int) = spAt S (j : Int) := by
  unfold spAt; simp [List.getD_eq_getElem?_getD, h]
end Go.Proofs.Ytgamnncehjcdiaa
