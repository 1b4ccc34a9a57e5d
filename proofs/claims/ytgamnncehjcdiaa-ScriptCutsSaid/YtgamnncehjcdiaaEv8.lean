/- Small words for the printed formulas. No program is named here. -/
import Derived.Test.YtgamnncehjcdiaaEv7
namespace Go.Proofs.Ytgamnncehjcdiaa.Ev
open Go

/-- a part of a statement, by its way: 0, 1: first, second; 2, 3: then, else; 4: a block's; 5: a loop's -/
def nav : List Nat → Code → Code
  | [], c => c
  | 0 :: p, .seq a _ => nav p a
  | 1 :: p, .seq _ b => nav p b
  | 2 :: p, .cond _ a _ => nav p a
  | 3 :: p, .cond _ _ b => nav p b
  | 4 :: p, .block _ c => nav p c
  | 5 :: p, .loop c => nav p c
  | _ :: _, c => c
def entR (lo hi : Nat) (g : FuncId) : Bool := Nat.ble lo g && Nat.blt g hi
def entChk (P : Program) (lo hi : Nat) : Bool := (List.range hi).all fun g => Nat.blt g lo || match P.funcs[g]? with
  | some fn => fn.body.isSome && fn.name != "runtime.NumGoroutine"
  | none => false
theorem entOk_of {P : Program} {lo hi : Nat} (h : entChk P lo hi = true) : EntOk P (entR lo hi) := by
  intro g hg
  unfold entChk at h
  simp only [entR, Bool.and_eq_true] at hg
  rw [List.all_eq_true] at h
  have h1 := h g (by simpa [Nat.blt_eq] using hg.2)
  have h0 : Nat.blt g lo = false := by
    cases hb : Nat.blt g lo with
    | false => rfl
    | true =>
      exact absurd (Nat.le_of_ble_eq_true hg.1) (Nat.not_le_of_lt (by simpa [Nat.blt_eq] using hb))
  rw [h0, Bool.false_or] at h1
  cases hf : P.funcs[g]? with
  | none => rw [hf] at h1; cases h1
  | some fn =>
    rw [hf] at h1
    simp only [Bool.and_eq_true, bne_iff_ne, ne_eq] at h1
    cases hb : fn.body with
    | none => rw [hb] at h1; simp at h1
    | some c => exact ⟨fn, c, rfl, hb, h1.2⟩
/-- a two-operand operation but == and != -/
noncomputable def bp (P : Program) (op : BinOp) (t : TypeId) (a b : Value) : Option Value := pureRun P (binOp op t a b)
/-- == and != -/
noncomputable def be (P : Program) (op : BinOp) (t : TypeId) (x y : Operand) (a b : Value) : Option Value := pureRun P (do eqGuard op t x y a b; binOp op t a b)
end Go.Proofs.Ytgamnncehjcdiaa.Ev
