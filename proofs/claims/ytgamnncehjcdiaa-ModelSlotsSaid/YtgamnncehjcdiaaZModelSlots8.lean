/- Parts of the proof of ModelSlots, one behind the other. Conditions: none. -/
import Derived.Laws.BytesArg
import Derived.Laws.Strings
import Derived.Test.YtgamnncehjcdiaaZModelSlots7
namespace Go.Proofs.Ytgamnncehjcdiaa.Ev
open Go Go.RowKit
set_option linter.unusedSimpArgs false
set_option linter.unusedVariables false
section
variable {P : Program} {w : World}
theorem pr_indexA {t e : TypeId} {n z b o : Nat} {k : IntKind} {i : Int} (h : P.underlying t = some (.array n e)) (hz : (P.info? e).map (·.size) = some z) (h0 : 0 ≤ i) (h1 : i < n) :
    pureRun P (Instr.indexAt t (.pointer (some ⟨b, o, none⟩)) (.int k i)) = some (.pointer (some ⟨b, o + i.toNat * z, none⟩)) := pureRun_of fun w => by
  obtain ⟨j, hj, hz⟩ := Option.map_eq_some_iff.1 hz
  simp [Instr.indexAt, asIntOf, run_underlying h, Instr.sureAddr, h0, h1, sizeOf, typeInfo, hj, hz, addr_add]
/-- a number of an array of numbers -/
theorem ints_ld {g k : Nat} {xs : List Int} {e : TypeId} (h : hp w g = some (.cells (ints xs).toArray e)) (hk : k < xs.length) : ldC (hp w g) (0 + k * 1) = some (.int .i64 (xs.getD k 0)) := by
  rw [h, ldC_some]
  simp [ints, List.getD_eq_getElem?_getD, hk]
theorem ints_ok {g k : Nat} {xs : List Int} {e : TypeId} (h : hp w g = some (.cells (ints xs).toArray e)) (hk : k < xs.length) : okC (hp w g) (0 + k * 1 + 1) = true := by
  rw [h]; simp; omega
theorem ints_st {g k : Nat} {xs : List Int} {e : TypeId} (h : hp w g = some (.cells (ints xs).toArray e)) (x : Int) : put w g ((getC (hp w g)).setIfInBounds (0 + k * 1) (.int .i64 x)) (getE (hp w g)) = put w g (ints (xs.set k x)).toArray e := by
  rw [h, getC_some, getE_some]
  congr 1
  apply Array.toList_inj.1
  simp [flat_set1]
@[simp] theorem be_eqlstr {t : TypeId} {x y : Operand} {a b : ByteArray} : be P .eql t x y (.string a) (.string b) = some (.bool (a.toList == b.toList)) := be_of fun w => by
  rw [Sem.run_bind, binOp_string_eql]; simp [eqGuard]
@[simp] theorem be_neqstr {t : TypeId} {x y : Operand} {a b : ByteArray} : be P .neq t x y (.string a) (.string b) = some (.bool (!(a.toList == b.toList))) := be_of fun w => by
  rw [Sem.run_bind, binOp_string_neq]; simp [eqGuard]
end
end Go.Proofs.Ytgamnncehjcdiaa.Ev

