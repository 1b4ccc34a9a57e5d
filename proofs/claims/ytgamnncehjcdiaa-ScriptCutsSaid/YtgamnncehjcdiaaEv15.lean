/- Arrays' elements. No program is named here. -/
import Derived.Test.YtgamnncehjcdiaaEv14
import Derived.Laws.BytesArg
import Derived.Laws.Strings
namespace Go.Proofs.Ytgamnncehjcdiaa.Ev
open Go Go.RowKit
set_option linter.unusedSimpArgs false
set_option linter.unusedVariables false
section
variable {P : Program} {w : World}
theorem pr_indexA {t e : TypeId} {n z b o : Nat} {k : IntKind} {i : Int} (h : P.underlying t = some (.array n e)) (hz : (P.info? e).map (·.size) = some z) (h0 : 0 ≤ i) (h1 : i < n) :
    pureRun P (Instr.indexAt t (.pointer (some ⟨b, o, none⟩)) (.int k i)) = some (.pointer (some ⟨b, o + i.toNat * z, none⟩)) := pureRun_of fun w => by
  obtain ⟨j, hj, hz⟩ := Option.map_eq_some_iff.1 hz
  simp [Instr.indexAt, asIntOf, run_underlying h, Instr.sureAddr, h0, h1, sizeOf, typeInfo, hj, hz, addr_add]
/-- a number of an array of numbers -/
theorem ints_ld {g k : Nat} {xs : List Int} {e : TypeId} (h : hp w g = some (.cells (ints xs).toArray e)) (hk : k < xs.length) : ldC (hp w g) (0 + k * 1) = some (.int .i64 (xs.getD k 0)) := by
  rw [h, ldC_some]
  simp [ints, List.getD_eq_getElem?_getD, hk]
theorem ints_ok {g k : Nat} {xs : List Int} {e : TypeId} (h : hp w g = some (.cells (ints xs).toArray e)) (hk : k < xs.length) : okC (hp w g) (0 + k * 1 + 1) = true := by
  rw [h]; simp; omega
theorem ints_st {g k : Nat} {xs : List Int} {e : TypeId} (h : hp w g = some (.cells (ints xs).toArray e)) (x : Int) : put w g ((getC (hp w g)).setIfInBounds (0 + k * 1) (.int .i64 x)) (getE (hp w g)) = put w g (ints (xs.set k x)).toArray e := by
  rw [h, getC_some, getE_some]
  congr 1
  apply Array.toList_inj.1
  simp [flat_set1]
/-! ### texts -/
@[simp] theorem be_eqlstr {t : TypeId} {x y : Operand} {a b : ByteArray} : be P .eql t x y (.string a) (.string b) = some (.bool (a.toList == b.toList)) := be_of fun w => by
  rw [Sem.run_bind, binOp_string_eql]; simp [eqGuard]
@[simp] theorem be_neqstr {t : TypeId} {x y : Operand} {a b : ByteArray} : be P .neq t x y (.string a) (.string b) = some (.bool (!(a.toList == b.toList))) := be_of fun w => by
  rw [Sem.run_bind, binOp_string_neq]; simp [eqGuard]
/-- bytes as a text -/
theorem effv_str {src dst e : TypeId} {A : Option Addr} {c : Nat} {bs : List Int} {K : Value → World → Prop} (hs : P.underlying src = some (.slice e)) (he : P.underlying e = some (.int .u8)) (hd : P.underlying dst = some .string) (h : RdV w A (bs.map (Value.int .u8))) :
    effv P (convert src dst (.slice A bs.length c)) w K = K (.string (strOfNums bs)) w := by
  have hr : (convert src dst (.slice A bs.length c)).run P w = .ok (.string (strOfNums bs)) w := by
    cases A with
    | none =>
      have : bs = [] := by
        cases bs with
        | nil => rfl
        | cons b bs => obtain ⟨p, hp, _⟩ := h 0 (.int .u8 b) rfl; cases hp
      subst this
      exact run_convert_bytes_nil w src e hs he 0 c dst hd
    | some a =>
      rw [run_convert_bytes_string w src dst e _ bs.length c hs he hd, run_bytesToString w a bs.length c bs ?_, foldl_push_bytes]
      · simp [strOfNums, ByteArray.empty, ByteArray.emptyWithCapacity]
        rfl
      · have := run_loadCells_list (P := P) w a (bs.map (Value.int .u8)) (fun j v hj => by
          obtain ⟨p, hp, hc⟩ := h j v hj
          cases hp
          exact hc)
        simpa using this
  unfold effv; rw [hr]
theorem strOfNums_toList (xs : List Int) : (strOfNums xs).toList = xs.map fun n => UInt8.ofNat n.toNat := by
  have h : (strOfNums xs).toList = (strOfNums xs).data.toList := ByteArray.toList_eq (strOfNums xs)
  rw [h, strOfNums_data]
end
end Go.Proofs.Ytgamnncehjcdiaa.Ev
