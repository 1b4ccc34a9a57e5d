/- Spans: what two share, in the reference. -/
import Derived.Test.YtgamnncehjcdiaaRb
namespace Go.Proofs.Ytgamnncehjcdiaa
open Go Ev Go.RowKit
set_option linter.unusedSimpArgs false
set_option linter.unusedVariables false
set_option maxRecDepth 10000

theorem Chg.putN {S : List Nat} {a w : World} {b : Nat} {c : Array Value} {e : TypeId} (h : Chg S a w) (hb : a.heap.size ≤ b) : Chg S a (put w b c e) := h.put (.inr hb) _ _
theorem callTo {P : Program} {f : FuncId} {args : List Value} {w w0 : World} {v0 : Value} (h : CallR P f args w fun v w' => v = v0 ∧ w' = w0) {K : Value → World → Prop} (hk : K v0 w0) : CallR P f args w K :=
  h.mono fun v w' ⟨h1, h2⟩ => by subst h1; subst h2; exact hk
theorem pr_indexArr {P : Program} {t e : TypeId} {z n b o : Nat} {j : IntKind} {i : Int} (h : P.underlying t = some (.array n e)) (hi : (P.info? e).map (·.size) = some z) (h0 : 0 ≤ i) (h1 : i < n) :
    pureRun P (Instr.indexAt t (.pointer (some ⟨b, o, none⟩)) (.int j i)) = some (.pointer (some ⟨b, o + i.toNat * z, none⟩)) := pureRun_of fun w => by
  obtain ⟨f, hf, hz⟩ := Option.map_eq_some_iff.1 hi
  have h2 : 0 ≤ i ∧ i < (n : Int) := ⟨h0, h1⟩
  simp [Instr.indexAt, asIntOf, run_underlying h, Instr.sureAddr, h2, sizeOf, typeInfo, hf, hz, addr_add]
def stC (s : SpV) : Array Value := #[.int .i64 s.iv, .int .i64 s.pt, .int .i64 s.bk, .int .i64 s.rs]
end Go.Proofs.Ytgamnncehjcdiaa
