/- Parts of the proof of OrderChecks, one behind the other. Conditions: none. -/
import Derived.Laws.BytesArg
import Derived.Laws.Strings
import Derived.Test.YtnpflajdbchghaaGreatZOrderChecks7
set_option linter.unusedSimpArgs false
set_option linter.unusedVariables false
noncomputable section
namespace Go.Proofs.YtnpflajdbchghaaGreat.Ev
open Go Go.RowKit
section
variable{P:Program}{w:World}
theorem pr_indexA{t e:TypeId}{n z b o:Nat}{k:IntKind}{i:Int}(h:P.underlying t=some (.array n e))(a:(P.info? e).map (·.size)=some z)(c:0<=i)(d:i<n):
  ai P (Instr.indexAt t (.pointer (some ⟨b,o,none⟩)) (.int k i))=some (.pointer (some ⟨b,o+i.toNat*z,none⟩)):=aU λw=>by
 obtain⟨j,f,a⟩:=dc.1 a;simp[Instr.indexAt,asIntOf,run_underlying h,Instr.sureAddr,c,d,sizeOf,typeInfo,f,a,eL]
theorem ints_ld{g k:Nat}{xs:List Int}{e:TypeId}(h:hp w g=some (.cells (ints xs).toArray e))(a:k<xs.length):an (hp w g) (0+k*1)=some (bN (xs.getD k 0)):=by
 rw[h,aN];simp[ints,cu,a]
@[simp] theorem be_eqlstr {t : TypeId} {x y : Operand} {a b : ByteArray} : be P .eql t x y (.string a) (.string b) = some (.bool (a.toList == b.toList)) := be_of λw => by
 rw[Sem.run_bind,binOp_string_eql];simp[eqGuard]
@[simp] theorem be_neqstr {t : TypeId} {x y : Operand} {a b : ByteArray} : be P .neq t x y (.string a) (.string b) = some (.bool (!(a.toList == b.toList))) := be_of λw => by
 rw[Sem.run_bind,binOp_string_neq];simp[eqGuard]
end
end Go.Proofs.YtnpflajdbchghaaGreat.Ev
