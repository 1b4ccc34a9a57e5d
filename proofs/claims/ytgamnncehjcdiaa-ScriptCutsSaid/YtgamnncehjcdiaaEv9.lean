/- What the words of the formulas answer at values of their kinds. No program is named here. -/
import Derived.Test.YtgamnncehjcdiaaEv8
import Derived.Below
import Derived.Laws.AppendOwn
import Derived.Laws.OwnMore
import Derived.Laws.StructEq
import Derived.RowKit
import Derived.IntWalk
namespace Go.Proofs.Ytgamnncehjcdiaa.Ev
open Go Go.RowKit

@[congr] theorem wpB_congr {α : Type} {o o' : Option α} {K : α → Prop} (h : o = o') : wpB o K = wpB o' K := by rw [h]
@[simp] theorem wpB_some' {α : Type} (v : α) (K : α → Prop) : wpB (some v) K = K v := (rfl)
@[simp] theorem cnd_true (a b : Prop) : cnd (.bool true) a b = a := (rfl)
@[simp] theorem cnd_false (a b : Prop) : cnd (.bool false) a b = b := (rfl)
@[congr] theorem cnd_congr {c c' : Value} {a b : Prop} (h : c = c') : cnd c a b = cnd c' a b := by rw [h]
@[simp] theorem yes_bool (b want : Bool) : yes (.bool b) want = (b == want) := (rfl)
@[simp] theorem gv_true (v : Value) : gv (.bool true) true v = v := (rfl)
@[simp] theorem gv_false (v : Value) : gv (.bool false) false v = v := (rfl)
@[simp] theorem gv_tf (v : Value) : gv (.bool true) false v = undef := (rfl)
@[simp] theorem gv_ft (v : Value) : gv (.bool false) true v = undef := (rfl)
@[simp] theorem gd_true (v : Option Value) : gd (.bool true) true v = v := (rfl)
@[simp] theorem gd_false (v : Option Value) : gd (.bool false) false v = v := (rfl)
@[simp] theorem gd_tf (v : Option Value) : gd (.bool true) false v = some undef := (rfl)
@[simp] theorem gd_ft (v : Option Value) : gd (.bool false) true v = some undef := (rfl)
@[simp] theorem gd_ut (v : Option Value) : gd undef true v = some undef := (rfl)
@[simp] theorem gd_uf (v : Option Value) : gd undef false v = some undef := (rfl)
@[simp] theorem gv_ut (v : Value) : gv undef true v = undef := (rfl)
@[simp] theorem gv_uf (v : Value) : gv undef false v = undef := (rfl)
@[simp] theorem gE_true (C : (Value → World → Prop) → Prop) (K : Value → World → Prop) (w : World) : gE (.bool true) true C K w = C K := (rfl)
@[simp] theorem gE_false (C : (Value → World → Prop) → Prop) (K : Value → World → Prop) (w : World) : gE (.bool false) false C K w = C K := (rfl)
@[simp] theorem gE_tf (C : (Value → World → Prop) → Prop) (K : Value → World → Prop) (w : World) : gE (.bool true) false C K w = K undef w := (rfl)
@[simp] theorem gE_ft (C : (Value → World → Prop) → Prop) (K : Value → World → Prop) (w : World) : gE (.bool false) true C K w = K undef w := (rfl)
@[simp] theorem gE_ut (C : (Value → World → Prop) → Prop) (K : Value → World → Prop) (w : World) : gE undef true C K w = K undef w := (rfl)
@[simp] theorem gE_uf (C : (Value → World → Prop) → Prop) (K : Value → World → Prop) (w : World) : gE undef false C K w = K undef w := (rfl)
@[simp] theorem gU_true (C : (World → Prop) → Prop) (K : World → Prop) (w : World) : gU (.bool true) true C K w = C K := (rfl)
@[simp] theorem gU_false (C : (World → Prop) → Prop) (K : World → Prop) (w : World) : gU (.bool false) false C K w = C K := (rfl)
@[simp] theorem gU_tf (C : (World → Prop) → Prop) (K : World → Prop) (w : World) : gU (.bool true) false C K w = K w := (rfl)
@[simp] theorem gU_ft (C : (World → Prop) → Prop) (K : World → Prop) (w : World) : gU (.bool false) true C K w = K w := (rfl)
@[congr] theorem gE_congr {c c' : Value} {want : Bool} {C : (Value → World → Prop) → Prop} {K : Value → World → Prop} {w : World} (h : c = c') : gE c want C K w = gE c' want C K w := by rw [h]
@[congr] theorem gU_congr {c c' : Value} {want : Bool} {C : (World → Prop) → Prop} {K : World → Prop} {w : World} (h : c = c') : gU c want C K w = gU c' want C K w := by rw [h]
@[simp] theorem pickv_true (a b : Option Value) : pickv (.bool true) a b = a := (rfl)
@[simp] theorem pickv_false (a b : Option Value) : pickv (.bool false) a b = b := (rfl)
@[simp] theorem nilv_some (a : Addr) : nilv (.pointer (some a)) = some (.pointer (some a)) := (rfl)
section
variable {P : Program} {t : TypeId} {k : IntKind} {a b : Int}
theorem bp_of {op : BinOp} {x y v : Value} (h : ∀ w, (binOp op t x y).run P w = .ok v w) : bp P op t x y = some v := pureRun_of h
@[simp] theorem bp_add : bp P .add t (.int k a) (.int k b) = some (.int k (k.wrap (a + b))) := bp_of fun w => by simp [binOp, Op.intArith]
@[simp] theorem bp_sub : bp P .sub t (.int k a) (.int k b) = some (.int k (k.wrap (a - b))) := bp_of fun w => by simp [binOp, Op.intArith]
@[simp] theorem bp_mul : bp P .mul t (.int k a) (.int k b) = some (.int k (k.wrap (a * b))) := bp_of fun w => by simp [binOp, Op.intArith]
theorem bp_quo (h : b ≠ 0) : bp P .quo t (.int k a) (.int k b) = some (.int k (k.wrap (a.tdiv b))) := bp_of fun w => by simp [binOp, Op.intDiv, h]
theorem bp_rem (h : b ≠ 0) : bp P .rem t (.int k a) (.int k b) = some (.int k (a.tmod b)) := bp_of fun w => by simp [binOp, Op.intDiv, h]
@[simp] theorem bp_lss : bp P .lss t (.int k a) (.int k b) = some (.bool (decide (a < b))) := bp_of fun w => by simp [binOp, Op.intCmp]
@[simp] theorem bp_leq : bp P .leq t (.int k a) (.int k b) = some (.bool (decide (a ≤ b))) := bp_of fun w => by simp [binOp, Op.intCmp]
@[simp] theorem bp_gtr : bp P .gtr t (.int k a) (.int k b) = some (.bool (decide (b < a))) := bp_of fun w => by simp [binOp, Op.intCmp]
@[simp] theorem bp_geq : bp P .geq t (.int k a) (.int k b) = some (.bool (decide (b ≤ a))) := bp_of fun w => by simp [binOp, Op.intCmp]
theorem bp_shl {j : IntKind} (h : 0 ≤ b) : bp P .shl t (.int k a) (.int j b) = some (.int k (k.wrap (a * 2 ^ (min b.toNat k.bits)))) := bp_of fun w => by
  simp [binOp, Op.shift, show ¬ b < 0 by omega]
theorem bp_shr {j : IntKind} (h : 0 ≤ b) : bp P .shr t (.int k a) (.int j b) = some (.int k (a.fdiv (2 ^ (min b.toNat k.bits)))) := bp_of fun w => by
  simp [binOp, Op.shift, show ¬ b < 0 by omega]
theorem be_of {op : BinOp} {x y : Operand} {u v r : Value} (h : ∀ w, (do eqGuard op t x y u v; binOp op t u v).run P w = .ok r w) : be P op t x y u v = some r := pureRun_of h
@[simp] theorem be_eql {x y : Operand} : be P .eql t x y (.int k a) (.int k b) = some (.bool (a == b)) := be_of fun w => by simp [eqGuard, binOp, Op.intCmp]
@[simp] theorem be_neq {x y : Operand} : be P .neq t x y (.int k a) (.int k b) = some (.bool (a != b)) := be_of fun w => by simp [eqGuard, binOp, Op.intCmp]
theorem be_eq1 {x y : Operand} {u v : Value} {r : Bool} (hg : ∀ w, (eqGuard .eql t x y u v).run P w = .ok () w) (hb : ∀ w, (binOp .eql t u v).run P w = (do Pure.pure (Value.bool (← Op.equal t u v)) : Sem Value).run P w)
    (h : ∀ w, (Op.equalIn (9999 + 1) t u v).run P w = .ok r w) : be P .eql t x y u v = some (.bool r) := be_of fun w => by
  rw [Sem.run_bind, hg, Result.andThen_ok, hb, Sem.run_bind]
  have : (Op.equal t u v).run P w = .ok r w := h w
  rw [this]; rfl
theorem be_ne1 {x y : Operand} {u v : Value} {r : Bool} (hg : ∀ w, (eqGuard .neq t x y u v).run P w = .ok () w) (hb : ∀ w, (binOp .neq t u v).run P w = (do Pure.pure (Value.bool (!(← Op.equal t u v))) : Sem Value).run P w)
    (h : ∀ w, (Op.equalIn (9999 + 1) t u v).run P w = .ok r w) : be P .neq t x y u v = some (.bool (!r)) := be_of fun w => by
  rw [Sem.run_bind, hg, Result.andThen_ok, hb, Sem.run_bind]
  have : (Op.equal t u v).run P w = .ok r w := h w
  rw [this]; rfl
theorem eqIn_bool {d : Nat} {p q : Bool} {w : World} (h : P.underlying t = some .bool) : (Op.equalIn (d + 1) t (.bool p) (.bool q)).run P w = .ok (p == q) w := run_equalIn_bool w d t p q h
theorem eqIn_ptr {d : Nat} {e : TypeId} {p : Option Addr} {w : World} (h : P.underlying t = some (.pointer e)) : (Op.equalIn (d + 1) t (.pointer p) (.pointer none)).run P w = .ok p.isNone w := by
  cases p <;> simp [Op.equalIn, run_underlying h]
theorem be_eqlb {x y : Operand} {p q : Bool} (h : P.underlying t = some .bool) : be P .eql t x y (.bool p) (.bool q) = some (.bool (p == q)) :=
  be_eq1 (fun w => by simp [eqGuard]) (fun w => by simp only [binOp]) fun w => eqIn_bool h
theorem be_neqb {x y : Operand} {p q : Bool} (h : P.underlying t = some .bool) : be P .neq t x y (.bool p) (.bool q) = some (.bool (p != q)) :=
  be_ne1 (fun w => by simp [eqGuard]) (fun w => by simp only [binOp]) fun w => eqIn_bool h
theorem be_eqlp {x y : Operand} {e : TypeId} {p : Option Addr} (h : P.underlying t = some (.pointer e)) : be P .eql t x y (.pointer p) (.pointer none) = some (.bool p.isNone) :=
  be_eq1 (fun w => by simp [eqGuard]) (fun w => by simp only [binOp]) fun w => eqIn_ptr h
theorem be_neqp {x y : Operand} {e : TypeId} {p : Option Addr} (h : P.underlying t = some (.pointer e)) : be P .neq t x y (.pointer p) (.pointer none) = some (.bool (!p.isNone)) :=
  be_ne1 (fun w => by simp [eqGuard]) (fun w => by simp only [binOp]) fun w => eqIn_ptr h
@[simp] theorem pr_not {b : Bool} : pureRun P (Op.unary .not (.bool b)) = some (.bool (!b)) := pureRun_of fun w => by simp [Op.unary]
@[simp] theorem pr_neg : pureRun P (Op.unary .neg (.int k a)) = some (.int k (k.wrap (0 - a))) := pureRun_of fun w => by simp [Op.unary, Op.intArith]
@[simp] theorem pr_max {ts : Array TypeId} : pureRun P (Builtin.max_ ts t #[.int k a, .int k b]) = some (.int k (if b > a then b else a)) := pureRun_of fun w => by simp [Builtin.max_, Builtin.max2]
@[simp] theorem pr_min {ts : Array TypeId} : pureRun P (Builtin.min_ ts t #[.int k a, .int k b]) = some (.int k (if b < a then b else a)) := pureRun_of fun w => by simp [Builtin.min_, Builtin.min2]
theorem pr_len {s e ty : TypeId} {A : Option Addr} {n c : Nat} (h : P.underlying s = some (.slice e)) : pureRun P (Builtin.len_ #[s] ty #[.slice A n c]) = some (.int .i64 n) := pureRun_of fun w => by
  simp [Builtin.len_, run_underlying h, goInt]
theorem pr_conv {s : TypeId} {j : IntKind} {d : TypeDesc} (h : P.underlying s = some d) (h' : P.underlying t = some (.int j)) : pureRun P (convert s t (.int k a)) = some (.int j (j.wrap a)) := pureRun_of fun w => by
  simp [convert, run_underlying h, run_underlying h', Conv.intToInt]
theorem pr_index {s e : TypeId} {z : Nat} {A : Addr} {n c : Nat} (h : P.underlying s = some (.slice e)) (hi : (P.info? e).map (·.size) = some z) (h0 : 0 ≤ a) (h1 : a < n) :
    pureRun P (Instr.indexAt s (.slice (some A) n c) (.int k a)) = some (.pointer (some (A.add (a.toNat * z)))) := pureRun_of fun w => by
  obtain ⟨i, hi', rfl⟩ := Option.map_eq_some_iff.1 hi
  have h2 : (typeInfo e).run P w = .ok i w := by simp [typeInfo, hi']
  simp [Instr.indexAt, asIntOf, run_underlying h, h0, h1, sizeOf, h2]
theorem wrapi {n : Int} (h1 : -9223372036854775808 ≤ n) (h2 : n ≤ 9223372036854775807) : IntKind.i64.wrap n = n := IntWalk.i64_in n ⟨h1, h2⟩
theorem wrapu {n : Int} (h1 : 0 ≤ n) (h2 : n ≤ 18446744073709551615) : IntKind.u64.wrap n = n := IntWalk.u64_in n ⟨h1, h2⟩
theorem ldv_scalar {d : TypeDesc} {A : Addr} {w : World} (h : P.underlying t = some d) (hd : isAggD d = false) : ldv P t (.pointer (some A)) w = w.cell? A := by
  simp [ldv, h, hd]
end
theorem CallR.step {P : Program} {f : FuncId} {args : List Value} {w : World} {v0 : Value} (h : CallR P f args w fun v w' => v = v0 ∧ w' = w) {K : Value → World → Prop} (hk : K v0 w) : CallR P f args w K :=
  h.mono fun v w' ⟨h1, h2⟩ => by subst h1; subst h2; exact hk
/-- a slice of whole numbers that came in -/
def InInts (k : IntKind) (w : World) (a : Option Addr) (len cap : Nat) (zs : List Int) : Prop :=
  (a = none ∧ len = 0 ∧ cap = 0 ∧ zs = []) ∨
  ∃ x, a = some x ∧ len ≤ cap ∧ cap ≤ maxLen ∧ zs.length = cap ∧ (∀ i, i < zs.length → w.cell? (x.add i) = some (.int k (zs.getD i 0))) ∧ ∀ n ∈ zs, (Lit.int k n).wf = true
end Go.Proofs.Ytgamnncehjcdiaa.Ev
