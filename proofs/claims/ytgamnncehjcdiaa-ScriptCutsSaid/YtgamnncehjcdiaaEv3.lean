/- Two operations of a region that stand in no order may change places: what a region that draws its order comes to, by one order. No program is named here. -/
import Derived.Test.YtgamnncehjcdiaaEv2
namespace Go.Proofs.Ytgamnncehjcdiaa.Ev
open Go

inductive Kd where
  | pure | read | alloc | eff
def kindOf (o : Oper) : Kd :=
  match o.op with
  | .move _ | .assign _ | .pick .. | .build .. | .nilCheck _ | .binOp .. | .unOp .. | .makeInterface .. | .makeFunc .. | .slice .. | .fieldAddr .. | .field ..
  | .indexAddr .. | .index .. | .typeAssert .. | .extract .. => .pure
  | .convert s d _ => bif cvE s d then .eff else .pure
  | .load .. => .read
  | .alloc _ | .box .. | .buildSlice .. | .makeSlice .. => .alloc
  | .call c => match c.callee with
    | .builtin .len | .builtin .cap | .builtin .min | .builtin .max => .pure
    | _ => .eff
  | _ => .eff

/-! ### what lies under the kinds -/
def isP : OpK → Bool
  | .val _ | .opt _ | .pure _ | .bad => true
  | _ => false
def isR : OpK → Bool
  | .read _ _ | .bad => true
  | _ => false
def AllocK (P : Program) : OpK → Prop
  | .eff m => ∀ w v w', m.run P w = .ok v w' → Ext w w'
  | .bad => True
  | _ => False
theorem on1_ind {p : OpK → Prop} (hb : p .bad) {o : Option Value} {f : Value → OpK} (h : ∀ v, p (f v)) : p (on1 o f) := by cases o; exact hb; exact h _
theorem on2_ind {p : OpK → Prop} (hb : p .bad) {o q : Option Value} {f : Value → Value → OpK} (h : ∀ v u, p (f v u)) : p (on2 o q f) := by
  cases o; exact hb; cases q; exact hb; exact h _ _
theorem onL_ind {α : Type} {p : OpK → Prop} (hb : p .bad) {o : Option α} {f : α → OpK} (h : ∀ v, p (f v)) : p (onL o f) := by cases o; exact hb; exact h _
theorem isP_of {ent : FuncId → Bool} {ρ : Env} {o : Oper} (h : kindOf o = .pure) : isP (opk ent ρ o) = true := by
  obtain ⟨dst, op, type, pos, after, guard⟩ := o
  cases op <;> simp only [kindOf] at h <;> simp only [opk] <;> try cases h
  case call c =>
    obtain ⟨callee, args, ts⟩ := c
    cases callee with
    | builtin b => cases b <;> simp at h <;> exact onL_ind (p := fun k => isP k = true) rfl fun vs => rfl
    | value f => simp at h
    | invoke r m => simp at h
  case convert s d x =>
    cases hc : cvE s d with
    | true => rw [hc] at h; cases h
    | false => exact on1_ind (p := fun k => isP k = true) rfl fun v => rfl
  all_goals
    first
    | exact on1_ind (p := fun k => isP k = true) rfl fun v => rfl
    | exact on2_ind (p := fun k => isP k = true) rfl fun v u => rfl
    | exact onL_ind (p := fun k => isP k = true) rfl fun v => rfl
    | exact onL_ind (p := fun k => isP k = true) rfl fun v => onL_ind (p := fun k => isP k = true) rfl fun v => rfl
    | exact on1_ind (p := fun k => isP k = true) rfl fun v => onL_ind (p := fun k => isP k = true) rfl fun v => onL_ind (p := fun k => isP k = true) rfl fun v => onL_ind (p := fun k => isP k = true) rfl fun v => rfl
theorem isR_of {ent : FuncId → Bool} {ρ : Env} {o : Oper} (h : kindOf o = .read) : isR (opk ent ρ o) = true := by
  obtain ⟨dst, op, type, pos, after, guard⟩ := o
  cases op <;> simp only [kindOf] at h <;> simp only [opk] <;> try cases h
  case call c =>
    obtain ⟨callee, args, ts⟩ := c
    cases callee with
    | builtin b => cases b <;> simp at h
    | value f => simp at h
    | invoke r m => simp at h
  case convert s d x => cases hc : cvE s d <;> rw [hc] at h <;> cases h
  all_goals exact on1_ind (p := fun k => isR k = true) rfl fun v => rfl
theorem ext_push (w : World) (o : Obj) : Ext w { w with heap := w.heap.push o } := by
  intro a v h
  unfold World.cell? at h ⊢
  have hlt : a.block < w.heap.size := by
    rcases Nat.lt_or_ge a.block w.heap.size with h1 | h1
    · exact h1
    · simp [Array.getElem?_eq_none h1] at h
  simp only [Array.getElem?_push, if_neg (Nat.ne_of_lt hlt)]
  exact h
theorem allocM {P : Program} {m : Sem Value} (h : ∀ w v w', m.run P w = .ok v w' → ∃ o, w' = { w with heap := w.heap.push o }) : AllocK P (.eff m) :=
  fun w v w' hr => by obtain ⟨o, rfl⟩ := h w v w' hr; exact ext_push w o
theorem run_typeInfo_some {P : Program} {t : TypeId} {w : World} {x : TypeInfo} {w' : World} (h : (typeInfo t).run P w = .ok x w') : w' = w := by
  simp only [typeInfo, Sem.run_bind, run_program, Result.andThen_ok] at h
  split at h
  · simp at h; exact h.2.symm
  · simp at h
theorem run_newVar' {P : Program} {t : TypeId} {v : Value} (w : World) : (newVar t v).run P w = .ok ⟨w.heap.size, 0, none⟩ { w with heap := w.heap.push (.cells v.cells t) } := rfl
theorem alloc_box {P : Program} {t : TypeId} {v : Value} : AllocK P (.eff (Instr.box t v)) := allocM fun w u w' h => by
  simp only [Instr.box, Sem.run_bind, run_newVar', Result.andThen_ok, Sem.run_pure] at h
  injection h with h1 h2
  exact ⟨_, h2.symm⟩
theorem zero_same {P : Program} {t : TypeId} {w w' : World} {z : Value} (h : (zeroValue t).run P w = .ok z w') : w' = w := by
  simp only [zeroValue, Sem.run_bind] at h
  cases hr : (typeInfo t).run P w with
  | halt x w1 => rw [hr] at h; simp at h
  | ok x w1 =>
    rw [hr] at h
    have := run_typeInfo_some hr
    subst this
    simp only [Result.andThen_ok] at h
    split at h
    · simp at h; exact h.2.symm
    · simp at h
theorem alloc_alloc {P : Program} {t : TypeId} : AllocK P (.eff (Instr.alloc t true (.tuple #[]))) := allocM fun w u w' h => by
  simp only [Instr.alloc, Sem.run_bind] at h
  cases hr : (zeroValue t).run P w with
  | halt x w1 => rw [hr] at h; simp at h
  | ok x w1 =>
    rw [hr] at h
    have := zero_same hr
    subst this
    simp only [Result.andThen_ok, run_newVar', Sem.run_pure] at h
    injection h with h1 h2
    exact ⟨_, h2.symm⟩
/-- an operation that, where it answers, leaves the world alone -/
def Keeps {α : Type} (P : Program) (m : Sem α) : Prop := ∀ w v w', m.run P w = .ok v w' → w' = w
theorem Keeps.bind {α β : Type} {P : Program} {m : Sem α} {f : α → Sem β} (h : Keeps P m) (hf : ∀ a, Keeps P (f a)) : Keeps P (m >>= f) := by
  intro w v w' hr
  simp only [Sem.run_bind] at hr
  cases h1 : m.run P w with
  | halt x w1 => rw [h1] at hr; simp at hr
  | ok x w1 =>
    rw [h1] at hr
    have := h _ _ _ h1
    subst this
    exact hf _ _ _ _ hr
theorem Keeps.pure {α : Type} {P : Program} {a : α} : Keeps P (Pure.pure a : Sem α) := fun w v w' h => by simp at h; exact h.2.symm
theorem Keeps.halt {α : Type} {P : Program} {x : Halt} : Keeps P (.halt x : Sem α) := fun w v w' h => by simp at h
theorem Keeps.stuck {α : Type} {P : Program} {x : String} : Keeps P (stuck x : Sem α) := fun w v w' h => by simp at h
theorem Keeps.unsupported {α : Type} {P : Program} {x : Unsupported} : Keeps P (unsupported x : Sem α) := fun w v w' h => by simp at h
theorem Keeps.program {P : Program} : Keeps P program := fun w v w' h => by simp at h; exact h.2.symm
theorem Keeps.typeInfo {P : Program} {t : TypeId} : Keeps P (typeInfo t) := fun _ _ _ h => run_typeInfo_some h
theorem Keeps.underlying {P : Program} {t : TypeId} : Keeps P (underlying t) := by
  unfold Go.underlying
  refine Keeps.program.bind fun p => ?_
  cases p.underlying t with
  | none => exact .stuck
  | some d => exact .pure
theorem Keeps.sizeOf {P : Program} {t : TypeId} : Keeps P (sizeOf t) := Keeps.typeInfo.bind fun _ => .pure
theorem Keeps.zero {P : Program} {t : TypeId} : Keeps P (zeroValue t) := fun _ _ _ h => zero_same h
theorem alloc_bind {α : Type} {P : Program} {m : Sem α} {f : α → Sem Value} (h : Keeps P m) (hf : ∀ a, AllocK P (.eff (f a))) : AllocK P (.eff (m >>= f)) := by
  intro w v w' hr
  simp only [Sem.run_bind] at hr
  cases h1 : m.run P w with
  | halt x w1 => rw [h1] at hr; simp at hr
  | ok x w1 =>
    rw [h1] at hr
    have := h _ _ _ h1
    subst this
    exact hf _ _ _ _ hr
theorem alloc_halt {P : Program} {x : Halt} : AllocK P (.eff (.halt x)) := fun w v w' h => by simp at h
theorem alloc_row {P : Program} {e : TypeId} {cs : Array Value} {f : Addr → Value} : AllocK P (.eff (do let a ← newRow e cs; Pure.pure (f a))) := allocM fun w u w' h => by
  simp only [newRow, Sem.run_bind, run_newObj, Result.andThen_ok, Sem.run_pure] at h
  injection h with h1 h2
  exact ⟨_, h2.symm⟩
theorem alloc_buildSlice {P : Program} {t : TypeId} {k : Nat} {ps : Array (Nat × Value)} : AllocK P (.eff (Instr.buildSlice t k ps)) := by
  unfold Instr.buildSlice
  refine alloc_bind .underlying fun d => ?_
  split
  case h_2 => exact alloc_halt
  refine alloc_bind .sizeOf fun s => ?_
  dsimp only
  split
  · intro w v w' h; simp at h
  · split
    · refine alloc_bind .pure fun z => ?_
      split
      · exact alloc_row
      · exact alloc_halt
    · refine alloc_bind .zero fun z => alloc_bind .pure fun z => ?_
      split
      · exact alloc_row
      · exact alloc_halt
theorem Keeps.asInt {P : Program} {v : Value} : Keeps P (asInt v) := by
  unfold Go.asInt asIntOf
  refine Keeps.bind ?_ fun _ => .pure
  split
  · exact .pure
  · exact .unsupported
  · exact .stuck
theorem never_panic {α : Type} {P : Program} {e : RuntimeError} {w w' : World} {v : α} (h : (runtimePanic e : Sem α).run P w = .ok v w') : False := by
  cases e <;> simp only [runtimePanic, Sem.run_bind, run_program, Result.andThen_ok] at h
  case typeAssertion i c a m =>
    revert h
    generalize (elemOf P.rt.typeAssertionError).run P w = r
    cases r <;> simp [newVar, newRow]
  case panicNil =>
    revert h
    generalize (elemOf P.rt.panicNilError).run P w = r
    cases r <;> simp [newVar, newRow]
  all_goals simp at h
theorem Keeps.askRoom {P : Program} {k : Nat} : Keeps P (askRoom k) := fun w v w' h => by simp at h; exact h.symm
theorem alloc_makeSlice {P : Program} {t : TypeId} {l c : Value} : AllocK P (.eff (Instr.makeSlice t l c)) := by
  unfold Instr.makeSlice
  refine alloc_bind .underlying fun d => ?_
  split
  case h_2 => exact alloc_halt
  refine alloc_bind .asInt fun l => alloc_bind .asInt fun c => alloc_bind .typeInfo fun i => ?_
  dsimp only
  split
  · intro w v w' h
    exfalso
    split at h
    · simp only [Sem.run_bind] at h
      cases hr : (runtimePanic (.error "makeslice: cap out of range") : Sem PUnit).run P w with
      | ok v w1 => exact never_panic hr
      | halt x w1 => rw [hr] at h; simp at h
    · split at h
      · simp only [Sem.run_bind] at h
        cases hr : (runtimePanic (.error "makeslice: len out of range") : Sem PUnit).run P w with
        | ok v w1 => exact never_panic hr
        | halt x w1 => rw [hr] at h; simp at h
      · simp only [Sem.run_bind] at h
        revert h
        generalize (choose (.extern "makeslice.lenOrCap" 2)).run P w = r
        intro h
        cases r with
        | halt x w1 => simp at h
        | ok k w1 =>
          simp only [Result.andThen_ok] at h
          cases hr : (runtimePanic (.error (if (k == 1) = true then "makeslice: cap out of range" else "makeslice: len out of range")) : Sem PUnit).run P w1 with
          | ok v w1 => exact never_panic hr
          | halt x w1 => rw [hr] at h; simp at h
  · refine alloc_bind .askRoom fun _ => alloc_bind .sizeOf fun s => ?_
    split
    · exact alloc_bind .pure fun z => alloc_row
    · exact alloc_bind .zero fun z => alloc_bind .pure fun z => alloc_row
theorem allocK_of {P : Program} {ent : FuncId → Bool} {ρ : Env} {o : Oper} (h : kindOf o = .alloc) : AllocK P (opk ent ρ o) := by
  obtain ⟨dst, op, type, pos, after, guard⟩ := o
  cases op <;> simp only [kindOf] at h <;> simp only [opk] <;> try cases h
  case alloc t => exact alloc_alloc
  case box t x => exact on1_ind (p := AllocK P) trivial fun v => alloc_box
  case buildSlice t k ps => exact onL_ind (p := AllocK P) trivial fun v => alloc_buildSlice
  case makeSlice t l c => exact on2_ind (p := AllocK P) trivial fun v u => alloc_makeSlice
  case convert s d x => cases hc : cvE s d <;> rw [hc] at h <;> cases h
  case call c =>
    obtain ⟨callee, args, ts⟩ := c
    cases callee with
    | builtin b => cases b <;> simp at h
    | value f => simp at h
    | invoke r m => simp at h
end Go.Proofs.Ytgamnncehjcdiaa.Ev
