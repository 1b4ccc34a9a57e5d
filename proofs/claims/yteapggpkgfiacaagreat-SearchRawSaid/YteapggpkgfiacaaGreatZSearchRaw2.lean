/- Parts of the proof of SearchRaw, one behind the other. Conditions: none. -/
import Derived.Tactics
import Derived.Test.YteapggpkgfiacaaGreatZSearchRaw1
set_option linter.unusedVariables false
namespace Go.Proofs.YteapggpkgfiacaaGreat.Ev
open Go

def gOf (ops : Array Oper) (ρ : Env) (o : Oper) : Option (Option (Value × Bool)) :=
  match o.guard with
  | none => some none
  | some (g, want) => match (ops[g]?).bind (·.dst) with
    | none => none
    | some s => match ρ s with
      | none => none
      | some c => some (some (c, want))
def evP (P : Program) (k : OpK) (w : World) (K : Value → World → Prop) : Prop :=
  match k with
  | .val v => K v w
  | .opt v => wpB v fun v => K v w
  | .pure m => wpB (pureRun P m) fun v => K v w
  | .read t x => wpB (ldv P t x w) fun v => K v w
  | .eff m => effv P m w K
  | .effU m => effu P m w fun w' => K undef w'
  | .call g args => CallR P g args w K
  | .bad => False
def evG (P : Program) (k : OpK) (c : Value) (want : Bool) (w : World) (K : Value → World → Prop) : Prop :=
  match k with
  | .val v => K (gv c want v) w
  | .opt v => wpB (gd c want v) fun v => K v w
  | .pure m => wpB (gd c want (pureRun P m)) fun v => K v w
  | .read t x => wpB (gd c want (ldv P t x w)) fun v => K v w
  | .eff m => gE c want (effv P m w) K w
  | .effU m => gU c want (effu P m w) (fun w' => K undef w') w
  | .call g args => gE c want (CallR P g args w) K w
  | .bad => gE c want (fun _ => False) K w
def evX (P : Program) (g : Option (Option (Value × Bool))) (k : OpK) (w : World) (K : Value → World → Prop) : Prop :=
  match g with
  | none => False
  | some none => evP P k w K
  | some (some (c, want)) => evG P k c want w K
def evOp (P : Program) (ent : FuncId → Bool) (n : Nat) (ops : Array Oper) (o : Oper) (ρ : Env) (w : World) (K : Env → World → Prop) : Prop :=
  evX P (gOf ops ρ o) (opk ent ρ o) w fun v w' => K (updO n o.dst v ρ) w'
def evOps (P : Program) (ent : FuncId → Bool) (n : Nat) (ops : Array Oper) : List Oper → Env → World → (Env → World → Prop) → Prop
  | [], ρ, w, K => K ρ w
  | o :: rest, ρ, w, K => evOp P ent n ops o ρ w fun ρ' w' => evOps P ent n ops rest ρ' w' K

section
variable {P : Program} {ent : FuncId → Bool} {n : Nat} {ops : Array Oper} {ρ : Env} {a : Act} {w : World} {o : Oper}

theorem gOf_none (h : gOf ops ρ o = some none) : Region.wanted o (yielded ops a.tmps) = true := by
  unfold gOf at h
  cases hg : o.guard with
  | none => simp [Region.wanted, hg]
  | some gw =>
    obtain ⟨g, want⟩ := gw
    rw [hg] at h
    simp only at h
    cases hs : (ops[g]?).bind (·.dst) with
    | none => rw [hs] at h; cases h
    | some s =>
      rw [hs] at h
      simp only at h
      cases hc : ρ s with
      | none => rw [hc] at h; cases h
      | some c => rw [hc] at h; cases h
theorem gOf_some {c : Value} {want : Bool} (ha : Agree n ρ a) (h : gOf ops ρ o = some (some (c, want))) : Region.wanted o (yielded ops a.tmps) = yes c want := by
  unfold gOf at h
  cases hg : o.guard with
  | none => rw [hg] at h; cases h
  | some gw =>
    obtain ⟨g, want'⟩ := gw
    rw [hg] at h
    simp only at h
    cases hs : (ops[g]?).bind (·.dst) with
    | none => rw [hs] at h; cases h
    | some s =>
      rw [hs] at h
      simp only at h
      cases hc : ρ s with
      | none => rw [hc] at h; cases h
      | some c' =>
        rw [hc] at h
        cases h
        have h1 := ha.2.2 s c hc
        simp only [Region.wanted, hg, yielded, hs, Option.bind_some, h1, yes]
        cases c <;> simp

theorem evP_sound (he : EntOk P ent) (ha : Agree n ρ a) {K : Value → World → Prop} {next : Act → World → Prop} {Q : Exit → Act → World → Prop}
    (hk : ∀ v w', K v w' → next (a.put o.dst v) w') (h : evP P (opk ent ρ o) w K) : o.wp P a w next Q := by
  have hi := opk_is (P := P) he ha o
  unfold Oper.wp
  unfold evP at h
  cases hk' : opk ent ρ o with
  | val v =>
    rw [hk'] at h hi
    rw [hi, Sem.run_pure]
    exact hk _ _ h
  | opt v =>
    rw [hk'] at h hi
    obtain ⟨u, hu, hK⟩ := wpB_iff.1 h
    rw [hi u hu w]
    exact hk _ _ hK
  | pure m =>
    rw [hk'] at h hi
    obtain ⟨u, hu, hK⟩ := wpB_iff.1 h
    rw [hi]
    simp only [Sem.run_bind, pureRun_spec hu w, Result.andThen_ok, Sem.run_pure]
    exact hk _ _ hK
  | read t x =>
    rw [hk'] at h hi
    obtain ⟨u, hu, hK⟩ := wpB_iff.1 h
    rw [hi]
    simp only [Sem.run_bind, ldv_spec hu, Result.andThen_ok, Sem.run_pure]
    exact hk _ _ hK
  | eff m =>
    rw [hk'] at h hi
    rw [hi]
    simp only [effv] at h
    simp only [Sem.run_bind]
    cases hr : m.run P w with
    | halt x w' => rw [hr] at h; exact h.elim
    | ok v w' => rw [hr] at h; simp only [Result.andThen_ok, Sem.run_pure]; exact hk _ _ h
  | effU m =>
    rw [hk'] at h hi
    rw [hi]
    simp only [effu] at h
    simp only [Sem.run_bind]
    cases hr : m.run P w with
    | halt x w' => rw [hr] at h; exact h.elim
    | ok v w' => rw [hr] at h; simp only [Result.andThen_ok, Sem.run_pure]; exact hk _ _ h
  | call g args =>
    rw [hk'] at h hi
    rw [hi w, Oper.upon_enter]
    exact Calls.mono h fun e w' ⟨v, he, hv⟩ => by subst he; exact hk _ _ hv
  | bad => rw [hk'] at h; exact h.elim
theorem evG_yes {k : OpK} {c : Value} {want : Bool} {K : Value → World → Prop} (hy : yes c want = true) : evG P k c want w K = evP P k w K := by
  cases k <;> simp only [evP, evG, gv, gd, gE, gU, hy, cond_true]
theorem evG_no {k : OpK} {c : Value} {want : Bool} {K : Value → World → Prop} (hy : yes c want = false) (h : evG P k c want w K) : K undef w := by
  cases k <;> simp only [evG, gv, gd, gE, gU, hy, cond_false] at h <;> exact h
theorem evOp_sound (he : EntOk P ent) (ha : Agree n ρ a) {K : Env → World → Prop} {next : Act → World → Prop} {Q : Exit → Act → World → Prop}
    (hk : ∀ ρ' a' w', Agree n ρ' a' → K ρ' w' → next a' w') (h : evOp P ent n ops o ρ w K) :
    if Region.wanted o (yielded ops a.tmps) then o.wp P a w next Q ∨ (o.asks P a w ∧ LetsOut Q) else next (a.put o.dst undef) w := by
  unfold evOp evX at h
  have hk1 : ∀ v w', K (updO n o.dst v ρ) w' → next (a.put o.dst v) w' := fun v w' h => hk _ _ _ (ha.put o.dst v) h
  cases hg : gOf ops ρ o with
  | none => rw [hg] at h; exact h.elim
  | some gg =>
    rw [hg] at h
    cases gg with
    | none =>
      rw [if_pos (gOf_none hg)]
      exact .inl (evP_sound he ha hk1 h)
    | some cw =>
      obtain ⟨c, want⟩ := cw
      simp only at h
      rw [gOf_some ha hg]
      cases hy : yes c want with
      | true => rw [if_pos rfl]; rw [evG_yes hy] at h; exact .inl (evP_sound he ha hk1 h)
      | false => rw [if_neg (by simp)]; exact hk1 _ _ (evG_no hy h)
theorem evP_mono {k : OpK} {K K' : Value → World → Prop} (hk : ∀ v w', K v w' → K' v w') (h : evP P k w K) : evP P k w K' := by
  cases k <;> simp only [evP] at h ⊢
  case val v => exact hk _ _ h
  case opt v => obtain ⟨u, hu, h⟩ := wpB_iff.1 h; exact wpB_iff.2 ⟨u, hu, hk _ _ h⟩
  case pure m => obtain ⟨u, hu, h⟩ := wpB_iff.1 h; exact wpB_iff.2 ⟨u, hu, hk _ _ h⟩
  case read t x => obtain ⟨u, hu, h⟩ := wpB_iff.1 h; exact wpB_iff.2 ⟨u, hu, hk _ _ h⟩
  case eff m => unfold effv at *; cases hr : m.run P w <;> rw [hr] at h <;> simp only at h ⊢; exact hk _ _ h
  case effU m => unfold effu at *; cases hr : m.run P w <;> rw [hr] at h <;> simp only at h ⊢; exact hk _ _ h
  case call g args => exact CallR.mono h hk
theorem evG_not {k : OpK} {c : Value} {want : Bool} {K : Value → World → Prop} (hy : yes c want = false) : evG P k c want w K ↔ True ∧ K undef w := by
  cases k <;> simp [evG, gv, gd, gE, gU, hy, wpB]
theorem evX_bad {g : Option (Option (Value × Bool))} {w : World} {K : Value → World → Prop} : evX P g .bad w K ↔ ∃ c want, g = some (some (c, want)) ∧ yes c want = false ∧ K undef w := by
  unfold evX
  match g with
  | none => simp
  | some none => simp [evP]
  | some (some (c, want)) =>
    constructor
    · intro h
      cases hy : yes c want with
      | true => simp [evG, gE, hy] at h
      | false => simp only [evG, gE, hy, cond_false] at h; exact ⟨c, want, rfl, hy, h⟩
    · rintro ⟨c', want', e, hy, h⟩
      cases e
      simp only [evG, gE, hy, cond_false]; exact h
theorem evX_mono {g : Option (Option (Value × Bool))} {k : OpK} {K K' : Value → World → Prop} (hk : ∀ v w', K v w' → K' v w') (h : evX P g k w K) : evX P g k w K' := by
  unfold evX at h ⊢
  split at h
  · exact h
  · exact evP_mono hk h
  · rename_i c want
    cases hy : yes c want with
    | true => rw [evG_yes hy] at h ⊢; exact evP_mono hk h
    | false => rw [evG_not hy] at h ⊢; exact ⟨h.1, hk _ _ h.2⟩
theorem evOps_sound (he : EntOk P ent) {Q : Exit → Act → World → Prop} {K : Env → World → Prop} (hk : ∀ ρ' a' w', Agree n ρ' a' → K ρ' w' → Q .normal a' w') :
    ∀ (l : List Oper) {ρ : Env} {a : Act} {w : World}, Agree n ρ a → evOps P ent n ops l ρ w K → wpList P ops Q l a w
  | [], _, _, _, ha, h => hk _ _ _ ha h
  | o :: rest, ρ, a, w, ha, h => by
    unfold wpList
    exact evOp_sound he ha (fun ρ' a' w' ha' h' => evOps_sound he hk rest ha' h') h
end
end Go.Proofs.YteapggpkgfiacaaGreat.Ev

namespace Go.Proofs.YteapggpkgfiacaaGreat.Ev
open Go

inductive Kd where
  | pure | read | alloc | eff
def kindOf (o : Oper) : Kd :=
  match o.op with
  | .move _ | .assign _ | .pick .. | .build .. | .nilCheck _ | .binOp .. | .unOp .. | .makeInterface .. | .makeFunc .. | .slice .. | .fieldAddr .. | .field ..
  | .indexAddr .. | .index .. | .typeAssert .. | .extract .. => .pure
  | .convert s d _ => bif cvE s d then .eff else .pure
  | .load .. => .read
  | .alloc _ | .box .. | .buildSlice .. | .makeSlice .. => .alloc
  | .call c => match c.callee with
    | .builtin .len | .builtin .cap | .builtin .min | .builtin .max => .pure
    | _ => .eff
  | _ => .eff

def isP : OpK → Bool
  | .val _ | .opt _ | .pure _ | .bad => true
  | _ => false
def isR : OpK → Bool
  | .read _ _ | .bad => true
  | _ => false
def AllocK (P : Program) : OpK → Prop
  | .eff m => ∀ w v w', m.run P w = .ok v w' → Ext w w'
  | .bad => True
  | _ => False
theorem on1_ind {p : OpK → Prop} (hb : p .bad) {o : Option Value} {f : Value → OpK} (h : ∀ v, p (f v)) : p (on1 o f) := by cases o; exact hb; exact h _
theorem on2_ind {p : OpK → Prop} (hb : p .bad) {o q : Option Value} {f : Value → Value → OpK} (h : ∀ v u, p (f v u)) : p (on2 o q f) := by
  cases o; exact hb; cases q; exact hb; exact h _ _
theorem onL_ind {α : Type} {p : OpK → Prop} (hb : p .bad) {o : Option α} {f : α → OpK} (h : ∀ v, p (f v)) : p (onL o f) := by cases o; exact hb; exact h _
theorem isP_of {ent : FuncId → Bool} {ρ : Env} {o : Oper} (h : kindOf o = .pure) : isP (opk ent ρ o) = true := by
  obtain ⟨dst, op, type, pos, after, guard⟩ := o
  cases op <;> simp only [kindOf] at h <;> simp only [opk] <;> try cases h
  case call c =>
    obtain ⟨callee, args, ts⟩ := c
    cases callee with
    | builtin b => cases b <;> simp at h <;> exact onL_ind (p := fun k => isP k = true) rfl fun vs => rfl
    | value f => simp at h
    | invoke r m => simp at h
  case convert s d x =>
    cases hc : cvE s d with
    | true => rw [hc] at h; cases h
    | false => exact on1_ind (p := fun k => isP k = true) rfl fun v => rfl
  all_goals
    first
    | exact on1_ind (p := fun k => isP k = true) rfl fun v => rfl
    | exact on2_ind (p := fun k => isP k = true) rfl fun v u => rfl
    | exact onL_ind (p := fun k => isP k = true) rfl fun v => rfl
    | exact onL_ind (p := fun k => isP k = true) rfl fun v => onL_ind (p := fun k => isP k = true) rfl fun v => rfl
    | exact on1_ind (p := fun k => isP k = true) rfl fun v => onL_ind (p := fun k => isP k = true) rfl fun v => onL_ind (p := fun k => isP k = true) rfl fun v => onL_ind (p := fun k => isP k = true) rfl fun v => rfl
theorem isR_of {ent : FuncId → Bool} {ρ : Env} {o : Oper} (h : kindOf o = .read) : isR (opk ent ρ o) = true := by
  obtain ⟨dst, op, type, pos, after, guard⟩ := o
  cases op <;> simp only [kindOf] at h <;> simp only [opk] <;> try cases h
  case call c =>
    obtain ⟨callee, args, ts⟩ := c
    cases callee with
    | builtin b => cases b <;> simp at h
    | value f => simp at h
    | invoke r m => simp at h
  case convert s d x => cases hc : cvE s d <;> rw [hc] at h <;> cases h
  all_goals exact on1_ind (p := fun k => isR k = true) rfl fun v => rfl
theorem ext_push (w : World) (o : Obj) : Ext w { w with heap := w.heap.push o } := by
  intro a v h
  unfold World.cell? at h ⊢
  have hlt : a.block < w.heap.size := by
    rcases Nat.lt_or_ge a.block w.heap.size with h1 | h1
    · exact h1
    · simp [Array.getElem?_eq_none h1] at h
  simp only [Array.getElem?_push, if_neg (Nat.ne_of_lt hlt)]
  exact h
theorem allocM {P : Program} {m : Sem Value} (h : ∀ w v w', m.run P w = .ok v w' → ∃ o, w' = { w with heap := w.heap.push o }) : AllocK P (.eff m) :=
  fun w v w' hr => by obtain ⟨o, rfl⟩ := h w v w' hr; exact ext_push w o
theorem run_typeInfo_some {P : Program} {t : TypeId} {w : World} {x : TypeInfo} {w' : World} (h : (typeInfo t).run P w = .ok x w') : w' = w := by
  simp only [typeInfo, Sem.run_bind, run_program, Result.andThen_ok] at h
  split at h
  · simp at h; exact h.2.symm
  · simp at h
theorem run_newVar' {P : Program} {t : TypeId} {v : Value} (w : World) : (newVar t v).run P w = .ok ⟨w.heap.size, 0, none⟩ { w with heap := w.heap.push (.cells v.cells t) } := rfl
theorem alloc_box {P : Program} {t : TypeId} {v : Value} : AllocK P (.eff (Instr.box t v)) := allocM fun w u w' h => by
  simp only [Instr.box, Sem.run_bind, run_newVar', Result.andThen_ok, Sem.run_pure] at h
  injection h with h1 h2
  exact ⟨_, h2.symm⟩
theorem zero_same {P : Program} {t : TypeId} {w w' : World} {z : Value} (h : (zeroValue t).run P w = .ok z w') : w' = w := by
  simp only [zeroValue, Sem.run_bind] at h
  cases hr : (typeInfo t).run P w with
  | halt x w1 => rw [hr] at h; simp at h
  | ok x w1 =>
    rw [hr] at h
    have := run_typeInfo_some hr
    subst this
    simp only [Result.andThen_ok] at h
    split at h
    · simp at h; exact h.2.symm
    · simp at h
theorem alloc_alloc {P : Program} {t : TypeId} : AllocK P (.eff (Instr.alloc t true (.tuple #[]))) := allocM fun w u w' h => by
  simp only [Instr.alloc, Sem.run_bind] at h
  cases hr : (zeroValue t).run P w with
  | halt x w1 => rw [hr] at h; simp at h
  | ok x w1 =>
    rw [hr] at h
    have := zero_same hr
    subst this
    simp only [Result.andThen_ok, run_newVar', Sem.run_pure] at h
    injection h with h1 h2
    exact ⟨_, h2.symm⟩
def Keeps {α : Type} (P : Program) (m : Sem α) : Prop := ∀ w v w', m.run P w = .ok v w' → w' = w
theorem Keeps.bind {α β : Type} {P : Program} {m : Sem α} {f : α → Sem β} (h : Keeps P m) (hf : ∀ a, Keeps P (f a)) : Keeps P (m >>= f) := by
  intro w v w' hr
  simp only [Sem.run_bind] at hr
  cases h1 : m.run P w with
  | halt x w1 => rw [h1] at hr; simp at hr
  | ok x w1 =>
    rw [h1] at hr
    have := h _ _ _ h1
    subst this
    exact hf _ _ _ _ hr
theorem Keeps.pure {α : Type} {P : Program} {a : α} : Keeps P (Pure.pure a : Sem α) := fun w v w' h => by simp at h; exact h.2.symm
theorem Keeps.halt {α : Type} {P : Program} {x : Halt} : Keeps P (.halt x : Sem α) := fun w v w' h => by simp at h
theorem Keeps.stuck {α : Type} {P : Program} {x : String} : Keeps P (stuck x : Sem α) := fun w v w' h => by simp at h
theorem Keeps.unsupported {α : Type} {P : Program} {x : Unsupported} : Keeps P (unsupported x : Sem α) := fun w v w' h => by simp at h
theorem Keeps.program {P : Program} : Keeps P program := fun w v w' h => by simp at h; exact h.2.symm
theorem Keeps.typeInfo {P : Program} {t : TypeId} : Keeps P (typeInfo t) := fun _ _ _ h => run_typeInfo_some h
theorem Keeps.underlying {P : Program} {t : TypeId} : Keeps P (underlying t) := by
  unfold Go.underlying
  refine Keeps.program.bind fun p => ?_
  cases p.underlying t with
  | none => exact .stuck
  | some d => exact .pure
theorem Keeps.sizeOf {P : Program} {t : TypeId} : Keeps P (sizeOf t) := Keeps.typeInfo.bind fun _ => .pure
theorem Keeps.zero {P : Program} {t : TypeId} : Keeps P (zeroValue t) := fun _ _ _ h => zero_same h
theorem alloc_bind {α : Type} {P : Program} {m : Sem α} {f : α → Sem Value} (h : Keeps P m) (hf : ∀ a, AllocK P (.eff (f a))) : AllocK P (.eff (m >>= f)) := by
  intro w v w' hr
  simp only [Sem.run_bind] at hr
  cases h1 : m.run P w with
  | halt x w1 => rw [h1] at hr; simp at hr
  | ok x w1 =>
    rw [h1] at hr
    have := h _ _ _ h1
    subst this
    exact hf _ _ _ _ hr
theorem alloc_halt {P : Program} {x : Halt} : AllocK P (.eff (.halt x)) := fun w v w' h => by simp at h
theorem alloc_row {P : Program} {e : TypeId} {cs : Array Value} {f : Addr → Value} : AllocK P (.eff (do let a ← newRow e cs; Pure.pure (f a))) := allocM fun w u w' h => by
  simp only [newRow, Sem.run_bind, run_newObj, Result.andThen_ok, Sem.run_pure] at h
  injection h with h1 h2
  exact ⟨_, h2.symm⟩
theorem alloc_buildSlice {P : Program} {t : TypeId} {k : Nat} {ps : Array (Nat × Value)} : AllocK P (.eff (Instr.buildSlice t k ps)) := by
  unfold Instr.buildSlice
  refine alloc_bind .underlying fun d => ?_
  split
  case h_2 => exact alloc_halt
  refine alloc_bind .sizeOf fun s => ?_
  dsimp only
  split
  · intro w v w' h; simp at h
  · split
    · refine alloc_bind .pure fun z => ?_
      split
      · exact alloc_row
      · exact alloc_halt
    · refine alloc_bind .zero fun z => alloc_bind .pure fun z => ?_
      split
      · exact alloc_row
      · exact alloc_halt
theorem Keeps.asInt {P : Program} {v : Value} : Keeps P (asInt v) := by
  unfold Go.asInt asIntOf
  refine Keeps.bind ?_ fun _ => .pure
  split
  · exact .pure
  · exact .unsupported
  · exact .stuck
theorem never_panic {α : Type} {P : Program} {e : RuntimeError} {w w' : World} {v : α} (h : (runtimePanic e : Sem α).run P w = .ok v w') : False := by
  cases e <;> simp only [runtimePanic, Sem.run_bind, run_program, Result.andThen_ok] at h
  case typeAssertion i c a m =>
    revert h
    generalize (elemOf P.rt.typeAssertionError).run P w = r
    cases r <;> simp [newVar, newRow]
  case panicNil =>
    revert h
    generalize (elemOf P.rt.panicNilError).run P w = r
    cases r <;> simp [newVar, newRow]
  all_goals simp at h
theorem Keeps.askRoom {P : Program} {k : Nat} : Keeps P (askRoom k) := fun w v w' h => by simp at h; exact h.symm
theorem alloc_makeSlice {P : Program} {t : TypeId} {l c : Value} : AllocK P (.eff (Instr.makeSlice t l c)) := by
  unfold Instr.makeSlice
  refine alloc_bind .underlying fun d => ?_
  split
  case h_2 => exact alloc_halt
  refine alloc_bind .asInt fun l => alloc_bind .asInt fun c => alloc_bind .typeInfo fun i => ?_
  dsimp only
  split
  · intro w v w' h
    exfalso
    split at h
    · simp only [Sem.run_bind] at h
      cases hr : (runtimePanic (.error "makeslice: cap out of range") : Sem PUnit).run P w with
      | ok v w1 => exact never_panic hr
      | halt x w1 => rw [hr] at h; simp at h
    · split at h
      · simp only [Sem.run_bind] at h
        cases hr : (runtimePanic (.error "makeslice: len out of range") : Sem PUnit).run P w with
        | ok v w1 => exact never_panic hr
        | halt x w1 => rw [hr] at h; simp at h
      · simp only [Sem.run_bind] at h
        revert h
        generalize (choose (.extern "makeslice.lenOrCap" 2)).run P w = r
        intro h
        cases r with
        | halt x w1 => simp at h
        | ok k w1 =>
          simp only [Result.andThen_ok] at h
          cases hr : (runtimePanic (.error (if (k == 1) = true then "makeslice: cap out of range" else "makeslice: len out of range")) : Sem PUnit).run P w1 with
          | ok v w1 => exact never_panic hr
          | halt x w1 => rw [hr] at h; simp at h
  · refine alloc_bind .askRoom fun _ => alloc_bind .sizeOf fun s => ?_
    split
    · exact alloc_bind .pure fun z => alloc_row
    · exact alloc_bind .zero fun z => alloc_bind .pure fun z => alloc_row
theorem allocK_of {P : Program} {ent : FuncId → Bool} {ρ : Env} {o : Oper} (h : kindOf o = .alloc) : AllocK P (opk ent ρ o) := by
  obtain ⟨dst, op, type, pos, after, guard⟩ := o
  cases op <;> simp only [kindOf] at h <;> simp only [opk] <;> try cases h
  case alloc t => exact alloc_alloc
  case box t x => exact on1_ind (p := AllocK P) trivial fun v => alloc_box
  case buildSlice t k ps => exact onL_ind (p := AllocK P) trivial fun v => alloc_buildSlice
  case makeSlice t l c => exact on2_ind (p := AllocK P) trivial fun v u => alloc_makeSlice
  case convert s d x => cases hc : cvE s d <;> rw [hc] at h <;> cases h
  case call c =>
    obtain ⟨callee, args, ts⟩ := c
    cases callee with
    | builtin b => cases b <;> simp at h
    | value f => simp at h
    | invoke r m => simp at h
end Go.Proofs.YteapggpkgfiacaaGreat.Ev

namespace Go.Proofs.YteapggpkgfiacaaGreat.Ev
open Go

noncomputable def pvX (P : Program) (g : Option (Option (Value × Bool))) (k : OpK) : Option Value :=
  let x : Option (Option Value) := match k with | .val v => some (some v) | .opt v => some v | .pure m => some (pureRun P m) | .bad => some none | _ => none
  match g with
  | none => none
  | some none => x.bind id
  | some (some (c, want)) => x.bind fun x => gd c want x
theorem evX_pure {P : Program} {g : Option (Option (Value × Bool))} {k : OpK} (hk : isP k = true) {w : World} {K : Value → World → Prop} : evX P g k w K ↔ ∃ v, pvX P g k = some v ∧ K v w := by
  unfold evX pvX
  cases g with
  | none => simp
  | some gg =>
    cases gg with
    | none => cases k <;> simp [isP] at hk <;> simp [evP, wpB_iff]
    | some cw =>
      obtain ⟨c, want⟩ := cw
      cases k <;> simp [isP] at hk <;> simp [evG, wpB_iff]
      case bad => cases hy : yes c want <;> simp [gE, gd, hy]
      case val v => cases hy : yes c want <;> simp [gv, gd, hy]
def rvX (P : Program) (g : Option (Option (Value × Bool))) (k : OpK) (w : World) : Option Value :=
  match g, k with
  | some none, .read t x => ldv P t x w
  | some (some (c, want)), .read t x => gd c want (ldv P t x w)
  | some (some (c, want)), .bad => gd c want none
  | _, _ => none
theorem evX_read {P : Program} {g : Option (Option (Value × Bool))} {k : OpK} (hk : isR k = true) {w : World} {K : Value → World → Prop} : evX P g k w K ↔ ∃ v, rvX P g k w = some v ∧ K v w := by
  unfold evX rvX
  cases g with
  | none => simp
  | some gg =>
    cases gg with
    | none => cases k <;> simp [isR] at hk <;> simp [evP, wpB_iff]
    | some cw => obtain ⟨c, want⟩ := cw; cases k <;> simp [isR] at hk <;> simp [evG, wpB_iff]; (cases hy : yes c want <;> simp [gE, gd, hy])
theorem rvX_ext {P : Program} {g : Option (Option (Value × Bool))} {k : OpK} {w w' : World} (h : Ext w w') {v : Value} (hv : rvX P g k w = some v) : rvX P g k w' = some v := by
  unfold rvX at hv ⊢
  split at hv
  · exact ldv_ext h hv
  · rename_i c want t x
    unfold gd at hv ⊢
    cases hy : yes c want with
    | true => rw [hy] at hv; exact ldv_ext h hv
    | false => rw [hy] at hv; exact hv
  · exact hv
  · cases hv
theorem evP_ex {P : Program} {k : OpK} {w : World} {K : Value → World → Prop} (h : evP P k w K) : ∃ v w', K v w' := by
  cases k <;> simp only [evP] at h
  case val v => exact ⟨_, _, h⟩
  case opt v => obtain ⟨u, _, h⟩ := wpB_iff.1 h; exact ⟨_, _, h⟩
  case pure m => obtain ⟨u, _, h⟩ := wpB_iff.1 h; exact ⟨_, _, h⟩
  case read t x => obtain ⟨u, _, h⟩ := wpB_iff.1 h; exact ⟨_, _, h⟩
  case eff m => unfold effv at h; split at h; exact ⟨_, _, h⟩; exact h.elim
  case effU m => unfold effu at h; split at h; exact ⟨_, _, h⟩; exact h.elim
  case call g args => obtain ⟨e, w', fr, ⟨v, _, hv⟩, _⟩ := h []; exact ⟨_, _, hv⟩
theorem evX_ex {P : Program} {g : Option (Option (Value × Bool))} {k : OpK} {w : World} {K : Value → World → Prop} (h : evX P g k w K) : ∃ v w', K v w' := by
  unfold evX at h
  split at h
  · exact h.elim
  · exact evP_ex h
  · rename_i c want
    cases hy : yes c want with
    | true => rw [evG_yes hy] at h; exact evP_ex h
    | false => exact ⟨_, _, evG_no hy h⟩
theorem Ext.refl (w : World) : Ext w w := fun _ _ h => h
theorem evX_alloc {P : Program} {g : Option (Option (Value × Bool))} {k : OpK} (hk : AllocK P k) {w : World} {K : Value → World → Prop} (h : evX P g k w K) : evX P g k w fun v w' => Ext w w' ∧ K v w' := by
  have plain : evP P k w K → evP P k w fun v w' => Ext w w' ∧ K v w' := by
    intro h0
    cases k with
    | eff m =>
      simp only [evP] at h0 ⊢
      unfold effv at *
      cases hr : m.run P w with
      | ok v w' => rw [hr] at h0; exact ⟨hk _ _ _ hr, h0⟩
      | halt x w' => rw [hr] at h0; exact h0
    | bad => exact h0
    | _ => exact hk.elim
  unfold evX at h ⊢
  split at h
  · exact h
  · exact plain h
  · rename_i c want
    cases hy : yes c want with
    | true => rw [evG_yes hy] at h ⊢; exact plain h
    | false => rw [evG_not hy] at h ⊢; exact ⟨h.1, .refl w, h.2⟩
theorem evX_swap {P : Program} {gj gi : Option (Option (Value × Bool))} {kj ki : OpK} {w : World} {K : Value → Value → World → Prop}
    (hk : isP kj = true ∨ isP ki = true ∨ (isR kj = true ∧ isR ki = true) ∨ (isR kj = true ∧ AllocK P ki))
    (h : evX P gj kj w fun v w1 => evX P gi ki w1 fun u w2 => K v u w2) : evX P gi ki w fun u w1 => evX P gj kj w1 fun v w2 => K v u w2 := by
  rcases hk with hj | hi | ⟨hj, hi⟩ | ⟨hj, hi⟩
  · obtain ⟨v, hv, h1⟩ := (evX_pure hj).1 h
    exact evX_mono (fun u w1 h2 => (evX_pure hj).2 ⟨v, hv, h2⟩) h1
  · obtain ⟨v, w1, h1⟩ := evX_ex h
    obtain ⟨u, hu, _⟩ := (evX_pure hi).1 h1
    refine (evX_pure hi).2 ⟨u, hu, evX_mono (fun v w1 h2 => ?_) h⟩
    obtain ⟨u', hu', h3⟩ := (evX_pure hi).1 h2
    rw [hu] at hu'; cases hu'
    exact h3
  · obtain ⟨v, hv, h1⟩ := (evX_read hj).1 h
    obtain ⟨u, hu, h2⟩ := (evX_read hi).1 h1
    exact (evX_read hi).2 ⟨u, hu, (evX_read hj).2 ⟨v, hv, h2⟩⟩
  · obtain ⟨v, hv, h1⟩ := (evX_read hj).1 h
    exact evX_mono (fun u w1 h2 => (evX_read hj).2 ⟨v, rvX_ext h2.1 hv, h2.2⟩) (evX_alloc hi h1)

theorem opv_upd {n : Nat} {ρ : Env} {d : Option Nat} {v : Value} {x : Operand} (h : ∀ e, d = some e → x ≠ .tmp e) : opv (updO n d v ρ) x = opv ρ x := by
  cases d with
  | none => rfl
  | some d =>
    cases x with
    | tmp t =>
      have hne : t ≠ d := fun e => h d rfl (e ▸ rfl)
      have : Nat.beq t d = false := by
        cases hb : Nat.beq t d with
        | false => rfl
        | true => exact absurd (Nat.eq_of_beq_eq_true hb) hne
      simp [opv, updO, upd, this]
    | _ => rfl
theorem opvs_congr {ρ ρ' : Env} : ∀ {xs : List Operand}, (∀ x ∈ xs, opv ρ x = opv ρ' x) → opvs ρ xs = opvs ρ' xs
  | [], _ => rfl
  | x :: xs, h => by
    have ih := opvs_congr (xs := xs) fun y hy => h y (List.mem_cons_of_mem _ hy)
    simp only [opvs, h x (by simp), ih]
theorem opparts_congr {ρ ρ' : Env} : ∀ {xs : List (Nat × Operand)}, (∀ x ∈ xs, opv ρ x.2 = opv ρ' x.2) → opparts ρ xs = opparts ρ' xs
  | [], _ => rfl
  | (i, x) :: xs, h => by
    have ih := opparts_congr (xs := xs) fun y hy => h y (List.mem_cons_of_mem _ hy)
    simp only [opparts, h (i, x) (by simp), ih]
theorem opmay_congr {ρ ρ' : Env} {x : Option Operand} (h : ∀ y, x = some y → opv ρ y = opv ρ' y) : opmay ρ x = opmay ρ' x := by
  cases x with
  | none => rfl
  | some x => simp only [opmay, h x rfl]
theorem opk_congr {ent : FuncId → Bool} {ρ ρ' : Env} (o : Oper) (h : ∀ x ∈ o.op.operands, opv ρ x = opv ρ' x) : opk ent ρ o = opk ent ρ' o := by
  obtain ⟨dst, op, type, pos, after, guard⟩ := o
  cases op <;> simp only [Op.operands] at h <;> simp only [opk]
  case build t ps => rw [opparts_congr fun x hx => h x.2 (by simp; exact ⟨x.1, Array.mem_toList_iff.1 hx⟩)]
  case buildSlice t k ps => rw [opparts_congr fun x hx => h x.2 (by simp; exact ⟨x.1, Array.mem_toList_iff.1 hx⟩)]
  case makeFunc fn first cap =>
    rw [opvs_congr (xs := first.toList) fun x hx => h x (by simp; exact .inl (by simpa using hx)), opvs_congr (xs := cap.toList) fun x hx => h x (by simp; exact .inr (by simpa using hx))]
  case slice t x lo hi mx =>
    rw [h x (by simp), opmay_congr (x := lo) fun y hy => h y (by simp [hy]), opmay_congr (x := hi) fun y hy => h y (by simp [hy]), opmay_congr (x := mx) fun y hy => h y (by simp [hy])]
  case call c =>
    obtain ⟨callee, args, ts⟩ := c
    simp only [Call.operands] at h
    have ha : opvs ρ args.toList = opvs ρ' args.toList := opvs_congr fun x hx => h x (by simp; exact .inr (by simpa using hx))
    cases callee with
    | builtin b => simp only [ha]
    | value f => simp only [ha, h f (by simp)]
    | invoke r m => rfl
  all_goals (first | rfl | (simp_all; done))
theorem gOf_upd {n : Nat} {ops : Array Oper} {ρ : Env} {o : Oper} {d : Option Nat} {v : Value} (h : ∀ e, d = some e → e ∉ o.looksAt ops) : gOf ops (updO n d v ρ) o = gOf ops ρ o := by
  unfold gOf
  cases hg : o.guard with
  | none => rfl
  | some gw =>
    obtain ⟨g, want⟩ := gw
    simp only
    cases hs : (ops[g]?).bind (·.dst) with
    | none => rfl
    | some s =>
      have h1 : opv (updO n d v ρ) (.tmp s) = opv ρ (.tmp s) := opv_upd fun e he hx => by
        cases hx
        exact h s he (by simp [Oper.looksAt, hg, hs])
      have h2 : updO n d v ρ s = ρ s := h1
      simp only [h2]
theorem opk_upd {ent : FuncId → Bool} {n : Nat} {ops : Array Oper} {ρ : Env} {o : Oper} {d : Option Nat} {v : Value} (h : ∀ e, d = some e → e ∉ o.looksAt ops) : opk ent (updO n d v ρ) o = opk ent ρ o :=
  opk_congr o fun x hx => opv_upd fun e he hxe => h e he (by
    subst hxe
    exact List.mem_append_left _ (List.mem_filterMap.2 ⟨.tmp e, by simpa using hx, rfl⟩))
theorem updO_comm {n : Nat} {ρ : Env} {d e : Option Nat} {v u : Value} (h : ∀ x, d = some x → e ≠ some x) : updO n d v (updO n e u ρ) = updO n e u (updO n d v ρ) := by
  cases d with
  | none => rfl
  | some d =>
    cases e with
    | none => rfl
    | some e =>
      have hne : d ≠ e := fun he => h d rfl (by rw [he])
      funext i
      simp only [updO, upd]
      cases h1 : Nat.beq i d with
      | false => rfl
      | true =>
        cases h2 : Nat.beq i e with
        | false => rfl
        | true => exact absurd ((Nat.eq_of_beq_eq_true h1).symm.trans (Nat.eq_of_beq_eq_true h2)) hne

def evSeq (P : Program) (ent : FuncId → Bool) (n : Nat) (ops : Array Oper) : List Nat → Env → World → (Env → World → Prop) → Prop
  | [], ρ, w, K => K ρ w
  | i :: rest, ρ, w, K => match ops[i]? with
    | none => False
    | some o => evOp P ent n ops o ρ w fun ρ' w' => evSeq P ent n ops rest ρ' w' K
def kdsOk : Kd → Kd → Bool
  | .pure, _ | _, .pure | .read, .read | .read, .alloc => true
  | _, _ => false
def canSwap (ops : Array Oper) (j i : Nat) : Bool := match ops[j]?, ops[i]? with
  | some oj, some oi => kdsOk (kindOf oj) (kindOf oi) && oj.apart ops oi
  | _, _ => false
section
variable {P : Program} {ent : FuncId → Bool} {n : Nat} {ops : Array Oper}
theorem evSeq_swap {i j : Nat} (hs : canSwap ops j i = true) {rest : List Nat} {ρ : Env} {w : World} {K : Env → World → Prop} (h : evSeq P ent n ops (j :: i :: rest) ρ w K) :
    evSeq P ent n ops (i :: j :: rest) ρ w K := by
  unfold canSwap at hs
  simp only [evSeq] at h ⊢
  cases hj : ops[j]? with
  | none => rw [hj] at hs; simp at hs
  | some oj =>
    cases hi : ops[i]? with
    | none => rw [hj, hi] at hs; simp at hs
    | some oi =>
      rw [hj, hi] at hs h
      simp only [Bool.and_eq_true] at hs
      obtain ⟨hk, hap⟩ := hs
      obtain ⟨h1, h2, h3⟩ := Oper.apart_spec hap
      simp only [evOp] at h ⊢
      have e1 : ∀ v, gOf ops (updO n oj.dst v ρ) oi = gOf ops ρ oi := fun v => gOf_upd h1
      have e2 : ∀ v, opk ent (updO n oj.dst v ρ) oi = opk ent ρ oi := fun v => opk_upd h1
      have e3 : ∀ v, gOf ops (updO n oi.dst v ρ) oj = gOf ops ρ oj := fun v => gOf_upd h3
      have e4 : ∀ v, opk ent (updO n oi.dst v ρ) oj = opk ent ρ oj := fun v => opk_upd h3
      simp only [e1, e2] at h
      simp only [e3, e4]
      have hcm : ∀ v u, updO n oi.dst u (updO n oj.dst v ρ) = updO n oj.dst v (updO n oi.dst u ρ) := fun v u => (updO_comm h2).symm
      simp only [hcm] at h
      refine evX_swap (K := fun v u w2 => evSeq P ent n ops rest (updO n oj.dst v (updO n oi.dst u ρ)) w2 K) ?_ h
      cases hkj : kindOf oj <;> cases hki : kindOf oi <;> rw [hkj, hki] at hk <;> simp [kdsOk] at hk <;>
        first
        | exact .inl (isP_of hkj)
        | exact .inr (.inl (isP_of hki))
        | exact .inr (.inr (.inl ⟨isR_of hkj, isR_of hki⟩))
        | exact .inr (.inr (.inr ⟨isR_of hkj, allocK_of hki⟩))
theorem evOp_mono {o : Oper} {ρ : Env} {w : World} {K K' : Env → World → Prop} (hk : ∀ ρ w, K ρ w → K' ρ w) (h : evOp P ent n ops o ρ w K) : evOp P ent n ops o ρ w K' :=
  evX_mono (fun _ _ h => hk _ _ h) h
theorem evSeq_front {i : Nat} {rest : List Nat} {K : Env → World → Prop} : ∀ (l : List Nat) (ρ : Env) (w : World), (∀ j ∈ l, canSwap ops j i = true) → evSeq P ent n ops (l ++ i :: rest) ρ w K →
    evSeq P ent n ops (i :: (l ++ rest)) ρ w K
  | [], _, _, _, h => h
  | j :: l, ρ, w, hs, h => by
    have h1 : evSeq P ent n ops (j :: i :: (l ++ rest)) ρ w K := by
      simp only [List.cons_append] at h
      rw [evSeq] at h ⊢
      split at h
      · exact h.elim
      · exact evOp_mono (fun ρ' w' h' => evSeq_front l ρ' w' (fun k hk => hs k (by simp [hk])) h') h
    exact evSeq_swap (hs j (by simp)) h1
theorem evSeq_sound (he : EntOk P ent) {Q : Exit → Act → World → Prop} {K : Env → World → Prop} (hk : ∀ ρ' a' w', Agree n ρ' a' → K ρ' w' → Q .normal a' w') (σ π₀ : List Nat)
    (hswap : ∀ S i rest, σ = S ++ i :: rest → ∀ j ∈ rest, [j, i].Sublist π₀ → canSwap ops j i = true) :
    ∀ (rest S π : List Nat) (ρ : Env) (a : Act) (w : World), σ = S ++ rest → π.Perm rest → π.Sublist π₀ → Agree n ρ a → evSeq P ent n ops π ρ w K → wpOps P ops Q rest a w
  | [], S, π, ρ, a, w, _, hp, _, ha, h => by
    have : π = [] := List.perm_nil.1 hp
    subst this
    exact hk _ _ _ ha h
  | i :: rest, S, π, ρ, a, w, hσ, hp, hsub, ha, h => by
    have hi : i ∈ π := hp.mem_iff.2 (by simp)
    obtain ⟨l, r, rfl⟩ := List.append_of_mem hi
    have hperm : (l ++ r).Perm rest := by
      have h1 : (i :: (l ++ r)).Perm (i :: rest) := (List.perm_middle.symm).trans hp
      exact h1.cons_inv
    have hfront := evSeq_front (i := i) (rest := r) l ρ w (fun j hj => hswap S i rest hσ j (hperm.mem_iff.1 (by simp [hj])) (by
      refine List.Sublist.trans ?_ hsub
      obtain ⟨l1, l2, rfl⟩ := List.append_of_mem hj
      have : [j, i] = [j] ++ [i] := rfl
      rw [this]
      refine List.Sublist.append ?_ ?_
      · exact List.singleton_sublist.2 (by simp)
      · exact List.singleton_sublist.2 (by simp))) h
    rw [evSeq] at hfront
    rw [wpOps_cons]
    unfold wpOp
    split at hfront
    · exact hfront.elim
    · rename_i o ho
      simp only [ho]
      exact evOp_sound he ha (fun ρ' a' w' ha' h' => evSeq_sound he hk σ π₀ hswap rest (S ++ [i]) (l ++ r) ρ' a' w' (by simp [hσ]) hperm
        (List.Sublist.trans (List.Sublist.append (List.Sublist.refl l) (List.sublist_cons_self i r)) hsub) ha' h') hfront
end
def CallX (P : Program) (f : FuncId) (args : List Value) (w : World) (K : Value → World → Prop) : Prop := CallR P f args w fun v w' => Ext w w' ∧ K v w'
def evXX (P : Program) (g : Option (Option (Value × Bool))) (k : OpK) (w : World) (K : Value → World → Prop) : Prop :=
  match k with
  | .call f args => match g with
    | none => False
    | some none => CallX P f args w K
    | some (some (c, want)) => gE c want (CallX P f args w) K w
  | k => evX P g k w K
def isC : OpK → Bool
  | .call _ _ | .bad => true
  | _ => false
theorem evXX_not {P : Program} {g : Option (Option (Value × Bool))} {k : OpK} {w : World} {K : Value → World → Prop} (h : ∀ f args, k ≠ .call f args) : evXX P g k w K = evX P g k w K := by
  unfold evXX; split
  · exact absurd rfl (h _ _)
  · rfl
theorem notC_P {k : OpK} (h : isP k = true) : ∀ f args, k ≠ .call f args := fun _ _ e => by subst e; cases h
theorem notC_R {k : OpK} (h : isR k = true) : ∀ f args, k ≠ .call f args := fun _ _ e => by subst e; cases h
theorem evXX_weak {P : Program} {g : Option (Option (Value × Bool))} {k : OpK} {w : World} {K : Value → World → Prop} (h : evXX P g k w K) : evX P g k w fun v w' => (isC k = true → Ext w w') ∧ K v w' := by
  unfold evXX at h
  split at h
  · split at h
    · exact h.elim
    · exact CallR.mono h fun _ _ h => ⟨fun _ => h.1, h.2⟩
    · rename_i c want
      simp only [evX]
      cases hy : yes c want with
      | true => rw [evG_yes hy]; simp only [gE, hy, cond_true] at h; exact CallR.mono h fun _ _ h => ⟨fun _ => h.1, h.2⟩
      | false => rw [evG_not hy]; simp only [gE, hy, cond_false] at h; exact ⟨trivial, fun _ => Ext.refl w, h⟩
  · rename_i hn
    cases hb : isC k with
    | false => exact evX_mono (fun v w' hv => ⟨fun hc => (by cases hc), hv⟩) h
    | true =>
      cases k <;> simp [isC] at hb
      · exact absurd rfl (hn _ _)
      · obtain ⟨c, want, hg, hy, h⟩ := evX_bad.1 h
        exact evX_bad.2 ⟨c, want, hg, hy, fun _ => Ext.refl w, h⟩
theorem evXX_mono {P : Program} {g : Option (Option (Value × Bool))} {k : OpK} {w : World} {K K' : Value → World → Prop} (hk : ∀ v w', K v w' → K' v w') (h : evXX P g k w K) : evXX P g k w K' := by
  unfold evXX at h ⊢
  split at h
  · split at h
    · exact h
    · exact CallR.mono h fun _ _ h => ⟨h.1, hk _ _ h.2⟩
    · rename_i c want
      cases hy : yes c want with
      | true => simp only [gE, hy, cond_true] at h ⊢; exact CallR.mono h fun _ _ h => ⟨h.1, hk _ _ h.2⟩
      | false => simp only [gE, hy, cond_false] at h ⊢; exact hk _ _ h
  · exact evX_mono hk h
theorem evXX_ex {P : Program} {g : Option (Option (Value × Bool))} {k : OpK} {w : World} {K : Value → World → Prop} (h : evXX P g k w K) : ∃ v w', K v w' := by
  obtain ⟨v, w', h⟩ := evX_ex (evXX_weak h); exact ⟨v, w', h.2⟩
theorem evXX_ext {P : Program} {g : Option (Option (Value × Bool))} {k : OpK} (hk : AllocK P k ∨ isC k = true) {w : World} {K : Value → World → Prop} (h : evXX P g k w K) : evXX P g k w fun v w' => Ext w w' ∧ K v w' := by
  cases hc : isC k with
  | false =>
    have hn : ∀ f args, k ≠ .call f args := fun f args e => by subst e; cases hc
    rw [evXX_not hn] at h ⊢
    rcases hk with hk | hk
    · exact evX_alloc hk h
    · rw [hc] at hk; cases hk
  | true =>
    unfold evXX at h ⊢
    split at h
    · split at h
      · exact h
      · exact CallR.mono h fun _ _ h => ⟨h.1, h.1, h.2⟩
      · rename_i c want
        cases hy : yes c want with
        | true => simp only [gE, hy, cond_true] at h ⊢; exact CallR.mono h fun _ _ h => ⟨h.1, h.1, h.2⟩
        | false => simp only [gE, hy, cond_false] at h ⊢; exact ⟨Ext.refl w, h⟩
    · rename_i hn
      cases k <;> simp [isC] at hc
      · exact absurd rfl (hn _ _)
      · obtain ⟨c, want, hg, hy, h⟩ := evX_bad.1 h
        exact evX_bad.2 ⟨c, want, hg, hy, Ext.refl w, h⟩
theorem evXX_swap {P : Program} {gj gi : Option (Option (Value × Bool))} {kj ki : OpK} {w : World} {K : Value → Value → World → Prop}
    (hk : isP kj = true ∨ isP ki = true ∨ (isR kj = true ∧ isR ki = true) ∨ (isR kj = true ∧ (AllocK P ki ∨ isC ki = true)))
    (h : evXX P gj kj w fun v w1 => evXX P gi ki w1 fun u w2 => K v u w2) : evXX P gi ki w fun u w1 => evXX P gj kj w1 fun v w2 => K v u w2 := by
  rcases hk with hj | hi | ⟨hj, hi⟩ | ⟨hj, hi⟩
  · rw [evXX_not (notC_P hj)] at h
    obtain ⟨v, hv, h1⟩ := (evX_pure hj).1 h
    exact evXX_mono (fun u w1 h2 => by rw [evXX_not (notC_P hj)]; exact (evX_pure hj).2 ⟨v, hv, h2⟩) h1
  · obtain ⟨v, w1, h1⟩ := evXX_ex h
    rw [evXX_not (notC_P hi)] at h1 ⊢
    obtain ⟨u, hu, _⟩ := (evX_pure hi).1 h1
    refine (evX_pure hi).2 ⟨u, hu, evXX_mono (fun v w1 h2 => ?_) h⟩
    rw [evXX_not (notC_P hi)] at h2
    obtain ⟨u', hu', h3⟩ := (evX_pure hi).1 h2
    rw [hu] at hu'; cases hu'
    exact h3
  · rw [evXX_not (notC_R hj)] at h
    obtain ⟨v, hv, h1⟩ := (evX_read hj).1 h
    rw [evXX_not (notC_R hi)] at h1 ⊢
    obtain ⟨u, hu, h2⟩ := (evX_read hi).1 h1
    exact (evX_read hi).2 ⟨u, hu, by rw [evXX_not (notC_R hj)]; exact (evX_read hj).2 ⟨v, hv, h2⟩⟩
  · rw [evXX_not (notC_R hj)] at h
    obtain ⟨v, hv, h1⟩ := (evX_read hj).1 h
    exact evXX_mono (fun u w1 h2 => by rw [evXX_not (notC_R hj)]; exact (evX_read hj).2 ⟨v, rvX_ext h2.1 hv, h2.2⟩) (evXX_ext hi h1)
def evOpX (P : Program) (ent : FuncId → Bool) (n : Nat) (ops : Array Oper) (o : Oper) (ρ : Env) (w : World) (K : Env → World → Prop) : Prop :=
  evXX P (gOf ops ρ o) (opk ent ρ o) w fun v w' => K (updO n o.dst v ρ) w'
def evSeqX (P : Program) (ent : FuncId → Bool) (n : Nat) (ops : Array Oper) : List Nat → Env → World → (Env → World → Prop) → Prop
  | [], ρ, w, K => K ρ w
  | i :: rest, ρ, w, K => match ops[i]? with
    | none => False
    | some o => evOpX P ent n ops o ρ w fun ρ' w' => evSeqX P ent n ops rest ρ' w' K
def isCallV (o : Oper) : Bool := match o.op with | .call c => (match c.callee with | .value _ => true | _ => false) | _ => false
section
def ExtM {α : Type} (P : Program) (m : Sem α) : Prop := ∀ w v w', m.run P w = .ok v w' → Ext w w'
theorem ExtM.bind {α β : Type} {P : Program} {m : Sem α} {f : α → Sem β} (h : ExtM P m) (hf : ∀ a, ExtM P (f a)) : ExtM P (m >>= f) := by
  intro w v w' hr
  simp only [Sem.run_bind] at hr
  cases h1 : m.run P w with
  | halt x w1 => rw [h1] at hr; simp at hr
  | ok x w1 =>
    rw [h1] at hr
    intro a u ha
    exact hf _ _ _ _ hr a u (h _ _ _ h1 a u ha)
theorem ExtM.keeps {α : Type} {P : Program} {m : Sem α} (h : Keeps P m) : ExtM P m := fun w v w' hr => by
  have := h _ _ _ hr
  subst this
  exact Ext.refl _
theorem ExtM.pure {α : Type} {P : Program} {a : α} : ExtM P (Pure.pure a : Sem α) := .keeps .pure
theorem ExtM.panic {α : Type} {P : Program} {e : RuntimeError} : ExtM P (runtimePanic e : Sem α) := fun w v w' h => (never_panic h).elim
theorem ExtM.choose {P : Program} {q : Question} : ExtM P (choose q) := fun w v w' h => by
  simp only [Go.choose, Sem.run] at h
  split at h
  all_goals first
    | (simp at h; done)
    | (simp at h; obtain ⟨_, rfl⟩ := h; intro a u ha; exact ha)
    | skip
  all_goals trace_state
  all_goals sorry
theorem ExtM.newRow {P : Program} {e : TypeId} {cs : Array Value} : ExtM P (newRow e cs) := fun w v w' h => by
  simp only [Go.newRow, Sem.run_bind, run_newObj, Result.andThen_ok, Sem.run_pure] at h
  injection h with h1 h2
  rw [← h2]; exact ext_push w _
theorem Keeps.load {P : Program} {a : Addr} : Keeps P (load a) := by
  intro w v w' h
  rw [run_load] at h
  split at h
  · injection h with h1 h2; exact h2.symm
  · split at h
    · injection h with h1 h2; exact h2.symm
    · cases h
theorem Keeps.loadCellsFrom {P : Program} {a : Addr} : ∀ {n i : Nat} {acc : Array Value}, Keeps P (loadCellsFrom a i n acc)
  | 0, i, acc => .pure
  | n + 1, i, acc => Keeps.load.bind fun v => Keeps.loadCellsFrom
theorem Keeps.loadCells {P : Program} {a : Addr} {n : Nat} : Keeps P (loadCells a n) := Keeps.loadCellsFrom
theorem Keeps.firstCells {P : Program} {s n : Nat} {x : Value} : Keeps P (Builtin.firstCells s n x) := by
  unfold Builtin.firstCells
  split
  · exact .loadCells
  · exact .pure
  · exact .pure
  · exact .stuck
theorem Keeps.lenOf {P : Program} {x : Value} : Keeps P (Builtin.lenOf x) := by
  unfold Builtin.lenOf
  split
  · exact .pure
  · exact .pure
  · exact .stuck
theorem ExtM.never {α β : Type} {P : Program} {m : Sem α} {f : α → Sem β} (h : ∀ a w v w', (f a).run P w ≠ .ok v w') : ExtM P (m >>= f) := by
  intro w v w' hr
  simp only [Sem.run_bind] at hr
  cases h1 : m.run P w with
  | halt x w1 => rw [h1] at hr; simp at hr
  | ok x w1 => rw [h1] at hr; exact absurd hr (h x w1 v w')
theorem ExtM.ite {α : Type} {P : Program} {c : Prop} [Decidable c] {m k : Sem α} (h : ExtM P m) (h' : ExtM P k) : ExtM P (if c then m else k) := by split <;> assumption
theorem ExtM.append {P : Program} {ts : Array TypeId} {t : TypeId} {x : Value} : ExtM P (Builtin.append_ ts t #[.slice none 0 0, x]) := by
  unfold Builtin.append_
  split
  case h_2 => exact .keeps .stuck
  rename_i tt sl y h3
  refine ExtM.bind (.keeps .underlying) fun d => ?_
  split
  case h_2 => exact .keeps .stuck
  rename_i elem
  split
  case h_2 => exact .keeps .stuck
  rename_i base sLen sCap
  simp at h3
  obtain ⟨_, ⟨rfl, rfl, rfl⟩, rfl⟩ := h3
  refine ExtM.bind (.keeps .sizeOf) fun size => ?_
  extract_lets ju jp
  have hjp : ∀ z, ExtM P (jp z) := by
    intro z
    dsimp -zeta only [jp]
    extract_lets jp2
    have hjp2 : ∀ n, ExtM P (jp2 n) := by
      intro n
      simp only [jp2]
      have ha : ExtM P (if (!z) = true then Builtin.firstCells size n x else if n * size = 0 then Pure.pure #[] else (zeroValue elem >>= fun zz => Pure.pure (Builtin.zeroCells zz.cells n))) := ExtM.ite (.keeps .firstCells) (ExtM.ite .pure (ExtM.bind (.keeps .zero) fun _ => .pure))
      generalize (if (!z) = true then Builtin.firstCells size n x else if n * size = 0 then Pure.pure #[] else (zeroValue elem >>= fun zz => Pure.pure (Builtin.zeroCells zz.cells n))) = app at *
      refine ExtM.ite ?_ ?_
      · exact ExtM.bind ha fun _ => .pure
      · refine ExtM.bind (.keeps .typeInfo) fun i => ?_
        have last : ExtM P (do
            let newCap ← Go.choose (Question.appendCap (0 + n) 0 elem)
            let i ← typeInfo elem
            askRoom (newCap * i.bytes)
            let old ← Builtin.firstCells size 0 (Value.slice none 0 0)
            let new ← app
            let zz ← zeroValue elem
            let a ← Go.newRow elem (old ++ new ++ Builtin.zeroCells zz.cells (newCap - (0 + n)))
            Pure.pure (Value.slice (some a) (0 + n) newCap)) := by
          refine ExtM.bind .choose fun newCap => ExtM.bind (.keeps .typeInfo) fun i => ExtM.bind (.keeps .askRoom) fun _ => ExtM.bind (.keeps .firstCells) fun old => ExtM.bind ha fun new => ExtM.bind (.keeps .zero) fun zz => ExtM.bind .newRow fun a => .pure
        have mid : ∀ u : Unit, ExtM P (do
            let i ← typeInfo elem
            if Builtin.nextslicecap (0 + n) 0 * i.bytes > 2 ^ 48 then do
              let _ ← ((if z = true then (runtimePanic (RuntimeError.error "growslice: len out of range") : Sem Unit) else (Builtin.mayShare size 0 n none x >>= fun l => if (!l) = true then (mark Mark.noRoom >>= fun r => ju r) else ju ())) : Sem Unit)
              (do
            let newCap ← Go.choose (Question.appendCap (0 + n) 0 elem)
            let i ← typeInfo elem
            askRoom (newCap * i.bytes)
            let old ← Builtin.firstCells size 0 (Value.slice none 0 0)
            let new ← app
            let zz ← zeroValue elem
            let a ← Go.newRow elem (old ++ new ++ Builtin.zeroCells zz.cells (newCap - (0 + n)))
            Pure.pure (Value.slice (some a) (0 + n) newCap))
            else (do
            let newCap ← Go.choose (Question.appendCap (0 + n) 0 elem)
            let i ← typeInfo elem
            askRoom (newCap * i.bytes)
            let old ← Builtin.firstCells size 0 (Value.slice none 0 0)
            let new ← app
            let zz ← zeroValue elem
            let a ← Go.newRow elem (old ++ new ++ Builtin.zeroCells zz.cells (newCap - (0 + n)))
            Pure.pure (Value.slice (some a) (0 + n) newCap))) := by
          intro u
          refine ExtM.bind (.keeps .typeInfo) fun i => ExtM.ite (ExtM.bind (ExtM.ite .panic (ExtM.never fun l w v w' => ?_)) fun _ => last) last
          split <;> simp [ju]
        exact ExtM.ite (ExtM.bind .panic fun u => mid u) (mid ())
    clear_value jp2
    refine ExtM.ite ?_ (ExtM.bind (.keeps .lenOf) fun n => hjp2 n)
    refine ExtM.bind (.keeps .asInt) fun l => ?_
    have k2 : ∀ n : Nat, ExtM P (do let n ← Pure.pure n; jp2 n) := fun n => ExtM.bind .pure fun n => hjp2 n
    have k1 : ∀ l : Int, ExtM P (do
        let i ← typeInfo elem
        if l * i.bytes > 2 ^ 48 then do
          let made ← Go.choose (Question.extern "append.ofMake.carriedOut" 2)
          let _ ← (runtimePanic (RuntimeError.error (if (made == 1) = true then "makeslice: len out of range" else "growslice: len out of range")) : Sem Unit)
          (do let n ← Pure.pure l.toNat; jp2 n)
        else (do let n ← Pure.pure l.toNat; jp2 n)) := fun l => ExtM.bind (.keeps .typeInfo) fun i => ExtM.ite (ExtM.bind .choose fun _ => ExtM.bind .panic fun _ => k2 _) (k2 _)
    exact ExtM.ite (ExtM.bind .panic fun _ => k1 _) (k1 _)
  clear_value jp
  split
  · exact ExtM.bind (.keeps .underlying) fun d => ExtM.bind .pure fun z => hjp z
  · exact ExtM.bind .pure fun z => hjp z
end
def isAppNil (o : Oper) : Bool := match o.op with
  | .call c => (match c.callee, c.args.toList with | .builtin .append, [.const (.slice none 0 0), _] => true | _, _ => false)
  | _ => false
theorem allocK_app {P : Program} {ent : FuncId → Bool} {ρ : Env} {o : Oper} (h : isAppNil o = true) : AllocK P (opk ent ρ o) := by
  obtain ⟨dst, op, type, pos, after, guard⟩ := o
  unfold isAppNil at h
  cases op <;> simp only at h <;> try cases h
  case call c =>
    obtain ⟨callee, args, ts⟩ := c
    simp only at h
    split at h
    · rename_i x h2
      have e : opvs ρ args.toList = (opv ρ x).map fun v => [.slice none 0 0, v] := by
        rw [h2]
        show (match some (Value.slice none 0 0), (match opv ρ x, some [] with | some v, some vs => some (v :: vs) | _, _ => none) with | some v, some vs => some (v :: vs) | _, _ => none) = _
        cases opv ρ x <;> rfl
      simp only [opk, e]
      cases opv ρ x with
      | none => exact trivial
      | some v => exact fun w u w' hr => ExtM.append w u w' hr
    · cases h
def kindX (o : Oper) : Kd := bif isCallV o then .alloc else bif isAppNil o then .alloc else kindOf o
def canSwapX (ops : Array Oper) (j i : Nat) : Bool := match ops[j]?, ops[i]? with
  | some oj, some oi => kdsOk (kindX oj) (kindX oi) && oj.apart ops oi
  | _, _ => false
theorem isC_of {ent : FuncId → Bool} {ρ : Env} {o : Oper} (h : isCallV o = true) : isC (opk ent ρ o) = true := by
  obtain ⟨dst, op, type, pos, after, guard⟩ := o
  unfold isCallV at h
  cases op <;> simp only at h <;> try cases h
  case call c =>
    obtain ⟨callee, args, ts⟩ := c
    cases callee with
    | value f =>
      simp only [opk]
      unfold callK
      split
      · rename_i g first captured vs _ _
        cases ent g <;> rfl
      · rfl
    | builtin b => simp at h
    | invoke r m => simp at h
theorem kindX_not {o : Oper} {k : Kd} (h : kindX o = k) (hk : k ≠ .alloc) : kindOf o = k := by
  unfold kindX at h
  cases hc : isCallV o with
  | true => rw [hc] at h; exact absurd h.symm hk
  | false =>
    rw [hc] at h
    cases ha : isAppNil o with
    | true => rw [ha] at h; exact absurd h.symm hk
    | false => rw [ha] at h; exact h
theorem kindX_alloc {P : Program} {ent : FuncId → Bool} {ρ : Env} {o : Oper} (h : kindX o = .alloc) : AllocK P (opk ent ρ o) ∨ isC (opk ent ρ o) = true := by
  unfold kindX at h
  cases hc : isCallV o with
  | true => exact .inr (isC_of hc)
  | false =>
    rw [hc] at h
    cases ha : isAppNil o with
    | true => exact .inl (allocK_app ha)
    | false => rw [ha] at h; exact .inl (allocK_of h)
section
variable {P : Program} {ent : FuncId → Bool} {n : Nat} {ops : Array Oper}
theorem evSeqX_swap {i j : Nat} (hs : canSwapX ops j i = true) {rest : List Nat} {ρ : Env} {w : World} {K : Env → World → Prop} (h : evSeqX P ent n ops (j :: i :: rest) ρ w K) :
    evSeqX P ent n ops (i :: j :: rest) ρ w K := by
  unfold canSwapX at hs
  simp only [evSeqX] at h ⊢
  cases hj : ops[j]? with
  | none => rw [hj] at hs; simp at hs
  | some oj =>
    cases hi : ops[i]? with
    | none => rw [hj, hi] at hs; simp at hs
    | some oi =>
      rw [hj, hi] at hs h
      simp only [Bool.and_eq_true] at hs
      obtain ⟨hk, hap⟩ := hs
      obtain ⟨h1, h2, h3⟩ := Oper.apart_spec hap
      simp only [evOpX] at h ⊢
      have e1 : ∀ v, gOf ops (updO n oj.dst v ρ) oi = gOf ops ρ oi := fun v => gOf_upd h1
      have e2 : ∀ v, opk ent (updO n oj.dst v ρ) oi = opk ent ρ oi := fun v => opk_upd h1
      have e3 : ∀ v, gOf ops (updO n oi.dst v ρ) oj = gOf ops ρ oj := fun v => gOf_upd h3
      have e4 : ∀ v, opk ent (updO n oi.dst v ρ) oj = opk ent ρ oj := fun v => opk_upd h3
      simp only [e1, e2] at h
      simp only [e3, e4]
      have hcm : ∀ v u, updO n oi.dst u (updO n oj.dst v ρ) = updO n oj.dst v (updO n oi.dst u ρ) := fun v u => (updO_comm h2).symm
      simp only [hcm] at h
      refine evXX_swap (K := fun v u w2 => evSeqX P ent n ops rest (updO n oj.dst v (updO n oi.dst u ρ)) w2 K) ?_ h
      cases hkj : kindX oj <;> cases hki : kindX oi <;> rw [hkj, hki] at hk <;> simp [kdsOk] at hk <;>
        first
        | exact .inl (isP_of (kindX_not hkj (by simp)))
        | exact .inr (.inl (isP_of (kindX_not hki (by simp))))
        | exact .inr (.inr (.inl ⟨isR_of (kindX_not hkj (by simp)), isR_of (kindX_not hki (by simp))⟩))
        | exact .inr (.inr (.inr ⟨isR_of (kindX_not hkj (by simp)), kindX_alloc hki⟩))
theorem evOpX_mono {o : Oper} {ρ : Env} {w : World} {K K' : Env → World → Prop} (hk : ∀ ρ w, K ρ w → K' ρ w) (h : evOpX P ent n ops o ρ w K) : evOpX P ent n ops o ρ w K' :=
  evXX_mono (fun _ _ h => hk _ _ h) h
theorem evSeqX_front {i : Nat} {rest : List Nat} {K : Env → World → Prop} : ∀ (l : List Nat) (ρ : Env) (w : World), (∀ j ∈ l, canSwapX ops j i = true) → evSeqX P ent n ops (l ++ i :: rest) ρ w K →
    evSeqX P ent n ops (i :: (l ++ rest)) ρ w K
  | [], _, _, _, h => h
  | j :: l, ρ, w, hs, h => by
    have h1 : evSeqX P ent n ops (j :: i :: (l ++ rest)) ρ w K := by
      simp only [List.cons_append] at h
      rw [evSeqX] at h ⊢
      split at h
      · exact h.elim
      · exact evOpX_mono (fun ρ' w' h' => evSeqX_front l ρ' w' (fun k hk => hs k (by simp [hk])) h') h
    exact evSeqX_swap (hs j (by simp)) h1
theorem evSeqX_sound (he : EntOk P ent) {Q : Exit → Act → World → Prop} {K : Env → World → Prop} (hk : ∀ ρ' a' w', Agree n ρ' a' → K ρ' w' → Q .normal a' w') (σ π₀ : List Nat)
    (hswap : ∀ S i rest, σ = S ++ i :: rest → ∀ j ∈ rest, [j, i].Sublist π₀ → canSwapX ops j i = true) :
    ∀ (rest S π : List Nat) (ρ : Env) (a : Act) (w : World), σ = S ++ rest → π.Perm rest → π.Sublist π₀ → Agree n ρ a → evSeqX P ent n ops π ρ w K → wpOps P ops Q rest a w
  | [], S, π, ρ, a, w, _, hp, _, ha, h => by
    have : π = [] := List.perm_nil.1 hp
    subst this
    exact hk _ _ _ ha h
  | i :: rest, S, π, ρ, a, w, hσ, hp, hsub, ha, h => by
    have hi : i ∈ π := hp.mem_iff.2 (by simp)
    obtain ⟨l, r, rfl⟩ := List.append_of_mem hi
    have hperm : (l ++ r).Perm rest := by
      have h1 : (i :: (l ++ r)).Perm (i :: rest) := (List.perm_middle.symm).trans hp
      exact h1.cons_inv
    have hfront := evSeqX_front (i := i) (rest := r) l ρ w (fun j hj => hswap S i rest hσ j (hperm.mem_iff.1 (by simp [hj])) (by
      refine List.Sublist.trans ?_ hsub
      have : [j, i] = [j] ++ [i] := rfl
      rw [this]
      refine List.Sublist.append ?_ ?_
      · exact List.singleton_sublist.2 hj
      · exact List.singleton_sublist.2 (by simp))) h
    rw [evSeqX] at hfront
    rw [wpOps_cons]
    unfold wpOp
    split at hfront
    · exact hfront.elim
    · rename_i o ho
      simp only [ho]
      refine evOp_sound he ha (K := fun ρ' w' => evSeqX P ent n ops (l ++ r) ρ' w' K) (fun ρ' a' w' ha' h' => evSeqX_sound he hk σ π₀ hswap rest (S ++ [i]) (l ++ r) ρ' a' w' (by simp [hσ]) hperm
        (List.Sublist.trans (List.Sublist.append (List.Sublist.refl l) (List.sublist_cons_self i r)) hsub) ha' h') ?_
      exact evX_mono (fun _ _ h => h.2) (evXX_weak hfront)
end
end Go.Proofs.YteapggpkgfiacaaGreat.Ev

namespace Go.Proofs.YteapggpkgfiacaaGreat.Ev
open Go

def maskOf (acc : List Nat) (o : Oper) : Nat := o.after.toList.foldr (fun e s => bif Region.binds .any e then (2 ^ e.on ||| acc.getD e.on 0) ||| s else s) 0
def ancGo : List Oper → List Nat → List Nat
  | [], acc => acc
  | o :: os, acc => ancGo os (acc ++ [maskOf acc o])
def ancT (ops : Array Oper) : List Nat := ancGo ops.toList []
theorem mask_bit {acc : List Nat} {j : Nat} : ∀ {l : List Edge}, (l.foldr (fun e s => bif Region.binds .any e then (2 ^ e.on ||| acc.getD e.on 0) ||| s else s) 0).testBit j = true →
    ∃ e ∈ l, Region.binds .any e = true ∧ (e.on = j ∨ (acc.getD e.on 0).testBit j = true)
  | [], h => by simp at h
  | e :: l, h => by
    simp only [List.foldr_cons] at h
    cases hb : Region.binds .any e with
    | false =>
      rw [hb] at h
      obtain ⟨e', h1, h2⟩ := mask_bit (l := l) h
      exact ⟨e', List.mem_cons_of_mem _ h1, h2⟩
    | true =>
      rw [hb] at h
      simp only [cond_true, Nat.testBit_or, Bool.or_eq_true, Nat.testBit_two_pow, decide_eq_true_eq] at h
      rcases h with (h | h) | h
      · exact ⟨e, by simp, hb, .inl h⟩
      · exact ⟨e, by simp, hb, .inr h⟩
      · obtain ⟨e', h1, h2⟩ := mask_bit (l := l) h
        exact ⟨e', List.mem_cons_of_mem _ h1, h2⟩
theorem ancGo_take : ∀ (os : List Oper) (acc : List Nat), (ancGo os acc).take acc.length = acc
  | [], acc => by simp [ancGo]
  | o :: os, acc => by
    have h := ancGo_take os (acc ++ [maskOf acc o])
    simp only [ancGo]
    have h2 := congrArg (List.take acc.length) h
    rw [List.take_take, Nat.min_eq_left (by simp)] at h2
    rw [h2]; simp
theorem ancGo_get : ∀ (os : List Oper) (acc : List Nat) (k : Nat) (o : Oper), os[k]? = some o → ∃ pre, (ancGo os acc).take pre.length = pre ∧ (ancGo os acc).getD (acc.length + k) 0 = maskOf pre o
  | [], acc, k, o, h => by simp at h
  | o' :: os, acc, 0, o, h => by
    simp at h; subst h
    refine ⟨acc, ancGo_take _ _, ?_⟩
    simp only [ancGo]
    have h := ancGo_take os (acc ++ [maskOf acc o'])
    have h2 := congrArg (fun l => l.getD acc.length 0) h
    simp only [List.length_append, List.length_singleton] at h2
    rw [Nat.add_zero]
    have h3 : ((ancGo os (acc ++ [maskOf acc o'])).take (acc.length + 1)).getD acc.length 0 = (ancGo os (acc ++ [maskOf acc o'])).getD acc.length 0 := by
      simp [List.getD_eq_getElem?_getD]
    rw [← h3, h2]
    simp [List.getD_eq_getElem?_getD]
  | o' :: os, acc, k + 1, o, h => by
    have h1 : os[k]? = some o := by simpa using h
    obtain ⟨pre, h2, h3⟩ := ancGo_get os (acc ++ [maskOf acc o']) k o h1
    refine ⟨pre, h2, ?_⟩
    rw [← h3]
    simp only [ancGo]
    congr 1
    simp; omega
theorem anc_bit {ops : Array Oper} {i j : Nat} {o : Oper} (ho : ops[i]? = some o) (h : ((ancT ops).getD i 0).testBit j = true) :
    ∃ e ∈ o.after, Region.binds .any e = true ∧ (e.on = j ∨ ((ancT ops).getD e.on 0).testBit j = true) := by
  obtain ⟨pre, h1, h2⟩ := ancGo_get ops.toList [] i o (by simpa using ho)
  have h3 : (ancT ops).getD i 0 = maskOf pre o := by simpa [ancT] using h2
  rw [h3] at h
  obtain ⟨e, he, hb, hd⟩ := mask_bit h
  refine ⟨e, by simpa using he, hb, hd.imp id fun hd => ?_⟩
  have : pre.getD e.on 0 = (ancT ops).getD e.on 0 ∨ pre.getD e.on 0 = 0 := by
    by_cases hl : e.on < pre.length
    · left
      have h4 : ((ancT ops).take pre.length).getD e.on 0 = pre.getD e.on 0 := by rw [show (ancT ops).take pre.length = pre from h1]
      rw [← h4]
      simp [List.getD_eq_getElem?_getD, hl]
    · right; simp [List.getD_eq_getElem?_getD, List.getElem?_eq_none (Nat.le_of_not_lt hl)]
  rcases this with h5 | h5
  · rw [← h5]; exact hd
  · rw [h5] at hd; simp at hd

def Lin (ops : Array Oper) (σ : List Nat) : Prop := ∀ S i rest, σ = S ++ i :: rest → ∃ o, ops[i]? = some o ∧ ∀ e ∈ o.after, Region.binds .any e = true → e.on ∈ S
theorem lin_anc {ops : Array Oper} {σ : List Nat} (h : Lin ops σ) : ∀ (k : Nat) (S : List Nat) (i : Nat) (rest : List Nat), S.length = k → σ = S ++ i :: rest → ∀ j, ((ancT ops).getD i 0).testBit j = true → j ∈ S := by
  intro k
  induction k using Nat.strongRecOn with
  | _ k ih =>
    intro S i rest hk hσ j hj
    obtain ⟨o, ho, hall⟩ := h S i rest hσ
    obtain ⟨e, he, hb, hd⟩ := anc_bit ho hj
    have hm := hall e he hb
    rcases hd with rfl | hd
    · exact hm
    · obtain ⟨S1, S2, rfl⟩ := List.append_of_mem hm
      have := ih S1.length (by rw [← hk]; simp) S1 e.on (S2 ++ i :: rest) rfl (by rw [hσ]; simp) j hd
      simp [this]
theorem go_props {ops : Array Oper} : ∀ (fuel t : Nat) (listed : Array Bool), listed.size = ops.size →
    (∀ S i rest, Region.linearise.go .any ops fuel t listed [] = S ++ i :: rest → ∃ o, ops[i]? = some o ∧ ∀ e ∈ o.after, Region.binds .any e = true → listed.getD e.on false = true ∨ e.on ∈ S) ∧
    (Region.linearise.go .any ops fuel t listed []).Nodup ∧ (∀ i ∈ Region.linearise.go .any ops fuel t listed [], listed.getD i true = false) ∧
    (∀ i, listed.getD i true = false → i ∈ Region.linearise.go .any ops fuel t listed [] ∨ fuel ≤ (Region.linearise.go .any ops fuel t listed []).length ∨
      ∃ L : Array Bool, L.size = ops.size ∧ Region.ready .any ops L = [] ∧ L.getD i true = false)
  | 0, t, listed, hsz => by
    simp [Region.linearise.go]
  | fuel + 1, t, listed, hsz => by
    have hstep : Region.linearise.go .any ops (fuel + 1) t listed [] = (match (Region.ready .any ops listed)[t % (Region.ready .any ops listed).length]? with
      | some i => Region.linearise.go .any ops fuel (t / (Region.ready .any ops listed).length) (listed.setIfInBounds i true) [i]
      | none => []) := rfl
    rw [hstep]
    cases hi : (Region.ready .any ops listed)[t % (Region.ready .any ops listed).length]? with
    | none =>
      have hnil : Region.ready .any ops listed = [] := by
        cases hr : Region.ready .any ops listed with
        | nil => rfl
        | cons x xs =>
          rw [hr] at hi
          have hlt : t % (x :: xs).length < (x :: xs).length := Nat.mod_lt _ (by simp)
          simp only [List.getElem?_eq_none_iff] at hi
          omega
      refine ⟨fun S i rest h => by simp at h, List.nodup_nil, fun i h => by simp at h, fun i h => .inr (.inr ⟨listed, hsz, hnil, h⟩)⟩
    | some i =>
      simp only
      rw [linearise_go_acc]
      simp only [List.reverse_singleton, List.singleton_append]
      have hmem := List.mem_of_getElem? hi
      obtain ⟨hun, o, ho, hall⟩ := mem_ready.1 hmem
      have hlt : i < listed.size := by rw [hsz]; exact (Array.getElem?_eq_some_iff.1 ho).1
      obtain ⟨p1, p2, p3, p4⟩ := go_props (ops := ops) fuel (t / (Region.ready .any ops listed).length) (listed.setIfInBounds i true) (by simp [hsz])
      have hset : ∀ k, k ≠ i → (listed.setIfInBounds i true).getD k true = listed.getD k true := fun k hk => getD_set_ne true (Ne.symm hk)
      have hself : (listed.setIfInBounds i true).getD i true = true := by simp [hlt]
      refine ⟨?_, ?_, ?_, ?_⟩
      · intro S k rest h
        cases S with
        | nil =>
          simp at h
          obtain ⟨rfl, _⟩ := h
          exact ⟨o, ho, fun e he hb => .inl (hall e he hb)⟩
        | cons s S =>
          simp only [List.cons_append, List.cons.injEq] at h
          obtain ⟨rfl, h⟩ := h
          obtain ⟨ok, hok, hk⟩ := p1 S k rest h
          refine ⟨ok, hok, fun e he hb => ?_⟩
          by_cases hei : e.on = i
          · right; simp [hei]
          · rcases hk e he hb with h2 | h2
            · left; rwa [getD_set_ne false (Ne.symm hei)] at h2
            · right; simp [h2]
      · refine List.nodup_cons.2 ⟨fun hm => ?_, p2⟩
        have := p3 i hm
        rw [hself] at this; cases this
      · intro k hk
        rcases List.mem_cons.1 hk with rfl | hk
        · exact hun
        · have := p3 k hk
          by_cases hki : k = i
          · subst hki; rw [hself] at this; cases this
          · rwa [hset k hki] at this
      · intro k hk
        by_cases hki : k = i
        · left; simp [hki]
        · rcases p4 k (by rw [hset k hki]; exact hk) with h2 | h2 | h2
          · left; simp [h2]
          · right; left; simp; exact h2
          · right; right; exact h2
def edgesOk (ops : Array Oper) : Bool := ops.toList.zipIdx.all fun (o, i) => o.after.toList.all fun e => !Region.binds .any e || Nat.blt e.on i
theorem edgesOk_spec {ops : Array Oper} (h : edgesOk ops = true) {i : Nat} {o : Oper} (ho : ops[i]? = some o) : ∀ e ∈ o.after, Region.binds .any e = true → e.on < i := by
  intro e he hb
  unfold edgesOk at h
  rw [List.all_eq_true] at h
  have h1 := h (o, i) (by rw [List.mem_zipIdx_iff_getElem?]; simpa using ho)
  simp only [List.all_eq_true] at h1
  have h2 := h1 e (by simpa using he)
  simpa [hb, Nat.blt_eq] using h2
theorem ready_ne {ops : Array Oper} (he : edgesOk ops = true) {L : Array Bool} (hL : L.size = ops.size) (hr : Region.ready .any ops L = []) : ∀ i, L.getD i true = true := by
  intro i
  induction i using Nat.strongRecOn with
  | _ i ih =>
    cases hi : L.getD i true with
    | true => rfl
    | false =>
      exfalso
      have hlt : i < ops.size := by
        rw [← hL]
        rcases Nat.lt_or_ge i L.size with h | h
        · exact h
        · simp [Array.getElem?_eq_none h] at hi
      have hmem : i ∈ Region.ready .any ops L := mem_ready.2 ⟨hi, ops[i], by simp [hlt], fun e he' hb => by
        have h1 := edgesOk_spec he (o := ops[i]) (i := i) (by simp [hlt]) e he' hb
        have h2 := ih e.on h1
        have h3 : e.on < L.size := by omega
        simp [h3] at h2 ⊢
        exact h2⟩
      rw [hr] at hmem; cases hmem
theorem nodup_len : ∀ (k : Nat) (l : List Nat), l.Nodup → (∀ i ∈ l, i < k) → l.length ≤ k
  | 0, l, _, h => by
    cases l with
    | nil => simp
    | cons x xs => exact absurd (h x (by simp)) (by omega)
  | k + 1, l, hn, h => by
    have h1 := nodup_len k (l.erase k) (hn.erase k) fun i hi => by
      have := (hn.mem_erase_iff).1 hi
      have h2 := h i this.2
      have h3 := this.1
      omega
    have h2 : l.length ≤ (l.erase k).length + 1 := by
      by_cases hk : k ∈ l
      · rw [List.length_erase_of_mem hk]; omega
      · rw [List.erase_of_not_mem hk]; omega
    omega
theorem mem_of_full {k : Nat} {l : List Nat} (hn : l.Nodup) (h : ∀ i, i ∈ l → i < k) (hl : k ≤ l.length) {i : Nat} (hi : i < k) : i ∈ l := by
  refine Classical.byContradiction fun hni => ?_
  have := nodup_len k (i :: l) (List.nodup_cons.2 ⟨hni, hn⟩) fun j hj => by
    rcases List.mem_cons.1 hj with rfl | hj
    · exact hi
    · exact h j hj
  simp at this
  omega
theorem linearise_props {ops : Array Oper} (he : edgesOk ops = true) (t : Nat) : Lin ops (Region.linearise .any ops t) ∧ (List.range ops.size).Perm (Region.linearise .any ops t) := by
  obtain ⟨p1, p2, p3, p4⟩ := go_props (ops := ops) ops.size t (Array.replicate ops.size false) (by simp)
  have hun : ∀ i, (Array.replicate ops.size false).getD i true = false ↔ i < ops.size := fun i => by
    by_cases h : i < ops.size <;> simp [h]
  have hall : ∀ i, i ∈ Region.linearise.go .any ops ops.size t (Array.replicate ops.size false) [] → i < ops.size := fun i hi => (hun i).1 (p3 i hi)
  have hf : ∀ i, (Array.replicate ops.size false).getD i false = false := fun i => by
    by_cases h : i < ops.size <;> simp [h]
  refine ⟨fun S i rest h => ?_, ?_⟩
  · obtain ⟨o, ho, hd⟩ := p1 S i rest h
    refine ⟨o, ho, fun e he hb => (hd e he hb).resolve_left ?_⟩
    rw [hf]; simp
  · refine (List.perm_ext_iff_of_nodup List.nodup_range p2).2 fun i => ⟨fun hi => ?_, fun hi => by simpa using hall i hi⟩
    rcases p4 i ((hun i).2 (by simpa using hi)) with h | h | ⟨L, hL, hr, hu⟩
    · exact h
    · -- as many as there are: all
      exact mem_of_full p2 hall h (by simpa using hi)
    · have := ready_ne he hL hr i
      rw [this] at hu; cases hu
end Go.Proofs.YteapggpkgfiacaaGreat.Ev

