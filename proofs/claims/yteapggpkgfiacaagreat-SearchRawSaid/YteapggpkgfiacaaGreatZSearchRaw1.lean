/- Parts of the proof of SearchRaw, one behind the other. Conditions: none. -/
import Derived.Orders
import Derived.Laws.Sem
import Derived.KernelRfl
namespace Go.Proofs.YteapggpkgfiacaaGreat
theorem z1z (h : Decidable True) : @decide True h = true := by simp
theorem z2z (h : Decidable False) : @decide False h = false := by simp
theorem z3z : (!true) = false := rfl
theorem z4z : (!false) = true := rfl
theorem z5z {α : Type _} [BEq α] [LawfulBEq α] (a : α) : (a != a) = false := bne_self_eq_false a
theorem z6z {α : Type _} [BEq α] [ReflBEq α] (a : α) : (a == a) = true := by simp
theorem z7z {α : Type _} : (none : Option α).isNone = true := rfl
theorem z8z {α : Type _} {a : α} : (some a).isNone = false := rfl
end Go.Proofs.YteapggpkgfiacaaGreat

namespace Go.Proofs.YteapggpkgfiacaaGreat.Ev
open Go

abbrev Env := Nat → Option Value
def upd (n d : Nat) (v : Value) (ρ : Env) : Env := fun i => bif Nat.beq i d then (bif Nat.blt d n then some v else none) else ρ i
def updO (n : Nat) (d : Option Nat) (v : Value) (ρ : Env) : Env := match d with | some d => upd n d v ρ | none => ρ
def Agree (n : Nat) (ρ : Env) (a : Act) : Prop := a.tmps.size = n ∧ a.defers = [] ∧ ∀ t v, ρ t = some v → a.tmps[t]? = some v
theorem Agree.put {n : Nat} {ρ : Env} {a : Act} (h : Agree n ρ a) (d : Option Nat) (v : Value) : Agree n (updO n d v ρ) (a.put d v) := by
  obtain ⟨h1, h2, h3⟩ := h
  cases d with
  | none => exact ⟨h1, h2, h3⟩
  | some d =>
    refine ⟨by simp [Act.put, h1], h2, fun t u hu => ?_⟩
    simp only [updO, upd] at hu
    by_cases hd : t = d
    · subst hd
      simp only [Nat.beq_refl, cond_true] at hu
      cases hb : Nat.blt t n with
      | false => rw [hb] at hu; cases hu
      | true =>
        rw [hb] at hu
        simp only [cond_true, Option.some.injEq] at hu
        subst hu
        have hlt : t < n := by simpa [Nat.blt_eq] using hb
        simp [Act.put, h1, hlt]
    · have : Nat.beq t d = false := by
        cases hb : Nat.beq t d with
        | false => rfl
        | true => exact absurd (Nat.eq_of_beq_eq_true hb) hd
      rw [this] at hu
      simp only [cond_false] at hu
      have := h3 t u hu
      simp [Act.put, Array.getElem?_setIfInBounds_ne (Ne.symm hd), this]
def opv (ρ : Env) : Operand → Option Value
  | .tmp t => ρ t
  | .const v => some v
  | .global g => some (.pointer (some ⟨g, 0, none⟩))
  | .func f => some (.func (.func f) #[] #[])
theorem Agree.eval {n : Nat} {ρ : Env} {a : Act} (h : Agree n ρ a) {x : Operand} {v : Value} (hv : opv ρ x = some v) : a.eval x = v := by
  cases x with
  | tmp t => have := h.2.2 t v hv; simp [Act.eval, this]
  | const u => exact Option.some.inj hv
  | global g => exact Option.some.inj hv
  | func f => exact Option.some.inj hv

def wpB {α : Type} (o : Option α) (K : α → Prop) : Prop := match o with | some v => K v | none => False
theorem wpB_iff {α : Type} {o : Option α} {K : α → Prop} : wpB o K ↔ ∃ v, o = some v ∧ K v := by
  cases o <;> simp [wpB]
noncomputable def pureRun (P : Program) (m : Sem Value) : Option Value := open Classical in if h : ∃ v, ∀ w, m.run P w = .ok v w then some h.choose else none
theorem pureRun_spec {P : Program} {m : Sem Value} {v : Value} (h : pureRun P m = some v) (w : World) : m.run P w = .ok v w := by
  unfold pureRun at h
  split at h
  · rename_i hx; cases h; exact hx.choose_spec w
  · cases h
theorem ap {P : Program} {m : Sem Value} {v : Value} (h : ∀ w, m.run P w = .ok v w) : pureRun P m = some v := by
  unfold pureRun
  have hx : ∃ v, ∀ w, m.run P w = .ok v w := ⟨v, h⟩
  rw [dif_pos hx]
  have h1 := hx.choose_spec default
  rw [h default] at h1
  injection h1 with h1
  rw [h1]
def cellsAt (w : World) (a : Addr) : Nat → Nat → Option (List Value)
  | _, 0 => some []
  | i, n + 1 => match w.cell? (a.add i), cellsAt w a (i + 1) n with
    | some v, some vs => some (v :: vs)
    | _, _ => none
def isAggD : TypeDesc → Bool
  | .struct _ | .array _ _ => true
  | _ => false
def ldv (P : Program) (t : TypeId) (x : Value) (w : World) : Option Value :=
  match x with
  | .pointer (some a) => (P.underlying t).bind fun d => bif isAggD d then (P.info? t).bind fun i => (cellsAt w a 0 i.size).map fun l => .agg l.toArray else w.cell? a
  | _ => none
theorem loadCellsFrom_of {P : Program} {w : World} {a : Addr} : ∀ {n i : Nat} {l : List Value} {acc : Array Value}, cellsAt w a i n = some l → (loadCellsFrom a i n acc).run P w = .ok (acc ++ l.toArray) w
  | 0, i, l, acc, h => by simp [cellsAt] at h; subst h; simp [loadCellsFrom]
  | n + 1, i, l, acc, h => by
    simp only [cellsAt] at h
    split at h
    · rename_i v vs h1 h2
      cases h
      simp only [loadCellsFrom, Sem.run_bind, run_load, h1, Result.andThen_ok, loadCellsFrom_of h2]
      congr 1
      apply Array.toList_inj.1; simp
    · cases h
theorem ldv_spec {P : Program} {t : TypeId} {x : Value} {w : World} {v : Value} (h : ldv P t x w = some v) : (Instr.loadAt t x).run P w = .ok v w := by
  unfold ldv at h
  split at h
  case h_2 => cases h
  rename_i a
  obtain ⟨d, hd, h⟩ := Option.bind_eq_some_iff.1 h
  have hag : (isAgg t).run P w = .ok (isAggD d) w := by
    simp only [isAgg, underlying, Sem.run_bind, run_program, Result.andThen_ok, hd, Sem.run_pure]
    cases d <;> rfl
  cases hx : isAggD d with
  | false =>
    rw [hx] at h
    simp only [cond_false] at h
    simp only [Instr.loadAt, Instr.sureAddr, pure_bind, loadVar, Sem.run_bind, hag, hx, Result.andThen_ok, Bool.false_eq_true, if_false, run_load, h]
  | true =>
    rw [hx] at h
    simp only [cond_true] at h
    obtain ⟨i, hi, h⟩ := Option.bind_eq_some_iff.1 h
    obtain ⟨l, hl, rfl⟩ := Option.map_eq_some_iff.1 h
    simp only [Instr.loadAt, Instr.sureAddr, pure_bind, loadVar, Sem.run_bind, hag, hx, Result.andThen_ok, if_true, sizeOf, typeInfo, run_program, hi, Sem.run_pure, loadCells, loadCellsFrom_of hl]
    simp
def Ext (w w' : World) : Prop := ∀ a v, w.cell? a = some v → w'.cell? a = some v
theorem cellsAt_ext {w w' : World} (h : Ext w w') {a : Addr} : ∀ {n i : Nat} {l : List Value}, cellsAt w a i n = some l → cellsAt w' a i n = some l
  | 0, _, _, hl => hl
  | n + 1, i, l, hl => by
    simp only [cellsAt] at hl ⊢
    split at hl
    · rename_i v vs h1 h2
      cases hl
      rw [h _ _ h1, cellsAt_ext h h2]
    · cases hl
theorem ldv_ext {P : Program} {w w' : World} (h : Ext w w') {t : TypeId} {x v : Value} (hl : ldv P t x w = some v) : ldv P t x w' = some v := by
  unfold ldv at hl ⊢
  split at hl
  case h_2 => cases hl
  obtain ⟨d, hd, hl1⟩ := Option.bind_eq_some_iff.1 hl
  rw [hd]
  simp only [Option.bind_some]
  cases hx : isAggD d with
  | false => rw [hx] at hl1; exact h _ _ hl1
  | true =>
    rw [hx] at hl1
    simp only [cond_true] at hl1 ⊢
    obtain ⟨i, hi, hl2⟩ := Option.bind_eq_some_iff.1 hl1
    obtain ⟨l, hl3, rfl⟩ := Option.map_eq_some_iff.1 hl2
    rw [hi]
    simp only [Option.bind_some, cellsAt_ext h hl3, Option.map_some]
def effv (P : Program) (m : Sem Value) (w : World) (K : Value → World → Prop) : Prop := match m.run P w with | .ok v w' => K v w' | .halt _ _ => False
def effu (P : Program) (m : Sem Unit) (w : World) (K : World → Prop) : Prop := match m.run P w with | .ok _ w' => K w' | .halt _ _ => False
theorem effv_of {P : Program} {m : Sem Value} {w w' : World} {v : Value} {K : Value → World → Prop} (h : m.run P w = .ok v w') (hk : K v w') : effv P m w K := by
  unfold effv; rw [h]; exact hk
def CallR (P : Program) (f : FuncId) (args : List Value) (w : World) (Q : Value → World → Prop) : Prop :=
  Calls P f args.toArray w fun e w' => ∃ v, e = .returned v ∧ Q v w'
theorem CallR.mono {P : Program} {f : FuncId} {args : List Value} {w : World} {Q Q' : Value → World → Prop} (h : CallR P f args w Q) (hq : ∀ v w', Q v w' → Q' v w') : CallR P f args w Q' :=
  Calls.mono h fun _ _ ⟨v, he, hv⟩ => ⟨v, he, hq _ _ hv⟩

def yes (c : Value) (want : Bool) : Bool := match c with | .bool b => b == want | _ => false
def gv (c : Value) (want : Bool) (v : Value) : Value := bif yes c want then v else undef
def gd (c : Value) (want : Bool) (x : Option Value) : Option Value := bif yes c want then x else some undef
def gE (c : Value) (want : Bool) (C : (Value → World → Prop) → Prop) (K : Value → World → Prop) (w : World) : Prop := bif yes c want then C K else K undef w
def gU (c : Value) (want : Bool) (C : (World → Prop) → Prop) (K : World → Prop) (w : World) : Prop := bif yes c want then C K else K w
def pickv (c : Value) (a b : Option Value) : Option Value := match c with | .bool true => a | .bool false => b | _ => none
def nilv (v : Value) : Option Value := match v with | .pointer (some a) => some (.pointer (some a)) | _ => none
def cnd (c : Value) (a b : Prop) : Prop := match c with | .bool true => a | .bool false => b | _ => False

inductive OpK where
  | val (v : Value)
  | opt (v : Option Value)
  | pure (m : Sem Value)
  | read (t : TypeId) (x : Value)
  | eff (m : Sem Value)
  | effU (m : Sem Unit)
  | call (g : FuncId) (args : List Value)
  | bad
def opvs (ρ : Env) : List Operand → Option (List Value)
  | [] => some []
  | x :: xs => match opv ρ x, opvs ρ xs with | some v, some vs => some (v :: vs) | _, _ => none
def opparts (ρ : Env) : List (Nat × Operand) → Option (List (Nat × Value))
  | [] => some []
  | (i, x) :: xs => match opv ρ x, opparts ρ xs with | some v, some vs => some ((i, v) :: vs) | _, _ => none
def opmay (ρ : Env) : Option Operand → Option (Option Value)
  | none => some none
  | some x => match opv ρ x with | some v => some (some v) | none => none
def on1 (o : Option Value) (f : Value → OpK) : OpK := match o with | some v => f v | none => .bad
def on2 (o p : Option Value) (f : Value → Value → OpK) : OpK := match o, p with | some v, some u => f v u | _, _ => .bad
def onL {α : Type} (o : Option α) (f : α → OpK) : OpK := match o with | some v => f v | none => .bad
def builtinK (b : Builtin) (ts : Array TypeId) (t : TypeId) (vs : List Value) : OpK :=
  match b with
  | .len => .pure (Builtin.len_ ts t vs.toArray)
  | .cap => .pure (Builtin.cap_ ts t vs.toArray)
  | .min => .pure (Builtin.min_ ts t vs.toArray)
  | .max => .pure (Builtin.max_ ts t vs.toArray)
  | .append => .eff (Builtin.append_ ts t vs.toArray)
  | .copy => .eff (Builtin.copy_ ts t vs.toArray)
  | _ => .bad
def callK (ent : FuncId → Bool) (f : Option Value) (vs : Option (List Value)) : OpK :=
  match f, vs with
  | some (.func (.func g) first captured), some vs => bif ent g then .call g (first.toList ++ vs ++ captured.toList) else .bad
  | _, _ => .bad
def cvE (s d : TypeId) : Bool := Nat.beq d 9 || Nat.beq s 9
def opk (ent : FuncId → Bool) (ρ : Env) (o : Oper) : OpK :=
  match o.op with
  | .move x | .assign x => on1 (opv ρ x) .val
  | .pick c a b => on1 (opv ρ c) fun v => .opt (pickv v (opv ρ a) (opv ρ b))
  | .alloc t => .eff (Instr.alloc t true (.tuple #[]))
  | .box t x => on1 (opv ρ x) fun v => .eff (Instr.box t v)
  | .build t ps => onL (opparts ρ ps.toList) fun vs => .pure (Instr.build t vs.toArray)
  | .buildSlice t n ps => onL (opparts ρ ps.toList) fun vs => .eff (Instr.buildSlice t n vs.toArray)
  | .load t a => on1 (opv ρ a) fun v => .read t v
  | .store t a x => on2 (opv ρ a) (opv ρ x) fun a v => .effU (Instr.storeAt t a v)
  | .nilCheck x => on1 (opv ρ x) fun v => .opt (nilv v)
  | .binOp op t x y _ => on2 (opv ρ x) (opv ρ y) fun a b => .pure (do eqGuard op t x y a b; binOp op t a b)
  | .unOp op _ x => on1 (opv ρ x) fun v => .pure (Op.unary op v)
  | .convert s d x => on1 (opv ρ x) fun v => bif cvE s d then .eff (convert s d v) else .pure (convert s d v)
  | .makeInterface t x => on1 (opv ρ x) fun v => .pure (Instr.makeInterface t v)
  | .makeFunc fn first cap => onL (opvs ρ first.toList) fun a => onL (opvs ρ cap.toList) fun b => .val (.func fn a.toArray b.toArray)
  | .makeSlice t l c => on2 (opv ρ l) (opv ρ c) fun a b => .eff (Instr.makeSlice t a b)
  | .slice t x lo hi mx => on1 (opv ρ x) fun v => onL (opmay ρ lo) fun l => onL (opmay ρ hi) fun h => onL (opmay ρ mx) fun m => .pure (Instr.sliceAt t v l h m)
  | .fieldAddr t x f => on1 (opv ρ x) fun v => .pure (Instr.fieldAt t v f)
  | .field t x f => on1 (opv ρ x) fun v => .pure (Instr.field t v f)
  | .indexAddr t x i => on2 (opv ρ x) (opv ρ i) fun a b => .pure (Instr.indexAt t a b)
  | .index t x i => on2 (opv ρ x) (opv ρ i) fun a b => .pure (Instr.index t a b)
  | .typeAssert x xt t ok => on1 (opv ρ x) fun v => .pure (Instr.typeAssert v xt t ok)
  | .extract x i => on1 (opv ρ x) fun v => .pure (Instr.extract v i)
  | .call c => match c.callee with
    | .builtin b => onL (opvs ρ c.args.toList) fun vs => builtinK b c.argTypes o.type vs
    | .value f => callK ent (opv ρ f) (opvs ρ c.args.toList)
    | .invoke _ _ => .bad
  | _ => .bad

def OpK.Is (P : Program) (m : Sem Next) : OpK → Prop
  | .val v => m = Pure.pure (.value v)
  | .opt o => ∀ v, o = some v → ∀ w, m.run P w = .ok (.value v) w
  | .pure s | .eff s => m = (do Pure.pure (.value (← s)))
  | .read t x => m = (do Pure.pure (.value (← Instr.loadAt t x)))
  | .effU s => m = (do s; Pure.pure .skip)
  | .call g args => ∀ w, m.run P w = .ok (.enter g args.toArray) w
  | .bad => True

def EntOk (P : Program) (ent : FuncId → Bool) : Prop := ∀ g, ent g = true → ∃ fn c, P.funcs[g]? = some fn ∧ fn.body = some c ∧ fn.name ≠ "runtime.NumGoroutine"

theorem opvs_eval {n : Nat} {ρ : Env} {a : Act} (h : Agree n ρ a) : ∀ {xs : List Operand} {vs : List Value}, opvs ρ xs = some vs → xs.map a.eval = vs
  | [], vs, hv => by simp [opvs] at hv; simp [hv]
  | x :: xs, vs, hv => by
    simp only [opvs] at hv
    split at hv
    · rename_i v us h1 h2
      cases hv
      simp [h.eval h1, opvs_eval h h2]
    · cases hv
theorem opparts_eval {n : Nat} {ρ : Env} {a : Act} (h : Agree n ρ a) : ∀ {xs : List (Nat × Operand)} {vs : List (Nat × Value)}, opparts ρ xs = some vs → (xs.map fun (i, x) => (i, a.eval x)) = vs
  | [], vs, hv => by simp [opparts] at hv; simp [hv]
  | (i, x) :: xs, vs, hv => by
    simp only [opparts] at hv
    split at hv
    · rename_i v us h1 h2
      cases hv
      simp only [List.map_cons, h.eval h1]
      have := opparts_eval h h2
      rw [this]
    · cases hv
theorem opmay_eval {n : Nat} {ρ : Env} {a : Act} (h : Agree n ρ a) {x : Option Operand} {v : Option Value} (hv : opmay ρ x = some v) : x.map a.eval = v := by
  cases x with
  | none => simp [opmay] at hv; simp [hv]
  | some x =>
    simp only [opmay] at hv
    split at hv
    · rename_i u h1; cases hv; simp [h.eval h1]
    · cases hv
theorem opk_is {P : Program} {ent : FuncId → Bool} (he : EntOk P ent) {n : Nat} {ρ : Env} {a : Act} (h : Agree n ρ a) (o : Oper) : (opk ent ρ o).Is P (execOp a.eval o) := by
  obtain ⟨dst, op, type, pos, after, guard⟩ := o
  have l1 : ∀ (x : Option Value) (f : Value → OpK) (m : Sem Next), (∀ v, x = some v → (f v).Is P m) → (on1 x f).Is P m := by
    intro x f m hx
    cases x with
    | none => trivial
    | some v => exact hx v rfl
  have l2 : ∀ (x y : Option Value) (f : Value → Value → OpK) (m : Sem Next), (∀ v u, x = some v → y = some u → (f v u).Is P m) → (on2 x y f).Is P m := by
    intro x y f m hx
    cases x with
    | none => trivial
    | some v =>
      cases y with
      | none => trivial
      | some u => exact hx v u rfl rfl
  have lL : ∀ {α : Type} (x : Option α) (f : α → OpK) (m : Sem Next), (∀ v, x = some v → (f v).Is P m) → (onL x f).Is P m := by
    intro α x f m hx
    cases x with
    | none => trivial
    | some v => exact hx v rfl
  cases op <;> simp only [opk, execOp] <;> try trivial
  case move x => exact l1 _ _ _ fun v hv => by rw [h.eval hv]; rfl
  case assign x => exact l1 _ _ _ fun v hv => by rw [h.eval hv]; rfl
  case pick c x y =>
    refine l1 _ _ _ fun v hv => ?_
    rw [h.eval hv]
    intro u hu w
    unfold pickv at hu
    split at hu
    · rw [h.eval hu]; rfl
    · rw [h.eval hu]; rfl
    · cases hu
  case box t x => exact l1 _ _ _ fun v hv => by rw [h.eval hv]; rfl
  case build t ps =>
    refine lL _ _ _ fun v hv => ?_
    have := opparts_eval h hv
    show _ = _
    rw [← this]
    congr 1
    congr 1
    apply Array.toList_inj.1; simp
  case buildSlice t n ps =>
    refine lL _ _ _ fun v hv => ?_
    have := opparts_eval h hv
    show _ = _
    rw [← this]
    congr 1
    congr 1
    apply Array.toList_inj.1; simp
  case load t x => exact l1 _ _ _ fun v hv => by rw [h.eval hv]; rfl
  case store t x y => exact l2 _ _ _ _ fun v u hv hu => by rw [h.eval hv, h.eval hu]; rfl
  case nilCheck x =>
    refine l1 _ _ _ fun v hv => ?_
    rw [h.eval hv]
    intro u hu w
    unfold nilv at hu
    split at hu
    · cases hu; rfl
    · cases hu
  case binOp op t x y yt => exact l2 _ _ _ _ fun v u hv hu => by rw [h.eval hv, h.eval hu]; rfl
  case unOp op t x => exact l1 _ _ _ fun v hv => by rw [h.eval hv]; rfl
  case convert s d x => exact l1 _ _ _ fun v hv => by rw [h.eval hv]; cases cvE s d <;> rfl
  case makeInterface t x => exact l1 _ _ _ fun v hv => by rw [h.eval hv]; rfl
  case makeFunc fn first cap =>
    refine lL _ _ _ fun v hv => lL _ _ _ fun u hu => ?_
    have h1 := opvs_eval h hv
    have h2 := opvs_eval h hu
    show _ = _
    have e1 : first.map a.eval = v.toArray := by rw [← h1]; apply Array.toList_inj.1; simp
    have e2 : cap.map a.eval = u.toArray := by rw [← h2]; apply Array.toList_inj.1; simp
    rw [e1, e2]; rfl
  case makeSlice t l c => exact l2 _ _ _ _ fun v u hv hu => by rw [h.eval hv, h.eval hu]; rfl
  case slice t x lo hi mx =>
    refine l1 _ _ _ fun v hv => lL _ _ _ fun l hl => lL _ _ _ fun g hg => lL _ _ _ fun m hm => ?_
    rw [h.eval hv, opmay_eval h hl, opmay_eval h hg, opmay_eval h hm]; rfl
  case fieldAddr t x f => exact l1 _ _ _ fun v hv => by rw [h.eval hv]; rfl
  case field t x f => exact l1 _ _ _ fun v hv => by rw [h.eval hv]; rfl
  case indexAddr t x i => exact l2 _ _ _ _ fun v u hv hu => by rw [h.eval hv, h.eval hu]; rfl
  case index t x i => exact l2 _ _ _ _ fun v u hv hu => by rw [h.eval hv, h.eval hu]; rfl
  case typeAssert x xt t ok => exact l1 _ _ _ fun v hv => by rw [h.eval hv]; rfl
  case extract x i => exact l1 _ _ _ fun v hv => by rw [h.eval hv]; rfl
  case call c =>
    obtain ⟨callee, args, argTypes⟩ := c
    cases callee with
    | invoke r m => trivial
    | builtin b =>
      refine lL _ _ _ fun vs hvs => ?_
      have h1 : args.map a.eval = vs.toArray := by rw [← opvs_eval h hvs]; apply Array.toList_inj.1; simp
      simp only [resolve, h1, pure_bind]
      cases b <;> simp only [builtinK, invoke, builtin] <;> first | trivial | rfl
    | value f =>
      show (callK ent (opv ρ f) (opvs ρ args.toList)).Is P _
      cases hf : opv ρ f with
      | none => trivial
      | some fv =>
        cases hvs : opvs ρ args.toList with
        | none => unfold callK; split <;> first | trivial | simp_all
        | some vs =>
          unfold callK
          split
          · rename_i g first captured us e1 e2
            cases e1; cases e2
            cases hg : ent g with
            | false => trivial
            | true =>
              intro w
              obtain ⟨fn, c, hfn, hb, hn⟩ := he g hg
              have h1 : args.map a.eval = vs.toArray := by rw [← opvs_eval h hvs]; apply Array.toList_inj.1; simp
              have hn' : (fn.name == "runtime.NumGoroutine") = false := by simpa using hn
              simp only [resolve, h.eval hf, Deferred.ofValue, pure_bind, invoke, callFunc, h1, Sem.run_bind, run_program, Result.andThen_ok, hfn, hn', Bool.false_eq_true, if_false, hb, Option.isNone_some, Sem.run_pure]
              congr 2
              apply Array.toList_inj.1; simp
          · trivial
end Go.Proofs.YteapggpkgfiacaaGreat.Ev

