/- One operation, and a region of operations in the order of the text, as a Lean formula; what the formula says of the machine. No program is named here. -/
import Derived.Test.YtgamnncehjcdiaaEv1
import Derived.Tactics
namespace Go.Proofs.Ytgamnncehjcdiaa.Ev
open Go

/-- an operation's guard: 'none': it can't be told -/
def gOf (ops : Array Oper) (ρ : Env) (o : Oper) : Option (Option (Value × Bool)) :=
  match o.guard with
  | none => some none
  | some (g, want) => match (ops[g]?).bind (·.dst) with
    | none => none
    | some s => match ρ s with
      | none => none
      | some c => some (some (c, want))
def evP (P : Program) (k : OpK) (w : World) (K : Value → World → Prop) : Prop :=
  match k with
  | .val v => K v w
  | .opt v => wpB v fun v => K v w
  | .pure m => wpB (pureRun P m) fun v => K v w
  | .read t x => wpB (ldv P t x w) fun v => K v w
  | .eff m => effv P m w K
  | .effU m => effu P m w fun w' => K undef w'
  | .call g args => CallR P g args w K
  | .bad => False
def evG (P : Program) (k : OpK) (c : Value) (want : Bool) (w : World) (K : Value → World → Prop) : Prop :=
  match k with
  | .val v => K (gv c want v) w
  | .opt v => wpB (gd c want v) fun v => K v w
  | .pure m => wpB (gd c want (pureRun P m)) fun v => K v w
  | .read t x => wpB (gd c want (ldv P t x w)) fun v => K v w
  | .eff m => gE c want (effv P m w) K w
  | .effU m => gU c want (effu P m w) (fun w' => K undef w') w
  | .call g args => gE c want (CallR P g args w) K w
  | .bad => False
def evX (P : Program) (g : Option (Option (Value × Bool))) (k : OpK) (w : World) (K : Value → World → Prop) : Prop :=
  match g with
  | none => False
  | some none => evP P k w K
  | some (some (c, want)) => evG P k c want w K
def evOp (P : Program) (ent : FuncId → Bool) (n : Nat) (ops : Array Oper) (o : Oper) (ρ : Env) (w : World) (K : Env → World → Prop) : Prop :=
  evX P (gOf ops ρ o) (opk ent ρ o) w fun v w' => K (updO n o.dst v ρ) w'
def evOps (P : Program) (ent : FuncId → Bool) (n : Nat) (ops : Array Oper) : List Oper → Env → World → (Env → World → Prop) → Prop
  | [], ρ, w, K => K ρ w
  | o :: rest, ρ, w, K => evOp P ent n ops o ρ w fun ρ' w' => evOps P ent n ops rest ρ' w' K

section
variable {P : Program} {ent : FuncId → Bool} {n : Nat} {ops : Array Oper} {ρ : Env} {a : Act} {w : World} {o : Oper}

theorem gOf_none (h : gOf ops ρ o = some none) : Region.wanted o (yielded ops a.tmps) = true := by
  unfold gOf at h
  cases hg : o.guard with
  | none => simp [Region.wanted, hg]
  | some gw =>
    obtain ⟨g, want⟩ := gw
    rw [hg] at h
    simp only at h
    cases hs : (ops[g]?).bind (·.dst) with
    | none => rw [hs] at h; cases h
    | some s =>
      rw [hs] at h
      simp only at h
      cases hc : ρ s with
      | none => rw [hc] at h; cases h
      | some c => rw [hc] at h; cases h
theorem gOf_some {c : Value} {want : Bool} (ha : Agree n ρ a) (h : gOf ops ρ o = some (some (c, want))) : Region.wanted o (yielded ops a.tmps) = yes c want := by
  unfold gOf at h
  cases hg : o.guard with
  | none => rw [hg] at h; cases h
  | some gw =>
    obtain ⟨g, want'⟩ := gw
    rw [hg] at h
    simp only at h
    cases hs : (ops[g]?).bind (·.dst) with
    | none => rw [hs] at h; cases h
    | some s =>
      rw [hs] at h
      simp only at h
      cases hc : ρ s with
      | none => rw [hc] at h; cases h
      | some c' =>
        rw [hc] at h
        cases h
        have h1 := ha.2.2 s c hc
        simp only [Region.wanted, hg, yielded, hs, Option.bind_some, h1, yes]
        cases c <;> simp

/-- what one operation's formula says of the machine -/
theorem evP_sound (he : EntOk P ent) (ha : Agree n ρ a) {K : Value → World → Prop} {next : Act → World → Prop} {Q : Exit → Act → World → Prop}
    (hk : ∀ v w', K v w' → next (a.put o.dst v) w') (h : evP P (opk ent ρ o) w K) : o.wp P a w next Q := by
  have hi := opk_is (P := P) he ha o
  unfold Oper.wp
  unfold evP at h
  cases hk' : opk ent ρ o with
  | val v =>
    rw [hk'] at h hi
    rw [hi, Sem.run_pure]
    exact hk _ _ h
  | opt v =>
    rw [hk'] at h hi
    obtain ⟨u, hu, hK⟩ := wpB_iff.1 h
    rw [hi u hu w]
    exact hk _ _ hK
  | pure m =>
    rw [hk'] at h hi
    obtain ⟨u, hu, hK⟩ := wpB_iff.1 h
    rw [hi]
    simp only [Sem.run_bind, pureRun_spec hu w, Result.andThen_ok, Sem.run_pure]
    exact hk _ _ hK
  | read t x =>
    rw [hk'] at h hi
    obtain ⟨u, hu, hK⟩ := wpB_iff.1 h
    rw [hi]
    simp only [Sem.run_bind, ldv_spec hu, Result.andThen_ok, Sem.run_pure]
    exact hk _ _ hK
  | eff m =>
    rw [hk'] at h hi
    rw [hi]
    simp only [effv] at h
    simp only [Sem.run_bind]
    cases hr : m.run P w with
    | halt x w' => rw [hr] at h; exact h.elim
    | ok v w' => rw [hr] at h; simp only [Result.andThen_ok, Sem.run_pure]; exact hk _ _ h
  | effU m =>
    rw [hk'] at h hi
    rw [hi]
    simp only [effu] at h
    simp only [Sem.run_bind]
    cases hr : m.run P w with
    | halt x w' => rw [hr] at h; exact h.elim
    | ok v w' => rw [hr] at h; simp only [Result.andThen_ok, Sem.run_pure]; exact hk _ _ h
  | call g args =>
    rw [hk'] at h hi
    rw [hi w, Oper.upon_enter]
    exact Calls.mono h fun e w' ⟨v, he, hv⟩ => by subst he; exact hk _ _ hv
  | bad => rw [hk'] at h; exact h.elim
theorem evG_yes {k : OpK} {c : Value} {want : Bool} {K : Value → World → Prop} (hy : yes c want = true) : evG P k c want w K = evP P k w K := by
  cases k <;> simp only [evP, evG, gv, gd, gE, gU, hy, cond_true]
theorem evG_no {k : OpK} {c : Value} {want : Bool} {K : Value → World → Prop} (hy : yes c want = false) (h : evG P k c want w K) : K undef w := by
  cases k <;> simp only [evG, gv, gd, gE, gU, hy, cond_false] at h <;> exact h
theorem evOp_sound (he : EntOk P ent) (ha : Agree n ρ a) {K : Env → World → Prop} {next : Act → World → Prop} {Q : Exit → Act → World → Prop}
    (hk : ∀ ρ' a' w', Agree n ρ' a' → K ρ' w' → next a' w') (h : evOp P ent n ops o ρ w K) :
    if Region.wanted o (yielded ops a.tmps) then o.wp P a w next Q ∨ (o.asks P a w ∧ LetsOut Q) else next (a.put o.dst undef) w := by
  unfold evOp evX at h
  have hk1 : ∀ v w', K (updO n o.dst v ρ) w' → next (a.put o.dst v) w' := fun v w' h => hk _ _ _ (ha.put o.dst v) h
  cases hg : gOf ops ρ o with
  | none => rw [hg] at h; exact h.elim
  | some gg =>
    rw [hg] at h
    cases gg with
    | none =>
      rw [if_pos (gOf_none hg)]
      exact .inl (evP_sound he ha hk1 h)
    | some cw =>
      obtain ⟨c, want⟩ := cw
      simp only at h
      rw [gOf_some ha hg]
      cases hy : yes c want with
      | true => rw [if_pos rfl]; rw [evG_yes hy] at h; exact .inl (evP_sound he ha hk1 h)
      | false => rw [if_neg (by simp)]; exact hk1 _ _ (evG_no hy h)
theorem evP_mono {k : OpK} {K K' : Value → World → Prop} (hk : ∀ v w', K v w' → K' v w') (h : evP P k w K) : evP P k w K' := by
  cases k <;> simp only [evP] at h ⊢
  case val v => exact hk _ _ h
  case opt v => obtain ⟨u, hu, h⟩ := wpB_iff.1 h; exact wpB_iff.2 ⟨u, hu, hk _ _ h⟩
  case pure m => obtain ⟨u, hu, h⟩ := wpB_iff.1 h; exact wpB_iff.2 ⟨u, hu, hk _ _ h⟩
  case read t x => obtain ⟨u, hu, h⟩ := wpB_iff.1 h; exact wpB_iff.2 ⟨u, hu, hk _ _ h⟩
  case eff m => unfold effv at *; cases hr : m.run P w <;> rw [hr] at h <;> simp only at h ⊢; exact hk _ _ h
  case effU m => unfold effu at *; cases hr : m.run P w <;> rw [hr] at h <;> simp only at h ⊢; exact hk _ _ h
  case call g args => exact CallR.mono h hk
theorem evG_not {k : OpK} {c : Value} {want : Bool} {K : Value → World → Prop} (hy : yes c want = false) : evG P k c want w K ↔ (k matches .bad) = false ∧ K undef w := by
  cases k <;> simp [evG, gv, gd, gE, gU, hy, wpB]
theorem evX_mono {g : Option (Option (Value × Bool))} {k : OpK} {K K' : Value → World → Prop} (hk : ∀ v w', K v w' → K' v w') (h : evX P g k w K) : evX P g k w K' := by
  unfold evX at h ⊢
  split at h
  · exact h
  · exact evP_mono hk h
  · rename_i c want
    cases hy : yes c want with
    | true => rw [evG_yes hy] at h ⊢; exact evP_mono hk h
    | false => rw [evG_not hy] at h ⊢; exact ⟨h.1, hk _ _ h.2⟩
theorem evOps_sound (he : EntOk P ent) {Q : Exit → Act → World → Prop} {K : Env → World → Prop} (hk : ∀ ρ' a' w', Agree n ρ' a' → K ρ' w' → Q .normal a' w') :
    ∀ (l : List Oper) {ρ : Env} {a : Act} {w : World}, Agree n ρ a → evOps P ent n ops l ρ w K → wpList P ops Q l a w
  | [], _, _, _, ha, h => hk _ _ _ ha h
  | o :: rest, ρ, a, w, ha, h => by
    unfold wpList
    exact evOp_sound he ha (fun ρ' a' w' ha' h' => evOps_sound he hk rest ha' h') h
end
end Go.Proofs.Ytgamnncehjcdiaa.Ev
