/- A region that draws its order comes to what one fixed order comes to, where all that stands in no order may change places. No program is named here. -/
import Derived.Test.YtgamnncehjcdiaaEv3
namespace Go.Proofs.Ytgamnncehjcdiaa.Ev
open Go

/-! ### two operations change places -/
noncomputable def pvX (P : Program) (g : Option (Option (Value × Bool))) (k : OpK) : Option Value :=
  let x : Option (Option Value) := match k with | .val v => some (some v) | .opt v => some v | .pure m => some (pureRun P m) | _ => none
  match g with
  | none => none
  | some none => x.bind id
  | some (some (c, want)) => x.bind fun x => gd c want x
theorem evX_pure {P : Program} {g : Option (Option (Value × Bool))} {k : OpK} (hk : isP k = true) {w : World} {K : Value → World → Prop} : evX P g k w K ↔ ∃ v, pvX P g k = some v ∧ K v w := by
  unfold evX pvX
  cases g with
  | none => simp
  | some gg =>
    cases gg with
    | none => cases k <;> simp [isP] at hk <;> simp [evP, wpB_iff]
    | some cw =>
      obtain ⟨c, want⟩ := cw
      cases k <;> simp [isP] at hk <;> simp [evG, wpB_iff]
      case val v => cases hy : yes c want <;> simp [gv, gd, hy]
def rvX (P : Program) (g : Option (Option (Value × Bool))) (k : OpK) (w : World) : Option Value :=
  match g, k with
  | some none, .read t x => ldv P t x w
  | some (some (c, want)), .read t x => gd c want (ldv P t x w)
  | _, _ => none
theorem evX_read {P : Program} {g : Option (Option (Value × Bool))} {k : OpK} (hk : isR k = true) {w : World} {K : Value → World → Prop} : evX P g k w K ↔ ∃ v, rvX P g k w = some v ∧ K v w := by
  unfold evX rvX
  cases g with
  | none => simp
  | some gg =>
    cases gg with
    | none => cases k <;> simp [isR] at hk <;> simp [evP, wpB_iff]
    | some cw => obtain ⟨c, want⟩ := cw; cases k <;> simp [isR] at hk <;> simp [evG, wpB_iff]
theorem rvX_ext {P : Program} {g : Option (Option (Value × Bool))} {k : OpK} {w w' : World} (h : Ext w w') {v : Value} (hv : rvX P g k w = some v) : rvX P g k w' = some v := by
  unfold rvX at hv ⊢
  split at hv
  · exact ldv_ext h hv
  · rename_i c want t x
    unfold gd at hv ⊢
    cases hy : yes c want with
    | true => rw [hy] at hv; exact ldv_ext h hv
    | false => rw [hy] at hv; exact hv
  · cases hv
theorem evP_ex {P : Program} {k : OpK} {w : World} {K : Value → World → Prop} (h : evP P k w K) : ∃ v w', K v w' := by
  cases k <;> simp only [evP] at h
  case val v => exact ⟨_, _, h⟩
  case opt v => obtain ⟨u, _, h⟩ := wpB_iff.1 h; exact ⟨_, _, h⟩
  case pure m => obtain ⟨u, _, h⟩ := wpB_iff.1 h; exact ⟨_, _, h⟩
  case read t x => obtain ⟨u, _, h⟩ := wpB_iff.1 h; exact ⟨_, _, h⟩
  case eff m => unfold effv at h; split at h; exact ⟨_, _, h⟩; exact h.elim
  case effU m => unfold effu at h; split at h; exact ⟨_, _, h⟩; exact h.elim
  case call g args => obtain ⟨e, w', fr, ⟨v, _, hv⟩, _⟩ := h []; exact ⟨_, _, hv⟩
theorem evX_ex {P : Program} {g : Option (Option (Value × Bool))} {k : OpK} {w : World} {K : Value → World → Prop} (h : evX P g k w K) : ∃ v w', K v w' := by
  unfold evX at h
  split at h
  · exact h.elim
  · exact evP_ex h
  · rename_i c want
    cases hy : yes c want with
    | true => rw [evG_yes hy] at h; exact evP_ex h
    | false => exact ⟨_, _, evG_no hy h⟩
theorem Ext.refl (w : World) : Ext w w := fun _ _ h => h
theorem evX_alloc {P : Program} {g : Option (Option (Value × Bool))} {k : OpK} (hk : AllocK P k) {w : World} {K : Value → World → Prop} (h : evX P g k w K) : evX P g k w fun v w' => Ext w w' ∧ K v w' := by
  have plain : evP P k w K → evP P k w fun v w' => Ext w w' ∧ K v w' := by
    intro h0
    cases k with
    | eff m =>
      simp only [evP] at h0 ⊢
      unfold effv at *
      cases hr : m.run P w with
      | ok v w' => rw [hr] at h0; exact ⟨hk _ _ _ hr, h0⟩
      | halt x w' => rw [hr] at h0; exact h0
    | bad => exact h0
    | _ => exact hk.elim
  unfold evX at h ⊢
  split at h
  · exact h
  · exact plain h
  · rename_i c want
    cases hy : yes c want with
    | true => rw [evG_yes hy] at h ⊢; exact plain h
    | false => rw [evG_not hy] at h ⊢; exact ⟨h.1, .refl w, h.2⟩
theorem evX_swap {P : Program} {gj gi : Option (Option (Value × Bool))} {kj ki : OpK} {w : World} {K : Value → Value → World → Prop}
    (hk : isP kj = true ∨ isP ki = true ∨ (isR kj = true ∧ isR ki = true) ∨ (isR kj = true ∧ AllocK P ki))
    (h : evX P gj kj w fun v w1 => evX P gi ki w1 fun u w2 => K v u w2) : evX P gi ki w fun u w1 => evX P gj kj w1 fun v w2 => K v u w2 := by
  rcases hk with hj | hi | ⟨hj, hi⟩ | ⟨hj, hi⟩
  · obtain ⟨v, hv, h1⟩ := (evX_pure hj).1 h
    exact evX_mono (fun u w1 h2 => (evX_pure hj).2 ⟨v, hv, h2⟩) h1
  · obtain ⟨v, w1, h1⟩ := evX_ex h
    obtain ⟨u, hu, _⟩ := (evX_pure hi).1 h1
    refine (evX_pure hi).2 ⟨u, hu, evX_mono (fun v w1 h2 => ?_) h⟩
    obtain ⟨u', hu', h3⟩ := (evX_pure hi).1 h2
    rw [hu] at hu'; cases hu'
    exact h3
  · obtain ⟨v, hv, h1⟩ := (evX_read hj).1 h
    obtain ⟨u, hu, h2⟩ := (evX_read hi).1 h1
    exact (evX_read hi).2 ⟨u, hu, (evX_read hj).2 ⟨v, hv, h2⟩⟩
  · obtain ⟨v, hv, h1⟩ := (evX_read hj).1 h
    exact evX_mono (fun u w1 h2 => (evX_read hj).2 ⟨v, rvX_ext h2.1 hv, h2.2⟩) (evX_alloc hi h1)

/-! ### slots that are not looked at -/
theorem opv_upd {n : Nat} {ρ : Env} {d : Option Nat} {v : Value} {x : Operand} (h : ∀ e, d = some e → x ≠ .tmp e) : opv (updO n d v ρ) x = opv ρ x := by
  cases d with
  | none => rfl
  | some d =>
    cases x with
    | tmp t =>
      have hne : t ≠ d := fun e => h d rfl (e ▸ rfl)
      have : Nat.beq t d = false := by
        cases hb : Nat.beq t d with
        | false => rfl
        | true => exact absurd (Nat.eq_of_beq_eq_true hb) hne
      simp [opv, updO, upd, this]
    | _ => rfl
theorem opvs_congr {ρ ρ' : Env} : ∀ {xs : List Operand}, (∀ x ∈ xs, opv ρ x = opv ρ' x) → opvs ρ xs = opvs ρ' xs
  | [], _ => rfl
  | x :: xs, h => by
    have ih := opvs_congr (xs := xs) fun y hy => h y (List.mem_cons_of_mem _ hy)
    simp only [opvs, h x (by simp), ih]
theorem opparts_congr {ρ ρ' : Env} : ∀ {xs : List (Nat × Operand)}, (∀ x ∈ xs, opv ρ x.2 = opv ρ' x.2) → opparts ρ xs = opparts ρ' xs
  | [], _ => rfl
  | (i, x) :: xs, h => by
    have ih := opparts_congr (xs := xs) fun y hy => h y (List.mem_cons_of_mem _ hy)
    simp only [opparts, h (i, x) (by simp), ih]
theorem opmay_congr {ρ ρ' : Env} {x : Option Operand} (h : ∀ y, x = some y → opv ρ y = opv ρ' y) : opmay ρ x = opmay ρ' x := by
  cases x with
  | none => rfl
  | some x => simp only [opmay, h x rfl]
theorem opk_congr {ent : FuncId → Bool} {ρ ρ' : Env} (o : Oper) (h : ∀ x ∈ o.op.operands, opv ρ x = opv ρ' x) : opk ent ρ o = opk ent ρ' o := by
  obtain ⟨dst, op, type, pos, after, guard⟩ := o
  cases op <;> simp only [Op.operands] at h <;> simp only [opk]
  case build t ps => rw [opparts_congr fun x hx => h x.2 (by simp; exact ⟨x.1, Array.mem_toList_iff.1 hx⟩)]
  case buildSlice t k ps => rw [opparts_congr fun x hx => h x.2 (by simp; exact ⟨x.1, Array.mem_toList_iff.1 hx⟩)]
  case makeFunc fn first cap =>
    rw [opvs_congr (xs := first.toList) fun x hx => h x (by simp; exact .inl (by simpa using hx)), opvs_congr (xs := cap.toList) fun x hx => h x (by simp; exact .inr (by simpa using hx))]
  case slice t x lo hi mx =>
    rw [h x (by simp), opmay_congr (x := lo) fun y hy => h y (by simp [hy]), opmay_congr (x := hi) fun y hy => h y (by simp [hy]), opmay_congr (x := mx) fun y hy => h y (by simp [hy])]
  case call c =>
    obtain ⟨callee, args, ts⟩ := c
    simp only [Call.operands] at h
    have ha : opvs ρ args.toList = opvs ρ' args.toList := opvs_congr fun x hx => h x (by simp; exact .inr (by simpa using hx))
    cases callee with
    | builtin b => simp only [ha]
    | value f => simp only [ha, h f (by simp)]
    | invoke r m => rfl
  all_goals (first | rfl | (simp_all; done))
theorem gOf_upd {n : Nat} {ops : Array Oper} {ρ : Env} {o : Oper} {d : Option Nat} {v : Value} (h : ∀ e, d = some e → e ∉ o.looksAt ops) : gOf ops (updO n d v ρ) o = gOf ops ρ o := by
  unfold gOf
  cases hg : o.guard with
  | none => rfl
  | some gw =>
    obtain ⟨g, want⟩ := gw
    simp only
    cases hs : (ops[g]?).bind (·.dst) with
    | none => rfl
    | some s =>
      have h1 : opv (updO n d v ρ) (.tmp s) = opv ρ (.tmp s) := opv_upd fun e he hx => by
        cases hx
        exact h s he (by simp [Oper.looksAt, hg, hs])
      have h2 : updO n d v ρ s = ρ s := h1
      simp only [h2]
theorem opk_upd {ent : FuncId → Bool} {n : Nat} {ops : Array Oper} {ρ : Env} {o : Oper} {d : Option Nat} {v : Value} (h : ∀ e, d = some e → e ∉ o.looksAt ops) : opk ent (updO n d v ρ) o = opk ent ρ o :=
  opk_congr o fun x hx => opv_upd fun e he hxe => h e he (by
    subst hxe
    exact List.mem_append_left _ (List.mem_filterMap.2 ⟨.tmp e, by simpa using hx, rfl⟩))
theorem updO_comm {n : Nat} {ρ : Env} {d e : Option Nat} {v u : Value} (h : ∀ x, d = some x → e ≠ some x) : updO n d v (updO n e u ρ) = updO n e u (updO n d v ρ) := by
  cases d with
  | none => rfl
  | some d =>
    cases e with
    | none => rfl
    | some e =>
      have hne : d ≠ e := fun he => h d rfl (by rw [he])
      funext i
      simp only [updO, upd]
      cases h1 : Nat.beq i d with
      | false => rfl
      | true =>
        cases h2 : Nat.beq i e with
        | false => rfl
        | true => exact absurd ((Nat.eq_of_beq_eq_true h1).symm.trans (Nat.eq_of_beq_eq_true h2)) hne

/-! ### a list of operations by their numbers -/
def evSeq (P : Program) (ent : FuncId → Bool) (n : Nat) (ops : Array Oper) : List Nat → Env → World → (Env → World → Prop) → Prop
  | [], ρ, w, K => K ρ w
  | i :: rest, ρ, w, K => match ops[i]? with
    | none => False
    | some o => evOp P ent n ops o ρ w fun ρ' w' => evSeq P ent n ops rest ρ' w' K
def kdsOk : Kd → Kd → Bool
  | .pure, _ | _, .pure | .read, .read | .read, .alloc => true
  | _, _ => false
def canSwap (ops : Array Oper) (j i : Nat) : Bool := match ops[j]?, ops[i]? with
  | some oj, some oi => kdsOk (kindOf oj) (kindOf oi) && oj.apart ops oi
  | _, _ => false
section
variable {P : Program} {ent : FuncId → Bool} {n : Nat} {ops : Array Oper}
theorem evSeq_swap {i j : Nat} (hs : canSwap ops j i = true) {rest : List Nat} {ρ : Env} {w : World} {K : Env → World → Prop} (h : evSeq P ent n ops (j :: i :: rest) ρ w K) :
    evSeq P ent n ops (i :: j :: rest) ρ w K := by
  unfold canSwap at hs
  simp only [evSeq] at h ⊢
  cases hj : ops[j]? with
  | none => rw [hj] at hs; simp at hs
  | some oj =>
    cases hi : ops[i]? with
    | none => rw [hj, hi] at hs; simp at hs
    | some oi =>
      rw [hj, hi] at hs h
      simp only [Bool.and_eq_true] at hs
      obtain ⟨hk, hap⟩ := hs
      obtain ⟨h1, h2, h3⟩ := Oper.apart_spec hap
      simp only [evOp] at h ⊢
      have e1 : ∀ v, gOf ops (updO n oj.dst v ρ) oi = gOf ops ρ oi := fun v => gOf_upd h1
      have e2 : ∀ v, opk ent (updO n oj.dst v ρ) oi = opk ent ρ oi := fun v => opk_upd h1
      have e3 : ∀ v, gOf ops (updO n oi.dst v ρ) oj = gOf ops ρ oj := fun v => gOf_upd h3
      have e4 : ∀ v, opk ent (updO n oi.dst v ρ) oj = opk ent ρ oj := fun v => opk_upd h3
      simp only [e1, e2] at h
      simp only [e3, e4]
      have hcm : ∀ v u, updO n oi.dst u (updO n oj.dst v ρ) = updO n oj.dst v (updO n oi.dst u ρ) := fun v u => (updO_comm h2).symm
      simp only [hcm] at h
      refine evX_swap (K := fun v u w2 => evSeq P ent n ops rest (updO n oj.dst v (updO n oi.dst u ρ)) w2 K) ?_ h
      cases hkj : kindOf oj <;> cases hki : kindOf oi <;> rw [hkj, hki] at hk <;> simp [kdsOk] at hk <;>
        first
        | exact .inl (isP_of hkj)
        | exact .inr (.inl (isP_of hki))
        | exact .inr (.inr (.inl ⟨isR_of hkj, isR_of hki⟩))
        | exact .inr (.inr (.inr ⟨isR_of hkj, allocK_of hki⟩))
theorem evOp_mono {o : Oper} {ρ : Env} {w : World} {K K' : Env → World → Prop} (hk : ∀ ρ w, K ρ w → K' ρ w) (h : evOp P ent n ops o ρ w K) : evOp P ent n ops o ρ w K' :=
  evX_mono (fun _ _ h => hk _ _ h) h
theorem evSeq_front {i : Nat} {rest : List Nat} {K : Env → World → Prop} : ∀ (l : List Nat) (ρ : Env) (w : World), (∀ j ∈ l, canSwap ops j i = true) → evSeq P ent n ops (l ++ i :: rest) ρ w K →
    evSeq P ent n ops (i :: (l ++ rest)) ρ w K
  | [], _, _, _, h => h
  | j :: l, ρ, w, hs, h => by
    have h1 : evSeq P ent n ops (j :: i :: (l ++ rest)) ρ w K := by
      simp only [List.cons_append] at h
      rw [evSeq] at h ⊢
      split at h
      · exact h.elim
      · exact evOp_mono (fun ρ' w' h' => evSeq_front l ρ' w' (fun k hk => hs k (by simp [hk])) h') h
    exact evSeq_swap (hs j (by simp)) h1
theorem evSeq_sound (he : EntOk P ent) {Q : Exit → Act → World → Prop} {K : Env → World → Prop} (hk : ∀ ρ' a' w', Agree n ρ' a' → K ρ' w' → Q .normal a' w') (σ π₀ : List Nat)
    (hswap : ∀ S i rest, σ = S ++ i :: rest → ∀ j ∈ rest, [j, i].Sublist π₀ → canSwap ops j i = true) :
    ∀ (rest S π : List Nat) (ρ : Env) (a : Act) (w : World), σ = S ++ rest → π.Perm rest → π.Sublist π₀ → Agree n ρ a → evSeq P ent n ops π ρ w K → wpOps P ops Q rest a w
  | [], S, π, ρ, a, w, _, hp, _, ha, h => by
    have : π = [] := List.perm_nil.1 hp
    subst this
    exact hk _ _ _ ha h
  | i :: rest, S, π, ρ, a, w, hσ, hp, hsub, ha, h => by
    have hi : i ∈ π := hp.mem_iff.2 (by simp)
    obtain ⟨l, r, rfl⟩ := List.append_of_mem hi
    have hperm : (l ++ r).Perm rest := by
      have h1 : (i :: (l ++ r)).Perm (i :: rest) := (List.perm_middle.symm).trans hp
      exact h1.cons_inv
    have hfront := evSeq_front (i := i) (rest := r) l ρ w (fun j hj => hswap S i rest hσ j (hperm.mem_iff.1 (by simp [hj])) (by
      refine List.Sublist.trans ?_ hsub
      obtain ⟨l1, l2, rfl⟩ := List.append_of_mem hj
      have : [j, i] = [j] ++ [i] := rfl
      rw [this]
      refine List.Sublist.append ?_ ?_
      · exact List.singleton_sublist.2 (by simp)
      · exact List.singleton_sublist.2 (by simp))) h
    rw [evSeq] at hfront
    rw [wpOps_cons]
    unfold wpOp
    split at hfront
    · exact hfront.elim
    · rename_i o ho
      simp only [ho]
      exact evOp_sound he ha (fun ρ' a' w' ha' h' => evSeq_sound he hk σ π₀ hswap rest (S ++ [i]) (l ++ r) ρ' a' w' (by simp [hσ]) hperm
        (List.Sublist.trans (List.Sublist.append (List.Sublist.refl l) (List.sublist_cons_self i r)) hsub) ha' h') hfront
end
end Go.Proofs.Ytgamnncehjcdiaa.Ev
