/- The formula of a region, whatever order it draws. No program is named here. -/
import Derived.Test.YtgamnncehjcdiaaEv5
import Derived.Laws.World
namespace Go.Proofs.Ytgamnncehjcdiaa.Ev
open Go

/-- in what order a region is gone through; 'ask x y': first as if x came ahead of y, then the other way round -/
inductive Plan where
  | leaf (l : List Nat)
  | ask (x y : Nat) (a b : Plan)
/-- j must come ahead of i: by the edges, or by what has been asked -/
def implB (anc : List Nat) (asm : List (Nat × Nat)) : Nat → Nat → Nat → Bool
  | 0, j, i => (anc.getD i 0).testBit j
  | k + 1, j, i => (anc.getD i 0).testBit j || asm.any fun p => (Nat.beq j p.1 || (anc.getD p.1 0).testBit j) && (Nat.beq p.2 i || implB anc asm k p.2 i)
def okPair (ops : Array Oper) (anc : List Nat) (asm : List (Nat × Nat)) (j i : Nat) : Bool := canSwap ops j i || implB anc asm 4 j i
def pairsOk (f : Nat → Nat → Bool) : List Nat → Bool
  | [] => true
  | x :: xs => xs.all (fun y => f x y) && pairsOk f xs
def planOk (ops : Array Oper) (anc : List Nat) : Plan → List (Nat × Nat) → Bool
  | .leaf l, asm => (List.range ops.size).isPerm l && pairsOk (okPair ops anc asm) l
  | .ask x y a b, asm => !Nat.beq x y && Nat.blt x ops.size && Nat.blt y ops.size && planOk ops anc a ((x, y) :: asm) && planOk ops anc b ((y, x) :: asm)
def evPlan (P : Program) (ent : FuncId → Bool) (n : Nat) (ops : Array Oper) : Plan → Env → World → (Env → World → Prop) → Prop
  | .leaf l, ρ, w, K => evSeq P ent n ops l ρ w K
  | .ask _ _ a b, ρ, w, K => evPlan P ent n ops a ρ w K ∧ evPlan P ent n ops b ρ w K
theorem pairsOk_spec {f : Nat → Nat → Bool} : ∀ {l : List Nat}, pairsOk f l = true → ∀ {j i : Nat}, [j, i].Sublist l → f j i = true
  | [], _, j, i, hs => by cases hs
  | x :: xs, h, j, i, hs => by
    simp only [pairsOk, Bool.and_eq_true, List.all_eq_true] at h
    cases hs with
    | cons _ h1 => exact pairsOk_spec h.2 h1
    | cons_cons _ h1 => exact h.1 i (List.singleton_sublist.1 h1)
/-- x ahead of y, whenever y is there -/
def Asm (σ : List Nat) (p : Nat × Nat) : Prop := ∀ S rest, σ = S ++ p.2 :: rest → p.1 ∈ S
theorem split_unique {y : Nat} : ∀ {S S' r r' : List Nat}, (S ++ y :: r).Nodup → S ++ y :: r = S' ++ y :: r' → S = S'
  | [], [], _, _, _, _ => rfl
  | [], s :: S', r, r', hn, h => by
    simp only [List.nil_append, List.cons_append, List.cons.injEq] at h
    obtain ⟨rfl, rfl⟩ := h
    simp at hn
  | s :: S, [], r, r', hn, h => by
    simp only [List.nil_append, List.cons_append, List.cons.injEq] at h
    obtain ⟨rfl, rfl⟩ := h
    simp at hn
  | s :: S, s' :: S', r, r', hn, h => by
    simp only [List.cons_append, List.cons.injEq] at h
    obtain ⟨rfl, h⟩ := h
    rw [split_unique (List.nodup_cons.1 hn).2 h]
theorem asm_total {σ : List Nat} (hn : σ.Nodup) {x y : Nat} (hy : y ∈ σ) (hne : x ≠ y) : Asm σ (x, y) ∨ Asm σ (y, x) := by
  refine Classical.byCases .inl fun h => .inr fun S' rest' hσ' => ?_
  simp only [Asm, Classical.not_forall] at h
  obtain ⟨S, rest, hσ, hns⟩ := h
  simp only at hσ hns hσ' ⊢
  refine Classical.byContradiction fun hc => ?_
  have h1 : y ∈ rest' := by
    have : y ∈ S' ++ x :: rest' := hσ' ▸ hy
    simp only [List.mem_append, List.mem_cons] at this
    rcases this with h | h | h
    · exact absurd h hc
    · exact absurd h.symm hne
    · exact h
  obtain ⟨A, B, rfl⟩ := List.append_of_mem h1
  have h2 : S ++ y :: rest = (S' ++ x :: A) ++ y :: B := by rw [← hσ, hσ']; simp
  have h3 := split_unique (hσ ▸ hn) h2
  exact hns (by rw [h3]; simp)
theorem Asm.trans {σ : List Nat} {x y z : Nat} (h : Asm σ (x, y)) (h' : Asm σ (y, z)) : Asm σ (x, z) := by
  intro S rest hσ
  obtain ⟨S1, S2, hS⟩ := List.append_of_mem (h' S rest hσ)
  simp only at hS hσ ⊢
  subst hS
  have := h S1 (S2 ++ z :: rest) (by rw [hσ]; simp)
  simp only at this
  simp [this]
theorem asm_anc {ops : Array Oper} {σ : List Nat} (hl : Lin ops σ) {j i : Nat} (h : ((ancT ops).getD i 0).testBit j = true) : Asm σ (j, i) :=
  fun S rest hσ => lin_anc hl _ S i rest rfl hσ j h
theorem impl_asm {ops : Array Oper} {σ : List Nat} (hl : Lin ops σ) {asm : List (Nat × Nat)} (has : ∀ p ∈ asm, Asm σ p) : ∀ (k j i : Nat), implB (ancT ops) asm k j i = true → Asm σ (j, i)
  | 0, _, _, h => asm_anc hl h
  | k + 1, j, i, h => by
    simp only [implB, Bool.or_eq_true, List.any_eq_true, Bool.and_eq_true] at h
    rcases h with h | ⟨p, hp, h1, h2⟩
    · exact asm_anc hl h
    · have hpa : Asm σ (p.1, p.2) := has p hp
      have ha : Asm σ (j, p.2) := by
        rcases h1 with h1 | h1
        · rw [Nat.eq_of_beq_eq_true h1]; exact hpa
        · exact (asm_anc hl h1).trans hpa
      rcases h2 with h2 | h2
      · rw [← Nat.eq_of_beq_eq_true h2]; exact ha
      · exact ha.trans (impl_asm hl has k p.2 i h2)
section
variable {P : Program} {ent : FuncId → Bool} {n : Nat} {ops : Array Oper}
theorem evPlan_sound (he : EntOk P ent) {Q : Exit → Act → World → Prop} {K : Env → World → Prop} (hk : ∀ ρ' a' w', Agree n ρ' a' → K ρ' w' → Q .normal a' w') {σ : List Nat}
    (hl : Lin ops σ) (hp : (List.range ops.size).Perm σ) {ρ : Env} {a : Act} {w : World} (ha : Agree n ρ a) :
    ∀ (pl : Plan) (asm : List (Nat × Nat)), planOk ops (ancT ops) pl asm = true → (∀ p ∈ asm, Asm σ p) → evPlan P ent n ops pl ρ w K → wpOps P ops Q σ a w
  | .leaf l, asm, hok, has, h => by
    simp only [planOk, Bool.and_eq_true] at hok
    have hperm : l.Perm σ := (List.isPerm_iff.1 hok.1).symm.trans hp
    refine evSeq_sound he hk σ l (fun S i rest hσ j hj hs => ?_) σ [] l ρ a w rfl hperm (List.Sublist.refl l) ha h
    have h1 := pairsOk_spec hok.2 hs
    have hnd : σ.Nodup := hp.nodup_iff.1 List.nodup_range
    have hjS : j ∉ S := fun hjS => by
      rw [hσ] at hnd
      have := (List.nodup_append.1 hnd).2.2 j hjS j (by simp [hj])
      exact this rfl
    simp only [okPair, Bool.or_eq_true] at h1
    rcases h1 with h1 | h1
    · exact h1
    · exact absurd (impl_asm hl has _ _ _ h1 S rest hσ) hjS
  | .ask x y b c, asm, hok, has, h => by
    simp only [planOk, Bool.and_eq_true] at hok
    obtain ⟨⟨⟨⟨h1, _⟩, h3⟩, h4⟩, h5⟩ := hok
    have hne : x ≠ y := fun e => by subst e; simp at h1
    have hy : y ∈ σ := hp.mem_iff.1 (by simpa [Nat.blt_eq] using h3)
    have hnd : σ.Nodup := hp.nodup_iff.1 List.nodup_range
    rcases asm_total hnd hy hne with ht | ht
    · exact evPlan_sound he hk hl hp ha b ((x, y) :: asm) h4 (fun p hp' => by rcases List.mem_cons.1 hp' with rfl | h; exact ht; exact has p h) h.1
    · exact evPlan_sound he hk hl hp ha c ((y, x) :: asm) h5 (fun p hp' => by rcases List.mem_cons.1 hp' with rfl | h; exact ht; exact has p h) h.2
/-- the formula of a region -/
def evRegion (P : Program) (ent : FuncId → Bool) (n : Nat) (pl : Option Plan) (ops : Array Oper) (draw : Bool) (ρ : Env) (w : World) (K : Env → World → Prop) : Prop :=
  match draw with
  | false => evOps P ent n ops ops.toList ρ w K
  | true => match pl with
    | none => False
    | some pl => bif edgesOk ops && planOk ops (ancT ops) pl [] then evPlan P ent n ops pl ρ w.drew K else False
theorem evRegion_sound (hm : P.follows .mixedOrders = true) (he : EntOk P ent) {id : Nat} {pl : Option Plan} {draw : Bool} {Q : Exit → Act → World → Prop} {K : Env → World → Prop}
    (hk : ∀ ρ' a' w', Agree n ρ' a' → K ρ' w' → Q .normal a' w') {ρ : Env} {a : Act} {w : World} (ha : Agree n ρ a) (h : evRegion P ent n pl ops draw ρ w K) :
    (Code.region id ops draw).wp P Q a w := by
  cases draw with
  | false => exact wp_region_list (evOps_sound he hk ops.toList ha h)
  | true =>
    refine wp_region_draw fun t => ?_
    simp only [Region.schedule, hm, Bool.true_or, if_true]
    unfold evRegion at h
    simp only at h
    split at h
    · exact h.elim
    · rename_i pl
      cases hc : edgesOk ops && planOk ops (ancT ops) pl [] with
      | false => rw [hc] at h; exact h.elim
      | true =>
        rw [hc] at h
        simp only [Bool.and_eq_true] at hc
        obtain ⟨hl, hp⟩ := linearise_props hc.1 t
        exact evPlan_sound he hk hl hp ha pl [] hc.2 (fun p hp => by cases hp) h
end
end Go.Proofs.Ytgamnncehjcdiaa.Ev
