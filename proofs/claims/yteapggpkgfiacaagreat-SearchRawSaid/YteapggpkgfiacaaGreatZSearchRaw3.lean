/- Parts of the proof of SearchRaw, one behind the other. Conditions: none. -/
import Derived.Laws.World
import Derived.Test.YteapggpkgfiacaaGreatZSearchRaw2
namespace Go.Proofs.YteapggpkgfiacaaGreat.Ev
open Go

inductive Plan where
  | leaf (l : List Nat)
  | ask (x y : Nat) (a b : Plan)
  /-- one order, where each call of a function leaves all cells that there are -/
  | ext (l : List Nat)
def implB (anc : List Nat) (asm : List (Nat × Nat)) : Nat → Nat → Nat → Bool
  | 0, j, i => (anc.getD i 0).testBit j
  | k + 1, j, i => (anc.getD i 0).testBit j || asm.any fun p => (Nat.beq j p.1 || (anc.getD p.1 0).testBit j) && (Nat.beq p.2 i || implB anc asm k p.2 i)
def okPair (ops : Array Oper) (anc : List Nat) (asm : List (Nat × Nat)) (j i : Nat) : Bool := canSwap ops j i || implB anc asm 4 j i
def okPairX (ops : Array Oper) (anc : List Nat) (asm : List (Nat × Nat)) (j i : Nat) : Bool := canSwapX ops j i || implB anc asm 4 j i
def pairsOk (f : Nat → Nat → Bool) : List Nat → Bool
  | [] => true
  | x :: xs => xs.all (fun y => f x y) && pairsOk f xs
def planOk (ops : Array Oper) (anc : List Nat) : Plan → List (Nat × Nat) → Bool
  | .leaf l, asm => (List.range ops.size).isPerm l && pairsOk (okPair ops anc asm) l
  | .ext l, asm => (List.range ops.size).isPerm l && pairsOk (okPairX ops anc asm) l
  | .ask x y a b, asm => !Nat.beq x y && Nat.blt x ops.size && Nat.blt y ops.size && planOk ops anc a ((x, y) :: asm) && planOk ops anc b ((y, x) :: asm)
def evPlan (P : Program) (ent : FuncId → Bool) (n : Nat) (ops : Array Oper) : Plan → Env → World → (Env → World → Prop) → Prop
  | .leaf l, ρ, w, K => evSeq P ent n ops l ρ w K
  | .ext l, ρ, w, K => evSeqX P ent n ops l ρ w K
  | .ask _ _ a b, ρ, w, K => evPlan P ent n ops a ρ w K ∧ evPlan P ent n ops b ρ w K
theorem pairsOk_spec {f : Nat → Nat → Bool} : ∀ {l : List Nat}, pairsOk f l = true → ∀ {j i : Nat}, [j, i].Sublist l → f j i = true
  | [], _, j, i, hs => by cases hs
  | x :: xs, h, j, i, hs => by
    simp only [pairsOk, Bool.and_eq_true, List.all_eq_true] at h
    cases hs with
    | cons _ h1 => exact pairsOk_spec h.2 h1
    | cons_cons _ h1 => exact h.1 i (List.singleton_sublist.1 h1)
def Asm (σ : List Nat) (p : Nat × Nat) : Prop := ∀ S rest, σ = S ++ p.2 :: rest → p.1 ∈ S
theorem split_unique {y : Nat} : ∀ {S S' r r' : List Nat}, (S ++ y :: r).Nodup → S ++ y :: r = S' ++ y :: r' → S = S'
  | [], [], _, _, _, _ => rfl
  | [], s :: S', r, r', hn, h => by
    simp only [List.nil_append, List.cons_append, List.cons.injEq] at h
    obtain ⟨rfl, rfl⟩ := h
    simp at hn
  | s :: S, [], r, r', hn, h => by
    simp only [List.nil_append, List.cons_append, List.cons.injEq] at h
    obtain ⟨rfl, rfl⟩ := h
    simp at hn
  | s :: S, s' :: S', r, r', hn, h => by
    simp only [List.cons_append, List.cons.injEq] at h
    obtain ⟨rfl, h⟩ := h
    rw [split_unique (List.nodup_cons.1 hn).2 h]
theorem asm_total {σ : List Nat} (hn : σ.Nodup) {x y : Nat} (hy : y ∈ σ) (hne : x ≠ y) : Asm σ (x, y) ∨ Asm σ (y, x) := by
  refine Classical.byCases .inl fun h => .inr fun S' rest' hσ' => ?_
  simp only [Asm, Classical.not_forall] at h
  obtain ⟨S, rest, hσ, hns⟩ := h
  simp only at hσ hns hσ' ⊢
  refine Classical.byContradiction fun hc => ?_
  have h1 : y ∈ rest' := by
    have : y ∈ S' ++ x :: rest' := hσ' ▸ hy
    simp only [List.mem_append, List.mem_cons] at this
    rcases this with h | h | h
    · exact absurd h hc
    · exact absurd h.symm hne
    · exact h
  obtain ⟨A, B, rfl⟩ := List.append_of_mem h1
  have h2 : S ++ y :: rest = (S' ++ x :: A) ++ y :: B := by rw [← hσ, hσ']; simp
  have h3 := split_unique (hσ ▸ hn) h2
  exact hns (by rw [h3]; simp)
theorem Asm.trans {σ : List Nat} {x y z : Nat} (h : Asm σ (x, y)) (h' : Asm σ (y, z)) : Asm σ (x, z) := by
  intro S rest hσ
  obtain ⟨S1, S2, hS⟩ := List.append_of_mem (h' S rest hσ)
  simp only at hS hσ ⊢
  subst hS
  have := h S1 (S2 ++ z :: rest) (by rw [hσ]; simp)
  simp only at this
  simp [this]
theorem asm_anc {ops : Array Oper} {σ : List Nat} (hl : Lin ops σ) {j i : Nat} (h : ((ancT ops).getD i 0).testBit j = true) : Asm σ (j, i) :=
  fun S rest hσ => lin_anc hl _ S i rest rfl hσ j h
theorem impl_asm {ops : Array Oper} {σ : List Nat} (hl : Lin ops σ) {asm : List (Nat × Nat)} (has : ∀ p ∈ asm, Asm σ p) : ∀ (k j i : Nat), implB (ancT ops) asm k j i = true → Asm σ (j, i)
  | 0, _, _, h => asm_anc hl h
  | k + 1, j, i, h => by
    simp only [implB, Bool.or_eq_true, List.any_eq_true, Bool.and_eq_true] at h
    rcases h with h | ⟨p, hp, h1, h2⟩
    · exact asm_anc hl h
    · have hpa : Asm σ (p.1, p.2) := has p hp
      have ha : Asm σ (j, p.2) := by
        rcases h1 with h1 | h1
        · rw [Nat.eq_of_beq_eq_true h1]; exact hpa
        · exact (asm_anc hl h1).trans hpa
      rcases h2 with h2 | h2
      · rw [← Nat.eq_of_beq_eq_true h2]; exact ha
      · exact ha.trans (impl_asm hl has k p.2 i h2)
section
variable {P : Program} {ent : FuncId → Bool} {n : Nat} {ops : Array Oper}
theorem evPlan_sound (he : EntOk P ent) {Q : Exit → Act → World → Prop} {K : Env → World → Prop} (hk : ∀ ρ' a' w', Agree n ρ' a' → K ρ' w' → Q .normal a' w') {σ : List Nat}
    (hl : Lin ops σ) (hp : (List.range ops.size).Perm σ) {ρ : Env} {a : Act} {w : World} (ha : Agree n ρ a) :
    ∀ (pl : Plan) (asm : List (Nat × Nat)), planOk ops (ancT ops) pl asm = true → (∀ p ∈ asm, Asm σ p) → evPlan P ent n ops pl ρ w K → wpOps P ops Q σ a w
  | .leaf l, asm, hok, has, h => by
    simp only [planOk, Bool.and_eq_true] at hok
    have hperm : l.Perm σ := (List.isPerm_iff.1 hok.1).symm.trans hp
    refine evSeq_sound he hk σ l (fun S i rest hσ j hj hs => ?_) σ [] l ρ a w rfl hperm (List.Sublist.refl l) ha h
    have h1 := pairsOk_spec hok.2 hs
    have hnd : σ.Nodup := hp.nodup_iff.1 List.nodup_range
    have hjS : j ∉ S := fun hjS => by
      rw [hσ] at hnd
      have := (List.nodup_append.1 hnd).2.2 j hjS j (by simp [hj])
      exact this rfl
    simp only [okPair, Bool.or_eq_true] at h1
    rcases h1 with h1 | h1
    · exact h1
    · exact absurd (impl_asm hl has _ _ _ h1 S rest hσ) hjS
  | .ext l, asm, hok, has, h => by
    simp only [planOk, Bool.and_eq_true] at hok
    have hperm : l.Perm σ := (List.isPerm_iff.1 hok.1).symm.trans hp
    refine evSeqX_sound he hk σ l (fun S i rest hσ j hj hs => ?_) σ [] l ρ a w rfl hperm (List.Sublist.refl l) ha h
    have h1 := pairsOk_spec hok.2 hs
    have hnd : σ.Nodup := hp.nodup_iff.1 List.nodup_range
    have hjS : j ∉ S := fun hjS => by
      rw [hσ] at hnd
      have := (List.nodup_append.1 hnd).2.2 j hjS j (by simp [hj])
      exact this rfl
    simp only [okPairX, Bool.or_eq_true] at h1
    rcases h1 with h1 | h1
    · exact h1
    · exact absurd (impl_asm hl has _ _ _ h1 S rest hσ) hjS
  | .ask x y b c, asm, hok, has, h => by
    simp only [planOk, Bool.and_eq_true] at hok
    obtain ⟨⟨⟨⟨h1, _⟩, h3⟩, h4⟩, h5⟩ := hok
    have hne : x ≠ y := fun e => by subst e; simp at h1
    have hy : y ∈ σ := hp.mem_iff.1 (by simpa [Nat.blt_eq] using h3)
    have hnd : σ.Nodup := hp.nodup_iff.1 List.nodup_range
    rcases asm_total hnd hy hne with ht | ht
    · exact evPlan_sound he hk hl hp ha b ((x, y) :: asm) h4 (fun p hp' => by rcases List.mem_cons.1 hp' with rfl | h; exact ht; exact has p h) h.1
    · exact evPlan_sound he hk hl hp ha c ((y, x) :: asm) h5 (fun p hp' => by rcases List.mem_cons.1 hp' with rfl | h; exact ht; exact has p h) h.2
def evRegion (P : Program) (ent : FuncId → Bool) (n : Nat) (pl : Option Plan) (ops : Array Oper) (draw : Bool) (ρ : Env) (w : World) (K : Env → World → Prop) : Prop :=
  match draw with
  | false => evOps P ent n ops ops.toList ρ w K
  | true => match pl with
    | none => False
    | some pl => bif edgesOk ops && planOk ops (ancT ops) pl [] then evPlan P ent n ops pl ρ w.drew K else False
theorem evRegion_sound (hm : P.follows .mixedOrders = true) (he : EntOk P ent) {id : Nat} {pl : Option Plan} {draw : Bool} {Q : Exit → Act → World → Prop} {K : Env → World → Prop}
    (hk : ∀ ρ' a' w', Agree n ρ' a' → K ρ' w' → Q .normal a' w') {ρ : Env} {a : Act} {w : World} (ha : Agree n ρ a) (h : evRegion P ent n pl ops draw ρ w K) :
    (Code.region id ops draw).wp P Q a w := by
  cases draw with
  | false => exact wp_region_list (evOps_sound he hk ops.toList ha h)
  | true =>
    refine wp_region_draw fun t => ?_
    simp only [Region.schedule, hm, Bool.true_or, if_true]
    unfold evRegion at h
    simp only at h
    split at h
    · exact h.elim
    · rename_i pl
      cases hc : edgesOk ops && planOk ops (ancT ops) pl [] with
      | false => rw [hc] at h; exact h.elim
      | true =>
        rw [hc] at h
        simp only [Bool.and_eq_true] at hc
        obtain ⟨hl, hp⟩ := linearise_props hc.1 t
        exact evPlan_sound he hk hl hp ha pl [] hc.2 (fun p hp => by cases hp) h
end
end Go.Proofs.YteapggpkgfiacaaGreat.Ev

namespace Go.Proofs.YteapggpkgfiacaaGreat.Ev
open Go

inductive It where
  | jn (c : Code)
  | lp (c : Code)
  | blk (id : Nat)
def itemOf : It → Item
  | .jn c => .code c
  | .lp c => .inLoop c
  | .blk id => .inBlock id
def todo (t : List It) : List Item := t.map itemOf
inductive Ex where
  | normal
  | exit (id : Nat)
  | ret
structure Hints where
  loop : List (Nat × List Nat)
  join : List (Nat × List Nat)
  plan : List (Nat × Plan)
def look {α : Type} : List (Nat × α) → Nat → Option α
  | [], _ => none
  | (k, v) :: r, i => bif Nat.beq k i then some v else look r i
def firstId : Code → Option Nat
  | .region id _ _ => some id
  | .seq a b => match firstId a with | some i => some i | none => firstId b
  | .cond _ a b => match firstId a with | some i => some i | none => firstId b
  | .block _ c => firstId c
  | .loop c => firstId c
  | _ => none
def lookC {α : Type} (l : List (Nat × α)) (c : Code) : Option α := match firstId c with | some i => look l i | none => none
def unpack : List Nat → List Value → Env
  | k :: ks, x :: xs, i => bif Nat.beq i k then some x else unpack ks xs i
  | _, _, _ => none
def packE (ρ : Env) : List Nat → Option (List Value)
  | [] => some []
  | k :: ks => match ρ k, packE ρ ks with | some v, some vs => some (v :: vs) | _, _ => none
def entryE : Nat → List Value → Env
  | _, [], _ => none
  | k, v :: vs, i => bif Nat.beq i k then some v else entryE (k + 1) vs i

def base (f : FuncId) : Frame := { (default : Frame) with fn := f, kind := .normal }
def FinM (P : Program) (f : FuncId) (cs : List Frame) (m : Machine) (Q : Value → World → Prop) : Prop :=
  ∃ v w' fr, Q v w' ∧ Steps P m (lone fr cs w') ∧ fr.fn = f ∧ fr.leaving P w' (.returned v)
def Part (P : Program) (f : FuncId) (t : List It) (keep : List Nat) (xs : List Value) (w : World) (Q : Value → World → Prop) : Prop :=
  ∀ fn, P.funcs[f]? = some fn → ∀ a, Agree fn.ntmps (unpack keep xs) a → ∀ cs, FinM P f cs (lone ((base f).at a (todo t)) cs w) Q
theorem FinM.mono {P : Program} {f : FuncId} {cs : List Frame} {m : Machine} {Q Q' : Value → World → Prop} (h : FinM P f cs m Q) (hq : ∀ v w, Q v w → Q' v w) : FinM P f cs m Q' := by
  obtain ⟨v, w', fr, h1, h2⟩ := h
  exact ⟨v, w', fr, hq _ _ h1, h2⟩
theorem Part.mono {P : Program} {f : FuncId} {t : List It} {keep : List Nat} {xs : List Value} {w : World} {Q Q' : Value → World → Prop} (h : Part P f t keep xs w Q) (hq : ∀ v w, Q v w → Q' v w) :
    Part P f t keep xs w Q' := fun fn hfn a ha cs => (h fn hfn a ha cs).mono hq

def retv : List Value → Value
  | [v] => v
  | vs => .tuple vs.toArray
def finQ (P : Program) (ρ : Env) (w : World) : List ResultVar → (List Value → Prop) → Prop
  | [], K => K []
  | .tmp t :: rs, K => match ρ t with | some v => finQ P ρ w rs fun vs => K (v :: vs) | none => False
  | .cell a t :: rs, K => match ρ a with | some x => wpB (ldv P t x w) fun v => finQ P ρ w rs fun vs => K (v :: vs) | none => False
def cut (P : Program) (f : FuncId) (t : List It) (keep : List Nat) (ρ : Env) (w : World) (Q : Value → World → Prop) : Prop :=
  match packE ρ keep with
  | some xs => Part P f t keep xs w Q
  | none => False
def cutO (P : Program) (f : FuncId) (t : List It) (keep : Option (List Nat)) (ρ : Env) (w : World) (Q : Value → World → Prop) (A : Prop) : Prop :=
  match keep with
  | some keep => cut P f t keep ρ w Q
  | none => A
section
variable (P : Program) (ent : FuncId → Bool) (f : FuncId) (n : Nat) (H : Hints) (res : List ResultVar) (Q : Value → World → Prop)
def evC : Code → List It → Env → World → (Ex → Env → World → Prop) → Prop
  | .skip, _, ρ, w, K => K .normal ρ w
  | .region id ops draw, _, ρ, w, K => evRegion P ent n (look H.plan id) ops draw ρ w fun ρ' w' => K .normal ρ' w'
  | .seq x y, t, ρ, w, K => evC x (.jn y :: t) ρ w fun e ρ' w' => match e with
    | .normal => cutO P f (.jn y :: t) (lookC H.join y) ρ' w' Q (evC y t ρ' w' K)
    | .exit id => K (.exit id) ρ' w'
    | .ret => K .ret ρ' w'
  | .cond c x y, t, ρ, w, K => match opv ρ c with
    | some v => cnd v (evC x t ρ w K) (evC y t ρ w K)
    | none => False
  | .block id c, t, ρ, w, K => evC c (.blk id :: t) ρ w fun e ρ' w' => match e with
    | .normal => K .normal ρ' w'
    | .exit id' => bif Nat.beq id' id then K .normal ρ' w' else K (.exit id') ρ' w'
    | .ret => K .ret ρ' w'
  | .loop c, t, ρ, w, _ => match lookC H.loop c with
    | some keep => cut P f (.lp c :: t) keep ρ w Q
    | none => False
  | .exit id, _, ρ, w, K => K (.exit id) ρ w
  | .ret, _, ρ, w, K => K .ret ρ w
  | _, _, _, _, _ => False
def contT : List It → Ex → Env → World → Prop
  | [], e, ρ, w => match e with
    | .exit _ => False
    | _ => finQ P ρ w res fun vs => Q (retv vs) w
  | .jn y :: t, e, ρ, w => match e with
    | .normal => cutO P f (.jn y :: t) (lookC H.join y) ρ w Q (evC P ent f n H Q y t ρ w (contT t))
    | .exit id => contT t (.exit id) ρ w
    | .ret => contT t .ret ρ w
  | .blk id :: t, e, ρ, w => match e with
    | .normal => contT t .normal ρ w
    | .exit id' => bif Nat.beq id' id then contT t .normal ρ w else contT t (.exit id') ρ w
    | .ret => contT t .ret ρ w
  | .lp c :: t, e, ρ, w => match e with
    | .normal => match lookC H.loop c with
      | some keep => cut P f (.lp c :: t) keep ρ w Q
      | none => False
    | .exit id => contT t (.exit id) ρ w
    | .ret => contT t .ret ρ w
end

theorem unpack_agree {n : Nat} {ρ : Env} {a : Act} (ha : Agree n ρ a) {ks : List Nat} {xs : List Value} (h : packE ρ ks = some xs) : Agree n (unpack ks xs) a := by
  refine ⟨ha.1, ha.2.1, ?_⟩
  induction ks generalizing xs with
  | nil => intro t v hv; simp [unpack] at hv
  | cons k ks ih =>
    intro t v hv
    simp only [packE] at h
    split at h
    · rename_i u us h1 h2
      cases h
      simp only [unpack] at hv
      cases hb : Nat.beq t k with
      | true =>
        rw [hb] at hv
        cases hv
        rw [Nat.eq_of_beq_eq_true hb]
        exact ha.2.2 _ _ h1
      | false => rw [hb] at hv; exact ih h2 t v hv
    · cases h
theorem FinM.of_steps {P : Program} {f : FuncId} {cs : List Frame} {m m' : Machine} {Q : Value → World → Prop} (h : Steps P m m') (h' : FinM P f cs m' Q) : FinM P f cs m Q := by
  obtain ⟨v, w', fr, hq, hs, hf, hl⟩ := h'
  exact ⟨v, w', fr, hq, h.trans hs, hf, hl⟩
section
variable {P : Program} {ent : FuncId → Bool} {f : FuncId} {fn : Func} {H : Hints} {Q : Value → World → Prop}
theorem cut_fin (hfn : P.funcs[f]? = some fn) {t : List It} {keep : List Nat} {ρ : Env} {a : Act} {w : World} (ha : Agree fn.ntmps ρ a) (h : cut P f t keep ρ w Q) (cs : List Frame) :
    FinM P f cs (lone ((base f).at a (todo t)) cs w) Q := by
  unfold cut at h
  split at h
  · rename_i xs hx; exact h fn hfn a (unpack_agree ha hx) cs
  · exact h.elim
def Ret (P : Program) (fn : Func) (Q : Value → World → Prop) (a : Act) (w : World) : Prop := ∃ v, (results fn a.tmps).run P w = .ok v w ∧ Q v w ∧ a.defers = []
def KS (P : Program) (f : FuncId) (fn : Func) (Q : Value → World → Prop) (K : Ex → Env → World → Prop) (t : List It) : Prop :=
  ∀ ρ a w cs, Agree fn.ntmps ρ a → (K .normal ρ w → FinM P f cs (lone ((base f).at a (todo t)) cs w) Q) ∧
    (∀ id, K (.exit id) ρ w → ∃ k', exitTo id (todo t) = some k' ∧ FinM P f cs (lone ((base f).at a k') cs w) Q) ∧ (K .ret ρ w → Ret P fn Q a w)
theorem ret_fin (hfn : P.funcs[f]? = some fn) {a : Act} {w : World} (h : Ret P fn Q a w) (cs : List Frame) (k : List Item) :
    FinM P f cs (lone { (base f).at a k with mode := .returning } cs w) Q := by
  obtain ⟨v, hr, hq, hd⟩ := h
  exact ⟨v, w, _, hq, .refl _ _, rfl, rfl, hd, rfl, fn, hfn, hr⟩
theorem evC_sound (hm : P.follows .mixedOrders = true) (he : EntOk P ent) (hfn : P.funcs[f]? = some fn) :
    ∀ (c : Code) (t : List It) (ρ : Env) (a : Act) (w : World) (K : Ex → Env → World → Prop), KS P f fn Q K t → Agree fn.ntmps ρ a → evC P ent f fn.ntmps H Q c t ρ w K →
      ∀ cs, FinM P f cs (lone ((base f).at a (.code c :: todo t)) cs w) Q
  | .skip, t, ρ, a, w, K, hK, ha, h, cs => .of_steps (.one step_skip) ((hK ρ a w cs ha).1 h)
  | .region id ops draw, t, ρ, a, w, K, hK, ha, h, cs => by
    have hwp := evRegion_sound (id := id) (Q := fun e a' w' => e = .normal ∧ ∃ ρ', Agree fn.ntmps ρ' a' ∧ K .normal ρ' w') hm he (fun ρ' a' w' ha' h' => ⟨rfl, ρ', ha', h'⟩) ha h
    obtain ⟨e, a', w', ⟨rfl, ρ', ha', hK'⟩, harr⟩ := hwp (base f) (todo t) cs
    exact .of_steps harr ((hK ρ' a' w' cs ha').1 hK')
  | .seq x y, t, ρ, a, w, K, hK, ha, h, cs => by
    refine .of_steps (.one step_seq) ?_
    refine evC_sound hm he hfn x (.jn y :: t) ρ a w _ (fun ρ' a' w' cs' ha' => ⟨fun h' => ?_, fun id h' => ?_, fun h' => ?_⟩) ha h cs
    · simp only [cutO] at h'
      split at h'
      · exact cut_fin hfn ha' h' cs'
      · exact evC_sound hm he hfn y t ρ' a' w' K hK ha' h' cs'
    · exact (hK ρ' a' w' cs' ha').2.1 id h'
    · exact (hK ρ' a' w' cs' ha').2.2 h'
  | .cond c x y, t, ρ, a, w, K, hK, ha, h, cs => by
    simp only [evC] at h
    split at h
    · rename_i v hv
      unfold cnd at h
      split at h
      · refine .of_steps (.one (step_cond (t := true) (ha.eval hv))) ?_
        exact evC_sound hm he hfn x t ρ a w K hK ha h cs
      · refine .of_steps (.one (step_cond (t := false) (ha.eval hv))) ?_
        exact evC_sound hm he hfn y t ρ a w K hK ha h cs
      · exact h.elim
    · exact h.elim
  | .block id c, t, ρ, a, w, K, hK, ha, h, cs => by
    refine .of_steps (.one step_block) ?_
    refine evC_sound hm he hfn c (.blk id :: t) ρ a w _ (fun ρ' a' w' cs' ha' => ⟨fun h' => ?_, fun id' h' => ?_, fun h' => ?_⟩) ha h cs
    · exact .of_steps (.one step_inBlock) ((hK ρ' a' w' cs' ha').1 h')
    · simp only at h'
      cases hb : Nat.beq id' id with
      | true =>
        rw [hb] at h'
        have heq := Nat.eq_of_beq_eq_true hb
        exact ⟨todo t, by simp [todo, itemOf, exitTo, heq], (hK ρ' a' w' cs' ha').1 h'⟩
      | false =>
        rw [hb] at h'
        obtain ⟨k', hk', hf⟩ := (hK ρ' a' w' cs' ha').2.1 id' h'
        refine ⟨k', ?_, hf⟩
        have hne : (id == id') = false := by
          simp only [beq_eq_false_iff_ne, ne_eq]
          intro e; subst e; simp at hb
        simpa [todo, itemOf, exitTo, hne] using hk'
    · exact (hK ρ' a' w' cs' ha').2.2 h'
  | .loop c, t, ρ, a, w, K, hK, ha, h, cs => by
    simp only [evC] at h
    split at h
    · rename_i keep _
      obtain ⟨v, w', fr, hq, hs, hf, hl⟩ := cut_fin hfn ha h cs
      have h1 := step_loop (P := P) (b := base f) (a := a) (k := todo t) (cs := cs) (w := w) (c := c)
      have h2 := step_inLoop (P := P) (b := base f) (a := a) (k := todo t) (cs := cs) (w := w) (c := c)
      obtain ⟨k, hk⟩ := hs
      cases k with
      | zero =>
        exfalso
        simp only [runN] at hk
        injection hk with hk
        have hfr : (base f).at a (todo (.lp c :: t)) = fr := by
          have := congrArg Machine.gs hk
          simp only [lone, Array.mk.injEq, List.cons.injEq, Goroutine.mk.injEq] at this
          exact this.1.1
        have := hl.1
        rw [← hfr] at this
        simp [Frame.at] at this
      | succ k =>
        refine ⟨v, w', fr, hq, ⟨k + 1, ?_⟩, hf, hl⟩
        have h2' : step P (lone ((base f).at a (todo (.lp c :: t))) cs w) = .next (lone ((base f).at a (.code c :: .inLoop c :: todo t)) cs w) := h2
        simp only [runN, h1]
        simp only [runN, h2'] at hk
        exact hk
    · exact h.elim
  | .exit id, t, ρ, a, w, K, hK, ha, h, cs => by
    obtain ⟨k', hk', hf⟩ := (hK ρ a w cs ha).2.1 id h
    exact .of_steps (.one (step_exit hk')) hf
  | .ret, t, ρ, a, w, K, hK, ha, h, cs => .of_steps (.one step_ret) (ret_fin hfn ((hK ρ a w cs ha).2.2 h) cs _)
  | .rangeFunc _ _ _ _, _, _, _, _, _, _, _, h, _ => h.elim
  | .scope _, _, _, _, _, _, _, _, h, _ => h.elim
  | .label _, _, _, _, _, _, _, _, h, _ => h.elim
  | .goto _, _, _, _, _, _, _, _, h, _ => h.elim
  | .refuse _, _, _, _, _, _, _, _, h, _ => h.elim
def rvar (a : Act) : ResultVar → Sem Value
  | .tmp t => Pure.pure (a.tmps.getD t undef)
  | .cell x t => do loadVar t (← asAddr (a.tmps.getD x undef))
theorem finQ_sound {ρ : Env} {a : Act} {w : World} {n : Nat} (ha : Agree n ρ a) : ∀ {l : List ResultVar} {K : List Value → Prop}, finQ P ρ w l K →
    ∃ vs, K vs ∧ (l.mapM (rvar a)).run P w = .ok vs w
  | [], K, h => ⟨[], h, by simp⟩
  | .tmp t :: rs, K, h => by
    simp only [finQ] at h
    split at h
    · rename_i v hv
      obtain ⟨vs, hK, hr⟩ := finQ_sound ha h
      refine ⟨v :: vs, hK, ?_⟩
      have h1 : a.tmps.getD t undef = v := ha.eval (x := .tmp t) hv
      rw [List.mapM_cons]
      simp only [rvar, Sem.run_bind, Sem.run_pure, Result.andThen_ok, h1]
      simp only [hr, Result.andThen_ok]
    · exact h.elim
  | .cell x t :: rs, K, h => by
    simp only [finQ] at h
    split at h
    · rename_i v hv
      obtain ⟨u, hu, h⟩ := wpB_iff.1 h
      obtain ⟨vs, hK, hr⟩ := finQ_sound ha h
      refine ⟨u :: vs, hK, ?_⟩
      have h1 : a.tmps.getD x undef = v := ha.eval (x := .tmp x) hv
      have h2 := ldv_spec hu
      have h3 : ∃ p, v = .pointer (some p) := by
        unfold ldv at hu
        split at hu
        · exact ⟨_, rfl⟩
        · cases hu
      obtain ⟨p, rfl⟩ := h3
      rw [List.mapM_cons]
      simp only [Instr.loadAt, Instr.sureAddr, pure_bind] at h2
      simp only [rvar, Sem.run_bind, asAddr, Sem.run_pure, Result.andThen_ok, h1, h2]
      simp only [hr, Result.andThen_ok]
    · exact h.elim
theorem fin_ret {ρ : Env} {a : Act} {w : World} (ha : Agree fn.ntmps ρ a) (h : finQ P ρ w fn.results.toList fun vs => Q (retv vs) w) : Ret P fn Q a w := by
  obtain ⟨vs, hq, hr⟩ := finQ_sound ha h
  refine ⟨retv vs, ?_, hq, ha.2.1⟩
  have h1 : (fn.results.mapM (rvar a)).run P w = .ok vs.toArray w := by
    rw [Array.mapM_eq_mapM_toList, Sem.run_map, hr]; rfl
  have hres : results fn a.tmps = (fn.results.mapM (rvar a) >>= fun vs => Pure.pure (if h : vs.size = 1 then vs[0] else .tuple vs)) := by
    unfold results
    congr 1
  rw [hres, Sem.run_bind, h1]
  simp only [Result.andThen_ok, Sem.run_pure]
  congr 1
  cases vs with
  | nil => simp [retv]
  | cons v vs => cases vs <;> simp [retv]
theorem contT_sound (hm : P.follows .mixedOrders = true) (he : EntOk P ent) (hfn : P.funcs[f]? = some fn) :
    ∀ (t : List It), KS P f fn Q (contT P ent f fn.ntmps H fn.results.toList Q t) t
  | [], ρ, a, w, cs, ha => ⟨fun h => .of_steps (.one step_end) (ret_fin hfn (fin_ret ha h) cs _), fun _ h => h.elim, fun h => fin_ret ha h⟩
  | .jn y :: t, ρ, a, w, cs, ha => by
    have ih := contT_sound hm he hfn t
    refine ⟨fun h => ?_, fun id h => ?_, fun h => (ih ρ a w cs ha).2.2 h⟩
    · simp only [contT, cutO] at h
      split at h
      · exact cut_fin hfn ha h cs
      · exact evC_sound hm he hfn y t ρ a w _ ih ha h cs
    · exact (ih ρ a w cs ha).2.1 id h
  | .blk id :: t, ρ, a, w, cs, ha => by
    have ih := contT_sound hm he hfn t
    refine ⟨fun h => .of_steps (.one step_inBlock) ((ih ρ a w cs ha).1 h), fun id' h => ?_, fun h => (ih ρ a w cs ha).2.2 h⟩
    simp only [contT] at h
    cases hb : Nat.beq id' id with
    | true =>
      rw [hb] at h
      have heq := Nat.eq_of_beq_eq_true hb
      exact ⟨todo t, by simp [todo, itemOf, exitTo, heq], (ih ρ a w cs ha).1 h⟩
    | false =>
      rw [hb] at h
      obtain ⟨k', hk', hf⟩ := (ih ρ a w cs ha).2.1 id' h
      refine ⟨k', ?_, hf⟩
      have hne : (id == id') = false := by
        simp only [beq_eq_false_iff_ne, ne_eq]
        intro e; subst e; simp at hb
      simpa [todo, itemOf, exitTo, hne] using hk'
  | .lp c :: t, ρ, a, w, cs, ha => by
    have ih := contT_sound hm he hfn t
    refine ⟨fun h => ?_, fun id h => (ih ρ a w cs ha).2.1 id h, fun h => (ih ρ a w cs ha).2.2 h⟩
    simp only [contT] at h
    split at h
    · exact cut_fin hfn ha h cs
    · exact h.elim

theorem entryE_agree : ∀ (vs : List Value) (k : Nat) (t : Nat) (v : Value), entryE k vs t = some v → k ≤ t ∧ vs[t - k]? = some v
  | [], k, t, v, h => by simp [entryE] at h
  | u :: vs, k, t, v, h => by
    simp only [entryE] at h
    cases hb : Nat.beq t k with
    | true =>
      rw [hb] at h
      cases h
      have := Nat.eq_of_beq_eq_true hb
      subst this
      simp
    | false =>
      rw [hb] at h
      obtain ⟨h1, h2⟩ := entryE_agree vs (k + 1) t v h
      refine ⟨by omega, ?_⟩
      have : t - k = (t - (k + 1)) + 1 := by omega
      rw [this]; simpa using h2
theorem call_of (hm : P.follows .mixedOrders = true) (he : EntOk P ent) (hfn : P.funcs[f]? = some fn) {c : Code} (hb : fn.body = some c) (H : Hints) {args : List Value} (hl : args.length ≤ fn.ntmps) {w : World}
    (h : evC P ent f fn.ntmps H Q c [] (entryE 0 args) w (contT P ent f fn.ntmps H fn.results.toList Q [])) : CallR P f args w Q := by
  intro cs
  let a : Act := { tmps := args.toArray ++ Array.replicate (fn.ntmps - args.toArray.size) undef, defers := [] }
  have ha : Agree fn.ntmps (entryE 0 args) a := by
    refine ⟨by simp [a]; omega, rfl, fun t v hv => ?_⟩
    obtain ⟨_, h2⟩ := entryE_agree args 0 t v hv
    simp only [Nat.sub_zero] at h2
    have hlt : t < args.length := (List.getElem?_eq_some_iff.1 h2).1
    simp only [a]
    rw [Array.getElem?_append_left (by simpa using hlt)]
    simpa using h2
  have henter : Frame.enter P f args.toArray .normal = (base f).at a [.code c] := by
    simp [Frame.enter, Frame.at, hfn, hb, base, a]
  obtain ⟨v, w', fr, hq, hs, hf, hl'⟩ := evC_sound hm he hfn c [] (entryE 0 args) a w _ (contT_sound hm he hfn []) ha h cs
  exact ⟨.returned v, w', fr, ⟨v, rfl, hq⟩, by rw [henter]; exact hs, hf, hl'⟩
theorem part_lp (hm : P.follows .mixedOrders = true) (he : EntOk P ent) (hfn : P.funcs[f]? = some fn) (H : Hints) {c : Code} {t : List It} {keep : List Nat} {xs : List Value} {w : World}
    (h : evC P ent f fn.ntmps H Q c (.lp c :: t) (unpack keep xs) w (contT P ent f fn.ntmps H fn.results.toList Q (.lp c :: t))) : Part P f (.lp c :: t) keep xs w Q := by
  intro fn' hfn' a ha cs
  rw [hfn] at hfn'; cases hfn'
  have h1 := evC_sound hm he hfn c (.lp c :: t) _ a w _ (contT_sound hm he hfn (.lp c :: t)) ha h cs
  exact .of_steps (.one step_inLoop) h1
theorem part_jn (hm : P.follows .mixedOrders = true) (he : EntOk P ent) (hfn : P.funcs[f]? = some fn) (H : Hints) {c : Code} {t : List It} {keep : List Nat} {xs : List Value} {w : World}
    (h : evC P ent f fn.ntmps H Q c t (unpack keep xs) w (contT P ent f fn.ntmps H fn.results.toList Q t)) : Part P f (.jn c :: t) keep xs w Q := by
  intro fn' hfn' a ha cs
  rw [hfn] at hfn'; cases hfn'
  exact evC_sound hm he hfn c t _ a w _ (contT_sound hm he hfn t) ha h cs
end
end Go.Proofs.YteapggpkgfiacaaGreat.Ev

namespace Go.Proofs.YteapggpkgfiacaaGreat.Ev
open Go

def nav : List Nat → Code → Code
  | [], c => c
  | 0 :: p, .seq a _ => nav p a
  | 1 :: p, .seq _ b => nav p b
  | 2 :: p, .cond _ a _ => nav p a
  | 3 :: p, .cond _ _ b => nav p b
  | 4 :: p, .block _ c => nav p c
  | 5 :: p, .loop c => nav p c
  | _ :: _, c => c
def entR (lo hi : Nat) (g : FuncId) : Bool := Nat.ble lo g && Nat.blt g hi
def entChk (P : Program) (lo hi : Nat) : Bool := (List.range hi).all fun g => Nat.blt g lo || match P.funcs[g]? with
  | some fn => fn.body.isSome && fn.name != "runtime.NumGoroutine"
  | none => false
theorem entOk_of {P : Program} {lo hi : Nat} (h : entChk P lo hi = true) : EntOk P (entR lo hi) := by
  intro g hg
  unfold entChk at h
  simp only [entR, Bool.and_eq_true] at hg
  rw [List.all_eq_true] at h
  have h1 := h g (by simpa [Nat.blt_eq] using hg.2)
  have h0 : Nat.blt g lo = false := by
    cases hb : Nat.blt g lo with
    | false => rfl
    | true =>
      exact absurd (Nat.le_of_ble_eq_true hg.1) (Nat.not_le_of_lt (by simpa [Nat.blt_eq] using hb))
  rw [h0, Bool.false_or] at h1
  cases hf : P.funcs[g]? with
  | none => rw [hf] at h1; cases h1
  | some fn =>
    rw [hf] at h1
    simp only [Bool.and_eq_true, bne_iff_ne, ne_eq] at h1
    cases hb : fn.body with
    | none => rw [hb] at h1; simp at h1
    | some c => exact ⟨fn, c, rfl, hb, h1.2⟩
noncomputable def bp (P : Program) (op : BinOp) (t : TypeId) (a b : Value) : Option Value := pureRun P (binOp op t a b)
noncomputable def be (P : Program) (op : BinOp) (t : TypeId) (x y : Operand) (a b : Value) : Option Value := pureRun P (do eqGuard op t x y a b; binOp op t a b)
section
variable {P : Program} {ent : FuncId → Bool} {f : FuncId} {fn : Func} {Q : Value → World → Prop} {L : Prop}
theorem af (hm : P.follows .mixedOrders = true) (he : EntOk P ent) (hfn : P.funcs[f]? = some fn) {c : Code} (hb : fn.body = some c) (H : Hints) {args : List Value} (hl : args.length ≤ fn.ntmps) {w : World}
    (e : evC P ent f fn.ntmps H Q c [] (entryE 0 args) w (contT P ent f fn.ntmps H fn.results.toList Q []) = L) (h : L) : CallR P f args w Q := call_of hm he hfn hb H hl (e.mpr h)
theorem aB (hm : P.follows .mixedOrders = true) (he : EntOk P ent) (hfn : P.funcs[f]? = some fn) (H : Hints) {c : Code} {t : List It} {keep : List Nat} {xs : List Value} {w : World}
    (e : evC P ent f fn.ntmps H Q c (.lp c :: t) (unpack keep xs) w (contT P ent f fn.ntmps H fn.results.toList Q (.lp c :: t)) = L) (h : L) : Part P f (.lp c :: t) keep xs w Q := part_lp hm he hfn H (e.mpr h)
theorem ax (hm : P.follows .mixedOrders = true) (he : EntOk P ent) (hfn : P.funcs[f]? = some fn) (H : Hints) {c : Code} {t : List It} {keep : List Nat} {xs : List Value} {w : World}
    (e : evC P ent f fn.ntmps H Q c t (unpack keep xs) w (contT P ent f fn.ntmps H fn.results.toList Q t) = L) (h : L) : Part P f (.jn c :: t) keep xs w Q := part_jn hm he hfn H (e.mpr h)
end
end Go.Proofs.YteapggpkgfiacaaGreat.Ev

