/- Every order that a region may draw, against one that is held: the formula of a region. No program is named here. -/
import Derived.Test.YtgamnncehjcdiaaEv4
namespace Go.Proofs.Ytgamnncehjcdiaa.Ev
open Go

/-! ### what stands behind what -/
def maskOf (acc : List Nat) (o : Oper) : Nat := o.after.toList.foldr (fun e s => bif Region.binds .any e then (2 ^ e.on ||| acc.getD e.on 0) ||| s else s) 0
def ancGo : List Oper → List Nat → List Nat
  | [], acc => acc
  | o :: os, acc => ancGo os (acc ++ [maskOf acc o])
def ancT (ops : Array Oper) : List Nat := ancGo ops.toList []
theorem mask_bit {acc : List Nat} {j : Nat} : ∀ {l : List Edge}, (l.foldr (fun e s => bif Region.binds .any e then (2 ^ e.on ||| acc.getD e.on 0) ||| s else s) 0).testBit j = true →
    ∃ e ∈ l, Region.binds .any e = true ∧ (e.on = j ∨ (acc.getD e.on 0).testBit j = true)
  | [], h => by simp at h
  | e :: l, h => by
    simp only [List.foldr_cons] at h
    cases hb : Region.binds .any e with
    | false =>
      rw [hb] at h
      obtain ⟨e', h1, h2⟩ := mask_bit (l := l) h
      exact ⟨e', List.mem_cons_of_mem _ h1, h2⟩
    | true =>
      rw [hb] at h
      simp only [cond_true, Nat.testBit_or, Bool.or_eq_true, Nat.testBit_two_pow, decide_eq_true_eq] at h
      rcases h with (h | h) | h
      · exact ⟨e, by simp, hb, .inl h⟩
      · exact ⟨e, by simp, hb, .inr h⟩
      · obtain ⟨e', h1, h2⟩ := mask_bit (l := l) h
        exact ⟨e', List.mem_cons_of_mem _ h1, h2⟩
theorem ancGo_take : ∀ (os : List Oper) (acc : List Nat), (ancGo os acc).take acc.length = acc
  | [], acc => by simp [ancGo]
  | o :: os, acc => by
    have h := ancGo_take os (acc ++ [maskOf acc o])
    simp only [ancGo]
    have h2 := congrArg (List.take acc.length) h
    rw [List.take_take, Nat.min_eq_left (by simp)] at h2
    rw [h2]; simp
theorem ancGo_get : ∀ (os : List Oper) (acc : List Nat) (k : Nat) (o : Oper), os[k]? = some o → ∃ pre, (ancGo os acc).take pre.length = pre ∧ (ancGo os acc).getD (acc.length + k) 0 = maskOf pre o
  | [], acc, k, o, h => by simp at h
  | o' :: os, acc, 0, o, h => by
    simp at h; subst h
    refine ⟨acc, ancGo_take _ _, ?_⟩
    simp only [ancGo]
    have h := ancGo_take os (acc ++ [maskOf acc o'])
    have h2 := congrArg (fun l => l.getD acc.length 0) h
    simp only [List.length_append, List.length_singleton] at h2
    rw [Nat.add_zero]
    have h3 : ((ancGo os (acc ++ [maskOf acc o'])).take (acc.length + 1)).getD acc.length 0 = (ancGo os (acc ++ [maskOf acc o'])).getD acc.length 0 := by
      simp [List.getD_eq_getElem?_getD]
    rw [← h3, h2]
    simp [List.getD_eq_getElem?_getD]
  | o' :: os, acc, k + 1, o, h => by
    have h1 : os[k]? = some o := by simpa using h
    obtain ⟨pre, h2, h3⟩ := ancGo_get os (acc ++ [maskOf acc o']) k o h1
    refine ⟨pre, h2, ?_⟩
    rw [← h3]
    simp only [ancGo]
    congr 1
    simp; omega
theorem anc_bit {ops : Array Oper} {i j : Nat} {o : Oper} (ho : ops[i]? = some o) (h : ((ancT ops).getD i 0).testBit j = true) :
    ∃ e ∈ o.after, Region.binds .any e = true ∧ (e.on = j ∨ ((ancT ops).getD e.on 0).testBit j = true) := by
  obtain ⟨pre, h1, h2⟩ := ancGo_get ops.toList [] i o (by simpa using ho)
  have h3 : (ancT ops).getD i 0 = maskOf pre o := by simpa [ancT] using h2
  rw [h3] at h
  obtain ⟨e, he, hb, hd⟩ := mask_bit h
  refine ⟨e, by simpa using he, hb, hd.imp id fun hd => ?_⟩
  have : pre.getD e.on 0 = (ancT ops).getD e.on 0 ∨ pre.getD e.on 0 = 0 := by
    by_cases hl : e.on < pre.length
    · left
      have h4 : ((ancT ops).take pre.length).getD e.on 0 = pre.getD e.on 0 := by rw [show (ancT ops).take pre.length = pre from h1]
      rw [← h4]
      simp [List.getD_eq_getElem?_getD, hl]
    · right; simp [List.getD_eq_getElem?_getD, List.getElem?_eq_none (Nat.le_of_not_lt hl)]
  rcases this with h5 | h5
  · rw [← h5]; exact hd
  · rw [h5] at hd; simp at hd

/-! ### the orders that may be drawn -/
def Lin (ops : Array Oper) (σ : List Nat) : Prop := ∀ S i rest, σ = S ++ i :: rest → ∃ o, ops[i]? = some o ∧ ∀ e ∈ o.after, Region.binds .any e = true → e.on ∈ S
theorem lin_anc {ops : Array Oper} {σ : List Nat} (h : Lin ops σ) : ∀ (k : Nat) (S : List Nat) (i : Nat) (rest : List Nat), S.length = k → σ = S ++ i :: rest → ∀ j, ((ancT ops).getD i 0).testBit j = true → j ∈ S := by
  intro k
  induction k using Nat.strongRecOn with
  | _ k ih =>
    intro S i rest hk hσ j hj
    obtain ⟨o, ho, hall⟩ := h S i rest hσ
    obtain ⟨e, he, hb, hd⟩ := anc_bit ho hj
    have hm := hall e he hb
    rcases hd with rfl | hd
    · exact hm
    · obtain ⟨S1, S2, rfl⟩ := List.append_of_mem hm
      have := ih S1.length (by rw [← hk]; simp) S1 e.on (S2 ++ i :: rest) rfl (by rw [hσ]; simp) j hd
      simp [this]
theorem go_props {ops : Array Oper} : ∀ (fuel t : Nat) (listed : Array Bool), listed.size = ops.size →
    (∀ S i rest, Region.linearise.go .any ops fuel t listed [] = S ++ i :: rest → ∃ o, ops[i]? = some o ∧ ∀ e ∈ o.after, Region.binds .any e = true → listed.getD e.on false = true ∨ e.on ∈ S) ∧
    (Region.linearise.go .any ops fuel t listed []).Nodup ∧ (∀ i ∈ Region.linearise.go .any ops fuel t listed [], listed.getD i true = false) ∧
    (∀ i, listed.getD i true = false → i ∈ Region.linearise.go .any ops fuel t listed [] ∨ fuel ≤ (Region.linearise.go .any ops fuel t listed []).length ∨
      ∃ L : Array Bool, L.size = ops.size ∧ Region.ready .any ops L = [] ∧ L.getD i true = false)
  | 0, t, listed, hsz => by
    simp [Region.linearise.go]
  | fuel + 1, t, listed, hsz => by
    have hstep : Region.linearise.go .any ops (fuel + 1) t listed [] = (match (Region.ready .any ops listed)[t % (Region.ready .any ops listed).length]? with
      | some i => Region.linearise.go .any ops fuel (t / (Region.ready .any ops listed).length) (listed.setIfInBounds i true) [i]
      | none => []) := rfl
    rw [hstep]
    cases hi : (Region.ready .any ops listed)[t % (Region.ready .any ops listed).length]? with
    | none =>
      have hnil : Region.ready .any ops listed = [] := by
        cases hr : Region.ready .any ops listed with
        | nil => rfl
        | cons x xs =>
          rw [hr] at hi
          have hlt : t % (x :: xs).length < (x :: xs).length := Nat.mod_lt _ (by simp)
          simp only [List.getElem?_eq_none_iff] at hi
          omega
      refine ⟨fun S i rest h => by simp at h, List.nodup_nil, fun i h => by simp at h, fun i h => .inr (.inr ⟨listed, hsz, hnil, h⟩)⟩
    | some i =>
      simp only
      rw [linearise_go_acc]
      simp only [List.reverse_singleton, List.singleton_append]
      have hmem := List.mem_of_getElem? hi
      obtain ⟨hun, o, ho, hall⟩ := mem_ready.1 hmem
      have hlt : i < listed.size := by rw [hsz]; exact (Array.getElem?_eq_some_iff.1 ho).1
      obtain ⟨p1, p2, p3, p4⟩ := go_props (ops := ops) fuel (t / (Region.ready .any ops listed).length) (listed.setIfInBounds i true) (by simp [hsz])
      have hset : ∀ k, k ≠ i → (listed.setIfInBounds i true).getD k true = listed.getD k true := fun k hk => getD_set_ne true (Ne.symm hk)
      have hself : (listed.setIfInBounds i true).getD i true = true := by simp [hlt]
      refine ⟨?_, ?_, ?_, ?_⟩
      · intro S k rest h
        cases S with
        | nil =>
          simp at h
          obtain ⟨rfl, _⟩ := h
          exact ⟨o, ho, fun e he hb => .inl (hall e he hb)⟩
        | cons s S =>
          simp only [List.cons_append, List.cons.injEq] at h
          obtain ⟨rfl, h⟩ := h
          obtain ⟨ok, hok, hk⟩ := p1 S k rest h
          refine ⟨ok, hok, fun e he hb => ?_⟩
          by_cases hei : e.on = i
          · right; simp [hei]
          · rcases hk e he hb with h2 | h2
            · left; rwa [getD_set_ne false (Ne.symm hei)] at h2
            · right; simp [h2]
      · refine List.nodup_cons.2 ⟨fun hm => ?_, p2⟩
        have := p3 i hm
        rw [hself] at this; cases this
      · intro k hk
        rcases List.mem_cons.1 hk with rfl | hk
        · exact hun
        · have := p3 k hk
          by_cases hki : k = i
          · subst hki; rw [hself] at this; cases this
          · rwa [hset k hki] at this
      · intro k hk
        by_cases hki : k = i
        · left; simp [hki]
        · rcases p4 k (by rw [hset k hki]; exact hk) with h2 | h2 | h2
          · left; simp [h2]
          · right; left; simp; exact h2
          · right; right; exact h2
/-- the edges lead to operations ahead -/
def edgesOk (ops : Array Oper) : Bool := ops.toList.zipIdx.all fun (o, i) => o.after.toList.all fun e => !Region.binds .any e || Nat.blt e.on i
theorem edgesOk_spec {ops : Array Oper} (h : edgesOk ops = true) {i : Nat} {o : Oper} (ho : ops[i]? = some o) : ∀ e ∈ o.after, Region.binds .any e = true → e.on < i := by
  intro e he hb
  unfold edgesOk at h
  rw [List.all_eq_true] at h
  have h1 := h (o, i) (by rw [List.mem_zipIdx_iff_getElem?]; simpa using ho)
  simp only [List.all_eq_true] at h1
  have h2 := h1 e (by simpa using he)
  simpa [hb, Nat.blt_eq] using h2
theorem ready_ne {ops : Array Oper} (he : edgesOk ops = true) {L : Array Bool} (hL : L.size = ops.size) (hr : Region.ready .any ops L = []) : ∀ i, L.getD i true = true := by
  intro i
  induction i using Nat.strongRecOn with
  | _ i ih =>
    cases hi : L.getD i true with
    | true => rfl
    | false =>
      exfalso
      have hlt : i < ops.size := by
        rw [← hL]
        rcases Nat.lt_or_ge i L.size with h | h
        · exact h
        · simp [Array.getElem?_eq_none h] at hi
      have hmem : i ∈ Region.ready .any ops L := mem_ready.2 ⟨hi, ops[i], by simp [hlt], fun e he' hb => by
        have h1 := edgesOk_spec he (o := ops[i]) (i := i) (by simp [hlt]) e he' hb
        have h2 := ih e.on h1
        have h3 : e.on < L.size := by omega
        simp [h3] at h2 ⊢
        exact h2⟩
      rw [hr] at hmem; cases hmem
theorem nodup_len : ∀ (k : Nat) (l : List Nat), l.Nodup → (∀ i ∈ l, i < k) → l.length ≤ k
  | 0, l, _, h => by
    cases l with
    | nil => simp
    | cons x xs => exact absurd (h x (by simp)) (by omega)
  | k + 1, l, hn, h => by
    have h1 := nodup_len k (l.erase k) (hn.erase k) fun i hi => by
      have := (hn.mem_erase_iff).1 hi
      have h2 := h i this.2
      have h3 := this.1
      omega
    have h2 : l.length ≤ (l.erase k).length + 1 := by
      by_cases hk : k ∈ l
      · rw [List.length_erase_of_mem hk]; omega
      · rw [List.erase_of_not_mem hk]; omega
    omega
theorem mem_of_full {k : Nat} {l : List Nat} (hn : l.Nodup) (h : ∀ i, i ∈ l → i < k) (hl : k ≤ l.length) {i : Nat} (hi : i < k) : i ∈ l := by
  refine Classical.byContradiction fun hni => ?_
  have := nodup_len k (i :: l) (List.nodup_cons.2 ⟨hni, hn⟩) fun j hj => by
    rcases List.mem_cons.1 hj with rfl | hj
    · exact hi
    · exact h j hj
  simp at this
  omega
theorem linearise_props {ops : Array Oper} (he : edgesOk ops = true) (t : Nat) : Lin ops (Region.linearise .any ops t) ∧ (List.range ops.size).Perm (Region.linearise .any ops t) := by
  obtain ⟨p1, p2, p3, p4⟩ := go_props (ops := ops) ops.size t (Array.replicate ops.size false) (by simp)
  have hun : ∀ i, (Array.replicate ops.size false).getD i true = false ↔ i < ops.size := fun i => by
    by_cases h : i < ops.size <;> simp [h]
  have hall : ∀ i, i ∈ Region.linearise.go .any ops ops.size t (Array.replicate ops.size false) [] → i < ops.size := fun i hi => (hun i).1 (p3 i hi)
  have hf : ∀ i, (Array.replicate ops.size false).getD i false = false := fun i => by
    by_cases h : i < ops.size <;> simp [h]
  refine ⟨fun S i rest h => ?_, ?_⟩
  · obtain ⟨o, ho, hd⟩ := p1 S i rest h
    refine ⟨o, ho, fun e he hb => (hd e he hb).resolve_left ?_⟩
    rw [hf]; simp
  · refine (List.perm_ext_iff_of_nodup List.nodup_range p2).2 fun i => ⟨fun hi => ?_, fun hi => by simpa using hall i hi⟩
    rcases p4 i ((hun i).2 (by simpa using hi)) with h | h | ⟨L, hL, hr, hu⟩
    · exact h
    · -- as many as there are: all
      exact mem_of_full p2 hall h (by simpa using hi)
    · have := ready_ne he hL hr i
      rw [this] at hu; cases hu
end Go.Proofs.Ytgamnncehjcdiaa.Ev
