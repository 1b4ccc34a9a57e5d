/- What is read of a script that was cut. -/
import Derived.Test.YtgamnncehjcdiaaVg
namespace Go.Proofs.Ytgamnncehjcdiaa
open Go Ev Go.RowKit
set_option linter.unusedSimpArgs false
set_option linter.unusedVariables false
set_option maxRecDepth 10000

/-- what is read of a part is read of the whole -/
def Ext {α : Type} (f : Rst → α × Rst) : Prop := ∀ (t u : List Int), (f (t, false)).2.2 = false → f (t ++ u, false) = ((f (t, false)).1, ((f (t, false)).2.1 ++ u, false))
theorem pNum_ext (n : Nat) : Ext (pNum n) := by
  intro t u h
  unfold pNum at h ⊢
  by_cases hl : t.length < n
  · simp [hl] at h
  · have h2 : ¬ (t ++ u).length < n := by simp; omega
    simp only [Bool.false_eq_true, false_or, hl, h2, if_false]
    rw [List.take_append_of_le_length (by omega), List.drop_append_of_le_length (by omega)]
theorem pIf_ext (b : Bool) (n : Nat) : Ext (pIf b n) := by
  intro t u h
  cases b with
  | true => exact pNum_ext n t u h
  | false => rfl
theorem pNum_flag (n : Nat) (s : Rst) (h : s.2 = true) : (pNum n s).2.2 = true := by
  obtain ⟨a, b⟩ := s; simp only at h; subst h; simp [pNum]
theorem pIf_flag (b : Bool) (n : Nat) (s : Rst) (h : s.2 = true) : (pIf b n s).2.2 = true := by
  cases b with
  | true => exact pNum_flag n s h
  | false => exact h
theorem pIf_unflag {b : Bool} {n : Nat} {s : Rst} (h : (pIf b n s).2.2 = false) : s = (s.1, false) := by
  obtain ⟨a, c⟩ := s
  cases c with
  | false => rfl
  | true => rw [pIf_flag b n (a, true) rfl] at h; cases h
theorem pIf_ext' {b : Bool} {n : Nat} {s : Rst} (h : (pIf b n s).2.2 = false) (u : List Int) : pIf b n (s.1 ++ u, false) = ((pIf b n s).1, ((pIf b n s).2.1 ++ u, false)) := by
  have e := pIf_unflag h
  rw [e] at h ⊢
  exact pIf_ext b n s.1 u h
theorem pOp_ext : Ext pOp := by
  intro t u h
  have h6 := h
  simp only [pOp] at h6
  have s6 := congrArg Prod.snd (pIf_unflag h6)
  have s5 := congrArg Prod.snd (pIf_unflag s6)
  have s4 := congrArg Prod.snd (pIf_unflag s5)
  have s3 := congrArg Prod.snd (pIf_unflag s4)
  have s2 := congrArg Prod.snd (pIf_unflag s3)
  simp only at s6 s5 s4 s3 s2
  have e1 := pNum_ext 1 t u s2
  have e2 := pIf_ext' s3 u
  have e3 := pIf_ext' s4 u
  have e4 := pIf_ext' s5 u
  have e5 := pIf_ext' s6 u
  have e6 := pIf_ext' h6 u
  simp only [pOp, e1, e2, e3, e4, e5, e6]
theorem pOps_cut : ∀ (m : Nat) (t u : List Int) (l : List OpV) (rest : List Int), pOps m (t ++ u, false) = (l, (rest, false)) →
    ((pOps m (t, false)).2.2 = false ∧ (pOps m (t, false)).1 = l ∧ (pOps m (t, false)).2.1 ++ u = rest) ∨ ((pOps m (t, false)).2.2 = true ∧ (pOps m (t, false)).1 <+: l)
  | 0, t, u, l, rest, h => by
    simp only [pOps, Prod.mk.injEq] at h ⊢
    refine .inl ⟨?_, h.1, h.2.1⟩
    first | rfl | trivial
  | m + 1, t, u, l, rest, h => by
    by_cases hf : (pOp (t, false)).2.2 = true
    · refine .inr ?_
      simp only [pOps, hf, if_true]
      exact ⟨trivial, List.nil_prefix⟩
    · have hf' : (pOp (t, false)).2.2 = false := by simpa using hf
      have e := pOp_ext t u hf'
      have ep : (pOp (t, false)).2 = ((pOp (t, false)).2.1, false) := Prod.ext rfl hf'
      rw [pOps, e] at h
      simp only [Bool.false_eq_true, if_false, Prod.mk.injEq] at h
      have ih := pOps_cut m (pOp (t, false)).2.1 u _ _ (Prod.ext rfl h.2)
      rw [pOps, if_neg hf, ep]
      rcases ih with ⟨a, b, c⟩ | ⟨a, b⟩
      · exact .inl ⟨a, by rw [← h.1, b], c⟩
      · refine .inr ⟨a, ?_⟩
        rw [← h.1]
        exact (List.cons_prefix_cons).2 ⟨rfl, b⟩
theorem pList_cut (t u : List Int) (l : List OpV) (rest : List Int) (h : pList (t ++ u, false) = (l, (rest, false))) :
    ((pList (t, false)).2.2 = false ∧ (pList (t, false)).1 = l ∧ (pList (t, false)).2.1 ++ u = rest) ∨ ((pList (t, false)).2.2 = true ∧ (pList (t, false)).1 <+: l) := by
  by_cases hf : (pNum 2 (t, false)).2.2 = true
  · have hl : t.length < 2 := by
      unfold pNum at hf
      split at hf
      · rename_i hx
        rcases hx with hx | hx
        · cases hx
        · exact hx
      · cases hf
    have e : pNum 2 (t, false) = (0, (t, true)) := by simp [pNum, hl]
    refine .inr ?_
    simp only [pList, manyOf, e]
    exact ⟨rfl, List.nil_prefix⟩
  · have hf' : (pNum 2 (t, false)).2.2 = false := by simpa using hf
    have e := pNum_ext 2 t u hf'
    have ep : (pNum 2 (t, false)).2 = ((pNum 2 (t, false)).2.1, false) := Prod.ext rfl hf'
    simp only [pList, manyOf, e] at h
    have := pOps_cut _ _ u _ _ h
    simp only [pList, manyOf]
    rw [ep]
    exact this
/-- a part of lists: each begins as it did; behind one that is short all are empty -/
def Cut (L' L : List (List OpV)) : Prop := L'.length = L.length ∧ (∀ (i : Nat) (l' l : List OpV), L'[i]? = some l' → L[i]? = some l → l' <+: l) ∧ ∀ (i j : Nat) (l' l k' : List OpV), j < i → L'[j]? = some l' → L[j]? = some l → l'.length < l.length → L'[i]? = some k' → k' = []
theorem pLists_cut : ∀ (n : Nat) (t u : List Int) (L : List (List OpV)) (rest : List Int), pLists n (t ++ u, false) = (L, (rest, false)) →
    Cut (pLists n (t, false)).1 L ∧ ((pLists n (t, false)).2.2 = false → (pLists n (t, false)).1 = L ∧ (pLists n (t, false)).2.1 ++ u = rest)
  | 0, t, u, L, rest, h => by
    simp only [pLists, Prod.mk.injEq] at h ⊢
    obtain ⟨rfl, h, _⟩ := h
    exact ⟨⟨rfl, fun i l' l a => by simp at a, fun i j l' l k' hj a => by simp at a⟩, fun _ => ⟨rfl, h⟩⟩
  | n + 1, t, u, L, rest, h => by
    have hls := pLists_len (n + 1) (t ++ u, false)
    rw [h] at hls
    simp only at hls
    obtain ⟨l, L2, rfl⟩ : ∃ l L2, L = l :: L2 := by
      cases L with
      | nil => simp at hls
      | cons l L2 => exact ⟨l, L2, rfl⟩
    by_cases hf : (pList (t ++ u, false)).2.2 = false
    · have hp : pList (t ++ u, false) = ((pList (t ++ u, false)).1, ((pList (t ++ u, false)).2.1, false)) := Prod.ext rfl (Prod.ext rfl hf)
      simp only [pLists, Prod.mk.injEq, List.cons.injEq] at h
      obtain ⟨⟨h1, h2⟩, h3⟩ := h
      have hc := pList_cut t u _ _ hp
      rw [h1] at hc
      rcases hc with ⟨a, b, c⟩ | ⟨a, b⟩
      · have ep : (pList (t, false)).2 = ((pList (t, false)).2.1, false) := Prod.ext rfl a
        have e2 : (pList (t ++ u, false)).2 = ((pList (t, false)).2.1 ++ u, false) := Prod.ext c.symm hf
        rw [e2] at h2 h3
        obtain ⟨⟨i1, i2, i3⟩, i4⟩ := pLists_cut n _ u L2 rest (Prod.ext h2 h3)
        simp only [pLists]
        rw [ep, b]
        refine ⟨⟨by simp [i1], fun i l' k a1 a2 => ?_, fun i j l' k k' hj a1 a2 a3 a4 => ?_⟩, fun hh => ?_⟩
        · cases i with
          | zero => simp at a1 a2; rw [← a1, ← a2]; exact List.prefix_refl _
          | succ i => exact i2 i l' k (by simpa using a1) (by simpa using a2)
        · cases j with
          | zero => simp at a1 a2; rw [← a1, ← a2] at a3; omega
          | succ j =>
            obtain ⟨i, rfl⟩ : ∃ i', i = i' + 1 := ⟨i - 1, by omega⟩
            exact i3 i j l' k k' (by omega) (by simpa using a1) (by simpa using a2) a3 (by simpa using a4)
        · obtain ⟨x, y⟩ := i4 hh
          exact ⟨by rw [x], y⟩
      · have ep : (pList (t, false)).2 = ((pList (t, false)).2.1, true) := Prod.ext rfl a
        simp only [pLists]
        rw [ep, pLists_end]
        refine ⟨⟨by simpa using hls.symm, fun i l' k a1 a2 => ?_, fun i j l' k k' hj a1 a2 a3 a4 => ?_⟩, fun hh => by cases hh⟩
        · cases i with
          | zero => simp at a1 a2; rw [← a1, ← a2]; exact b
          | succ i =>
            have := List.eq_of_mem_replicate (List.mem_of_getElem? (show (List.replicate n ([] : List OpV))[i]? = some l' by simpa using a1))
            rw [this]; exact List.nil_prefix
        · obtain ⟨i, rfl⟩ : ∃ i', i = i' + 1 := ⟨i - 1, by omega⟩
          exact List.eq_of_mem_replicate (List.mem_of_getElem? (show (List.replicate n ([] : List OpV))[i]? = some k' by simpa using a4))
    · have hf' : (pList (t ++ u, false)).2 = ((pList (t ++ u, false)).2.1, true) := by
        have : (pList (t ++ u, false)).2.2 = true := by simpa using hf
        exact Prod.ext rfl this
      simp only [pLists] at h
      rw [hf', pLists_end] at h
      simp only [Prod.mk.injEq] at h
      exact absurd h.2.2 (by simp)
/-- a script read of a part of its bytes -/
theorem read_cut {s : ScV} (h : Fine s) {k : Nat} (h0 : 0 < k) (hk : k ≤ (encS s).length) :
    Cut (pRead ((encS s).take k)).1 s.1 ∧ (pRead ((encS s).take k)).2 <+: s.2 ∧ ((∃ (j : Nat) (l' l : List OpV), (pRead ((encS s).take k)).1[j]? = some l' ∧ s.1[j]? = some l ∧ l'.length < l.length) → (pRead ((encS s).take k)).2 = []) ∧
      (s.2.length ≤ (encS s).length - k ∨ (pRead ((encS s).take k)).2.length + ((encS s).length - k) = s.2.length) := by
  have hl := h.l
  have hp := h.p
  obtain ⟨k', rfl⟩ : ∃ k', k = k' + 1 := ⟨k - 1, by omega⟩
  have ht : (encS s).take (k' + 1) = (s.1.length : Int) :: (s.1.flatMap encL ++ s.2).take k' := by simp [encS]
  have hs : encS s = (s.1.length : Int) :: (s.1.flatMap encL ++ s.2) := by simp [encS]
  have hms := (mayS_iff s).1 h.m
  have hok : ∀ l ∈ s.1, ∀ o ∈ l, mayO o = true := fun l hl' o ho => by
    have := h.o
    simp only [okS, Bool.and_eq_true, List.all_eq_true] at this
    exact this.1 l hl' o ho
  have full := pLists_enc s.1 s.2 hms.1 hok h.w
  have hmin : (min ((s.1.length : Nat) : Int) 64).toNat = s.1.length := by omega
  have hd : (s.1.flatMap encL ++ s.2) = (s.1.flatMap encL ++ s.2).take k' ++ (s.1.flatMap encL ++ s.2).drop k' := (List.take_append_drop _ _).symm
  have hr : pRead ((encS s).take (k' + 1)) = ((pLists s.1.length ((s.1.flatMap encL ++ s.2).take k', false)).1, fin (pLists s.1.length ((s.1.flatMap encL ++ s.2).take k', false)).2) := by
    rw [ht, pRead, pNum_1]
    simp only [hmin]
  rw [hd] at full
  obtain ⟨c1, c2⟩ := pLists_cut _ _ _ _ _ full
  have hul : ((s.1.flatMap encL ++ s.2).drop k').length = (encS s).length - (k' + 1) := by rw [hs]; simp
  rw [hr]
  by_cases hf : (pLists s.1.length ((s.1.flatMap encL ++ s.2).take k', false)).2.2 = false
  · obtain ⟨e1, e2⟩ := c2 hf
    have hfin : fin (pLists s.1.length ((s.1.flatMap encL ++ s.2).take k', false)).2 = (pLists s.1.length ((s.1.flatMap encL ++ s.2).take k', false)).2.1 := by
      unfold fin
      rw [hf]
      have := congrArg List.length e2
      simp only [List.length_append] at this
      rw [if_neg (by simp), List.take_of_length_le (by omega)]
    have hlen := congrArg List.length e2
    rw [List.length_append, hul] at hlen
    refine ⟨c1, by simp only [hfin]; exact ⟨_, e2⟩, fun ⟨j, l', l, a, b, c⟩ => ?_, .inr (by simp only [hfin]; exact hlen)⟩
    simp only [e1] at a
    rw [b] at a; cases a; omega
  · have hf' : (pLists s.1.length ((s.1.flatMap encL ++ s.2).take k', false)).2.2 = true := by simpa using hf
    have hfin : fin (pLists s.1.length ((s.1.flatMap encL ++ s.2).take k', false)).2 = [] := by
      unfold fin; rw [if_pos hf']
    refine ⟨c1, by simp only [hfin]; exact List.nil_prefix, fun _ => by simp only [hfin], .inl ?_⟩
    rw [← hul]
    rcases Nat.lt_or_ge ((s.1.flatMap encL ++ s.2).drop k').length s.2.length with hlt | hge
    · exfalso
      have hk' : (s.1.flatMap encL).length ≤ k' := by
        simp only [List.length_drop, List.length_append] at hlt; omega
      rw [List.take_append, List.take_of_length_le hk'] at hf'
      have := pLists_enc s.1 (s.2.take (k' - (s.1.flatMap encL).length)) hms.1 hok h.w
      rw [this] at hf'
      cases hf'
    · exact hge
theorem read_none {s : List Int} : pRead (s.take 0) = ([], []) := by
  simp only [List.take_zero]; rfl
end Go.Proofs.Ytgamnncehjcdiaa
