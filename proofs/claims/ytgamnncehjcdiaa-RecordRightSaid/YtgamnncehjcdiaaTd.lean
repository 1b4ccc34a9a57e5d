/- Two records that are told the same: the plain law. -/
import Derived.Test.YtgamnncehjcdiaaTc
namespace Go.Proofs.Ytgamnncehjcdiaa
open Go Ev Go.RowKit
set_option linter.unusedSimpArgs false
set_option linter.unusedVariables false
set_option maxRecDepth 10000

theorem spAt_get {S : List SpV} {i : Nat} : spAt S (i : Int) = S.getD i spZ := rfl
theorem spAt_nat {S : List SpV} {id : Int} (h : 0 ≤ id) : spAt S id = spAt S ((id.toNat : Nat) : Int) := by unfold spAt; rw [Int.toNat_natCast]
/-- what a record keeps: an open one's worker has it as the open one, and each open one is one's -/
structure RInv (st : RecS) : Prop where
  j2 : ∀ i : Nat, i < st.1.length → (spAt st.1 i).rs < 0 → 0 ≤ (spAt st.1 i).wk ∧ (spAt st.1 i).wk < st.2.1.length ∧ st.2.1.getD (spAt st.1 i).wk.toNat 0 = i
  j3 : ∀ k : Nat, k < st.2.1.length → st.2.1.getD k 0 = -1 ∨ (0 ≤ st.2.1.getD k 0 ∧ st.2.1.getD k 0 < st.1.length ∧ (spAt st.1 (st.2.1.getD k 0)).wk = k ∧ (spAt st.1 (st.2.1.getD k 0)).rs < 0)
  j4 : 0 ≤ st.2.2
theorem pROpen_some {S : List SpV} {wk : Int} : ∀ (d i : Nat), pROpen S wk d i = -1 ∨ ∃ j : Nat, i ≤ j ∧ j < i + d ∧ pROpen S wk d i = j ∧ (spAt S j).wk = wk ∧ (spAt S j).rs < 0
  | 0, i => .inl rfl
  | d + 1, i => by
    rw [pROpen]
    split
    · rename_i h; exact .inr ⟨i, Nat.le_refl _, by omega, rfl, h⟩
    · rcases pROpen_some d (i + 1) with h | ⟨j, h1, h2, h3⟩
      · exact .inl h
      · exact .inr ⟨j, by omega, by omega, h3⟩
theorem pROpen_none {S : List SpV} {wk : Int} : ∀ (d i : Nat), pROpen S wk d i = -1 → ∀ j : Nat, i ≤ j → j < i + d → ¬ ((spAt S j).wk = wk ∧ (spAt S j).rs < 0)
  | 0, i, _, j, h1, h2 => by omega
  | d + 1, i, h, j, h1, h2 => by
    rw [pROpen] at h
    split at h
    · omega
    · rename_i hn
      rcases Nat.eq_or_lt_of_le h1 with h3 | h3
      · subst h3; exact hn
      · exact pROpen_none d (i + 1) h j (by omega) (by omega)
/-- both tell the same open one -/
theorem RInv.open_eq {st : RecS} (h : RInv st) (wk : Int) : pROpen st.1 wk st.1.length 0 = pOpen st.2.1 wk := by
  unfold pOpen
  by_cases hw : 0 ≤ wk ∧ wk < st.2.1.length
  · rw [if_pos hw]
    rcases pROpen_some (S := st.1) (wk := wk) st.1.length 0 with h1 | ⟨j, _, h2, h3, h4, h5⟩
    · rw [h1]
      rcases h.j3 wk.toNat (by omega) with h6 | ⟨h6, h7, h8, h9⟩
      · exact h6.symm
      · have hn := pROpen_none _ _ h1 (st.2.1.getD wk.toNat 0).toNat (Nat.zero_le _) (by omega)
        rw [← spAt_nat h6] at hn
        exact absurd ⟨by omega, h9⟩ hn
    · have := (h.j2 j (by omega) h5).2.2
      rw [h4] at this
      rw [h3, this]
  · rw [if_neg hw]
    rcases pROpen_some (S := st.1) (wk := wk) st.1.length 0 with h1 | ⟨j, _, h2, h3, h4, h5⟩
    · exact h1
    · have := h.j2 j (by omega) h5
      rw [h4] at this
      exact absurd ⟨this.1, this.2.1⟩ hw
/-- a number of a span is turned, but not the worker's, and it is open as it was -/
theorem RInv.turn {st : RecS} (h : RInv st) {id : Nat} (hid : id < st.1.length) (s : SpV) (hw : s.wk = (spAt st.1 id).wk) (hr : s.rs < 0 ↔ (spAt st.1 id).rs < 0) {t : Int} (ht : 0 ≤ t) : RInv (st.1.set id s, st.2.1, t) := by
  have key : ∀ i : Nat, (spAt (st.1.set id s) i).wk = (spAt st.1 i).wk ∧ ((spAt (st.1.set id s) i).rs < 0 ↔ (spAt st.1 i).rs < 0) := fun i => by
    by_cases hi : id = i
    · subst hi
      rw [spAt_set s hid]; exact ⟨hw, hr⟩
    · rw [spAt_ne s hi]; exact ⟨rfl, Iff.rfl⟩
  refine ⟨fun i hi h1 => ?_, fun k hk => ?_, ht⟩
  · simp only [List.length_set] at hi h1 ⊢
    rw [(key i).1]
    exact h.j2 i hi ((key i).2.1 h1)
  · simp only [List.length_set] at hk ⊢
    rcases h.j3 k hk with h1 | ⟨h1, h2, h3, h4⟩
    · exact .inl h1
    · right
      have := key (st.2.1.getD k 0).toNat
      rw [← spAt_nat h1, ← spAt_nat h1] at this
      exact ⟨h1, h2, by rw [this.1]; exact h3, this.2.2 h4⟩
theorem getD_set (xs : List Int) (i j : Nat) (x : Int) (hi : i < xs.length) : (xs.set i x).getD j 0 = if i = j then x else xs.getD j 0 := by
  simp only [List.getD_eq_getElem?_getD, List.getElem?_set]
  split
  · subst i; simp [hi]
  · rfl
theorem spAt_snoc {S : List SpV} {s : SpV} {i : Nat} (hi : i < S.length) : spAt (S ++ [s]) (i : Int) = spAt S (i : Int) := by
  unfold spAt; simp [List.getD_eq_getElem?_getD, List.getElem?_append_left hi]
theorem spAt_last {S : List SpV} {s : SpV} : spAt (S ++ [s]) (S.length : Int) = s := by
  unfold spAt; simp [List.getD_eq_getElem?_getD]
theorem RInv.begin {st : RecS} (h : RInv st) (wk ix : Int) (o : OpV) (t : Int) (n : Int) (hn : n = st.2.1.length) :
    (pBegin st wk ix o t).1 = (pRBegin n (st.1, st.2.2) wk ix o t).1 ∧ ((pBegin st wk ix o t).2.1, (pBegin st wk ix o t).2.2.2) = (pRBegin n (st.1, st.2.2) wk ix o t).2 ∧ RInv (pBegin st wk ix o t).2 ∧ (pBegin st wk ix o t).2.2.1.length = st.2.1.length ∧ (pBegin st wk ix o t).2.1.length ≤ st.1.length + 1 := by
  have ho := h.open_eq wk
  have hc : (wk < 0 ∨ (st.2.1.length : Int) ≤ wk ∨ 0 ≤ st.2.1.getD wk.toNat 0 ∨ t < st.2.2) ↔ (wk < 0 ∨ n ≤ wk ∨ 0 ≤ pROpen st.1 wk st.1.length 0 ∨ t < st.2.2) := by
    rw [ho, hn]
    unfold pOpen
    by_cases hw : 0 ≤ wk ∧ wk < st.2.1.length
    · rw [if_pos hw]
    · constructor <;> intro _ <;> omega
  unfold pBegin pRBegin
  by_cases hb : wk < 0 ∨ (st.2.1.length : Int) ≤ wk ∨ 0 ≤ st.2.1.getD wk.toNat 0 ∨ t < st.2.2
  · rw [if_pos hb, if_pos (hc.1 hb)]
    exact ⟨rfl, rfl, h, rfl, Nat.le_succ _⟩
  · rw [if_neg hb, if_neg fun hx => hb (hc.2 hx)]
    simp only [not_or] at hb
    obtain ⟨b1, b2, b3, b4⟩ := hb
    have hwl : wk.toNat < st.2.1.length := by omega
    refine ⟨rfl, rfl, ⟨fun i hi hr => ?_, fun k hk => ?_, by have := h.j4; simp only; omega⟩, by simp, by simp⟩
    · simp only [List.length_append, List.length_singleton, List.length_set] at hi hr ⊢
      rcases Nat.lt_or_ge i st.1.length with hlt | hge
      · rw [spAt_snoc hlt] at hr ⊢
        obtain ⟨c1, c2, c3⟩ := h.j2 i hlt hr
        refine ⟨c1, c2, ?_⟩
        rw [getD_set _ _ _ _ hwl, if_neg fun e => ?_]
        · exact c3
        · rw [← e] at c3; omega
      · obtain rfl : i = st.1.length := by omega
        rw [spAt_last]
        refine ⟨by simp only; omega, by simp only; omega, ?_⟩
        simp only
        rw [getD_set _ _ _ _ hwl, if_pos rfl]
    · simp only [List.length_append, List.length_singleton, List.length_set] at hk ⊢
      rw [getD_set _ _ _ _ hwl]
      by_cases hkw : wk.toNat = k
      · rw [if_pos hkw]
        right
        rw [spAt_last]
        exact ⟨by omega, by omega, by simp only; omega, by simp only; omega⟩
      · rw [if_neg hkw]
        rcases h.j3 k hk with c1 | ⟨c1, c2, c3, c4⟩
        · exact .inl c1
        · right
          have e := spAt_snoc (S := st.1) (s := ⟨wk, ix, o, t, -1, -1, -1, resO⟩) (i := (st.2.1.getD k 0).toNat) (by omega)
          rw [← spAt_nat c1, ← spAt_nat c1] at e
          rw [e]
          exact ⟨c1, by omega, c3, c4⟩
theorem RInv.point {st : RecS} (h : RInv st) (id t : Int) (re : ResV) :
    (pPoint st id t re).1 = (pRPoint (st.1, st.2.2) id t re).1 ∧ ((pPoint st id t re).2.1, (pPoint st id t re).2.2.2) = (pRPoint (st.1, st.2.2) id t re).2 ∧ RInv (pPoint st id t re).2 ∧ (pPoint st id t re).2.2.1.length = st.2.1.length ∧ (pPoint st id t re).2.1.length ≤ st.1.length + 1 := by
  unfold pPoint pRPoint
  by_cases hb : spanOk st.1 id ∧ (spAt st.1 id).pt < 0 ∧ st.2.2 ≤ t
  · rw [if_pos hb, if_pos hb]
    have hs := hb.1
    refine ⟨rfl, rfl, ?_, rfl, by simp⟩
    have := h.turn (id := id.toNat) (by have := hs.1; have := hs.2.1; omega) { spAt st.1 id with pt := t, re := re } (by rw [← spAt_nat hs.1]) (by rw [← spAt_nat hs.1]) (t := t) (by have := h.j4; omega)
    exact this
  · rw [if_neg hb, if_neg hb]
    exact ⟨rfl, rfl, h, rfl, Nat.le_succ _⟩
theorem RInv.back {st : RecS} (h : RInv st) (id t : Int) :
    (pBack st id t).1 = (pRBack (st.1, st.2.2) id t).1 ∧ ((pBack st id t).2.1, (pBack st id t).2.2.2) = (pRBack (st.1, st.2.2) id t).2 ∧ RInv (pBack st id t).2 ∧ (pBack st id t).2.2.1.length = st.2.1.length ∧ (pBack st id t).2.1.length ≤ st.1.length + 1 := by
  unfold pBack pRBack
  by_cases hb : spanOk st.1 id ∧ 0 ≤ (spAt st.1 id).pt ∧ (spAt st.1 id).bk < 0 ∧ st.2.2 ≤ t
  · rw [if_pos hb, if_pos hb]
    have hs := hb.1
    refine ⟨rfl, rfl, ?_, rfl, by simp⟩
    have := h.turn (id := id.toNat) (by have := hs.1; have := hs.2.1; omega) { spAt st.1 id with bk := t } (by rw [← spAt_nat hs.1]) (by rw [← spAt_nat hs.1]) (t := t) (by have := h.j4; omega)
    exact this
  · rw [if_neg hb, if_neg hb]
    exact ⟨rfl, rfl, h, rfl, Nat.le_succ _⟩
theorem RInv.wk {st : RecS} (h : RInv st) {id : Int} (hs : spanOk st.1 id) : 0 ≤ (spAt st.1 id).wk ∧ (spAt st.1 id).wk < st.2.1.length ∧ st.2.1.getD (spAt st.1 id).wk.toNat 0 = id := by
  have h1 := h.j2 id.toNat (by have := hs.1; have := hs.2.1; omega)
  rw [← spAt_nat hs.1] at h1
  have := h1 hs.2.2
  exact ⟨this.1, this.2.1, by rw [this.2.2]; have := hs.1; omega⟩
theorem RInv.ende {st : RecS} (h : RInv st) (id t : Int) (re : ResV) :
    (pEnd st id t re).1 = (pREnd (st.1, st.2.2) id t re).1 ∧ ((pEnd st id t re).2.1, (pEnd st id t re).2.2.2) = (pREnd (st.1, st.2.2) id t re).2 ∧ RInv (pEnd st id t re).2 ∧ (pEnd st id t re).2.2.1.length = st.2.1.length ∧ (pEnd st id t re).2.1.length ≤ st.1.length + 1 := by
  unfold pEnd pREnd
  by_cases hb : spanOk st.1 id ∧ 0 ≤ (spAt st.1 id).pt ∧ st.2.2 ≤ t
  · rw [if_pos hb, if_pos hb]
    have hs := hb.1
    obtain ⟨w1, w2, w3⟩ := h.wk hs
    have hid : id.toNat < st.1.length := by have := hs.1; have := hs.2.1; omega
    have hwl : (spAt st.1 id).wk.toNat < st.2.1.length := by omega
    have ht : 0 ≤ t := by have := h.j4; omega
    have key : ∀ i : Nat, id.toNat ≠ i → spAt (st.1.set id.toNat { spAt st.1 id with rs := t, re := re }) i = spAt st.1 i := fun i hi => spAt_ne _ hi
    refine ⟨rfl, rfl, ⟨fun i hi hr => ?_, fun k hk => ?_, ht⟩, by simp, by simp⟩
    · simp only [List.length_set] at hi hr ⊢
      by_cases he : id.toNat = i
      · subst he
        rw [spAt_set _ hid] at hr
        simp only at hr; omega
      · rw [key i he] at hr ⊢
        obtain ⟨c1, c2, c3⟩ := h.j2 i hi hr
        refine ⟨c1, c2, ?_⟩
        rw [getD_set _ _ _ _ hwl, if_neg fun e => ?_]
        · exact c3
        · rw [← e, w3] at c3; omega
    · simp only [List.length_set] at hk ⊢
      rw [getD_set _ _ _ _ hwl]
      by_cases hkw : (spAt st.1 id).wk.toNat = k
      · rw [if_pos hkw]; exact .inl rfl
      · rw [if_neg hkw]
        rcases h.j3 k hk with c1 | ⟨c1, c2, c3, c4⟩
        · exact .inl c1
        · right
          have hne : id.toNat ≠ (st.2.1.getD k 0).toNat := fun e => by
            have : st.2.1.getD k 0 = id := by have := hs.1; omega
            rw [this] at c3
            omega
          have e := key _ hne
          rw [← spAt_nat c1, ← spAt_nat c1] at e
          rw [e]
          exact ⟨c1, c2, c3, c4⟩
  · rw [if_neg hb, if_neg hb]
    exact ⟨rfl, rfl, h, rfl, Nat.le_succ _⟩
theorem RInv.new (n : Nat) : RInv ([], neg1s n, 0) := by
  refine ⟨fun i hi => by simp at hi, fun k hk => ?_, Int.le_refl _⟩
  left
  simp only [neg1s, List.length_replicate] at hk
  simp [neg1s, List.getD_eq_getElem?_getD, hk]
end Go.Proofs.Ytgamnncehjcdiaa
