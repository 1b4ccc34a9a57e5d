/- A record whose every step is of one operation is right: the plain law. -/
import Derived.Test.YtgamnncehjcdiaaTe
namespace Go.Proofs.Ytgamnncehjcdiaa
open Go Ev Go.RowKit
set_option linter.unusedSimpArgs false
set_option linter.unusedVariables false
set_option maxRecDepth 10000

def NoClash (a s : SpV) : Prop := (a.wk = s.wk → 0 ≤ a.rs ∧ a.rs < s.iv ∧ a.ix < s.ix) ∧ ∀ x ∈ stps s, x ≠ -1 → x ∉ stps a
theorem clash_iff (a s : SpV) : clash a s = false ↔ NoClash a s := by
  unfold clash NoClash shrd ahead
  rw [Bool.or_eq_false_iff]
  constructor
  · rintro ⟨h1, h2⟩
    refine ⟨fun hw => ?_, fun x hx hn hm => ?_⟩
    · rw [Bool.and_eq_false_iff] at h1
      rcases h1 with h1 | h1
      · simp [hw] at h1
      · simp at h1; omega
    · rw [List.any_eq_false] at h2
      have := h2 x hx
      simp [hn, hm] at this
  · rintro ⟨h1, h2⟩
    refine ⟨?_, ?_⟩
    · by_cases hw : a.wk = s.wk
      · have := h1 hw
        simp [hw]; omega
      · simp [hw]
    · rw [List.any_eq_false]
      intro x hx
      by_cases hn : x = -1
      · simp [hn]
      · have := h2 x hx hn
        simp [hn, this]
def MayP (S : List SpV) : Prop := ∀ m : Nat, m < S.length → right (spAt S m) = true ∧ ∀ k : Nat, k < m → (spAt S k).iv < (spAt S m).iv ∧ NoClash (spAt S k) (spAt S m)
theorem spAt_some {S : List SpV} {m : Nat} {s : SpV} (h : S[m]? = some s) : spAt S m = s := by
  unfold spAt; simp [List.getD_eq_getElem?_getD, h]
theorem mayL_of {S : List SpV} (h : MayP S) : mayL S := by
  intro m hm s hs
  have e := spAt_some hs
  obtain ⟨h1, h2⟩ := h m hm
  rw [e] at h1 h2
  refine ⟨h1, fun p hp hpm => ?_, fun k a hk ha => ?_⟩
  · have := (h2 (m - 1) (by omega)).1
    rw [spAt_some hpm] at this; exact this
  · have := (h2 k hk).2
    rw [spAt_some ha] at this
    exact (clash_iff _ _).2 this
/-- all that was told lies below this step -/
def Low (S : List SpV) (i : Int) : Prop := ∀ m : Nat, m < S.length → ∀ x ∈ stps (spAt S m), x < i
theorem spAt_snoc' (S : List SpV) (s : SpV) (m : Nat) (hm : m < S.length + 1) : (m < S.length ∧ spAt (S ++ [s]) m = spAt S m) ∨ (m = S.length ∧ spAt (S ++ [s]) m = s) := by
  rcases Nat.lt_or_ge m S.length with h | h
  · exact .inl ⟨h, spAt_snoc h⟩
  · obtain rfl : m = S.length := by omega
    exact .inr ⟨rfl, spAt_last⟩
theorem MayP.snoc {S : List SpV} {i : Int} (h : MayP S) (hl : Low S i) (s : SpV) (hr : right s = true) (hst : ∀ x ∈ stps s, x ≠ -1 → x = i) (hiv : s.iv = i) (hi : 0 ≤ i) (hw : ∀ m : Nat, m < S.length → (spAt S m).wk = s.wk → 0 ≤ (spAt S m).rs ∧ (spAt S m).ix < s.ix) : MayP (S ++ [s]) := by
  intro m hm
  rw [List.length_append, List.length_singleton] at hm
  rcases spAt_snoc' S s m hm with ⟨h1, e1⟩ | ⟨h1, e1⟩
  · rw [e1]
    refine ⟨(h m h1).1, fun k hk => ?_⟩
    rw [spAt_snoc (by omega)]
    exact (h m h1).2 k hk
  · rw [e1]
    refine ⟨hr, fun k hk => ?_⟩
    rw [spAt_snoc (by omega)]
    have hlk := hl k (by omega)
    refine ⟨by rw [hiv]; exact hlk _ (by simp [stps]), fun hwk => ?_, fun x hx hn hm' => ?_⟩
    · obtain ⟨a, b⟩ := hw k (by omega) hwk
      exact ⟨a, by rw [hiv]; exact hlk _ (by simp [stps]), b⟩
    · have := hst x hx hn
      have := hlk x hm'
      omega
theorem Low.snoc {S : List SpV} {i : Int} (h : Low S i) (s : SpV) (hst : ∀ x ∈ stps s, x < i + 1) : Low (S ++ [s]) (i + 1) := by
  intro m hm x hx
  rw [List.length_append, List.length_singleton] at hm
  rcases spAt_snoc' S s m hm with ⟨h1, e1⟩ | ⟨h1, e1⟩
  · rw [e1] at hx; have := h m h1 x hx; omega
  · rw [e1] at hx; exact hst x hx
/-- one that is open has a step more -/
theorem MayP.turn {S : List SpV} {i : Int} (h : MayP S) (hl : Low S i) {id : Nat} (hid : id < S.length) (s : SpV) (hr : right s = true) (h0 : (spAt S id).rs < 0) (hw : s.wk = (spAt S id).wk) (hx : s.ix = (spAt S id).ix) (hv : s.iv = (spAt S id).iv) (hst : ∀ x ∈ stps s, x = i ∨ x ∈ stps (spAt S id)) (hi : 0 ≤ i) : MayP (S.set id s) := by
  have key : ∀ m : Nat, (m = id ∧ spAt (S.set id s) m = s) ∨ (m ≠ id ∧ spAt (S.set id s) m = spAt S m) := fun m => by
    by_cases hm : m = id
    · subst hm; exact .inl ⟨rfl, spAt_set s hid⟩
    · exact .inr ⟨hm, spAt_ne s (fun e => hm e.symm)⟩
  intro m hm
  rw [List.length_set] at hm
  obtain ⟨g1, g2⟩ := h m hm
  rcases key m with ⟨e0, e1⟩ | ⟨e0, e1⟩
  · subst e0
    rw [e1]
    refine ⟨hr, fun k hk => ?_⟩
    rcases key k with ⟨f0, _⟩ | ⟨f0, f1⟩
    · omega
    rw [f1]
    obtain ⟨a1, a2, a3⟩ := g2 k hk
    refine ⟨by rw [hv]; exact a1, fun e => ?_, fun x hx' hn hm' => ?_⟩
    · rw [hv, hx]; exact a2 (by rw [e, hw])
    · rcases hst x hx' with e | e
      · have := hl k (by omega) x hm'; omega
      · exact a3 x e hn hm'
  · rw [e1]
    refine ⟨g1, fun k hk => ?_⟩
    obtain ⟨a1, a2, a3⟩ := g2 k hk
    rcases key k with ⟨f0, f1⟩ | ⟨f0, f1⟩
    · subst f0
      rw [f1]
      refine ⟨by rw [hv]; exact a1, fun e => ?_, fun x hx' hn hm' => ?_⟩
      · have := (a2 (by rw [← hw, e])).1
        omega
      · rcases hst x hm' with e | e
        · have := hl m hm x hx'; omega
        · exact a3 x hx' hn e
    · rw [f1]; exact ⟨a1, a2, a3⟩
theorem Low.turn {S : List SpV} {i : Int} (h : Low S i) {id : Nat} (hid : id < S.length) (s : SpV) (hst : ∀ x ∈ stps s, x = i ∨ x ∈ stps (spAt S id)) : Low (S.set id s) (i + 1) := by
  intro m hm x hx
  rw [List.length_set] at hm
  by_cases hmi : m = id
  · subst hmi
    rw [spAt_set s hid] at hx
    rcases hst x hx with e | e
    · omega
    · have := h m hid x e; omega
  · rw [spAt_ne s (fun e => hmi e.symm)] at hx
    have := h m hm x hx; omega
/-- the run, in the midst -/
structure RunI (i : Nat) (S : List SpV) (op : List Int) (last : Int) (id at' nx : List Int) : Prop where
  inv : RInv (S, op, last)
  lo : op.length = 3
  li : id.length = 3
  la : at'.length = 3
  ln : nx.length = 3
  le : last ≤ i
  may : MayP S
  low : Low S i
  bk : ∀ m : Nat, m < S.length → (spAt S m).bk = -1
  c : ∀ k : Nat, k < 3 → 0 ≤ op.getD k 0 → id.getD k 0 = op.getD k 0 ∧ ((at'.getD k 0 = 0 ∧ (spAt S (op.getD k 0)).pt = -1) ∨ (at'.getD k 0 = 1 ∧ 0 ≤ (spAt S (op.getD k 0)).pt))
  d : ∀ m : Nat, m < S.length → (spAt S m).ix < nx.getD (spAt S m).wk.toNat 0
  nn : ∀ k : Nat, k < 3 → 0 ≤ nx.getD k 0 ∧ nx.getD k 0 ≤ i
  len : S.length ≤ i
  wk : ∀ m : Nat, m < S.length → 0 ≤ (spAt S m).wk ∧ (spAt S m).wk < 3
theorem RunI.new : RunI 0 [] (neg1s 3) 0 [0, 0, 0] [0, 0, 0] [0, 0, 0] :=
  ⟨RInv.new 3, rfl, rfl, rfl, rfl, Int.le_refl _, fun m hm => by simp at hm, fun m hm => by simp at hm, fun m hm => by simp at hm, fun k hk h => by
    have : k = 0 ∨ k = 1 ∨ k = 2 := by omega
    rcases this with rfl | rfl | rfl <;> exact absurd h (by decide), fun m hm => by simp at hm, fun k hk => by
    have : k = 0 ∨ k = 1 ∨ k = 2 := by omega
    rcases this with rfl | rfl | rfl <;> exact ⟨by decide, by decide⟩, Nat.le_refl _, fun m hm => by simp at hm⟩
theorem getD_set' (xs : List Int) (i j : Nat) (x : Int) (hi : i < xs.length) : (xs.set i x).getD j 0 = if i = j then x else xs.getD j 0 := getD_set xs i j x hi
/-- a worker without an open one begins one -/
theorem RunI.begin {i : Nat} {S : List SpV} {op : List Int} {last : Int} {id at' nx : List Int} (h : RunI i S op last id at' nx) {k : Nat} (hk : k < 3) (h0 : op.getD k 0 < 0) (o : OpV) :
    (pBegin (S, op, last) k (nx.getD k 0) o i).1 = ((S.length : Int), 0) ∧ RunI (i + 1) (pBegin (S, op, last) k (nx.getD k 0) o i).2.1 (pBegin (S, op, last) k (nx.getD k 0) o i).2.2.1 (pBegin (S, op, last) k (nx.getD k 0) o i).2.2.2 (id.set k S.length) (at'.set k 0) (nx.set k (nx.getD k 0 + 1)) := by
  have hle := h.le
  have hlo := h.lo
  have e : pBegin (S, op, last) k (nx.getD k 0) o i = (((S.length : Int), 0), (S ++ [⟨k, nx.getD k 0, o, i, -1, -1, -1, resO⟩], op.set k S.length, (i : Int))) := by
    unfold pBegin
    rw [if_neg (by simp only [not_or, Int.toNat_natCast]; omega)]
    simp
  have hinv := (h.inv.begin k (nx.getD k 0) o i op.length rfl).2.2.1
  rw [e] at hinv ⊢
  simp only at hinv
  have hkop : k < op.length := by omega
  have hkid : k < id.length := by have := h.li; omega
  have hkat : k < at'.length := by have := h.la; omega
  have hknx : k < nx.length := by have := h.ln; omega
  have closed : ∀ m : Nat, m < S.length → (spAt S m).wk = k → 0 ≤ (spAt S m).rs := fun m hm hw => by
    rcases Int.lt_or_le (spAt S m).rs 0 with hr | hr
    · have := (h.inv.j2 m hm hr).2.2
      simp only [hw, Int.toNat_natCast] at this
      omega
    · exact hr
  obtain ⟨n1, n2⟩ := h.nn k hk
  refine ⟨rfl, ⟨hinv, by simp [h.lo], by simp [h.li], by simp [h.la], by simp [h.ln], by simp only; omega, ?_, ?_, ?_, ?_, ?_, ?_, by simp only [List.length_append, List.length_singleton]; have := h.len; omega, ?_⟩⟩
  · refine h.may.snoc h.low _ ?_ (fun x hx hn => ?_) rfl (by omega) fun m hm hw => ⟨closed m hm hw, ?_⟩
    · refine decide_eq_true ?_
      show 0 ≤ (k : Int) ∧ (k : Int) < 64 ∧ 0 ≤ (i : Int) ∧ ((-1 : Int) = -1 ∨ (i : Int) ≤ -1) ∧ ((-1 : Int) = -1 ∨ ((-1 : Int) ≠ -1 ∧ (-1 : Int) < -1)) ∧ ((-1 : Int) = -1 ∨ ((-1 : Int) ≠ -1 ∧ (-1 : Int) ≤ -1 ∧ (-1 : Int) ≤ -1))
      exact ⟨by omega, by omega, by omega, .inl rfl, .inl rfl, .inl rfl⟩
    · simp [stps] at hx; omega
    · have := h.d m hm
      simp only at hw
      rw [hw, Int.toNat_natCast] at this
      exact this
  · have := h.low.snoc ⟨k, nx.getD k 0, o, i, -1, -1, -1, resO⟩ (fun x hx => by simp [stps] at hx; omega)
    exact_mod_cast this
  · intro m hm
    simp only [List.length_append, List.length_singleton] at hm
    rcases spAt_snoc' S ⟨k, nx.getD k 0, o, i, -1, -1, -1, resO⟩ m hm with ⟨h1, e1⟩ | ⟨h1, e1⟩
    · rw [e1]; exact h.bk m h1
    · rw [e1]
  · intro j hj hpos
    simp only at hpos ⊢
    rw [getD_set' _ _ _ _ hkop] at hpos ⊢
    rw [getD_set' _ _ _ _ hkid, getD_set' _ _ _ _ hkat]
    by_cases hkj : k = j
    · rw [if_pos hkj, if_pos hkj, if_pos hkj, spAt_last]
      exact ⟨rfl, .inl ⟨rfl, rfl⟩⟩
    · rw [if_neg hkj] at hpos
      rw [if_neg hkj, if_neg hkj, if_neg hkj]
      have hc := h.c j hj hpos
      rcases h.inv.j3 j (by simp only; omega) with h1 | ⟨h1, h2, _, _⟩
      · simp only at h1; omega
      · simp only at h1 h2
        have e2 := spAt_snoc (S := S) (s := ⟨k, nx.getD k 0, o, i, -1, -1, -1, resO⟩) (i := (op.getD j 0).toNat) (by omega)
        rw [← spAt_nat h1, ← spAt_nat h1] at e2
        rw [e2]; exact hc
  · intro m hm
    simp only [List.length_append, List.length_singleton] at hm ⊢
    rw [getD_set' _ _ _ _ hknx]
    rcases spAt_snoc' S ⟨k, nx.getD k 0, o, i, -1, -1, -1, resO⟩ m hm with ⟨h1, e1⟩ | ⟨h1, e1⟩
    · rw [e1]
      have := h.d m h1
      split
      · rename_i hkk; rw [← hkk] at this; omega
      · exact this
    · rw [e1]
      simp only [Int.toNat_natCast, if_true]; omega
  · intro j hj
    rw [getD_set' _ _ _ _ hknx]
    have := h.nn j hj
    split <;> omega
  · intro m hm
    simp only [List.length_append, List.length_singleton] at hm
    rcases spAt_snoc' S ⟨k, nx.getD k 0, o, i, -1, -1, -1, resO⟩ m hm with ⟨h1, e1⟩ | ⟨h1, e1⟩
    · rw [e1]; exact h.wk m h1
    · rw [e1]; simp only; omega
theorem RunI.open_ {i : Nat} {S : List SpV} {op : List Int} {last : Int} {id at' nx : List Int} (h : RunI i S op last id at' nx) {k : Nat} (hk : k < 3) (h0 : 0 ≤ op.getD k 0) :
    ∃ m : Nat, m < S.length ∧ op.getD k 0 = m ∧ id.getD k 0 = m ∧ (spAt S m).wk = k ∧ (spAt S m).rs < 0 ∧ ((at'.getD k 0 = 0 ∧ (spAt S m).pt = -1) ∨ (at'.getD k 0 = 1 ∧ 0 ≤ (spAt S m).pt)) := by
  have hlo := h.lo
  rcases h.inv.j3 k (by simp only; omega) with h1 | ⟨h1, h2, h3, h4⟩
  · simp only at h1; omega
  · simp only at h1 h2 h3 h4
    refine ⟨(op.getD k 0).toNat, by omega, by omega, ?_, ?_, ?_, ?_⟩
    · have := (h.c k hk h0).1; omega
    · rw [← spAt_nat h1]; exact h3
    · rw [← spAt_nat h1]; exact h4
    · rw [← spAt_nat h1]; exact (h.c k hk h0).2
/-- it takes effect -/
theorem RunI.point {i : Nat} {S : List SpV} {op : List Int} {last : Int} {id at' nx : List Int} (h : RunI i S op last id at' nx) {k m : Nat} (hk : k < 3) (hm : m < S.length) (ho : op.getD k 0 = m) (hw : (spAt S m).wk = k) (hr : (spAt S m).rs < 0) (hp : (spAt S m).pt = -1) (re : ResV) :
    (pPoint (S, op, last) m i re).1 = 0 ∧ RunI (i + 1) (pPoint (S, op, last) m i re).2.1 (pPoint (S, op, last) m i re).2.2.1 (pPoint (S, op, last) m i re).2.2.2 id (at'.set k 1) nx := by
  have hle := h.le
  have hlo := h.lo
  have e : pPoint (S, op, last) m i re = (0, (S.set m { spAt S m with pt := i, re := re }, op, (i : Int))) := by
    unfold pPoint
    rw [if_pos ⟨⟨by omega, by simp only; omega, hr⟩, by simp only; omega, hle⟩]
    simp
  have hinv := (h.inv.point m i re).2.2.1
  rw [e] at hinv ⊢
  simp only at hinv
  have hkat : k < at'.length := by have := h.la; omega
  obtain ⟨r1, _⟩ := h.may m hm
  have r1 := of_decide_eq_true r1
  have hb := h.bk m hm
  have hl := h.low m hm
  have liv := hl (spAt S m).iv (by simp [stps])
  have hst : ∀ x ∈ stps { spAt S m with pt := (i : Int), re := re }, x = i ∨ x ∈ stps (spAt S m) := fun x hx => by simp [stps] at hx ⊢; omega
  have key : ∀ j : Nat, (m = j ∧ spAt (S.set m { spAt S m with pt := (i : Int), re := re }) j = { spAt S m with pt := (i : Int), re := re }) ∨ (m ≠ j ∧ spAt (S.set m { spAt S m with pt := (i : Int), re := re }) j = spAt S j) := fun j => by
    by_cases hj : m = j
    · subst hj; exact .inl ⟨rfl, spAt_set _ hm⟩
    · exact .inr ⟨hj, spAt_ne _ hj⟩
  refine ⟨rfl, ⟨hinv, h.lo, h.li, by simp [h.la], h.ln, by simp only; omega, ?_, ?_, ?_, ?_, ?_, ?_, by simp only [List.length_set]; have := h.len; omega, ?_⟩⟩
  · refine h.may.turn h.low hm _ ?_ hr rfl rfl rfl hst (by omega)
    refine decide_eq_true ?_
    simp only; omega
  · have := h.low.turn hm _ hst
    exact_mod_cast this
  · intro j hj
    simp only [List.length_set] at hj
    rcases key j with ⟨h1, e1⟩ | ⟨h1, e1⟩ <;> rw [e1]
    · exact hb
    · exact h.bk j hj
  · intro j hj hpos
    simp only at hpos ⊢
    rw [getD_set' _ _ _ _ hkat]
    have hc := h.c j hj hpos
    by_cases hkj : k = j
    · subst hkj
      rw [if_pos rfl]
      refine ⟨hc.1, .inr ⟨rfl, ?_⟩⟩
      rw [ho]
      rcases key m with ⟨h1, e1⟩ | ⟨h1, e1⟩
      · rw [e1]; simp only; omega
      · exact absurd rfl h1
    · rw [if_neg hkj]
      rcases h.inv.j3 j (by simp only; omega) with h1 | ⟨h1, h2, h3, _⟩
      · simp only at h1; omega
      · simp only at h1 h2 h3
        rcases key (op.getD j 0).toNat with ⟨g1, e1⟩ | ⟨g1, e1⟩
        · have : op.getD j 0 = m := by omega
          rw [this, hw] at h3; omega
        · rw [← spAt_nat h1, ← spAt_nat h1] at e1
          rw [e1]; exact hc
  · intro j hj
    simp only [List.length_set] at hj ⊢
    rcases key j with ⟨h1, e1⟩ | ⟨h1, e1⟩ <;> rw [e1]
    · subst h1; exact h.d m hj
    · exact h.d j hj
  · intro j hj
    have := h.nn j hj
    omega
  · intro j hj
    simp only [List.length_set] at hj
    rcases key j with ⟨h1, e1⟩ | ⟨h1, e1⟩ <;> rw [e1]
    · subst h1; exact h.wk m hj
    · exact h.wk j hj
/-- it ends -/
theorem RunI.ende {i : Nat} {S : List SpV} {op : List Int} {last : Int} {id at' nx : List Int} (h : RunI i S op last id at' nx) {k m : Nat} (hk : k < 3) (hm : m < S.length) (ho : op.getD k 0 = m) (hw : (spAt S m).wk = k) (hr : (spAt S m).rs < 0) (hp : 0 ≤ (spAt S m).pt) (re : ResV) :
    (pEnd (S, op, last) m i re).1 = 0 ∧ RunI (i + 1) (pEnd (S, op, last) m i re).2.1 (pEnd (S, op, last) m i re).2.2.1 (pEnd (S, op, last) m i re).2.2.2 id at' nx := by
  have hle := h.le
  have hlo := h.lo
  have e : pEnd (S, op, last) m i re = (0, (S.set m { spAt S m with rs := i, re := re }, op.set k (-1), (i : Int))) := by
    unfold pEnd
    rw [if_pos ⟨⟨by omega, by simp only; omega, hr⟩, hp, hle⟩]
    simp [hw]
  have hinv := (h.inv.ende m i re).2.2.1
  rw [e] at hinv ⊢
  simp only at hinv
  have hkop : k < op.length := by omega
  obtain ⟨r1, _⟩ := h.may m hm
  have r1 := of_decide_eq_true r1
  have hb := h.bk m hm
  have hl := h.low m hm
  have liv := hl (spAt S m).iv (by simp [stps])
  have lpt := hl (spAt S m).pt (by simp [stps])
  have hst : ∀ x ∈ stps { spAt S m with rs := (i : Int), re := re }, x = i ∨ x ∈ stps (spAt S m) := fun x hx => by simp [stps] at hx ⊢; omega
  have key : ∀ j : Nat, (m = j ∧ spAt (S.set m { spAt S m with rs := (i : Int), re := re }) j = { spAt S m with rs := (i : Int), re := re }) ∨ (m ≠ j ∧ spAt (S.set m { spAt S m with rs := (i : Int), re := re }) j = spAt S j) := fun j => by
    by_cases hj : m = j
    · subst hj; exact .inl ⟨rfl, spAt_set _ hm⟩
    · exact .inr ⟨hj, spAt_ne _ hj⟩
  refine ⟨rfl, ⟨hinv, by simp [h.lo], h.li, h.la, h.ln, by simp only; omega, ?_, ?_, ?_, ?_, ?_, ?_, by simp only [List.length_set]; have := h.len; omega, ?_⟩⟩
  · refine h.may.turn h.low hm _ ?_ hr rfl rfl rfl hst (by omega)
    refine decide_eq_true ?_
    simp only; omega
  · have := h.low.turn hm _ hst
    exact_mod_cast this
  · intro j hj
    simp only [List.length_set] at hj
    rcases key j with ⟨h1, e1⟩ | ⟨h1, e1⟩ <;> rw [e1]
    · exact hb
    · exact h.bk j hj
  · intro j hj hpos
    simp only at hpos ⊢
    rw [getD_set' _ _ _ _ hkop] at hpos ⊢
    by_cases hkj : k = j
    · rw [if_pos hkj] at hpos; omega
    · rw [if_neg hkj] at hpos ⊢
      have hc := h.c j hj hpos
      rcases h.inv.j3 j (by simp only; omega) with h1 | ⟨h1, h2, h3, _⟩
      · simp only at h1; omega
      · simp only at h1 h2 h3
        rcases key (op.getD j 0).toNat with ⟨g1, e1⟩ | ⟨g1, e1⟩
        · have : op.getD j 0 = m := by omega
          rw [this, hw] at h3; omega
        · rw [← spAt_nat h1, ← spAt_nat h1] at e1
          rw [e1]; exact hc
  · intro j hj
    simp only [List.length_set] at hj ⊢
    rcases key j with ⟨h1, e1⟩ | ⟨h1, e1⟩ <;> rw [e1]
    · subst h1; exact h.d m hj
    · exact h.d j hj
  · intro j hj
    have := h.nn j hj
    omega
  · intro j hj
    simp only [List.length_set] at hj
    rcases key j with ⟨h1, e1⟩ | ⟨h1, e1⟩ <;> rw [e1]
    · subst h1; exact h.wk m hj
    · exact h.wk j hj
/-- being ahead is an order -/
theorem ahead_iff (a b : SpV) : ahead a b = true ↔ 0 ≤ a.rs ∧ a.rs < b.iv := by simp [ahead]
theorem right_le {s : SpV} (h : right s = true) (hr : 0 ≤ s.rs) : s.iv ≤ s.rs := by
  have := of_decide_eq_true h
  omega
theorem ahead_not {S : List SpV} (h : MayP S) {i k : Nat} (hi : i < S.length) (hk : k < S.length) (ha : ahead (spAt S i) (spAt S k) = true) : ahead (spAt S k) (spAt S i) = false ∧ i < k := by
  have ha := (ahead_iff _ _).1 ha
  have r1 := right_le (h i hi).1 ha.1
  constructor
  · rw [Bool.eq_false_iff]
    intro hb
    have hb := (ahead_iff _ _).1 hb
    have := right_le (h k hk).1 hb.1
    omega
  · rcases Nat.lt_or_ge i k with h1 | h1
    · exact h1
    · rcases Nat.eq_or_lt_of_le h1 with h2 | h2
      · subst h2; omega
      · have := ((h i hi).2 k h2).1
        omega
theorem ahead_trans {S : List SpV} (h : MayP S) {i k j : Nat} (hk : k < S.length) (ha : ahead (spAt S i) (spAt S k) = true) (hb : ahead (spAt S k) (spAt S j) = true) : ahead (spAt S i) (spAt S j) = true := by
  have ha := (ahead_iff _ _).1 ha
  have hb := (ahead_iff _ _).1 hb
  have := right_le (h k hk).1 hb.1
  exact (ahead_iff _ _).2 ⟨ha.1, by omega⟩
end Go.Proofs.Ytgamnncehjcdiaa
