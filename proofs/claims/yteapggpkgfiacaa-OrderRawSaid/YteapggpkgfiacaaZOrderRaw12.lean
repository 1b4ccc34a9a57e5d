/- Parts of the proof of OrderRaw, one behind the other. Conditions: none. -/
import Derived.Test.YteapggpkgfiacaaZOrderRaw11
namespace Go.Proofs.Yteapggpkgfiacaa
open Go Ev Go.RowKit
set_option linter.unusedSimpArgs false
set_option linter.unusedVariables false
set_option maxRecDepth 10000

/-- a Point, or a Back: step, span, is it a Back -/
abbrev EvV := Int × Int × Bool
def evC (e : EvV) : List Value := [.int .i64 e.1, .int .i64 e.2.1, .bool e.2.2]
theorem evC_len (e : EvV) : (evC e).length = 3 := rfl
def evsOf (i : Nat) (s : SpV) : List EvV := (if 0 ≤ s.pt then [(s.pt, (i : Int), false)] else []) ++ (if 0 ≤ s.bk then [(s.bk, (i : Int), true)] else [])
def rawFrom : Nat → List SpV → List EvV
  | _, [] => []
  | i, s :: r => evsOf i s ++ rawFrom (i + 1) r
def rawEv (l : List SpV) : List EvV := rawFrom 0 l
theorem evsOf_len (i : Nat) (s : SpV) : (evsOf i s).length ≤ 2 := by
  unfold evsOf; split <;> split <;> simp
theorem rawFrom_len : ∀ (l : List SpV) (i : Nat), (rawFrom i l).length ≤ 2 * l.length
  | [], _ => Nat.zero_le _
  | s :: r, i => by
    have h1 := evsOf_len i s
    have h2 := rawFrom_len r (i + 1)
    simp only [rawFrom, List.length_append, List.length_cons]; omega
theorem rawFrom_app : ∀ (l : List SpV) (i : Nat) (s : SpV), rawFrom i (l ++ [s]) = rawFrom i l ++ evsOf (i + l.length) s
  | [], i, s => by simp [rawFrom]
  | a :: l, i, s => by
    rw [List.cons_append, rawFrom, rawFrom, rawFrom_app l (i + 1) s, List.append_assoc, List.length_cons]
    rw [show i + 1 + l.length = i + (l.length + 1) by omega]
/-- the document's place for one more -/
def putV (e : EvV) : List EvV → List EvV
  | [] => [e]
  | y :: r => if y.1 ≤ e.1 then y :: putV e r else e :: y :: r
def sortR (l : List EvV) : List EvV := l.foldl (fun acc e => putV e acc) []
/-- the program's: how two stand to each other; one more into a list that is turned round -/
def cmpV (a b : EvV) : Int := if a.1 ≠ b.1 then (if a.1 < b.1 then -1 else 1) else if a.2.2 = b.2.2 then 0 else if b.2.2 = true then -1 else 1
def insR (e : EvV) : List EvV → List EvV
  | [] => [e]
  | y :: r => if cmpV e y < 0 then y :: insR e r else e :: y :: r
def sortI (l : List EvV) : List EvV := (l.foldl (fun acc e => insR e acc) []).reverse
def Asc (l : List EvV) : Prop := l.Pairwise fun a b => a.1 < b.1
def Dsc (l : List EvV) : Prop := l.Pairwise fun a b => b.1 < a.1
theorem putV_perm (e : EvV) : ∀ l : List EvV, (putV e l).Perm (e :: l)
  | [] => .refl _
  | y :: r => by
    unfold putV
    split
    · exact ((putV_perm e r).cons y).trans (.swap _ _ _)
    · exact .refl _
theorem insR_perm (e : EvV) : ∀ l : List EvV, (insR e l).Perm (e :: l)
  | [] => .refl _
  | y :: r => by
    unfold insR
    split
    · exact ((insR_perm e r).cons y).trans (.swap _ _ _)
    · exact .refl _
theorem cmpV_lt {a b : EvV} (h : a.1 ≠ b.1) : cmpV a b < 0 ↔ a.1 < b.1 := by
  unfold cmpV
  rw [if_pos h]
  split
  · simp [*]
  · simp [*]
theorem putV_asc {e : EvV} : ∀ {l : List EvV}, Asc l → (∀ y ∈ l, y.1 ≠ e.1) → Asc (putV e l)
  | [], _, _ => List.pairwise_singleton _ _
  | y :: r, h, hd => by
    obtain ⟨h1, h2⟩ := List.pairwise_cons.1 h
    have hy := hd y (by simp)
    unfold putV
    split
    · refine List.pairwise_cons.2 ⟨fun z hz => ?_, putV_asc h2 fun z hz => hd z (List.mem_cons_of_mem _ hz)⟩
      rcases List.mem_cons.1 ((putV_perm e r).mem_iff.1 hz) with rfl | hz
      · omega
      · exact h1 z hz
    · refine List.pairwise_cons.2 ⟨fun z hz => ?_, h⟩
      rcases List.mem_cons.1 hz with rfl | hz
      · omega
      · have := h1 z hz; omega
theorem insR_dsc {e : EvV} : ∀ {l : List EvV}, Dsc l → (∀ y ∈ l, y.1 ≠ e.1) → Dsc (insR e l)
  | [], _, _ => List.pairwise_singleton _ _
  | y :: r, h, hd => by
    obtain ⟨h1, h2⟩ := List.pairwise_cons.1 h
    have hy := hd y (by simp)
    have hc := cmpV_lt (a := e) (b := y) (fun h => hy h.symm)
    unfold insR
    split
    · rename_i hlt
      have := hc.1 hlt
      refine List.pairwise_cons.2 ⟨fun z hz => ?_, insR_dsc h2 fun z hz => hd z (List.mem_cons_of_mem _ hz)⟩
      rcases List.mem_cons.1 ((insR_perm e r).mem_iff.1 hz) with rfl | hz
      · exact this
      · exact h1 z hz
    · rename_i hlt
      have : ¬ e.1 < y.1 := fun h => hlt (hc.2 h)
      refine List.pairwise_cons.2 ⟨fun z hz => ?_, h⟩
      rcases List.mem_cons.1 hz with rfl | hz
      · omega
      · have := h1 z hz; omega
theorem asc_unique : ∀ {l k : List EvV}, Asc l → Asc k → l.Perm k → l = k
  | [], k, _, _, h => by rw [List.nil_perm.1 h]
  | x :: l, [], _, _, h => by have := h.length_eq; simp at this
  | x :: l, y :: k, hl, hk, h => by
    obtain ⟨a1, a2⟩ := List.pairwise_cons.1 hl
    obtain ⟨b1, b2⟩ := List.pairwise_cons.1 hk
    have e : x = y := by
      have hx : x ∈ y :: k := h.mem_iff.1 (by simp)
      have hy : y ∈ x :: l := h.mem_iff.2 (by simp)
      rcases List.mem_cons.1 hx with e | hx
      · exact e
      · rcases List.mem_cons.1 hy with e | hy
        · exact e.symm
        · have := a1 y hy; have := b1 x hx; omega
    subst e
    rw [asc_unique a2 b2 (List.Perm.cons_inv h)]
/-- no two have one step -/
def Dst (l : List EvV) : Prop := l.Pairwise fun a b => a.1 ≠ b.1
theorem sortR_fold : ∀ (l acc : List EvV), Asc acc → Dst l → (∀ a ∈ acc, ∀ b ∈ l, a.1 ≠ b.1) → Asc (l.foldl (fun acc e => putV e acc) acc) ∧ (l.foldl (fun acc e => putV e acc) acc).Perm (acc ++ l)
  | [], acc, h, _, _ => ⟨h, by simp⟩
  | e :: l, acc, h, hd, hx => by
    obtain ⟨d1, d2⟩ := List.pairwise_cons.1 hd
    have hp := putV_perm e acc
    obtain ⟨i1, i2⟩ := sortR_fold l (putV e acc) (putV_asc h fun y hy => hx y hy e (by simp)) d2 (fun a ha b hb => by
      rcases List.mem_cons.1 (hp.mem_iff.1 ha) with rfl | ha
      · exact d1 b hb
      · exact hx a ha b (List.mem_cons_of_mem _ hb))
    refine ⟨i1, i2.trans ?_⟩
    exact (hp.append_right l).trans (by simpa using (List.perm_middle (a := e) (l₁ := acc) (l₂ := l)).symm)
theorem sortI_fold : ∀ (l acc : List EvV), Dsc acc → Dst l → (∀ a ∈ acc, ∀ b ∈ l, a.1 ≠ b.1) → Dsc (l.foldl (fun acc e => insR e acc) acc) ∧ (l.foldl (fun acc e => insR e acc) acc).Perm (acc ++ l)
  | [], acc, h, _, _ => ⟨h, by simp⟩
  | e :: l, acc, h, hd, hx => by
    obtain ⟨d1, d2⟩ := List.pairwise_cons.1 hd
    have hp := insR_perm e acc
    obtain ⟨i1, i2⟩ := sortI_fold l (insR e acc) (insR_dsc h fun y hy => hx y hy e (by simp)) d2 (fun a ha b hb => by
      rcases List.mem_cons.1 (hp.mem_iff.1 ha) with rfl | ha
      · exact d1 b hb
      · exact hx a ha b (List.mem_cons_of_mem _ hb))
    refine ⟨i1, i2.trans ?_⟩
    exact (hp.append_right l).trans (by simpa using (List.perm_middle (a := e) (l₁ := acc) (l₂ := l)).symm)
theorem sort_same {l : List EvV} (h : Dst l) : sortI l = sortR l := by
  obtain ⟨a1, a2⟩ := sortR_fold l [] List.Pairwise.nil h (fun a ha => by simp at ha)
  obtain ⟨b1, b2⟩ := sortI_fold l [] List.Pairwise.nil h (fun a ha => by simp at ha)
  refine asc_unique (List.pairwise_reverse.2 b1) a1 ?_
  exact (List.reverse_perm _).trans (b2.trans a2.symm)
theorem ev_mem {i : Nat} {s : SpV} {e : EvV} (h : e ∈ evsOf i s) : 0 ≤ e.1 ∧ e.1 ∈ stps s ∧ ((e.2.2 = false ∧ e.1 = s.pt) ∨ (e.2.2 = true ∧ e.1 = s.bk)) := by
  unfold evsOf at h
  rcases List.mem_append.1 h with h | h
  · split at h
    · rename_i h0
      simp only [List.mem_singleton] at h
      subst h
      exact ⟨h0, by simp [stps], .inl ⟨rfl, rfl⟩⟩
    · cases h
  · split at h
    · rename_i h0
      simp only [List.mem_singleton] at h
      subst h
      exact ⟨h0, by simp [stps], .inr ⟨rfl, rfl⟩⟩
    · cases h
theorem rawFrom_mem : ∀ (l : List SpV) (i : Nat) (e : EvV), e ∈ rawFrom i l → ∃ (k : Nat) (s : SpV), l[k]? = some s ∧ e ∈ evsOf (i + k) s
  | [], i, e, h => by cases h
  | a :: l, i, e, h => by
    rw [rawFrom] at h
    rcases List.mem_append.1 h with h | h
    · exact ⟨0, a, rfl, h⟩
    · obtain ⟨k, s, h1, h2⟩ := rawFrom_mem l (i + 1) e h
      exact ⟨k + 1, s, by simpa using h1, by rw [show i + (k + 1) = i + 1 + k by omega]; exact h2⟩
theorem evsOf_dst {i : Nat} {s : SpV} (h : right s = true) : Dst (evsOf i s) := by
  simp only [right, decide_eq_true_eq] at h
  unfold evsOf Dst
  split <;> split <;> simp
  omega
theorem raw_dst0 {L : List SpV} (hm : mayL L) : ∀ (l : List SpV) (i : Nat), (∀ k s, l[k]? = some s → L[i + k]? = some s) → Dst (rawFrom i l)
  | [], _, _ => List.Pairwise.nil
  | a :: l, i, hL => by
    have ha : L[i]? = some a := hL 0 a rfl
    have hil := (List.getElem?_eq_some_iff.1 ha).1
    rw [rawFrom]
    refine List.pairwise_append.2 ⟨evsOf_dst (hm i hil a ha).1, raw_dst0 hm l (i + 1) (fun k s h => by rw [show i + 1 + k = i + (k + 1) by omega]; exact hL (k + 1) s (by simpa using h)), fun x hx y hy e => ?_⟩
    obtain ⟨k, s, hk, hy⟩ := rawFrom_mem l (i + 1) y hy
    obtain ⟨x0, x1, _⟩ := ev_mem hx
    obtain ⟨y0, y1, _⟩ := ev_mem hy
    have hs : L[i + (k + 1)]? = some s := hL (k + 1) s (by simpa using hk)
    have hc := (hm _ (List.getElem?_eq_some_iff.1 hs).1 s hs).2.2 i a (by omega) ha
    simp only [clash, Bool.or_eq_false_iff] at hc
    have h2 := hc.2
    rw [shrd, List.any_eq_false] at h2
    have h3 := h2 y.1 y1
    apply h3
    rw [← e]
    simp only [Bool.and_eq_true, bne_iff_ne, ne_eq]
    exact ⟨by omega, List.contains_iff_mem.2 x1⟩
theorem raw_dst {l : List SpV} (hm : mayL l) : Dst (rawEv l) := raw_dst0 hm l 0 fun k s h => by simpa using h
/-- the events in their order -/
def evs (l : List SpV) : List EvV := sortR (rawEv l)
theorem evs_eq {l : List SpV} (hm : mayL l) : sortI (rawEv l) = evs l := sort_same (raw_dst hm)
end Go.Proofs.Yteapggpkgfiacaa

namespace Go.Proofs.Yteapggpkgfiacaa
open Go Ev Go.RowKit
set_option linter.unusedSimpArgs false
set_option linter.unusedVariables false
set_option maxRecDepth 10000

theorem l_May0 {l : List SpV} (hl : l.length ≤ 1000000) {A : Option Addr} {c : Nat} {W : World} : ∀ (d i : Nat) (w : World), RdV w A (l.flatMap spC) → Chg [] W w → (∀ j, j < i → okAt l j) → i + d = l.length →
    P15_0 (.slice A l.length c) (.slice A l.length c) (.int .i64 l.length) (.int .i64 i) w fun v w' => v = .bool (mayB l) ∧ Chg [] W w' := by
  intro d
  induction d with
  | zero =>
    intro i w hA hW hok hi
    apply L15_0_ok
    have : ¬ ((i : Int) < l.length) := by omega
    simp -implicitDefEqProofs only [L15_0, wpB_some', bp_lss, this, decide_false, cnd_false]
    exact ⟨by rw [mayB_t fun j hj => hok j (by omega)], hW⟩
  | succ d ih =>
    intro i w hA hW hok hi
    apply L15_0_ok
    have hlt : (i : Int) < l.length := by omega
    have hil : i < l.length := by omega
    obtain ⟨b, o, q1, q2⟩ := sp_at' (c := c) (j := .i64) (i := i) hA hil
    simp -implicitDefEqProofs only [L15_0, wpB_some', bp_lss, hlt, decide_true, cnd_true, q1, q2.ld, al_34]
    rw [st_34 (by rfl) (by rfl) (by rw [alloc_heap, if_pos rfl]; rfl) (by rw [alloc_heap, if_pos rfl]; rfl), alloc_heap, if_pos rfl]
    simp -implicitDefEqProofs only [getE_some]
    have hcz : ∀ z : Array Value, Chg [] w (put (w.alloc (.cells z 34)) w.heap.size (spA l[i]) 34) ∧ hp (put (w.alloc (.cells z 34)) w.heap.size (spA l[i]) 34) w.heap.size = some (.cells (spA l[i]) 34) := fun z =>
      ⟨((Chg.refl _ _).alloc _).put (.inr (Nat.le_refl _)) _ _, by rw [put_heap, if_pos rfl, if_pos (by simp)]⟩
    obtain ⟨hc0, hg⟩ := hcz #[.int .i64 0, .int .i64 0, .int .i64 0, .int .i64 0, .int .i64 0, .int .i64 0, .int .u64 0, .int .u64 0, .int .i64 0, .int .i64 0, .int .i64 0, .int .i64 0, .int .i64 0, .int .i64 0, .int .i64 0, .int .i64 0, .int .i64 0, .int .i64 0, .int .i64 0, .int .u64 0]
    generalize put (w.alloc (.cells #[.int .i64 0, .int .i64 0, .int .i64 0, .int .i64 0, .int .i64 0, .int .i64 0, .int .u64 0, .int .u64 0, .int .i64 0, .int .i64 0, .int .i64 0, .int .i64 0, .int .i64 0, .int .i64 0, .int .i64 0, .int .i64 0, .int .i64 0, .int .i64 0, .int .i64 0, .int .u64 0] 34)) w.heap.size (spA l[i]) 34 = w1 at *
    generalize w.heap.size = g at *
    have hgs := at_blk hg
    simp -implicitDefEqProofs only [(hgs.keep (Chg.refl [] w1).drew).ld, wpB_some']
    refine (c_right l[i] w1.drew).mono ?_
    rintro v w2 ⟨rfl, hc2⟩
    have hc2 : Chg [] w1 w2 := (Chg.refl _ _).drew.trans hc2
    have hc02 := hc0.trans hc2
    have hA2 := hA.keep hc02.below
    have hg2 := hgs.keep hc2
    have bad : ¬ okAt l i → mayB l = false := fun h => mayB_f hil h
    have ge : l[i]? = some l[i] := List.getElem?_eq_getElem hil
    have inner : right l[i] = true → (∀ p, 0 < i → l[i - 1]? = some p → p.iv < l[i].iv) → P15_1 (.slice A l.length c) (.pointer (some ⟨g, 0, none⟩)) (.slice A l.length c) (.int .i64 l.length) (.int .i64 i) (.int .i64 i) (.int .i64 0) w2 fun v w' => v = .bool (mayB l) ∧ Chg [] W w' := by
      intro h1 h2
      refine l_May1 (W := W) hl hil (mayB l) (fun ⟨k, a, hk, ha, hcl⟩ => bad fun hokk => by
        have := (hokk l[i] ge).2.2 k a hk ha
        rw [hcl] at this; cases this) (fun hno w' hA' hW' => ?_) i 0 w2 hA2 (hc2.at hg (by simp)) (hW.trans hc02) (fun k' a hk' => by omega) (by omega)
      have h := ih (i + 1) w' hA' hW' (fun j hj => by
        rcases Nat.lt_or_ge j i with h | h
        · exact hok j h
        · have : j = i := by omega
          subst this
          intro s hs
          rw [ge] at hs
          cases hs
          exact ⟨h1, h2, hno⟩) (by omega)
      rw [Int.natCast_add i 1] at h
      exact h
    cases hr : right l[i] with
    | false =>
      simp -implicitDefEqProofs only [pr_not, Bool.not_false, wpB_some', gd_tf, gv_tf, pickv_true, cnd_true, gd_ut, gv_ut]
      exact ⟨by rw [bad fun h => by have := (h l[i] ge).1; rw [hr] at this; cases this], hW.trans hc02⟩
    | true =>
      by_cases h0 : (0 : Int) < i
      · have hi1 : i - 1 < l.length := by omega
        obtain ⟨b1, o1, r1, r2⟩ := sp_at' (c := c) (j := .i64) (i := i - 1) hA2 hi1
        rw [show ((i - 1 : Nat) : Int) = (i : Int) - 1 by omega] at r1
        by_cases hle : l[i].iv ≤ l[i - 1].iv
        · simp -implicitDefEqProofs only [pr_not, Bool.not_true, wpB_some', gd_false, gv_false, bp_gtr, h0, decide_true, gd_true, gv_true, fa_34_3, ld_3, hg2.f8, bp_sub, wrapi (n := (i : Int) - 1) (by omega) (by omega), r1, r2.f8, bp_leq, hle, pickv_true, pickv_false, cnd_true]
          exact ⟨by rw [bad fun h => by have := (h l[i] ge).2.1 l[i - 1] (by omega) (List.getElem?_eq_getElem hi1); omega], hW.trans hc02⟩
        · simp -implicitDefEqProofs only [pr_not, Bool.not_true, wpB_some', gd_false, gv_false, bp_gtr, h0, decide_true, decide_false, gd_true, gv_true, fa_34_3, ld_3, hg2.f8, bp_sub, wrapi (n := (i : Int) - 1) (by omega) (by omega), r1, r2.f8, bp_leq, hle, pickv_true, pickv_false, cnd_false]
          exact inner hr fun p _ hp => by
            rw [List.getElem?_eq_getElem hi1] at hp
            cases hp; omega
      · simp -implicitDefEqProofs only [pr_not, Bool.not_true, wpB_some', gd_false, gv_false, bp_gtr, h0, decide_false, gd_ft, gv_ft, pickv_false, cnd_false]
        exact inner hr fun p h _ => by omega
theorem c_RMay {l : List SpV} (hl : l.length ≤ 1000000) {v : Value} {w : World} (hv : SlP w v l) : CallR Try.prog 15 [v] w fun r w' => r = .bool (mayB l) ∧ Chg [] w w' := by
  obtain ⟨A, c, rfl, hA⟩ := hv
  apply F15_ok
  simp -implicitDefEqProofs only [F15, len_35, wpB_some']
  exact l_May0 hl l.length 0 w hA (Chg.refl _ _) (fun j hj => by omega) (by omega)
end Go.Proofs.Yteapggpkgfiacaa

namespace Go.Proofs.Yteapggpkgfiacaa
open Go Ev Go.RowKit
set_option linter.unusedSimpArgs false
set_option linter.unusedVariables false
set_option maxRecDepth 10000

theorem l_Ref1 {l : List SpV} (hl : l.length ≤ 1000000) {A : Option Addr} {c i : Nat} (hi : i < l.length) (hri : right l[i] = true) {W : World} (r : Bool) (hr : (∃ k a, k < i ∧ l[k]? = some a ∧ clash a l[i] = true) → r = false)
    (next : (∀ k a, k < i → l[k]? = some a → clash a l[i] = false) → ∀ w, RdV w A (l.flatMap spC) → Chg [] W w → P11_0 (.slice A l.length c) (.int .i64 ((i : Int) + 1)) w fun v w' => v = .bool r ∧ Chg [] W w') :
    ∀ (d k : Nat) (w : World), RdV w A (l.flatMap spC) → Chg [] W w → (∀ k' a, k' < k → l[k']? = some a → clash a l[i] = false) → k + d = i →
      P11_1 (.slice A l.length c) (.int .i64 i) (.int .i64 k) w fun v w' => v = .bool r ∧ Chg [] W w' := by
  intro d
  induction d with
  | zero =>
    intro k w hA hW hno hk
    apply L11_1_ok
    have : ¬ ((k : Int) < i) := by omega
    simp -implicitDefEqProofs only [L11_1, wpB_some', bp_lss, this, decide_false, cnd_false, bp_add, wrapi (n := (i : Int) + 1) (by omega) (by omega)]
    exact next (fun k' a hk' ha => hno k' a (by omega) ha) w hA hW
  | succ d ih =>
    intro k w hA hW hno hk
    apply L11_1_ok
    have hlt : (k : Int) < i := by omega
    have hkl : k < l.length := by omega
    obtain ⟨b, o, q1, q2⟩ := sp_at' (c := c) (j := .i64) (i := k) hA hkl
    obtain ⟨b', o', p1, p2⟩ := sp_at' (c := c) (j := .i64) (i := i) hA hi
    have go : clash l[k] l[i] = false → ∀ w', Chg [] w w' → P11_1 (.slice A l.length c) (.int .i64 i) (.int .i64 ((k : Int) + 1)) w' fun v w' => v = .bool r ∧ Chg [] W w' := by
      intro hcl w' hc
      have h := ih (k + 1) w' (hA.keep hc.below) (hW.trans hc) (fun k' a hk' ha => by
        rcases Nat.lt_or_ge k' k with h | h
        · exact hno k' a h ha
        · have : k' = k := by omega
          subst this
          rw [List.getElem?_eq_getElem hkl] at ha
          rw [← Option.some.inj ha]; exact hcl) (by omega)
      rw [Int.natCast_add k 1] at h
      exact h
    have stop : clash l[k] l[i] = true → r = false := fun hcl => hr ⟨k, l[k], by omega, List.getElem?_eq_getElem hkl, hcl⟩
    have hse : shrd l[k] l[i] = shar l[i] l[k] := shr_eq hri
    generalize hs : l[i] = s at *
    generalize ha : l[k] = a at *
    simp -implicitDefEqProofs only [L11_1, wpB_some', bp_lss, hlt, decide_true, cnd_true, q1, p1, (q2.keep (Chg.refl [] w).drew).ld, (p2.keep (Chg.refl [] w).drew).ld]
    refine (c_share s a w.drew).mono ?_
    rintro v w1 ⟨rfl, hc1⟩
    have hc1 : Chg [] w w1 := (Chg.refl _ _).drew.trans hc1
    have q3 := q2.keep hc1
    have p3 := p2.keep hc1
    cases hsh : shar s a with
    | true =>
      simp -implicitDefEqProofs only [gd_tf, gv_tf, gd_ut, gv_ut, gd_uf, gv_uf, gE_ut, wpB_some', pickv_true, cnd_true]
      exact ⟨by rw [stop (by simp [clash, hse, hsh])], hW.trans hc1⟩
    | false =>
      by_cases h1 : a.wk = s.wk
      · have e1 : (a.wk == s.wk) = true := by rw [h1]; simp
        simp -implicitDefEqProofs only [gd_false, gv_false, q1, p1, fa_34_0, ld_3, q3.f0, p3.f0, wpB_some', be_eql, e1, gd_true, gv_true, q3.ld, p3.ld, gE_true]
        refine (c_AheadRef a s w1).mono ?_
        rintro v w2 ⟨rfl, hc2⟩
        have q4 := q3.keep hc2
        have p4 := p3.keep hc2
        cases hah : ahead a s with
        | false =>
          simp -implicitDefEqProofs only [pr_not, Bool.not_false, gd_true, gd_false, gd_tf, gv_tf, wpB_some', pickv_true, pickv_false, cnd_true]
          exact ⟨by rw [stop (by simp [clash, h1, hah])], (hW.trans hc1).trans hc2⟩
        | true =>
          by_cases h2 : s.ix ≤ a.ix
          · simp -implicitDefEqProofs only [pr_not, Bool.not_true, gd_true, gd_false, gv_true, gv_false, fa_34_1, ld_3, q1, p1, q4.f1, p4.f1, bp_leq, h2, decide_true, wpB_some', pickv_true, pickv_false, cnd_true]
            exact ⟨by rw [stop (by simp [clash, h1, h2])], (hW.trans hc1).trans hc2⟩
          · simp -implicitDefEqProofs only [pr_not, Bool.not_true, gd_true, gd_false, gv_true, gv_false, fa_34_1, ld_3, q1, p1, q4.f1, p4.f1, bp_leq, h2, decide_false, wpB_some', pickv_true, pickv_false, cnd_false, bp_add, wrapi (n := (k : Int) + 1) (by omega) (by omega)]
            exact go (by simp [clash, hah, h2, hse, hsh]) w2 (hc1.trans hc2)
      · simp -implicitDefEqProofs only [gd_false, gv_false, q1, p1, fa_34_0, ld_3, q3.f0, p3.f0, wpB_some', be_eql, eqf h1, gd_ft, gv_ft, gd_uf, gv_uf, gd_ut, gv_ut, gE_ft, pickv_false, cnd_false, bp_add, wrapi (n := (k : Int) + 1) (by omega) (by omega)]
        exact go (by simp [clash, h1, hse, hsh]) w1 hc1
theorem l_Ref0 {l : List SpV} (hl : l.length ≤ 1000000) {A : Option Addr} {c : Nat} {W : World} : ∀ (d i : Nat) (w : World), RdV w A (l.flatMap spC) → Chg [] W w → (∀ j, j < i → okAt l j) → i + d = l.length →
    P11_0 (.slice A l.length c) (.int .i64 i) w fun v w' => v = .bool (mayB l) ∧ Chg [] W w' := by
  intro d
  induction d with
  | zero =>
    intro i w hA hW hok hi
    apply L11_0_ok
    have : ¬ ((i : Int) < l.length) := by omega
    simp -implicitDefEqProofs only [L11_0, len_35, wpB_some', bp_lss, this, decide_false, cnd_false]
    exact ⟨by rw [mayB_t fun j hj => hok j (by omega)], hW⟩
  | succ d ih =>
    intro i w hA hW hok hi
    apply L11_0_ok
    have hlt : (i : Int) < l.length := by omega
    have hil : i < l.length := by omega
    obtain ⟨b, o, q1, q2⟩ := sp_at' (c := c) (j := .i64) (i := i) hA hil
    simp -implicitDefEqProofs only [L11_0, len_35, wpB_some', bp_lss, hlt, decide_true, cnd_true, q1, (q2.keep (Chg.refl [] w).drew).ld]
    refine (c_one l[i] w.drew).mono ?_
    rintro v w2 ⟨rfl, hc2⟩
    have hc2 : Chg [] w w2 := (Chg.refl _ _).drew.trans hc2
    have hA2 := hA.keep hc2.below
    have q3 := q2.keep hc2
    have bad : ¬ okAt l i → mayB l = false := fun h => mayB_f hil h
    have ge : l[i]? = some l[i] := List.getElem?_eq_getElem hil
    have inner : right l[i] = true → (∀ p, 0 < i → l[i - 1]? = some p → p.iv < l[i].iv) → P11_1 (.slice A l.length c) (.int .i64 i) (.int .i64 0) w2 fun v w' => v = .bool (mayB l) ∧ Chg [] W w' := by
      intro h1 h2
      refine l_Ref1 (W := W) hl hil h1 (mayB l) (fun ⟨k, a, hk, ha, hcl⟩ => bad fun hokk => by
        have := (hokk l[i] ge).2.2 k a hk ha
        rw [hcl] at this; cases this) (fun hno w' hA' hW' => ?_) i 0 w2 hA2 (hW.trans hc2) (fun k' a hk' => by omega) (by omega)
      have h := ih (i + 1) w' hA' hW' (fun j hj => by
        rcases Nat.lt_or_ge j i with h | h
        · exact hok j h
        · have : j = i := by omega
          subst this
          intro s hs
          rw [ge] at hs
          cases hs
          exact ⟨h1, h2, hno⟩) (by omega)
      rw [Int.natCast_add i 1] at h
      exact h
    cases hr : right l[i] with
    | false =>
      simp -implicitDefEqProofs only [pr_not, Bool.not_false, wpB_some', gd_tf, gv_tf, pickv_true, cnd_true, gd_ut, gv_ut]
      exact ⟨by rw [bad fun h => by have := (h l[i] ge).1; rw [hr] at this; cases this], hW.trans hc2⟩
    | true =>
      by_cases h0 : (0 : Int) < i
      · have hi1 : i - 1 < l.length := by omega
        obtain ⟨b1, o1, r1, r2⟩ := sp_at' (c := c) (j := .i64) (i := i - 1) hA2 hi1
        rw [show ((i - 1 : Nat) : Int) = (i : Int) - 1 by omega] at r1
        by_cases hle : l[i].iv ≤ l[i - 1].iv
        · simp -implicitDefEqProofs only [pr_not, Bool.not_true, wpB_some', gd_false, gv_false, bp_gtr, h0, decide_true, gd_true, gv_true, q1, fa_34_3, ld_3, q3.f8, bp_sub, wrapi (n := (i : Int) - 1) (by omega) (by omega), r1, r2.f8, bp_leq, hle, pickv_true, pickv_false, cnd_true]
          exact ⟨by rw [bad fun h => by have := (h l[i] ge).2.1 l[i - 1] (by omega) (List.getElem?_eq_getElem hi1); omega], hW.trans hc2⟩
        · simp -implicitDefEqProofs only [pr_not, Bool.not_true, wpB_some', gd_false, gv_false, bp_gtr, h0, decide_true, decide_false, gd_true, gv_true, q1, fa_34_3, ld_3, q3.f8, bp_sub, wrapi (n := (i : Int) - 1) (by omega) (by omega), r1, r2.f8, bp_leq, hle, pickv_true, pickv_false, cnd_false]
          exact inner hr fun p _ hp => by
            rw [List.getElem?_eq_getElem hi1] at hp
            cases hp; omega
      · simp -implicitDefEqProofs only [pr_not, Bool.not_true, wpB_some', gd_false, gv_false, bp_gtr, h0, decide_false, gd_ft, gv_ft, pickv_false, cnd_false]
        exact inner hr fun p h _ => by omega
theorem c_RMayRef {l : List SpV} (hl : l.length ≤ 1000000) {v : Value} {w : World} (hv : SlP w v l) : CallR Try.prog 11 [v] w fun r w' => r = .bool (mayB l) ∧ Chg [] w w' := by
  obtain ⟨A, c, rfl, hA⟩ := hv
  apply F11_ok
  simp -implicitDefEqProofs only [F11]
  exact l_Ref0 hl l.length 0 w hA (Chg.refl _ _) (fun j hj => by omega) (by omega)
end Go.Proofs.Yteapggpkgfiacaa

namespace Go.Proofs.Yteapggpkgfiacaa
open Go Ev Go.RowKit
set_option linter.unusedSimpArgs false
set_option linter.unusedVariables false
set_option maxRecDepth 10000

/-- is a the span whose answer s's operation is of? -/
def hitB (s a : SpV) : Bool := decide (a.wk = s.op.2.1) && (decide (a.ix = s.op.2.2.1) && (decide (a.op.1 = 1 ∨ a.op.1 = 2) && (decide (a.re.1 = 0) && ahead a s)))
def hOf (l : List SpV) (s : SpV) : HnV := (l.find? (hitB s)).elim noH fun a => a.re.2.1
def handV (l : List SpV) (s : SpV) : HnV := if ofK s.op.1 = 0 then noH else hOf l s
theorem find_drop {l : List SpV} {p : SpV → Bool} {k : Nat} (hk : k < l.length) (h : l.find? p = (l.drop k).find? p) (hn : p l[k] = false) : l.find? p = (l.drop (k + 1)).find? p := by
  rw [h, List.drop_eq_getElem_cons hk, List.find?_cons, hn]
theorem find_at {l : List SpV} {p : SpV → Bool} {k : Nat} (hk : k < l.length) (h : l.find? p = (l.drop k).find? p) (hn : p l[k] = true) : l.find? p = some l[k] := by
  rw [h, List.drop_eq_getElem_cons hk, List.find?_cons, hn]
theorem find_end {l : List SpV} {p : SpV → Bool} {k : Nat} (hk : k = l.length) (h : l.find? p = (l.drop k).find? p) : l.find? p = none := by
  rw [h, hk, List.drop_length]; rfl
theorem sp_c {w : World} {b : Nat} {a : SpV} {e : TypeId} (h : hp w b = some (.cells (spA a) e)) (k : Nat) : ldC (hp w b) k = (spA a)[k]? := by rw [h, ldC_some]
theorem sp_hn {w : World} {b : Nat} {a : SpV} {e : TypeId} (h : hp w b = some (.cells (spA a) e)) : ldv Try.prog 27 (.pointer (some ⟨b, 0 + 12 + 1, none⟩)) w = some (.agg (hnC a.re.2.1).toArray) := by
  rw [ld_27, h]; rfl
section
variable {l : List SpV} {A : Option Addr} {c : Nat} {W : World}
theorem l_oHandle (hl : l.length ≤ 1000000) {i g4 g5 : Nat} (hi : i < l.length) (h4 : W.heap.size ≤ g4) : ∀ (d k : Nat) (w : World), RdV w A (l.flatMap spC) → hp w g4 = some (.cells (hnC noH).toArray 27) → hp w g5 = some (.cells (opC l[i].op).toArray 29) → Chg [] W w →
    k + d = l.length → l.find? (hitB l[i]) = (l.drop k).find? (hitB l[i]) →
    P21_0 (.slice A l.length c) (.int .i64 i) (.pointer (some ⟨g4, 0, none⟩)) (.pointer (some ⟨g5, 0, none⟩)) (.slice A l.length c) (.int .i64 l.length) (.int .i64 k) w fun v w' => v = .agg (hnC (hOf l l[i])).toArray ∧ Chg [] W w' := by
  intro d
  induction d with
  | zero =>
    intro k w hA b4 b5 hW hk hf
    apply L21_0_ok
    have hh : hOf l l[i] = noH := by rw [hOf, find_end (by omega) hf]; rfl
    have : ¬ ((k : Int) < l.length) := by omega
    simp -implicitDefEqProofs only [L21_0, zS, this, bdh_, st_hn b4 rfl]
    have b4' : hp (put w g4 (hnC noH).toArray 27) g4 = some (.cells (hnC noH).toArray 27) := by rw [put_heap, if_pos rfl, if_pos (blk_lt b4)]
    simp -implicitDefEqProofs only [ld_hn b4', wpB_some']
    exact ⟨by rw [hh], hW.put (.inr h4) _ _⟩
  | succ d ih =>
    intro k w hA b4 b5 hW hk hf
    apply L21_0_ok
    have hlt : (k : Int) < l.length := by omega
    have hkl : k < l.length := by omega
    obtain ⟨b, o, q1, q2⟩ := sp_at' (c := c) (j := .i64) (i := k) hA hkl
    obtain ⟨b', o', r1, r2⟩ := sp_at' (c := c) (j := .i64) (i := i) hA hi
    simp -implicitDefEqProofs only [L21_0, zS, hlt, q1, q2.ld, al_34]
    rw [st_34 (by rfl) (by rfl) (by rw [alloc_heap, if_pos rfl]; rfl) (by rw [alloc_heap, if_pos rfl]; rfl), alloc_heap, if_pos rfl]
    simp -implicitDefEqProofs only [getE_some]
    generalize hw1 : put (w.alloc _) w.heap.size (spA l[k]) 34 = w1
    have hc0 : Chg [] w w1 := by rw [← hw1]; exact ((Chg.refl _ _).alloc _).put (.inr (Nat.le_refl _)) _ _
    have hg : hp w1 w.heap.size = some (.cells (spA l[k]) 34) := by rw [← hw1, put_heap, if_pos rfl, if_pos (by simp)]
    clear hw1
    generalize w.heap.size = g at *
    have b4 := hc0.at b4 (by simp)
    have b5 := hc0.at b5 (by simp)
    have r2 := r2.keep hc0
    have hA := hA.keep hc0.below
    have hW1 := hW.trans hc0
    generalize hs : l[i] = s at *
    generalize ha : l[k] = a at *
    have f0 : ldC (hp w1 g) (0 + 0) = some (.int .i64 a.wk) := sp_c hg 0
    have f1 : ldC (hp w1 g) (0 + 1) = some (.int .i64 a.ix) := sp_c hg 1
    have f2 : ldC (hp w1 g) (0 + 2 + 0) = some (.int .i64 a.op.1) := sp_c hg 2
    have f12 : ldC (hp w1 g) (0 + 12 + 0) = some (.int .i64 a.re.1) := sp_c hg 12
    have o1 : ldC (hp w1 g5) (0 + 1) = some (.int .i64 s.op.2.1) := by rw [b5, ldC_some]; rfl
    have o2 : ldC (hp w1 g5) (0 + 2) = some (.int .i64 s.op.2.2.1) := by rw [b5, ldC_some]; rfl
    have next : hitB s a = false → ∀ w2, Chg [] w1 w2 → P21_0 (.slice A l.length c) (.int .i64 i) (.pointer (some ⟨g4, 0, none⟩)) (.pointer (some ⟨g5, 0, none⟩)) (.slice A l.length c) (.int .i64 l.length) (.int .i64 ((k : Int) + 1)) w2 fun v w' => v = .agg (hnC (hOf l s)).toArray ∧ Chg [] W w' := fun hn w2 c2 =>
      ih (k + 1) w2 (hA.keep c2.below) (c2.at b4 (by simp)) (c2.at b5 (by simp)) (hW1.trans c2) (by omega) (find_drop hkl hf (by rw [ha]; exact hn))
    have wr := wrapi (n := (k : Int) + 1) (by omega) (by omega)
    have hd : Chg [] w1 w1.drew := (Chg.refl _ _).drew
    by_cases e1 : a.wk = s.op.2.1
    case neg =>
      simp -implicitDefEqProofs only [zS, fa_34_0, fa_34_1, fa_29_1, fa_29_2, ld_3, hp_drew, f0, f1, o1, o2, eqf e1, bp_add, wr]
      exact next (by simp [hitB, e1]) _ hd
    by_cases e2 : a.ix = s.op.2.2.1
    case neg =>
      simp -implicitDefEqProofs only [zS, fa_34_0, fa_34_1, fa_29_1, fa_29_2, ld_3, hp_drew, f0, f1, o1, o2, e1, eqf e2, bp_add, wr]
      exact next (by simp [hitB, e2]) _ hd
    have k1 : ∀ r : Bool, (decide (a.op.1 = 1 ∨ a.op.1 = 2) = r) → (r = false → hitB s a = false) := fun r h hr => by simp only [hitB, h, hr, Bool.false_and, Bool.and_false]
    have step : ∀ r : Bool, (a.op.1 == 1) = r → (r = true ∨ (a.op.1 == 2) = true ∨ ((a.op.1 == 2) = false ∧ r = false)) → True := fun _ _ _ => trivial
    by_cases e3 : a.op.1 = 1 ∨ a.op.1 = 2
    case neg =>
      have e31 : ¬ a.op.1 = 1 := fun h => e3 (.inl h)
      have e32 : ¬ a.op.1 = 2 := fun h => e3 (.inr h)
      simp -implicitDefEqProofs only [zS, fa_34_0, fa_34_1, fa_34_2, fa_29_0, fa_29_1, fa_29_2, ld_3, hp_drew, f0, f1, f2, o1, o2, e1, e2, eqf e31, eqf e32, bp_add, wr]
      exact next (by simp [hitB, e31, e32]) _ hd
    by_cases e4 : a.re.1 = 0
    case neg =>
      rcases e3 with e3 | e3
      all_goals
        simp -implicitDefEqProofs only [zS, fa_34_0, fa_34_1, fa_34_2, fa_34_7, fa_29_0, fa_29_1, fa_29_2, fa_32_0, ld_3, ld_30, hp_drew, f0, f1, f2, f12, o1, o2, e1, e2, e3, eqf e4, bp_add, wr, show ((2 : Int) == 1) = false from rfl, show ((1 : Int) == 2) = false from rfl]
        exact next (by simp [hitB, e4]) _ hd
    have hgd : At w1.drew g 0 a := at_blk hg
    have r2d := r2.keep hd
    rcases e3 with e3 | e3
    all_goals
      simp -implicitDefEqProofs only [zS, fa_34_0, fa_34_1, fa_34_2, fa_34_7, fa_29_0, fa_29_1, fa_29_2, fa_32_0, ld_3, ld_30, hp_drew, f0, f1, f2, f12, o1, o2, e1, e2, e3, e4, show ((2 : Int) == 1) = false from rfl, hgd.ld, r1, r2d.ld]
      refine (c_Ahead a s w1.drew).mono ?_
      rintro _ w2 ⟨rfl, c2⟩
      have c2 := hd.trans c2
      cases hah : ahead a s with
      | false =>
        simp -implicitDefEqProofs only [zS, bp_add, wr]
        exact next (by simp [hitB, hah]) w2 c2
      | true =>
        have hit : hitB s a = true := by simp [hitB, e1, e2, e3, e4, hah]
        have hg2 := c2.at hg (by simp)
        have b42 := c2.at b4 (by simp)
        have b4' : hp (put w2 g4 (hnC a.re.2.1).toArray 27) g4 = some (.cells (hnC a.re.2.1).toArray 27) := by rw [put_heap, if_pos rfl, if_pos (blk_lt b42)]
        simp -implicitDefEqProofs only [zS, fa_34_7, fa_32_1, sp_hn hg2, st_hn b42 rfl, ld_hn b4']
        have hh : hOf l s = a.re.2.1 := by rw [hOf, find_at hkl hf (by rw [ha]; exact hit), ha]; rfl
        exact ⟨by rw [hh], (hW1.trans c2).put (.inr h4) _ _⟩
theorem l_refHandle (hl : l.length ≤ 1000000) {i g4 : Nat} (hi : i < l.length) (h4 : W.heap.size ≤ g4) : ∀ (d k : Nat) (w : World), RdV w A (l.flatMap spC) → hp w g4 = some (.cells (hnC noH).toArray 27) → Chg [] W w →
    k + d = l.length → l.find? (hitB l[i]) = (l.drop k).find? (hitB l[i]) →
    P30_0 (.slice A l.length c) (.int .i64 i) (.pointer (some ⟨g4, 0, none⟩)) (.int .i64 k) w fun v w' => v = .agg (hnC (hOf l l[i])).toArray ∧ Chg [] W w' := by
  intro d
  induction d with
  | zero =>
    intro k w hA b4 hW hk hf
    apply L30_0_ok
    have hh : hOf l l[i] = noH := by rw [hOf, find_end (by omega) hf]; rfl
    have : ¬ ((k : Int) < l.length) := by omega
    simp -implicitDefEqProofs only [L30_0, len_35, zS, this, bdh_, st_hn b4 rfl]
    have b4' : hp (put w g4 (hnC noH).toArray 27) g4 = some (.cells (hnC noH).toArray 27) := by rw [put_heap, if_pos rfl, if_pos (blk_lt b4)]
    simp -implicitDefEqProofs only [ld_hn b4', wpB_some']
    exact ⟨by rw [hh], hW.put (.inr h4) _ _⟩
  | succ d ih =>
    intro k w hA b4 hW hk hf
    apply L30_0_ok
    have hlt : (k : Int) < l.length := by omega
    have hkl : k < l.length := by omega
    obtain ⟨b, o, q1, q2⟩ := sp_at' (c := c) (j := .i64) (i := k) hA hkl
    obtain ⟨b', o', r1, r2⟩ := sp_at' (c := c) (j := .i64) (i := i) hA hi
    simp -implicitDefEqProofs only [L30_0, len_35, zS, hlt, q1, q2.ld, al_34]
    rw [st_34 (by rfl) (by rfl) (by rw [alloc_heap, if_pos rfl]; rfl) (by rw [alloc_heap, if_pos rfl]; rfl), alloc_heap, if_pos rfl]
    simp -implicitDefEqProofs only [getE_some]
    generalize hw1 : put (w.alloc _) w.heap.size (spA l[k]) 34 = w1
    have hc0 : Chg [] w w1 := by rw [← hw1]; exact ((Chg.refl _ _).alloc _).put (.inr (Nat.le_refl _)) _ _
    have hg : hp w1 w.heap.size = some (.cells (spA l[k]) 34) := by rw [← hw1, put_heap, if_pos rfl, if_pos (by simp)]
    clear hw1
    generalize w.heap.size = g at *
    have b4 := hc0.at b4 (by simp)
    have r2 := r2.keep hc0
    have hA := hA.keep hc0.below
    have hW1 := hW.trans hc0
    generalize hs : l[i] = s at *
    generalize ha : l[k] = a at *
    have f0 : ldC (hp w1 g) (0 + 0) = some (.int .i64 a.wk) := sp_c hg 0
    have f1 : ldC (hp w1 g) (0 + 1) = some (.int .i64 a.ix) := sp_c hg 1
    have f2 : ∀ w', hp w' g = some (.cells (spA a) 34) → ldC (hp w' g) (0 + 2 + 0) = some (.int .i64 a.op.1) := fun w' h => sp_c h 2
    have f12 : ∀ w', hp w' g = some (.cells (spA a) 34) → ldC (hp w' g) (0 + 12 + 0) = some (.int .i64 a.re.1) := fun w' h => sp_c h 12
    have o1 : ldC (hp w1 b') (o' + 2 + 1) = some (.int .i64 s.op.2.1) := r2.f 3 (by omega)
    have o2 : ldC (hp w1 b') (o' + 2 + 2) = some (.int .i64 s.op.2.2.1) := r2.f 4 (by omega)
    have next : hitB s a = false → ∀ w2, Chg [] w1 w2 → P30_0 (.slice A l.length c) (.int .i64 i) (.pointer (some ⟨g4, 0, none⟩)) (.int .i64 ((k : Int) + 1)) w2 fun v w' => v = .agg (hnC (hOf l s)).toArray ∧ Chg [] W w' := fun hn w2 c2 =>
      ih (k + 1) w2 (hA.keep c2.below) (c2.at b4 (by simp)) (hW1.trans c2) (by omega) (find_drop hkl hf (by rw [ha]; exact hn))
    have wr := wrapi (n := (k : Int) + 1) (by omega) (by omega)
    have hd : Chg [] w1 w1.drew := (Chg.refl _ _).drew
    by_cases e1 : a.wk = s.op.2.1
    case neg =>
      simp -implicitDefEqProofs only [zS, fa_34_0, fa_34_1, fa_34_2, fa_29_1, fa_29_2, ld_3, hp_drew, f0, f1, o1, o2, r1, eqf e1, bp_add, wr]
      exact next (by simp [hitB, e1]) _ hd
    by_cases e2 : a.ix = s.op.2.2.1
    case neg =>
      simp -implicitDefEqProofs only [zS, fa_34_0, fa_34_1, fa_34_2, fa_29_1, fa_29_2, ld_3, hp_drew, f0, f1, o1, o2, r1, e1, eqf e2, bp_add, wr]
      exact next (by simp [hitB, e2]) _ hd
    have hgd : At w1.drew g 0 a := at_blk hg
    have r2d := r2.keep hd
    simp -implicitDefEqProofs only [zS, fa_34_0, fa_34_1, fa_34_2, fa_29_1, fa_29_2, ld_3, hp_drew, f0, f1, o1, o2, r1, e1, e2, hgd.ld, r2d.ld]
    refine (c_AheadRef a s w1.drew).mono ?_
    rintro _ w2 ⟨rfl, c2⟩
    have c2 := hd.trans c2
    have hg2 := c2.at hg (by simp)
    have b42 := c2.at b4 (by simp)
    cases hah : ahead a s with
    | false =>
      simp -implicitDefEqProofs only [zS, bp_add, wr]
      exact next (by simp [hitB, hah]) w2 c2
    | true =>
    by_cases e4 : a.re.1 = 0
    case neg =>
      simp -implicitDefEqProofs only [zS, fa_34_7, fa_32_0, ld_30, f12 w2 hg2, eqf e4, bp_add, wr]
      exact next (by simp [hitB, e4]) w2 c2
    by_cases e3 : a.op.1 = 1 ∨ a.op.1 = 2
    case neg =>
      have e31 : ¬ a.op.1 = 1 := fun h => e3 (.inl h)
      have e32 : ¬ a.op.1 = 2 := fun h => e3 (.inr h)
      simp -implicitDefEqProofs only [zS, fa_34_2, fa_34_7, fa_29_0, fa_32_0, ld_3, ld_30, f12 w2 hg2, f2 w2 hg2, e4, eqf e31, eqf e32, bp_add, wr]
      exact next (by simp [hitB, e31, e32]) w2 c2
    have hit : hitB s a = true := by simp [hitB, e1, e2, e3, e4, hah]
    have b4' : hp (put w2 g4 (hnC a.re.2.1).toArray 27) g4 = some (.cells (hnC a.re.2.1).toArray 27) := by rw [put_heap, if_pos rfl, if_pos (blk_lt b42)]
    have hh : hOf l s = a.re.2.1 := by rw [hOf, find_at hkl hf (by rw [ha]; exact hit), ha]; rfl
    rcases e3 with e3 | e3
    all_goals
      simp -implicitDefEqProofs only [zS, fa_34_2, fa_34_7, fa_29_0, fa_32_0, fa_32_1, ld_3, ld_30, f12 w2 hg2, f2 w2 hg2, e3, e4, show ((2 : Int) == 1) = false from rfl, sp_hn hg2, st_hn b42 rfl, ld_hn b4']
      exact ⟨by rw [hh], (hW1.trans c2).put (.inr h4) _ _⟩
theorem At.op {w : World} {b o : Nat} {s : SpV} (h : At w b o s) : ldL (hp w b) (o + 2) 6 = some (opC s.op) := ldL_take 6 (o + 2) (opC s.op) rfl fun j u hj => by
  have hj6 : j < 6 := (List.getElem?_eq_some_iff.1 hj).1
  have := h.f (2 + j) (by omega)
  rw [Nat.add_assoc, this]
  match j, hj6, hj with
  | 0, _, hj => exact hj
  | 1, _, hj => exact hj
  | 2, _, hj => exact hj
  | 3, _, hj => exact hj
  | 4, _, hj => exact hj
  | 5, _, hj => exact hj
theorem At.ldop {w : World} {b o : Nat} {s : SpV} (h : At w b o s) : ldv Try.prog 29 (.pointer (some ⟨b, o + 2, none⟩)) w = some (.agg (opC s.op).toArray) := by rw [ld_29, h.op]; rfl
theorem z_hn : (#[.int .i64 0, .int .i64 0, .int .i64 0, .int .i64 0, .int .i64 0] : Array Value) = (hnC noH).toArray := rfl
theorem c_oHandle0 (hl : l.length ≤ 1000000) {w : World} (hA : RdV w A (l.flatMap spC)) {i : Nat} (hi : i < l.length) : CallR Try.prog 21 [.slice A l.length c, .int .i64 i] w fun v w' => v = .agg (hnC (handV l l[i])).toArray ∧ Chg [] w w' := by
  apply F21_ok
  simp -implicitDefEqProofs only [F21, al_27, z_hn]
  generalize hw1 : w.alloc _ = w1
  have c1 : Chg [] w w1 := by rw [← hw1]; exact (Chg.refl _ _).alloc _
  have b4 : hp w1 w.heap.size = some (.cells (hnC noH).toArray 27) := by rw [← hw1, alloc_heap, if_pos rfl]
  have s1 : w1.heap.size = w.heap.size + 1 := by rw [← hw1, alloc_size]
  clear hw1
  have hA1 := hA.keep c1.below
  obtain ⟨b, o, q1, q2⟩ := sp_at' (c := c) (j := .i64) (i := i) hA1 hi
  simp -implicitDefEqProofs only [zS, q1, fa_34_2, q2.ldop, al_29]
  rw [st_29 (by rfl) (by rfl) (by rw [alloc_heap, if_pos rfl]; rfl) (by rw [alloc_heap, if_pos rfl]; rfl), alloc_heap, if_pos rfl]
  simp -implicitDefEqProofs only [getE_some]
  generalize hw2 : put (w1.alloc _) w1.heap.size (opC l[i].op).toArray 29 = w2
  have c2 : Chg [] w1 w2 := by rw [← hw2]; exact ((Chg.refl _ _).alloc _).put (.inr (Nat.le_refl _)) _ _
  have b5 : hp w2 w1.heap.size = some (.cells (opC l[i].op).toArray 29) := by rw [← hw2, put_heap, if_pos rfl, if_pos (by simp)]
  clear hw2
  have o0 : ldC (hp w2 w1.heap.size) (0 + 0) = some (.int .i64 l[i].op.1) := by rw [b5, ldC_some]; rfl
  simp -implicitDefEqProofs only [zS, fa_29_0, ld_3, o0]
  refine (c_opOf l[i].op.1 w2).mono ?_
  rintro _ w3 ⟨rfl, c3⟩
  have c23 := c2.trans c3
  have b43 := c23.at b4 (by simp)
  by_cases e0 : ofK l[i].op.1 = 0
  · have b4' : hp (put w3 w.heap.size (hnC noH).toArray 27) w.heap.size = some (.cells (hnC noH).toArray 27) := by rw [put_heap, if_pos rfl, if_pos (blk_lt b43)]
    simp -implicitDefEqProofs only [zS, e0, bdh_, st_hn b43 rfl, ld_hn b4']
    exact ⟨by rw [handV, if_pos e0], (c1.trans c23).put (.inr (Nat.le_refl _)) _ _⟩
  · simp -implicitDefEqProofs only [zS, eqf e0, len_35]
    rw [handV, if_neg e0]
    exact l_oHandle hl hi (Nat.le_refl _) l.length 0 w3 (hA1.keep c23.below) b43 (c3.at b5 (by simp)) (c1.trans c23) (by omega) rfl
/-- the handle of a number that may be none; where the program looks whether it is a record -/
def handX (l : List SpV) (j : Int) : HnV := if j < 0 ∨ (l.length : Int) ≤ j then noH else match l[j.toNat]? with | some s => handV l s | none => noH
noncomputable def handQ (l : List SpV) (j : Int) : HnV := if mayB l = true then handX l j else noH
theorem handX_nat {l : List SpV} {i : Nat} (hi : i < l.length) : handX l i = handV l l[i] := by
  rw [handX, if_neg (by omega), Int.toNat_natCast, List.getElem?_eq_getElem hi]
theorem c_refHandle (hl : l.length ≤ 1000000) {w : World} (hA : RdV w A (l.flatMap spC)) (j : Int) : CallR Try.prog 30 [.slice A l.length c, .int .i64 j] w fun v w' => v = .agg (hnC (handX l j)).toArray ∧ Chg [] w w' := by
  apply F30_ok
  simp -implicitDefEqProofs only [F30, al_27, z_hn]
  generalize hw1 : w.alloc _ = w1
  have c1 : Chg [] w w1 := by rw [← hw1]; exact (Chg.refl _ _).alloc _
  have b4 : hp w1 w.heap.size = some (.cells (hnC noH).toArray 27) := by rw [← hw1, alloc_heap, if_pos rfl]
  clear hw1
  have hA1 := hA.keep c1.below
  have no : ∀ w2, Chg [] w1 w2 → handX l j = noH → effu Try.prog (Instr.storeAt 27 (.pointer (some ⟨w.heap.size, 0, none⟩)) (.agg (hnC noH).toArray)) w2 fun w3 => wpB (ldv Try.prog 27 (.pointer (some ⟨w.heap.size, 0, none⟩)) w3) fun r4 => r4 = .agg (hnC (handX l j)).toArray ∧ Chg [] w w3 := by
    intro w2 c2 hh
    have b42 := c2.at b4 (by simp)
    have b4' : hp (put w2 w.heap.size (hnC noH).toArray 27) w.heap.size = some (.cells (hnC noH).toArray 27) := by rw [put_heap, if_pos rfl, if_pos (blk_lt b42)]
    simp -implicitDefEqProofs only [zS, st_hn b42 rfl, ld_hn b4']
    exact ⟨by rw [hh], (c1.trans c2).put (.inr (Nat.le_refl _)) _ _⟩
  by_cases j0 : j < 0
  · simp -implicitDefEqProofs only [zS, j0, bdh_]
    exact no w1 (Chg.refl _ _) (by rw [handX, if_pos (.inl j0)])
  by_cases j1 : (l.length : Int) ≤ j
  · simp -implicitDefEqProofs only [zS, j0, j1, len_35, bdh_]
    exact no w1 (Chg.refl _ _) (by rw [handX, if_pos (.inr j1)])
  obtain ⟨i, rfl⟩ := Int.eq_ofNat_of_zero_le (show 0 ≤ j by omega)
  have hi : i < l.length := by omega
  obtain ⟨b, o, q1, q2⟩ := sp_at' (c := c) (j := .i64) (i := i) hA1 hi
  have o0 : ldC (hp w1 b) (o + 2 + 0) = some (.int .i64 l[i].op.1) := q2.f 2 (by omega)
  simp -implicitDefEqProofs only [zS, j0, j1, len_35, q1, fa_34_2, fa_29_0, ld_3, o0]
  refine (c_Of l[i].op.1 w1).mono ?_
  rintro _ w2 ⟨rfl, e2⟩
  subst e2
  by_cases e0 : ofK l[i].op.1 = 0
  · simp -implicitDefEqProofs only [zS, e0, bdh_]
    exact no _ (Chg.refl _ _) (by rw [handX_nat hi, handV, if_pos e0])
  · simp -implicitDefEqProofs only [zS, eqf e0]
    rw [handX_nat hi, handV, if_neg e0]
    exact l_refHandle hl hi (Nat.le_refl _) l.length 0 _ hA1 b4 c1 (by omega) rfl
theorem c_oHandle (hl : l.length ≤ 1000000) {w : World} (hA : RdV w A (l.flatMap spC)) (j : Int) : CallR Try.prog 16 [.slice A l.length c, .int .i64 j] w fun v w' => v = .agg (hnC (handQ l j)).toArray ∧ Chg [] w w' := by
  apply F16_ok
  simp -implicitDefEqProofs only [F16, al_27, z_hn]
  generalize hw1 : w.alloc _ = w1
  have c1 : Chg [] w w1 := by rw [← hw1]; exact (Chg.refl _ _).alloc _
  have b4 : hp w1 w.heap.size = some (.cells (hnC noH).toArray 27) := by rw [← hw1, alloc_heap, if_pos rfl]
  clear hw1
  have hA1 := hA.keep c1.below
  have no : ∀ (h : HnV) w2, Chg [] w1 w2 → handQ l j = h → effu Try.prog (Instr.storeAt 27 (.pointer (some ⟨w.heap.size, 0, none⟩)) (.agg (hnC h).toArray)) w2 fun w3 => wpB (ldv Try.prog 27 (.pointer (some ⟨w.heap.size, 0, none⟩)) w3) fun r4 => r4 = .agg (hnC (handQ l j)).toArray ∧ Chg [] w w3 := by
    intro h w2 c2 hh
    have b42 := c2.at b4 (by simp)
    have b4' : hp (put w2 w.heap.size (hnC h).toArray 27) w.heap.size = some (.cells (hnC h).toArray 27) := by rw [put_heap, if_pos rfl, if_pos (blk_lt b42)]
    simp -implicitDefEqProofs only [zS, st_hn b42 rfl, ld_hn b4']
    exact ⟨by rw [hh], (c1.trans c2).put (.inr (Nat.le_refl _)) _ _⟩
  by_cases j0 : j < 0
  · simp -implicitDefEqProofs only [zS, j0, bdh_]
    exact no noH w1 (Chg.refl _ _) (by unfold handQ handX; rw [if_pos (Or.inl j0 : j < 0 ∨ (l.length : Int) ≤ j), ite_self])
  by_cases j1 : (l.length : Int) ≤ j
  · simp -implicitDefEqProofs only [zS, j0, j1, len_35, bdh_]
    exact no noH w1 (Chg.refl _ _) (by unfold handQ handX; rw [if_pos (Or.inr j1 : j < 0 ∨ (l.length : Int) ≤ j), ite_self])
  obtain ⟨i, rfl⟩ := Int.eq_ofNat_of_zero_le (show 0 ≤ j by omega)
  have hi : i < l.length := by omega
  simp -implicitDefEqProofs only [zS, j0, j1, len_35]
  refine (c_RMay hl ⟨A, c, rfl, hA1⟩).mono ?_
  rintro _ w2 ⟨rfl, c2⟩
  cases hm : mayB l with
  | false =>
    simp -implicitDefEqProofs only [zS, bdh_]
    exact no noH w2 c2 (by rw [handQ, hm]; rfl)
  | true =>
    simp -implicitDefEqProofs only [zS]
    refine (c_oHandle0 hl (hA1.keep c2.below) hi).mono ?_
    rintro _ w3 ⟨rfl, c3⟩
    exact no _ w3 (c2.trans c3) (by rw [handQ, if_pos hm, handX_nat hi])
end
end Go.Proofs.Yteapggpkgfiacaa

namespace Go.Proofs.Yteapggpkgfiacaa
open Go Ev Go.RowKit
set_option linter.unusedSimpArgs false
set_option linter.unusedVariables false
set_option maxRecDepth 10000

theorem own_ge {w : World} {base : Nat} {e : TypeId} {z : Nat} {v : Value} {n : Nat} {xs : List Value} (h : w.ownsRow base e z v n xs) {k : Nat} (hk : v.ownBlock = some k) : base ≤ k := by
  rcases h.2 with ⟨rfl, _⟩ | ⟨g, cap, cur, rfl, hbg, _⟩
  · cases hk
  · cases hk; exact hbg
theorem evC_one (e : EvV) : ∀ u ∈ evC e, u.oneCell' = true := fun u hu => by
  simp only [evC, List.mem_cons, List.not_mem_nil, or_false] at hu
  rcases hu with rfl | rfl | rfl <;> rfl
theorem evs_one (L : List EvV) : ∀ u ∈ L.flatMap evC, u.oneCell' = true := fun u hu => by
  obtain ⟨s, _, hu⟩ := List.mem_flatMap.1 hu
  exact evC_one s u hu
/-- a slice of events that is read; where it stands -/
def RowE (w : World) (B : Nat) (v : Value) (L : List EvV) : Prop := ∃ A c, v = .slice A L.length c ∧ RdV w A (L.flatMap evC) ∧ L.length ≤ c ∧ ∀ p, A = some p → B ≤ p.block
theorem RowE.keep {w w' : World} {B : Nat} {v : Value} {L : List EvV} (h : RowE w B v L) (hc : Chg [] w w') : RowE w' B v L := by
  obtain ⟨A, c, h1, h2, h3⟩ := h
  exact ⟨A, c, h1, h2.keep hc.below, h3⟩
theorem RowE.mono {w : World} {B B' : Nat} {v : Value} {L : List EvV} (h : RowE w B v L) (hb : B' ≤ B) : RowE w B' v L := by
  obtain ⟨A, c, h1, h2, h3, h4⟩ := h
  exact ⟨A, c, h1, h2, h3, fun p hp => Nat.le_trans hb (h4 p hp)⟩
theorem RowE.nil (w : World) (B : Nat) : RowE w B (.slice none 0 0) [] := ⟨none, 0, rfl, RdV.nil _ _, Nat.le_refl _, fun p hp => by cases hp⟩
theorem RowE.own {w : World} {base : Nat} {e : TypeId} {v : Value} {n : Nat} {L : List EvV} (h : w.ownsRow base e 3 v n (L.flatMap evC)) (hn : n = L.length) : RowE w base v L := by
  subst hn
  rcases h.2 with ⟨rfl, h0⟩ | ⟨g, cap, cur, rfl, hbg, hg, hnc, hcm, hcs, htake⟩
  · have : L = [] := List.eq_nil_of_length_eq_zero h0
    subst this
    exact RowE.nil w base
  · exact ⟨some ⟨g, 0, none⟩, cap, rfl, fun j u hj => ⟨_, rfl, h.cells (g := g) rfl j u hj⟩, hnc, fun p hp => by cases hp; exact hbg⟩
/-- an event's place, as the document's type has it -/
structure AtE (w : World) (b o : Nat) (e : EvV) : Prop where
  l : ldL (hp w b) o 3 = some (evC e)
  c0 : ldC (hp w b) (o + 0) = some (.int .i64 e.1)
  c1 : ldC (hp w b) (o + 1) = some (.int .i64 e.2.1)
  c2 : ldC (hp w b) (o + 2) = some (.bool e.2.2)
theorem ev_at {t e : TypeId} (hs : Try.prog.underlying t = some (.slice e)) (hz : (Try.prog.info? e).map (·.size) = some 3) {w : World} {A : Option Addr} {L : List EvV} {c i : Nat} (h : RdV w A (L.flatMap evC)) (hi : i < L.length) :
    ∃ b o, pureRun Try.prog (Instr.indexAt t (.slice A L.length c) (.int .i64 i)) = some (.pointer (some ⟨b, o, none⟩)) ∧ AtE w b o L[i] := by
  obtain ⟨b, o, h1, h2, h3, _⟩ := h.elem (P := Try.prog) (c := c) (n := L.length) (i := (i : Int)) (j := .i64) hs hz (by omega) (by rw [flat_len evC_len]; exact Nat.le_refl _) (by omega) (by omega)
  rw [Int.toNat_natCast, flat_at evC_len L i hi] at h3
  have h2' : ∀ k, k < 3 → ldC (hp w b) (o + k) = (evC L[i])[k]? := fun k hk => by rw [h2 k hk, Int.toNat_natCast, flat_get evC_len L i hi k hk]
  exact ⟨b, o, h1, h3, h2' 0 (by omega), h2' 1 (by omega), h2' 2 (by omega)⟩
theorem flat_take {α : Type} {enc : α → List Value} {z : Nat} (h : ∀ x, (enc x).length = z) : ∀ (xs : List α) (i : Nat), (xs.flatMap enc).take (i * z) = (xs.take i).flatMap enc
  | [], i => by simp
  | x :: xs, 0 => by simp
  | x :: xs, i + 1 => by
    rw [List.flatMap_cons, List.take_succ_cons, List.flatMap_cons, ← flat_take h xs i, List.take_append, h x, List.take_of_length_le (by rw [h x, Nat.succ_mul]; omega), Nat.succ_mul, Nat.add_sub_cancel]
theorem flat_drop {α : Type} {enc : α → List Value} {z : Nat} (h : ∀ x, (enc x).length = z) : ∀ (xs : List α) (i : Nat), (xs.flatMap enc).drop (i * z) = (xs.drop i).flatMap enc
  | [], i => by simp
  | x :: xs, 0 => by simp
  | x :: xs, i + 1 => by
    rw [List.flatMap_cons, List.drop_succ_cons, ← flat_drop h xs i, List.drop_append, h x, List.drop_of_length_le (by rw [h x, Nat.succ_mul]; omega), Nat.succ_mul, Nat.add_sub_cancel]; rfl
theorem putV_split {e : EvV} : ∀ {L : List EvV} {k : Nat}, k ≤ L.length → (∀ j x, j < k → L[j]? = some x → x.1 ≤ e.1) → (∀ x, L[k]? = some x → ¬ x.1 ≤ e.1) → putV e L = L.take k ++ e :: L.drop k
  | [], k, hk, _, _ => by simp at hk; subst hk; rfl
  | y :: L, 0, _, _, h => by
    have := h y rfl
    rw [putV, if_neg this]; rfl
  | y :: L, k + 1, hk, h1, h2 => by
    have hy := h1 0 y (by omega) rfl
    rw [putV, if_pos hy, putV_split (L := L) (k := k) (by simpa using hk) (fun j x hj hx => h1 (j + 1) x (by omega) (by simpa using hx)) (fun x hx => h2 x (by simpa using hx))]
    rfl
section
variable {W : World}
theorem ap_rev {w : World} {base n m c : Nat} {A : Option Addr} {x : Value} {xs : List Value} {L : List EvV} {K : Value → World → Prop} (hown : w.ownsRow base 67 3 x n xs) (hm : m = L.length) (hR : RdV w A (L.flatMap evC)) (hn : n + m ≤ 1048576) (hb : base ≤ w.heap.size)
    (hk : ∀ x' w', w'.ownsRow base 67 3 x' (n + m) (xs ++ L.flatMap evC) → w.grownBy w' x.ownBlock → K x' w') : effv Try.prog (Builtin.append_ #[65, 65] 65 #[x, .slice A m c]) w K := by
  obtain ⟨i, hi, hz, hs, hb'⟩ := inf_67
  subst hm
  exact eff_append (base := base) (xs := xs) (n := n) (news := L.flatMap evC) (m := L.length) Try.underlying65 hi hz hs rfl (by omega) hown (flat_len evC_len L) (fun j u hj => hR j u hj) (evs_one L) (by unfold maxLen; omega) (by rw [hb']; omega) hb hk
theorem l_refPut {L : List EvV} (hl : L.length ≤ 100000) {A : Option Addr} {c g : Nat} (hc : L.length ≤ c) {e : EvV} : ∀ (d k : Nat) (w : World), RdV w A (L.flatMap evC) → hp w g = some (.cells (evC e).toArray 67) → Chg [] W w → k + d = L.length →
    (∀ j x, j < k → L[j]? = some x → x.1 ≤ e.1) → P52_0 (.slice A L.length c) (.pointer (some ⟨g, 0, none⟩)) (.int .i64 k) w fun v w' => RowE w' W.heap.size v (putV e L) ∧ Chg [] W w' := by
  -- the end: the three are put together
  have fin : ∀ (k : Nat) (w : World), RdV w A (L.flatMap evC) → hp w g = some (.cells (evC e).toArray 67) → Chg [] W w → k ≤ L.length → (∀ j x, j < k → L[j]? = some x → x.1 ≤ e.1) → (∀ x, L[k]? = some x → ¬ x.1 ≤ e.1) →
      wpB (pureRun Try.prog (Instr.sliceAt 65 (.slice A L.length c) none (some (.int .i64 k)) none)) fun t25 => effv Try.prog (Builtin.append_ #[65, 65] 65 #[(.slice none 0 0), t25]) w fun t26 w =>
        wpB (ldv Try.prog 67 (.pointer (some ⟨g, 0, none⟩)) w) fun t28 => effv Try.prog (Instr.buildSlice 65 1 #[(0, t28)]) w fun t29 w => effv Try.prog (Builtin.append_ #[65, 65] 65 #[t26, t29]) w fun t30 w =>
        wpB (pureRun Try.prog (Instr.sliceAt 65 (.slice A L.length c) (some (.int .i64 k)) none none)) fun t34 => effv Try.prog (Builtin.append_ #[65, 65] 65 #[t30, t34]) w fun t35 w => RowE w W.heap.size t35 (putV e L) ∧ Chg [] W w := by
    intro k w hA hg hW hk h1 h2
    have hle : ((k : Int)).toNat = k := Int.toNat_natCast k
    rw [pr_slice_h Try.underlying65 sz_67 (by omega) (by omega), hle]
    simp -implicitDefEqProofs only [wpB_some']
    have hT : RdV w A ((L.take k).flatMap evC) := by rw [← flat_take evC_len]; exact hA.take _
    refine ap_rev (base := w.heap.size) (n := 0) (xs := []) (L := L.take k) (World.ownsRow_nil _ _ _ _) (by simp; omega) hT (by omega) (Nat.le_refl _) fun x1 w1 o1 g1 => ?_
    have c1 : Chg [] w w1 := (Chg.refl _ _).grown g1 fun k hk => by simp [Value.ownBlock] at hk
    rw [List.nil_append] at o1
    have hg1 := c1.at hg (by simp)
    rw [ldv_whole (t := 67) (c := (evC e).toArray) ag_67 (show (Try.prog.info? 67).map (·.size) = some (evC e).toArray.size from sz_67) hg1]
    simp -implicitDefEqProofs only [wpB_some']
    refine ps_65 (fun u hu => evC_one e u hu) o1 (by omega) c1.size fun x2 w2 o2 g2 _ => ?_
    have c2 : Chg [] w w2 := c1.grown g2 fun k hk => .inr (own_ge o1 hk)
    rw [pr_slice_l Try.underlying65 sz_67 (by omega) (by omega), hle]
    simp -implicitDefEqProofs only [wpB_some']
    have hA2 := hA.keep c2.below
    have hD : RdV w2 (if c = k then A else A.map (·.add (k * 3))) ((L.drop k).flatMap evC) := by
      rw [← flat_drop evC_len]; exact hA2.drop c k 3 fun h => by rw [flat_len evC_len]; omega
    refine ap_rev (base := w.heap.size) (L := L.drop k) o2 (by simp) hD (by omega) c2.size fun x3 w3 o3 g3 => ?_
    have c3 : Chg [] w w3 := c2.grown g3 fun k hk => .inr (own_ge o2 hk)
    refine ⟨?_, hW.trans c3⟩
    rw [putV_split hk h1 h2]
    refine RowE.mono ?_ hW.size
    refine RowE.own (base := w.heap.size) (n := 0 + k + 1 + (L.length - k)) (by rw [List.flatMap_append, List.flatMap_cons]; simpa [evC] using o3) (by simp; omega)
  intro d
  induction d with
  | zero =>
    intro k w hA hg hW hk h
    apply L52_0_ok
    have : ¬ ((k : Int) < L.length) := by omega
    simp -implicitDefEqProofs only [L52_0, len_65, zS, this]
    exact fin k w.drew hA hg (hW.drew) (by omega) h fun x hx => by rw [List.getElem?_eq_none (by omega)] at hx; cases hx
  | succ d ih =>
    intro k w hA hg hW hk h
    apply L52_0_ok
    have hlt : (k : Int) < L.length := by omega
    have hkl : k < L.length := by omega
    obtain ⟨b, o, q1, q2⟩ := ev_at (c := c) Try.underlying65 sz_67 hA hkl
    have e0 : ldC (hp w g) (0 + 0) = some (.int .i64 e.1) := by rw [hg, ldC_some]; rfl
    simp -implicitDefEqProofs only [L52_0, len_65, zS, hlt, q1, fa_67_0, ld_3, hp_drew, q2.c0, e0, bp_leq]
    by_cases hle : L[k].1 ≤ e.1
    · simp -implicitDefEqProofs only [zS, hle, bp_add, wrapi (n := (k : Int) + 1) (by omega) (by omega)]
      refine ih (k + 1) w.drew hA hg hW.drew (by omega) fun j x hj hx => ?_
      rcases Nat.lt_or_ge j k with hj' | hj'
      · exact h j x hj' hx
      · have : j = k := by omega
        subst this
        rw [List.getElem?_eq_getElem hkl] at hx; cases hx; exact hle
    · simp -implicitDefEqProofs only [zS, hle]
      exact fin k w.drew hA hg hW.drew (by omega) h fun x hx => by rw [List.getElem?_eq_getElem hkl] at hx; cases hx; exact hle
theorem c_refPut {L : List EvV} (hl : L.length ≤ 100000) {v : Value} {w : World} {B : Nat} (hv : RowE w B v L) (e : EvV) : CallR Try.prog 52 [v, .agg (evC e).toArray] w fun v w' => RowE w' w.heap.size v (putV e L) ∧ Chg [] w w' := by
  obtain ⟨A, c, rfl, hA, hc, _⟩ := hv
  apply F52_ok
  simp -implicitDefEqProofs only [F52, effv_box, cells_agg]
  have c1 : Chg [] w (w.alloc (.cells (evC e).toArray 67)) := (Chg.refl _ _).alloc _
  exact l_refPut hl hc L.length 0 _ (hA.keep c1.below) (by rw [alloc_heap, if_pos rfl]) c1 (by omega) fun j x hj => by omega
theorem bde (s i : Int) (b : Bool) : pureRun Try.prog (Instr.build 67 #[(0, .int .i64 s), (1, .int .i64 i), (2, .bool b)]) = some (.agg (evC (s, i, b)).toArray) := bd_67_0_1_2
/-- sorted so far -/
def sortTo (l : List SpV) (i : Nat) : List EvV := sortR (rawEv (l.take i))
theorem rawEv_succ {l : List SpV} {i : Nat} (hi : i < l.length) : rawEv (l.take (i + 1)) = rawEv (l.take i) ++ evsOf i l[i] := by
  rw [List.take_succ_eq_append_getElem hi, rawEv, rawFrom_app, rawEv, List.length_take, Nat.min_eq_left (by omega), Nat.zero_add]
theorem sortTo_succ {l : List SpV} {i : Nat} (hi : i < l.length) : sortTo l (i + 1) = (evsOf i l[i]).foldl (fun acc e => putV e acc) (sortTo l i) := by
  rw [sortTo, rawEv_succ hi, sortR, List.foldl_append]; rfl
theorem sortR_len : ∀ (l acc : List EvV), (l.foldl (fun acc e => putV e acc) acc).length = acc.length + l.length
  | [], acc => rfl
  | e :: l, acc => by rw [List.foldl_cons, sortR_len l, (putV_perm e acc).length_eq]; simp; omega
theorem sortTo_len (l : List SpV) (i : Nat) : (sortTo l i).length ≤ 2 * l.length := by
  rw [sortTo, sortR, sortR_len]
  have := rawFrom_len (l.take i) 0
  have h2 : (l.take i).length ≤ l.length := by simp; omega
  unfold rawEv
  simp only [List.length_nil]
  omega
theorem l_refSort {l : List SpV} (hl : l.length ≤ 10000) {A : Option Addr} {c : Nat} : ∀ (d i : Nat) (v : Value) (w : World), RdV w A (l.flatMap spC) → RowE w W.heap.size v (sortTo l i) → Chg [] W w → i + d = l.length →
    P29_0 (.slice A l.length c) v (.int .i64 i) w fun v w' => RowE w' W.heap.size v (evs l) ∧ Chg [] W w' := by
  intro d
  induction d with
  | zero =>
    intro i v w hA hv hW hi
    apply L29_0_ok
    have : ¬ ((i : Int) < l.length) := by omega
    simp -implicitDefEqProofs only [L29_0, len_35, zS, this]
    have : sortTo l i = evs l := by rw [sortTo, List.take_of_length_le (by omega)]; rfl
    rw [this] at hv
    exact ⟨hv, hW⟩
  | succ d ih =>
    intro i v w hA hv hW hi
    apply L29_0_ok
    have hlt : (i : Int) < l.length := by omega
    have hil : i < l.length := by omega
    obtain ⟨b, o, q1, q2⟩ := sp_at' (c := c) (j := .i64) (i := i) hA hil
    have h4 : ldC (hp w b) (o + 9) = some (.int .i64 l[i].pt) := q2.f 9 (by omega)
    have sl := sortTo_len l i
    -- the end of the body
    have last : ∀ (v : Value) (w' : World), Chg [] w w' → RowE w' W.heap.size v (sortTo l (i + 1)) → P29_2 (.slice A l.length c) v (.int .i64 i) w' fun v w' => RowE w' W.heap.size v (evs l) ∧ Chg [] W w' := by
      intro v w' hc hv
      apply L29_2_ok
      simp -implicitDefEqProofs only [L29_2, bp_add, wrapi (n := (i : Int) + 1) (by omega) (by omega), zS]
      exact ih (i + 1) v w' (hA.keep hc.below) hv (hW.trans hc) (by omega)
    have mid : ∀ (v : Value) (w' : World) (L : List EvV), Chg [] w w' → RowE w' W.heap.size v L → L.length ≤ 100000 → (if 0 ≤ l[i].bk then [(l[i].bk, (i : Int), true)] else []).foldl (fun acc e => putV e acc) L = sortTo l (i + 1) →
        P29_1 (.slice A l.length c) v (.int .i64 i) w' fun v w' => RowE w' W.heap.size v (evs l) ∧ Chg [] W w' := by
      intro v w' L hc hv hL he
      apply L29_1_ok
      obtain ⟨b', o', r1, r2⟩ := sp_at' (c := c) (j := .i64) (i := i) (hA.keep hc.below) hil
      have h5 : ldC (hp w' b') (o' + 10) = some (.int .i64 l[i].bk) := r2.f 10 (by omega)
      simp -implicitDefEqProofs only [L29_1, r1, fa_34_5, ld_3, h5, zS, bp_geq]
      by_cases hb : 0 ≤ l[i].bk
      · rw [if_pos hb] at he
        simp -implicitDefEqProofs only [zS, hb, r1, fa_34_5, ld_3, h5, bde]
        refine (c_refPut hL hv _).mono ?_
        rintro v2 w2 ⟨hv2, c2⟩
        exact last v2 w2 (hc.trans c2) (he ▸ hv2.mono (hW.trans hc).size)
      · rw [if_neg hb] at he
        simp -implicitDefEqProofs only [zS, hb]
        exact last v w' hc (he ▸ hv)
    simp -implicitDefEqProofs only [L29_0, len_35, zS, hlt, q1, fa_34_4, ld_3, h4, bp_geq]
    have hs := sortTo_succ hil
    rw [evsOf, List.foldl_append] at hs
    by_cases hp0 : 0 ≤ l[i].pt
    · rw [if_pos hp0] at hs
      simp -implicitDefEqProofs only [zS, hp0, q1, fa_34_4, ld_3, h4, bde]
      refine (c_refPut (by omega) hv _).mono ?_
      rintro v2 w2 ⟨hv2, c2⟩
      exact mid v2 w2 _ c2 (hv2.mono hW.size) (by rw [(putV_perm _ _).length_eq]; simp; omega) hs.symm
    · rw [if_neg hp0] at hs
      simp -implicitDefEqProofs only [zS, hp0]
      exact mid v w _ (Chg.refl _ _) hv (by omega) hs.symm
theorem c_refSort {l : List SpV} (hl : l.length ≤ 10000) {A : Option Addr} {c : Nat} {w : World} (hA : RdV w A (l.flatMap spC)) : CallR Try.prog 29 [.slice A l.length c] w fun v w' => RowE w' w.heap.size v (evs l) ∧ Chg [] w w' := by
  apply F29_ok
  exact l_refSort hl l.length 0 _ w hA (RowE.nil w _) (Chg.refl _ _) (by omega)
end
end Go.Proofs.Yteapggpkgfiacaa

namespace Go.Proofs.Yteapggpkgfiacaa
open Go Ev Go.RowKit
set_option linter.unusedSimpArgs false
set_option linter.unusedVariables false
set_option maxRecDepth 10000

theorem c_isNaN (x : Int) (w : World) : CallR Try.prog 69 [.int .i64 x] w fun v w' => v = .bool false ∧ w' = w := by
  apply F69_ok
  simp -implicitDefEqProofs only [F69, zS]
  exact ⟨trivial, trivial⟩
theorem c_cmpInt (x y : Int) (w : World) : CallR Try.prog 41 [.int .i64 x, .int .i64 y] w fun v w' => v = .int .i64 (if x < y then -1 else if y < x then 1 else 0) ∧ w' = w := by
  apply F41_ok
  simp -implicitDefEqProofs only [F41]
  refine (c_isNaN x w).step ?_
  refine (c_isNaN y w).step ?_
  by_cases h : x < y
  · simp -implicitDefEqProofs only [zS, h, if_true]
    exact ⟨trivial, trivial⟩
  by_cases h2 : y < x
  · simp -implicitDefEqProofs only [zS, h, h2, if_true, if_false]
    exact ⟨trivial, trivial⟩
  · simp -implicitDefEqProofs only [zS, h, h2, if_false]
    exact ⟨trivial, trivial⟩
theorem c_oSortF (a b : EvV) (w : World) : CallR Try.prog 40 [.agg (evC a).toArray, .agg (evC b).toArray] w fun v w' => v = .int .i64 (cmpV a b) ∧ Chg [] w w' := by
  apply F40_ok
  simp -implicitDefEqProofs only [F40, effv_box, cells_agg, alloc_size]
  generalize hw : (w.alloc (.cells (evC a).toArray 59)).alloc _ = w1
  have c1 : Chg [] w w1 := by rw [← hw]; exact ((Chg.refl _ _).alloc _).alloc _
  have ba : hp w1 w.heap.size = some (.cells (evC a).toArray 59) := by rw [← hw, alloc_heap, alloc_size, if_neg (by omega), alloc_heap, if_pos rfl]
  have bb : hp w1 (w.heap.size + 1) = some (.cells (evC b).toArray 59) := by rw [← hw, alloc_heap, alloc_size, if_pos rfl]
  clear hw
  have a0 : ldC (hp w1 w.heap.size) (0 + 0) = some (.int .i64 a.1) := by rw [ba, ldC_some]; rfl
  have a2 : ldC (hp w1 w.heap.size) (0 + 2) = some (.bool a.2.2) := by rw [ba, ldC_some]; rfl
  have b0 : ldC (hp w1 (w.heap.size + 1)) (0 + 0) = some (.int .i64 b.1) := by rw [bb, ldC_some]; rfl
  have b2 : ldC (hp w1 (w.heap.size + 1)) (0 + 2) = some (.bool b.2.2) := by rw [bb, ldC_some]; rfl
  by_cases h : a.1 = b.1
  · simp -implicitDefEqProofs only [zS, fa_59_0, fa_59_2, ld_3, ld_4, a0, a2, b0, b2, h, be_eqlb Try.underlying4]
    obtain ⟨x1, x2, x3⟩ := a
    obtain ⟨y1, y2, y3⟩ := b
    simp only at h ⊢
    subst h
    cases x3 <;> cases y3 <;> (simp -implicitDefEqProofs only [zS]; exact ⟨by simp [cmpV], c1⟩)
  · have hne : (a.1 != b.1) = true := bne_iff_ne.2 h
    simp -implicitDefEqProofs only [zS, fa_59_0, fa_59_2, ld_3, ld_4, a0, a2, b0, b2, hne]
    refine (c_cmpInt a.1 b.1 w1).mono ?_
    rintro _ w2 ⟨rfl, rfl⟩
    refine ⟨?_, c1⟩
    rw [cmpV, if_pos h]
    by_cases h1 : a.1 < b.1
    · rw [if_pos h1, if_pos h1]
    · rw [if_neg h1, if_neg h1, if_pos (by omega)]
theorem evG_callO {P : Program} {ent : FuncId → Bool} {g : FuncId} {first cap : Array Value} {vs args : List Value} {w : World} {K : Value → World → Prop} (h : ent g = true) (ha : first.toList ++ vs ++ cap.toList = args) (hc : CallR P g args w K) :
    evG P (callK ent (some (.func (.func g) first cap)) (some vs)) (.bool true) true w K := by
  rw [evG_yes rfl]; subst ha; simp only [callK, h, cond_true, evP]; exact hc
theorem sortI_len (X : List EvV) : (sortI X).length = X.length := by
  have : ∀ (l acc : List EvV), (l.foldl (fun acc e => insR e acc) acc).length = acc.length + l.length := by
    intro l
    induction l with
    | nil => intro acc; rfl
    | cons e l ih => intro acc; rw [List.foldl_cons, ih, (insR_perm e acc).length_eq]; simp; omega
  rw [sortI, List.length_reverse, this]; simp
section
variable {w : World} {base n c g : Nat} {X : List EvV}
abbrev rowV (g n c : Nat) : Value := .slice (some ⟨g, 0, none⟩) n c
theorem ev_own (h : w.ownsRow base 59 3 (rowV g n c) n (X.flatMap evC)) {i : Nat} (hi : i < X.length) (hn : n = X.length) :
    pureRun Try.prog (Instr.indexAt 56 (rowV g n c) (.int .i64 i)) = some (.pointer (some ⟨g, i * 3, none⟩)) ∧ ldv Try.prog 59 (.pointer (some ⟨g, i * 3, none⟩)) w = some (.agg (evC X[i]).toArray) := by
  obtain ⟨g', c', e1, e2, e3, e4, e5, e6⟩ := own_elem (i := (i : Int)) (j := .i64) h Try.underlying56 sz_59 (by omega) (by omega)
  cases e1
  rw [Int.toNat_natCast] at e3 e5
  refine ⟨e3, ?_⟩
  rw [ld_59, e5, flat_at evC_len X i hi]; rfl
theorem ev_set (h : w.ownsRow base 59 3 (rowV g n c) n (X.flatMap evC)) {i : Nat} (hi : i < X.length) (hn : n = X.length) (e : EvV) :
    ∃ w', (∀ K, effu Try.prog (Instr.storeAt 59 (.pointer (some ⟨g, i * 3, none⟩)) (.agg (evC e).toArray)) w K = K w') ∧ w'.ownsRow base 59 3 (rowV g n c) n ((X.set i e).flatMap evC) ∧ Chg [g] w w' := by
  obtain ⟨p1, p2⟩ := ownsRow_put (vs := evC e) h (g := g) rfl (o := i * 3) (by rw [evC_len]; omega)
  rw [evC_len] at p2
  refine ⟨_, fun K => effu_store (n := 3) sz_59 (by simp [cells_agg]; rfl) (by rw [cells_agg]; exact List.all_eq_true.2 (evC_one e)) (by omega) p2, ?_, ?_⟩
  · have := flat_part evC_len e 0 (evC e) (by rw [evC_len]; omega) X i hi (by rw [List.drop_of_length_le (by rw [evC_len, evC_len]; omega)]; simp)
    rw [Nat.add_zero] at this
    rw [this] at p1
    rw [cells_agg]
    exact p1
  · exact (Chg.refl _ _).put (.inl (by simp)) _ _
end
theorem set_swap {y e : EvV} {S : List EvV} : ∀ Q : List EvV, ((Q ++ y :: e :: S).set (Q.length + 1) y).set Q.length e = Q ++ e :: y :: S
  | [] => rfl
  | q :: Q => by simp only [List.cons_append, List.length_cons, List.set_cons_succ, set_swap Q]
theorem mid_get {y : EvV} {S : List EvV} (Q : List EvV) (h : Q.length < (Q ++ y :: S).length) : (Q ++ y :: S)[Q.length] = y := by simp
theorem mid_get1 {y e : EvV} {S : List EvV} (Q : List EvV) (h : Q.length + 1 < (Q ++ y :: e :: S).length) : (Q ++ y :: e :: S)[Q.length + 1] = e := by
  rw [List.getElem_append_right (by omega)]; simp
section
variable {W : World} {base n c g : Nat} {Q : Value → World → Prop}
theorem l_ins1 (hn6 : n ≤ 1000000) {P0 : List EvV} {e : EvV} {i : Nat} {x2 : Value} (hi : i < n) : ∀ (R S : List EvV) (w : World), n = P0.length + R.length + 1 + S.length → w.ownsRow base 59 3 (rowV g n c) n ((P0 ++ R.reverse ++ e :: S).flatMap evC) → Chg [g] W w →
    (∀ w', w'.ownsRow base 59 3 (rowV g n c) n ((P0 ++ (insR e R).reverse ++ S).flatMap evC) → Chg [g] W w' → P87_0 (rowV g n c) (.int .i64 P0.length) x2 (.func (.func 40) #[] #[]) (.int .i64 ((i : Int) + 1)) w' Q) →
    P87_1 (rowV g n c) (.int .i64 P0.length) x2 (.func (.func 40) #[] #[]) (.int .i64 i) (.int .i64 ((P0.length + R.length : Nat) : Int)) w Q
  | [], S, w, hn, ho, hW, next => by
    apply L87_1_ok
    have : ¬ ((P0.length : Int) < ((P0.length + ([] : List EvV).length : Nat) : Int)) := by simp
    simp -implicitDefEqProofs only [L87_1, zS, this]
    refine (evG_not rfl).2 ⟨trivial, ?_⟩
    simp -implicitDefEqProofs only [zS, bp_add, wrapi (n := (i : Int) + 1) (by omega) (by omega)]
    exact next w.drew (by simpa [insR] using ownsRow_drew ho) hW.drew
  | y :: R, S, w, hn, ho, hW, next => by
    apply L87_1_ok
    have hm : ∃ Q0 : List EvV, Q0 = P0 ++ R.reverse := ⟨_, rfl⟩
    obtain ⟨Q0, hQ⟩ := hm
    have hQl : Q0.length = P0.length + R.length := by rw [hQ]; simp
    have hX : P0 ++ (y :: R).reverse ++ e :: S = Q0 ++ y :: e :: S := by rw [hQ]; simp
    rw [hX] at ho
    have hj : ((P0.length + (y :: R).length : Nat) : Int) = ((Q0.length + 1 : Nat) : Int) := by rw [hQl]; simp; omega
    have hXl : n = (Q0 ++ y :: e :: S).length := by simp at hn ⊢; omega
    have hgt : (P0.length : Int) < ((Q0.length + 1 : Nat) : Int) := by omega
    have hsub : (((Q0.length + 1 : Nat) : Int) - 1) = ((Q0.length : Nat) : Int) := by omega
    obtain ⟨i1, l1⟩ := ev_own ho (i := Q0.length + 1) (by simp) hXl
    obtain ⟨i0, l0⟩ := ev_own ho (i := Q0.length) (by simp) hXl
    rw [mid_get1] at l1
    rw [mid_get] at l0
    have hod := ownsRow_drew ho
    obtain ⟨_, l1d⟩ := ev_own hod (i := Q0.length + 1) (by simp) hXl
    obtain ⟨_, l0d⟩ := ev_own hod (i := Q0.length) (by simp) hXl
    rw [mid_get1] at l1d
    rw [mid_get] at l0d
    rw [hj]
    simp -implicitDefEqProofs only [L87_1, zS, hgt, i1, l1d, bp_sub, hsub, wrapi (n := ((Q0.length : Nat) : Int)) (by omega) (by omega), i0, l0d]
    refine evG_callO (first := #[]) (cap := #[]) (vs := [.agg (evC e).toArray, .agg (evC y).toArray]) (args := [.agg (evC e).toArray, .agg (evC y).toArray]) rfl rfl ?_
    refine (c_oSortF e y w.drew).mono ?_
    rintro _ w1 ⟨rfl, c1⟩
    have c1 : Chg [] w w1 := (Chg.refl _ _).drew.trans c1
    have ho1 := ownsRow_chg ho c1 (fun k hk => by simp)
    have c1g : Chg [g] W w1 := hW.trans (c1.mono fun k hk _ => by simp at hk)
    by_cases hlt : cmpV e y < 0
    · obtain ⟨j1, m1⟩ := ev_own (ownsRow_drew ho1) (i := Q0.length + 1) (by simp) hXl
      obtain ⟨j0, m0⟩ := ev_own (ownsRow_drew ho1) (i := Q0.length) (by simp) hXl
      rw [mid_get1] at m1
      rw [mid_get] at m0
      obtain ⟨w2, s2, o2, c2⟩ := ev_set (ownsRow_drew ho1) (i := Q0.length + 1) (by simp) hXl y
      have hXl2 : n = ((Q0 ++ y :: e :: S).set (Q0.length + 1) y).length := by rw [List.length_set]; exact hXl
      obtain ⟨w3, s3, o3, c3⟩ := ev_set o2 (i := Q0.length) (by simp) hXl2 e
      rw [set_swap] at o3
      simp -implicitDefEqProofs only [zS, hlt, bp_sub, hsub, wrapi (n := ((Q0.length : Nat) : Int)) (by omega) (by omega), j0, j1, m0, m1, s2, s3]
      have := l_ins1 hn6 hi R (y :: S) w3 (by simp at hn ⊢; omega) (by rw [hQ] at o3; exact o3) (c1g.drew.trans (c2.trans c3)) (fun w' ho' hc' => next w' (by
        have e1 : P0 ++ (insR e R).reverse ++ y :: S = P0 ++ (insR e (y :: R)).reverse ++ S := by rw [insR, if_pos hlt]; simp
        rw [← e1]; exact ho') hc')
      rw [hQl]
      exact this
    · simp -implicitDefEqProofs only [zS, hlt, bp_add, wrapi (n := (i : Int) + 1) (by omega) (by omega)]
      refine next w1 ?_ c1g
      have e1 : P0 ++ (insR e (y :: R)).reverse ++ S = Q0 ++ y :: e :: S := by rw [insR, if_neg hlt, hQ]; simp
      rw [e1]; exact ho1
/-- all of a stretch -/
theorem l_ins0 (hn6 : n ≤ 1000000) {P0 S : List EvV} : ∀ (todo R : List EvV) (w : World), R ≠ [] → n = P0.length + R.length + todo.length + S.length → w.ownsRow base 59 3 (rowV g n c) n ((P0 ++ R.reverse ++ todo ++ S).flatMap evC) → Chg [g] W w →
    (∀ w', w'.ownsRow base 59 3 (rowV g n c) n ((P0 ++ (todo.foldl (fun acc e => insR e acc) R).reverse ++ S).flatMap evC) → Chg [g] W w' → Q (.tuple #[]) w') →
    P87_0 (rowV g n c) (.int .i64 P0.length) (.int .i64 ((P0.length + R.length + todo.length : Nat) : Int)) (.func (.func 40) #[] #[]) (.int .i64 ((P0.length + R.length : Nat) : Int)) w Q
  | [], R, w, hR, hn, ho, hW, next => by
    apply L87_0_ok
    have : ¬ (((P0.length + R.length : Nat) : Int) < ((P0.length + R.length + ([] : List EvV).length : Nat) : Int)) := by simp
    simp -implicitDefEqProofs only [L87_0, zS, this]
    exact next w (by simpa using ho) hW
  | e :: todo, R, w, hR, hn, ho, hW, next => by
    apply L87_0_ok
    have hlt : (((P0.length + R.length : Nat) : Int) < ((P0.length + R.length + (e :: todo).length : Nat) : Int)) := by simp; omega
    simp -implicitDefEqProofs only [L87_0, zS, hlt]
    simp only [List.length_cons] at hn
    refine l_ins1 hn6 (i := P0.length + R.length) (by omega) R (todo ++ S) w (by simp; omega) (by simpa using ho) hW fun w' ho' hc' => ?_
    have hl : (insR e R).length = R.length + 1 := by rw [(insR_perm e R).length_eq]; simp
    have := l_ins0 hn6 (P0 := P0) (S := S) todo (insR e R) w' (fun h => by rw [h] at hl; simp at hl) (by omega) (by simpa using ho') hc' (fun w2 ho2 hc2 => next w2 (by simpa using ho2) hc2)
    rw [hl] at this
    have e1 : ((P0.length + R.length + (e :: todo).length : Nat) : Int) = ((P0.length + (R.length + 1) + todo.length : Nat) : Int) := by simp only [List.length_cons]; omega
    have e2 : (((P0.length + R.length : Nat) : Int) + 1) = ((P0.length + (R.length + 1) : Nat) : Int) := by omega
    rw [e1, e2]
    exact this
theorem c_insSort (hn6 : n ≤ 1000000) {P0 M S : List EvV} {w : World} (hn : n = P0.length + M.length + S.length) (ho : w.ownsRow base 59 3 (rowV g n c) n ((P0 ++ M ++ S).flatMap evC)) :
    CallR Try.prog 87 [rowV g n c, .int .i64 P0.length, .int .i64 ((P0.length + M.length : Nat) : Int), .func (.func 40) #[] #[]] w fun v w' => v = .tuple #[] ∧ w'.ownsRow base 59 3 (rowV g n c) n ((P0 ++ sortI M ++ S).flatMap evC) ∧ Chg [g] w w' := by
  apply F87_ok
  simp -implicitDefEqProofs only [F87, bp_add, wrapi (n := (P0.length : Int) + 1) (by omega) (by omega), zS]
  cases M with
  | nil =>
    apply L87_0_ok
    have : ¬ ((P0.length : Int) + 1 < ((P0.length + ([] : List EvV).length : Nat) : Int)) := by simp; omega
    simp -implicitDefEqProofs only [L87_0, zS, this]
    exact ⟨trivial, by simpa [sortI] using ho, Chg.refl _ _⟩
  | cons m M =>
    have := l_ins0 (W := w) (Q := fun v w' => v = .tuple #[] ∧ w'.ownsRow base 59 3 (rowV g n c) n ((P0 ++ sortI (m :: M) ++ S).flatMap evC) ∧ Chg [g] w w') hn6 (P0 := P0) (S := S) M [m] w (by simp) (by simp at hn ⊢; omega) (by simpa using ho) (Chg.refl _ _)
      fun w' ho' hc' => ⟨rfl, by simpa [sortI, insR] using ho', hc'⟩
    have e1 : ((P0.length + (m :: M).length : Nat) : Int) = ((P0.length + [m].length + M.length : Nat) : Int) := by simp; omega
    have e2 : ((P0.length : Int) + 1) = ((P0.length + [m].length : Nat) : Int) := by simp
    rw [e1, e2]
    exact this
/-- no more than twenty: one stretch -/
theorem c_SortStable {X : List EvV} {w : World} (hX : X.length ≤ 20) (ho : w.ownsRow base 59 3 (rowV g X.length c) X.length (X.flatMap evC)) :
    CallR Try.prog 39 [rowV g X.length c, .func (.func 40) #[] #[]] w fun v w' => w'.ownsRow base 59 3 (rowV g X.length c) X.length ((sortI X).flatMap evC) ∧ Chg [g] w w' := by
  apply F39_ok
  simp -implicitDefEqProofs only [F39, len_56, wpB_some']
  suffices h : CallR Try.prog 68 [rowV g X.length c, .int .i64 X.length, .func (.func 40) #[] #[]] w fun v w' => w'.ownsRow base 59 3 (rowV g X.length c) X.length ((sortI X).flatMap evC) ∧ Chg [g] w w' by
    refine h.mono ?_
    rintro v w' h
    exact h
  apply F68_ok
  have hsl : (sortI X).length = X.length := by
    have := (sortI_len X); exact this
  -- behind the stretches: none is to be merged
  have fin : ∀ w', w'.ownsRow base 59 3 (rowV g X.length c) X.length ((sortI X).flatMap evC) → Chg [g] w w' → P68_1 (rowV g X.length c) (.int .i64 X.length) (.func (.func 40) #[] #[]) (.int .i64 20) w' fun v w' => w'.ownsRow base 59 3 (rowV g X.length c) X.length ((sortI X).flatMap evC) ∧ Chg [g] w w' := by
    intro w' ho' hc'
    apply L68_1_ok
    have : ¬ ((20 : Int) < X.length) := by omega
    simp -implicitDefEqProofs only [L68_1, zS, this]
    exact ⟨ho', hc'⟩
  apply L68_0_ok
  by_cases h20 : X.length = 20
  · have hle : (20 : Int) ≤ X.length := by omega
    simp -implicitDefEqProofs only [F68, L68_0, zS, hle]
    have := c_insSort (n := X.length) (c := c) (g := g) (base := base) (by omega) (P0 := []) (M := X) (S := []) (w := w) (by simp) (by simpa using ho)
    simp only [List.length_nil, Nat.zero_add, h20] at this
    refine CallR.mono (by rw [h20]; exact this) ?_
    rintro v w2 ⟨_, ho2, c2⟩
    simp -implicitDefEqProofs only [bp_add, wrapi (n := (20 : Int) + 20) (by omega) (by omega), zS]
    apply L68_0_ok
    have hgt : ¬ ((20 : Int) + 20 ≤ X.length) := by omega
    simp -implicitDefEqProofs only [L68_0, zS, hgt]
    have h3 := c_insSort (n := X.length) (c := c) (g := g) (base := base) (by omega) (P0 := sortI X) (M := []) (S := []) (w := w2) (by simp [hsl]) (by rw [h20]; simpa using ho2)
    simp only [List.length_nil, Nat.add_zero, hsl, h20] at h3
    refine CallR.mono (by rw [h20]; exact h3) ?_
    rintro v w3 ⟨_, ho3, c3⟩
    exact fin w3 (by rw [h20]; simpa [sortI] using ho3) (c2.trans c3)
  · have hle : ¬ ((20 : Int) ≤ X.length) := by omega
    simp -implicitDefEqProofs only [F68, L68_0, zS, hle]
    have := c_insSort (n := X.length) (c := c) (g := g) (base := base) (by omega) (P0 := []) (M := X) (S := []) (w := w) (by simp) (by simpa using ho)
    simp only [List.length_nil, Nat.zero_add] at this
    refine CallR.mono this ?_
    rintro v w2 ⟨_, ho2, c2⟩
    exact fin w2 (by simpa using ho2) c2
end
end Go.Proofs.Yteapggpkgfiacaa

namespace Go.Proofs.Yteapggpkgfiacaa
open Go Ev Go.RowKit
set_option linter.unusedSimpArgs false
set_option linter.unusedVariables false
set_option maxRecDepth 10000

/-- gathered so far, not in order -/
def rawTo (l : List SpV) (i : Nat) : List EvV := rawEv (l.take i)
theorem rawTo_len (l : List SpV) (i : Nat) : (rawTo l i).length ≤ 2 * l.length := by
  have := rawFrom_len (l.take i) 0
  have h2 : (l.take i).length ≤ l.length := by simp; omega
  unfold rawTo rawEv
  omega
theorem bdp_pt (s i : Int) : pureRun Try.prog (Instr.build 59 #[(0, .int .i64 s), (1, .int .i64 i)]) = some (.agg #[.int .i64 s, .int .i64 i, .bool false]) := bd_59_0_1
theorem bdp_bk (s i : Int) (b : Bool) : pureRun Try.prog (Instr.build 59 #[(0, .int .i64 s), (1, .int .i64 i), (2, .bool b)]) = some (.agg #[.int .i64 s, .int .i64 i, .bool b]) := bd_59_0_1_2
section
variable {W : World}
theorem l_oSort {l : List SpV} (hm : mayL l) (hl : l.length ≤ 10) {A : Option Addr} {c : Nat} (hA0 : RdV W A (l.flatMap spC)) : ∀ (d i : Nat) (v : Value) (w : World), w.ownsRow W.heap.size 59 3 v (rawTo l i).length ((rawTo l i).flatMap evC) → Chg [] W w → i + d = l.length →
    P20_0 v (.slice A l.length c) (.int .i64 l.length) (.int .i64 i) w fun v w' => RowE w' W.heap.size v (evs l) ∧ Chg [] W w' := by
  intro d
  induction d with
  | zero =>
    intro i v w hv hW hi
    apply L20_0_ok
    have : ¬ ((i : Int) < l.length) := by omega
    simp -implicitDefEqProofs only [L20_0, zS, this]
    have hr : rawTo l i = rawEv l := by rw [rawTo, List.take_of_length_le (by omega)]
    have hlen := rawTo_len l i
    rcases hv.2 with ⟨rfl, h0⟩ | ⟨g, cap, cur, rfl, hbg, hg, hnc, hcm, hcs, htake⟩
    · have hnil : rawEv l = [] := by rw [← hr]; exact List.eq_nil_of_length_eq_zero h0
      have he : evs l = [] := by rw [evs, hnil]; rfl
      apply F39_ok
      simp -implicitDefEqProofs only [F39, len_56, wpB_some']
      apply F68_ok
      simp -implicitDefEqProofs only [F68]
      apply L68_0_ok
      simp -implicitDefEqProofs only [L68_0, zS, show ¬ ((20 : Int) ≤ (0 : Nat)) from by decide]
      apply F87_ok
      simp -implicitDefEqProofs only [F87, bp_add, wrapi (n := (0 : Int) + 1) (by omega) (by omega), zS]
      apply L87_0_ok
      simp -implicitDefEqProofs only [L87_0, zS, show ¬ ((0 : Int) + 1 < (0 : Nat)) from by decide]
      apply L68_1_ok
      simp -implicitDefEqProofs only [L68_1, zS, show ¬ ((20 : Int) < (0 : Nat)) from by decide]
      rw [he]
      exact ⟨RowE.nil w _, hW⟩
    · refine (c_SortStable (c := cap) (g := g) (X := rawTo l i) (base := W.heap.size) (by omega) hv).mono ?_
      rintro _ w2 ⟨ho, c2⟩
      rw [hr, evs_eq hm] at ho
      refine ⟨?_, ⟨c2.os.trans hW.os, c2.tape.trans hW.tape, c2.output.trans hW.output, Nat.le_trans hW.size c2.size, fun k hk hn => (c2.block k (Nat.lt_of_lt_of_le hk hW.size) (by simp; omega)).trans (hW.block k hk hn)⟩⟩
      have hle : (rawEv l).length = (evs l).length := by rw [← evs_eq hm, sortI_len]
      rw [hr]
      exact RowE.own ho hle
  | succ d ih =>
    intro i v w hv hW hi
    apply L20_0_ok
    have hlt : (i : Int) < l.length := by omega
    have hil : i < l.length := by omega
    obtain ⟨b, o, q1, q2⟩ := sp_at' (c := c) (j := .i64) (i := i) (hA0.keep hW.below) hil
    have sl := rawTo_len l i
    simp -implicitDefEqProofs only [L20_0, zS, hlt, q1, q2.ld, al_34]
    rw [st_34 (by rfl) (by rfl) (by rw [alloc_heap, if_pos rfl]; rfl) (by rw [alloc_heap, if_pos rfl]; rfl), alloc_heap, if_pos rfl]
    simp -implicitDefEqProofs only [getE_some]
    generalize hw1 : put (w.alloc _) w.heap.size (spA l[i]) 34 = w1
    have hc0 : Chg [] w w1 := by rw [← hw1]; exact ((Chg.refl _ _).alloc _).put (.inr (Nat.le_refl _)) _ _
    have hg : hp w1 w.heap.size = some (.cells (spA l[i]) 34) := by rw [← hw1, put_heap, if_pos rfl, if_pos (by simp)]
    clear hw1
    have hgW : ∀ k, v.ownBlock = some k → k ≠ w.heap.size := fun k hk => by
      rcases hv.2 with ⟨rfl, _⟩ | ⟨g, cap, cur, rfl, hbg, hgg, _⟩
      · cases hk
      · cases hk
        have : g < w.heap.size := blk_lt (o := _) hgg
        show g ≠ w.heap.size
        omega
    have hv1 := ownsRow_chg hv hc0 fun k hk => by simp
    have hW1 := hW.trans hc0
    generalize w.heap.size = g at *
    have f9 : ldC (hp w1 g) (0 + 9) = some (.int .i64 l[i].pt) := sp_c hg 9
    have hr1 : rawTo l (i + 1) = rawTo l i ++ evsOf i l[i] := rawEv_succ hil
    have last : ∀ (v : Value) (w' : World), Chg [] W w' → w'.ownsRow W.heap.size 59 3 v (rawTo l (i + 1)).length ((rawTo l (i + 1)).flatMap evC) → P20_2 v (.slice A l.length c) (.int .i64 l.length) (.int .i64 i) w' fun v w' => RowE w' W.heap.size v (evs l) ∧ Chg [] W w' := by
      intro v w' hc hv
      apply L20_2_ok
      simp -implicitDefEqProofs only [L20_2, bp_add, wrapi (n := (i : Int) + 1) (by omega) (by omega), zS]
      exact ih (i + 1) v w' hv hc (by omega)
    have mid : ∀ (v : Value) (w' : World) (L : List EvV), Chg [] W w' → hp w' g = some (.cells (spA l[i]) 34) → w'.ownsRow W.heap.size 59 3 v L.length (L.flatMap evC) → L.length ≤ 1000 → L ++ (if 0 ≤ l[i].bk then [(l[i].bk, (i : Int), true)] else []) = rawTo l (i + 1) →
        P20_1 v (.int .i64 i) (.pointer (some ⟨g, 0, none⟩)) (.slice A l.length c) (.int .i64 l.length) (.int .i64 i) w' fun v w' => RowE w' W.heap.size v (evs l) ∧ Chg [] W w' := by
      intro v w' L hc hg hv hL he
      apply L20_1_ok
      have f10 : ldC (hp w' g) (0 + 10) = some (.int .i64 l[i].bk) := sp_c hg 10
      simp -implicitDefEqProofs only [L20_1, fa_34_5, ld_3, f10, zS, bp_geq]
      by_cases hb : 0 ≤ l[i].bk
      · rw [if_pos hb] at he
        simp -implicitDefEqProofs only [zS, hb, fa_34_5, ld_3, f10, bdp_bk]
        refine ps_56 (fun u hu => evC_one (l[i].bk, (i : Int), true) u hu) hv (by omega) hc.size fun x2 w2 o2 g2 _ => ?_
        have c2 : Chg [] W w2 := hc.grown g2 fun k hk => .inr (own_ge hv hk)
        refine last x2 w2 c2 ?_
        rw [← he, List.length_append, List.flatMap_append]; simpa [evC] using o2
      · rw [if_neg hb, List.append_nil] at he
        simp -implicitDefEqProofs only [zS, hb]
        exact last v w' hc (he ▸ hv)
    simp -implicitDefEqProofs only [fa_34_4, ld_3, f9, zS, bp_geq]
    rw [evsOf] at hr1
    by_cases hp0 : 0 ≤ l[i].pt
    · rw [if_pos hp0] at hr1
      simp -implicitDefEqProofs only [zS, hp0, fa_34_4, ld_3, f9, bdp_pt]
      refine ps_56 (fun u hu => evC_one (l[i].pt, (i : Int), false) u hu) hv1 (by omega) hW1.size fun x2 w2 o2 g2 _ => ?_
      have c2 : Chg [] W w2 := hW1.grown g2 fun k hk => .inr (own_ge hv1 hk)
      have c2' : Chg (blk v) w1 w2 := (Chg.refl _ _).grown g2 fun k hk => .inl (by simpa using hk)
      refine mid x2 w2 (rawTo l i ++ [(l[i].pt, (i : Int), false)]) c2 (c2'.at hg fun hm => hgW _ (by simpa using hm) rfl) ?_ (by simp; omega) (by rw [hr1, List.append_assoc])
      rw [List.length_append, List.flatMap_append]; simpa [evC] using o2
    · rw [if_neg hp0, List.nil_append] at hr1
      simp -implicitDefEqProofs only [zS, hp0]
      exact mid v w1 (rawTo l i) hW1 hg hv1 (by omega) hr1.symm
theorem c_oSort {l : List SpV} (hl : l.length ≤ 10) {A : Option Addr} {c : Nat} {w : World} (hA : RdV w A (l.flatMap spC)) : CallR Try.prog 20 [.slice A l.length c] w fun v w' => RowE w' w.heap.size v (if mayB l = true then evs l else []) ∧ Chg [] w w' := by
  apply F20_ok
  simp -implicitDefEqProofs only [F20]
  refine (c_RMay (by omega) ⟨A, c, rfl, hA⟩).mono ?_
  rintro _ w1 ⟨rfl, c1⟩
  cases hm : mayB l with
  | false =>
    simp -implicitDefEqProofs only [zS]
    exact ⟨RowE.nil _ _, c1⟩
  | true =>
    have hml : mayL l := by
      unfold mayB at hm
      exact @of_decide_eq_true _ (Classical.propDecidable _) hm
    simp -implicitDefEqProofs only [zS, len_35, if_true]
    refine (l_oSort hml hl (hA.keep c1.below) l.length 0 _ w1 (World.ownsRow_nil _ _ _ _) (Chg.refl _ _) (by omega)).mono ?_
    rintro v w2 ⟨h2, c2⟩
    exact ⟨h2.mono c1.size, c1.trans c2⟩
end
end Go.Proofs.Yteapggpkgfiacaa

namespace Go.Proofs.Yteapggpkgfiacaa
open Go Ev Go.RowKit
set_option linter.unusedSimpArgs false
set_option linter.unusedVariables false
set_option maxRecDepth 10000

set_option maxHeartbeats 1000000 in
theorem c_cfMay (c : CfV) (w : World) : CallR Try.prog 10 [.agg (cfC c).toArray] w fun v w' => v = .bool (mayC c) ∧ Chg [] w w' := by
  apply F10_ok
  have b1 : hp (w.alloc (.cells (cfC c).toArray 25)) w.heap.size = some (.cells (cfC c).toArray 25) := by rw [alloc_heap, if_pos rfl]
  have c0 : Chg [] w (w.alloc (.cells (cfC c).toArray 25)) := (Chg.refl _ _).alloc _
  simp -implicitDefEqProofs only [F10, effv_box, cells_agg]
  generalize w.alloc (.cells (cfC c).toArray 25) = w0 at *
  simp -implicitDefEqProofs only [zS, fa_25_0, ld_3, b1, cf_0]
  refine (c_rIn _ _ _ w0).step ?_
  by_cases h1 : 1 ≤ c.1 ∧ c.1 ≤ 64
  · simp -implicitDefEqProofs only [decide_eq_true h1, zS, fa_25_1, ld_3, b1, cf_1]
    refine (c_rIn _ _ _ w0).step ?_
    by_cases h2 : 1 ≤ c.2.1 ∧ c.2.1 ≤ 4096
    · simp -implicitDefEqProofs only [decide_eq_true h2, zS, fa_25_2, ld_3, b1, cf_2]
      refine (c_rIn _ _ _ w0).step ?_
      by_cases h3 : 8 ≤ c.2.2.1 ∧ c.2.2.1 ≤ 1024
      · have hm : c.2.2.1.tmod 8 = c.2.2.1 % 8 := Int.tmod_eq_emod_of_nonneg (by omega)
        by_cases h4 : c.2.2.1 % 8 = 0
        · have e4 : (c.2.2.1 % 8 == 0) = true := by rw [h4]; rfl
          simp -implicitDefEqProofs only [decide_eq_true h3, zS, fa_25_2, fa_25_3, ld_3, b1, cf_2, cf_3, bp_rem (show (8 : Int) ≠ 0 by decide), hm, e4]
          refine (c_rIn _ _ _ w0).step ?_
          by_cases h5 : 1 ≤ c.2.2.2.1 ∧ c.2.2.2.1 ≤ 4096
          · simp -implicitDefEqProofs only [decide_eq_true h5, zS, fa_25_4, ld_3, b1, cf_4]
            refine (c_rIn _ _ _ w0).step ?_
            by_cases h6 : 0 ≤ c.2.2.2.2.1 ∧ c.2.2.2.2.1 ≤ 64
            · simp -implicitDefEqProofs only [decide_eq_true h6, zS, fa_25_5, ld_3, b1, cf_5]
              refine (c_rIn _ _ _ w0).step ?_
              by_cases h7 : 1 ≤ c.2.2.2.2.2 ∧ c.2.2.2.2.2 ≤ 8
              · simp -implicitDefEqProofs only [decide_eq_true h7, zS]
                exact ⟨by simp [mayC, h1, h2, h3, h4, h5, h6, h7], c0⟩
              · simp -implicitDefEqProofs only [decide_eq_false h7, zS]
                exact ⟨by rw [mayC, decide_eq_false h7]; simp, c0⟩
            · simp -implicitDefEqProofs only [decide_eq_false h6, zS]
              exact ⟨by rw [mayC, decide_eq_false h6]; simp, c0⟩
          · simp -implicitDefEqProofs only [decide_eq_false h5, zS]
            exact ⟨by rw [mayC, decide_eq_false h5]; simp, c0⟩
        · simp -implicitDefEqProofs only [decide_eq_true h3, zS, fa_25_2, ld_3, b1, cf_2, bp_rem (show (8 : Int) ≠ 0 by decide), hm, eqf h4]
          exact ⟨by rw [mayC, decide_eq_false h4]; simp, c0⟩
      · simp -implicitDefEqProofs only [decide_eq_false h3, zS]
        exact ⟨by rw [mayC, decide_eq_false h3]; simp, c0⟩
    · simp -implicitDefEqProofs only [decide_eq_false h2, zS]
      exact ⟨by rw [mayC, decide_eq_false h2]; simp, c0⟩
  · simp -implicitDefEqProofs only [decide_eq_false h1, zS]
    exact ⟨by rw [mayC, decide_eq_false h1]; simp, c0⟩
theorem Chg.ext {w w' : World} (h : Chg [] w w') : Ext w w' := fun a v ha => Below.cellKeep h.below ha
theorem callX_step {P : Program} {f : FuncId} {args : List Value} {w : World} {v0 : Value} (h : CallR P f args w fun v w' => v = v0 ∧ w' = w) {K : Value → World → Prop} (hk : K v0 w) : CallX P f args w K :=
  h.mono fun v w' ⟨h1, h2⟩ => by subst h1; subst h2; exact ⟨fun _ _ h => h, hk⟩
theorem callX_chg {P : Program} {f : FuncId} {args : List Value} {w : World} {R : Value → World → Prop} (h : CallR P f args w fun v w' => R v w' ∧ Chg [] w w') {K : Value → World → Prop} (hk : ∀ v w', R v w' → Chg [] w w' → K v w') : CallX P f args w K :=
  h.mono fun v w' ⟨h1, h2⟩ => ⟨Chg.ext h2, hk v w' h1 h2⟩
abbrev numV (v n : Int) : Int := v % n
theorem numV_range (v : Int) {n : Int} (h : 0 < n) : 0 ≤ numV v n ∧ numV v n < n := ⟨Int.emod_nonneg _ (by omega), Int.emod_lt_of_pos _ h⟩
def cutC (c : CfV) : CfV := (1 + numV c.1 4, 1 + numV c.2.1 8, 8 + 8 * numV c.2.2.1 2, 1 + numV c.2.2.2.1 4, numV c.2.2.2.2.1 4, 1 + numV c.2.2.2.2.2 3)
theorem c_Cut (c : CfV) (w : World) : CallR Try.prog 13 [.agg (cfC c).toArray] w fun v w' => v = .agg (cfC (cutC c)).toArray ∧ Chg [] w w' := by
  apply F13_ok
  simp -implicitDefEqProofs only [F13, effv_box, cells_agg, al_25, alloc_size]
  generalize hw : (w.alloc (.cells (cfC c).toArray 25)).alloc _ = w1
  have c1 : Chg [] w w1 := by rw [← hw]; exact ((Chg.refl _ _).alloc _).alloc _
  have b1 : hp w1 w.heap.size = some (.cells (cfC c).toArray 25) := by rw [← hw, alloc_heap, alloc_size, if_neg (by omega), alloc_heap, if_pos rfl]
  have b2 : ∃ z : Array Value, z.size = 6 ∧ hp w1 (w.heap.size + 1) = some (.cells z 25) := ⟨_, rfl, by rw [← hw, alloc_heap, alloc_size, if_pos rfl]⟩
  clear hw
  obtain ⟨z, hz, b2⟩ := b2
  simp -implicitDefEqProofs only [zS, fa_25_0, fa_25_1, fa_25_2, fa_25_3, fa_25_4, fa_25_5, ld_3, hp_drew, b1, ldC_some, cf_0, cf_1, cf_2, cf_3, cf_4, cf_5]
  have h1 := numV_range c.1 (n := 4) (by omega)
  have h2 := numV_range c.2.1 (n := 8) (by omega)
  have h3 := numV_range c.2.2.1 (n := 2) (by omega)
  have h4 := numV_range c.2.2.2.1 (n := 4) (by omega)
  have h5 := numV_range c.2.2.2.2.1 (n := 4) (by omega)
  have h6 := numV_range c.2.2.2.2.2 (n := 3) (by omega)
  refine callX_step (c_Number _ 4 _ (by omega) (by omega)) ?_
  simp -implicitDefEqProofs only [zS, bp_add, wrapi (n := 1 + numV c.1 4) (by omega) (by omega)]
  refine callX_step (c_Number _ 8 _ (by omega) (by omega)) ?_
  simp -implicitDefEqProofs only [zS, bp_add, wrapi (n := 1 + numV c.2.1 8) (by omega) (by omega)]
  refine callX_step (c_Number _ 2 _ (by omega) (by omega)) ?_
  simp -implicitDefEqProofs only [zS, bp_add, bp_mul, wrapi (n := 8 * numV c.2.2.1 2) (by omega) (by omega), wrapi (n := 8 + 8 * numV c.2.2.1 2) (by omega) (by omega)]
  refine callX_step (c_Number _ 4 _ (by omega) (by omega)) ?_
  simp -implicitDefEqProofs only [zS, bp_add, wrapi (n := 1 + numV c.2.2.2.1 4) (by omega) (by omega)]
  refine callX_step (c_Number _ 4 _ (by omega) (by omega)) ?_
  refine callX_step (c_Number _ 3 _ (by omega) (by omega)) ?_
  have hbc : pureRun Try.prog (Instr.build 25 #[(0, .int .i64 (1 + numV c.1 4)), (1, .int .i64 (1 + numV c.2.1 8)), (2, .int .i64 (8 + 8 * numV c.2.2.1 2)), (3, .int .i64 (1 + numV c.2.2.2.1 4)), (4, .int .i64 (numV c.2.2.2.2.1 4)), (5, .int .i64 (1 + numV c.2.2.2.2.2 3))]) = some (.agg (cfC (cutC c)).toArray) := bd_25_0_1_2_3_4_5
  simp -implicitDefEqProofs only [zS, bp_add, wrapi (n := 1 + numV c.2.2.2.2.2 3) (by omega) (by omega), hbc]
  have b2d : hp w1.drew (w.heap.size + 1) = some (.cells z 25) := b2
  rw [st_25 rfl rfl (by rw [b2d, okC_some]; exact decide_eq_true (by omega)) (by rw [b2d]; exact hz), b2d, getE_some, ld_cf (put_same (blk_lt b2d) _ _), wpB_some']
  exact ⟨rfl, c1.drew.put (.inr (by omega)) _ _⟩
end Go.Proofs.Yteapggpkgfiacaa

namespace Go.Proofs.Yteapggpkgfiacaa
open Go Ev Go.RowKit
set_option linter.unusedSimpArgs false
set_option linter.unusedVariables false
set_option maxRecDepth 10000

/-- what holds of names, slots -/
structure Wn (m : MdV) (K : Nat) : Prop where
  gk : ∀ p ∈ m.slots, 0 ≤ p.2 ∧ p.2 ≤ K
  gn : ∀ r ∈ m.rgs, 0 ≤ r.nm.1 ∧ r.nm.1 < m.slots.length ∧ 1 ≤ r.nm.2 ∧ ∀ p, m.slots[r.nm.1.toNat]? = some p → r.nm.2 ≤ p.2
  nd : (m.rgs.map (·.nm)).Nodup
  lv : ∀ (i : Nat) (p : NmV), m.slots[i]? = some p → p.1 = 1 → ∃ k, findR m.rgs ((i : Int), p.2) = some k
  cw : m.c.1 = m.hands.length
  cs : m.c.2.2.2.1 = m.slots.length
theorem Wn.mono {m : MdV} {K K' : Nat} (h : Wn m K) (hk : K ≤ K') : Wn m K' := ⟨fun p hp => by have := h.gk p hp; omega, h.gn, h.nd, h.lv, h.cw, h.cs⟩
theorem wn_new {c : CfV} (h : mayC c = true) (l : Bool) : Wn (newM c l) 0 := by
  obtain ⟨h1, h2, h3, h4⟩ := may_cf h
  refine ⟨fun p hp => ?_, (fun r hr => by cases hr), List.nodup_nil, fun i p hp h1 => ?_, by simp only [newM, List.length_replicate]; omega, by simp only [newM, List.length_replicate]; omega⟩
  · rw [List.eq_of_mem_replicate hp]; exact ⟨Int.le_refl _, Int.le_refl _⟩
  · have := List.eq_of_mem_replicate (List.mem_of_getElem? hp)
    rw [this] at h1; cases h1
theorem findR_set {L : List RgV} {i : Nat} {r r' : RgV} (hi : L[i]? = some r) (hn : r'.nm = r.nm) (n : NmV) : findR (L.set i r') n = findR L n := by
  unfold findR
  have : ∀ (M : List RgV) (i : Nat), M[i]? = some r → (M.set i r').findIdx? (fun x => decide (x.nm = n)) = M.findIdx? (fun x => decide (x.nm = n)) := by
    intro M
    induction M with
    | nil => intro i h; simp at h
    | cons x M ih =>
      intro i h
      cases i with
      | zero =>
        simp at h; subst h
        rw [List.set_cons_zero, List.findIdx?_cons, List.findIdx?_cons, hn]
      | succ i =>
        rw [List.set_cons_succ, List.findIdx?_cons, List.findIdx?_cons, ih i (by simpa using h)]
  exact this L i hi
theorem Wn.setRg {m : MdV} {K : Nat} (h : Wn m K) {i : Nat} {r r' : RgV} (hi : m.rgs[i]? = some r) (hn : r'.nm = r.nm) : Wn { m with rgs := m.rgs.set i r' } K := by
  refine ⟨h.gk, fun x hx => ?_, ?_, fun j p hp h1 => ?_, h.cw, h.cs⟩
  · rcases List.mem_or_eq_of_mem_set hx with h1 | h1
    · exact h.gn x h1
    · rw [h1, hn]; exact h.gn r (List.mem_of_getElem? hi)
  · have : (m.rgs.set i r').map (·.nm) = m.rgs.map (·.nm) := by
      rw [List.map_set, hn]
      exact set_same (by rw [List.getElem?_map, hi]; rfl)
    rw [this]; exact h.nd
  · obtain ⟨k, hk⟩ := h.lv j p hp h1
    exact ⟨k, by rw [findR_set hi hn]; exact hk⟩
theorem Wn.setHd {m : MdV} {K : Nat} (h : Wn m K) (w : Int) (d : HdV) : Wn (setHd m w d) K := ⟨h.gk, h.gn, h.nd, h.lv, by simp only [Go.Proofs.Yteapggpkgfiacaa.setHd, List.length_set]; exact h.cw, h.cs⟩
theorem Wn.setSl {m : MdV} {K : Nat} (h : Wn m K) {i : Nat} {p : NmV} (hp : m.slots[i]? = some p) {v : Int} (hv : v ≠ 1) : Wn { m with slots := m.slots.set i (v, p.2) } K := by
  have hpm := h.gk p (List.mem_of_getElem? hp)
  refine ⟨mem_set h.gk hpm, fun r hr => ?_, h.nd, fun j q hq h1 => ?_, h.cw, by simp only [List.length_set]; exact h.cs⟩
  · obtain ⟨a, b, c, d⟩ := h.gn r hr
    refine ⟨a, by simp only [List.length_set]; exact b, c, fun q hq => ?_⟩
    simp only at hq
    rw [List.getElem?_set] at hq
    split at hq
    · rename_i e
      split at hq
      · cases hq; exact d p (by rw [← e]; exact hp)
      · cases hq
    · exact d q hq
  · simp only at hq
    rw [List.getElem?_set] at hq
    split at hq
    · split at hq
      · cases hq; exact absurd h1 hv
      · cases hq
    · exact h.lv j q hq h1
theorem Wn.setWord {m : MdV} {K : Nat} (h : Wn m K) (a : HnV) (n x : Int) : Wn (setWordV m a n x) K := by
  unfold setWordV
  split
  · split
    · rename_i r hr
      exact h.setRg hr rfl
    · exact h
  · exact h
theorem Wn.back {m : MdV} {K : Nat} (h : Wn m K) (n : Int) : Wn (backV m n).2 K := by
  unfold backV
  split
  · split
    · rename_i p hp
      split
      · exact h.setSl hp (by decide)
      · exact h
    · exact h
  · exact h
theorem Wn.does {m : MdV} {K : Nat} (h : Wn m K) (w : Int) (o : OpV) (a : HnV) : Wn (doesV m w o a) K := by
  unfold doesV
  split
  · exact h
  · split
    · exact h.setHd _ _
    split
    · exact h.setHd _ _
    split
    · split
      · exact h
      · exact h.setHd _ _
    split
    · exact h.setWord _ _ _
    split
    · exact h.setWord _ _ _
    split
    · split
      · exact h.setWord _ _ _
      · exact h
    split
    · split
      · rename_i p hp
        refine h.setSl hp ?_
        split <;> decide
      · exact h
    · exact h
theorem findR_app_left {L : List RgV} {x : RgV} {n : NmV} {k : Nat} (h : findR L n = some k) : findR (L ++ [x]) n = some k := by
  unfold findR at h ⊢
  rw [List.findIdx?_append, h]; rfl
theorem findR_app_new {L : List RgV} {x : RgV} (h : findR L x.nm = none) : findR (L ++ [x]) x.nm = some L.length := by
  unfold findR at h ⊢
  rw [List.findIdx?_append, h]
  simp [List.findIdx?_cons]
theorem Wn.fresh {m : MdV} {K : Nat} (h : Wn m K) {i : Nat} {p : NmV} (hp : m.slots[i]? = some p) (r : RgV) (hr : r ∈ m.rgs) : r.nm ≠ ((i : Int), p.2 + 1) := fun e => by
  obtain ⟨a, b, c, d⟩ := h.gn r hr
  rw [e] at d
  have := d p (by rw [Int.toNat_natCast]; exact hp)
  simp only at this; omega
theorem Wn.creates {m : MdV} {K : Nat} (h : Wn m K) (hK : K ≤ 1000000) (cls : Int) (r : RsV) : Wn (createsV m cls r).2 (K + 1) := by
  have h1 := h.mono (Nat.le_succ K)
  unfold createsV
  split
  · exact h1
  split
  · rename_i hs
    split
    · rename_i p hp
      split
      · exact h1
      split
      · have hpm := h.gk p (List.mem_of_getElem? hp)
        have hl : laterV p.2 = p.2 + 1 := by rw [laterV, if_pos (by omega)]
        have hnn : ((r.2.1.1.toNat : Nat) : Int) = r.2.1.1 := by omega
        have hfr : findR m.rgs (r.2.1.1, p.2 + 1) = none := findR_none fun j x hx => by
          have := h.fresh hp x (List.mem_of_getElem? hx)
          rw [hnn] at this; exact this
        rw [hl]
        refine ⟨mem_set h1.gk (by simp only; omega), fun x hx => ?_, ?_, fun j q hq hq1 => ?_, h.cw, by simp only [List.length_set]; exact h.cs⟩
        · simp only [List.length_set]
          rcases List.mem_append.1 hx with hx | hx
          · obtain ⟨a, b, c, d⟩ := h.gn x hx
            refine ⟨a, b, c, fun q hq => ?_⟩
            rw [List.getElem?_set] at hq
            split at hq
            · rename_i e
              split at hq
              · cases hq
                have := d p (by rw [← e]; exact hp)
                simp only; omega
              · cases hq
            · exact d q hq
          · rw [List.mem_singleton.1 hx]
            refine ⟨hs.1, hs.2, by simp only; omega, fun q hq => ?_⟩
            simp only at hq
            rw [List.getElem?_set, if_pos rfl] at hq
            split at hq
            · cases hq; exact Int.le_refl _
            · cases hq
        · rw [List.map_append, List.nodup_append]
          refine ⟨h.nd, by simp, fun a ha b hb => ?_⟩
          obtain ⟨x, hx, rfl⟩ := List.mem_map.1 ha
          rw [List.map_cons, List.map_nil, List.mem_singleton] at hb
          rw [hb]
          have := h.fresh hp x hx
          rw [hnn] at this; exact this
        · simp only at hq
          rw [List.getElem?_set] at hq
          split at hq
          · rename_i e
            split at hq
            · cases hq
              rw [← e, hnn]
              exact ⟨_, findR_app_new (x := ⟨(r.2.1.1, p.2 + 1), cls, 0, [], [], []⟩) hfr⟩
            · cases hq
          · obtain ⟨k, hk⟩ := h.lv j q hq hq1
            exact ⟨k, findR_app_left hk⟩
      · exact h1
    · exact h1
  · exact h1
theorem Wn.gives {m : MdV} {K : Nat} (h : Wn m K) (n : Int) (a : HnV) (r : RsV) : Wn (givesV m n a r).2 (K + 1) := by
  have h1 := h.mono (Nat.le_succ K)
  unfold givesV
  split
  · exact h1
  · split
    · exact h1
    · rename_i i _ x hx
      simp only
      split
      · exact h1
      split
      · exact h1
      split
      · refine h1.setRg hx ?_
        unfold growV
        split <;> rfl
      · exact h1
theorem Wn.doV {m : MdV} {K : Nat} (h : Wn m K) (hK : K ≤ 1000000) (w : Int) (o : OpV) (a : HnV) (r : RsV) : Wn (doV m w o a r).2 (K + 1) := by
  have h1 := h.mono (Nat.le_succ K)
  unfold Go.Proofs.Yteapggpkgfiacaa.doV
  split
  · exact h1
  split
  · split
    · simp only
      split
      · exact (h.does _ _ _).mono (Nat.le_succ K)
      · exact h1
    · exact h1
  split
  · exact h.creates hK _ _
  · exact h.gives _ _ _
section
variable {m : MdV} {K : Nat}
theorem findX_rf (m : MdV) (n : NmV) : findX (toRf m).rgs n = findR m.rgs n := by
  unfold findX toRf
  simp only [List.map_map]
  rw [show (Prod.fst ∘ fun r : RgV => (r, isLv m r.nm)) = id from rfl, List.map_id]
theorem rgs_rf (m : MdV) (i : Nat) : (toRf m).rgs[i]? = (m.rgs[i]?).map fun r => (r, isLv m r.nm) := by
  simp [toRf, List.getElem?_map]
theorem good_rfv (W : Wf m K) (k : Int) (a : HnV) : goodX (toRf m) k a = (if ofK k = 0 then true else knownV m a (ofK k)) := by
  have hcase : ofK k = 0 ∨ ofK k = 1 ∨ ofK k = 2 ∨ ofK k = 3 := by
    unfold ofK; repeat' split
    all_goals omega
  have kx : knownX (toRf m) a = match findR m.rgs (nmOf a) with
    | none => (false, false)
    | some i => (decide (a.2.2.1 = 0 ∧ a.2.2.2.1 = 0 ∧ a.2.2.2.2 = 0), match m.rgs[i]? with | some r => decide (a ∈ r.objs) | none => false) := by
    unfold knownX
    rw [findX_rf]
    cases findR m.rgs (nmOf a) with
    | none => rfl
    | some i =>
      simp only [rgs_rf]
      cases m.rgs[i]? <;> rfl
  have kv : ∀ of, knownV m a of = match findR m.rgs (nmOf a) with
    | none => false
    | some i => if a.2.2.2.2 = 0 then decide (a.2.2.1 = 0) && (decide (a.2.2.2.1 = 0) && decide (of ≠ 2)) else decide (of ≠ 1) && (match m.rgs[i]? with | some r => decide (a ∈ r.objs) | none => false) := fun of => rfl
  unfold goodX
  rw [kx]
  cases hf : findR m.rgs (nmOf a) with
  | none =>
    rcases hcase with h | h | h | h <;> rw [h] <;> simp [kv, hf]
  | some i =>
    obtain ⟨r, hr, _⟩ := findR_at hf
    have hob : a.2.2.2.2 = 0 → a ∉ r.objs := fun h0 hm => by
      have := ((W.rg r (List.mem_of_getElem? hr)).ob a hm).2.2.1
      omega
    simp only [hr]
    rcases hcase with h | h | h | h <;> rw [h]
    · simp
    · simp only [if_true, kv, hf, hr]
      by_cases h0 : a.2.2.2.2 = 0
      · simp [h0]
      · simp [h0]
    · simp only [show ¬ (2 : Int) = 1 by decide, show ¬ (2 : Int) = 0 by decide, if_true, if_false, kv, hf, hr]
      by_cases h0 : a.2.2.2.2 = 0
      · rw [if_pos h0, decide_eq_false (hob h0)]; simp
      · rw [if_neg h0]; simp
    · simp only [show ¬ (3 : Int) = 1 by decide, show ¬ (3 : Int) = 2 by decide, show ¬ (3 : Int) = 0 by decide, if_true, if_false, kv, hf, hr]
      by_cases h0 : a.2.2.2.2 = 0
      · rw [if_pos h0, decide_eq_false (hob h0)]; simp [h0]
      · rw [if_neg h0]; simp [h0]
theorem rf_spare (m : MdV) : spareI (toRf m).state = spareN m.slots := by
  rw [spareI, spareN]
  show ((m.slots.map (·.1)).filter _).length = _
  rw [List.filter_map, List.length_map]; rfl
theorem rf_taken (m : MdV) (ch : Int) : takenX (toRf m).rgs ch = takenV m ch := by
  unfold takenX takenV
  show ((m.rgs.map _).any _) = _
  rw [List.any_map]; rfl
theorem rf_back (m : MdV) (n : Int) : backX (toRf m) n = ((backV m n).1, toRf (backV m n).2) := by
  unfold backX backV
  have hl : (toRf m).state.length = m.slots.length := by simp [toRf]
  rw [hl]
  by_cases h : 0 ≤ n ∧ n < m.slots.length
  · obtain ⟨p, hp⟩ : ∃ p, m.slots[n.toNat]? = some p := ⟨_, List.getElem?_eq_getElem (by omega)⟩
    have e1 : (toRf m).state.getD n.toNat 0 = p.1 := by rw [List.getD_eq_getElem?_getD]; simp [toRf, hp]
    rw [if_pos h, e1, hp]
    by_cases h2 : p.1 = 2
    · rw [if_pos ⟨h.1, h.2, h2⟩]
      simp only [if_pos h2]
      congr 1
      have lvE : ∀ q : NmV, isLv { m with slots := m.slots.set n.toNat (0, p.2) } q = isLv m q := fun q => by
        unfold isLv
        simp only [List.length_set]
        congr 1
        by_cases hq : n.toNat = q.1.toNat
        · have a1 : m.slots[q.1.toNat]? = some p := by rw [← hq]; exact hp
          have a2 : (m.slots.set n.toNat (0, p.2))[q.1.toNat]? = some (0, p.2) := by rw [← hq, List.getElem?_set, if_pos rfl, if_pos (List.getElem?_eq_some_iff.1 hp).1]
          rw [decide_eq_false (by rw [a2]; intro e; have := congrArg Prod.fst (Option.some.inj e); simp at this), decide_eq_false (by rw [a1]; intro e; have := congrArg Prod.fst (Option.some.inj e); simp only at this; omega)]
        · have : (m.slots.set n.toNat (0, p.2))[q.1.toNat]? = m.slots[q.1.toNat]? := by rw [List.getElem?_set, if_neg hq]
          rw [this]
      unfold toRf
      simp only [List.map_set, lvE]
      congr 1
      rw [set_same]
      rw [List.getElem?_map, hp]; rfl
    · rw [if_neg (fun h' => h2 h'.2.2)]
      simp only [if_neg h2]
  · rw [if_neg (fun h' => h ⟨h'.1, h'.2.1⟩), if_neg h]
end
end Go.Proofs.Yteapggpkgfiacaa

namespace Go.Proofs.Yteapggpkgfiacaa
open Go Ev Go.RowKit
set_option linter.unusedSimpArgs false
set_option linter.unusedVariables false
set_option maxRecDepth 10000

section
variable {W w : World} {g g6 g7 g8 g10 : Nat} {x : RfV} {m : MdV} {F : Fp} {K : Nat} {o : OpV} {h : HnV} {d : HdV}
theorem RfI.word (I : RfI w g x F) {i : Nat} {p : RgV × Bool} (hi : x.rgs[i]? = some p) {k : Nat} {L : List Int} (hL : p.1.words[k]? = some L) {j : Nat} {y : Int} (hj : L[j]? = some y) :
    ∃ b c bw cw g2 c2, ldC (hp w g) (0 + 9) = some (.slice (some ⟨b, 0, none⟩) x.rgs.length c) ∧ ldC (hp w b) (i * 8 + 6) = some (.slice (some ⟨bw, 0, none⟩) p.1.words.length cw) ∧ ldC (hp w bw) k = some (.slice (some ⟨g2, 0, none⟩) L.length c2) ∧ ldC (hp w g2) j = some (.int .u64 y) ∧
      ∀ z, okC (hp w g2) (j + 1) = true ∧ ∃ F', RfI (put w g2 ((getC (hp w g2)).setIfInBounds j (.int .u64 z)) (getE (hp w g2))) g { x with rgs := x.rgs.set i ({ p.1 with words := p.1.words.set k (L.set j z) }, p.2) } F' ∧ UpdP F F' w (put w g2 ((getC (hp w g2)).setIfInBounds j (.int .u64 z)) (getE (hp w g2))) := by
  have hP0 : (x.rgs.flatMap rrT)[i * 8 + 6]? = some (wordsT p.1.words) := flatM_get rrT_len x.rgs i p hi 6 (by omega)
  obtain ⟨b, c, v, Fk, hl, hbg, hFb, hsub, _, _, hld, hP, hres, _⟩ := isAt.row I (good_rf x) (k := 9) (e' := 138) (z := 8) (n := x.rgs.length) (Qs := x.rgs.flatMap rrT) rfl (good_rrL x.rgs) hP0
  have hPw : (p.1.words.map wordT)[k]? = some (wordT L) := by rw [List.getElem?_map, hL]; rfl
  obtain ⟨bw, cw, v2, Fk2, hx2, _, _, _, hld2, hP2, hres2, _⟩ := isRow.cell hP (fun P hP => by obtain ⟨l, _, rfl⟩ := List.mem_map.1 hP; exact good_word l) hPw
  have hPu : ((u64s L).map isV)[j]? = some (isV (.int .u64 y)) := by rw [u64s, List.map_map, List.getElem?_map, hj]; rfl
  obtain ⟨g2, c2, v3, Fk3, hx3, _, _, _, hld3, hv3, _, hst⟩ := isRow.cell hP2 (good_ints (u64s_int L)) hPu
  refine ⟨b, c, bw, cw, g2, c2, hl, by rw [← hx2]; exact hld, by rw [← hx3]; exact hld2, by rw [hld3, hv3.1], fun z => ?_⟩
  obtain ⟨ok, F1, hrow, hupd⟩ := hst w none' (isV (.int .u64 z)) (.int .u64 z) (UpdP.none hv3.2 w) (good_int _ _) ⟨rfl, fun _ h => h⟩
  have hset : ((u64s L).map isV).set j (isV (.int .u64 z)) = (u64s (L.set j z)).map isV := by simp [u64s, List.map_set]
  rw [hset] at hrow
  have hrow' : wordT (L.set j z) (put w g2 ((getC (hp w g2)).setIfInBounds j (.int .u64 z)) (getE (hp w g2))) F1 v2 := by rw [wordT, List.length_set]; exact hrow
  obtain ⟨F2, hrow2, hupd2⟩ := hres2 _ F1 (wordT (L.set j z)) hupd hrow'
  rw [← List.map_set] at hrow2
  have hrow2' : wordsT (p.1.words.set k (L.set j z)) (put w g2 ((getC (hp w g2)).setIfInBounds j (.int .u64 z)) (getE (hp w g2))) F2 v := by rw [wordsT, List.length_set]; exact hrow2
  obtain ⟨F3, h1, h2⟩ := hres _ F2 (wordsT (p.1.words.set k (L.set j z))) hupd2 hrow2'
  rw [flatM_setP rrT_len (x' := ({ p.1 with words := p.1.words.set k (L.set j z) }, p.2)) (by omega) rfl hi] at h1
  have e : rrsT (x.rgs.set i ({ p.1 with words := p.1.words.set k (L.set j z) }, p.2)) = isRow 138 8 x.rgs.length ((x.rgs.set i ({ p.1 with words := p.1.words.set k (L.set j z) }, p.2)).flatMap rrT) := by rw [rrsT, List.length_set]
  rw [← e] at h1
  exact ⟨ok, F3, h1, h2⟩
theorem ObjAt.rf {i : Nat} {r : RgV} {k : Nat} {L : List Int} {j : Nat} {n : Int} (O : ObjAt m h n i r k L j) : (toRf m).rgs[i]? = some (r, isLv m r.nm) := by rw [rgs_rf, O.ri]; rfl
theorem hands_rf {n : Int} (hd : m.hands[n.toNat]? = some d) : (toRf m).holds[n.toNat]? = some d.holds ∧ (toRf m).depth[n.toNat]? = some d.depth := by simp [toRf, hd]
theorem l_rTouch2 {L : World → Prop} (hc : Chg [] W w) {c8 : Array Value} (h10 : hp w g10 = some (.cells c8 32)) (hs : c8.size = 8) (n10 : W.heap.size ≤ g10) :
    P100_2 (.pointer (some ⟨g10, 0, none⟩)) w fun v w' => v = .agg (rsC noR).toArray ∧ Chg [] W w' := by
  apply L100_2_ok
  simp -implicitDefEqProofs only [L100_2, bdr_, wpB_some']
  rw [st_res h10 hs, ld_res (put_same (blk_lt h10) _ _), wpB_some']
  exact ⟨rfl, hc.put (.inr n10) _ _⟩
set_option maxHeartbeats 1000000 in
theorem l_rTouch0 (hc : Chg [] W w) {c8 : Array Value} (h10 : hp w g10 = some (.cells c8 32)) (hs : c8.size = 8) (n10 : W.heap.size ≤ g10) (h8 : hp w g8 = some (.cells (opC o).toArray 29)) (h6 : 6 ≤ o.1) (h9 : o.1 ≤ 9) :
    P100_0 (.pointer (some ⟨g8, 0, none⟩)) (.pointer (some ⟨g10, 0, none⟩)) (.int .u64 (wordV m h o.2.2.2.1)) w fun v w' => v = .agg (rsC (mustB m o h)).toArray ∧ Chg [] W w' := by
  apply L100_0_ok
  have one : ∀ t : Bool, t = decide (o.1 = 6 ∨ o.1 = 8) → P100_1 (.pointer (some ⟨g8, 0, none⟩)) (.pointer (some ⟨g10, 0, none⟩)) (.int .u64 (wordV m h o.2.2.2.1)) (.int .i64 o.1) (.bool t) w fun v w' => v = .agg (rsC (mustB m o h)).toArray ∧ Chg [] W w' := by
    intro t ht
    apply L100_1_ok
    by_cases k68 : o.1 = 6 ∨ o.1 = 8
    · have ht' : t = true := by rw [ht]; exact decide_eq_true k68
      subst ht'
      have e : mustB m o h = (0, noH, 0, wordV m h o.2.2.2.1) := by rw [mustB, if_pos k68]
      have hb : pureRun Try.prog (Instr.build 32 #[(3, .int .u64 (wordV m h o.2.2.2.1))]) = some (.agg (rsC (0, noH, 0, wordV m h o.2.2.2.1)).toArray) := bd_32_3
      simp -implicitDefEqProofs only [L100_1, zS, hb]
      rw [st_res h10 hs, ld_res (put_same (blk_lt h10) _ _), wpB_some', e]
      exact ⟨rfl, hc.put (.inr n10) _ _⟩
    have ht' : t = false := by rw [ht]; exact decide_eq_false k68
    subst ht'
    by_cases k9 : o.1 = 9
    · have q9 : (o.1 == 9) = true := by rw [k9]; rfl
      by_cases hv : wordV m h o.2.2.2.1 = o.2.2.2.2.1
      · have ev : (wordV m h o.2.2.2.1 == o.2.2.2.2.1) = true := by rw [hv]; exact beq_self_eq_true _
        have e : mustB m o h = (0, noH, 1, 0) := by rw [mustB, if_neg k68, if_pos k9, if_pos hv]
        have hb : pureRun Try.prog (Instr.build 32 #[(2, .int .i64 1)]) = some (.agg (rsC (0, noH, 1, 0)).toArray) := bd_32_2
        simp -implicitDefEqProofs only [L100_1, zS, q9, fa_29_4, ld_22, h8, op_4, ev, hb]
        rw [st_res h10 hs, ld_res (put_same (blk_lt h10) _ _), wpB_some', e]
        exact ⟨rfl, hc.put (.inr n10) _ _⟩
      · have e : mustB m o h = noR := by rw [mustB, if_neg k68, if_pos k9, if_neg hv]; rfl
        simp -implicitDefEqProofs only [L100_1, zS, q9, fa_29_4, ld_22, h8, op_4, eqf hv]
        rw [e]
        exact l_rTouch2 (L := fun _ => True) hc h10 hs n10
    · have e : mustB m o h = noR := by rw [mustB, if_neg k68, if_neg k9, if_neg (by omega)]
      simp -implicitDefEqProofs only [L100_1, zS, eqf k9]
      rw [e]
      exact l_rTouch2 (L := fun _ => True) hc h10 hs n10
  by_cases k6 : o.1 = 6
  · have q : (o.1 == 6) = true := by rw [k6]; rfl
    have f := one true (by rw [k6]; rfl)
    simp -implicitDefEqProofs only [L100_0, zS, fa_29_0, ld_3, h8, op_0, q]
    exact f
  · have f := one (o.1 == 8) (by
      by_cases k8 : o.1 = 8
      · rw [k8]; rfl
      · rw [eqf k8]; exact (decide_eq_false (by omega)).symm)
    simp -implicitDefEqProofs only [L100_0, zS, fa_29_0, ld_3, h8, op_0, eqf k6]
    exact f
def touchV (m : MdV) (d : HdV) (o : OpV) (h : HnV) : RsV := if holdsV d h = false then codeR 4 else if h.2.2.2.2 ≤ o.2.2.2.1 then codeR 5 else mustB m o h
set_option maxHeartbeats 4000000 in
theorem c_rTouch (I : RfI w g (toRf m) F) (Wm : Wf m K) (hK : K ≤ 1000000) {n : Int} (n0 : 0 ≤ n) (hd : m.hands[n.toNat]? = some d) (hk : knownV m h 2 = true) (o0 : 0 ≤ o.2.2.2.1) (o6 : 6 ≤ o.1) (o9 : o.1 ≤ 9) {i : Nat} (hf : findR m.rgs (nmOf h) = some i) :
    CallR Try.prog 100 [.pointer (some ⟨g, 0, none⟩), .int .i64 n, .int .i64 i, .agg (opC o).toArray, .agg (hnC h).toArray] w fun v w' => v = .agg (rsC (touchV m d o h)).toArray ∧ Chg [] w w' := by
  apply F100_ok
  simp -implicitDefEqProofs only [F100, effv_box, cells_agg, al_32, alloc_size]
  generalize hw : ((w.alloc (.cells (opC o).toArray 29)).alloc _).alloc _ = w1
  have c1 : Chg [] w w1 := by rw [← hw]; exact (((Chg.refl _ _).alloc _).alloc _).alloc _
  have b8 : hp w1 w.heap.size = some (.cells (opC o).toArray 29) := by rw [← hw, alloc_heap, alloc_size, alloc_size, if_neg (by omega), alloc_heap, alloc_size, if_neg (by omega), alloc_heap, if_pos rfl]
  have b9 : hp w1 (w.heap.size + 1) = some (.cells (hnC h).toArray 27) := by rw [← hw, alloc_heap, alloc_size, alloc_size, if_neg (by omega), alloc_heap, alloc_size, if_pos rfl]
  have b10 : hp w1 (w.heap.size + 1 + 1) = some (.cells (rsC noR).toArray 32) := by rw [← hw, alloc_heap, alloc_size, alloc_size, if_pos rfl]; rfl
  clear hw
  obtain ⟨s, gn, r, dd, hh, R⟩ := (I.keep c1).rd
  have e0 : (hnC h).toArray[0 + 0]? = some (.int .i64 h.1) := rfl
  have e1 : (hnC h).toArray[0 + 1]? = some (.int .i64 h.2.1) := rfl
  have e2 : (hnC h).toArray[0 + 2]? = some (.int .i64 h.2.2.1) := rfl
  have e3 : (hnC h).toArray[0 + 3]? = some (.int .i64 h.2.2.2.1) := rfl
  have e4 : (hnC h).toArray[0 + 4]? = some (.int .i64 h.2.2.2.2) := rfl
  have hD := Wm.hd d (List.mem_of_getElem? hd)
  simp -implicitDefEqProofs only [zS, fa_27_0, fa_27_1, ld_3, b9, e0, e1]
  refine (c_rHas R n0 (hands_rf hd).1 (by omega) (nmOf h)).step ?_
  have ht : decide (nmOf h ∈ d.holds) = holdsV d h := rfl
  rw [ht]
  cases hh2 : holdsV d h with
  | false =>
    have tv : touchV m d o h = codeR 4 := by rw [touchV, if_pos hh2]
    simp -implicitDefEqProofs only [zS, bdr_0]
    rw [st_res b10 rfl, ld_res (put_same (blk_lt b10) _ _), wpB_some', tv]
    exact ⟨rfl, c1.put (.inr (by omega)) _ _⟩
  | true =>
    by_cases n1 : h.2.2.2.2 ≤ o.2.2.2.1
    · have tv : touchV m d o h = codeR 5 := by rw [touchV, if_neg (by rw [hh2]; simp), if_pos n1]
      simp -implicitDefEqProofs only [zS, fa_29_3, fa_27_4, ld_3, b8, b9, op_3, e4, bp_geq, ge_iff_le, n1, bdr_0]
      rw [st_res b10 rfl, ld_res (put_same (blk_lt b10) _ _), wpB_some', tv]
      exact ⟨rfl, c1.put (.inr (by omega)) _ _⟩
    have tv : touchV m d o h = mustB m o h := by rw [touchV, if_neg (by rw [hh2]; simp), if_neg n1]
    rw [tv]
    obtain ⟨i', rg, k, L, j, O⟩ := obj_at Wm hk o0 (by omega)
    have hii : i' = i := by have := O.fi; rw [hf] at this; exact (Option.some.inj this).symm
    subst hii
    have cd : Chg [] w1 w1.drew := (Chg.refl _ _).drew
    have W1 := Wm.w1
    have W2 := Wm.w2
    -- what stands where, whatever comes behind
    have all : ∀ w2, Chg [] w1 w2 → ∃ b c bw cw g2 c2, ldC (hp w2 g) (0 + 9) = some (.slice (some ⟨b, 0, none⟩) (toRf m).rgs.length c) ∧ ldC (hp w2 b) (i' * 8 + 6) = some (.slice (some ⟨bw, 0, none⟩) rg.words.length cw) ∧ ldC (hp w2 bw) k = some (.slice (some ⟨g2, 0, none⟩) L.length c2) ∧ ldC (hp w2 g2) j = some (.int .u64 (wordV m h o.2.2.2.1)) := fun w2 c2 => by
      obtain ⟨b, c, bw, cw, g2, c2', p1, p2, p3, p4, _⟩ := (I.keep (c1.trans c2)).word O.rf O.wk O.val
      exact ⟨b, c, bw, cw, g2, c2', p1, p2, p3, p4⟩
    obtain ⟨b, c, bw, cw, g2, c2, p1, p2, p3, p4⟩ := all w1 (Chg.refl _ _)
    obtain ⟨Fr, hFr⟩ := (R.keep cd).rT
    obtain ⟨b', c', hx, cv, wv, ov, Q⟩ := rr_at hFr O.rf
    have hrl := R.rl
    rw [p1, hx] at hrl
    cases hrl
    obtain ⟨A, cc, rfl, hRc⟩ := ints_sh Q.cT
    have hil : i' < (toRf m).rgs.length := (List.getElem?_eq_some_iff.1 O.rf).1
    have ia := ia_124 (b := b) (p := 0) (n := (toRf m).rgs.length) (c := c) (j := .i64) (i := (i' : Int)) (by omega) (by omega)
    rw [Int.toNat_natCast, Nat.zero_add] at ia
    have hlw := (List.getElem?_eq_some_iff.1 O.wk).1
    have iaw := ia_96 (b := bw) (p := 0) (n := rg.words.length) (c := cw) (j := .i64) (i := (k : Int)) (by omega) (by omega)
    rw [Int.toNat_natCast, Nat.zero_add, Nat.mul_one] at iaw
    have hjl := O.jl
    have hwl := O.wl
    have iau := ia_112 (b := g2) (p := 0) (n := L.length) (c := c2) (j := .i64) (i := (j : Int)) (by omega) (by omega)
    rw [Int.toNat_natCast, Nat.zero_add, Nat.mul_one] at iau
    have hcl : rg.chunks.length ≤ 1000000 := Nat.le_trans (Wm.rg rg (List.mem_of_getElem? O.ri)).cl hK
    have cat := c_rAt (w := w1.drew) (p := (rg, isLv m rg.nm)) (c := cc) (wv := wv) (ov := ov) hRc hcl h.2.2.1
    rw [show ixOf (rg, isLv m rg.nm).1.chunks h.2.2.1 = (k : Int) from O.ix] at cat
    have sz := c1.size
    simp -implicitDefEqProofs only [zS, fa_29_3, fa_27_2, fa_27_3, fa_27_4, fa_126_4, fa_138_6, ld_124, ld_96, ld_3, b8, b9, op_3, e2, e3, e4, bp_geq, ge_iff_le, n1, p1, p2, ia, ld_rg Q, bp_add, O.jn, wrapi (n := (j : Int)) (by omega) (by omega)]
    repeat' (with_reducible apply And.intro)
    all_goals
      refine cat.mono ?_
      rintro _ w3 ⟨rfl, c3⟩
      have c13 := cd.trans c3
      have t1 := chg_ld c13 p1
      have t2 := chg_ld c13 p2
      have t3 := chg_ld c13 p3
      have t4 := chg_ld c13 p4
      have t8 := c13.at b8 (by simp)
      have t9 := c13.at b9 (by simp)
      have t10 := c13.at b10 (by simp)
      simp -implicitDefEqProofs only [zS, fa_138_6, ld_124, ld_96, ld_112, ld_22, ld_3, t1, t2, t3, t4, t8, t9, op_3, e3, ia, iaw, bp_add, O.jn, wrapi (n := (j : Int)) (by omega) (by omega), iau]
      exact l_rTouch0 (c1.trans c13) t10 rfl (by omega) t8 o6 o9
end
end Go.Proofs.Yteapggpkgfiacaa

namespace Go.Proofs.Yteapggpkgfiacaa
open Go Ev Go.RowKit
set_option linter.unusedSimpArgs false
set_option linter.unusedVariables false
set_option maxRecDepth 10000

section
variable {W w : World} {g g6 g7 g8 g10 : Nat} {m : MdV} {F : Fp} {K : Nat} {o : OpV} {h : HnV} {d : HdV} {n : Int}
theorem l_rMust1 (x : Int) (hc : Chg [] W w) {c8 : Array Value} (h8 : hp w g8 = some (.cells c8 32)) (hs : c8.size = 8) (n8 : W.heap.size ≤ g8) :
    P80_1 (.pointer (some ⟨g8, 0, none⟩)) (.int .i64 x) w fun v w' => v = .tuple #[.agg (rsC (codeR x)).toArray, .bool true] ∧ Chg [] W w' := by
  apply L80_1_ok
  simp -implicitDefEqProofs only [L80_1, bdr_0, wpB_some']
  rw [st_res h8 hs, ld_res (put_same (blk_lt h8) _ _), wpB_some']
  exact ⟨rfl, hc.put (.inr n8) _ _⟩
theorem refuses_eq (hk : ofK o.1 = 0 ∨ knownV m h (ofK o.1) = true) : refusesV m d o h = codeV m.c.2.2.1 d (holdsV d h) (staleV m h) o h.2.2.2.2 := by
  rw [refusesV, if_neg]
  rintro ⟨h1, h2⟩
  rcases hk with hk | hk
  · exact h1 hk
  · rw [hk] at h2; cases h2
theorem must_eq (hm : mayV m n o = true) (hd : m.hands[n.toNat]? = some d) : mustV m n o h = if refusesV m d o h ≠ 0 then (codeR (refusesV m d o h), true) else if o.1 = 1 ∨ o.1 = 2 then (noR, false) else (mustB m o h, true) := by
  rw [mustV, if_neg (by rw [hm]; simp), hd]
/-- a region's flag -/
theorem rf_flag (I : RfI w g (toRf m) F) {i : Nat} {r : RgV} (hi : m.rgs[i]? = some r) : ∃ b c, ldC (hp w g) (0 + 9) = some (.slice (some ⟨b, 0, none⟩) (toRf m).rgs.length c) ∧ (∃ cv wv ov, RrR w b (i * 8) (r, isLv m r.nm) cv wv ov) ∧ i < (toRf m).rgs.length := by
  obtain ⟨s, gn, rv, dd, hh, R⟩ := I.rd
  obtain ⟨Fr, hFr⟩ := R.rT
  have hx : (toRf m).rgs[i]? = some (r, isLv m r.nm) := by rw [rgs_rf, hi]; rfl
  obtain ⟨b, c, rfl, Q⟩ := rr_at hFr hx
  exact ⟨b, c, R.rl, Q, (List.getElem?_eq_some_iff.1 hx).1⟩
theorem out_res (r : RsV) (b : Bool) {w2 : World} {P : RsV × Bool} {c8 : Array Value} (hc : Chg [] W w2) (h82 : hp w2 g8 = some (.cells c8 32)) (hs : c8.size = 8) (n8 : W.heap.size ≤ g8) (e : P = (r, b)) :
    effu Try.prog (Instr.storeAt 32 (.pointer (some ⟨g8, 0, none⟩)) (.agg (rsC r).toArray)) w2 fun w => wpB (ldv Try.prog 32 (.pointer (some ⟨g8, 0, none⟩)) w) fun r8 => Value.tuple #[r8, .bool b] = .tuple #[.agg (rsC P.1).toArray, .bool P.2] ∧ Chg [] W w := by
  rw [st_res h82 hs, ld_res (put_same (blk_lt h82) _ _), wpB_some', e]
  exact ⟨rfl, hc.put (.inr n8) _ _⟩
set_option maxHeartbeats 4000000 in
theorem l_rMust0 {nn : Nat} (hc : Chg [] W w) (I : RfI w g (toRf m) F) (Wm : Wf m K) (hK : K ≤ 1000000) (h6 : hp w g6 = some (.cells (opC o).toArray 29)) (h7 : hp w g7 = some (.cells (hnC h).toArray 27)) {c8 : Array Value} (h8 : hp w g8 = some (.cells c8 32)) (hs : c8.size = 8) (n8 : W.heap.size ≤ g8)
    (hm : mayV m nn o = true) (hd : m.hands[nn]? = some d) (hk : ofK o.1 = 0 ∨ knownV m h (ofK o.1) = true) {ix : Int} (hix : ofK o.1 ≠ 0 → ∃ i, findR m.rgs (nmOf h) = some i ∧ ix = i) :
    P80_0 (.pointer (some ⟨g, 0, none⟩)) (.int .i64 nn) (.pointer (some ⟨g6, 0, none⟩)) (.pointer (some ⟨g7, 0, none⟩)) (.pointer (some ⟨g8, 0, none⟩)) (.int .i64 ix) w fun v w' => v = .tuple #[.agg (rsC (mustV m nn o h).1).toArray, .bool (mustV m nn o h).2] ∧ Chg [] W w' := by
  apply L80_0_ok
  obtain ⟨n0, n1, o0⟩ := may_n hm
  obtain ⟨k1', k12'⟩ := may_k hm
  obtain ⟨s, gn, rv, dd, hh, R⟩ := I.rd
  have cd : Chg [] w w.drew := (Chg.refl _ _).drew
  have hd' : m.hands[(nn : Int).toNat]? = some d := hd
  have me := must_eq (h := h) hm hd'
  rw [refuses_eq hk] at me
  have hD := Wm.hd d (List.mem_of_getElem? hd)
  have h6d : hp w.drew g6 = some (.cells (opC o).toArray 29) := h6
  have h8d : hp w.drew g8 = some (.cells c8 32) := h8
  have hw2 : ldC (hp w g) (0 + 0 + 2) = some (.int .i64 m.c.2.2.1) := R.c 2 (by omega)
  obtain ⟨Ad, cd', hdv, hRd⟩ := ints_sh R.dT
  have hdl := R.dl
  rw [hdv] at hdl
  have hdd := (hands_rf hd').2
  rw [Int.toNat_natCast] at hdd
  obtain ⟨qd, qd1, qd2⟩ := int_at (c := cd') hRd hdd
  have cb : ∀ x, x ≠ 0 → codeV m.c.2.2.1 d (holdsV d h) (staleV m h) o h.2.2.2.2 = x → mustV m nn o h = (codeR x, true) := fun x hx e => by rw [me, e, if_pos hx]
  have op : codeV m.c.2.2.1 d (holdsV d h) (staleV m h) o h.2.2.2.2 = 0 → o.1 = 1 ∨ o.1 = 2 → mustV m nn o h = (noR, false) := fun e hx => by rw [me, e, if_neg (by simp), if_pos hx]
  have nb : ∀ r, mustB m o h = r → codeV m.c.2.2.1 d (holdsV d h) (staleV m h) o h.2.2.2.2 = 0 → ¬ (o.1 = 1 ∨ o.1 = 2) → mustV m nn o h = (r, true) := fun r e1 e2 hx => by
    rw [me, e2, if_neg (by simp), if_neg hx, e1]
  -- what is answered: a code
  have fin : ∀ (x : Int), mustV m nn o h = (codeR x, true) → P80_1 (.pointer (some ⟨g8, 0, none⟩)) (.int .i64 x) w fun v w' => v = .tuple #[.agg (rsC (mustV m nn o h).1).toArray, .bool (mustV m nn o h).2] ∧ Chg [] W w' := fun x e => by
    rw [e]; exact l_rMust1 x hc h8 hs n8
  by_cases k1 : o.1 = 1
  · have q : (o.1 == 1) = true := by rw [k1]; rfl
    have e := op (by rw [codeV, if_neg (by omega), if_neg (by omega), if_neg (by omega), if_neg (by omega), if_neg (by omega), if_neg (by omega)]) (.inl k1)
    simp -implicitDefEqProofs only [L80_0, zS, fa_29_0, ld_3, h6, op_0, q, bdr_]
    exact out_res noR false hc h8 hs n8 e
  -- a region's flag
  have flag : ofK o.1 ≠ 0 → ∃ i r b c, findR m.rgs (nmOf h) = some i ∧ ix = (i : Int) ∧ ldC (hp w g) (0 + 9) = some (.slice (some ⟨b, 0, none⟩) (toRf m).rgs.length c) ∧ pureRun Try.prog (Instr.indexAt 124 (.slice (some ⟨b, 0, none⟩) (toRf m).rgs.length c) (.int .i64 ix)) = some (.pointer (some ⟨b, i * 8, none⟩)) ∧
      m.rgs[i]? = some r ∧ ldC (hp w b) (i * 8 + 4) = some (.bool (isLv m (nmOf h))) ∧ ldC (hp w b) (i * 8 + 3) = some (.int .i64 r.off) := fun hof => by
    obtain ⟨i, hfi, rfl⟩ := hix hof
    obtain ⟨r, hri, hrn⟩ := findR_at hfi
    obtain ⟨b, c, hb, ⟨cv, wv, ov, Q⟩, hil⟩ := rf_flag I hri
    have ia := ia_124 (b := b) (p := 0) (n := (toRf m).rgs.length) (c := c) (j := .i64) (i := (i : Int)) (by omega) (by omega)
    rw [Int.toNat_natCast, Nat.zero_add] at ia
    exact ⟨i, r, b, c, hfi, rfl, hb, ia, hri, by rw [← hrn]; exact Q.c4, Q.c3⟩
  have stT : isLv m (nmOf h) = true → staleV m h = 0 := fun hl => by unfold staleV; exact if_pos hl
  have stF : isLv m (nmOf h) = false → staleV m h = 3 := fun hl => by rw [staleV, if_neg (by show ¬ isLv m (nmOf h) = true; rw [hl]; simp)]
  by_cases k2 : o.1 = 2
  · have q : (o.1 == 2) = true := by rw [k2]; rfl
    obtain ⟨i, r, b, c, hfi, rfl, hb, ia, hri, hfl, _⟩ := flag (by rw [show ofK o.1 = 1 by rw [k2]; rfl]; decide)
    have cvv : codeV m.c.2.2.1 d (holdsV d h) (staleV m h) o h.2.2.2.2 = if o.2.2.2.1 < 1 ∨ m.c.2.2.1 < o.2.2.2.1 then 5 else staleV m h := by rw [codeV, if_pos k2]
    by_cases a1 : o.2.2.2.1 < 1
    · have e := cb 5 (by decide) (by rw [cvv, if_pos (.inl a1)])
      simp -implicitDefEqProofs only [L80_0, zS, fa_29_0, fa_29_3, ld_3, h6, op_0, op_3, eqf k1, q, a1, bdr_0]
      exact out_res (codeR 5) true hc.drew h8d hs n8 e
    by_cases a2 : m.c.2.2.1 < o.2.2.2.1
    · have e := cb 5 (by decide) (by rw [cvv, if_pos (.inr a2)])
      simp -implicitDefEqProofs only [L80_0, zS, fa_29_0, fa_29_3, ld_3, h6, op_0, op_3, eqf k1, q, a1, fa_126_0, fa_25_2, hw2, gt_iff_lt, a2, bdr_0]
      exact out_res (codeR 5) true hc.drew h8d hs n8 e
    have cv2 : codeV m.c.2.2.1 d (holdsV d h) (staleV m h) o h.2.2.2.2 = staleV m h := by rw [cvv, if_neg (by omega)]
    cases hl : isLv m (nmOf h) with
    | true =>
      have e := op (by rw [cv2, stT hl]) (.inr k2)
      rw [hl] at hfl
      simp -implicitDefEqProofs only [L80_0, zS, fa_29_0, fa_29_3, ld_3, h6, op_0, op_3, eqf k1, q, a1, fa_126_0, fa_126_4, fa_25_2, hw2, gt_iff_lt, a2, ld_124, hb, ia, fa_138_4, ld_4, hfl, bdr_]
      exact out_res noR false hc.drew h8d hs n8 e
    | false =>
      have e := cb 3 (by decide) (by rw [cv2, stF hl])
      rw [hl] at hfl
      simp -implicitDefEqProofs only [L80_0, zS, fa_29_0, fa_29_3, ld_3, h6, op_0, op_3, eqf k1, q, a1, fa_126_0, fa_126_4, fa_25_2, hw2, gt_iff_lt, a2, ld_124, hb, ia, fa_138_4, ld_4, hfl, bdr_0]
      exact out_res (codeR 3) true hc.drew h8d hs n8 e
  have k12 : ¬ (o.1 = 1 ∨ o.1 = 2) := by omega
  have cno : (noR : RsV) = codeR 0 := rfl
  by_cases k3 : o.1 = 3
  · have q : (o.1 == 3) = true := by rw [k3]; rfl
    have mb : mustB m o h = codeR 0 := by rw [mustB, if_neg (by omega), if_neg (by omega), if_neg (by omega)]; rfl
    have cvv : codeV m.c.2.2.1 d (holdsV d h) (staleV m h) o h.2.2.2.2 = if d.depth = 15 then 8 else 0 := by rw [codeV, if_neg k2, if_pos k3]
    by_cases a1 : d.depth = 15
    · have e : (d.depth == 15) = true := by rw [a1]; rfl
      have f := fin 8 (cb 8 (by decide) (by rw [cvv, if_pos a1]))
      simp -implicitDefEqProofs only [L80_0, zS, fa_29_0, ld_3, h6, op_0, eqf k1, eqf k2, q, fa_126_5, ld_36, hdl, qd1, qd2, e]
      exact f
    · have f := fin 0 (nb _ mb (by rw [cvv, if_neg a1]) k12)
      simp -implicitDefEqProofs only [L80_0, zS, fa_29_0, ld_3, h6, op_0, eqf k1, eqf k2, q, fa_126_5, ld_36, hdl, qd1, qd2, eqf a1]
      exact f
  by_cases k4 : o.1 = 4
  · have q : (o.1 == 4) = true := by rw [k4]; rfl
    have mb : mustB m o h = codeR 0 := by rw [mustB, if_neg (by omega), if_neg (by omega), if_neg (by omega)]; rfl
    have cvv : codeV m.c.2.2.1 d (holdsV d h) (staleV m h) o h.2.2.2.2 = if d.depth = 0 then 4 else 0 := by rw [codeV, if_neg k2, if_neg k3, if_pos k4]
    by_cases a1 : d.depth = 0
    · have e : (d.depth == 0) = true := by rw [a1]; rfl
      have f := fin 4 (cb 4 (by decide) (by rw [cvv, if_pos a1]))
      simp -implicitDefEqProofs only [L80_0, zS, fa_29_0, ld_3, h6, op_0, eqf k1, eqf k2, eqf k3, q, fa_126_5, ld_36, hdl, qd1, qd2, e]
      exact f
    · have f := fin 0 (nb _ mb (by rw [cvv, if_neg a1]) k12)
      simp -implicitDefEqProofs only [L80_0, zS, fa_29_0, ld_3, h6, op_0, eqf k1, eqf k2, eqf k3, q, fa_126_5, ld_36, hdl, qd1, qd2, eqf a1]
      exact f
  by_cases k5 : o.1 = 5
  · have q : (o.1 == 5) = true := by rw [k5]; rfl
    have mb : mustB m o h = codeR 0 := by rw [mustB, if_neg (by omega), if_neg (by omega), if_neg (by omega)]; rfl
    have cvv : codeV m.c.2.2.1 d (holdsV d h) (staleV m h) o h.2.2.2.2 = if d.depth = 0 then 4 else if holdsV d h then 0 else if d.holds.length = 8 then 8 else staleV m h := by rw [codeV, if_neg k2, if_neg k3, if_neg k4, if_pos k5]
    obtain ⟨i, r, b, c, hfi, rfl, hb, ia, hri, hfl, _⟩ := flag (by rw [show ofK o.1 = 3 by rw [k5]; rfl]; decide)
    have e0 : (hnC h).toArray[0 + 0]? = some (.int .i64 h.1) := rfl
    have e1 : (hnC h).toArray[0 + 1]? = some (.int .i64 h.2.1) := rfl
    by_cases a1 : d.depth = 0
    · have e : (d.depth == 0) = true := by rw [a1]; rfl
      have f := fin 4 (cb 4 (by decide) (by rw [cvv, if_pos a1]))
      simp -implicitDefEqProofs only [L80_0, zS, fa_29_0, ld_3, h6, op_0, eqf k1, eqf k2, eqf k3, eqf k4, q, fa_126_5, ld_36, hdl, qd1, qd2, e]
      exact f
    rw [if_neg a1] at cvv
    simp -implicitDefEqProofs only [L80_0, zS, fa_29_0, ld_3, h6, op_0, eqf k1, eqf k2, eqf k3, eqf k4, q, fa_126_5, ld_36, hdl, qd1, qd2, eqf a1, fa_27_0, fa_27_1, h7, e0, e1]
    refine (c_rHas R n0 (hands_rf hd').1 (by omega) (nmOf h)).step ?_
    rw [show decide (nmOf h ∈ d.holds) = holdsV d h from rfl]
    cases hv : holdsV d h with
    | true =>
      have f := fin 0 (nb _ mb (by rw [cvv, hv]; rfl) k12)
      simp -implicitDefEqProofs only [zS]
      exact f
    | false =>
      rw [if_neg (by rw [hv]; simp)] at cvv
      obtain ⟨Fh, hFh⟩ := R.hT
      obtain ⟨bh, ch, vh, rfl, hvh, hkh⟩ := hold_at hFh (hands_rf hd').1
      obtain ⟨Ah, cch, rfl, _⟩ := keys_sh hkh
      have hnl := (List.getElem?_eq_some_iff.1 (hands_rf hd').1).1
      have iah := ia_123 (b := bh) (p := 0) (n := (toRf m).holds.length) (c := ch) (j := .i64) (i := (nn : Int)) (by omega) (by omega)
      rw [Nat.zero_add, Nat.mul_one] at iah
      by_cases a8 : d.holds.length = 8
      · have e : ((d.holds.length : Int) == 8) = true := by rw [a8]; rfl
        have f := fin 8 (cb 8 (by decide) (by rw [cvv, if_pos a8]))
        simp -implicitDefEqProofs only [zS, fa_126_6, ld_123, R.hl, iah, ld_139, hvh, len_139, e]
        exact f
      · have e : ((d.holds.length : Int) == 8) = false := beq_eq_false_iff_ne.2 (by omega)
        rw [if_neg a8] at cvv
        cases hl : isLv m (nmOf h) with
        | true =>
          have f := fin 0 (nb _ mb (by rw [cvv, stT hl]) k12)
          rw [hl] at hfl
          simp -implicitDefEqProofs only [zS, fa_126_6, fa_126_4, ld_123, R.hl, iah, ld_139, hvh, len_139, e, ld_124, hb, ia, fa_138_4, ld_4, hfl]
          exact f
        | false =>
          have f := fin 3 (cb 3 (by decide) (by rw [cvv, stF hl]))
          rw [hl] at hfl
          simp -implicitDefEqProofs only [zS, fa_126_6, fa_126_4, ld_123, R.hl, iah, ld_139, hvh, len_139, e, ld_124, hb, ia, fa_138_4, ld_4, hfl]
          exact f
  by_cases k10 : o.1 = 10
  · have q : (o.1 == 10) = true := by rw [k10]; rfl
    have mb : mustB m o h = codeR 0 := by rw [mustB, if_neg (by omega), if_neg (by omega), if_neg (by omega)]; rfl
    have cvv : codeV m.c.2.2.1 d (holdsV d h) (staleV m h) o h.2.2.2.2 = staleV m h := by rw [codeV, if_neg k2, if_neg k3, if_neg k4, if_neg k5, if_neg (by omega), if_pos (.inl k10)]
    obtain ⟨i, r, b, c, hfi, rfl, hb, ia, hri, hfl, _⟩ := flag (by rw [show ofK o.1 = 1 by rw [k10]; rfl]; decide)
    cases hl : isLv m (nmOf h) with
    | true =>
      have f := fin 0 (nb _ mb (by rw [cvv, stT hl]) k12)
      rw [hl] at hfl
      simp -implicitDefEqProofs only [L80_0, zS, fa_29_0, ld_3, h6, op_0, eqf k1, eqf k2, eqf k3, eqf k4, eqf k5, q, fa_126_4, ld_124, hb, ia, fa_138_4, ld_4, hfl]
      exact f
    | false =>
      have f := fin 3 (cb 3 (by decide) (by rw [cvv, stF hl]))
      rw [hl] at hfl
      simp -implicitDefEqProofs only [L80_0, zS, fa_29_0, ld_3, h6, op_0, eqf k1, eqf k2, eqf k3, eqf k4, eqf k5, q, fa_126_4, ld_124, hb, ia, fa_138_4, ld_4, hfl]
      exact f
  by_cases k12 : o.1 = 12
  · have q : (o.1 == 12) = true := by rw [k12]; rfl
    have cvv : codeV m.c.2.2.1 d (holdsV d h) (staleV m h) o h.2.2.2.2 = staleV m h := by rw [codeV, if_neg k2, if_neg k3, if_neg k4, if_neg k5, if_neg (by omega), if_pos (.inr k12)]
    obtain ⟨i, r, b, c, hfi, rfl, hb, ia, hri, hfl, hof⟩ := flag (by rw [show ofK o.1 = 1 by rw [k12]; rfl]; decide)
    have mb : mustB m o h = (0, noH, r.off, 0) := by
      rw [mustB, if_neg (by omega), if_neg (by omega), if_pos k12, rgOf, hfi]
      simp only [Option.bind_some, hri]
    have hb2 : pureRun Try.prog (Instr.build 32 #[(2, .int .i64 r.off)]) = some (.agg (rsC (0, noH, r.off, 0)).toArray) := bd_32_2
    cases hl : isLv m (nmOf h) with
    | true =>
      have e := nb _ mb (by rw [cvv, stT hl]) (by omega)
      rw [hl] at hfl
      simp -implicitDefEqProofs only [L80_0, zS, fa_29_0, ld_3, h6, op_0, eqf k1, eqf k2, eqf k3, eqf k4, eqf k5, eqf k10, q, fa_126_4, ld_124, hb, ia, fa_138_4, fa_138_3, ld_4, hfl, hof, hb2]
      exact out_res (0, noH, r.off, 0) true hc h8 hs n8 e
    | false =>
      have e := cb 3 (by decide) (by rw [cvv, stF hl])
      rw [hl] at hfl
      simp -implicitDefEqProofs only [L80_0, zS, fa_29_0, ld_3, h6, op_0, eqf k1, eqf k2, eqf k3, eqf k4, eqf k5, eqf k10, q, fa_126_4, ld_124, hb, ia, fa_138_4, ld_4, hfl, bdr_0]
      exact out_res (codeR 3) true hc h8 hs n8 e
  by_cases k11 : o.1 = 11
  · have q : (o.1 == 11) = true := by rw [k11]; rfl
    have mb : mustB m o h = codeR 0 := by rw [mustB, if_neg (by omega), if_neg (by omega), if_neg (by omega)]; rfl
    have f := fin 0 (nb _ mb (by rw [codeV, if_neg k2, if_neg k3, if_neg k4, if_neg k5, if_neg (by omega), if_neg (by omega)]) (by omega))
    simp -implicitDefEqProofs only [L80_0, zS, fa_29_0, ld_3, h6, op_0, eqf k1, eqf k2, eqf k3, eqf k4, eqf k5, eqf k10, eqf k12, q]
    exact f
  · have k6 : 6 ≤ o.1 := by omega
    have k9 : o.1 ≤ 9 := by omega
    have eo : ofK o.1 = 2 := by rw [ofK, if_neg (by omega), if_pos ⟨k6, k9⟩]
    obtain ⟨i, r, b, c, hfi, rfl, hb, ia, hri, hfl, hof⟩ := flag (by rw [eo]; decide)
    have hkn : knownV m h 2 = true := by
      rcases hk with hk | hk
      · rw [eo] at hk; omega
      · rw [eo] at hk; exact hk
    have cvv : codeV m.c.2.2.1 d (holdsV d h) (staleV m h) o h.2.2.2.2 = if holdsV d h = false then 4 else if h.2.2.2.2 ≤ o.2.2.2.1 then 5 else 0 := by rw [codeV, if_neg k2, if_neg k3, if_neg k4, if_neg k5, if_pos ⟨k6, k9⟩]
    have e : mustV m nn o h = (touchV m d o h, true) := by
      unfold touchV
      by_cases b1 : holdsV d h = false
      · rw [if_pos b1]; exact cb 4 (by decide) (by rw [cvv, if_pos b1])
      · rw [if_neg b1]
        by_cases b2 : h.2.2.2.2 ≤ o.2.2.2.1
        · rw [if_pos b2]; exact cb 5 (by decide) (by rw [cvv, if_neg b1, if_pos b2])
        · rw [if_neg b2]; exact nb _ rfl (by rw [cvv, if_neg b1, if_neg b2]) (by omega)
    have ldo := ldv_whole (t := 29) (c := (opC o).toArray) ag_29 (show (Try.prog.info? 29).map (·.size) = some (opC o).toArray.size from sz_29) h6
    simp -implicitDefEqProofs only [L80_0, zS, fa_29_0, ld_3, h6, op_0, eqf k1, eqf k2, eqf k3, eqf k4, eqf k5, eqf k10, eqf k12, eqf k11, ldo, ld_hn h7]
    refine (c_rTouch I Wm hK n0 hd' hkn o0 k6 k9 hfi).mono ?_
    rintro _ w2 ⟨rfl, c2⟩
    exact out_res (touchV m d o h) true (hc.trans c2) (c2.at h8 (by simp)) hs n8 e
set_option maxHeartbeats 1000000 in
theorem c_rMust (I : RfI w g (toRf m) F) (Wm : Wf m K) (hK : K ≤ 1000000) {nn : Nat} (hm : mayV m nn o = true) (h : HnV) :
    CallR Try.prog 80 [.pointer (some ⟨g, 0, none⟩), .int .i64 nn, .agg (opC o).toArray, .agg (hnC h).toArray] w fun v w' => v = .tuple #[.agg (rsC (mustV m nn o h).1).toArray, .bool (mustV m nn o h).2] ∧ Chg [] w w' := by
  apply F80_ok
  obtain ⟨d, hd⟩ := may_hd hm
  simp -implicitDefEqProofs only [F80, effv_box, cells_agg, al_32, alloc_size]
  generalize hw : ((w.alloc (.cells (opC o).toArray 29)).alloc _).alloc _ = w1
  have c1 : Chg [] w w1 := by rw [← hw]; exact (((Chg.refl _ _).alloc _).alloc _).alloc _
  have b6 : hp w1 w.heap.size = some (.cells (opC o).toArray 29) := by rw [← hw, alloc_heap, alloc_size, alloc_size, if_neg (by omega), alloc_heap, alloc_size, if_neg (by omega), alloc_heap, if_pos rfl]
  have b7 : hp w1 (w.heap.size + 1) = some (.cells (hnC h).toArray 27) := by rw [← hw, alloc_heap, alloc_size, alloc_size, if_neg (by omega), alloc_heap, alloc_size, if_pos rfl]
  have b8 : hp w1 (w.heap.size + 1 + 1) = some (.cells (rsC noR).toArray 32) := by rw [← hw, alloc_heap, alloc_size, alloc_size, if_pos rfl]; rfl
  clear hw
  have ldo := ldv_whole (t := 29) (c := (opC o).toArray) ag_29 (show (Try.prog.info? 29).map (·.size) = some (opC o).toArray.size from sz_29) b6
  obtain ⟨s, gn, rv, dd, hh, R⟩ := (I.keep c1).rd
  have sm := Wm.small hK
  have hl : (toRf m).rgs.length ≤ 1000000 := by show (m.rgs.map _).length ≤ _; rw [List.length_map]; exact sm.r
  have ho : ∀ p ∈ (toRf m).rgs, p.1.objs.length ≤ 1000000 := fun p hp => by
    obtain ⟨r, hr, rfl⟩ := List.mem_map.1 hp; exact sm.o r hr
  simp -implicitDefEqProofs only [ldo, ld_hn b7, wpB_some']
  refine (c_rGood R hl ho o h).mono ?_
  rintro _ w2 ⟨rfl, c2⟩
  rw [good_rfv Wm o.1 h]
  have c02 := c1.trans c2
  have d6 := c2.at b6 (by simp)
  have d7 := c2.at b7 (by simp)
  have d8 := c2.at b8 (by simp)
  have me := must_eq (h := h) hm hd
  have e0 : (hnC h).toArray[0 + 0]? = some (.int .i64 h.1) := rfl
  have e1 : (hnC h).toArray[0 + 1]? = some (.int .i64 h.2.1) := rfl
  by_cases k0 : ofK o.1 = 0
  · rw [if_pos k0]
    simp -implicitDefEqProofs only [zS, fa_29_0, ld_3, d6, op_0]
    refine (c_Of o.1 w2).step ?_
    have ez : (ofK o.1 != 0) = false := by rw [k0]; rfl
    simp -implicitDefEqProofs only [zS, ez]
    exact l_rMust0 c02 (I.keep c02) Wm hK d6 d7 d8 rfl (by omega) hm hd (.inl k0) (fun h => absurd k0 h)
  · rw [if_neg k0]
    cases hk : knownV m h (ofK o.1) with
    | false =>
      have hr : refusesV m d o h = 2 := by rw [refusesV, if_pos ⟨k0, hk⟩]
      have e : mustV m nn o h = (codeR 2, true) := by rw [me, hr, if_pos (by decide)]
      simp -implicitDefEqProofs only [zS, bdr_0]
      exact out_res (codeR 2) true c02 d8 rfl (by omega) e
    | true =>
      simp -implicitDefEqProofs only [zS, fa_29_0, ld_3, d6, op_0]
      refine (c_Of o.1 w2).step ?_
      have ez : (ofK o.1 != 0) = true := bne_iff_ne.2 k0
      obtain ⟨s2, gn2, rv2, dd2, hh2, R2⟩ := (I.keep c02).rd
      simp -implicitDefEqProofs only [zS, ez, fa_27_0, fa_27_1, ld_3, d7, e0, e1]
      refine (c_rFind R2 (nmOf h) hl).step ?_
      rw [findX_rf]
      obtain ⟨i, hi⟩ : ∃ i, findR m.rgs (nmOf h) = some i := by
        unfold knownV at hk
        split at hk
        · cases hk
        · rename_i i hi; exact ⟨i, hi⟩
      rw [hi]
      exact l_rMust0 c02 (I.keep c02) Wm hK d6 d7 d8 rfl (by omega) hm hd (.inr hk) (fun _ => ⟨i, hi, rfl⟩)
end
end Go.Proofs.Yteapggpkgfiacaa

namespace Go.Proofs.Yteapggpkgfiacaa
open Go Ev Go.RowKit
set_option linter.unusedSimpArgs false
set_option linter.unusedVariables false
set_option maxRecDepth 10000

section
variable {W w : World} {g g6 g7 : Nat} {m : MdV} {x : RfV} {F : Fp} {K : Nat} {o : OpV} {h : HnV} {d : HdV} {nn : Nat}
/-- a cell of a region: what comes of the model when another thing is put there -/
theorem RfI.rgPut (I : RfI w g x F) {i : Nat} {p : RgV × Bool} (hi : x.rgs[i]? = some p) {k : Nat} (hk : k < 8) {P : Th} (hP : (rrT p)[k]? = some P) :
    ∃ b c v Fk, ldC (hp w g) (0 + 9) = some (.slice (some ⟨b, 0, none⟩) x.rgs.length c) ∧ b ≠ g ∧ F b ∧ (∀ y, Fk y → F y) ∧ ldC (hp w b) (i * 8 + k) = some v ∧ P w Fk v ∧
      ∀ w1 F' P' v' p', UpdP Fk F' w w1 → OwnT P' → P' w1 F' v' → rrT p' = (rrT p).set k P' → okC (hp w1 b) (i * 8 + k + 1) = true ∧ v'.cells = #[v'] ∧ v'.oneCell' = true ∧ hp w1 g = hp w g ∧
        ∃ F1, RfI (put w1 b ((getC (hp w1 b)).setIfInBounds (i * 8 + k) v') (getE (hp w1 b))) g { x with rgs := x.rgs.set i p' } F1 ∧ UpdP F F1 w (put w1 b ((getC (hp w1 b)).setIfInBounds (i * 8 + k) v') (getE (hp w1 b))) := by
  have hP0 : (x.rgs.flatMap rrT)[i * 8 + k]? = some P := (flatM_get rrT_len x.rgs i p hi k hk).trans hP
  obtain ⟨b, c, v, Fk, hl, hbg, hFb, hsub, _, _, hld, hv, _, hput⟩ := isAt.row I (good_rf x) (k := 9) (e' := 138) (z := 8) (n := x.rgs.length) (Qs := x.rgs.flatMap rrT) rfl (good_rrL x.rgs) hP0
  refine ⟨b, c, v, Fk, hl, hbg, hFb, hsub, hld, hv, fun w1 F' P' v' p' u hg' hp' hr => ?_⟩
  obtain ⟨ok, o1, o2, hgg, F1, h1, h2⟩ := hput w1 F' P' v' u hg' hp'
  rw [flatM_setP rrT_len hk hr hi] at h1
  have e : rrsT (x.rgs.set i p') = isRow 138 8 x.rgs.length ((x.rgs.set i p').flatMap rrT) := by rw [rrsT, List.length_set]
  rw [← e] at h1
  exact ⟨ok, o1, o2, hgg, F1, h1, h2⟩
/-- what is held: what comes of the model when another list is put there -/
theorem RfI.holdPut (I : RfI w g x F) {l : List NmV} (hi : x.holds[nn]? = some l) :
    ∃ b c v Fk, ldC (hp w g) (0 + 11) = some (.slice (some ⟨b, 0, none⟩) x.holds.length c) ∧ b ≠ g ∧ F b ∧ (∀ y, Fk y → F y) ∧ ldC (hp w b) nn = some v ∧ keysT l w Fk v ∧
      ∀ w1 F' l' v', UpdP Fk F' w w1 → keysT l' w1 F' v' → okC (hp w1 b) (nn + 1) = true ∧ v'.cells = #[v'] ∧ v'.oneCell' = true ∧ hp w1 g = hp w g ∧
        ∃ F1, RfI (put w1 b ((getC (hp w1 b)).setIfInBounds nn v') (getE (hp w1 b))) g { x with holds := x.holds.set nn l' } F1 ∧ UpdP F F1 w (put w1 b ((getC (hp w1 b)).setIfInBounds nn v') (getE (hp w1 b))) := by
  have hP0 : (x.holds.map keysT)[nn]? = some (keysT l) := by rw [List.getElem?_map, hi]; rfl
  obtain ⟨b, c, v, Fk, hl, hbg, hFb, hsub, _, _, hld, hv, _, hput⟩ := isAt.row I (good_rf x) (k := 11) (e' := 139) (z := 1) (n := x.holds.length) (Qs := x.holds.map keysT) rfl (good_holdsL x.holds) hP0
  refine ⟨b, c, v, Fk, hl, hbg, hFb, hsub, hld, hv, fun w1 F' l' v' u hp' => ?_⟩
  obtain ⟨ok, o1, o2, hgg, F1, h1, h2⟩ := hput w1 F' (keysT l') v' u (good_keys l') hp'
  rw [← List.map_set] at h1
  have e : holdsT (x.holds.set nn l') = isRow 139 1 x.holds.length ((x.holds.set nn l').map keysT) := by rw [holdsT, List.length_set]
  rw [← e] at h1
  exact ⟨ok, o1, o2, hgg, F1, h1, h2⟩
theorem rf_setHd (m : MdV) (d' : HdV) : toRf (setHd m nn d') = { toRf m with depth := (toRf m).depth.set nn d'.depth, holds := (toRf m).holds.set nn d'.holds } := by
  simp only [toRf, setHd, Int.toNat_natCast, List.map_set]
  rfl
theorem rf_setRg (m : MdV) {i : Nat} {r r' : RgV} (hi : m.rgs[i]? = some r) (hn : r'.nm = r.nm) : toRf { m with rgs := m.rgs.set i r' } = { toRf m with rgs := (toRf m).rgs.set i (r', isLv m r.nm) } := by
  simp only [toRf, List.map_set, ← hn]
  rfl
theorem nd_unique {L : List RgV} (h : (L.map (·.nm)).Nodup) {i j : Nat} {r s : RgV} (hi : L[i]? = some r) (hj : L[j]? = some s) (e : r.nm = s.nm) : i = j := by
  have h1 : (L.map (·.nm))[i]? = some r.nm := by rw [List.getElem?_map, hi]; rfl
  have h2 : (L.map (·.nm))[j]? = some r.nm := by rw [List.getElem?_map, hj, e]; rfl
  obtain ⟨a1, a2⟩ := List.getElem?_eq_some_iff.1 h1
  obtain ⟨b1, b2⟩ := List.getElem?_eq_some_iff.1 h2
  have hp := List.pairwise_iff_getElem.1 h
  rcases Nat.lt_trichotomy i j with hlt | heq | hlt
  · exact absurd (a2.trans b2.symm) (hp i j a1 b1 hlt)
  · exact heq
  · exact absurd (b2.trans a2.symm) (hp j i b1 a1 hlt)
theorem rf_free (Wn' : Wn m K) {i : Nat} {r : RgV} {q : NmV} (hi : m.rgs[i]? = some r) (hq : m.slots[r.nm.1.toNat]? = some (1, q.2)) (hr : r.nm.2 = q.2) {v : Int} (hv : v ≠ 1) :
    toRf { m with slots := m.slots.set r.nm.1.toNat (v, q.2) } = { toRf m with state := (toRf m).state.set r.nm.1.toNat v, rgs := (toRf m).rgs.set i (r, false) } := by
  have lvE : ∀ (j : Nat) (x : RgV), m.rgs[j]? = some x → isLv { m with slots := m.slots.set r.nm.1.toNat (v, q.2) } x.nm = if j = i then false else isLv m x.nm := fun j x hx => by
    unfold isLv
    simp only [List.length_set]
    obtain ⟨a, b, c, dd⟩ := Wn'.gn x (List.mem_of_getElem? hx)
    rw [decide_eq_true (show 0 ≤ x.nm.1 ∧ x.nm.1 < m.slots.length from ⟨a, b⟩), Bool.true_and, Bool.true_and]
    by_cases hs : r.nm.1.toNat = x.nm.1.toNat
    · have a2 : (m.slots.set r.nm.1.toNat (v, q.2))[x.nm.1.toNat]? = some (v, q.2) := by rw [← hs, List.getElem?_set, if_pos rfl, if_pos (List.getElem?_eq_some_iff.1 hq).1]
      rw [decide_eq_false (by rw [a2]; intro e; exact hv (congrArg Prod.fst (Option.some.inj e)))]
      by_cases hj : j = i
      · rw [if_pos hj]
      · rw [if_neg hj]
        refine (decide_eq_false ?_).symm
        rw [← hs, hq]
        intro e
        have e2 : q.2 = x.nm.2 := (Prod.mk.inj (Option.some.inj e)).2
        obtain ⟨a', _⟩ := Wn'.gn r (List.mem_of_getElem? hi)
        exact hj (nd_unique Wn'.nd hx hi (Prod.ext (by omega) (by rw [← e2, hr])))
    · have hj : j ≠ i := fun e => by
        subst e
        rw [hi] at hx
        cases hx
        exact hs rfl
      rw [if_neg hj]
      have : (m.slots.set r.nm.1.toNat (v, q.2))[x.nm.1.toNat]? = m.slots[x.nm.1.toNat]? := by rw [List.getElem?_set, if_neg hs]
      rw [this]
  unfold toRf
  simp only [List.map_set]
  congr 1
  · exact set_same (by rw [List.getElem?_map, hq]; rfl)
  · apply List.ext_getElem?
    intro j
    rw [List.getElem?_map, List.getElem?_set, List.getElem?_map]
    by_cases hj : i = j
    · subst hj
      rw [if_pos rfl, hi]
      simp only [Option.map_some, lvE i r hi, if_true]
      rw [if_pos (by rw [List.length_map]; exact (List.getElem?_eq_some_iff.1 hi).1)]
    · rw [if_neg hj]
      cases hx : m.rgs[j]? with
      | none => rfl
      | some x => simp only [Option.map_some, lvE j x hx, if_neg (Ne.symm hj)]
set_option maxHeartbeats 4000000 in
theorem l_rDoes2 (hc : Chg [] W w) (I : RfI w g (toRf m) F) (Wm : Wf m K) (h6 : hp w g6 = some (.cells (opC o).toArray 29)) {i : Nat} {r : RgV} {k : Nat} {L : List Int} {j : Nat} (O : ObjAt m h o.2.2.2.1 i r k L j) (hd : m.hands[nn]? = some d) (k6 : o.1 = 7 ∨ o.1 = 8 ∨ o.1 = 9) :
    P81_2 (.pointer (some ⟨g, 0, none⟩)) (.pointer (some ⟨g6, 0, none⟩)) (.int .i64 i) (.int .i64 k) (.int .i64 j) w fun v w' => v = .tuple #[] ∧ ∃ F', RfI w' g (toRf (doesV m nn o h)) F' ∧ UpdP F F' W w' := by
  apply L81_2_ok
  have cd : Chg [] w w.drew := (Chg.refl _ _).drew
  obtain ⟨b, c, bw, cw, g2, c2, p1, p2, p3, p4, _⟩ := I.word O.rf O.wk O.val
  obtain ⟨b', c', bw', cw', g2', c2', q1, q2, q3, q4, hput⟩ := (I.keep cd).word O.rf O.wk O.val
  rw [show ldC (hp w.drew g) (0 + 9) = _ from p1] at q1; cases q1
  rw [show ldC (hp w.drew b) (i * 8 + 6) = _ from p2] at q2; cases q2
  rw [show ldC (hp w.drew bw) k = _ from p3] at q3; cases q3
  have W1 := Wm.w1
  have W2 := Wm.w2
  have hil : i < (toRf m).rgs.length := (List.getElem?_eq_some_iff.1 O.rf).1
  have ia := ia_124 (b := b) (p := 0) (n := (toRf m).rgs.length) (c := c) (j := .i64) (i := (i : Int)) (by omega) (by omega)
  rw [Int.toNat_natCast, Nat.zero_add] at ia
  have hlw := (List.getElem?_eq_some_iff.1 O.wk).1
  have iaw := ia_96 (b := bw) (p := 0) (n := r.words.length) (c := cw) (j := .i64) (i := (k : Int)) (by omega) (by omega)
  rw [Int.toNat_natCast, Nat.zero_add, Nat.mul_one] at iaw
  have hjl := O.jl
  have iau := ia_112 (b := g2) (p := 0) (n := L.length) (c := c2) (j := .i64) (i := (j : Int)) (by omega) (by omega)
  rw [Int.toNat_natCast, Nat.zero_add, Nat.mul_one] at iau
  have rd : ∀ y, toRf (setWordV m h o.2.2.2.1 y) = { toRf m with rgs := (toRf m).rgs.set i ({ r with words := r.words.set k (L.set j y) }, isLv m r.nm) } := fun y => by rw [O.put y]; exact rf_setRg m O.ri rfl
  have hd' : m.hands[((nn : Int)).toNat]? = some d := hd
  have fin : ∀ y, doesV m nn o h = setWordV m h o.2.2.2.1 y → effu Try.prog (Instr.storeAt 22 (.pointer (some ⟨g2, j, none⟩)) (.int .u64 y)) w.drew fun w' => ∃ F', RfI w' g (toRf (doesV m nn o h)) F' ∧ UpdP F F' W w' := fun y e => by
    obtain ⟨ok, F1, t1, t2⟩ := hput y
    rw [st_22 rfl rfl ok, e, rd y]
    exact ⟨F1, t1, t2.pre (hc.trans cd)⟩
  have fin2 : ∀ y, doesV m nn o h = setWordV m h o.2.2.2.1 y → effu Try.prog (Instr.storeAt 22 (.pointer (some ⟨g2, j, none⟩)) (.int .u64 y)) w.drew fun w' => True ∧ ∃ F', RfI w' g (toRf (doesV m nn o h)) F' ∧ UpdP F F' W w' := fun y e => by
    obtain ⟨ok, F1, t1, t2⟩ := hput y
    rw [st_22 rfl rfl ok, e, rd y]
    exact ⟨trivial, F1, t1, t2.pre (hc.trans cd)⟩
  by_cases k7 : o.1 = 7
  · have q : (o.1 == 7) = true := by rw [k7]; rfl
    have e : doesV m nn o h = setWordV m h o.2.2.2.1 o.2.2.2.2.1 := by
      rw [doesV, hd']; simp only
      rw [if_neg (by omega), if_neg (by omega), if_neg (by omega), if_pos k7]
    simp -implicitDefEqProofs only [L81_2, zS, fa_126_4, fa_138_6, fa_29_0, fa_29_4, ld_124, ld_96, ld_112, ld_22, ld_3, p1, p2, p3, p4, ia, iaw, iau, h6, op_0, op_4, q]
    first | exact fin2 _ e | exact fin _ e
  by_cases k8 : o.1 = 8
  · have q : (o.1 == 8) = true := by rw [k8]; rfl
    have e : doesV m nn o h = setWordV m h o.2.2.2.1 (IntKind.u64.wrap (wordV m h o.2.2.2.1 + o.2.2.2.2.1)) := by
      rw [doesV, hd']; simp only
      rw [if_neg (by omega), if_neg (by omega), if_neg (by omega), if_neg k7, if_pos k8]
    simp -implicitDefEqProofs only [L81_2, zS, fa_126_4, fa_138_6, fa_29_0, fa_29_4, ld_124, ld_96, ld_112, ld_22, ld_3, p1, p2, p3, p4, ia, iaw, iau, h6, op_0, op_4, eqf k7, q, bp_add]
    first | exact fin2 _ e | exact fin _ e
  · have k9 : o.1 = 9 := by omega
    by_cases hv : wordV m h o.2.2.2.1 = o.2.2.2.2.1
    · have ev : (wordV m h o.2.2.2.1 == o.2.2.2.2.1) = true := by rw [hv]; exact beq_self_eq_true _
      have e : doesV m nn o h = setWordV m h o.2.2.2.1 o.2.2.2.2.2 := by
        rw [doesV, hd']; simp only
        rw [if_neg (by omega), if_neg (by omega), if_neg (by omega), if_neg k7, if_neg k8, if_pos k9, if_pos hv]
      simp -implicitDefEqProofs only [L81_2, zS, fa_126_4, fa_138_6, fa_29_0, fa_29_4, fa_29_5, ld_124, ld_96, ld_112, ld_22, ld_3, p1, p2, p3, p4, ia, iaw, iau, h6, op_0, op_4, op_5, eqf k7, eqf k8, ev]
      first | exact fin2 _ e | exact fin _ e
    · have e : doesV m nn o h = m := by
        rw [doesV, hd']; simp only
        rw [if_neg (by omega), if_neg (by omega), if_neg (by omega), if_neg k7, if_neg k8, if_pos k9, if_neg hv]
      simp -implicitDefEqProofs only [L81_2, zS, fa_126_4, fa_138_6, fa_29_0, fa_29_4, ld_124, ld_96, ld_112, ld_22, ld_3, p1, p2, p3, p4, ia, iaw, iau, h6, op_0, op_4, eqf k7, eqf k8, eqf hv]
      rw [e]
      exact ⟨by first | rfl | trivial, F, I, UpdP.of0 hc⟩
end
end Go.Proofs.Yteapggpkgfiacaa

namespace Go.Proofs.Yteapggpkgfiacaa
open Go Ev Go.RowKit
set_option linter.unusedSimpArgs false
set_option linter.unusedVariables false
set_option maxRecDepth 10000

section
variable {W w : World} {g g6 g7 : Nat} {m : MdV} {x : RfV} {F : Fp} {K : Nat} {o : OpV} {h : HnV} {d : HdV} {nn : Nat}
set_option maxHeartbeats 4000000 in
theorem l_rDoes1 (hc : Chg [] W w) (I : RfI w g (toRf m) F) (Wm : Wf m K) (hK : K ≤ 1000000) (h6 : hp w g6 = some (.cells (opC o).toArray 29)) (h7 : hp w g7 = some (.cells (hnC h).toArray 27)) {i : Nat} {r : RgV} {k : Nat} {L : List Int} {j : Nat} (O : ObjAt m h o.2.2.2.1 i r k L j) (hd : m.hands[nn]? = some d) (k6 : o.1 = 7 ∨ o.1 = 8 ∨ o.1 = 9) :
    P81_1 (.pointer (some ⟨g, 0, none⟩)) (.pointer (some ⟨g6, 0, none⟩)) (.pointer (some ⟨g7, 0, none⟩)) (.int .i64 i) (.bool true) w fun v w' => v = .tuple #[] ∧ ∃ F', RfI w' g (toRf (doesV m nn o h)) F' ∧ UpdP F F' W w' := by
  apply L81_1_ok
  have cd : Chg [] w w.drew := (Chg.refl _ _).drew
  obtain ⟨s, gn, rv, dd, hh, R⟩ := (I.keep cd).rd
  obtain ⟨Fr, hFr⟩ := R.rT
  obtain ⟨b, c, rfl, cv, wv, ov, Q⟩ := rr_at hFr O.rf
  obtain ⟨A, cc, rfl, hRc⟩ := ints_sh Q.cT
  have hil : i < (toRf m).rgs.length := (List.getElem?_eq_some_iff.1 O.rf).1
  have ia := ia_124 (b := b) (p := 0) (n := (toRf m).rgs.length) (c := c) (j := .i64) (i := (i : Int)) (by omega) (by omega)
  rw [Int.toNat_natCast, Nat.zero_add] at ia
  have hrl : ldC (hp w g) (0 + 9) = some (.slice (some ⟨b, 0, none⟩) (toRf m).rgs.length c) := R.rl
  have hjl := O.jl
  have hwl := O.wl
  have W2 := Wm.w2
  have hcl : r.chunks.length ≤ 1000000 := Nat.le_trans (Wm.rg r (List.mem_of_getElem? O.ri)).cl hK
  have cat := c_rAt (w := w.drew) (p := (r, isLv m r.nm)) (c := cc) (wv := wv) (ov := ov) hRc hcl h.2.2.1
  rw [show ixOf (r, isLv m r.nm).1.chunks h.2.2.1 = (k : Int) from O.ix] at cat
  have e2 : (hnC h).toArray[0 + 2]? = some (.int .i64 h.2.2.1) := rfl
  have e3 : (hnC h).toArray[0 + 3]? = some (.int .i64 h.2.2.2.1) := rfl
  simp -implicitDefEqProofs only [L81_1, zS, fa_29_3, fa_27_2, fa_27_3, fa_126_4, ld_124, ld_3, h6, h7, op_3, e2, e3, hrl, ia, ld_rg Q, bp_add, O.jn, wrapi (n := (j : Int)) (by omega) (by omega)]
  repeat' (with_reducible apply And.intro)
  all_goals
    refine cat.mono ?_
    rintro _ w3 ⟨rfl, c3⟩
    have c13 := cd.trans c3
    have t6 := c13.at h6 (by simp)
    have t7 := c13.at h7 (by simp)
    try simp -implicitDefEqProofs only [zS, fa_29_3, fa_27_3, ld_3, t6, t7, op_3, e3, bp_add, O.jn, wrapi (n := (j : Int)) (by omega) (by omega)]
    exact l_rDoes2 (hc.trans c13) (I.keep c13) Wm t6 O hd k6
/-- a number of the state, written in place -/
theorem ia_ints {b n c : Nat} {i : Int} (h0 : 0 ≤ i) (h1 : i < n) : pureRun Try.prog (Instr.indexAt 36 (.slice (some ⟨b, 0, none⟩) n c) (.int .i64 i)) = some (.pointer (some ⟨b, i.toNat, none⟩)) := by
  have := ia_36 (b := b) (p := 0) (n := n) (c := c) (j := .i64) (i := i) h0 h1
  rw [Nat.zero_add, Nat.mul_one] at this
  exact this
set_option maxHeartbeats 4000000 in
theorem l_rDoes0 (hc : Chg [] W w) (I : RfI w g (toRf m) F) (Wm : Wf m K) (hK : K ≤ 1000000) (Wn' : Wn m K) (h6 : hp w g6 = some (.cells (opC o).toArray 29)) (h7 : hp w g7 = some (.cells (hnC h).toArray 27)) (f7 : ¬ F g7) (hm : mayV m nn o = true) (hd : m.hands[nn]? = some d) (hr : refusesV m d o h = 0) {ix : Int} (hix : ofK o.1 ≠ 0 → ∃ i, findR m.rgs (nmOf h) = some i ∧ ix = i) :
    P81_0 (.pointer (some ⟨g, 0, none⟩)) (.int .i64 nn) (.pointer (some ⟨g6, 0, none⟩)) (.pointer (some ⟨g7, 0, none⟩)) (.int .i64 ix) w fun v w' => v = .tuple #[] ∧ ∃ F', RfI w' g (toRf (doesV m nn o h)) F' ∧ UpdP F F' W w' := by
  apply L81_0_ok
  obtain ⟨n0, n1, o0⟩ := may_n hm
  obtain ⟨ka, kb⟩ := may_k hm
  have hco := (refuses_code hr).2
  have hD := Wm.hd d (List.mem_of_getElem? hd)
  have hd' : m.hands[(nn : Int).toNat]? = some d := hd
  have dv : doesV m nn o h = if o.1 = 3 then setHd m nn { d with depth := d.depth + 1 }
    else if o.1 = 4 then setHd m nn (if d.depth - 1 = 0 then { depth := 0, holds := [] } else { d with depth := d.depth - 1 })
    else if o.1 = 5 then (if holdsV d h then m else setHd m nn { d with holds := d.holds ++ [nmOf h] })
    else if o.1 = 7 then setWordV m h o.2.2.2.1 o.2.2.2.2.1
    else if o.1 = 8 then setWordV m h o.2.2.2.1 (IntKind.u64.wrap (wordV m h o.2.2.2.1 + o.2.2.2.2.1))
    else if o.1 = 9 then (if wordV m h o.2.2.2.1 = o.2.2.2.2.1 then setWordV m h o.2.2.2.1 o.2.2.2.2.2 else m)
    else if o.1 = 10 then (match m.slots[h.1.toNat]? with | some p => { m with slots := m.slots.set h.1.toNat (if m.loose then 0 else 2, p.2) } | none => m)
    else m := by rw [doesV, hd'] <;> rfl
  have hdd := (hands_rf hd').2
  have hhd := (hands_rf hd').1
  rw [Int.toNat_natCast] at hdd hhd
  have dl : (toRf m).depth.length = m.hands.length := by simp [toRf]
  have hln : (toRf m).holds.length = m.hands.length := by simp [toRf]
  have cd : Chg [] w w.drew := (Chg.refl _ _).drew
  have h7d : hp w.drew g7 = some (.cells (hnC h).toArray 27) := h7
  have e0 : (hnC h).toArray[0 + 0]? = some (.int .i64 h.1) := rfl
  have e1 : (hnC h).toArray[0 + 1]? = some (.int .i64 h.2.1) := rfl
  by_cases k3 : o.1 = 3
  · have q : (o.1 == 3) = true := by rw [k3]; rfl
    rw [if_pos k3] at dv
    obtain ⟨b, c, hl, hbg, hFb, hld, hput⟩ := I.intPut (k := 10) (L := (toRf m).depth) rfl hdd
    obtain ⟨ok, F1, t1, t2⟩ := hput (d.depth + 1)
    have ia := ia_ints (b := b) (n := (toRf m).depth.length) (c := c) (i := (nn : Int)) n0 (by rw [dl]; exact n1)
    rw [Int.toNat_natCast] at ia
    have hl10 : ldC (hp w g) (0 + 10) = some (.slice (some ⟨b, 0, none⟩) (toRf m).depth.length c) := hl
    simp -implicitDefEqProofs only [L81_0, zS, fa_29_0, ld_3, h6, op_0, q, fa_126_5, ld_36, hl10, ia, hld, bp_add, wrapi (n := d.depth + 1) (by rw [codeV, if_neg (by omega), if_pos k3] at hco; omega) (by rw [codeV, if_neg (by omega), if_pos k3] at hco; omega)]
    rw [st_3 rfl rfl ok, dv, rf_setHd]
    have hs : (toRf m).holds.set nn d.holds = (toRf m).holds := set_same hhd
    simp only [hs]
    exact ⟨by first | rfl | trivial, F1, t1, t2.pre hc⟩
  by_cases k4 : o.1 = 4
  · have q : (o.1 == 4) = true := by rw [k4]; rfl
    rw [if_neg k3, if_pos k4] at dv
    obtain ⟨b, c, hl, hbg, hFb, hld, hput⟩ := I.intPut (k := 10) (L := (toRf m).depth) rfl hdd
    obtain ⟨ok, F1, t1, t2⟩ := hput (d.depth - 1)
    have ia := ia_ints (b := b) (n := (toRf m).depth.length) (c := c) (i := (nn : Int)) n0 (by rw [dl]; exact n1)
    rw [Int.toNat_natCast] at ia
    have hl10 : ldC (hp w g) (0 + 10) = some (.slice (some ⟨b, 0, none⟩) (toRf m).depth.length c) := hl
    have I1 : RfI (put w b ((getC (hp w b)).setIfInBounds nn (.int .i64 (d.depth - 1))) (getE (hp w b))) g { toRf m with depth := (toRf m).depth.set nn (d.depth - 1) } F1 := t1
    have hdd1 : ((toRf m).depth.set nn (d.depth - 1))[nn]? = some (d.depth - 1) := by rw [List.getElem?_set, if_pos rfl, if_pos (List.getElem?_eq_some_iff.1 hdd).1]
    simp -implicitDefEqProofs only [L81_0, zS, fa_29_0, ld_3, h6, op_0, eqf k3, q, fa_126_5, ld_36, hl10, ia, hld, bp_sub, wrapi (n := d.depth - 1) (by rw [codeV, if_neg (by omega), if_neg k3, if_pos k4] at hco; omega) (by rw [codeV, if_neg (by omega), if_neg k3, if_pos k4] at hco; omega)]
    rw [st_3 rfl rfl ok, dv]
    generalize put w b ((getC (hp w b)).setIfInBounds nn (.int .i64 (d.depth - 1))) (getE (hp w b)) = w1 at *
    obtain ⟨b1, c1, hl1, hbg1, _, hld1, _⟩ := I1.intPut (k := 10) (L := (toRf m).depth.set nn (d.depth - 1)) rfl hdd1
    have hl11 : ldC (hp w1 g) (0 + 10) = some (.slice (some ⟨b1, 0, none⟩) (toRf m).depth.length c1) := by have := hl1; rw [List.length_set] at this; exact this
    have ia1 := ia_ints (b := b1) (n := (toRf m).depth.length) (c := c1) (i := (nn : Int)) n0 (by rw [dl]; exact n1)
    rw [Int.toNat_natCast] at ia1
    by_cases hz : d.depth - 1 = 0
    · have e : (d.depth - 1 == 0) = true := by rw [hz]; rfl
      obtain ⟨b2, c2, v2, Fk2, hl2, _, _, _, hld2, _, hput2⟩ := I1.holdPut (nn := nn) (l := d.holds) hhd
      have iah := ia_123 (b := b2) (p := 0) (n := (toRf m).holds.length) (c := c2) (j := .i64) (i := (nn : Int)) (by omega) (by omega)
      rw [Int.toNat_natCast, Nat.zero_add, Nat.mul_one] at iah
      obtain ⟨ok2, s1, s2, _, F2, t3, t4⟩ := hput2 w1 none' [] (.slice none 0 0) ⟨ChgP.refl _ _, fun k hk => hk.elim⟩ isRow.nil
      have hl2' : ldC (hp w1 g) (0 + 11) = some (.slice (some ⟨b2, 0, none⟩) (toRf m).holds.length c2) := hl2
      simp -implicitDefEqProofs only [zS, fa_126_5, fa_126_6, ld_36, ld_3, hl11, ia1, hld1, e, ld_123, hl2', iah]
      rw [st_139 s1 s2 ok2, if_pos hz, rf_setHd]
      have e2 : (d.depth - 1 : Int) = 0 := hz
      rw [e2] at t3
      exact ⟨by first | rfl | trivial, F2, t3, (t2.trans t4).pre hc⟩
    · simp -implicitDefEqProofs only [zS, fa_126_5, ld_36, ld_3, hl11, ia1, hld1, eqf hz]
      rw [if_neg hz, rf_setHd]
      have hs : (toRf m).holds.set nn d.holds = (toRf m).holds := set_same hhd
      simp only [hs]
      exact ⟨by first | rfl | trivial, F1, I1, t2.pre hc⟩
  by_cases k5 : o.1 = 5
  · have q : (o.1 == 5) = true := by rw [k5]; rfl
    rw [if_neg k3, if_neg k4, if_pos k5] at dv
    obtain ⟨s, gn, rv, dd, hh, R⟩ := I.rd
    simp -implicitDefEqProofs only [L81_0, zS, fa_29_0, ld_3, h6, op_0, eqf k3, eqf k4, q, fa_27_0, fa_27_1, h7, e0, e1]
    refine (c_rHas R n0 (by rw [Int.toNat_natCast]; exact hhd) (by omega) (nmOf h)).step ?_
    rw [show decide (nmOf h ∈ d.holds) = holdsV d h from rfl]
    cases hv : holdsV d h with
    | true =>
      simp -implicitDefEqProofs only [zS]
      rw [dv, if_pos hv]
      exact ⟨by first | rfl | trivial, F, I, UpdP.of0 hc⟩
    | false =>
      rw [if_neg (by rw [hv]; simp)] at dv
      obtain ⟨b2, c2, v2, Fk2, hl2, hbg2, _, _, hld2, hk2, hput2⟩ := (I.keep cd).holdPut (nn := nn) (l := d.holds) hhd
      have iah := ia_123 (b := b2) (p := 0) (n := (toRf m).holds.length) (c := c2) (j := .i64) (i := (nn : Int)) (by omega) (by omega)
      rw [Int.toNat_natCast, Nat.zero_add, Nat.mul_one] at iah
      have hl2' : ldC (hp w g) (0 + 11) = some (.slice (some ⟨b2, 0, none⟩) (toRf m).holds.length c2) := hl2
      have hld2' : ldC (hp w b2) nn = some v2 := hld2
      obtain ⟨hown, _⟩ := flat_own hk2
      simp -implicitDefEqProofs only [zS, fa_126_6, fa_27_0, fa_27_1, ld_123, ld_139, ld_3, hl2', iah, hld2', h7, e0, e1, bd_142_0_1]
      have fin : ∀ (x' : Value) (w2 : World), w2.ownsRow 0 142 2 x' (d.holds.length + 1) (d.holds.flatMap nmC ++ [.int .i64 h.1, .int .i64 h.2.1]) → w.drew.grownBy w2 v2.ownBlock → NewB w.drew v2 x' →
          ldC (hp w2 g) (0 + 11) = some (.slice (some ⟨b2, 0, none⟩) (toRf m).holds.length c2) ∧ effu Try.prog (Instr.storeAt 139 (.pointer (some ⟨b2, nn, none⟩)) x') w2 fun w' => ∃ F', RfI w' g (toRf (doesV m nn o h)) F' ∧ UpdP F F' W w' := by
        intro x' w2 ho hg hnb
        have hk2' : isRow 142 2 d.holds.length ((d.holds.flatMap nmC).map isV) w.drew Fk2 v2 := hk2
        obtain ⟨F2, hr2, hu2⟩ := flat_grown (vs := nmC (nmOf h)) hk2' ho hg hnb
        have hr2' : keysT (d.holds ++ [nmOf h]) w2 F2 x' := by
          rw [keysT, List.length_append]
          have e : (d.holds ++ [nmOf h]).flatMap nmC = d.holds.flatMap nmC ++ nmC (nmOf h) := by simp
          rw [e]; exact hr2
        obtain ⟨ok2, s1, s2, hgg, F3, t3, t4⟩ := hput2 w2 F2 (d.holds ++ [nmOf h]) x' hu2 hr2'
        refine ⟨by rw [hgg]; exact hl2', ?_⟩
        rw [st_139 s1 s2 ok2, dv, rf_setHd]
        have hs : (toRf m).depth.set nn d.depth = (toRf m).depth := set_same hdd
        simp only [hs]
        exact ⟨F3, t3, t4.pre (hc.trans cd)⟩
      have h63 := fun (x' : Value) (w2 : World) (a : _) (b : _) (c : _) => fin x' w2 a b c
      repeat' (with_reducible apply And.intro)
      all_goals
        refine ps_139 (fun u hu => by simp only [List.mem_cons, List.not_mem_nil, or_false] at hu; rcases hu with rfl | rfl <;> rfl) hown (by omega) (Nat.zero_le _) fun x' w2 ho hg hnb => ?_
        obtain ⟨f1, f2⟩ := fin x' w2 ho hg hnb
        try simp -implicitDefEqProofs only [zS, ld_123, f1, iah]
        first | exact f2 | (refine cast ?_ f2; congr 1; funext w'; simp)
  by_cases k10 : o.1 = 10
  · have q : (o.1 == 10) = true := by rw [k10]; rfl
    obtain ⟨i, r, hf, hri, hnm, hlv⟩ := region_ok hr (by omega)
    obtain ⟨i', hf', hixe⟩ := hix (by rw [show ofK o.1 = 1 by rw [k10]; rfl]; decide)
    rw [hf] at hf'
    cases hf'
    rw [hixe]
    obtain ⟨s0, s1, s2⟩ := slots_at hlv
    have hn1 : r.nm.1 = h.1 := by rw [hnm]; rfl
    have hn2 : r.nm.2 = h.2.1 := by rw [hnm]; rfl
    have s0' : 0 ≤ h.1 := s0
    have s1' : h.1 < m.slots.length := s1
    have s2' : m.slots[r.nm.1.toNat]? = some (1, h.2.1) := by rw [hn1]; exact s2
    have hx : (toRf m).rgs[i]? = some (r, isLv m r.nm) := by rw [rgs_rf, hri]; rfl
    have hil : i < (toRf m).rgs.length := (List.getElem?_eq_some_iff.1 hx).1
    obtain ⟨b, c, v, Fk, hl, hbg, hFb, hsub, hld, hv, hput⟩ := I.rgPut hx (k := 4) (by omega) (P := isV (.bool (isLv m r.nm))) rfl
    obtain ⟨ok, _, _, _, F1, t1, t2⟩ := hput w none' (isV (.bool false)) (.bool false) (r, false) (UpdP.none hv.2 w) (good_isV ⟨rfl, rfl⟩) ⟨rfl, fun _ h => h⟩ rfl
    have ia := ia_124 (b := b) (p := 0) (n := (toRf m).rgs.length) (c := c) (j := .i64) (i := (i : Int)) (by omega) (by omega)
    rw [Int.toNat_natCast, Nat.zero_add] at ia
    simp -implicitDefEqProofs only [L81_0, zS, fa_29_0, ld_3, h6, op_0, eqf k3, eqf k4, eqf k5, q, fa_126_4, ld_124, hl, ia, fa_138_4]
    rw [st_4 (o := i * 8 + 4) rfl rfl ok]
    have k7a := t2.keep h7 f7
    generalize put w b ((getC (hp w b)).setIfInBounds (i * 8 + 4) (.bool false)) (getE (hp w b)) = w1 at *
    have cd1 : Chg [] w1 w1.drew := (Chg.refl _ _).drew
    have stl : (toRf m).state.length = m.slots.length := by simp [toRf]
    have hst : (toRf m).state[h.1.toNat]? = some 1 := by rw [← hn1]; simp [toRf, s2']
    have I1 : RfI w1.drew g { toRf m with rgs := (toRf m).rgs.set i (r, false) } F1 := RfI.keep t1 cd1
    obtain ⟨b2, c2, hl2, hbg2, hFb2, hld2, hput2⟩ := I1.intPut (k := 7) (L := (toRf m).state) rfl hst
    obtain ⟨ok2, F2, t3, t4⟩ := hput2 2
    have ia2 := ia_ints (b := b2) (n := (toRf m).state.length) (c := c2) (i := h.1) s0' (by rw [stl]; exact s1')
    have hl27 : ldC (hp w1 g) (0 + 7) = some (.slice (some ⟨b2, 0, none⟩) (toRf m).state.length c2) := hl2
    have k7d : hp w1.drew g7 = some (.cells (hnC h).toArray 27) := k7a.1
    simp -implicitDefEqProofs only [zS, fa_126_2, ld_36, hl27, fa_27_0, ld_3, k7a.1, e0, ia2]
    rw [st_3 (o := h.1.toNat) rfl rfl ok2]
    have k7b := t4.keep k7d k7a.2
    have I2 : RfI (put w1.drew b2 ((getC (hp w1.drew b2)).setIfInBounds h.1.toNat (.int .i64 2)) (getE (hp w1.drew b2))) g { toRf m with rgs := (toRf m).rgs.set i (r, false), state := (toRf m).state.set h.1.toNat 2 } F2 := t3
    have u2 := (t2.trans (t4.pre cd1)).pre hc
    generalize put w1.drew b2 ((getC (hp w1.drew b2)).setIfInBounds h.1.toNat (.int .i64 2)) (getE (hp w1.drew b2)) = w2 at *
    obtain ⟨_, _, _, _, _, R2⟩ := I2.rd
    have ml : ldC (hp w2 g) (0 + 6) = some (.bool m.loose) := R2.l
    have dv' : doesV m nn o h = { m with slots := m.slots.set r.nm.1.toNat (if m.loose then 0 else 2, h.2.1) } := by
      rw [dv, if_neg k3, if_neg k4, if_neg k5, if_neg (by omega), if_neg (by omega), if_neg (by omega), if_pos k10, hn1, ← hn1, s2']
    by_cases hlo : m.loose = true
    · rw [hlo] at ml
      have cd2 : Chg [] w2 w2.drew := (Chg.refl _ _).drew
      have hst2 : ((toRf m).state.set h.1.toNat 2)[h.1.toNat]? = some 2 := by rw [List.getElem?_set, if_pos rfl, if_pos (by rw [stl]; omega)]
      obtain ⟨b3, c3, hl3, _, _, _, hput3⟩ := (I2.keep cd2).intPut (k := 7) (L := (toRf m).state.set h.1.toNat 2) rfl hst2
      obtain ⟨ok3, F3, t5, t6⟩ := hput3 0
      have hl37 : ldC (hp w2 g) (0 + 7) = some (.slice (some ⟨b3, 0, none⟩) (toRf m).state.length c3) := by have := hl3; rw [List.length_set] at this; exact this
      have ia3 := ia_ints (b := b3) (n := (toRf m).state.length) (c := c3) (i := h.1) s0' (by rw [stl]; exact s1')
      simp -implicitDefEqProofs only [zS, fa_126_1, fa_126_2, ld_4, ml, ld_36, hl37, fa_27_0, ld_3, k7b.1, e0, ia3]
      rw [st_3 (o := h.1.toNat) rfl rfl ok3, dv', if_pos hlo]
      have := rf_free (v := 0) (q := (1, h.2.1)) Wn' hri s2' hn2 (by decide)
      simp only at this
      rw [this, hn1]
      rw [List.set_set] at t5
      exact ⟨by first | rfl | trivial, F3, t5, u2.trans (t6.pre cd2)⟩
    · have hlf : m.loose = false := by simpa using hlo
      rw [hlf] at ml
      simp -implicitDefEqProofs only [zS, fa_126_1, ld_4, ml]
      rw [dv', if_neg hlo]
      have := rf_free (v := 2) (q := (1, h.2.1)) Wn' hri s2' hn2 (by decide)
      simp only at this
      rw [this, hn1]
      exact ⟨by first | rfl | trivial, F2, I2, u2⟩
  have touch : o.1 = 7 ∨ o.1 = 8 ∨ o.1 = 9 → P81_1 (.pointer (some ⟨g, 0, none⟩)) (.pointer (some ⟨g6, 0, none⟩)) (.pointer (some ⟨g7, 0, none⟩)) (.int .i64 ix) (.bool true) w fun v w' => v = .tuple #[] ∧ ∃ F', RfI w' g (toRf (doesV m nn o h)) F' ∧ UpdP F F' W w' := by
    intro hk
    obtain ⟨t1, t2⟩ := touch_ok hr (by omega) (by omega)
    obtain ⟨i, hf, rfl⟩ := hix (by rw [ofK, if_neg (by omega), if_pos ⟨by omega, by omega⟩]; decide)
    obtain ⟨i', r, k, L, j, O⟩ := obj_at Wm t1 o0 t2
    have : i' = i := by have := O.fi; rw [hf] at this; exact (Option.some.inj this).symm
    subst this
    exact l_rDoes1 hc I Wm hK h6 h7 O hd hk
  by_cases k7 : o.1 = 7
  · have q : (o.1 == 7) = true := by rw [k7]; rfl
    simp -implicitDefEqProofs only [L81_0, zS, fa_29_0, ld_3, h6, op_0, eqf k3, eqf k4, eqf k5, eqf k10, q]
    exact touch (.inl k7)
  by_cases k8 : o.1 = 8
  · have q : (o.1 == 8) = true := by rw [k8]; rfl
    simp -implicitDefEqProofs only [L81_0, zS, fa_29_0, ld_3, h6, op_0, eqf k3, eqf k4, eqf k5, eqf k10, eqf k7, q]
    exact touch (.inr (.inl k8))
  by_cases k9 : o.1 = 9
  · have q : (o.1 == 9) = true := by rw [k9]; rfl
    simp -implicitDefEqProofs only [L81_0, zS, fa_29_0, ld_3, h6, op_0, eqf k3, eqf k4, eqf k5, eqf k10, eqf k7, eqf k8, q]
    exact touch (.inr (.inr k9))
  · simp -implicitDefEqProofs only [L81_0, zS, fa_29_0, ld_3, h6, op_0, eqf k3, eqf k4, eqf k5, eqf k10, eqf k7, eqf k8, eqf k9]
    apply L81_1_ok
    simp -implicitDefEqProofs only [L81_1, zS]
    rw [dv, if_neg k3, if_neg k4, if_neg k5, if_neg k7, if_neg k8, if_neg k9, if_neg k10]
    exact ⟨by first | rfl | trivial, F, I, UpdP.of0 hc⟩
end
end Go.Proofs.Yteapggpkgfiacaa

namespace Go.Proofs.Yteapggpkgfiacaa
open Go Ev Go.RowKit
set_option linter.unusedSimpArgs false
set_option linter.unusedVariables false
set_option maxRecDepth 10000

section
variable {W w : World} {g g6 g7 : Nat} {m : MdV} {x : RfV} {F : Fp} {K : Nat} {o : OpV} {h : HnV} {d : HdV} {nn : Nat} {r : RsV}
theorem RfI.notF (I : RfI W g x F) {y : Nat} (h : W.heap.size ≤ y) : ¬ F y := fun hx => by have := isAt.lt I (good_rf x) y hx; omega
theorem known_find (hk : knownV m h (ofK o.1) = true) : ∃ i, findR m.rgs (nmOf h) = some i := by
  unfold knownV at hk
  split at hk
  · cases hk
  · rename_i i hi; exact ⟨i, hi⟩
theorem rf_len (m : MdV) : (toRf m).rgs.length = m.rgs.length := by simp [toRf]
set_option maxHeartbeats 1000000 in
theorem c_rDoes (I : RfI w g (toRf m) F) (Wm : Wf m K) (hK : K ≤ 1000000) (Wn' : Wn m K) (hm : mayV m nn o = true) (hd : m.hands[nn]? = some d) (hr : refusesV m d o h = 0) :
    CallR Try.prog 81 [.pointer (some ⟨g, 0, none⟩), .int .i64 nn, .agg (opC o).toArray, .agg (hnC h).toArray] w fun v w' => v = .tuple #[] ∧ ∃ F', RfI w' g (toRf (doesV m nn o h)) F' ∧ UpdP F F' w w' := by
  apply F81_ok
  simp -implicitDefEqProofs only [F81, effv_box, cells_agg, alloc_size]
  generalize hw : (w.alloc (.cells (opC o).toArray 29)).alloc _ = w1
  have c1 : Chg [] w w1 := by rw [← hw]; exact ((Chg.refl _ _).alloc _).alloc _
  have a6 : hp w1 w.heap.size = some (.cells (opC o).toArray 29) := by rw [← hw, alloc_heap, alloc_size, if_neg (by omega), alloc_heap, if_pos rfl]
  have a7 : hp w1 (w.heap.size + 1) = some (.cells (hnC h).toArray 27) := by rw [← hw, alloc_heap, alloc_size, if_pos rfl]
  clear hw
  have f7 : ¬ F (w.heap.size + 1) := I.notF (by omega)
  have e0 : (hnC h).toArray[0 + 0]? = some (.int .i64 h.1) := rfl
  have e1 : (hnC h).toArray[0 + 1]? = some (.int .i64 h.2.1) := rfl
  simp -implicitDefEqProofs only [zS, fa_29_0, ld_3, a6, op_0]
  refine (c_Of o.1 w1).step ?_
  by_cases k0 : ofK o.1 = 0
  · have ez : (ofK o.1 != 0) = false := by rw [k0]; rfl
    simp -implicitDefEqProofs only [zS, ez]
    exact l_rDoes0 c1 (I.keep c1) Wm hK Wn' a6 a7 f7 hm hd hr (fun h => absurd k0 h)
  · have ez : (ofK o.1 != 0) = true := bne_iff_ne.2 k0
    obtain ⟨i, hi⟩ := known_find ((refuses_code hr).1.resolve_left k0)
    obtain ⟨s2, gn2, rv2, dd2, hh2, R2⟩ := (I.keep c1).rd
    simp -implicitDefEqProofs only [zS, ez, fa_27_0, fa_27_1, ld_3, a7, e0, e1]
    refine (c_rFind R2 (nmOf h) (by rw [rf_len]; exact Nat.le_trans Wm.rl hK)).step ?_
    rw [findX_rf, hi]
    exact l_rDoes0 c1 (I.keep c1) Wm hK Wn' a6 a7 f7 hm hd hr (fun _ => ⟨i, hi, rfl⟩)
/-- a row of regions, grown by an empty one -/
theorem rrs_grown {L : List (RgV × Bool)} {w' : World} {y y' : Value} {xs : List Value} (hh : rrsT L w F y) (hown : w.ownsRow 0 138 8 y L.length xs) (nm : NmV) (cls : Int)
    (ho : w'.ownsRow 0 138 8 y' (L.length + 1) (xs ++ [.int .i64 nm.1, .int .i64 nm.2, .int .i64 cls, .int .i64 0, .bool true, .slice none 0 0, .slice none 0 0, .slice none 0 0])) (hg : w.grownBy w' y.ownBlock) (hnb : NewB w y y') :
    ∃ F', rrsT (L ++ [(⟨nm, cls, 0, [], [], []⟩, true)]) w' F' y' ∧ UpdP F F' w w' := by
  have hy : Parts w (rrT (⟨nm, cls, 0, [], [], []⟩, true)) [.int .i64 nm.1, .int .i64 nm.2, .int .i64 cls, .int .i64 0, .bool true, .slice none 0 0, .slice none 0 0, .slice none 0 0] (fun _ => none') := by
    refine ⟨rfl, fun k P v hP hv => ?_, fun _ _ _ _ _ b hb _ => hb⟩
    have hk := (List.getElem?_eq_some_iff.1 hP).1
    rw [rrT_len] at hk
    have hk' : k = 0 ∨ k = 1 ∨ k = 2 ∨ k = 3 ∨ k = 4 ∨ k = 5 ∨ k = 6 ∨ k = 7 := by omega
    rcases hk' with rfl | rfl | rfl | rfl | rfl | rfl | rfl | rfl <;> cases hP <;> cases hv
    · exact ⟨rfl, fun _ h => h⟩
    · exact ⟨rfl, fun _ h => h⟩
    · exact ⟨rfl, fun _ h => h⟩
    · exact ⟨rfl, fun _ h => h⟩
    · exact ⟨rfl, fun _ h => h⟩
    · exact isRow.nil
    · exact isRow.nil
    · exact isRow.nil
  obtain ⟨F', h1, h2, _⟩ := isRow.grow (G := none') (m := 1) hh (good_rrL L) (good_rr _) hy (fun b => ⟨fun h => h.elim, fun ⟨_, _, h⟩ => h⟩) (fun _ _ h => h) (fun xs' h' => by rw [own_unique h' hown]; exact ho) hg hnb
  refine ⟨F', ?_, ⟨h2.chg.mono fun k hk => hk.resolve_right id, fun k hk => (h2.sub k hk).imp (·.resolve_right id) id⟩⟩
  rw [rrsT, List.length_append, List.flatMap_append]
  simpa using h1
theorem rf_create (Wn' : Wn m K) {s : Nat} {p : NmV} (hp' : m.slots[s]? = some p) (p0 : p.1 = 0) (cls : Int) (hl : laterV p.2 = p.2 + 1) :
    toRf { m with slots := m.slots.set s (1, laterV p.2), rgs := m.rgs ++ [⟨((s : Int), laterV p.2), cls, 0, [], [], []⟩] } =
      { toRf m with state := (toRf m).state.set s 1, gen := (toRf m).gen.set s (laterV p.2), rgs := (toRf m).rgs ++ [(⟨((s : Int), laterV p.2), cls, 0, [], [], []⟩, true)] } := by
  have hsl := (List.getElem?_eq_some_iff.1 hp').1
  have lvN : isLv { m with slots := m.slots.set s (1, laterV p.2), rgs := m.rgs ++ [⟨((s : Int), laterV p.2), cls, 0, [], [], []⟩] } ((s : Int), laterV p.2) = true := by
    unfold isLv
    simp only [List.length_set, Int.toNat_natCast]
    rw [decide_eq_true (by omega), Bool.true_and]
    exact decide_eq_true (by rw [List.getElem?_set, if_pos rfl, if_pos hsl])
  have lvE : ∀ x ∈ m.rgs, isLv { m with slots := m.slots.set s (1, laterV p.2), rgs := m.rgs ++ [⟨((s : Int), laterV p.2), cls, 0, [], [], []⟩] } x.nm = isLv m x.nm := fun x hx => by
    obtain ⟨a, b, c, dd⟩ := Wn'.gn x hx
    unfold isLv
    simp only [List.length_set]
    congr 1
    by_cases hs : s = x.nm.1.toNat
    · have a1 : m.slots[x.nm.1.toNat]? = some p := by rw [← hs]; exact hp'
      have a2 : (m.slots.set s (1, laterV p.2))[x.nm.1.toNat]? = some (1, laterV p.2) := by rw [← hs, List.getElem?_set, if_pos rfl, if_pos hsl]
      have := dd p a1
      rw [decide_eq_false (by rw [a2]; intro e; have := (Prod.mk.inj (Option.some.inj e)).2; omega), decide_eq_false (by rw [a1]; intro e; have := congrArg Prod.fst (Option.some.inj e); simp only at this; omega)]
    · have : (m.slots.set s (1, laterV p.2))[x.nm.1.toNat]? = m.slots[x.nm.1.toNat]? := by rw [List.getElem?_set, if_neg hs]
      rw [this]
  unfold toRf
  simp only [List.map_set, List.map_append, List.map_cons, List.map_nil, lvN]
  congr 1
  congr 1
  exact List.map_congr_left fun x hx => by rw [lvE x hx]
set_option maxHeartbeats 2000000 in
theorem c_rCreate (I : RfI w g (toRf m) F) (Wm : Wf m K) (Wn' : Wn m K) (hK : K + 1 ≤ 1000000) (o : OpV) (r : RsV) :
    CallR Try.prog 82 [.pointer (some ⟨g, 0, none⟩), .agg (opC o).toArray, .agg (rsC r).toArray] w fun v w' => v = .bool (createsV m o.2.2.2.1 r).1 ∧ ∃ F', RfI w' g (toRf (createsV m o.2.2.2.1 r).2) F' ∧ UpdP F F' w w' := by
  apply F82_ok
  simp -implicitDefEqProofs only [F82, effv_box, cells_agg, alloc_size]
  generalize hw : (w.alloc (.cells (opC o).toArray 29)).alloc _ = w1
  have c1 : Chg [] w w1 := by rw [← hw]; exact ((Chg.refl _ _).alloc _).alloc _
  have a4 : hp w1 w.heap.size = some (.cells (opC o).toArray 29) := by rw [← hw, alloc_heap, alloc_size, if_neg (by omega), alloc_heap, if_pos rfl]
  have a5 : hp w1 (w.heap.size + 1) = some (.cells (rsC r).toArray 32) := by rw [← hw, alloc_heap, alloc_size, if_pos rfl]
  clear hw
  have f4 : ¬ F w.heap.size := I.notF (Nat.le_refl _)
  have I1 := I.keep c1
  obtain ⟨s, gn, rv, dd, hh, R⟩ := I1.rd
  have hbe : be Try.prog .eql 32 (.tmp 9) (.tmp 10) (.agg (rsC r).toArray) (.agg (rsC (codeR 7)).toArray) = some (.bool (decide (r = codeR 7))) := be_rs r (codeR 7)
  have hl6 : ldC (hp w1 g) (0 + 6) = some (.bool m.loose) := R.l
  simp -implicitDefEqProofs only [ld_res a5, wpB_some', bdr_0, hbe]
  by_cases r7 : r = codeR 7
  · have cv : createsV m o.2.2.2.1 r = (m.loose || decide (spareN m.slots = 0), m) := by rw [createsV, if_pos r7]
    simp -implicitDefEqProofs only [decide_eq_true r7, zS, fa_126_1, ld_4, hl6]
    rw [cv]
    by_cases hlo : m.loose = true
    · simp -implicitDefEqProofs only [hlo, zS]
      exact ⟨by simp, F, I1, UpdP.of0 c1⟩
    · have hlf : m.loose = false := by simpa using hlo
      simp -implicitDefEqProofs only [hlf, zS]
      refine (c_rSpare R (by simp only [toRf, List.length_map]; exact Wm.sl)).step ?_
      rw [rf_spare]
      simp -implicitDefEqProofs only [zS]
      refine ⟨?_, F, I1, UpdP.of0 c1⟩
      by_cases hz : spareN m.slots = 0
      · rw [hz]; rfl
      · rw [eqf (show (spareN m.slots : Int) ≠ 0 by omega), decide_eq_false hz]; rfl
  · have cvn : ¬ (0 ≤ r.2.1.1 ∧ r.2.1.1 < m.slots.length) → createsV m o.2.2.2.1 r = (false, m) := fun h => by rw [createsV, if_neg r7, if_neg h]
    have hc3 : ldC (hp w1 g) (0 + 0 + 3) = some (.int .i64 m.slots.length) := by
      rw [← Wn'.cs]; exact R.c 3 (by omega)
    have stl : (toRf m).state.length = m.slots.length := by simp [toRf]
    have gnl : (toRf m).gen.length = m.slots.length := by simp [toRf]
    by_cases s0 : r.2.1.1 < 0
    · simp -implicitDefEqProofs only [decide_eq_false r7, zS, fa_32_1, fa_27_0, ld_3, a5, rs_1, s0]
      rw [cvn (by omega)]
      exact ⟨by first | rfl | trivial, F, I1, UpdP.of0 c1⟩
    by_cases s1 : (m.slots.length : Int) ≤ r.2.1.1
    · simp -implicitDefEqProofs only [decide_eq_false r7, zS, fa_32_1, fa_27_0, fa_126_0, fa_25_3, ld_3, a5, rs_1, s0, hc3, bp_geq, ge_iff_le, s1]
      rw [cvn (by omega)]
      exact ⟨by first | rfl | trivial, F, I1, UpdP.of0 c1⟩
    obtain ⟨p, hp'⟩ : ∃ p, m.slots[r.2.1.1.toNat]? = some p := ⟨_, List.getElem?_eq_getElem (by omega)⟩
    have hst : (toRf m).state[r.2.1.1.toNat]? = some p.1 := by simp [toRf, hp']
    have hgn : (toRf m).gen[r.2.1.1.toNat]? = some p.2 := by simp [toRf, hp']
    obtain ⟨b, c, hl, hbg, hFb, hld, hput⟩ := I1.intPut (k := 7) (L := (toRf m).state) rfl hst
    obtain ⟨b8, c8, hl8, hbg8, hFb8, hld8, _⟩ := I1.intPut (k := 8) (L := (toRf m).gen) rfl hgn
    have hl7 : ldC (hp w1 g) (0 + 7) = some (.slice (some ⟨b, 0, none⟩) (toRf m).state.length c) := hl
    have hl8' : ldC (hp w1 g) (0 + 8) = some (.slice (some ⟨b8, 0, none⟩) (toRf m).gen.length c8) := hl8
    have ia := ia_ints (b := b) (n := (toRf m).state.length) (c := c) (i := r.2.1.1) (by omega) (by rw [stl]; omega)
    have ia8 := ia_ints (b := b8) (n := (toRf m).gen.length) (c := c8) (i := r.2.1.1) (by omega) (by rw [gnl]; omega)
    by_cases p0 : p.1 = 0
    · have e0 : (p.1 != 0) = false := by rw [p0]; rfl
      have hld' : ldC (hp w1 b) r.2.1.1.toNat = some (.int .i64 p.1) := hld
      have pg := Wm.sg p (List.mem_of_getElem? hp')
      have pk := Wn'.gk p (List.mem_of_getElem? hp')
      have hlat : laterV p.2 = p.2 + 1 := by rw [laterV, if_pos (by omega)]
      have cv : createsV m o.2.2.2.1 r = if r = (0, (r.2.1.1, laterV p.2, 0, 0, 0), 0, 0) then
          (true, { m with slots := m.slots.set r.2.1.1.toNat (1, laterV p.2), rgs := m.rgs ++ [⟨(r.2.1.1, laterV p.2), o.2.2.2.1, 0, [], [], []⟩] }) else (false, m) := by
        rw [createsV, if_neg r7, if_pos (by omega), hp']
        simp only [ne_eq, p0, not_true_eq_false, if_false]
      have hbe2 : be Try.prog .neq 32 (.tmp 53) (.tmp 57) (.agg (rsC r).toArray) (.agg (rsC (0, (r.2.1.1, laterV p.2, 0, 0, 0), 0, 0)).toArray) = some (.bool (!decide (r = (0, (r.2.1.1, laterV p.2, 0, 0, 0), 0, 0)))) := be_nrs r (0, (r.2.1.1, laterV p.2, 0, 0, 0), 0, 0)
      simp -implicitDefEqProofs only [decide_eq_false r7, zS, fa_32_1, fa_27_0, fa_126_0, fa_126_2, fa_126_3, fa_25_3, ld_3, ld_36, a5, rs_1, s0, hc3, bp_geq, ge_iff_le, s1, hl7, ia, hld', e0, hl8', ia8, hld8]
      refine (c_rLater p.2 pg.2 w1 pg.1).step ?_
      simp -implicitDefEqProofs only [zS, ld_res a5, bdh_01, bdr_1, hbe2]
      by_cases hr : r = (0, (r.2.1.1, laterV p.2, 0, 0, 0), 0, 0)
      · rw [if_pos hr] at cv
        rw [cv]
        have cd : Chg [] w1 w1.drew := (Chg.refl _ _).drew
        have I1d := I1.keep cd
        obtain ⟨bb, cc, hlb, hbgb, hFbb, _, hputb⟩ := I1d.intPut (k := 7) (L := (toRf m).state) rfl hst
        rw [show ldC (hp w1.drew g) 7 = _ from hl] at hlb
        cases hlb
        obtain ⟨ok, F1, t1, t2⟩ := hputb 1
        simp -implicitDefEqProofs only [decide_eq_true hr, zS, fa_126_2, fa_126_3, ld_36, hl7, hl8', ia, ia8]
        rw [st_3 (o := r.2.1.1.toNat) rfl rfl ok]
        have k4a := t2.keep (show hp w1.drew w.heap.size = _ from a4) f4
        have I2 : RfI (put w1.drew b ((getC (hp w1.drew b)).setIfInBounds r.2.1.1.toNat (.int .i64 1)) (getE (hp w1.drew b))) g { toRf m with state := (toRf m).state.set r.2.1.1.toNat 1 } F1 := t1
        have hl82 : ldC (hp (put w1.drew b ((getC (hp w1.drew b)).setIfInBounds r.2.1.1.toNat (.int .i64 1)) (getE (hp w1.drew b))) g) 8 = some (.slice (some ⟨b8, 0, none⟩) (toRf m).gen.length c8) := by rw [put_other (Ne.symm hbg)]; exact hl8
        generalize put w1.drew b ((getC (hp w1.drew b)).setIfInBounds r.2.1.1.toNat (.int .i64 1)) (getE (hp w1.drew b)) = w2 at *
        obtain ⟨bg, cg, hlg, hbgg, _, _, hputg⟩ := I2.intPut (k := 8) (L := (toRf m).gen) rfl hgn
        rw [hl82] at hlg
        cases hlg
        obtain ⟨ok2, F2, t3, t4⟩ := hputg (laterV p.2)
        rw [st_3 (o := r.2.1.1.toNat) rfl rfl ok2]
        have k4b := t4.keep k4a.1 k4a.2
        have I3 : RfI (put w2 b8 ((getC (hp w2 b8)).setIfInBounds r.2.1.1.toNat (.int .i64 (laterV p.2))) (getE (hp w2 b8))) g { toRf m with state := (toRf m).state.set r.2.1.1.toNat 1, gen := (toRf m).gen.set r.2.1.1.toNat (laterV p.2) } F2 := t3
        generalize put w2 b8 ((getC (hp w2 b8)).setIfInBounds r.2.1.1.toNat (.int .i64 (laterV p.2))) (getE (hp w2 b8)) = w3 at *
        have cd3 : Chg [] w3 w3.drew := (Chg.refl _ _).drew
        obtain ⟨v, Fk, hsub, hng, hlr, hRr, hputr⟩ := isAt.repl (I3.keep cd3) (good_rf _) (k := 9) (P := rrsT (toRf m).rgs) rfl
        have hlr' : ldC (hp w3 g) (0 + 9) = some v := hlr
        obtain ⟨xs, Fs, q1, q2, q3, q4⟩ := hRr
        have hlen : (toRf m).rgs.length = m.rgs.length := rf_len m
        have hrl := Wm.rl
        simp -implicitDefEqProofs only [zS, fa_126_4, fa_29_3, ld_124, ld_3, hlr', k4b.1, op_3, bd_138_0_1_2_4]
        refine ps_124 (fun u hu => by simp only [List.mem_cons, List.not_mem_nil, or_false] at hu; rcases hu with rfl | rfl | rfl | rfl | rfl | rfl | rfl | rfl <;> rfl) q1 (by omega) (Nat.zero_le _) fun y' w4 ho hg hnb => ?_
        obtain ⟨F3, r1, r2⟩ := rrs_grown (nm := (r.2.1.1, laterV p.2)) (cls := o.2.2.2.1) (L := (toRf m).rgs) ⟨xs, Fs, q1, q2, q3, q4⟩ q1 ho hg hnb
        obtain ⟨ok3, z1, z2, _, F4, t5, t6⟩ := hputr w4 F3 (rrsT ((toRf m).rgs ++ [(⟨(r.2.1.1, laterV p.2), o.2.2.2.1, 0, [], [], []⟩, true)])) y' r2 (good_rrs _) r1
        rw [st_124 (o := 0 + 9) z1 z2 ok3]
        have hnat : ((r.2.1.1.toNat : Nat) : Int) = r.2.1.1 := by omega
        have rc := rf_create (s := r.2.1.1.toNat) Wn' hp' p0 o.2.2.2.1 hlat
        rw [hnat] at rc
        rw [rc]
        exact ⟨by first | rfl | trivial, F4, t5, ((t2.trans t4).pre (c1.trans cd)).trans (t6.pre cd3)⟩
      · rw [if_neg hr] at cv
        simp -implicitDefEqProofs only [decide_eq_false hr, zS]
        rw [cv]
        exact ⟨by first | rfl | trivial, F, I1, UpdP.of0 c1⟩
    · have e0 : (p.1 != 0) = true := bne_iff_ne.2 p0
      have cv : createsV m o.2.2.2.1 r = (false, m) := by
        rw [createsV, if_neg r7, if_pos (by omega), hp']
        simp only [ne_eq, p0, not_false_eq_true, if_true]
      simp -implicitDefEqProofs only [decide_eq_false r7, zS, fa_32_1, fa_27_0, fa_126_0, fa_126_2, fa_25_3, ld_3, ld_36, a5, rs_1, s0, hc3, bp_geq, ge_iff_le, s1, hl7, ia, hld, e0]
      rw [cv]
      exact ⟨by first | rfl | trivial, F, I1, UpdP.of0 c1⟩
end
end Go.Proofs.Yteapggpkgfiacaa

namespace Go.Proofs.Yteapggpkgfiacaa
open Go Ev Go.RowKit
set_option linter.unusedSimpArgs false
set_option linter.unusedVariables false
set_option maxRecDepth 10000

section
variable {W w : World} {g g7 g11 : Nat} {m : MdV} {x : RfV} {F F0 : Fp} {K : Nat} {o : OpV} {h : HnV} {i : Nat} {p : RgV × Bool} {want : HnV} {need : Int} {r : RsV}
theorem ia_rgs {b n c : Nat} (h1 : i < n) : pureRun Try.prog (Instr.indexAt 124 (.slice (some ⟨b, 0, none⟩) n c) (.int .i64 i)) = some (.pointer (some ⟨b, i * 8, none⟩)) := by
  have := ia_124 (b := b) (p := 0) (n := n) (c := c) (j := .i64) (i := (i : Int)) (by omega) (by omega)
  rw [Int.toNat_natCast, Nat.zero_add] at this
  exact this
theorem set_rr {y z : RgV × Bool} (x : RfV) : { ({ x with rgs := x.rgs.set i y } : RfV) with rgs := ({ x with rgs := x.rgs.set i y } : RfV).rgs.set i z } = { x with rgs := x.rgs.set i z } := by simp [List.set_set]
theorem at_rr {y : RgV × Bool} (hi : x.rgs[i]? = some p) : ({ x with rgs := x.rgs.set i y } : RfV).rgs[i]? = some y := by
  show (x.rgs.set i y)[i]? = _
  rw [List.getElem?_set, if_pos rfl, if_pos (List.getElem?_eq_some_iff.1 hi).1]
set_option maxHeartbeats 2000000 in
theorem l_rAlloc1 (U : UpdP F0 F W w) (I : RfI w g x F) (hi : x.rgs[i]? = some p) (hol : p.1.objs.length ≤ 1000000) (h11 : hp w g11 = some (.cells (hnC want).toArray 27)) :
    P83_1 (.pointer (some ⟨g, 0, none⟩)) (.int .i64 i) (.pointer (some ⟨g11, 0, none⟩)) w fun v w' => v = .bool true ∧ ∃ F', RfI w' g { x with rgs := x.rgs.set i ({ p.1 with objs := p.1.objs ++ [want] }, p.2) } F' ∧ UpdP F0 F' W w' := by
  apply L83_1_ok
  have cd : Chg [] w w.drew := (Chg.refl _ _).drew
  have hil := (List.getElem?_eq_some_iff.1 hi).1
  obtain ⟨b, c, v, Fk, hl, hbg, _, _, hld, hv, hput⟩ := (I.keep cd).rgPut hi (k := 7) (by omega) (P := objsT p.1.objs) rfl
  have hl' : ldC (hp w g) (0 + 9) = some (.slice (some ⟨b, 0, none⟩) x.rgs.length c) := hl
  have hld' : ldC (hp w b) (i * 8 + 7) = some v := hld
  have ia := ia_rgs (b := b) (c := c) hil
  have h11d : hp w.drew g11 = some (.cells (hnC want).toArray 27) := h11
  obtain ⟨hown, _⟩ := flat_own hv
  have fin : ∀ (x' : Value) (w2 : World), w2.ownsRow 0 27 5 x' (p.1.objs.length + 1) (p.1.objs.flatMap hnC ++ hnC want) → w.drew.grownBy w2 v.ownBlock → NewB w.drew v x' →
      ldC (hp w2 g) (0 + 9) = some (.slice (some ⟨b, 0, none⟩) x.rgs.length c) ∧ effu Try.prog (Instr.storeAt 48 (.pointer (some ⟨b, i * 8 + 7, none⟩)) x') w2 fun w' => P83_3 w' fun v w' => v = .bool true ∧ ∃ F', RfI w' g { x with rgs := x.rgs.set i ({ p.1 with objs := p.1.objs ++ [want] }, p.2) } F' ∧ UpdP F0 F' W w' := by
    intro x' w2 ho hg hnb
    obtain ⟨F2, hr2, hu2⟩ := flat_grown (vs := hnC want) hv ho hg hnb
    have hr2' : objsT (p.1.objs ++ [want]) w2 F2 x' := by
      rw [objsT, List.length_append]
      have e : (p.1.objs ++ [want]).flatMap hnC = p.1.objs.flatMap hnC ++ hnC want := by simp
      rw [e]; exact hr2
    obtain ⟨ok, s1, s2, hgg, F3, t1, t2⟩ := hput w2 F2 (objsT (p.1.objs ++ [want])) x' ({ p.1 with objs := p.1.objs ++ [want] }, p.2) hu2 (good_objs _) hr2' rfl
    refine ⟨by rw [hgg]; exact hl, ?_⟩
    rw [st_48 (o := i * 8 + 7) s1 s2 ok]
    apply L83_3_ok
    exact ⟨rfl, F3, t1, U.trans (t2.pre cd)⟩
  simp -implicitDefEqProofs only [L83_1, zS, fa_126_4, fa_138_7, ld_124, ld_48, hl', ia, hld', ld_hn h11d]
  repeat' (with_reducible apply And.intro)
  all_goals
    refine ps_48 (fun u hu => by simp only [List.mem_cons, List.not_mem_nil, or_false] at hu; rcases hu with rfl | rfl | rfl | rfl | rfl <;> rfl) hown (by omega) (Nat.zero_le _) fun x' w2 ho hg hnb => ?_
    obtain ⟨f1, f2⟩ := fin x' w2 ho hg hnb
    try simp -implicitDefEqProofs only [zS, ld_124, f1, ia, fa_138_7]
    exact f2
set_option maxHeartbeats 2000000 in
theorem l_rAlloc4 (U : UpdP F0 F W w) (I : RfI w g x F) (hi : x.rgs[i]? = some p) (hol : p.1.objs.length ≤ 1000000) (h11 : hp w g11 = some (.cells (hnC want).toArray 27)) (n11 : ¬ F g11) :
    P83_4 (.pointer (some ⟨g, 0, none⟩)) (.int .i64 i) (.pointer (some ⟨g11, 0, none⟩)) (.int .i64 need) w fun v w' => v = .bool true ∧ ∃ F', RfI w' g { x with rgs := x.rgs.set i ({ p.1 with off := afterV x.c.2.2.1 need, objs := p.1.objs ++ [want] }, p.2) } F' ∧ UpdP F0 F' W w' := by
  apply L83_4_ok
  have cd : Chg [] w w.drew := (Chg.refl _ _).drew
  have hil := (List.getElem?_eq_some_iff.1 hi).1
  obtain ⟨b, c, v, Fk, hl, hbg, _, _, hld, hv, hput⟩ := (I.keep cd).rgPut hi (k := 3) (by omega) (P := iT p.1.off) rfl
  have hl' : ldC (hp w g) (0 + 9) = some (.slice (some ⟨b, 0, none⟩) x.rgs.length c) := hl
  have ia := ia_rgs (b := b) (c := c) hil
  obtain ⟨_, _, _, _, _, R⟩ := I.rd
  have hc2 : ldC (hp w g) (0 + 0 + 2) = some (.int .i64 x.c.2.2.1) := R.c 2 (by omega)
  obtain ⟨ok, _, _, _, F1, t1, t2⟩ := hput w.drew none' (iT (afterV x.c.2.2.1 need)) (.int .i64 (afterV x.c.2.2.1 need)) ({ p.1 with off := afterV x.c.2.2.1 need }, p.2) (UpdP.none hv.2 _) (good_int _ _) ⟨rfl, fun _ h => h⟩ rfl
  have k11 := t2.keep (show hp w.drew g11 = _ from h11) n11
  have fin := l_rAlloc1 (want := want) (U.trans (t2.pre cd)) t1 (at_rr hi) hol k11.1
  rw [set_rr] at fin
  simp -implicitDefEqProofs only [L83_4, zS, fa_126_4, fa_126_0, fa_25_2, ld_124, ld_3, hl', hc2]
  repeat' (with_reducible apply And.intro)
  all_goals
    refine (c_rAfter x.c.2.2.1 need w.drew).step ?_
    simp -implicitDefEqProofs only [zS, ld_124, hl', ia, fa_138_3]
    rw [st_3 (o := i * 8 + 3) rfl rfl ok]
    exact fin
set_option maxHeartbeats 4000000 in
theorem l_rAlloc2 (U : UpdP F0 F W w) (I : RfI w g x F) (hi : x.rgs[i]? = some p) (hol : p.1.objs.length ≤ 1000000) (hwl : p.1.words.length ≤ 1000000) (w0 : 0 ≤ x.c.2.2.1) (w1 : x.c.2.2.1 ≤ 1024) (h11 : hp w g11 = some (.cells (hnC want).toArray 27)) (n11 : ¬ F g11) :
    P83_2 (.pointer (some ⟨g, 0, none⟩)) (.int .i64 i) (.pointer (some ⟨g11, 0, none⟩)) (.int .i64 need) w fun v w' => v = .bool true ∧ ∃ F', RfI w' g { x with rgs := x.rgs.set i ({ p.1 with words := p.1.words ++ [List.replicate x.c.2.2.1.toNat 0], off := afterV x.c.2.2.1 need, objs := p.1.objs ++ [want] }, p.2) } F' ∧ UpdP F0 F' W w' := by
  apply L83_2_ok
  have cd : Chg [] w w.drew := (Chg.refl _ _).drew
  have hil := (List.getElem?_eq_some_iff.1 hi).1
  obtain ⟨b, c, v5, Fk5, hl, hbg, _, hsub5, hld, hv5, hput5⟩ := (I.keep cd).rgPut hi (k := 6) (by omega) (P := wordsT p.1.words) rfl
  have hl' : ldC (hp w g) (0 + 9) = some (.slice (some ⟨b, 0, none⟩) x.rgs.length c) := hl
  have hld' : ldC (hp w b) (i * 8 + 6) = some v5 := hld
  have ia := ia_rgs (b := b) (c := c) hil
  obtain ⟨_, _, _, _, _, R⟩ := I.rd
  obtain ⟨iu, hiu, hzu, hsu, hbu⟩ := inf_22
  have hc2 : ldC (hp w g) (0 + 0 + 2) = some (.int .i64 ((x.c.2.2.1.toNat : Nat) : Int)) := by
    rw [show ((x.c.2.2.1.toNat : Nat) : Int) = x.c.2.2.1 by omega]; exact R.c 2 (by omega)
  generalize hn : x.c.2.2.1.toNat = n at *
  have hmc : madeCells (Value.int .u64 0).cells (n * iu.size) = (u64s (List.replicate n 0)).toArray := by
    apply Array.toList_inj.1
    rw [hsu, Nat.mul_one]
    have := toList_madeCells_one (Value.int .u64 0) n
    rw [u64s, List.map_replicate]
    exact this
  have ob := own_alloc_u64s (w := w.drew) n (by unfold maxLen; omega)
  have n3 : w.drew.heap.size = w.heap.size := rfl
  simp -implicitDefEqProofs only [L83_2, zS, fa_126_4, fa_126_0, fa_25_2, fa_138_6, ld_124, ld_96, ld_3, hl', ia, hld', hc2, effv_make (P := Try.prog) (kl := .i64) (kc := .i64) (n := n) Try.underlying112 hiu hzu (by rw [hsu]; omega) (by rw [hbu]; omega) (by omega), hmc]
  generalize hwA : w.drew.alloc (.cells (u64s (List.replicate n 0)).toArray 22) = wA at *
  have cA : Chg [] w.drew wA := by rw [← hwA]; exact (Chg.refl _ _).alloc _
  have sA : wA.heap.size = w.heap.size + 1 := by rw [← hwA, alloc_size, n3]
  have hv5A := (good_words p.1.words).frame hv5 (ChgP.of0 cA none') (fun _ _ h => h)
  obtain ⟨xs, Fs, q1, q2, q3, q4⟩ := hv5A
  have hlA := chg_ld cA hl
  have fin : ∀ (x2 : Value) (w4 : World), w4.ownsRow 0 112 1 x2 (p.1.words.length + 1) (xs ++ [.slice (some ⟨w.drew.heap.size, 0, none⟩) n n]) → wA.grownBy w4 v5.ownBlock → NewB wA v5 x2 →
      ldC (hp w4 g) (0 + 9) = some (.slice (some ⟨b, 0, none⟩) x.rgs.length c) ∧ effu Try.prog (Instr.storeAt 96 (.pointer (some ⟨b, i * 8 + 6, none⟩)) x2) w4 fun w' => P83_4 (.pointer (some ⟨g, 0, none⟩)) (.int .i64 i) (.pointer (some ⟨g11, 0, none⟩)) (.int .i64 need) w' fun v w' => v = .bool true ∧ ∃ F', RfI w' g { x with rgs := x.rgs.set i ({ p.1 with words := p.1.words ++ [List.replicate n 0], off := afterV x.c.2.2.1 need, objs := p.1.objs ++ [want] }, p.2) } F' ∧ UpdP F0 F' W w' := by
    intro x2 w4 ho2 hg2 hnb2
    have hy : Parts wA [wordT (List.replicate n 0)] [.slice (some ⟨w.drew.heap.size, 0, none⟩) n n] (fun _ => fun b => b = w.drew.heap.size) := ⟨rfl, fun k P v hP hv => by
      have hk := (List.getElem?_eq_some_iff.1 hP).1
      have : k = 0 := by simp at hk; omega
      subst this
      cases hP; cases hv
      exact ob, fun j k hj hk hjk => by simp at hj hk; omega⟩
    have hF5 : ∀ k, Fk5 k → k < w.heap.size := fun k hk => isAt.lt (I.keep cd) (good_rf x) k (hsub5 k hk)
    obtain ⟨F5, g1, g2, _⟩ := isRow.grow (G := fun b => b = w.drew.heap.size) (m := 1) ⟨xs, Fs, q1, q2, q3, q4⟩ (fun P hP => by obtain ⟨l, _, rfl⟩ := List.mem_map.1 hP; exact good_word l) (fun P hP => by rw [List.mem_singleton.1 hP]; exact good_word _) hy
      (fun b => ⟨fun h => ⟨0, by simp, h⟩, fun ⟨_, _, h⟩ => h⟩) (fun k hk hk2 => by have := hF5 k hk; omega) (fun xs' h' => by rw [own_unique h' q1]; exact ho2) hg2 hnb2
    have hu5 : UpdP Fk5 F5 w.drew w4 := by
      refine ⟨⟨g2.chg.os.trans cA.os, g2.chg.tape.trans cA.tape, g2.chg.output.trans cA.output, by have := g2.chg.size; omega, fun k hk hn => ?_⟩, fun k hk => ?_⟩
      · rw [g2.chg.block k (by omega) (fun h => by rcases h with h | h; exact hn h; omega)]
        exact cA.block k hk (by simp)
      · rcases g2.sub k hk with h | h
        · rcases h with h | h
          · exact .inl h
          · exact .inr (by omega)
        · exact .inr (by omega)
    have g1' : wordsT (p.1.words ++ [List.replicate n 0]) w4 F5 x2 := by
      rw [wordsT, List.length_append, List.map_append]; exact g1
    obtain ⟨ok5, s51, s52, hgg, F6, t51, t52⟩ := hput5 w4 F5 (wordsT (p.1.words ++ [List.replicate n 0])) x2 ({ p.1 with words := p.1.words ++ [List.replicate n 0] }, p.2) hu5 (good_words _) g1' rfl
    refine ⟨by rw [hgg]; exact hl, ?_⟩
    rw [st_96 (o := i * 8 + 6) s51 s52 ok5]
    have k11 := t52.keep (show hp w.drew g11 = _ from h11) n11
    have f := l_rAlloc4 (want := want) (need := need) (U.trans (t52.pre cd)) t51 (at_rr hi) hol k11.1 k11.2
    rw [set_rr] at f
    exact f
  repeat' (with_reducible apply And.intro)
  all_goals
    refine ps_96 (fun u hu => by simp only [List.mem_cons, List.not_mem_nil, or_false] at hu; rcases hu with rfl; rfl) q1 (by omega) (Nat.zero_le _) fun x2 w4 ho2 hg2 hnb2 => ?_
    obtain ⟨f1, f2⟩ := fin x2 w4 ho2 hg2 hnb2
    try simp -implicitDefEqProofs only [zS, ld_124, f1, ia, fa_138_6]
    exact f2
end
end Go.Proofs.Yteapggpkgfiacaa

namespace Go.Proofs.Yteapggpkgfiacaa
open Go Ev Go.RowKit
set_option linter.unusedSimpArgs false
set_option linter.unusedVariables false
set_option maxRecDepth 10000

section
variable {W w : World} {g g7 g11 : Nat} {m : MdV} {F F0 : Fp} {K : Nat} {o : OpV} {h : HnV} {i : Nat} {rg : RgV} {want : HnV} {need : Int} {r : RsV} {nn : Nat}
/-- may the chunk not be? -/
def badV (m : MdV) (ch : Int) : Prop := ch < 0 ∨ m.c.2.1 ≤ ch ∨ takenV m ch = true
instance (m : MdV) (ch : Int) : Decidable (badV m ch) := by unfold badV; infer_instance
set_option maxHeartbeats 4000000 in
theorem l_rAlloc0 (U : UpdP F0 F W w) (I : RfI w g (toRf m) F) (Wm : Wf m K) (hK : K + 1 ≤ 1000000) (hi : m.rgs[i]? = some rg) (h7 : hp w g7 = some (.cells (rsC r).toArray 32)) (h11 : hp w g11 = some (.cells (hnC want).toArray 27)) (n11 : ¬ F g11) :
    P83_0 (.pointer (some ⟨g, 0, none⟩)) (.pointer (some ⟨g7, 0, none⟩)) (.int .i64 i) (.bool (rfitsV rg m.c.2.2.1 need)) (.pointer (some ⟨g11, 0, none⟩)) (.int .i64 need) w fun v w' =>
      v = .bool (if r = (0, want, 0, 0) ∧ (rfitsV rg m.c.2.2.1 need = true ∨ ¬ badV m want.2.2.1) then true else false) ∧ ∃ F', RfI w' g (toRf (if r = (0, want, 0, 0) ∧ (rfitsV rg m.c.2.2.1 need = true ∨ ¬ badV m want.2.2.1) then { m with rgs := m.rgs.set i (growV m.c.2.2.1 need rg want) } else m)) F' ∧ UpdP F0 F' W w' := by
  apply L83_0_ok
  have hbe : be Try.prog .neq 32 (.tmp 81) (.tmp 83) (.agg (rsC r).toArray) (.agg (rsC (0, want, 0, 0)).toArray) = some (.bool (!decide (r = (0, want, 0, 0)))) := be_nrs r (0, want, 0, 0)
  have W1 := Wm.w1
  have W2 := Wm.w2
  have R0 := Wm.rg rg (List.mem_of_getElem? hi)
  have hx : (toRf m).rgs[i]? = some (rg, isLv m rg.nm) := by rw [rgs_rf, hi]; rfl
  have hil := (List.getElem?_eq_some_iff.1 hx).1
  have cd : Chg [] w w.drew := (Chg.refl _ _).drew
  have hol : rg.objs.length ≤ 1000000 := Nat.le_trans R0.ol (by omega)
  simp -implicitDefEqProofs only [L83_0, ld_res h7, ld_hn h11, bdr_1, hbe, wpB_some']
  by_cases hr : r = (0, want, 0, 0)
  · cases hf : rfitsV rg m.c.2.2.1 need with
    | true =>
      have ct : r = (0, want, 0, 0) ∧ (true = true ∨ ¬ badV m want.2.2.1) := ⟨hr, .inl rfl⟩
      rw [if_pos ct, if_pos ct]
      obtain ⟨f1, f2, f3, f4⟩ := fits_need hf
      obtain ⟨b, c, v, Fk, hl, hbg, _, _, hld, hv, hput⟩ := (I.keep cd).rgPut hx (k := 3) (by omega) (P := iT rg.off) rfl
      rw [hv.1] at hld
      have hl' : ldC (hp w g) (0 + 9) = some (.slice (some ⟨b, 0, none⟩) (toRf m).rgs.length c) := hl
      have hld' : ldC (hp w b) (i * 8 + 3) = some (.int .i64 rg.off) := hld
      have ia := ia_rgs (b := b) (c := c) hil
      obtain ⟨ok, _, _, _, F1, t1, t2⟩ := hput w.drew none' (iT (rg.off + need)) (.int .i64 (rg.off + need)) ({ rg with off := rg.off + need }, isLv m rg.nm) (UpdP.none hv.2 _) (good_int _ _) ⟨rfl, fun _ h => h⟩ rfl
      have k11 := t2.keep (show hp w.drew g11 = _ from h11) n11
      have fin := l_rAlloc1 (want := want) (U.trans (t2.pre cd)) t1 (at_rr hx) hol k11.1
      rw [set_rr] at fin
      simp -implicitDefEqProofs only [decide_eq_true hr, zS, fa_126_4, fa_138_3, ld_124, ld_3, hl', ia, hld', bp_add, wrapi (n := rg.off + need) (by omega) (by omega)]
      rw [st_3 (o := i * 8 + 3) rfl rfl ok]
      have eg : growV m.c.2.2.1 need rg want = { rg with off := rg.off + need, objs := rg.objs ++ [want] } := by rw [growV, hf]; rfl
      have er := rf_setRg m hi (r' := { rg with off := rg.off + need, objs := rg.objs ++ [want] }) rfl
      rw [eg, er]
      exact fin
    | false =>
      obtain ⟨s, gn, rv, dd, hh, R⟩ := I.rd
      have hc1 : ldC (hp w g) (0 + 0 + 1) = some (.int .i64 m.c.2.1) := R.c 1 (by omega)
      have e2 : (hnC want).toArray[0 + 2]? = some (.int .i64 want.2.2.1) := rfl
      have bad : badV m want.2.2.1 → ¬ (r = (0, want, 0, 0) ∧ (false = true ∨ ¬ badV m want.2.2.1)) := fun hb ⟨_, h⟩ => by
        rcases h with h | h
        · cases h
        · exact h hb
      by_cases n0 : want.2.2.1 < 0
      · have cn := bad (.inl n0)
        simp -implicitDefEqProofs only [decide_eq_true hr, zS, fa_27_2, ld_3, h11, e2, n0]
        rw [if_neg cn, if_neg cn]
        exact ⟨by first | rfl | trivial, F, RfI.keep I cd, U.post cd⟩
      by_cases n1 : m.c.2.1 ≤ want.2.2.1
      · have cn := bad (.inr (.inl n1))
        simp -implicitDefEqProofs only [decide_eq_true hr, zS, fa_27_2, ld_3, h11, e2, n0, fa_126_0, fa_25_1, hc1, bp_geq, n1, ge_iff_le]
        rw [if_neg cn, if_neg cn]
        exact ⟨by first | rfl | trivial, F, RfI.keep I cd, U.post cd⟩
      simp -implicitDefEqProofs only [decide_eq_true hr, zS, fa_27_2, ld_3, h11, e2, n0, fa_126_0, fa_25_1, hc1, bp_geq, n1, ge_iff_le]
      refine (c_rTaken (R.keep cd) (by rw [rf_len]; exact Nat.le_trans Wm.rl (by omega)) (fun p hp => by
        obtain ⟨y, hy, rfl⟩ := List.mem_map.1 hp
        exact Nat.le_trans (Wm.rg y hy).cl (by omega)) want.2.2.1).mono ?_
      rintro _ w5 ⟨rfl, c5⟩
      rw [rf_taken]
      have c05 := cd.trans c5
      have h115 := c05.at h11 (by simp)
      cases ht : takenV m want.2.2.1 with
      | true =>
        have cn := bad (.inr (.inr ht))
        simp -implicitDefEqProofs only [zS]
        rw [if_neg cn, if_neg cn]
        exact ⟨by first | rfl | trivial, F, RfI.keep I c05, U.post c05⟩
      | false =>
        have nb : ¬ badV m want.2.2.1 := by
          rintro (h1 | h1 | h1)
          · exact n0 h1
          · exact n1 h1
          · rw [ht] at h1; cases h1
        have ct : r = (0, want, 0, 0) ∧ (false = true ∨ ¬ badV m want.2.2.1) := ⟨hr, .inr nb⟩
        have cd5 : Chg [] w5 w5.drew := (Chg.refl _ _).drew
        have c0d := c05.trans cd5
        obtain ⟨b, c, v, Fk, hl, hbg, _, hsub, hld, hv, hput⟩ := (RfI.keep I c0d).rgPut hx (k := 5) (by omega) (P := intsT rg.chunks) rfl
        have hl' : ldC (hp w5 g) (0 + 9) = some (.slice (some ⟨b, 0, none⟩) (toRf m).rgs.length c) := hl
        have hld' : ldC (hp w5 b) (i * 8 + 5) = some v := hld
        have ia := ia_rgs (b := b) (c := c) hil
        obtain ⟨hown, _⟩ := flat_own hv
        have hcl := R0.cl
        simp -implicitDefEqProofs only [zS, fa_126_4, fa_138_5, fa_27_2, ld_124, ld_36, ld_3, hl', ia, hld', h115, e2]
        rw [if_pos ct, if_pos ct]
        have fin : ∀ (x1 : Value) (w2 : World), w2.ownsRow 0 3 1 x1 (rg.chunks.length + 1) (ints rg.chunks ++ [.int .i64 want.2.2.1]) → w5.drew.grownBy w2 v.ownBlock → NewB w5.drew v x1 →
            ldC (hp w2 g) (0 + 9) = some (.slice (some ⟨b, 0, none⟩) (toRf m).rgs.length c) ∧ effu Try.prog (Instr.storeAt 36 (.pointer (some ⟨b, i * 8 + 5, none⟩)) x1) w2 fun w' => P83_2 (.pointer (some ⟨g, 0, none⟩)) (.int .i64 i) (.pointer (some ⟨g11, 0, none⟩)) (.int .i64 need) w' fun v w' => v = .bool true ∧ ∃ F', RfI w' g (toRf { m with rgs := m.rgs.set i (growV m.c.2.2.1 need rg want) }) F' ∧ UpdP F0 F' W w' := by
          intro x1 w2 ho hg hnb
          obtain ⟨F2, hr2, hu2⟩ := flat_grown (vs := [Value.int .i64 want.2.2.1]) hv ho hg hnb
          have hr2' : intsT (rg.chunks ++ [want.2.2.1]) w2 F2 x1 := by
            rw [intsT, List.length_append]
            have e : ints (rg.chunks ++ [want.2.2.1]) = ints rg.chunks ++ [Value.int .i64 want.2.2.1] := by simp [ints]
            rw [e]; exact hr2
          obtain ⟨ok, s1, s2, hgg, F3, t1, t2⟩ := hput w2 F2 (intsT (rg.chunks ++ [want.2.2.1])) x1 ({ rg with chunks := rg.chunks ++ [want.2.2.1] }, isLv m rg.nm) hu2 (good_intsT _) hr2' rfl
          refine ⟨by rw [hgg]; exact hl, ?_⟩
          rw [st_36 (o := i * 8 + 5) s1 s2 ok]
          have k11 := t2.keep (show hp w5.drew g11 = _ from h115) n11
          have f := l_rAlloc2 (want := want) (need := need) (U.trans (t2.pre c0d)) t1 (at_rr hx) hol (by have := R0.wl; simp only; omega) (by show 0 ≤ m.c.2.2.1; omega) W2 k11.1 k11.2
          rw [set_rr] at f
          have eg : growV m.c.2.2.1 need rg want = { rg with chunks := rg.chunks ++ [want.2.2.1], words := rg.words ++ [List.replicate m.c.2.2.1.toNat 0], off := afterV m.c.2.2.1 need, objs := rg.objs ++ [want] } := by rw [growV, hf]; rfl
          have er := rf_setRg m hi (r' := { rg with chunks := rg.chunks ++ [want.2.2.1], words := rg.words ++ [List.replicate m.c.2.2.1.toNat 0], off := afterV m.c.2.2.1 need, objs := rg.objs ++ [want] }) rfl
          rw [eg, er]
          exact f
        repeat' (with_reducible apply And.intro)
        all_goals
          refine ps_36 (fun u hu => by simp only [List.mem_cons, List.not_mem_nil, or_false] at hu; rcases hu with rfl; rfl) hown (by omega) (Nat.zero_le _) fun x1 w2 ho hg hnb => ?_
          obtain ⟨f1, f2⟩ := fin x1 w2 ho hg hnb
          try simp -implicitDefEqProofs only [zS, ld_124, f1, ia, fa_138_5]
          exact f2
  · have cn : ∀ {P : Prop}, ¬ (r = (0, want, 0, 0) ∧ P) := fun h => hr h.1
    simp -implicitDefEqProofs only [decide_eq_false hr, zS]
    rw [if_neg cn, if_neg cn]
    exact ⟨by first | rfl | trivial, F, I, U⟩
set_option maxHeartbeats 4000000 in
theorem c_rAlloc (I : RfI w g (toRf m) F) (Wm : Wf m K) (hK : K + 1 ≤ 1000000) (o : OpV) (h : HnV) (r : RsV) (hf : findR m.rgs (nmOf h) = some i) :
    CallR Try.prog 83 [.pointer (some ⟨g, 0, none⟩), .agg (opC o).toArray, .agg (hnC h).toArray, .agg (rsC r).toArray] w fun v w' => v = .bool (givesV m o.2.2.2.1 h r).1 ∧ ∃ F', RfI w' g (toRf (givesV m o.2.2.2.1 h r).2) F' ∧ UpdP F F' w w' := by
  apply F83_ok
  obtain ⟨x, hi, hnm⟩ := findR_at hf
  have R0 := Wm.rg x (List.mem_of_getElem? hi)
  have W1 := Wm.w1
  have W2 := Wm.w2
  have hx : (toRf m).rgs[i]? = some (x, isLv m x.nm) := by rw [rgs_rf, hi]; rfl
  have hil := (List.getElem?_eq_some_iff.1 hx).1
  have hlen : (toRf m).rgs.length ≤ 1000000 := by rw [rf_len]; exact Nat.le_trans Wm.rl (by omega)
  have gv : givesV m o.2.2.2.1 h r = if rfitsV x m.c.2.2.1 (roundV x.cls o.2.2.2.1) = false ∧ r = codeR 6 then (true, m)
      else if rfitsV x m.c.2.2.1 (roundV x.cls o.2.2.2.1) = false ∧ (r.2.1.2.2.1 < 0 ∨ m.c.2.1 ≤ r.2.1.2.2.1 ∨ takenV m r.2.1.2.2.1 = true) then (false, m)
      else if r = (0, wantV m.c.2.2.1 (roundV x.cls o.2.2.2.1) o.2.2.2.1 x h r.2.1.2.2.1, 0, 0) then (true, { m with rgs := m.rgs.set i (growV m.c.2.2.1 (roundV x.cls o.2.2.2.1) x (wantV m.c.2.2.1 (roundV x.cls o.2.2.2.1) o.2.2.2.1 x h r.2.1.2.2.1)) })
      else (false, m) := by
    rw [givesV, hf]; simp only [hi]
  simp -implicitDefEqProofs only [F83, effv_box, cells_agg, alloc_size]
  generalize hw : ((w.alloc (.cells (opC o).toArray 29)).alloc _).alloc _ = w1
  have c1 : Chg [] w w1 := by rw [← hw]; exact (((Chg.refl _ _).alloc _).alloc _).alloc _
  have b5 : hp w1 w.heap.size = some (.cells (opC o).toArray 29) := by rw [← hw, alloc_heap, alloc_size, alloc_size, if_neg (by omega), alloc_heap, alloc_size, if_neg (by omega), alloc_heap, if_pos rfl]
  have b6 : hp w1 (w.heap.size + 1) = some (.cells (hnC h).toArray 27) := by rw [← hw, alloc_heap, alloc_size, alloc_size, if_neg (by omega), alloc_heap, alloc_size, if_pos rfl]
  have b7 : hp w1 (w.heap.size + 1 + 1) = some (.cells (rsC r).toArray 32) := by rw [← hw, alloc_heap, alloc_size, alloc_size, if_pos rfl]
  clear hw
  obtain ⟨s, gn, rv, dd, hh, R⟩ := (I.keep c1).rd
  have e0 : (hnC h).toArray[0 + 0]? = some (.int .i64 h.1) := rfl
  have e1 : (hnC h).toArray[0 + 1]? = some (.int .i64 h.2.1) := rfl
  simp -implicitDefEqProofs only [zS, fa_27_0, fa_27_1, ld_3, b6, e0, e1]
  refine (c_rFind R (nmOf h) hlen).step ?_
  rw [findX_rf, hf]
  simp -implicitDefEqProofs only [ixR, zS, fa_29_3, ld_3, b5, op_3]
  refine (c_rFits R hx hlen o.2.2.2.1).mono ?_
  rintro _ w2 ⟨rfl, c2⟩
  have c02 := c1.trans c2
  have d5 := c2.at b5 (by simp)
  have d6 := c2.at b6 (by simp)
  have d7 := c2.at b7 (by simp)
  have hbe : be Try.prog .eql 32 (.tmp 24) (.tmp 25) (.agg (rsC r).toArray) (.agg (rsC (codeR 6)).toArray) = some (.bool (decide (r = codeR 6))) := be_rs r (codeR 6)
  have efit : rfitsV (x, isLv m x.nm).1 (toRf m).c.2.2.1 (roundV (x, isLv m x.nm).1.cls o.2.2.2.1) = rfitsV x m.c.2.2.1 (roundV x.cls o.2.2.2.1) := rfl
  rw [efit]
  simp -implicitDefEqProofs only [ld_res d7, bdr_0, hbe, wpB_some']
  by_cases r6 : r = codeR 6
  · simp -implicitDefEqProofs only [decide_eq_true r6, zS]
    cases hfit : rfitsV x m.c.2.2.1 (roundV x.cls o.2.2.2.1) with
    | true =>
      rw [hfit, if_neg (by simp), if_neg (by simp), if_neg (by rw [r6]; intro e; have := congrArg (fun q : RsV => q.1) e; simp [codeR] at this)] at gv
      rw [gv]
      exact ⟨rfl, F, I.keep c02, UpdP.of0 c02⟩
    | false =>
      rw [if_pos ⟨hfit, r6⟩] at gv
      rw [gv]
      exact ⟨rfl, F, I.keep c02, UpdP.of0 c02⟩
  rw [if_neg (fun h => r6 h.2)] at gv
  have bhn : pureRun Try.prog (Instr.build 27 #[(0, .int .i64 h.1), (1, .int .i64 h.2.1), (2, .int .i64 r.2.1.2.2.1), (4, .int .i64 o.2.2.2.1)]) = some (.agg (hnC (h.1, h.2.1, r.2.1.2.2.1, 0, o.2.2.2.1)).toArray) := bd_27_0_1_2_4
  simp -implicitDefEqProofs only [decide_eq_false r6, zS, fa_27_0, fa_27_1, fa_27_2, fa_32_1, fa_29_3, ld_3, d5, d6, d7, e0, e1, rs_3, op_3, bhn, al_27]
  rw [st_hn (c := (hnC noH).toArray) (e := 27) (by rw [alloc_heap, if_pos rfl]; rfl) rfl]
  generalize hw3 : put (w2.alloc _) w2.heap.size _ _ = w3
  have c3 : Chg [] w2 w3 := by rw [← hw3]; exact ((Chg.refl _ _).alloc _).put (.inr (Nat.le_refl _)) _ _
  have a11 : hp w3 w2.heap.size = some (.cells (hnC (h.1, h.2.1, r.2.1.2.2.1, 0, o.2.2.2.1)).toArray 27) := by rw [← hw3]; exact put_same (by simp) _ _
  clear hw3
  have c03 := c02.trans c3
  have f5 := c3.at d5 (by simp)
  have f7 := c3.at d7 (by simp)
  have s2 := c02.size
  have nF : ∀ {y}, w.heap.size ≤ y → ¬ F y := fun hy => I.notF hy
  obtain ⟨b, c, hb9, ⟨cv, wv, ov, Q⟩, _⟩ := rf_flag (I.keep c03) hi
  have ia := ia_rgs (b := b) (c := c) hil
  have cd3 : Chg [] w3 w3.drew := (Chg.refl _ _).drew
  simp -implicitDefEqProofs only [zS, fa_126_4, fa_138_2, fa_29_3, ld_124, ld_3, hb9, ia, Q.c2, f5, op_3]
  refine (c_rRound x.cls o.2.2.2.1 w3.drew).step ?_
  have tail : ∀ (want : HnV) w6, Chg [] w2 w6 → hp w6 w2.heap.size = some (.cells (hnC want).toArray 27) →
      P83_0 (.pointer (some ⟨g, 0, none⟩)) (.pointer (some ⟨w.heap.size + 1 + 1, 0, none⟩)) (.int .i64 i) (.bool (rfitsV x m.c.2.2.1 (roundV x.cls o.2.2.2.1))) (.pointer (some ⟨w2.heap.size, 0, none⟩)) (.int .i64 (roundV x.cls o.2.2.2.1)) w6 fun v w' =>
        v = .bool (if r = (0, want, 0, 0) ∧ (rfitsV x m.c.2.2.1 (roundV x.cls o.2.2.2.1) = true ∨ ¬ badV m want.2.2.1) then true else false) ∧ ∃ F', RfI w' g (toRf (if r = (0, want, 0, 0) ∧ (rfitsV x m.c.2.2.1 (roundV x.cls o.2.2.2.1) = true ∨ ¬ badV m want.2.2.1) then { m with rgs := m.rgs.set i (growV m.c.2.2.1 (roundV x.cls o.2.2.2.1) x want) } else m)) F' ∧ UpdP F F' w w' := by
    intro want w6 c6 h11
    have c06 := c02.trans c6
    exact l_rAlloc0 (UpdP.of0 c06) (I.keep c06) Wm hK hi (c6.at d7 (by simp)) h11 (nF (by omega))
  cases hfit : rfitsV x m.c.2.2.1 (roundV x.cls o.2.2.2.1) with
  | true =>
    rw [hfit] at tail
    obtain ⟨f1, f2, f3, f4⟩ := fits_need hfit
    have ew : wantV m.c.2.2.1 (roundV x.cls o.2.2.2.1) o.2.2.2.1 x h r.2.1.2.2.1 = (h.1, h.2.1, newV x.chunks, x.off, o.2.2.2.1) := by rw [wantV, hfit]; rfl
    rw [hfit, ew] at gv
    simp only [Bool.true_eq_false, false_and, if_false] at gv
    have tl : ∀ w6, Chg [] w2 w6 → hp w6 w2.heap.size = some (.cells (hnC (h.1, h.2.1, newV x.chunks, x.off, o.2.2.2.1)).toArray 27) →
        P83_0 (.pointer (some ⟨g, 0, none⟩)) (.pointer (some ⟨w.heap.size + 1 + 1, 0, none⟩)) (.int .i64 i) (.bool true) (.pointer (some ⟨w2.heap.size, 0, none⟩)) (.int .i64 (roundV x.cls o.2.2.2.1)) w6 fun v w' => v = .bool (givesV m o.2.2.2.1 h r).1 ∧ ∃ F', RfI w' g (toRf (givesV m o.2.2.2.1 h r).2) F' ∧ UpdP F F' w w' := by
      intro w6 c6 h11
      have t := tail _ w6 c6 h11
      rw [gv]
      by_cases hr : r = (0, (h.1, h.2.1, newV x.chunks, x.off, o.2.2.2.1), 0, 0)
      · have ct : r = (0, (h.1, h.2.1, newV x.chunks, x.off, o.2.2.2.1), 0, 0) ∧ (true = true ∨ ¬ badV m (newV x.chunks)) := ⟨hr, .inl rfl⟩
        rw [if_pos ct, if_pos ct] at t; rw [if_pos hr]; exact t
      · have cn : ¬ (r = (0, (h.1, h.2.1, newV x.chunks, x.off, o.2.2.2.1), 0, 0) ∧ (true = true ∨ ¬ badV m (newV x.chunks))) := fun h => hr h.1
        rw [if_neg cn, if_neg cn] at t; rw [if_neg hr]; exact t
    have st2 : ∀ w5 L, hp w5 w2.heap.size = some (.cells (hnC (h.1, h.2.1, r.2.1.2.2.1, 0, o.2.2.2.1)).toArray 27) → effu Try.prog (Instr.storeAt 3 (.pointer (some ⟨w2.heap.size, 0 + 2, none⟩)) (.int .i64 (newV x.chunks))) w5 L = L (put w5 w2.heap.size (hnC (h.1, h.2.1, newV x.chunks, 0, o.2.2.2.1)).toArray 27) := by
      intro w5 L h5
      rw [st_3 (o := 0 + 2) rfl rfl (by rw [h5]; rfl), h5]; rfl
    have st3 : ∀ w5 L, hp w5 w2.heap.size = some (.cells (hnC (h.1, h.2.1, newV x.chunks, 0, o.2.2.2.1)).toArray 27) → effu Try.prog (Instr.storeAt 3 (.pointer (some ⟨w2.heap.size, 0 + 3, none⟩)) (.int .i64 x.off)) w5 L = L (put w5 w2.heap.size (hnC (h.1, h.2.1, newV x.chunks, x.off, o.2.2.2.1)).toArray 27) := by
      intro w5 L h5
      rw [st_3 (o := 0 + 3) rfl rfl (by rw [h5]; rfl), h5]; rfl
    -- where things stand, behind each of the stores
    have Qd : ∀ w5, Chg [] w2 w5 → ∃ A cc, ldC (hp w5 g) (0 + 9) = some (.slice (some ⟨b, 0, none⟩) (toRf m).rgs.length c) ∧ ldC (hp w5 b) (i * 8 + 3) = some (.int .i64 x.off) ∧ ldC (hp w5 b) (i * 8 + 5) = some (.slice A x.chunks.length cc) ∧ RdI .i64 w5 A x.chunks := by
      intro w5 c5
      obtain ⟨b', c', hb', ⟨cv', wv', ov', Q'⟩, _⟩ := rf_flag (I.keep (c02.trans c5)) hi
      obtain ⟨b0, c0, hb0, _, _⟩ := rf_flag (I.keep c02) hi
      have e3 := chg_ld c3 hb0
      rw [hb9] at e3
      cases e3
      rw [chg_ld c5 hb0] at hb'
      cases hb'
      obtain ⟨A, cc, rfl, hRc⟩ := ints_sh Q'.cT
      exact ⟨A, cc, chg_ld c5 hb0, Q'.c3, Q'.c5, hRc⟩
    obtain ⟨A, cc, z1, z2, z3, hRc⟩ := Qd w3.drew (c3.trans cd3)
    have z1' : ldC (hp w3 g) (0 + 9) = some (.slice (some ⟨b, 0, none⟩) (toRf m).rgs.length c) := z1
    have z2' : ldC (hp w3 b) (i * 8 + 3) = some (.int .i64 x.off) := z2
    have z3' : ldC (hp w3 b) (i * 8 + 5) = some (.slice A x.chunks.length cc) := z3
    have hlast : x.chunks[x.chunks.length - 1]? = some (newV x.chunks) := by
      rw [newV, if_neg (by omega), List.getD_eq_getElem?_getD, List.getElem?_eq_getElem (show x.chunks.length - 1 < x.chunks.length by omega)]; rfl
    obtain ⟨q, q1, q2⟩ := int_at (c := cc) hRc hlast
    have hlm : (x.chunks.length : Int) - 1 = ((x.chunks.length - 1 : Nat) : Int) := by omega
    have hcl := R0.cl
    have T : ∀ w5, Chg [] w2 w5 → hp w5 w2.heap.size = some (.cells (hnC (h.1, h.2.1, r.2.1.2.2.1, 0, o.2.2.2.1)).toArray 27) →
        hp (put w5 w2.heap.size (hnC (h.1, h.2.1, newV x.chunks, 0, o.2.2.2.1)).toArray 27) w2.heap.size = some (.cells (hnC (h.1, h.2.1, newV x.chunks, 0, o.2.2.2.1)).toArray 27) ∧
        ldC (hp (put w5 w2.heap.size (hnC (h.1, h.2.1, newV x.chunks, 0, o.2.2.2.1)).toArray 27) g) (0 + 9) = some (.slice (some ⟨b, 0, none⟩) (toRf m).rgs.length c) ∧
        ldC (hp (put w5 w2.heap.size (hnC (h.1, h.2.1, newV x.chunks, 0, o.2.2.2.1)).toArray 27) b) (i * 8 + 3) = some (.int .i64 x.off) ∧
        P83_0 (.pointer (some ⟨g, 0, none⟩)) (.pointer (some ⟨w.heap.size + 1 + 1, 0, none⟩)) (.int .i64 i) (.bool true) (.pointer (some ⟨w2.heap.size, 0, none⟩)) (.int .i64 (roundV x.cls o.2.2.2.1)) (put (put w5 w2.heap.size (hnC (h.1, h.2.1, newV x.chunks, 0, o.2.2.2.1)).toArray 27) w2.heap.size (hnC (h.1, h.2.1, newV x.chunks, x.off, o.2.2.2.1)).toArray 27) fun v w' => v = .bool (givesV m o.2.2.2.1 h r).1 ∧ ∃ F', RfI w' g (toRf (givesV m o.2.2.2.1 h r).2) F' ∧ UpdP F F' w w' := by
      intro w5 c5 h5
      have h6 : hp (put w5 w2.heap.size (hnC (h.1, h.2.1, newV x.chunks, 0, o.2.2.2.1)).toArray 27) w2.heap.size = _ := put_same (blk_lt h5) _ _
      have c26 : Chg [] w2 (put w5 w2.heap.size (hnC (h.1, h.2.1, newV x.chunks, 0, o.2.2.2.1)).toArray 27) := c5.put (.inr (Nat.le_refl _)) _ _
      obtain ⟨A6, cc6, y1, y2, _, _⟩ := Qd _ c26
      exact ⟨h6, y1, y2, tl _ (c26.put (.inr (Nat.le_refl _)) _ _) (put_same (blk_lt h6) (hnC (h.1, h.2.1, newV x.chunks, x.off, o.2.2.2.1)).toArray 27)⟩
    have a11d : hp w3.drew w2.heap.size = some (.cells (hnC (h.1, h.2.1, r.2.1.2.2.1, 0, o.2.2.2.1)).toArray 27) := a11
    have a11e : hp w3.drew.drew w2.heap.size = some (.cells (hnC (h.1, h.2.1, r.2.1.2.2.1, 0, o.2.2.2.1)).toArray 27) := a11
    obtain ⟨h6, y1, y2, t⟩ := T w3.drew (c3.trans cd3) a11d
    obtain ⟨h6e, y1e, y2e, te⟩ := T w3.drew.drew (c3.trans cd3).drew a11e
    have z1e : ldC (hp w3.drew.drew g) (0 + 9) = some (.slice (some ⟨b, 0, none⟩) (toRf m).rgs.length c) := z1
    have z2e : ldC (hp w3.drew.drew b) (i * 8 + 3) = some (.int .i64 x.off) := z2
    have z3e : ldC (hp w3.drew.drew b) (i * 8 + 5) = some (.slice A x.chunks.length cc) := z3
    have q2' : ldv Try.prog 3 (.pointer (some q)) w3.drew = some (.int .i64 (newV x.chunks)) := q2
    have q2e : ldv Try.prog 3 (.pointer (some q)) w3.drew.drew = some (.int .i64 (newV x.chunks)) := q2
    simp -implicitDefEqProofs only [zS, fa_126_4, fa_138_3, fa_138_5, fa_27_2, fa_27_3, ld_124, ld_36, ld_3, z1', z2', z3', z1e, z2e, z3e, ia, len_36, bp_sub, hlm, wrapi (n := ((x.chunks.length - 1 : Nat) : Int)) (by omega) (by omega), q1, q2', q2e]
    repeat' (with_reducible apply And.intro)
    all_goals first
      | (rw [st2 _ _ a11d]
         try simp -implicitDefEqProofs only [zS, fa_126_4, fa_138_3, ld_124, ld_3, y1, y2, ia]
         rw [st3 _ _ h6]
         exact t)
      | (rw [st2 _ _ a11e]
         try simp -implicitDefEqProofs only [zS, fa_126_4, fa_138_3, ld_124, ld_3, y1e, y2e, ia]
         rw [st3 _ _ h6e]
         exact te)
  | false =>
    rw [hfit] at tail
    have ew : wantV m.c.2.2.1 (roundV x.cls o.2.2.2.1) o.2.2.2.1 x h r.2.1.2.2.1 = (h.1, h.2.1, r.2.1.2.2.1, 0, o.2.2.2.1) := by rw [wantV, hfit]; rfl
    rw [hfit, ew] at gv
    simp only [true_and] at gv
    have t := tail _ w3.drew (c3.trans cd3) (show hp w3.drew w2.heap.size = _ from a11)
    simp -implicitDefEqProofs only [zS]
    rw [gv]
    by_cases hb : badV m r.2.1.2.2.1
    · have hb' : r.2.1.2.2.1 < 0 ∨ m.c.2.1 ≤ r.2.1.2.2.1 ∨ takenV m r.2.1.2.2.1 = true := hb
      have cn : ¬ (r = (0, (h.1, h.2.1, r.2.1.2.2.1, 0, o.2.2.2.1), 0, 0) ∧ (false = true ∨ ¬ badV m r.2.1.2.2.1)) := fun ⟨_, h⟩ => by
        rcases h with h | h
        · cases h
        · exact h hb
      rw [if_neg cn, if_neg cn] at t; rw [if_pos hb']; exact t
    · have hb' : ¬ (r.2.1.2.2.1 < 0 ∨ m.c.2.1 ≤ r.2.1.2.2.1 ∨ takenV m r.2.1.2.2.1 = true) := hb
      rw [if_neg hb']
      by_cases hr : r = (0, (h.1, h.2.1, r.2.1.2.2.1, 0, o.2.2.2.1), 0, 0)
      · have ct : r = (0, (h.1, h.2.1, r.2.1.2.2.1, 0, o.2.2.2.1), 0, 0) ∧ (false = true ∨ ¬ badV m r.2.1.2.2.1) := ⟨hr, .inr hb⟩
        rw [if_pos ct, if_pos ct] at t; rw [if_pos hr]; exact t
      · have cn : ¬ (r = (0, (h.1, h.2.1, r.2.1.2.2.1, 0, o.2.2.2.1), 0, 0) ∧ (false = true ∨ ¬ badV m r.2.1.2.2.1)) := fun h => hr h.1
        rw [if_neg cn, if_neg cn] at t; rw [if_neg hr]; exact t
end
end Go.Proofs.Yteapggpkgfiacaa

namespace Go.Proofs.Yteapggpkgfiacaa
open Go Ev Go.RowKit
set_option linter.unusedSimpArgs false
set_option linter.unusedVariables false
set_option maxRecDepth 10000

section
variable {w : World} {g : Nat} {m : MdV} {F : Fp} {K : Nat}
set_option maxHeartbeats 4000000 in
theorem c_rDo (I : RfI w g (toRf m) F) (Wm : Wf m K) (Wn' : Wn m K) (hK : K + 1 ≤ 1000000) (n : Int) (o : OpV) (h : HnV) (r : RsV) :
    CallR Try.prog 51 [.pointer (some ⟨g, 0, none⟩), .int .i64 n, .agg (opC o).toArray, .agg (hnC h).toArray, .agg (rsC r).toArray] w fun v w' => v = .bool (doV m n o h r).1 ∧ ∃ F', RfI w' g (toRf (doV m n o h r).2) F' ∧ UpdP F F' w w' := by
  apply F51_ok
  simp -implicitDefEqProofs only [F51, effv_box, cells_agg, alloc_size]
  generalize hw : ((w.alloc (.cells (opC o).toArray 29)).alloc _).alloc _ = w1
  have c1 : Chg [] w w1 := by rw [← hw]; exact (((Chg.refl _ _).alloc _).alloc _).alloc _
  have a7 : hp w1 w.heap.size = some (.cells (opC o).toArray 29) := by rw [← hw, alloc_heap, alloc_size, alloc_size, if_neg (by omega), alloc_heap, alloc_size, if_neg (by omega), alloc_heap, if_pos rfl]
  have a8 : hp w1 (w.heap.size + 1) = some (.cells (hnC h).toArray 27) := by rw [← hw, alloc_heap, alloc_size, alloc_size, if_neg (by omega), alloc_heap, alloc_size, if_pos rfl]
  have a9 : hp w1 (w.heap.size + 1 + 1) = some (.cells (rsC r).toArray 32) := by rw [← hw, alloc_heap, alloc_size, alloc_size, if_pos rfl]
  clear hw
  have ldo : ∀ w', hp w' w.heap.size = some (.cells (opC o).toArray 29) → ldv Try.prog 29 (.pointer (some ⟨w.heap.size, 0, none⟩)) w' = some (.agg (opC o).toArray) := fun w' hw => ldv_whole (t := 29) (c := (opC o).toArray) ag_29 (show (Try.prog.info? 29).map (·.size) = some (opC o).toArray.size from sz_29) hw
  simp -implicitDefEqProofs only [wpB_some', ldo _ a7]
  refine (c_refMay o w1).mono ?_
  rintro _ w2 ⟨rfl, c2⟩
  have c02 := c1.trans c2
  have b7 := c2.at a7 (by simp)
  have b8 := c2.at a8 (by simp)
  obtain ⟨s, gn, rv, dd, hh, R⟩ := (I.keep c02).rd
  have hc0 : ldC (hp w2 g) (0 + 0 + 0) = some (.int .i64 m.c.1) := R.c 0 (by omega)
  have bad : mayV m n o = false → doV m n o h r = (false, m) := fun e => by rw [doV, if_pos e]
  cases hmo : mayO o with
  | false =>
    simp -implicitDefEqProofs only [zS]
    rw [bad (by simp [mayV, hmo])]
    exact ⟨by first | rfl | trivial, F, I.keep c02, UpdP.of0 c02⟩
  | true =>
  by_cases n0 : n < 0
  · simp -implicitDefEqProofs only [zS, n0]
    rw [bad (by simp only [mayV, Bool.and_eq_false_iff, decide_eq_false_iff_not]; omega)]
    exact ⟨by first | rfl | trivial, F, I.keep c02, UpdP.of0 c02⟩
  by_cases n1 : m.c.1 ≤ n
  · simp -implicitDefEqProofs only [zS, n0, fa_126_0, fa_25_0, ld_3, hc0, bp_geq, n1, ge_iff_le]
    have := Wn'.cw
    rw [bad (by simp only [mayV, Bool.and_eq_false_iff, decide_eq_false_iff_not]; omega)]
    exact ⟨by first | rfl | trivial, F, I.keep c02, UpdP.of0 c02⟩
  obtain ⟨nn, rfl⟩ := Int.eq_ofNat_of_zero_le (show 0 ≤ n by omega)
  have hm : mayV m nn o = true := by
    have := Wn'.cw
    rw [mayV, hmo, decide_eq_true (show (0 : Int) ≤ nn by omega), decide_eq_true (show (nn : Int) < m.hands.length by omega)]; rfl
  obtain ⟨d, hd⟩ := may_hd hm
  have hd' : m.hands[nn]? = some d := hd
  simp -implicitDefEqProofs only [zS, n0, fa_126_0, fa_25_0, ld_3, hc0, bp_geq, n1, ge_iff_le, ldo _ b7, ld_hn b8]
  refine (c_rMust (I.keep c02) Wm (by omega) hm h).mono ?_
  rintro _ w3 ⟨rfl, c3⟩
  have c13 := c2.trans c3
  have c03 := c1.trans c13
  simp -implicitDefEqProofs only [tup0, tup1, zS, al_32]
  rw [st_res (c := (rsC noR).toArray) (e := 32) (by rw [alloc_heap, if_pos rfl]; rfl) rfl]
  generalize hw4 : put (w3.alloc _) w3.heap.size _ _ = w4
  have c4 : Chg [] w3 w4 := by rw [← hw4]; exact ((Chg.refl _ _).alloc _).put (.inr (Nat.le_refl _)) _ _
  have a11 : hp w4 w3.heap.size = some (.cells (rsC (mustV m nn o h).1).toArray 32) := by rw [← hw4]; exact put_same (by simp) _ _
  clear hw4
  have c14 := c13.trans c4
  have c04 := c1.trans c14
  have d7 := c14.at a7 (by simp)
  have d8 := c14.at a8 (by simp)
  have d9 := c14.at a9 (by simp)
  have hbe : be Try.prog .neq 32 (.tmp 39) (.tmp 40) (.agg (rsC r).toArray) (.agg (rsC (mustV m nn o h).1).toArray) = some (.bool (!decide (r = (mustV m nn o h).1))) := be_nrs r _
  cases hi : (mustV m nn o h).2 with
  | true =>
    simp -implicitDefEqProofs only [zS, ld_res d9, ld_res a11, hbe]
    have ed : doV m nn o h r = if r = (mustV m nn o h).1 then (true, if r.1 = 0 then doesV m nn o h else m) else (false, m) := by rw [doV, if_neg (by rw [hm]; simp), if_pos hi]
    by_cases hr : r = (mustV m nn o h).1
    · rw [if_pos hr] at ed
      simp -implicitDefEqProofs only [decide_eq_true hr, zS, fa_32_0, ld_30, d9, rs_0]
      by_cases h0 : r.1 = 0
      · rw [if_pos h0] at ed
        have e0 : (r.1 == 0) = true := by rw [h0]; rfl
        have hrf := must_fine hm hd (by rw [← hr]; exact h0)
        simp -implicitDefEqProofs only [e0, zS, ldo _ d7, ld_hn d8]
        refine (c_rDoes (I.keep c04) Wm (by omega) Wn' hm hd' hrf).mono ?_
        rintro _ w5 ⟨rfl, F5, i5, u5⟩
        apply L51_0_ok
        rw [ed]
        exact ⟨rfl, F5, i5, u5.pre c04⟩
      · rw [if_neg h0] at ed
        simp -implicitDefEqProofs only [eqf h0, zS]
        apply L51_0_ok
        rw [ed]
        exact ⟨rfl, F, I.keep c04, UpdP.of0 c04⟩
    · rw [if_neg hr] at ed
      simp -implicitDefEqProofs only [decide_eq_false hr, zS]
      rw [ed]
      exact ⟨by first | rfl | trivial, F, I.keep c04, UpdP.of0 c04⟩
  | false =>
    obtain ⟨hrf, hk⟩ := must_open hm hd hi
    have ed : doV m nn o h r = if o.1 = 1 then createsV m o.2.2.2.1 r else givesV m o.2.2.2.1 h r := by rw [doV, if_neg (by rw [hm]; simp), if_neg (by rw [hi]; simp)]
    by_cases k1 : o.1 = 1
    · rw [if_pos k1] at ed
      have q : (o.1 == 1) = true := by rw [k1]; rfl
      simp -implicitDefEqProofs only [zS, fa_29_0, ld_3, d7, op_0, q, ld_res d9, ldo _ d7]
      refine (c_rCreate (I.keep c04) Wm Wn' hK o r).mono ?_
      rintro _ w5 ⟨rfl, F5, i5, u5⟩
      rw [ed]
      exact ⟨rfl, F5, i5, u5.pre c04⟩
    · rw [if_neg k1] at ed
      obtain ⟨i, x, hf, _, _, _⟩ := region_ok hrf (by omega)
      simp -implicitDefEqProofs only [zS, fa_29_0, ld_3, d7, op_0, eqf k1, ld_res d9, ld_hn d8, ldo _ d7]
      refine (c_rAlloc (I.keep c04) Wm hK o h r hf).mono ?_
      rintro _ w5 ⟨rfl, F5, i5, u5⟩
      rw [ed]
      exact ⟨rfl, F5, i5, u5.pre c04⟩
end
end Go.Proofs.Yteapggpkgfiacaa

namespace Go.Proofs.Yteapggpkgfiacaa
open Go Ev Go.RowKit
set_option linter.unusedSimpArgs false
set_option linter.unusedVariables false
set_option maxRecDepth 10000

/-- one event: is it right, and the model behind it -/
def ckX (l : List SpV) (e : EvV) (s : SpV) (m : MdV) : Bool × MdV := if e.2.2 = true then backV m (handV l s).1 else doV m s.wk s.op (handV l s) s.re
def ckV (l : List SpV) : List EvV → MdV → Int × Bool
  | [], _ => (-1, true)
  | e :: r, m => match l[e.2.1.toNat]? with
    | none => (0, false)
    | some s => if (ckX l e s m).1 = true then ckV l r (ckX l e s m).2 else (e.2.1, false)
noncomputable def checkV (c : CfV) (l : List SpV) : Int × Bool := if mayC c = true ∧ mayB l = true then ckV l (evs l) (newM c false) else (0, false)
def EvOk (l : List SpV) (E : List EvV) : Prop := ∀ e ∈ E, ∃ i : Nat, i < l.length ∧ e.2.1 = i
theorem sortR_mem : ∀ (l acc : List EvV) (e : EvV), e ∈ l.foldl (fun acc e => putV e acc) acc → e ∈ acc ∨ e ∈ l
  | [], acc, e, h => .inl h
  | x :: l, acc, e, h => by
    rcases sortR_mem l (putV x acc) e h with h | h
    · rcases List.mem_cons.1 ((putV_perm x acc).mem_iff.1 h) with rfl | h
      · exact .inr (by simp)
      · exact .inl h
    · exact .inr (List.mem_cons_of_mem _ h)
theorem evs_ok (l : List SpV) : EvOk l (evs l) := fun e he => by
  rcases sortR_mem _ _ e he with h | h
  · cases h
  obtain ⟨k, s, h1, h2⟩ := rawFrom_mem l 0 e h
  have hk := (List.getElem?_eq_some_iff.1 h1).1
  refine ⟨k, hk, ?_⟩
  unfold evsOf at h2
  rcases List.mem_append.1 h2 with h | h <;> (split at h <;> simp at h; subst h; simp)
theorem ckX_wf {l : List SpV} {e : EvV} {s : SpV} {m : MdV} {K : Nat} (h : Wf m K) : Wf (ckX l e s m).2 (K + 1) := by
  unfold ckX
  split
  · exact (h.back _).mono (by omega)
  · exact h.doV _ _ _ _
theorem ckX_wn {l : List SpV} {e : EvV} {s : SpV} {m : MdV} {K : Nat} (h : Wn m K) (hK : K ≤ 1000000) : Wn (ckX l e s m).2 (K + 1) := by
  unfold ckX
  split
  · exact (h.back _).mono (by omega)
  · exact h.doV hK _ _ _ _
theorem rd_chgP {F : Fp} {w w' : World} {A : Option Addr} {cs : List Value} (h : RdV w A cs) (hc : ChgP F w w') (hn : ∀ p, A = some p → cs ≠ [] → ¬ F p.block) : RdV w' A cs := fun j u hj => by
  obtain ⟨p, hp, hcell⟩ := h j u hj
  have hbl : (p.add j).block = p.block := by unfold Addr.add; split <;> rfl
  have hF := hn p hp fun h => by rw [h] at hj; simp at hj
  have : w'.heap[(p.add j).block]? = w.heap[(p.add j).block]? := hc.block (p.add j).block (cell_lt hcell) (by rw [hbl]; exact hF)
  refine ⟨p, hp, ?_⟩
  unfold World.cell? at hcell ⊢
  rw [this]; exact hcell
/-- the events, apart from a model -/
structure EvR (w : World) (F : Fp) (A : Option Addr) (E : List EvV) : Prop where
  rd : RdV w A (E.flatMap evC)
  ne : ∀ p, A = some p → E ≠ [] → ¬ F p.block
section
variable {W w w' : World} {F F' : Fp} {A : Option Addr} {E : List EvV} {l : List SpV} {g K : Nat} {m : MdV}
theorem EvR.lt (h : EvR w F A E) {p : Addr} (hp : A = some p) (hE : E ≠ []) : p.block < w.heap.size := by
  cases E with
  | nil => exact absurd rfl hE
  | cons e E =>
    obtain ⟨q, hq, hc⟩ := h.rd 0 (.int .i64 e.1) (by simp [evC])
    rw [hp] at hq; cases hq
    have := cell_lt hc
    simpa [Addr.add] using this
theorem EvR.upd (h : EvR w F A E) (u : UpdP F F' w w') : EvR w' F' A E :=
  ⟨rd_chgP h.rd u.chg fun p hp hn => h.ne p hp fun he => hn (by rw [he]; rfl), fun p hp hE hF => by
    rcases u.sub _ hF with h1 | h1
    · exact h.ne p hp hE h1
    · have := h.lt hp hE; omega⟩
theorem EvR.keep (h : EvR w F A E) (c : Chg [] w w') : EvR w' F A E := h.upd (UpdP.of0 c)
theorem At.ldre {b : Nat} {s : SpV} {e : TypeId} (h : hp w b = some (.cells (spA s) e)) : ldv Try.prog 32 (.pointer (some ⟨b, 0 + 12, none⟩)) w = some (.agg (rsC s.re).toArray) := by
  rw [ld_32, h]; rfl
theorem chg_updP {a b c : World} {F F' : Fp} (h : Chg [] a b) (u : UpdP F F' b c) (hF : ∀ k, F k → a.heap.size ≤ k) : Chg [] a c :=
  ⟨u.chg.os.trans h.os, u.chg.tape.trans h.tape, u.chg.output.trans h.output, Nat.le_trans h.size u.chg.size, fun k hk hn => (u.chg.block k (Nat.lt_of_lt_of_le hk h.size) fun hf => by have := hF k hf; omega).trans (h.block k hk hn)⟩
theorem updP_new {a b c : World} {F F' : Fp} (h : Chg [] a b) (u : UpdP F F' b c) (hF : ∀ k, F k → a.heap.size ≤ k) : ∀ k, F' k → a.heap.size ≤ k := fun k hk => by
  rcases u.sub k hk with h1 | h1
  · exact hF k h1
  · have := h.size; omega
def zSpA : Array Value := #[.int .i64 0, .int .i64 0, .int .i64 0, .int .i64 0, .int .i64 0, .int .i64 0, .int .u64 0, .int .u64 0, .int .i64 0, .int .i64 0, .int .i64 0, .int .i64 0, .int .i64 0, .int .i64 0, .int .i64 0, .int .i64 0, .int .i64 0, .int .i64 0, .int .i64 0, .int .u64 0]
def zHnA : Array Value := #[.int .i64 0, .int .i64 0, .int .i64 0, .int .i64 0, .int .i64 0]
theorem l_oCheck (hl : l.length ≤ 1000) {As : Option Addr} {cs : Nat} (hA : RdV W As (l.flatMap spC)) {ce : Nat} (hok : EvOk l E) (hE : E.length ≤ 100000) : ∀ (d k : Nat) (w : World) (m : MdV) (F : Fp) (K : Nat), Chg [] W w → MdI w g m F → Wf m K → (∀ k, F k → W.heap.size ≤ k) → EvR w F A E → K ≤ k → k + d = E.length →
    P9_0 (.slice As l.length cs) (.pointer (some ⟨g, 0, none⟩)) (.slice A E.length ce) (.int .i64 E.length) (.int .i64 k) w fun v w' => v = .tuple #[.int .i64 (ckV l (E.drop k) m).1, .bool (ckV l (E.drop k) m).2] ∧ Chg [] W w' := by
  intro d
  induction d with
  | zero =>
    intro k w m F K hW I Wm hF hev hKk hk
    apply L9_0_ok
    have : ¬ ((k : Int) < E.length) := by omega
    simp -implicitDefEqProofs only [L9_0, zS, this]
    rw [List.drop_of_length_le (by omega)]
    exact ⟨rfl, hW⟩
  | succ d ih =>
    intro k w m F K hW I Wm hF hev hKk hk
    apply L9_0_ok
    have hlt : (k : Int) < E.length := by omega
    have hkE : k < E.length := by omega
    obtain ⟨b, o, q1, q2⟩ := ev_at (c := ce) Try.underlying56 sz_59 hev.rd hkE
    have q3 : ldv Try.prog 59 (.pointer (some ⟨b, o, none⟩)) w = some (.agg (evC E[k]).toArray) := by rw [ld_59, q2.l]; rfl
    simp -implicitDefEqProofs only [L9_0, zS, hlt, q1, q3, al_59]
    rw [st_59 (by rfl) (by rfl) (by rw [alloc_heap, if_pos rfl]; rfl) (by rw [alloc_heap, if_pos rfl]; rfl), alloc_heap, if_pos rfl]
    simp -implicitDefEqProofs only [getE_some]
    generalize hw1 : put (w.alloc _) w.heap.size (evC E[k]).toArray 59 = w1
    have c1 : Chg [] w w1 := by rw [← hw1]; exact ((Chg.refl _ _).alloc _).put (.inr (Nat.le_refl _)) _ _
    have b9 : hp w1 w.heap.size = some (.cells (evC E[k]).toArray 59) := by rw [← hw1, put_heap, if_pos rfl, if_pos (by simp)]
    clear hw1
    have nF9 : ¬ F w.heap.size := fun h => by have := isAt.lt I (good_md _) _ h; omega
    generalize w.heap.size = g9 at *
    obtain ⟨i, hi, hei⟩ := hok E[k] (List.getElem_mem hkE)
    have hW1 := hW.trans c1
    have hA1 := hA.keep hW1.below
    obtain ⟨bs, os, r1, r2⟩ := sp_at' (c := cs) (j := .i64) (i := i) hA1 hi
    have hdrop : E.drop k = E[k] :: E.drop (k + 1) := List.drop_eq_getElem_cons hkE
    have hck : ckV l (E.drop k) m = if (ckX l E[k] l[i] m).1 = true then ckV l (E.drop (k + 1)) (ckX l E[k] l[i] m).2 else (E[k].2.1, false) := by
      rw [hdrop, ckV, hei, Int.toNat_natCast, List.getElem?_eq_getElem hi]
    rw [hck]
    clear hck
    generalize hs : l[i] = s at *
    generalize he : E[k] = e at *
    have e1 : ldC (hp w1 g9) (0 + 1) = some (.int .i64 (i : Int)) := by rw [b9, ldC_some, ← hei]; rfl
    -- behind the answer
    have p2 : ∀ (w' : World) (F' : Fp), hp w' g9 = some (.cells (evC e).toArray 59) → Chg [] W w' → MdI w' g (ckX l e s m).2 F' → (∀ k, F' k → W.heap.size ≤ k) → EvR w' F' A E →
        P9_2 (.slice As l.length cs) (.pointer (some ⟨g, 0, none⟩)) (.pointer (some ⟨g9, 0, none⟩)) (.bool (ckX l e s m).1) (.slice A E.length ce) (.int .i64 E.length) (.int .i64 k) w' fun v w' => v = .tuple #[.int .i64 (if (ckX l e s m).1 = true then ckV l (E.drop (k + 1)) (ckX l e s m).2 else (e.2.1, false)).1, .bool (if (ckX l e s m).1 = true then ckV l (E.drop (k + 1)) (ckX l e s m).2 else (e.2.1, false)).2] ∧ Chg [] W w' := by
      intro w' F' b9' hW' I' hF' hev'
      apply L9_2_ok
      have e1 : ldC (hp w' g9) (0 + 1) = some (.int .i64 e.2.1) := by rw [b9', ldC_some]; rfl
      cases hx : (ckX l e s m).1 with
      | true =>
        simp -implicitDefEqProofs only [L9_2, zS, bp_add, wrapi (n := (k : Int) + 1) (by omega) (by omega), if_true]
        exact ih (k + 1) w' _ F' (K + 1) hW' I' (ckX_wf Wm) hF' hev' (by omega) (by omega)
      | false =>
        simp -implicitDefEqProofs only [L9_2, zS, fa_59_1, ld_3, e1, if_false, Bool.false_eq_true]
        exact ⟨trivial, hW'⟩
    -- with the span and the handle
    have p1 : ∀ (w2 : World) (g10 g11 : Nat), Chg [] w1 w2 → hp w2 g10 = some (.cells (spA s) 34) → hp w2 g11 = some (.cells (hnC (handV l s)).toArray 27) →
        P9_1 (.slice As l.length cs) (.pointer (some ⟨g, 0, none⟩)) (.pointer (some ⟨g9, 0, none⟩)) (.pointer (some ⟨g10, 0, none⟩)) (.pointer (some ⟨g11, 0, none⟩)) (.slice A E.length ce) (.int .i64 E.length) (.int .i64 k) w2 fun v w' => v = .tuple #[.int .i64 (if (ckX l e s m).1 = true then ckV l (E.drop (k + 1)) (ckX l e s m).2 else (e.2.1, false)).1, .bool (if (ckX l e s m).1 = true then ckV l (E.drop (k + 1)) (ckX l e s m).2 else (e.2.1, false)).2] ∧ Chg [] W w' := by
      intro w2 g10 g11 c2 b10 b11
      apply L9_1_ok
      have c12 := c1.trans c2
      have I2 := I.keep c12
      have hev2 := hev.keep c12
      have b92 := c2.at b9 (by simp)
      have e2 : ldC (hp w2 g9) (0 + 2) = some (.bool e.2.2) := by rw [b92, ldC_some]; rfl
      cases hb : e.2.2 with
      | true =>
        rw [hb] at e2
        have h0 : ldC (hp w2 g11) (0 + 0) = some (.int .i64 (handV l s).1) := by rw [b11, ldC_some]; rfl
        simp -implicitDefEqProofs only [L9_1, zS, fa_59_2, fa_27_0, ld_3, ld_4, e2, h0]
        refine (c_mBack I2 _).mono ?_
        rintro _ w3 ⟨rfl, F3, I3, u3⟩
        have hx : ckX l e s m = backV m (handV l s).1 := by rw [ckX, if_pos hb]
        rw [← hx] at I3 ⊢
        exact p2 w3 F3 (u3.chg.at b92 nF9) (chg_updP (hW.trans c12) u3 hF) I3 (updP_new (hW.trans c12) u3 hF) (hev2.upd u3)
      | false =>
        rw [hb] at e2
        have h0 : ldC (hp w2 g10) (0 + 0) = some (.int .i64 s.wk) := sp_c b10 0
        simp -implicitDefEqProofs only [L9_1, zS, fa_59_2, fa_34_0, fa_34_2, fa_34_7, ld_3, ld_4, e2, h0, (at_blk b10).ldop, ld_hn b11, At.ldre b10]
        refine (c_mDo I2 Wm (by omega) _ _ _ _).mono ?_
        rintro _ w3 ⟨rfl, F3, I3, u3⟩
        have hx : ckX l e s m = doV m s.wk s.op (handV l s) s.re := by rw [ckX, if_neg (by rw [hb]; simp)]
        rw [← hx] at I3 ⊢
        exact p2 w3 F3 (u3.chg.at b92 nF9) (chg_updP (hW.trans c12) u3 hF) I3 (updP_new (hW.trans c12) u3 hF) (hev2.upd u3)
    have hd : Chg [] w1 w1.drew := (Chg.refl _ _).drew
    have fin : ∀ (wX : World) (g10 g11 : Nat), Chg [] w1 wX → (∃ z : Array Value, z.size = 20 ∧ hp wX g10 = some (.cells z 34)) → (∃ z : Array Value, z.size = 5 ∧ hp wX g11 = some (.cells z 27)) → g10 ≠ g11 → w1.heap.size ≤ g10 → w1.heap.size ≤ g11 →
        effu Try.prog (Instr.storeAt 34 (.pointer (some ⟨g10, 0, none⟩)) (.agg (spA s))) wX fun w => effu Try.prog (Instr.storeAt 27 (.pointer (some ⟨g11, 0, none⟩)) (.agg (hnC (handV l s)).toArray)) w fun w =>
          P9_1 (.slice As l.length cs) (.pointer (some ⟨g, 0, none⟩)) (.pointer (some ⟨g9, 0, none⟩)) (.pointer (some ⟨g10, 0, none⟩)) (.pointer (some ⟨g11, 0, none⟩)) (.slice A E.length ce) (.int .i64 E.length) (.int .i64 k) w fun v w' => v = .tuple #[.int .i64 (if (ckX l e s m).1 = true then ckV l (E.drop (k + 1)) (ckX l e s m).2 else (e.2.1, false)).1, .bool (if (ckX l e s m).1 = true then ckV l (E.drop (k + 1)) (ckX l e s m).2 else (e.2.1, false)).2] ∧ Chg [] W w' := by
      rintro wX g10 g11 cX ⟨z, hz, b10⟩ ⟨y, hy, b11⟩ hne h10 h11
      rw [st_34 (by rfl) (by rfl) (by rw [b10, okC_some]; exact decide_eq_true (by omega)) (by rw [b10]; exact hz), b10, getE_some]
      have b11' : hp (put wX g10 (spA s) 34) g11 = some (.cells y 27) := by rw [put_heap, if_neg (by omega)]; exact b11
      rw [st_hn b11' hy]
      refine p1 _ g10 g11 ((cX.put (.inr h10) _ _).put (.inr h11) _ _) ?_ (put_same (blk_lt b11') _ _)
      rw [put_heap, if_neg hne]
      exact put_same (blk_lt b10) _ _
    have two : ∀ (wB : World) (o1 o2 : Obj), hp ((wB.alloc o1).alloc o2) wB.heap.size = some o1 ∧ hp ((wB.alloc o1).alloc o2) (wB.heap.size + 1) = some o2 := fun wB o1 o2 =>
      ⟨by rw [alloc_heap, alloc_size, if_neg (by omega), alloc_heap, if_pos rfl], by rw [alloc_heap, alloc_size, if_pos rfl]⟩
    have one : ∀ (wB : World) (o : Obj), hp (wB.alloc o) wB.heap.size = some o := fun wB o => by rw [alloc_heap, if_pos rfl]
    have call : ∀ (wB : World), Chg [] w1 wB → CallR Try.prog 21 [.slice As l.length cs, .int .i64 i] wB fun v w' => v = .agg (hnC (handV l s)).toArray ∧ Chg [] wB w' := fun wB cB => by
      have := c_oHandle0 (c := cs) (by omega) (hA1.keep cB.below) hi
      rw [hs] at this; exact this
    have sd : w1.drew.heap.size = w1.heap.size := rfl
    refine ⟨⟨⟨?_, ?_⟩, ?_⟩, ⟨⟨?_, ?_⟩, ?_⟩⟩
    · simp -implicitDefEqProofs only [zS, fa_59_1, ld_3, hp_drew, e1, r1, (r2.keep hd).ld, al_34, al_27, alloc_size, sd]
      refine callX_chg (call _ ((hd.alloc _).alloc _)) fun v w' hv c => ?_
      subst hv
      obtain ⟨t1, t2⟩ := two w1.drew (.cells zSpA 34) (.cells zHnA 27)
      have cc := ((hd.alloc _).alloc _).trans c
      exact fin w' _ _ cc ⟨_, rfl, c.at t1 (by simp)⟩ ⟨_, rfl, c.at t2 (by simp)⟩ (by omega) (by omega) (by omega)
    · simp -implicitDefEqProofs only [zS, fa_59_1, ld_3, hp_drew, e1, r1, (r2.keep hd).ld, al_34, al_27, alloc_size, sd]
      refine callX_chg (call _ (hd.alloc _)) fun v w' hv c => ?_
      subst hv
      have t1 := one w1.drew (.cells zSpA 34)
      have cc := (hd.alloc _).trans c
      have h1 := c.at t1 (by simp)
      have := blk_lt h1
      have := cc.size
      exact fin _ _ _ (cc.alloc _) ⟨_, rfl, (((Chg.refl [] w').alloc _).at h1 (by simp))⟩ ⟨_, rfl, (one w' (.cells zHnA 27))⟩ (by omega) (by omega) (by omega)
    · simp -implicitDefEqProofs only [zS, fa_59_1, ld_3, hp_drew, e1, r1, (r2.keep hd).ld, al_34, al_27, alloc_size, sd]
      refine callX_chg (call _ hd) fun v w' hv c => ?_
      subst hv
      obtain ⟨t1, t2⟩ := two w' (.cells zSpA 34) (.cells zHnA 27)
      have cc := hd.trans c
      have := cc.size
      exact fin _ _ _ ((cc.alloc _).alloc _) ⟨_, rfl, t1⟩ ⟨_, rfl, t2⟩ (by omega) (by omega) (by omega)
    · simp -implicitDefEqProofs only [zS, fa_59_1, ld_3, hp_drew, e1, r1, (r2.keep hd).ld, al_34, al_27, alloc_size, sd]
      refine callX_chg (call _ ((hd.alloc _).alloc _)) fun v w' hv c => ?_
      subst hv
      obtain ⟨t1, t2⟩ := two w1.drew (.cells zHnA 27) (.cells zSpA 34)
      have cc := ((hd.alloc _).alloc _).trans c
      exact fin w' _ _ cc ⟨_, rfl, c.at t2 (by simp)⟩ ⟨_, rfl, c.at t1 (by simp)⟩ (by omega) (by omega) (by omega)
    · simp -implicitDefEqProofs only [zS, fa_59_1, ld_3, hp_drew, e1, r1, (r2.keep hd).ld, al_34, al_27, alloc_size, sd]
      refine callX_chg (call _ (hd.alloc _)) fun v w' hv c => ?_
      subst hv
      have t1 := one w1.drew (.cells zHnA 27)
      have cc := (hd.alloc _).trans c
      have h1 := c.at t1 (by simp)
      have := blk_lt h1
      have := cc.size
      exact fin _ _ _ (cc.alloc _) ⟨_, rfl, (one w' (.cells zSpA 34))⟩ ⟨_, rfl, (((Chg.refl [] w').alloc _).at h1 (by simp))⟩ (by omega) (by omega) (by omega)
    · simp -implicitDefEqProofs only [zS, fa_59_1, ld_3, hp_drew, e1, r1, (r2.keep hd).ld, al_34, al_27, alloc_size, sd]
      refine callX_chg (call _ hd) fun v w' hv c => ?_
      subst hv
      obtain ⟨t1, t2⟩ := two w' (.cells zHnA 27) (.cells zSpA 34)
      have cc := hd.trans c
      have := cc.size
      exact fin _ _ _ ((cc.alloc _).alloc _) ⟨_, rfl, t2⟩ ⟨_, rfl, t1⟩ (by omega) (by omega) (by omega)
end
end Go.Proofs.Yteapggpkgfiacaa

namespace Go.Proofs.Yteapggpkgfiacaa
open Go Ev Go.RowKit
set_option linter.unusedSimpArgs false
set_option linter.unusedVariables false
set_option maxRecDepth 10000

section
variable {W w w' : World} {F F' : Fp} {A : Option Addr} {E : List EvV} {l : List SpV} {g K : Nat} {m : MdV}
theorem ev_at2 {t e : TypeId} (hs : Try.prog.underlying t = some (.slice e)) (hz : (Try.prog.info? e).map (·.size) = some 3) {w : World} {A : Option Addr} {L : List EvV} {c i b o : Nat} (h : RdV w A (L.flatMap evC)) (hi : i < L.length)
    (q : pureRun Try.prog (Instr.indexAt t (.slice A L.length c) (.int .i64 i)) = some (.pointer (some ⟨b, o, none⟩))) : AtE w b o L[i] := by
  obtain ⟨b', o', q', a⟩ := ev_at (c := c) hs hz h hi
  rw [q] at q'
  cases q'
  exact a
set_option maxHeartbeats 1000000 in
theorem l_refCheck (hl : l.length ≤ 1000) {As : Option Addr} {cs : Nat} (hA : RdV W As (l.flatMap spC)) {ce : Nat} (hok : EvOk l E) (hE : E.length ≤ 100000) : ∀ (d k : Nat) (w : World) (m : MdV) (F : Fp) (K : Nat), Chg [] W w → RfI w g (toRf m) F → Wf m K → Wn m K → (∀ k, F k → W.heap.size ≤ k) → EvR w F A E → K ≤ k → k + d = E.length →
    P28_0 (.slice As l.length cs) (.pointer (some ⟨g, 0, none⟩)) (.slice A E.length ce) (.int .i64 k) w fun v w' => v = .tuple #[.int .i64 (ckV l (E.drop k) m).1, .bool (ckV l (E.drop k) m).2] ∧ Chg [] W w' := by
  intro d
  induction d with
  | zero =>
    intro k w m F K hW I Wm Wn' hF hev hKk hk
    apply L28_0_ok
    have : ¬ ((k : Int) < E.length) := by omega
    simp -implicitDefEqProofs only [L28_0, len_65, zS, this]
    rw [List.drop_of_length_le (by omega)]
    exact ⟨rfl, hW⟩
  | succ d ih =>
    intro k w m F K hW I Wm Wn' hF hev hKk hk
    apply L28_0_ok
    have hlt : (k : Int) < E.length := by omega
    have hkE : k < E.length := by omega
    obtain ⟨b, o, q1, q2⟩ := ev_at (c := ce) Try.underlying65 sz_67 hev.rd hkE
    obtain ⟨i, hi, hei⟩ := hok E[k] (List.getElem_mem hkE)
    have hA0 := hA.keep hW.below
    obtain ⟨bs, os, r1, r2⟩ := sp_at' (c := cs) (j := .i64) (i := i) hA0 hi
    have q2c := q2.c1
    rw [hei] at q2c
    simp -implicitDefEqProofs only [L28_0, len_65, zS, hlt, q1, fa_67_1, ld_3, q2c, r1, r2.ld, al_34]
    rw [st_34 (by rfl) (by rfl) (by rw [alloc_heap, if_pos rfl]; rfl) (by rw [alloc_heap, if_pos rfl]; rfl), alloc_heap, if_pos rfl]
    simp -implicitDefEqProofs only [getE_some]
    generalize hw1 : put (w.alloc _) w.heap.size (spA l[i]) 34 = w1
    have c1 : Chg [] w w1 := by rw [← hw1]; exact ((Chg.refl _ _).alloc _).put (.inr (Nat.le_refl _)) _ _
    have b9 : hp w1 w.heap.size = some (.cells (spA l[i]) 34) := by rw [← hw1, put_heap, if_pos rfl, if_pos (by simp)]
    clear hw1
    have nF9 : ¬ F w.heap.size := fun h => by have := isAt.lt I (good_rf _) _ h; omega
    generalize w.heap.size = g9 at *
    have hW1 := hW.trans c1
    have hdrop : E.drop k = E[k] :: E.drop (k + 1) := List.drop_eq_getElem_cons hkE
    have hck : ckV l (E.drop k) m = if (ckX l E[k] l[i] m).1 = true then ckV l (E.drop (k + 1)) (ckX l E[k] l[i] m).2 else (E[k].2.1, false) := by
      rw [hdrop, ckV, hei, Int.toNat_natCast, List.getElem?_eq_getElem hi]
    rw [hck]
    clear hck
    have q2c' := (ev_at2 Try.underlying65 sz_67 (hev.keep c1).rd hkE q1).c1
    rw [hei] at q2c'
    simp -implicitDefEqProofs only [q2c', zS]
    refine (c_refHandle (c := cs) (by omega) (hA.keep hW1.below) (i : Int)).mono ?_
    rintro _ w2 ⟨rfl, c2⟩
    rw [handX_nat hi]
    simp -implicitDefEqProofs only [al_27, z_hn]
    rw [st_hn (by rw [alloc_heap, if_pos rfl]) rfl]
    generalize hw3 : put (w2.alloc _) w2.heap.size (hnC (handV l l[i])).toArray 27 = w3
    have c3 : Chg [] w2 w3 := by rw [← hw3]; exact ((Chg.refl _ _).alloc _).put (.inr (Nat.le_refl _)) _ _
    have b11 : hp w3 w2.heap.size = some (.cells (hnC (handV l l[i])).toArray 27) := by rw [← hw3, put_heap, if_pos rfl, if_pos (by simp)]
    clear hw3
    generalize w2.heap.size = g11 at *
    have b10 := (c2.trans c3).at b9 (by simp)
    have c13 := c1.trans (c2.trans c3)
    have hW3 := hW.trans c13
    have I3 := I.keep c13
    have hev3 := hev.keep c13
    have q2d := (ev_at2 Try.underlying65 sz_67 hev3.rd hkE q1).c2
    have wr := wrapi (n := (k : Int) + 1) (by omega) (by omega)
    cases hb : E[k].2.2 with
    | true =>
      rw [hb] at q2d
      have h0 : ldC (hp w3 g11) (0 + 0) = some (.int .i64 (handV l l[i]).1) := by rw [b11, ldC_some]; rfl
      simp -implicitDefEqProofs only [q1, zS, fa_67_2, fa_27_0, ld_3, ld_4, q2d, h0]
      have hsl : ((toRf m).state.length : Int) = (toRf m).c.2.2.2.1 := by
        have := Wn'.cs
        simp [toRf, this]
      refine (c_rBack I3 hsl _).mono ?_
      rintro _ w4 ⟨rfl, F4, I4, u4⟩
      rw [rf_back] at I4 ⊢
      have hx : ckX l E[k] l[i] m = backV m (handV l l[i]).1 := by rw [ckX, if_pos hb]
      rw [← hx] at I4 ⊢
      have hW4 := chg_updP hW3 u4 hF
      have hev4 := hev3.upd u4
      cases hr : (ckX l E[k] l[i] m).1 with
      | true =>
        have q2e := (ev_at2 Try.underlying65 sz_67 hev4.rd hkE q1).c2
        rw [hb] at q2e
        simp -implicitDefEqProofs only [zS, q1, fa_67_2, ld_4, q2e, bp_add, wr, if_true]
        exact ih (k + 1) w4 _ F4 (K + 1) hW4 I4 (ckX_wf Wm) (ckX_wn Wn' (by omega)) (updP_new hW3 u4 hF) hev4 (by omega) (by omega)
      | false =>
        have q2e := (ev_at2 Try.underlying65 sz_67 hev4.rd hkE q1).c1
        simp -implicitDefEqProofs only [zS, q1, fa_67_1, ld_3, q2e, if_false, Bool.false_eq_true]
        exact ⟨trivial, hW4⟩
    | false =>
      rw [hb] at q2d
      have h0 : ldC (hp w3 g9) (0 + 0) = some (.int .i64 l[i].wk) := sp_c b10 0
      simp -implicitDefEqProofs only [q1, zS, fa_67_2, fa_34_0, fa_34_2, fa_34_7, ld_3, ld_4, q2d, h0, (at_blk b10).ldop, ld_hn b11, At.ldre b10]
      refine (c_rDo I3 Wm Wn' (by omega) _ _ _ _).mono ?_
      rintro _ w4 ⟨rfl, F4, I4, u4⟩
      have hx : ckX l E[k] l[i] m = doV m l[i].wk l[i].op (handV l l[i]) l[i].re := by rw [ckX, if_neg (by rw [hb]; simp)]
      rw [← hx] at I4 ⊢
      have hW4 := chg_updP hW3 u4 hF
      have hev4 := hev3.upd u4
      cases hr : (ckX l E[k] l[i] m).1 with
      | true =>
        simp -implicitDefEqProofs only [zS, bp_add, wr, if_true]
        exact ih (k + 1) w4 _ F4 (K + 1) hW4 I4 (ckX_wf Wm) (ckX_wn Wn' (by omega)) (updP_new hW3 u4 hF) hev4 (by omega) (by omega)
      | false =>
        have q2e := (ev_at2 Try.underlying65 sz_67 hev4.rd hkE q1).c1
        simp -implicitDefEqProofs only [zS, q1, fa_67_1, ld_3, q2e, if_false, Bool.false_eq_true]
        exact ⟨trivial, hW4⟩
theorem evs_len2 (l : List SpV) : (evs l).length ≤ 2 * l.length := by
  rw [evs, sortR, sortR_len]
  have := rawFrom_len l 0
  unfold rawEv
  simp only [List.length_nil]
  omega
theorem c_refCheck (hl : l.length ≤ 1000) {As : Option Addr} {cs : Nat} (hA : RdV w As (l.flatMap spC)) (c : CfV) : CallR Try.prog 28 [.agg (cfC c).toArray, .slice As l.length cs] w fun v w' => v = .tuple #[.int .i64 (checkV c l).1, .bool (checkV c l).2] ∧ Chg [] w w' := by
  apply F28_ok
  simp -implicitDefEqProofs only [F28, effv_box, cells_agg]
  generalize hw : w.alloc _ = w1
  have c1 : Chg [] w w1 := by rw [← hw]; exact (Chg.refl _ _).alloc _
  have b2 : hp w1 w.heap.size = some (.cells (cfC c).toArray 25) := by rw [← hw, alloc_heap, if_pos rfl]
  clear hw
  simp -implicitDefEqProofs only [ld_cf b2, wpB_some']
  refine (c_cfMay c w1).mono ?_
  rintro _ w2 ⟨rfl, c2⟩
  have c02 := c1.trans c2
  cases hm : mayC c with
  | false =>
    simp -implicitDefEqProofs only [zS]
    have : checkV c l = (0, false) := by rw [checkV, if_neg (by rw [hm]; simp)]
    rw [this]
    exact ⟨rfl, c02⟩
  | true =>
  simp -implicitDefEqProofs only [zS]
  refine (c_RMayRef (by omega) ⟨As, cs, rfl, hA.keep c02.below⟩).mono ?_
  rintro _ w3 ⟨rfl, c3⟩
  have c03 := c02.trans c3
  cases hb : mayB l with
  | false =>
    simp -implicitDefEqProofs only [zS]
    have : checkV c l = (0, false) := by rw [checkV, if_neg (by rw [hb]; simp)]
    rw [this]
    exact ⟨rfl, c03⟩
  | true =>
    have b3 := (c2.trans c3).at b2 (by simp)
    simp -implicitDefEqProofs only [zS, ld_cf b3]
    refine (c_rNew c false hm w3).mono ?_
    rintro _ w4 ⟨g, F, rfl, c4, I, hF⟩
    refine (c_refSort (c := cs) (by omega) (hA.keep (c03.trans c4).below)).mono ?_
    rintro v w5 ⟨⟨Ae, ce, rfl, hR, _, hB⟩, c5⟩
    have : checkV c l = ckV l ((evs l).drop 0) (newM c false) := by rw [checkV, if_pos ⟨hm, hb⟩]; rfl
    rw [this]
    have c05 := (c03.trans c4).trans c5
    refine l_refCheck (g := g) (A := Ae) hl hA (evs_ok l) (by have := evs_len2 l; omega) (evs l).length 0 w5 (newM c false) F 0 c05 (I.keep c5) (wf_new hm false) (wn_new hm false) (fun k hk => by have := hF k hk; have := c03.size; omega)
      ⟨hR, fun p hp _ hf => by have h1 := isAt.lt I (good_rf _) _ hf; have := hB p hp; omega⟩ (Nat.le_refl _) (by omega)
theorem c_oCheck (hl : l.length ≤ 10) {As : Option Addr} {cs : Nat} (hA : RdV w As (l.flatMap spC)) (c : CfV) : CallR Try.prog 9 [.agg (cfC c).toArray, .slice As l.length cs] w fun v w' => v = .tuple #[.int .i64 (checkV c l).1, .bool (checkV c l).2] ∧ Chg [] w w' := by
  apply F9_ok
  simp -implicitDefEqProofs only [F9, effv_box, cells_agg]
  generalize hw : w.alloc _ = w1
  have c1 : Chg [] w w1 := by rw [← hw]; exact (Chg.refl _ _).alloc _
  have b2 : hp w1 w.heap.size = some (.cells (cfC c).toArray 25) := by rw [← hw, alloc_heap, if_pos rfl]
  clear hw
  simp -implicitDefEqProofs only [ld_cf b2, wpB_some']
  refine (c_mNew c w1).mono ?_
  rintro v w2 ⟨c2, hv⟩
  have c02 := c1.trans c2
  rcases hv with ⟨hm, rfl⟩ | ⟨hm, g, F, rfl, I, hF⟩
  · simp -implicitDefEqProofs only [tup0, tup1, zS, show ((1 : Int) != 0) = true from rfl]
    have : checkV c l = (0, false) := by rw [checkV, if_neg (by rw [hm]; simp)]
    rw [this]
    exact ⟨rfl, c02⟩
  have b3 := c2.at b2 (by simp)
  simp -implicitDefEqProofs only [tup0, tup1, zS, ld_cf b3]
  refine (c_layMay c w2).mono ?_
  rintro _ w3 ⟨rfl, c3⟩
  simp -implicitDefEqProofs only [hm, zS]
  have c03 := c02.trans c3
  refine (c_RMay (by omega) ⟨As, cs, rfl, hA.keep c03.below⟩).mono ?_
  rintro _ w4 ⟨rfl, c4⟩
  have c04 := c03.trans c4
  cases hb : mayB l with
  | false =>
    simp -implicitDefEqProofs only [zS]
    have : checkV c l = (0, false) := by rw [checkV, if_neg (by rw [hb]; simp)]
    rw [this]
    exact ⟨rfl, c04⟩
  | true =>
    simp -implicitDefEqProofs only [zS]
    refine (c_oSort (c := cs) (by omega) (hA.keep c04.below)).mono ?_
    rintro v w5 ⟨hv, c5⟩
    rw [if_pos hb] at hv
    obtain ⟨Ae, ce, rfl, hR, _, hB⟩ := hv
    have : checkV c l = ckV l ((evs l).drop 0) (newM c false) := by rw [checkV, if_pos ⟨hm, hb⟩]; rfl
    rw [this]
    have c05 := c04.trans c5
    have c25 := c3.trans (c4.trans c5)
    simp -implicitDefEqProofs only [len_56, wpB_some']
    refine l_oCheck (g := g) (A := Ae) (by omega) hA (evs_ok l) (by have := evs_len2 l; omega) (evs l).length 0 w5 (newM c false) F 0 c05 (I.keep c25) (wf_new hm false) (fun k hk => by have := hF k hk; have := c1.size; omega)
      ⟨hR, fun p hp _ hf => by have h1 := isAt.lt I (good_md _) _ hf; have := hB p hp; have := (c3.trans c4).size; omega⟩ (Nat.le_refl _) (by omega)
end
end Go.Proofs.Yteapggpkgfiacaa

namespace Go.Proofs.Yteapggpkgfiacaa
open Go Ev Go.RowKit
set_option linter.unusedSimpArgs false
set_option linter.unusedVariables false
set_option maxRecDepth 10000

theorem spC_one0 (s : SpV) : ∀ u ∈ spC s, u.oneCell' = true := fun u hu => List.all_eq_true.1 (show (spC s).all (·.oneCell') = true from rfl) u hu
theorem rdV_blk {w : World} {b : Nat} {cs : List Value} {e : TypeId} (h : hp w b = some (.cells cs.toArray e)) : RdV w (some ⟨b, 0, none⟩) cs := fun j u hj => by
  refine ⟨_, rfl, ?_⟩
  rw [addr_add, cell_ldC, h, ldC_some, Nat.zero_add]
  simpa using hj
theorem ap_spans {w : World} {A : Option Addr} {n c : Nat} {l : List SpV} {K : Value → World → Prop} (hn : n = l.length) (hl : l.length ≤ 1000) (hR : RdV w A (l.flatMap spC))
    (hk : ∀ A' c' w', RdV w' A' (l.flatMap spC) → Chg [] w w' → K (.slice A' l.length c') w') : effv Try.prog (Builtin.append_ #[35, 35] 35 #[(.slice none 0 0), .slice A n c]) w K := by
  obtain ⟨i, hi, hz, hs, hb⟩ := inf_34
  subst hn
  refine eff_append (base := w.heap.size) (xs := []) (n := 0) (news := l.flatMap spC) (m := l.length) Try.underlying35 hi hz hs rfl (by omega) (World.ownsRow_nil _ _ _ _) (flat_len spC_len l) (fun j u hj => hR j u hj) (fun u hu => ?_) (by unfold maxLen; omega) (by rw [hb]; omega) (Nat.le_refl _)
    fun x' w1 ho hg => ?_
  · obtain ⟨s, _, hu⟩ := List.mem_flatMap.1 hu
    exact spC_one0 s u hu
  have hc1 : Chg [] w w1 := (Chg.refl _ _).grown hg fun k hk => by simp [Value.ownBlock] at hk
  rw [List.nil_append, Nat.zero_add] at ho
  obtain ⟨A', c', rfl, hR', _⟩ := rdV_of_own ho
  exact hk A' c' w1 hR' hc1
def re0 : RsV := (0, (0, 0, 0, 0, 0), 0, 0)
def re4 : RsV := (4, (0, 0, 0, 0, 0), 0, 0)
def cF : CfV := (1, 1, 8, 1, 0, 1)
def opP : OpV := (3, 0, 0, 0, 0, 0)
def sF (r : RsV) : SpV := ⟨0, 0, opP, 0, 1, -1, 1, r⟩
theorem may_one (r : RsV) : mayB [sF r] = true := mayB_t fun i hi s hs => by
  have hi : i < 1 := hi
  obtain rfl : i = 0 := by omega
  have : sF r = s := Option.some.inj hs
  subst this
  exact ⟨rfl, fun p h => by omega, fun k a h => by omega⟩
theorem ck0 : checkV cF [] = (-1, true) := by
  rw [checkV, if_pos ⟨by decide, mayB_t fun i hi => absurd hi (by simp)⟩]; rfl
theorem ck1 : checkV cF [sF re0] = (-1, true) := by
  rw [checkV, if_pos ⟨by decide, may_one _⟩]; decide +kernel
theorem ck2 : checkV cF [sF re4] = (0, false) := by
  rw [checkV, if_pos ⟨by decide, may_one _⟩]; decide +kernel
set_option maxHeartbeats 1000000 in
theorem c_first25 (w : World) : CallR Try.prog 8 [] w fun v w' => v = .bool true ∧ Chg [] w w' := by
  apply F8_ok
  have hbc : pureRun Try.prog (Instr.build 25 #[(0, .int .i64 1), (1, .int .i64 1), (2, .int .i64 8), (3, .int .i64 1), (5, .int .i64 1)]) = some (.agg (cfC cF).toArray) := bd_25_0_1_2_3_5
  have hbs : pureRun Try.prog (Instr.build 34 #[(2, .agg (opC opP).toArray), (4, .int .i64 1), (5, .int .i64 (-1)), (6, .int .i64 1)]) = some (.agg (spA (sF re0))) := bd_34_2_4_5_6
  have hbo : pureRun Try.prog (Instr.build 29 #[(0, .int .i64 3)]) = some (.agg (opC opP).toArray) := bd_29_0
  have hsl : ∀ (s : SpV) (w : World) (K : Value → World → Prop), effv Try.prog (Instr.buildSlice 35 1 #[(0, .agg (spA s))]) w K = K (.slice (some ⟨w.heap.size, 0, none⟩) 1 1) (w.alloc (.cells (spA s) 34)) := fun s w K => bs_35_1
  simp -implicitDefEqProofs only [F8, hbc, wpB_some', al_25]
  rw [st_25 rfl rfl (by rw [alloc_heap, if_pos rfl]; rfl) (by rw [alloc_heap, if_pos rfl]; rfl), alloc_heap, if_pos rfl, getE_some]
  generalize hw1 : put (w.alloc _) w.heap.size (cfC cF).toArray 25 = w1
  have c1 : Chg [] w w1 := by rw [← hw1]; exact ((Chg.refl _ _).alloc _).put (.inr (Nat.le_refl _)) _ _
  have b1 : hp w1 w.heap.size = some (.cells (cfC cF).toArray 25) := by rw [← hw1, put_heap, if_pos rfl, if_pos (by simp)]
  clear hw1
  simp -implicitDefEqProofs only [ld_cf b1, wpB_some']
  refine (c_oCheck (l := []) (by simp) (As := none) (cs := 0) (RdV.nil _ _) cF).mono ?_
  rintro _ w2 ⟨rfl, c2⟩
  rw [ck0]
  have b2 := c2.at b1 (by simp)
  simp -implicitDefEqProofs only [tup0, tup1, zS, hbo, hbs, al_34]
  rw [st_34 (by rfl) (by rfl) (by rw [alloc_heap, if_pos rfl]; rfl) (by rw [alloc_heap, if_pos rfl]; rfl), alloc_heap, if_pos rfl, getE_some]
  generalize hw3 : put (w2.alloc _) w2.heap.size (spA (sF re0)) 34 = w3
  have c3 : Chg [] w2 w3 := by rw [← hw3]; exact ((Chg.refl _ _).alloc _).put (.inr (Nat.le_refl _)) _ _
  have b3 : hp w3 w2.heap.size = some (.cells (spA (sF re0)) 34) := by rw [← hw3, put_heap, if_pos rfl, if_pos (by simp)]
  clear hw3
  have b23 := c3.at b2 (by simp)
  have hne : w2.heap.size ≠ w.heap.size := by have := blk_lt b2; omega
  have hge : w.heap.size ≤ w2.heap.size := by have := blk_lt b2; omega
  generalize w2.heap.size = g4 at *
  simp -implicitDefEqProofs only [ld_cf b23, (at_blk b3).ld, wpB_some', hsl]
  have ca : ∀ s, Chg [] w3 (w3.alloc (.cells (spA s) 34)) := fun s => (Chg.refl _ _).alloc _
  have ra : ∀ (s : SpV) (w : World), RdV (w.alloc (.cells (spA s) 34)) (some ⟨w.heap.size, 0, none⟩) ([s].flatMap spC) := fun s w => by
    have := rdV_blk (w := w.alloc (.cells (spA s) 34)) (b := w.heap.size) (cs := spC s) (e := 34) (by rw [alloc_heap, if_pos rfl]; rfl)
    simpa using this
  refine (c_oCheck (l := [sF re0]) (by simp) (cs := 1) (ra (sF re0) w3) cF).mono ?_
  rintro _ w4 ⟨rfl, c4⟩
  rw [ck1]
  have c34 := (ca _).trans c4
  have b34 := c34.at b3 (by simp)
  have b24 := c34.at b23 (by simp)
  have st4 : ∀ (L : World → Prop), effu Try.prog (Instr.storeAt 30 (.pointer (some ⟨g4, 0 + 12 + 0, none⟩)) (.int .i64 4)) w4 L = L (put w4 g4 (spA (sF re4)) 34) := fun L => by
    rw [effu_store1 sz_30 rfl rfl (by rw [b34]; rfl), b34]; rfl
  simp -implicitDefEqProofs only [tup0, tup1, zS, fa_34_7, fa_32_0, st4]
  have c5 : Chg [] w (put w4 g4 (spA (sF re4)) 34) := (((c1.trans c2).trans c3).trans c34).put (.inr hge) _ _
  have b5 : hp (put w4 g4 (spA (sF re4)) 34) g4 = some (.cells (spA (sF re4)) 34) := put_same (blk_lt b34) _ _
  have b25 : hp (put w4 g4 (spA (sF re4)) 34) w.heap.size = some (.cells (cfC cF).toArray 25) := by rw [put_heap, if_neg (by omega)]; exact b24
  generalize put w4 g4 (spA (sF re4)) 34 = w5 at *
  simp -implicitDefEqProofs only [ld_cf b25, (at_blk b5).ld, wpB_some', hsl]
  refine (c_oCheck (l := [sF re4]) (by simp) (cs := 1) (ra (sF re4) w5) cF).mono ?_
  rintro _ w6 ⟨rfl, c6⟩
  rw [ck2]
  simp -implicitDefEqProofs only [tup0, tup1, zS]
  exact ⟨trivial, (c5.alloc _).trans c6⟩
end Go.Proofs.Yteapggpkgfiacaa

namespace Go.Proofs.Yteapggpkgfiacaa
open Go Ev Go.RowKit
set_option linter.unusedSimpArgs false
set_option linter.unusedVariables false
set_option maxRecDepth 10000

theorem hn_eql (h : HnV) (x y : Operand) : be Try.prog .eql 27 x y (.agg (hnC h).toArray) (.agg (hnC h).toArray) = some (.bool true) := be_eql_27.trans (by simp)
theorem hn_neq (h : HnV) (x y : Operand) : be Try.prog .neq 27 x y (.agg (hnC h).toArray) (.agg (hnC h).toArray) = some (.bool false) := be_neq_27.trans (by simp)
section
variable {W : World} {l : List SpV} {As : Option Addr} {cs : Nat}
/-- the handles of all, and of one ahead and behind -/
theorem l_says2 (hl : l.length ≤ 1000) (hA : RdV W As (l.flatMap spC)) (hm : mayB l = true) : ∀ (d : Nat) (j : Int) (w : World), Chg [] W w → -1 ≤ j → j + d = l.length + 1 →
    P12_2 (.slice As l.length cs) (.int .i64 j) w fun v w' => v = .bool true ∧ Chg [] W w' := by
  intro d
  induction d with
  | zero =>
    intro j w hW h1 hj
    apply L12_2_ok
    have : ¬ (j ≤ l.length) := by omega
    simp -implicitDefEqProofs only [L12_2, len_35, zS, this]
    exact ⟨trivial, hW⟩
  | succ d ih =>
    intro j w hW h1 hj
    apply L12_2_ok
    have hle : j ≤ l.length := by omega
    simp -implicitDefEqProofs only [L12_2, len_35, zS, hle]
    refine (c_oHandle (c := cs) (by omega) (hA.keep hW.below) j).mono ?_
    rintro _ w2 ⟨rfl, c2⟩
    have hW2 := hW.trans c2
    refine (c_refHandle (c := cs) (by omega) (hA.keep hW2.below) j).mono ?_
    rintro _ w3 ⟨rfl, c3⟩
    have : handQ l j = handX l j := by rw [handQ, if_pos hm]
    rw [this]
    simp -implicitDefEqProofs only [hn_neq, zS, bp_add, wrapi (n := j + 1) (by omega) (by omega)]
    exact ih (j + 1) w3 (hW2.trans c3) (by omega) (by omega)
/-- the events, one by one -/
theorem l_says1 (hl : l.length ≤ 1000) (hA : RdV W As (l.flatMap spC)) (hm : mayB l = true) {A1 A2 : Option Addr} {c1 c2 : Nat} {E : List EvV} (hE : E.length ≤ 100000) : ∀ (d k : Nat) (w : World), RdV w A1 (E.flatMap evC) → RdV w A2 (E.flatMap evC) → Chg [] W w → k + d = E.length →
    P12_1 (.slice As l.length cs) (.slice A1 E.length c1) (.slice A2 E.length c2) (.int .i64 k) w fun v w' => v = .bool true ∧ Chg [] W w' := by
  intro d
  induction d with
  | zero =>
    intro k w h1 h2 hW hk
    apply L12_1_ok
    have : ¬ ((k : Int) < E.length) := by omega
    simp -implicitDefEqProofs only [L12_1, len_56, zS, this]
    exact l_says2 hl hA hm (l.length + 2) (-1) w hW (by omega) (by omega)
  | succ d ih =>
    intro k w h1 h2 hW hk
    apply L12_1_ok
    have hlt : (k : Int) < E.length := by omega
    have hkE : k < E.length := by omega
    obtain ⟨b, o, q1, q2⟩ := ev_at (c := c1) Try.underlying56 sz_59 h1 hkE
    obtain ⟨b', o', r1, r2⟩ := ev_at (c := c2) Try.underlying65 sz_67 h2 hkE
    simp -implicitDefEqProofs only [L12_1, len_56, zS, hlt, q1, r1, fa_59_0, fa_59_1, fa_59_2, fa_67_0, fa_67_1, fa_67_2, ld_3, ld_4, hp_drew, q2.c0, q2.c1, q2.c2, r2.c0, r2.c1, r2.c2,
      be_neqb Try.underlying4, bp_add, wrapi (n := (k : Int) + 1) (by omega) (by omega)]
    exact ih (k + 1) w.drew h1 h2 hW.drew (by omega)
theorem c_says25 (hl : l.length ≤ 10) {w : World} (hA : RdV w As (l.flatMap spC)) (c : CfV) : CallR Try.prog 12 [.agg (cfC c).toArray, .slice As l.length cs] w fun v w' => v = .bool true ∧ Chg [] w w' := by
  apply F12_ok
  simp -implicitDefEqProofs only [F12, effv_box, cells_agg]
  generalize hw : w.alloc _ = w1
  have c1 : Chg [] w w1 := by rw [← hw]; exact (Chg.refl _ _).alloc _
  have b2 : hp w1 w.heap.size = some (.cells (cfC c).toArray 25) := by rw [← hw, alloc_heap, if_pos rfl]
  clear hw
  have b2d : hp w1.drew w.heap.size = some (.cells (cfC c).toArray 25) := b2
  have c1d := c1.drew
  -- behind the program's Check
  have rest : ∀ w2 : World, Chg [] w1 w2 → P12_0 (.slice As l.length cs) (.pointer (some ⟨w.heap.size, 0, none⟩)) (.int .i64 (checkV c l).1) (.bool (checkV c l).2) w2 fun v w' => v = .bool true ∧ Chg [] w w' := by
    intro w2 c2
    apply L12_0_ok
    have c02 := c1.trans c2
    simp -implicitDefEqProofs only [L12_0, ld_cf (c2.at b2 (by simp)), wpB_some']
    refine (c_refCheck (cs := cs) (by omega) (hA.keep c02.below) c).mono ?_
    rintro _ w3 ⟨rfl, c3⟩
    have c03 := c02.trans c3
    simp -implicitDefEqProofs only [tup0, tup1, zS, be_neqb Try.underlying4]
    refine (c_RMayRef (by omega) ⟨As, cs, rfl, hA.keep c03.below⟩).mono ?_
    rintro _ w4 ⟨rfl, c4⟩
    have c04 := c03.trans c4
    cases hm : mayB l with
    | false =>
      simp -implicitDefEqProofs only [zS]
      refine (c_oSort (c := cs) (by omega) (hA.keep c04.below)).mono ?_
      rintro v w5 ⟨hv, c5⟩
      rw [if_neg (by rw [hm]; simp)] at hv
      obtain ⟨Ae, ce, rfl, _⟩ := hv
      have c05 := c04.trans c5
      simp -implicitDefEqProofs only [len_56, zS, List.length_nil, show (((0 : Nat) : Int) == 0) = true from rfl]
      refine (c_oHandle (c := cs) (by omega) (hA.keep c05.below) 0).mono ?_
      rintro _ w6 ⟨rfl, c6⟩
      have : handQ l 0 = noH := by rw [handQ, if_neg (by rw [hm]; simp)]
      rw [this]
      simp -implicitDefEqProofs only [bdh_, zS, hn_eql]
      exact ⟨trivial, c05.trans c6⟩
    | true =>
      simp -implicitDefEqProofs only [zS]
      refine ap_spans rfl (by omega) (hA.keep c04.below) fun A' c' w5 hR5 c5 => ?_
      refine (c_oSort (c := c') (by omega) hR5).mono ?_
      rintro v w6 ⟨hv, c6⟩
      rw [if_pos hm] at hv
      have c06 := (c04.trans c5).trans c6
      refine (c_refSort (c := cs) (by omega) (hA.keep c06.below)).mono ?_
      rintro u w7 ⟨hu, c7⟩
      have c07 := c06.trans c7
      obtain ⟨A1, k1, rfl, h1, _⟩ := hv.keep c7
      obtain ⟨A2, k2, rfl, h2, _⟩ := hu
      simp -implicitDefEqProofs only [len_56, len_65, zS]
      exact l_says1 (by omega) hA hm (by have := evs_len2 l; omega) (evs l).length 0 w7 h1 h2 c07 (by omega)
  constructor
  · simp -implicitDefEqProofs only [ld_cf b2d, wpB_some']
    refine ap_spans rfl (by omega) (hA.keep c1d.below) fun A' c' w2 hR2 c2 => ?_
    refine (c_oCheck (cs := c') hl hR2 c).mono ?_
    rintro _ w3 ⟨rfl, c3⟩
    simp -implicitDefEqProofs only [tup0, tup1, wpB_some']
    exact rest w3 (((Chg.refl _ _).drew.trans c2).trans c3)
  · refine ap_spans rfl (by omega) (hA.keep c1d.below) fun A' c' w2 hR2 c2 => ?_
    simp -implicitDefEqProofs only [ld_cf (c2.at b2d (by simp)), wpB_some']
    refine (c_oCheck (cs := c') hl hR2 c).mono ?_
    rintro _ w3 ⟨rfl, c3⟩
    simp -implicitDefEqProofs only [tup0, tup1, wpB_some']
    exact rest w3 (((Chg.refl _ _).drew.trans c2).trans c3)
theorem c_orderRaw {n : Nat} (hn : l.length = n) {w : World} (hA : RdV w As (l.flatMap spC)) (c : CfV) : CallR Try.prog 4 [.agg (cfC c).toArray, .slice As n cs] w fun v w' => v = .bool true ∧ Chg [] w w' := by
  subst hn
  apply F4_ok
  simp -implicitDefEqProofs only [F4, effv_box, cells_agg]
  generalize hw : w.alloc _ = w1
  have c1 : Chg [] w w1 := by rw [← hw]; exact (Chg.refl _ _).alloc _
  have b2 : hp w1 w.heap.size = some (.cells (cfC c).toArray 25) := by rw [← hw, alloc_heap, if_pos rfl]
  clear hw
  refine (c_first25 w1).mono ?_
  rintro _ w2 ⟨rfl, c2⟩
  have c02 := c1.trans c2
  simp -implicitDefEqProofs only [zS, len_35]
  by_cases hl : (10 : Int) < l.length
  · simp -implicitDefEqProofs only [zS, hl]
    exact ⟨trivial, c02⟩
  have hl10 : l.length ≤ 10 := by omega
  simp -implicitDefEqProofs only [zS, hl]
  have b3 := c2.at b2 (by simp)
  have b3d : hp w2.drew w.heap.size = some (.cells (cfC c).toArray 25) := b3
  have fin : ∀ w3 : World, Chg [] w2 w3 → P4_1 (.slice As l.length cs) (.pointer (some ⟨w.heap.size, 0, none⟩)) (.bool true) w3 fun v w' => v = .bool true ∧ Chg [] w w' := by
    intro w3 c3
    apply L4_1_ok
    simp -implicitDefEqProofs only [L4_1, zS, ld_cf (c3.at b3 (by simp))]
    refine (c_Cut c w3).mono ?_
    rintro _ w4 ⟨rfl, c4⟩
    have c04 := (c02.trans c3).trans c4
    refine (c_says25 (cs := cs) hl10 (hA.keep c04.below) _).mono ?_
    rintro _ w5 ⟨rfl, c5⟩
    simp -implicitDefEqProofs only [zS]
    exact ⟨trivial, c04.trans c5⟩
  have rest : ∀ w3 : World, Chg [] w2 w3 → P4_0 (.slice As l.length cs) (.pointer (some ⟨w.heap.size, 0, none⟩)) (.bool true) (.int .i64 (checkV c l).1) (.bool (checkV c l).2) w3 fun v w' => v = .bool true ∧ Chg [] w w' := by
    intro w3 c3
    apply L4_0_ok
    simp -implicitDefEqProofs only [L4_0, ld_cf (c3.at b3 (by simp)), wpB_some']
    refine (c_cfMay c w3).mono ?_
    rintro _ w4 ⟨rfl, c4⟩
    have c24 := c3.trans c4
    cases hm : mayC c with
    | false =>
      have : checkV c l = (0, false) := by rw [checkV, if_neg (by rw [hm]; simp)]
      simp -implicitDefEqProofs only [zS, this]
      exact fin w4 c24
    | true =>
      simp -implicitDefEqProofs only [zS]
      refine (c_RMayRef (by omega) ⟨As, cs, rfl, hA.keep (c02.trans c24).below⟩).mono ?_
      rintro _ w5 ⟨rfl, c5⟩
      cases hb : mayB l with
      | false =>
        have : checkV c l = (0, false) := by rw [checkV, if_neg (by rw [hb]; simp)]
        simp -implicitDefEqProofs only [zS, this]
        exact fin w5 (c24.trans c5)
      | true =>
        simp -implicitDefEqProofs only [zS]
        exact fin w5 (c24.trans c5)
  have hAd : RdV w2.drew As (l.flatMap spC) := hA.keep c02.drew.below
  constructor
  · simp -implicitDefEqProofs only [ld_cf b3d, wpB_some']
    refine ap_spans rfl (by omega) hAd fun A' c' w3 hR3 c3 => ?_
    refine (c_oCheck (cs := c') hl10 hR3 c).mono ?_
    rintro _ w4 ⟨rfl, c4⟩
    simp -implicitDefEqProofs only [tup0, tup1, wpB_some']
    exact rest w4 (((Chg.refl _ _).drew.trans c3).trans c4)
  · refine ap_spans rfl (by omega) hAd fun A' c' w3 hR3 c3 => ?_
    simp -implicitDefEqProofs only [ld_cf (c3.at b3d (by simp)), wpB_some']
    refine (c_oCheck (cs := c') hl10 hR3 c).mono ?_
    rintro _ w4 ⟨rfl, c4⟩
    simp -implicitDefEqProofs only [tup0, tup1, wpB_some']
    exact rest w4 (((Chg.refl _ _).drew.trans c3).trans c4)
end
end Go.Proofs.Yteapggpkgfiacaa

namespace Go.Proofs.Yteapggpkgfiacaa
open Go Ev Go.RowKit
set_option linter.unusedSimpArgs false
set_option linter.unusedVariables false
set_option maxRecDepth 10000

theorem spDecO (ns : List Int) (h : ns.length = 20) : ∃ s : SpV, spC s = List.zipWith Value.int [.i64, .i64, .i64, .i64, .i64, .i64, .u64, .u64, .i64, .i64, .i64, .i64, .i64, .i64, .i64, .i64, .i64, .i64, .i64, .u64] ns := by
  match ns, h with
  | [a, b, c, d, e, f, g, h, i, j, k, l, m, n, o, p, q, r, s, t], _ => exact ⟨⟨a, b, (c, d, e, f, g, h), i, j, k, l, (m, (n, o, p, q, r), s, t)⟩, rfl⟩
theorem open_spans {H : Type} {enc : TypeId × Value → H} {w : World} {base : Nat} {spare : Nat → Bool} {held : Bool} {fuel : Nat} {a : Option Addr} {len cap : Nat} {x : DataW H × List MemPlace}
    (h : DataW.trod enc Try.prog w base spare held fuel 35 [.slice a len cap] = some x) : ∃ S : List SpV, S.length = len ∧ RdV w a (S.flatMap spC) ∧ len ≤ cap ∧ cap ≤ maxLen :=
  open_flat (d := 6) (z := 20) (ks := [.i64, .i64, .i64, .i64, .i64, .i64, .u64, .u64, .i64, .i64, .i64, .i64, .i64, .i64, .i64, .i64, .i64, .i64, .i64, .u64]) Try.underlying35 (by kernel_rfl) (by kernel_rfl) (fun ns h _ => spDecO ns h) spC_len h
theorem open_cf {H : Type} {enc : TypeId × Value → H} {w : World} {base : Nat} {spare : Nat → Bool} {held : Bool} {fuel : Nat} {cs : Array Value} {x : DataW H × List MemPlace}
    (h : DataW.trod enc Try.prog w base spare held fuel 25 cs.toList = some x) : ∃ c : CfV, Value.agg cs = .agg (cfC c).toArray := by
  obtain ⟨ns, g1, g2, g3⟩ := (trod_nums 6 25 [.i64, .i64, .i64, .i64, .i64, .i64] fuel cs.toList x (by kernel_rfl) h).nums
  match ns, g1 with
  | [a, b, c, d, e, f], _ =>
    refine ⟨(a, b, c, d, e, f), ?_⟩
    congr 1
    apply Array.toList_inj.1
    rw [g2]; rfl
theorem lawOrder {W : World} (c : CfV) (cs : Array Value) (h : Value.agg cs = .agg (cfC c).toArray) (A : Option Addr) (n cap : Nat) (S : List SpV) (hS : S.length = n) (hA : RdV W A (S.flatMap spC)) (hc : n ≤ cap) (hm : cap ≤ maxLen) :
    CallR Try.prog 4 [.agg cs, .slice A n cap] W fun v w' => v = .bool true ∧ Below W.heap.size W w' := by
  rw [h]
  refine (c_orderRaw (cs := cap) hS hA c).mono ?_
  rintro v w' ⟨rfl, hc⟩
  exact ⟨rfl, hc.below⟩
end Go.Proofs.Yteapggpkgfiacaa

