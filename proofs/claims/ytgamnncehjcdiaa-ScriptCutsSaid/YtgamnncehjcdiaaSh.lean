/- Scripts as bytes: what was put is read back. -/
import Derived.Test.YtgamnncehjcdiaaSg
namespace Go.Proofs.Ytgamnncehjcdiaa
open Go Ev Go.RowKit
set_option linter.unusedSimpArgs false
set_option linter.unusedVariables false
set_option maxRecDepth 10000

theorem pNum_lowB {v : Int} {n : Nat} (h0 : 0 ≤ v) (h1 : v < 256 ^ n) (rest : List Int) : pNum n (lowB v n ++ rest, false) = (v, (rest, false)) := by
  unfold pNum
  rw [if_neg (by simp [lowB_len])]
  have e1 : (lowB v n ++ rest).take n = lowB v n := by rw [List.take_append_of_le_length (by rw [lowB_len]; exact Nat.le_refl _), List.take_of_length_le (by rw [lowB_len]; exact Nat.le_refl _)]
  have e2 : (lowB v n ++ rest).drop n = rest := by rw [List.drop_append, List.drop_of_length_le (by rw [lowB_len]; exact Nat.le_refl _), lowB_len]; simp
  simp only [e1, e2, leV_lowB n v h0]
  rw [Int.emod_eq_of_lt h0 h1]
theorem pNum_1 {b : Int} (rest : List Int) : pNum 1 (b :: rest, false) = (b, (rest, false)) := by
  unfold pNum
  simp [leV]
theorem pIf_lowB {c : Bool} {v : Int} {n : Nat} (h0 : 0 ≤ v) (h1 : v < 256 ^ n) (hz : c = false → v = 0) (rest : List Int) : pIf c n ((if c = true then lowB v n else []) ++ rest, false) = (v, (rest, false)) := by
  cases c with
  | true => rw [if_pos rfl, pIf_t]; exact pNum_lowB h0 h1 rest
  | false => rw [if_neg (by simp), pIf_f, hz rfl]; rfl
theorem nM_0 {k : Int} (h : nB k = false) : nM k = 0 := by
  unfold nM
  have : k ≠ 1 := by
    rintro rfl
    simp [nB] at h
  rw [if_neg this, h]; rfl
theorem pow2 : (256 : Int) ^ 2 = 65536 := by decide
theorem pow8 : (256 : Int) ^ 8 = 18446744073709551616 := by decide
theorem pOp_encO {o : OpV} (hm : mayO o = true) (hwf : WfO o) (rest : List Int) : pOp (encO o ++ rest, false) = (o, (rest, false)) := by
  have hb := mayO_bounds hm
  have hmm := of_decide_eq_true hm
  obtain ⟨_, m1, m2, m3, m4, m5⟩ := hmm
  obtain ⟨k, f, a, n, v, w⟩ := o
  simp only at hb m1 m2 m3 m4 m5
  obtain ⟨wf1, wf2⟩ := hwf
  simp only at wf1 wf2
  have e0 : encO (k, f, a, n, v, w) ++ rest = k :: (fE (k, f, a, n, v, w) ++ (nE (k, f, a, n, v, w) ++ (vE (k, f, a, n, v, w) ++ (wE (k, f, a, n, v, w) ++ rest)))) := by simp [encO]
  rw [e0]
  unfold pOp
  simp only [pNum_1]
  have hn : pIf (nB k) 2 (nE (k, f, a, n, v, w) ++ (vE (k, f, a, n, v, w) ++ (wE (k, f, a, n, v, w) ++ rest)), false) = (n, (vE (k, f, a, n, v, w) ++ (wE (k, f, a, n, v, w) ++ rest), false)) :=
    pIf_lowB (v := n) (by omega) (by rw [pow2]; omega) (fun h => by rw [nM_0 h] at m3; omega) _
  have hv : pIf (vB k) 8 (vE (k, f, a, n, v, w) ++ (wE (k, f, a, n, v, w) ++ rest), false) = (v, (wE (k, f, a, n, v, w) ++ rest, false)) :=
    pIf_lowB (v := v) wf1.1 (by rw [pow8]; omega) (fun h => by
      rcases m4 with h' | h'
      · rw [h] at h'; cases h'
      · exact h') _
  have hw : pIf (wB k) 8 (wE (k, f, a, n, v, w) ++ rest, false) = (w, (rest, false)) :=
    pIf_lowB (v := w) wf2.1 (by rw [pow8]; omega) (fun h => by
      rcases m5 with h' | h'
      · rw [h] at h'; cases h'
      · exact h') _
  by_cases hk : ofK k = 0
  · have ef : fE (k, f, a, n, v, w) = [] := by simp [fE, hk]
    have f0 : f = 0 := by simp [frM, hk] at m1; omega
    have a0 : a = 0 := by simp [atM, hk] at m2; omega
    rw [ef]
    simp only [hk, decide_true, Bool.not_true, pIf_f, List.nil_append, hn, hv, hw]
    rw [f0, a0]
  · have ef : fE (k, f, a, n, v, w) = f :: lowB a 2 := by simp [fE, hk]
    rw [ef]
    have ha := pNum_lowB (v := a) (n := 2) (by omega) (by rw [pow2]; omega) (nE (k, f, a, n, v, w) ++ (vE (k, f, a, n, v, w) ++ (wE (k, f, a, n, v, w) ++ rest)))
    simp only [hk, decide_false, Bool.not_false, pIf_t, List.cons_append, pNum_1, ha, hn, hv, hw]
theorem pOps_enc : ∀ (l : List OpV) (rest : List Int), (∀ o ∈ l, mayO o = true) → (∀ o ∈ l, WfO o) → pOps l.length (l.flatMap encO ++ rest, false) = (l, (rest, false))
  | [], rest, _, _ => rfl
  | o :: l, rest, h1, h2 => by
    have e : (o :: l).flatMap encO ++ rest = encO o ++ (l.flatMap encO ++ rest) := by simp
    rw [e, List.length_cons, pOps, pOp_encO (h1 o (by simp)) (h2 o (by simp))]
    rw [if_neg (by simp), pOps_enc l rest (fun o ho => h1 o (List.mem_cons_of_mem _ ho)) (fun o ho => h2 o (List.mem_cons_of_mem _ ho))]
theorem pList_enc {l : List OpV} (hl : l.length ≤ 1000) (h1 : ∀ o ∈ l, mayO o = true) (h2 : ∀ o ∈ l, WfO o) (rest : List Int) : pList (encL l ++ rest, false) = (l, (rest, false)) := by
  have e : encL l ++ rest = lowB l.length 2 ++ (l.flatMap encO ++ rest) := by simp [encL]
  have hn := pNum_lowB (v := (l.length : Int)) (n := 2) (by omega) (by rw [pow2]; omega) (l.flatMap encO ++ rest)
  have hm : manyOf (encL l ++ rest, false) = l.length := by
    rw [e, manyOf, hn]
    simp only; omega
  rw [pList, hm, e, hn]
  exact pOps_enc l rest h1 h2
theorem pLists_enc : ∀ (L : List (List OpV)) (rest : List Int), (∀ l ∈ L, l.length ≤ 1000) → (∀ l ∈ L, ∀ o ∈ l, mayO o = true) → (∀ l ∈ L, ∀ o ∈ l, WfO o) → pLists L.length (L.flatMap encL ++ rest, false) = (L, (rest, false))
  | [], rest, _, _, _ => rfl
  | l :: L, rest, h0, h1, h2 => by
    have e : (l :: L).flatMap encL ++ rest = encL l ++ (L.flatMap encL ++ rest) := by simp
    rw [e, List.length_cons, pLists, pList_enc (h0 l (by simp)) (h1 l (by simp)) (h2 l (by simp))]
    rw [pLists_enc L rest (fun l hl => h0 l (List.mem_cons_of_mem _ hl)) (fun l hl => h1 l (List.mem_cons_of_mem _ hl)) (fun l hl => h2 l (List.mem_cons_of_mem _ hl))]
theorem mayS_iff (s : ScV) : mayS s = true ↔ (∀ l ∈ s.1, l.length ≤ 1000) ∧ s.1.length ≤ 64 ∧ s.2.length ≤ 1048576 := by
  simp [mayS, List.all_eq_true]
theorem pRead_encS {s : ScV} (hm : mayS s = true) (ho : okS s = true) (hwf : WfS s) : pRead (encS s) = s := by
  obtain ⟨m1, m2, m3⟩ := (mayS_iff s).1 hm
  obtain ⟨o1, o2⟩ := (okS_iff s).1 ho
  have e : encS s = (s.1.length : Int) :: (s.1.flatMap encL ++ s.2) := by simp [encS]
  have hn : pNum 1 (encS s, false) = ((s.1.length : Int), (s.1.flatMap encL ++ s.2, false)) := by rw [e]; exact pNum_1 _
  have hk : (min (s.1.length : Int) 64).toNat = s.1.length := by omega
  unfold pRead
  rw [hn]
  simp only [hk, pLists_enc s.1 s.2 m1 o1 hwf, fin]
  rw [if_neg (by simp), List.take_of_length_le m3]
theorem encO_bytes {o : OpV} (hm : mayO o = true) : IsBytes (encO o) := by
  have hb := mayO_bounds hm
  intro b h
  simp only [encO, List.mem_append, List.mem_singleton] at h
  rcases h with (((h | h) | h) | h) | h
  · omega
  · unfold fE at h
    split at h
    · simp at h
    · rcases List.mem_append.1 h with h | h
      · simp at h; omega
      · exact lowB_bytes _ _ b h
  · unfold nE at h
    split at h
    · exact lowB_bytes _ _ b h
    · simp at h
  · unfold vE at h
    split at h
    · exact lowB_bytes _ _ b h
    · simp at h
  · unfold wE at h
    split at h
    · exact lowB_bytes _ _ b h
    · simp at h
theorem encS_bytes {s : ScV} (hm : mayS s = true) (ho : okS s = true) : IsBytes (encS s) := by
  obtain ⟨m1, m2, m3⟩ := (mayS_iff s).1 hm
  obtain ⟨o1, o2⟩ := (okS_iff s).1 ho
  intro b h
  simp only [encS, List.mem_append, List.mem_singleton, List.mem_flatMap] at h
  rcases h with (h | ⟨l, hl, h⟩) | h
  · omega
  · simp only [encL, List.mem_append, List.mem_flatMap] at h
    rcases h with h | ⟨o, hol, h⟩
    · exact lowB_bytes _ _ b h
    · exact encO_bytes (o1 l hl o hol) b h
  · have := of_decide_eq_true (o2 b h); omega
end Go.Proofs.Ytgamnncehjcdiaa
