/- Scripts out of bytes: the plain answer; the program's. -/
import Derived.Test.YtgamnncehjcdiaaDe
namespace Go.Proofs.Ytgamnncehjcdiaa
open Go Ev Go.RowKit
set_option linter.unusedSimpArgs false
set_option linter.unusedVariables false
set_option maxRecDepth 10000

/-! ### the plain answer -/
def pOps : Nat → Rst → List OpV × Rst
  | 0, s => ([], s)
  | m + 1, s => if (pOp s).2.2 = true then ([], (pOp s).2) else ((pOp s).1 :: (pOps m (pOp s).2).1, (pOps m (pOp s).2).2)
def manyOf (s : Rst) : Nat := (min (pNum 2 s).1 1000).toNat
def pList (s : Rst) : List OpV × Rst := pOps (manyOf s) (pNum 2 s).2
def pLists : Nat → Rst → List (List OpV) × Rst
  | 0, s => ([], s)
  | n + 1, s => ((pList s).1 :: (pLists n (pList s).2).1, (pLists n (pList s).2).2)
def fin (s : Rst) : List Int := if s.2 = true then [] else s.1.take 1048576
def pRead (bs : List Int) : ScV := ((pLists (min (pNum 1 (bs, false)).1 64).toNat (pNum 1 (bs, false)).2).1, fin (pLists (min (pNum 1 (bs, false)).1 64).toNat (pNum 1 (bs, false)).2).2)
theorem pOps_bytes : ∀ (m : Nat) (s : Rst), IsBytes s.1 → IsBytes (pOps m s).2.1
  | 0, s, h => h
  | m + 1, s, h => by
    rw [pOps]; split
    · exact pOp_bytes h
    · exact pOps_bytes m _ (pOp_bytes h)
theorem pList_bytes {s : Rst} (h : IsBytes s.1) : IsBytes (pList s).2.1 := pOps_bytes _ _ (pNum_bytes h)
theorem pNum_end (n : Nat) (bs : List Int) : pNum n (bs, true) = (0, (bs, true)) := by simp [pNum]
theorem pList_end (bs : List Int) : pList (bs, true) = ([], (bs, true)) := by simp only [pList, manyOf, pNum_end]; rfl
theorem pLists_end (bs : List Int) : ∀ n, pLists n (bs, true) = (List.replicate n [], (bs, true))
  | 0 => rfl
  | n + 1 => by rw [pLists, pList_end, pLists_end bs n]; rfl
theorem pLists_len : ∀ (n : Nat) (s : Rst), (pLists n s).1.length = n
  | 0, _ => rfl
  | n + 1, s => by rw [pLists]; simp [pLists_len n]
theorem pOps_le : ∀ (m : Nat) (s : Rst), (pOps m s).1.length ≤ m
  | 0, _ => Nat.le_refl _
  | m + 1, s => by
    rw [pOps]; split
    · simp
    · simp; exact pOps_le m _
theorem manyOf_le (s : Rst) : manyOf s ≤ 1000 := by unfold manyOf; omega
theorem pLists_le : ∀ (n : Nat) (s : Rst), ∀ l ∈ (pLists n s).1, l.length ≤ 1000
  | 0, _, l, h => by simp [pLists] at h
  | n + 1, s, l, h => by
    rw [pLists] at h
    rcases List.mem_cons.1 h with rfl | h
    · exact Nat.le_trans (pOps_le _ _) (manyOf_le s)
    · exact pLists_le n _ l h
theorem pRead_len (bs : List Int) : (pRead bs).1.length ≤ 64 := by simp only [pRead, pLists_len]; omega
theorem pRead_le (bs : List Int) : ∀ l ∈ (pRead bs).1, l.length ≤ 1000 := pLists_le _ _
theorem pRead_picks (bs : List Int) : (pRead bs).2.length ≤ 1048576 := by simp only [pRead, fin]; split <;> simp; omega
/-! ### may it be? -/
def mayS (s : ScV) : Bool := s.1.all (fun l => decide (l.length ≤ 1000)) && (decide (s.1.length ≤ 64) && decide (s.2.length ≤ 1048576))
theorem mayS_read (bs : List Int) : mayS (pRead bs) = true := by
  have := pRead_len bs
  have := pRead_picks bs
  simp only [mayS, Bool.and_eq_true, List.all_eq_true, decide_eq_true_eq]
  exact ⟨pRead_le bs, by omega, by omega⟩
theorem l_SMay {s : ScV} (hs : s.1.length ≤ 4611686018427387904) {w : World} {A : Option Addr} {c d g : Nat} {B : Option Addr} {vs : List Value} (h1 : RdV w A vs) (h2 : vs.length = s.1.length) (h3 : ∀ (j : Nat) (x : Value) (ops : List OpV), vs[j]? = some x → s.1[j]? = some ops → SlO w x ops)
    (hg : hp w g = some (.cells #[.slice A s.1.length c, .slice B s.2.length d] 25)) :
    ∀ (e i : Nat), i + e = s.1.length → P17_0 (.pointer (some ⟨g, 0, none⟩)) (.slice A s.1.length c) (.int .i64 s.1.length) (.int .i64 i) w fun v w' => v = .bool ((s.1.drop i).all (fun l => decide (l.length ≤ 1000)) && (decide (s.1.length ≤ 64) && decide (s.2.length ≤ 1048576))) ∧ w' = w := by
  intro e
  induction e with
  | zero =>
    intro i hi
    apply L17_0_ok
    have : ¬ ((i : Int) < s.1.length) := by omega
    have hd : s.1.drop i = [] := List.drop_of_length_le (by omega)
    by_cases h64 : s.1.length ≤ 64
    · have h64' : (s.1.length : Int) ≤ 64 := by omega
      have hdd : decide ((s.2.length : Int) ≤ 1048576) = decide (s.2.length ≤ 1048576) := by rw [decide_eq_decide]; omega
      simp -implicitDefEqProofs only [L17_0, wpB_some', bp_lss, this, decide_false, cnd_false, fa_25_0, fa_25_1, ld_22, ld_23, hg, ldC_some, show (#[Value.slice A s.1.length c, Value.slice B s.2.length d] : Array Value)[0 + 0]? = some (.slice A s.1.length c) from rfl, show (#[Value.slice A s.1.length c, Value.slice B s.2.length d] : Array Value)[0 + 1]? = some (.slice B s.2.length d) from rfl, len_22, len_23, bp_leq, h64', decide_true, gd_true, pickv_true, hdd, hd, h64]
      exact ⟨by simp, trivial⟩
    · have h64' : ¬ (s.1.length : Int) ≤ 64 := by omega
      simp -implicitDefEqProofs only [L17_0, wpB_some', bp_lss, this, decide_false, cnd_false, fa_25_0, ld_22, hg, ldC_some, show (#[Value.slice A s.1.length c, Value.slice B s.2.length d] : Array Value)[0 + 0]? = some (.slice A s.1.length c) from rfl, len_22, bp_leq, h64', gd_ft, pickv_false, hd, h64]
      exact ⟨by simp, trivial⟩
  | succ e ih =>
    intro i hi
    apply L17_0_ok
    have hlt : (i : Int) < s.1.length := by omega
    obtain ⟨x, hx⟩ : ∃ x, vs[i]? = some x := ⟨_, List.getElem?_eq_getElem (by omega)⟩
    obtain ⟨a, ha⟩ : ∃ a, s.1[i]? = some a := ⟨_, List.getElem?_eq_getElem (by omega)⟩
    obtain ⟨b1, o1, q1, q2⟩ := val_at (c := c) (j := .i64) h1 h2 hx
    obtain ⟨A', c', rfl, _⟩ := h3 i x a hx ha
    have hd : s.1.drop i = a :: s.1.drop (i + 1) := by
      have hlt' : i < s.1.length := by omega
      rw [List.drop_eq_getElem_cons hlt']
      rw [List.getElem?_eq_getElem hlt'] at ha
      rw [Option.some.inj ha]
    by_cases h1000 : a.length ≤ 1000
    · have hn : ¬ (1000 : Int) < a.length := by omega
      have h := ih (i + 1) (by omega)
      rw [Int.natCast_add i 1] at h
      simp -implicitDefEqProofs only [L17_0, wpB_some', bp_lss, hlt, decide_true, cnd_true, q1, ld_27, q2, len_27, bp_gtr, hn, decide_false, cnd_false, bp_add, wrapi (n := (i : Int) + 1) (by omega) (by omega), hd, List.all_cons, h1000, Bool.true_and]
      exact h
    · have hn : (1000 : Int) < a.length := by omega
      simp -implicitDefEqProofs only [L17_0, wpB_some', bp_lss, hlt, decide_true, cnd_true, q1, ld_27, q2, len_27, bp_gtr, hn, hd, List.all_cons, h1000, decide_false, Bool.false_and]
      exact ⟨trivial, trivial⟩
theorem c_SMay {s : ScV} (hs : s.1.length ≤ 4611686018427387904) {v : Value} {w : World} (hv : IsS w v s) : CallR Try.prog 17 [v] w fun r w' => r = .bool (mayS s) ∧ Below w.heap.size w w' := by
  have hca : Chg [] w (w.alloc (.cells v.cells 25)) := (Chg.refl _ _).alloc _
  have hv := hv.keep hca.below
  obtain ⟨A, c, vs, vp, rfl, a2, a3, a4, a5⟩ := hv.ex
  obtain ⟨B, d, rfl, a5⟩ := a5
  apply F17_ok
  simp -implicitDefEqProofs [F17, effv_box]
  have := l_SMay (g := w.heap.size) (c := c) (d := d) (B := B) hs a2 a3 a4 (by rw [alloc_heap, if_pos rfl]; rfl) s.1.length 0 (by omega)
  refine Part.mono this ?_
  rintro v w' ⟨rfl, rfl⟩
  exact ⟨rfl, hca.below⟩
end Go.Proofs.Ytgamnncehjcdiaa
