/- Operations out of bytes: the program's reader and the reference's. -/
import Derived.Test.YtkploakfdlnbbaaDb
namespace Go.Proofs.Ytkploakfdlnbbaa
open Go Ev Go.RowKit
set_option linter.unusedSimpArgs false
set_option linter.unusedVariables false
set_option maxRecDepth 10000

theorem getD_mem (bs : List Int) (i : Nat) (h : i < bs.length) : bs.getD i 0 ∈ bs := by
  rw [List.getD_eq_getElem?_getD, List.getElem?_eq_getElem h]; simp
/-! ### the reference's reader -/
def RR (w : World) (r : Nat) (B : List Int) (a : Nat) (e : Bool) : Prop := ∃ A c, hp w r = some (.cells #[.slice A B.length c, .int .i64 a, .bool e] 76) ∧ RdV w A (u8s B) ∧ (∀ p, A = some p → B ≠ [] → p.block < r)
theorem RR.chg {w w' : World} {S : List Nat} {r : Nat} {B : List Int} {a : Nat} {e : Bool} (h : RR w r B a e) (hc : Chg S w w') (hr : ∀ k ∈ S, r < k) : RR w' r B a e := by
  obtain ⟨A, c, h1, h2, h3⟩ := h
  refine ⟨A, c, hc.at h1 (fun hm => by have := hr r hm; omega), h2.chg hc (fun p hp hne hm => ?_), h3⟩
  have := hr _ hm
  have := h3 p hp (u8s_ne hne)
  omega
/-- where it stands behind a number -/
def pAt (n a : Nat) (s : Rst) : Nat := if s.2 = true ∨ s.1.length < n then a else a + n
theorem pAt_drop (n a : Nat) (B : List Int) (e : Bool) : B.drop (pAt n a (B.drop a, e)) = (pNum n (B.drop a, e)).2.1 := by
  unfold pAt pNum
  split
  · rfl
  · simp
theorem pAt_le (n a : Nat) (B : List Int) (e : Bool) (h : a ≤ B.length) : pAt n a (B.drop a, e) ≤ B.length := by
  unfold pAt
  split
  · exact h
  · rename_i hn; simp at hn; omega
theorem RR.putB {w : World} {r : Nat} {A : Option Addr} {c : Nat} {B : List Int} (hA : RdV w A (u8s B)) (hAr : ∀ p, A = some p → B ≠ [] → p.block < r) (hlt : r < w.heap.size) (a : Nat) (e : Bool) :
    RR (put w r #[.slice A B.length c, .int .i64 a, .bool e] 76) r B a e ∧ Chg [r] w (put w r #[.slice A B.length c, .int .i64 a, .bool e] 76) := by
  have hch : Chg [r] w (put w r #[.slice A B.length c, .int .i64 a, .bool e] 76) := (Chg.refl _ _).put (.inl (by simp)) _ _
  refine ⟨⟨A, c, by rw [put_heap, if_pos rfl, if_pos hlt], hA.chg hch fun p hp hne hm => ?_, hAr⟩, hch⟩
  have hm : p.block = r := by simpa using hm
  have := hAr p hp (u8s_ne hne)
  omega
theorem l_low {r : Nat} {B : List Int} (hs : IsBytes B) {e : Bool} {n a : Nat} (hn : n ≤ 8) (hle : a + n ≤ B.length) (hB : B.length ≤ 4611686018427387904) {A : Option Addr} {c : Nat} (hAr : ∀ p, A = some p → B ≠ [] → p.block < r) (w0 : World) :
    ∀ (d i : Nat) (w : World), hp w r = some (.cells #[.slice A B.length c, .int .i64 a, .bool e] 76) → RdV w A (u8s B) → Chg [r] w0 w → i + d = n →
    P58_0 (.pointer (some ⟨r, 0, none⟩)) (.int .i64 n) (.int .u64 (leV ((B.drop a).take i))) (.int .i64 i) w fun v w' => v = .int .u64 (leV ((B.drop a).take n)) ∧ RR w' r B (a + n) e ∧ Chg [r] w0 w' := by
  intro d
  induction d with
  | zero =>
    intro i w hb hA hc hi
    have hlt := blk_lt hb
    apply L58_0_ok
    have : ¬ ((i : Int) < n) := by omega
    simp -implicitDefEqProofs only [L58_0, wpB_some', bp_lss, this, decide_false, cnd_false, nilv_some, fa_76_1, ld_3, hb, ldC_some, show (#[Value.slice A B.length c, .int .i64 a, .bool e] : Array Value)[0 + 1]? = some (.int .i64 a) from rfl, bp_add, wrapi (n := (a : Int) + n) (by omega) (by omega)]
    rw [st_3 (by rfl) (by rfl) (by rw [hb]; rfl), show i = n by omega, hb]
    obtain ⟨h1, h2⟩ := RR.putB (c := c) (e := e) hA hAr hlt (a + n)
    exact ⟨rfl, h1, hc.trans h2⟩
  | succ d ih =>
    intro i w hb hA hc hi
    apply L58_0_ok
    have hlt : (i : Int) < n := by omega
    obtain ⟨b, o, q1, q2, _⟩ := (show RdV w.drew A (u8s B) from hA).elem1 (P := Try.prog) (c := c) (n := B.length) (i := (a : Int) + i) (j := .i64) Try.underlying40 sz_5 (by simp) (by omega) (by omega)
    have hx : (B.drop a).getD i 0 = B.getD (a + i) 0 := by simp [List.getD_eq_getElem?_getD, List.getElem?_drop]
    rw [show ((a : Int) + i).toNat = a + i by omega, u8s_get _ _ (by omega), ← hx] at q2
    have hdl : i < (B.drop a).length := by simp; omega
    have hby := (hs.drop a) ((B.drop a).getD i 0) (getD_mem _ _ hdl)
    obtain ⟨p0, p1⟩ := byte_pow (i := i) hby.1 hby.2 (by omega)
    have hst := leV_step (B.drop a) i hdl
    have hbd := leV_bound _ ((hs.drop a).take i)
    have hbd' := leV_bound _ ((hs.drop a).take (i + 1))
    rw [List.length_take, Nat.min_eq_left (by omega)] at hbd hbd'
    have h64 : (2 : Int) ^ (8 * (i + 1)) ≤ 2 ^ 64 := by
      rcases (by omega : i = 0 ∨ i = 1 ∨ i = 2 ∨ i = 3 ∨ i = 4 ∨ i = 5 ∨ i = 6 ∨ i = 7) with rfl | rfl | rfl | rfl | rfl | rfl | rfl | rfl <;> decide
    rw [hst] at hbd'
    generalize (B.drop a).getD i 0 = x at *
    have hp8 : IntKind.u64.bits = 64 := rfl
    have hmin : min (8 * (i : Int)).toNat IntKind.u64.bits = 8 * i := by rw [hp8]; omega
    simp -implicitDefEqProofs only [L58_0, wpB_some', bp_lss, hlt, decide_true, cnd_true, nilv_some, fa_76_0, fa_76_1, ld_40, ld_5, ld_3, hp_drew, hb, ldC_some, Nat.add_zero, show (#[Value.slice A B.length c, .int .i64 a, .bool e] : Array Value)[0]? = some (.slice A B.length c) from rfl, show (#[Value.slice A B.length c, .int .i64 a, .bool e] : Array Value)[0 + 1]? = some (.int .i64 a) from rfl, bp_add, wrapi (n := (a : Int) + i) (by omega) (by omega), q1]
    rw [show ldC (hp w b) o = some (.int .u8 x) from q2]
    simp -implicitDefEqProofs only [wpB_some', cv_5_33, cv_3_27, wrapu (n := x) (by omega) (by omega), bp_mul, wrapi (n := 8 * (i : Int)) (by omega) (by omega), wrapu (n := 8 * (i : Int)) (by omega) (by omega), bp_shl (show (0 : Int) ≤ 8 * i by omega), hmin, wrapu (n := x * 2 ^ (8 * i)) p0 (by omega), bp_add, wrapi (n := (i : Int) + 1) (by omega) (by omega), ← hst]
    have h := ih (i + 1) w.drew hb hA hc.drew (by omega)
    rw [Int.natCast_add i 1] at h
    rw [wrapu (n := leV ((B.drop a).take (i + 1))) (by omega) (by omega)]
    exact h
theorem c_low {r : Nat} {B : List Int} (hs : IsBytes B) {e : Bool} {w : World} {a : Nat} (hr : RR w r B a e) (ha : a ≤ B.length) (hB : B.length ≤ 4611686018427387904) {n : Nat} (hn : n ≤ 8) :
    CallR Try.prog 58 [.pointer (some ⟨r, 0, none⟩), .int .i64 n] w fun v w' => v = .int .u64 (pNum n (B.drop a, e)).1 ∧ RR w' r B (pAt n a (B.drop a, e)) (pNum n (B.drop a, e)).2.2 ∧ Chg [r] w w' := by
  obtain ⟨A, c, hb, hA, hAr⟩ := hr
  have hlt := blk_lt hb
  apply F58_ok
  obtain ⟨g1, g2⟩ := RR.putB (w := w.drew) (c := c) (show RdV w.drew A (u8s B) from hA) hAr hlt a true
  have bad : (e = true ∨ B.length - a < n) → (0 = (pNum n (B.drop a, e)).1 ∧ RR (put w.drew r #[.slice A B.length c, .int .i64 a, .bool true] 76) r B (pAt n a (B.drop a, e)) (pNum n (B.drop a, e)).2.2 ∧ Chg [r] w (put w.drew r #[.slice A B.length c, .int .i64 a, .bool true] 76)) := by
    intro h
    have hcond : (B.drop a, e).2 = true ∨ (B.drop a, e).1.length < n := by simpa using h
    have e1 : pNum n (B.drop a, e) = (0, (B.drop a, true)) := by rw [pNum, if_pos hcond]
    have e2 : pAt n a (B.drop a, e) = a := by rw [pAt, if_pos hcond]
    rw [e1, e2]
    exact ⟨rfl, g1, (Chg.refl _ _).drew.trans g2⟩
  by_cases h2 : e = true
  · simp -implicitDefEqProofs [F58, hb, h2, st_4]
    subst h2
    exact bad (.inl rfl)
  · have h2 : e = false := by simpa using h2
    by_cases hl : (B.length : Int) - a < n
    · simp -implicitDefEqProofs [F58, hb, h2, st_4, wrapi (n := (B.length : Int) - a) (by omega) (by omega), hl]
      subst h2
      exact bad (.inr (by omega))
    · simp -implicitDefEqProofs [F58, hb, h2, wrapi (n := (B.length : Int) - a) (by omega) (by omega), hl]
      subst h2
      have hcond : ¬ ((B.drop a, false).2 = true ∨ (B.drop a, false).1.length < n) := by simp; omega
      have e1 : pNum n (B.drop a, false) = (leV ((B.drop a).take n), ((B.drop a).drop n, false)) := by rw [pNum, if_neg hcond]
      have e2 : pAt n a (B.drop a, false) = a + n := by rw [pAt, if_neg hcond]
      rw [e1, e2]
      exact l_low hs hn (by omega) hB hAr w n 0 w.drew hb hA (Chg.refl _ _).drew (by omega)
end Go.Proofs.Ytkploakfdlnbbaa
