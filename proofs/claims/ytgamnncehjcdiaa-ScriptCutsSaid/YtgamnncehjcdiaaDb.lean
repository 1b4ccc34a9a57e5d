/- Numbers out of bytes, read from the front: the program's reader and the reference's. -/
import Derived.Test.YtgamnncehjcdiaaDa
namespace Go.Proofs.Ytgamnncehjcdiaa
open Go Ev Go.RowKit
set_option linter.unusedSimpArgs false
set_option linter.unusedVariables false
set_option maxRecDepth 10000

/-- bytes, the lowest first, as a number -/
def leV : List Int → Int
  | [] => 0
  | b :: bs => b + 256 * leV bs
theorem pow256 (n : Nat) : (2 : Int) ^ (8 * n) = 256 ^ n := by rw [Int.pow_mul]; rfl
theorem leV_snoc (b : Int) : ∀ bs : List Int, leV (bs ++ [b]) = leV bs + b * 2 ^ (8 * bs.length)
  | [] => by simp [leV]
  | c :: bs => by
    have e : (2 : Int) ^ (8 * (bs.length + 1)) = 256 * 2 ^ (8 * bs.length) := by rw [pow256, pow256, Int.pow_succ, Int.mul_comm]
    rw [List.cons_append, leV, leV_snoc b bs, leV, List.length_cons, e, Int.mul_add, Int.add_assoc, Int.mul_left_comm b]
def IsBytes (bs : List Int) : Prop := ∀ b ∈ bs, 0 ≤ b ∧ b < 256
theorem leV_bound : ∀ bs : List Int, IsBytes bs → 0 ≤ leV bs ∧ leV bs < 2 ^ (8 * bs.length)
  | [], _ => by simp [leV]
  | c :: bs, h => by
    have h1 := leV_bound bs fun b hb => h b (List.mem_cons_of_mem _ hb)
    have h2 := h c (by simp)
    have e : (2 : Int) ^ (8 * (bs.length + 1)) = 256 * 2 ^ (8 * bs.length) := by rw [pow256, pow256, Int.pow_succ, Int.mul_comm]
    rw [leV, List.length_cons, e]; omega
theorem IsBytes.take {bs : List Int} (h : IsBytes bs) (n : Nat) : IsBytes (bs.take n) := fun b hb => h b (List.mem_of_mem_take hb)
theorem IsBytes.drop {bs : List Int} (h : IsBytes bs) (n : Nat) : IsBytes (bs.drop n) := fun b hb => h b (List.mem_of_mem_drop hb)
/-- what a reader has: the bytes left, whether they ended -/
abbrev Rst := List Int × Bool
def pNum (n : Nat) (s : Rst) : Int × Rst := if s.2 = true ∨ s.1.length < n then (0, (s.1, true)) else (leV (s.1.take n), (s.1.drop n, false))
theorem pNum_bound {n : Nat} {s : Rst} (h : IsBytes s.1) : 0 ≤ (pNum n s).1 ∧ (pNum n s).1 < 2 ^ (8 * n) := by
  unfold pNum
  split
  · exact ⟨Int.le_refl _, Int.pow_pos (by omega)⟩
  · have := leV_bound _ (h.take n)
    rename_i hn
    rw [List.length_take, Nat.min_eq_left (by simp at hn; omega)] at this
    exact this
theorem pNum_bytes {n : Nat} {s : Rst} (h : IsBytes s.1) : IsBytes (pNum n s).2.1 := by
  unfold pNum
  split
  · exact h
  · exact h.drop n
def u8s (bs : List Int) : List Value := bs.map (Value.int .u8)
@[simp] theorem u8s_len (bs : List Int) : (u8s bs).length = bs.length := by simp [u8s]
theorem u8s_ne {bs : List Int} (h : u8s bs ≠ []) : bs ≠ [] := fun e => h (by rw [e]; rfl)
theorem u8s_get (bs : List Int) (i : Nat) (h : i < bs.length) : (u8s bs)[i]? = some (.int .u8 (bs.getD i 0)) := by
  simp [u8s, List.getD_eq_getElem?_getD, h]
theorem leV_step (bs : List Int) (i : Nat) (h : i < bs.length) : leV (bs.take (i + 1)) = leV (bs.take i) + bs.getD i 0 * 2 ^ (8 * i) := by
  have e : bs.take (i + 1) = bs.take i ++ [bs.getD i 0] := by
    rw [List.take_add_one]; congr 1
    simp [List.getD_eq_getElem?_getD, h]
  rw [e, leV_snoc, List.length_take, Nat.min_eq_left (by omega)]
theorem byte_pow {b : Int} {i : Nat} (h0 : 0 ≤ b) (h1 : b < 256) (hi : i ≤ 7) : 0 ≤ b * 2 ^ (8 * i) ∧ b * 2 ^ (8 * i) < 2 ^ 64 := by
  have h2 : (2 : Int) ^ (8 * i) ≤ 2 ^ 56 := by
    rcases (by omega : i = 0 ∨ i = 1 ∨ i = 2 ∨ i = 3 ∨ i = 4 ∨ i = 5 ∨ i = 6 ∨ i = 7) with rfl | rfl | rfl | rfl | rfl | rfl | rfl | rfl <;> decide
  have h3 : (0 : Int) < 2 ^ (8 * i) := Int.pow_pos (by omega)
  refine ⟨Int.mul_nonneg h0 (by omega), ?_⟩
  have h4 : b * 2 ^ (8 * i) ≤ 255 * 2 ^ (8 * i) := Int.mul_le_mul_of_nonneg_right (by omega) (by omega)
  have h5 : (2 : Int) ^ 64 = 256 * 2 ^ 56 := by decide
  omega

/-! ### the program's reader -/
/-- a reader in block r: the bytes that are left are old ones -/
def RS (w : World) (r : Nat) (s : Rst) : Prop := ∃ A c, hp w r = some (.cells #[.slice A s.1.length c, .bool s.2] 115) ∧ RdV w A (u8s s.1) ∧ (∀ p, A = some p → s.1 ≠ [] → p.block < r) ∧ s.1.length ≤ c
theorem RS.chg {w w' : World} {S : List Nat} {r : Nat} {s : Rst} (h : RS w r s) (hc : Chg S w w') (hr : ∀ k ∈ S, r < k) : RS w' r s := by
  obtain ⟨A, c, h1, h2, h3, h4⟩ := h
  refine ⟨A, c, hc.at h1 (fun hm => by have := hr r hm; omega), h2.chg hc (fun p hp hne hm => ?_), h3, h4⟩
  have := hr _ hm
  have := h3 p hp (u8s_ne hne)
  omega
theorem l_num {r : Nat} {s : Rst} (hs : IsBytes s.1) {w : World} {n : Nat} (hn : n ≤ 8) (hle : n ≤ s.1.length) {A : Option Addr} {c : Nat} (hb : hp w r = some (.cells #[.slice A s.1.length c, .bool s.2] 115)) (hA : RdV w A (u8s s.1)) (hAr : ∀ p, A = some p → s.1 ≠ [] → p.block < r) (hcap : s.1.length ≤ c) :
    ∀ (d i : Nat), i + d = n → P69_0 (.pointer (some ⟨r, 0, none⟩)) (.int .i64 n) (.int .u64 (leV (s.1.take i))) (.int .i64 n) (.int .i64 i) w fun v w' => v = .int .u64 (leV (s.1.take n)) ∧ RS w' r (s.1.drop n, s.2) ∧ Chg [r] w w' := by
  intro d
  induction d with
  | zero =>
    intro i hi
    apply L69_0_ok
    have : ¬ ((i : Int) < n) := by omega
    simp -implicitDefEqProofs only [L69_0, wpB_some', bp_lss, this, decide_false, cnd_false, nilv_some, fa_115_0, ld_28, hb, ldC_some, Nat.add_zero, show (#[Value.slice A s.1.length c, Value.bool s.2] : Array Value)[0]? = some (.slice A s.1.length c) from rfl, pr_slice_l Try.underlying28 sz_5 (show (0 : Int) ≤ n by omega) (show (n : Int) ≤ s.1.length by omega)]
    rw [st_28 (by rfl) (by rfl) (by rw [hb]; rfl)]
    rw [show i = n by omega]
    refine ⟨rfl, ?_, (Chg.refl _ _).put (.inl (by simp)) _ _⟩
    have hlt := blk_lt hb
    refine ⟨if c = (n : Int).toNat then A else A.map (·.add ((n : Int).toNat * 1)), c - (n : Int).toNat, ?_, ?_, ?_, ?_⟩
    · rw [put_heap, if_pos rfl, if_pos hlt, hb, getC_some, getE_some]
      simp
    · have h1 := hA.drop c n 1 (fun h => by simp; omega)
      rw [Nat.mul_one] at h1
      rw [Int.toNat_natCast, Nat.mul_one]
      have e : u8s (s.1.drop n) = (u8s s.1).drop n := by simp [u8s, List.map_drop]
      show RdV _ _ (u8s (s.1.drop n))
      rw [e]
      refine h1.chg ((Chg.refl [r] w).put (.inl (by simp)) _ _) fun p hp hne hm => ?_
      have hne : s.1 ≠ [] := fun h => hne (by rw [h]; simp [u8s])
      have hm : p.block = r := by simpa using hm
      split at hp
      · have := hAr p hp hne; omega
      · cases A with
        | none => cases hp
        | some a =>
          simp at hp
          have : p.block = a.block := by rw [← hp]; unfold Addr.add; split <;> rfl
          have := hAr a rfl hne
          omega
    · intro p hp hne
      have hne : s.1 ≠ [] := fun h => hne (by show s.1.drop n = []; rw [h]; simp)
      split at hp
      · exact hAr p hp hne
      · cases A with
        | none => cases hp
        | some a =>
          simp at hp
          have : p.block = a.block := by rw [← hp]; unfold Addr.add; split <;> rfl
          have := hAr a rfl hne
          omega
    · simp; omega
  | succ d ih =>
    intro i hi
    apply L69_0_ok
    have hlt : (i : Int) < n := by omega
    obtain ⟨b, o, q1, q2, _⟩ := hA.elem1 (P := Try.prog) (c := c) (n := s.1.length) (i := (i : Int)) (j := .i64) Try.underlying28 sz_5 (by simp) (by omega) (by omega)
    rw [Int.toNat_natCast, u8s_get _ _ (by omega)] at q2
    have hby := hs (s.1.getD i 0) (by
      have : i < s.1.length := by omega
      simp [List.getD_eq_getElem?_getD, this])
    obtain ⟨p0, p1⟩ := byte_pow (i := i) hby.1 hby.2 (by omega)
    have hst := leV_step s.1 i (by omega)
    have hbd := leV_bound _ (hs.take i)
    rw [List.length_take, Nat.min_eq_left (by omega)] at hbd
    generalize s.1.getD i 0 = x at *
    have hor := or_add (k := 8 * i) hbd.1 hbd.2 hby.1 (by omega) (by simpa using p1)
    have hp8 : IntKind.u64.bits = 64 := rfl
    have hmin : min (8 * (i : Int)).toNat IntKind.u64.bits = 8 * i := by rw [hp8]; omega
    simp -implicitDefEqProofs only [L69_0, wpB_some', bp_lss, hlt, decide_true, cnd_true, nilv_some, fa_115_0, ld_28, ld_5, hb, ldC_some, Nat.add_zero, show (#[Value.slice A s.1.length c, Value.bool s.2] : Array Value)[0]? = some (.slice A s.1.length c) from rfl, q1, q2, cv_5_38, wrapu (n := x) (by omega) (by omega), bp_mul, bp_add, wrapi (n := 8 * (i : Int)) (by omega) (by omega), bp_shl (show (0 : Int) ≤ 8 * i by omega), hmin, wrapu (n := x * 2 ^ (8 * i)) p0 (by omega), bp_or, hor, wrapi (n := (i : Int) + 1) (by omega) (by omega), ← hst]
    have h := ih (i + 1) (by omega)
    rw [Int.natCast_add i 1] at h
    exact h
theorem c_num {r : Nat} {s : Rst} (hs : IsBytes s.1) {w : World} (hr : RS w r s) {n : Nat} (hn : n ≤ 8) : CallR Try.prog 69 [.pointer (some ⟨r, 0, none⟩), .int .i64 n] w fun v w' => v = .int .u64 (pNum n s).1 ∧ RS w' r (pNum n s).2 ∧ Chg [r] w w' := by
  obtain ⟨A, c, hb, hA, hAr, hcap⟩ := hr
  have hlt := blk_lt hb
  apply F69_ok
  have bad : (s.2 = true ∨ s.1.length < n) → hp (put w r #[.slice A s.1.length c, .bool true] 115) r = some (.cells #[.slice A s.1.length c, .bool true] 115) →
      (0 = (pNum n s).1 ∧ RS (put w r #[.slice A s.1.length c, .bool true] 115) r (pNum n s).2 ∧ Chg [r] w (put w r #[.slice A s.1.length c, .bool true] 115)) := by
    intro h hb'
    have e : pNum n s = (0, (s.1, true)) := by rw [pNum, if_pos h]
    have hch : Chg [r] w (put w r #[.slice A s.1.length c, .bool true] 115) := (Chg.refl _ _).put (.inl (by simp)) _ _
    rw [e]
    refine ⟨rfl, ⟨A, c, hb', hA.chg hch fun p hp hne hm => ?_, hAr, hcap⟩, hch⟩
    have hm : p.block = r := by simpa using hm
    have := hAr p hp (u8s_ne hne)
    omega
  have hput : hp (put w r #[.slice A s.1.length c, .bool true] 115) r = some (.cells #[.slice A s.1.length c, .bool true] 115) := by rw [put_heap, if_pos rfl, if_pos hlt]
  by_cases h2 : s.2 = true
  · simp -implicitDefEqProofs [F69, hb, h2, st_4]
    exact bad (.inl h2) hput
  · have h2 : s.2 = false := by simpa using h2
    by_cases hl : s.1.length < n
    · have hl' : (s.1.length : Int) < n := by omega
      simp -implicitDefEqProofs [F69, hb, h2, hl, st_4]
      exact bad (.inr hl) hput
    · have hl' : ¬ (s.1.length : Int) < n := by omega
      simp -implicitDefEqProofs [F69, hb, h2, hl]
      have e : pNum n s = (leV (s.1.take n), (s.1.drop n, false)) := by rw [pNum, if_neg (by simp [h2, hl])]
      rw [e, ← h2]
      exact l_num hs hn (by omega) hb hA hAr hcap n 0 (by omega)
end Go.Proofs.Ytgamnncehjcdiaa
