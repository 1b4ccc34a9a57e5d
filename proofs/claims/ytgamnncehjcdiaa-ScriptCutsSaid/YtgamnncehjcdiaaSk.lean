/- The call of ScriptMany answers true: the calls. -/
import Derived.Test.YtgamnncehjcdiaaSj
import Derived.Test.YtgamnncehjcdiaaNa
namespace Go.Proofs.Ytgamnncehjcdiaa
open Go Ev Go.RowKit Go.ChangeShapes
set_option linter.unusedSimpArgs false
set_option linter.unusedVariables false
set_option maxRecDepth 10000

theorem slB_own {w : World} {base : Nat} {v : Value} {bs : List Int} {n : Nat} (h : w.ownsRow base 5 1 v n (u8s bs)) (hn : n = bs.length) : SlB w v bs := by
  subst hn
  obtain ⟨A, c, e1, e2, e3, _⟩ := rdV_of_own h
  refine ⟨A, c, e1, e2, ?_, fun p hp _ => (e3 p hp).2⟩
  rcases h.2 with ⟨e5, e6⟩ | ⟨g, cap, cur, e5, _, _, hnc, _⟩
  · omega
  · rw [e1] at e5; cases e5; exact hnc
theorem longB_bytes {k : Nat} (hk : k ≤ 1002) : IsBytes (longB k k) := by
  intro b hb
  simp [longB, List.mem_replicate] at hb
  omega
theorem rawB_bytes {n : Nat} (hn : n ≤ 69) : IsBytes (rawB n n) := by
  intro b hb
  simp only [rawB, List.mem_cons, List.mem_flatMap] at hb
  rcases hb with h | ⟨l, hl, hb⟩
  · omega
  · rw [(List.mem_replicate.1 hl).2, encL_nil] at hb
    simp at hb; omega
/-- a variable with a script in it -/
theorem var_script {w : World} {v : Value} {s : ScV} (hs : IsS w v s) {K : World → Prop} (hk : ∀ (A B : Option Addr) (c d : Nat) (vs : List Value) (w' : World), v = .agg #[.slice A s.1.length c, .slice B s.2.length d] → hp w' w.heap.size = some (.cells #[.slice A s.1.length c, .slice B s.2.length d] 25) → RdV w' A vs → vs.length = s.1.length → (∀ (j : Nat) (x : Value) (ops : List OpV), vs[j]? = some x → s.1[j]? = some ops → SlO w' x ops) → Chg [] w w' → K w') :
    effu Try.prog (Instr.storeAt 25 (.pointer (some ⟨w.heap.size, 0, none⟩)) v) (w.alloc (.cells #[.slice none 0 0, .slice none 0 0] 25)) K := by
  obtain ⟨A, c, vs, vp, rfl, a2, a3, a4, a5⟩ := hs.ex
  obtain ⟨B, d, rfl, hB⟩ := a5
  rw [st_25 (by rfl) (by rfl) (by rw [alloc_heap, if_pos rfl]; rfl) (by rw [alloc_heap, if_pos rfl]; rfl), alloc_heap, if_pos rfl]
  simp -implicitDefEqProofs only [getE_some]
  have hc : Chg [] w (put (w.alloc (.cells #[.slice none 0 0, .slice none 0 0] 25)) w.heap.size #[.slice A s.1.length c, .slice B s.2.length d] 25) := ((Chg.refl _ _).alloc _).put (.inr (Nat.le_refl _)) _ _
  exact hk A B c d vs _ rfl (by rw [put_heap, if_pos rfl, if_pos (by simp)]) (a2.keep hc.below) a3 (fun j x ops h1 h2 => (a4 j x ops h1 h2).keep hc.below) hc
set_option maxHeartbeats 4000000 in
theorem l_Many3 {W : World} {n k : Nat} (hn1 : 60 ≤ n) (hn2 : n ≤ 69) (hk1 : 998 ≤ k) (hk2 : k ≤ 1002) {A B : Option Addr} {c d g17 : Nat} : ∀ (e i : Nat) (w : World) (x : Value), hp w g17 = some (.cells #[.slice A (min n 64) c, .slice B (2 * (n - 64)) d] 25) → Out W w x (longB k i) → i + e = k →
    P6_3 (.bool true) (.int .i64 n) (.int .i64 k) (.pointer (some ⟨g17, 0, none⟩)) x (.int .i64 i) w (OkS W) := by
  intro e
  induction e with
  | zero =>
    intro i w x h17 h hi
    obtain rfl : i = k := by omega
    apply L6_3_ok
    obtain ⟨pl, pp⟩ := pRead_long hk1 hk2
    simp -implicitDefEqProofs only [L6_3, wpB_some', gd_true, gd_false, gd_tf, gd_ft, gd_ut, gd_uf, gv_true, gv_false, gv_tf, gv_ft, gv_ut, gv_uf, gE_true, gE_false, gE_tf, gE_ft, gE_ut, gE_uf, gU_true, gU_false, gU_tf, gU_ft, pickv_true, pickv_false, cnd_true, cnd_false, decide_true, decide_false, Bool.not_true, Bool.not_false, pr_not, nilv_some, bp_lss, bp_leq, bp_gtr, bp_geq, be_eql, be_neq, bne_self_eq_false, beq_self_eq_true, ldC_some, Option.isNone_none, Option.isNone_some, hp_drew, Int.lt_irrefl]
    refine (c_Read (slB_own h.own rfl) (longB_bytes hk2)).mono ?_
    rintro v w1 ⟨hs, c1⟩
    have h171 := c1.at h17 (by simp)
    simp -implicitDefEqProofs only [al_25]
    refine var_script hs fun A' B' c' d' vs w2 e1 h2 r1 r2 r3 c2 => ?_
    have h172 := c2.at h171 (by simp)
    have hc := (h.ch.trans c1).trans c2
    rw [pp, pl] at h2
    rw [pl] at r2 r3
    have r2 : vs.length = 1 := r2
    obtain ⟨y, hy⟩ : ∃ y, vs[0]? = some y := ⟨_, List.getElem?_eq_getElem (by omega)⟩
    obtain ⟨A3, c3, rfl, hA3⟩ := r3 0 y (List.replicate (min i 1000) oUnpin) hy rfl
    obtain ⟨b, o, q1, q2⟩ := val_at (c := c') (j := .i64) (i := 0) r1 r2 hy
    have q1 : pureRun Try.prog (Instr.indexAt 22 (.slice A' 1 c') (.int .i64 0)) = some (.pointer (some ⟨b, o, none⟩)) := q1
    have h2 : hp w2 w1.heap.size = some (.cells #[.slice A' 1 c', .slice B' (i - 1000) d'] 25) := h2
    rw [List.length_replicate] at q2
    have m1 : (if (64 : Int) < (n : Int) then 64 else (n : Int)) = ((min n 64 : Nat) : Int) := by split <;> omega
    have m2 : (if (0 : Int) > (n : Int) - 64 then 0 else (n : Int) - 64) = ((n - 64 : Nat) : Int) := by split <;> omega
    have m3 : (if (1000 : Int) < (i : Int) then 1000 else (i : Int)) = ((min i 1000 : Nat) : Int) := by split <;> omega
    have m4 : (if (0 : Int) > (i : Int) - 1000 then 0 else (i : Int) - 1000) = ((i - 1000 : Nat) : Int) := by split <;> omega
    have e2 : (2 : Int) * ((n - 64 : Nat) : Int) = ((2 * (n - 64) : Nat) : Int) := by omega
    have one : (((1 : Nat) : Int) == 1) = true := rfl
    simp -implicitDefEqProofs only [wpB_some', gd_true, gd_false, gd_tf, gd_ft, gd_ut, gd_uf, gv_true, gv_false, gv_tf, gv_ft, gv_ut, gv_uf, gE_true, gE_false, gE_tf, gE_ft, gE_ut, gE_uf, gU_true, gU_false, gU_tf, gU_ft, pickv_true, pickv_false, cnd_true, cnd_false, decide_true, decide_false, Bool.not_true, Bool.not_false, pr_not, nilv_some, bp_lss, bp_leq, bp_gtr, bp_geq, be_eql, be_neq, bne_self_eq_false, beq_self_eq_true, ldC_some, Option.isNone_none, Option.isNone_some, hp_drew, fa_25_0, fa_25_1, ld_22, ld_23, ld_27, h172, h2, t2_0, t2_1, len_22, len_23, len_27, pr_min, pr_max, m1, bp_sub, wrapi (n := (n : Int) - 64) (by omega) (by omega), m2, bp_mul, e2, wrapi (n := ((2 * (n - 64) : Nat) : Int)) (by omega) (by omega), one, q1, q2, m3, wrapi (n := (i : Int) - 1000) (by omega) (by omega), m4]
    exact ⟨rfl, hc.below⟩
  | succ e ih =>
    intro i w x h17 h hi
    apply L6_3_ok
    have hlt : (i : Int) < k := by omega
    have hl : (longB k i).length ≤ 1000000 := by simp [longB]; omega
    simp -implicitDefEqProofs only [L6_3, wpB_some', gd_true, gd_false, gd_tf, gd_ft, gd_ut, gd_uf, gv_true, gv_false, gv_tf, gv_ft, gv_ut, gv_uf, gE_true, gE_false, gE_tf, gE_ft, gE_ut, gE_uf, gU_true, gU_false, gU_tf, gU_ft, pickv_true, pickv_false, cnd_true, cnd_false, decide_true, decide_false, Bool.not_true, Bool.not_false, pr_not, nilv_some, bp_lss, bp_leq, bp_gtr, bp_geq, be_eql, be_neq, bne_self_eq_false, beq_self_eq_true, ldC_some, Option.isNone_none, Option.isNone_some, hp_drew, hlt]
    refine h.push hl 4 fun x' w' h' u => ?_
    have h17' := u.chg.at h17 fun hm => by
      obtain ⟨c', hh⟩ := own_blk h.own (mem_blk.1 hm)
      rw [h17] at hh; simp at hh
    simp -implicitDefEqProofs only [bp_add, wpB_some', gd_true, gd_false, gd_tf, gd_ft, gd_ut, gd_uf, gv_true, gv_false, gv_tf, gv_ft, gv_ut, gv_uf, gE_true, gE_false, gE_tf, gE_ft, gE_ut, gE_uf, gU_true, gU_false, gU_tf, gU_ft, pickv_true, pickv_false, cnd_true, cnd_false, decide_true, decide_false, Bool.not_true, Bool.not_false, pr_not, nilv_some, bp_lss, bp_leq, bp_gtr, bp_geq, be_eql, be_neq, bne_self_eq_false, beq_self_eq_true, ldC_some, Option.isNone_none, Option.isNone_some, hp_drew, wrapi (n := (i : Int) + 1) (by omega) (by omega)]
    have := ih (i + 1) w' x' h17' (by rw [longB_succ]; exact h') (by omega)
    rw [Int.natCast_add i 1] at this
    exact this
set_option maxHeartbeats 4000000 in
theorem l_Many2 {W : World} {n k : Nat} (hn1 : 60 ≤ n) (hn2 : n ≤ 69) (hk1 : 998 ≤ k) (hk2 : k ≤ 1002) : ∀ (e i : Nat) (w : World) (x : Value), Out W w x (rawB n i) → i + e = n →
    P6_2 (.bool true) (.int .i64 n) (.int .i64 k) x (.int .i64 i) w (OkS W) := by
  intro e
  induction e with
  | zero =>
    intro i w x h hi
    obtain rfl : i = n := by omega
    apply L6_2_ok
    obtain ⟨pl, pp⟩ := pRead_raw hn1 hn2
    simp -implicitDefEqProofs only [L6_2, wpB_some', gd_true, gd_false, gd_tf, gd_ft, gd_ut, gd_uf, gv_true, gv_false, gv_tf, gv_ft, gv_ut, gv_uf, gE_true, gE_false, gE_tf, gE_ft, gE_ut, gE_uf, gU_true, gU_false, gU_tf, gU_ft, pickv_true, pickv_false, cnd_true, cnd_false, decide_true, decide_false, Bool.not_true, Bool.not_false, pr_not, nilv_some, bp_lss, bp_leq, bp_gtr, bp_geq, be_eql, be_neq, bne_self_eq_false, beq_self_eq_true, ldC_some, Option.isNone_none, Option.isNone_some, hp_drew, Int.lt_irrefl]
    refine (c_Read (slB_own h.own rfl) (rawB_bytes hn2)).mono ?_
    rintro v w1 ⟨hs, c1⟩
    simp -implicitDefEqProofs only [al_25]
    refine var_script hs fun A' B' c' d' vs w2 e1 h2 r1 r2 r3 c2 => ?_
    rw [pp, pl] at h2
    have hc := (h.ch.trans c1).trans c2
    have m1 : (k : Int).tmod 256 = ((k % 256 : Nat) : Int) := rfl
    have m2 : IntKind.i64.wrap ((k : Int).tdiv 256) = ((k / 256 : Nat) : Int) := by
      have : (k : Int).tdiv 256 = ((k / 256 : Nat) : Int) := rfl
      rw [this, wrapi (by omega) (by omega)]
    have m3 : IntKind.u8.wrap ((k % 256 : Nat) : Int) = ((k % 256 : Nat) : Int) := by rw [wrap8]; omega
    have m4 : IntKind.u8.wrap ((k / 256 : Nat) : Int) = ((k / 256 : Nat) : Int) := by rw [wrap8]; omega
    simp -implicitDefEqProofs only [bp_rem (show (256 : Int) ≠ 0 by omega), bp_quo (show (256 : Int) ≠ 0 by omega), m1, m2, wpB_some', cv_3_5, m3, m4, bs_28_3]
    have ca : Chg [] w2 (w2.alloc (.cells #[.int .u8 1, .int .u8 (k % 256 : Nat), .int .u8 (k / 256 : Nat)] 5)) := (Chg.refl _ _).alloc _
    have hown : (w2.alloc (.cells #[.int .u8 1, .int .u8 (k % 256 : Nat), .int .u8 (k / 256 : Nat)] 5)).ownsRow w2.heap.size 5 1 (.slice (some ⟨w2.heap.size, 0, none⟩) 3 3) 3 (u8s (longB k 0)) := World.ownsRow_lit w2 #[.int .u8 1, .int .u8 (k % 256 : Nat), .int .u8 (k / 256 : Nat)] 3 (Nat.le_refl _) (by unfold maxLen; omega) rfl
    exact l_Many3 (W := W) hn1 hn2 hk1 hk2 k 0 _ _ (ca.at h2 (by simp)) ⟨by
      have := ownsRow_mono hown hc.size
      simpa [longB] using this, hc.trans ca⟩ (by omega)
  | succ e ih =>
    intro i w x h hi
    apply L6_2_ok
    have hlt : (i : Int) < n := by omega
    simp -implicitDefEqProofs only [L6_2, wpB_some', gd_true, gd_false, gd_tf, gd_ft, gd_ut, gd_uf, gv_true, gv_false, gv_tf, gv_ft, gv_ut, gv_uf, gE_true, gE_false, gE_tf, gE_ft, gE_ut, gE_uf, gU_true, gU_false, gU_tf, gU_ft, pickv_true, pickv_false, cnd_true, cnd_false, decide_true, decide_false, Bool.not_true, Bool.not_false, pr_not, nilv_some, bp_lss, bp_leq, bp_gtr, bp_geq, be_eql, be_neq, bne_self_eq_false, beq_self_eq_true, ldC_some, Option.isNone_none, Option.isNone_some, hp_drew, hlt, bs_28_2]
    have ca : Chg [] w (w.alloc (.cells #[.int .u8 0, .int .u8 0] 5)) := (Chg.refl _ _).alloc _
    have hR : RdV (w.alloc (.cells #[.int .u8 0, .int .u8 0] 5)) (some ⟨w.heap.size, 0, none⟩) (u8s [0, 0]) := fun j u hj => ⟨_, rfl, by
      rw [addr_add, cell_ldC, alloc_heap, if_pos rfl, ldC_some, Nat.zero_add]; simpa [u8s] using hj⟩
    have := (h.grow ca).app (A := some ⟨w.heap.size, 0, none⟩) (c := 2) (ys := [0, 0]) (by rw [rawB_len]; simp; omega) hR (K := fun t122 w => wpB (bp Try.prog .add 3 (.int .i64 i) (.int .i64 1)) fun t119 => P6_2 (.bool true) (.int .i64 n) (.int .i64 k) t122 t119 w (OkS W)) fun x' w' h' hc => ?_
    · exact this
    simp -implicitDefEqProofs only [bp_add, wpB_some', gd_true, gd_false, gd_tf, gd_ft, gd_ut, gd_uf, gv_true, gv_false, gv_tf, gv_ft, gv_ut, gv_uf, gE_true, gE_false, gE_tf, gE_ft, gE_ut, gE_uf, gU_true, gU_false, gU_tf, gU_ft, pickv_true, pickv_false, cnd_true, cnd_false, decide_true, decide_false, Bool.not_true, Bool.not_false, pr_not, nilv_some, bp_lss, bp_leq, bp_gtr, bp_geq, be_eql, be_neq, bne_self_eq_false, beq_self_eq_true, ldC_some, Option.isNone_none, Option.isNone_some, hp_drew, wrapi (n := (i : Int) + 1) (by omega) (by omega)]
    have := ih (i + 1) w' x' (by rw [rawB_succ]; exact h') (by omega)
    rw [Int.natCast_add i 1] at this
    exact this
set_option maxHeartbeats 8000000 in
theorem l_Many0 {W : World} {n k : Nat} (hn1 : 60 ≤ n) (hn2 : n ≤ 69) (hk1 : 998 ≤ k) (hk2 : k ≤ 1002) {g8 gs g9 gt : Nat} : ∀ (e i : Nat) (w : World) (x : Value), ManyI W w n g8 gs g9 gt x i → x.cells = #[x] → x.oneCell' = true → i + e = k →
    P6_0 (.bool true) (.int .i64 n) (.int .i64 k) (.pointer (some ⟨g8, 0, none⟩)) (.pointer (some ⟨g9, 0, none⟩)) (.int .i64 i) w (OkS W) := by
  intro e
  induction e with
  | zero =>
    intro i w x h hx1 hx2 hi
    obtain rfl : i = k := by omega
    apply L6_0_ok
    have ld8 : ∀ w', Chg [] w w' → ldv Try.prog 25 (.pointer (some ⟨g8, 0, none⟩)) w' = some (.agg #[.slice (some ⟨gs, 0, none⟩) n n, nl]) := fun w' hc => ldv_whole ag_25 sz_25 (hc.at h.h8 (by simp))
    have ld9 : ∀ w', Chg [] w w' → ldv Try.prog 25 (.pointer (some ⟨g9, 0, none⟩)) w' = some (.agg #[.slice (some ⟨gt, 0, none⟩) 1 1, nl]) := fun w' hc => ldv_whole ag_25 sz_25 (hc.at h.h9 (by simp))
    have hS := h.s
    have hT := h.t
    simp -implicitDefEqProofs only [L6_0, wpB_some', gd_true, gd_false, gd_tf, gd_ft, gd_ut, gd_uf, gv_true, gv_false, gv_tf, gv_ft, gv_ut, gv_uf, gE_true, gE_false, gE_tf, gE_ft, gE_ut, gE_uf, gU_true, gU_false, gU_tf, gU_ft, pickv_true, pickv_false, cnd_true, cnd_false, decide_true, decide_false, Bool.not_true, Bool.not_false, pr_not, nilv_some, bp_lss, bp_leq, bp_gtr, bp_geq, be_eql, be_neq, bne_self_eq_false, beq_self_eq_true, ldC_some, Option.isNone_none, Option.isNone_some, hp_drew, Int.lt_irrefl, ld8 _ (Chg.refl _ _)]
    refine (c_Put (wfS_lists n) (by rw [encS_lists]; omega) (by simp [sLists]; omega) hS).mono ?_
    rintro _ w1 ⟨y1, rfl, o1, c1⟩
    simp -implicitDefEqProofs only [tup0, tup1, wpB_some', gd_true, gd_false, gd_tf, gd_ft, gd_ut, gd_uf, gv_true, gv_false, gv_tf, gv_ft, gv_ut, gv_uf, gE_true, gE_false, gE_tf, gE_ft, gE_ut, gE_uf, gU_true, gU_false, gU_tf, gU_ft, pickv_true, pickv_false, cnd_true, cnd_false, decide_true, decide_false, Bool.not_true, Bool.not_false, pr_not, nilv_some, bp_lss, bp_leq, bp_gtr, bp_geq, be_eql, be_neq, bne_self_eq_false, beq_self_eq_true, ldC_some, Option.isNone_none, Option.isNone_some, hp_drew, ld9 _ c1]
    refine (c_Put (wfS_ops i) (by have := encS_ops i (by omega); omega) (by simp [sOps]) (hT.keep c1.below)).mono ?_
    rintro _ w2 ⟨y2, rfl, o2, c2⟩
    have c12 := c1.trans c2
    have o1 := ownsRow_chg o1 c2 (by simp)
    obtain ⟨A1, d1, rfl, _⟩ := rdV_of_own o1
    obtain ⟨A2, d2, rfl, _⟩ := rdV_of_own o2
    obtain ⟨p1, p2⟩ := pPut_lists n
    obtain ⟨p3, p4⟩ := pPut_ops i
    simp -implicitDefEqProofs only [tup0, tup1, wpB_some', gd_true, gd_false, gd_tf, gd_ft, gd_ut, gd_uf, gv_true, gv_false, gv_tf, gv_ft, gv_ut, gv_uf, gE_true, gE_false, gE_tf, gE_ft, gE_ut, gE_uf, gU_true, gU_false, gU_tf, gU_ft, pickv_true, pickv_false, cnd_true, cnd_false, decide_true, decide_false, Bool.not_true, Bool.not_false, pr_not, nilv_some, bp_lss, bp_leq, bp_gtr, bp_geq, be_eql, be_neq, bne_self_eq_false, beq_self_eq_true, ldC_some, Option.isNone_none, Option.isNone_some, hp_drew, p1, p3]
    have fin : ∀ w', Chg [] w w' → wpB (pureRun Try.prog (convert 3 5 (.int .i64 n))) fun t113 => effv Try.prog (Instr.buildSlice 28 1 #[(0, t113)]) w' fun t114 w => P6_2 (.bool true) (.int .i64 n) (.int .i64 i) t114 (.int .i64 0) w (OkS W) := by
      intro w' hc
      have m3 : IntKind.u8.wrap (n : Int) = n := by rw [wrap8]; omega
      simp -implicitDefEqProofs only [cv_3_5, m3, wpB_some', bs_28_1]
      have ca : Chg [] w' (w'.alloc (.cells #[.int .u8 n] 5)) := (Chg.refl _ _).alloc _
      have hown : (w'.alloc (.cells #[.int .u8 n] 5)).ownsRow w'.heap.size 5 1 (.slice (some ⟨w'.heap.size, 0, none⟩) 1 1) 1 (u8s (rawB n 0)) := World.ownsRow_lit w' #[.int .u8 n] 1 (Nat.le_refl _) (by unfold maxLen; omega) rfl
      have hW := h.ch.trans hc
      exact l_Many2 (W := W) hn1 hn2 hk1 hk2 n 0 _ _ ⟨by
        have := ownsRow_mono hown hW.size
        simpa [rawB] using this, hW.trans ca⟩ (by omega)
    by_cases kn : n ≤ 64
    · have kn' : (n : Int) ≤ 64 := by omega
      by_cases kk : i ≤ 1000
      · have kk' : (i : Int) ≤ 1000 := by omega
        simp -implicitDefEqProofs only [kn, kn', kk, kk', if_true, wpB_some', gd_true, gd_false, gd_tf, gd_ft, gd_ut, gd_uf, gv_true, gv_false, gv_tf, gv_ft, gv_ut, gv_uf, gE_true, gE_false, gE_tf, gE_ft, gE_ut, gE_uf, gU_true, gU_false, gU_tf, gU_ft, pickv_true, pickv_false, cnd_true, cnd_false, decide_true, decide_false, Bool.not_true, Bool.not_false, pr_not, nilv_some, bp_lss, bp_leq, bp_gtr, bp_geq, be_eql, be_neq, bne_self_eq_false, beq_self_eq_true, ldC_some, Option.isNone_none, Option.isNone_some, hp_drew, be_neqb Try.underlying4, ld8 _ c12]
        refine (c_SMay (s := sLists n) (by simp [sLists]; omega) (hS.keep c12.below)).mono ?_
        rintro _ w3 ⟨rfl, b3⟩
        have c3 := c12.trans (Chg.of_below b3 [])
        rw [mayS_lists]
        simp -implicitDefEqProofs only [kn, kn', kk, kk', wpB_some', gd_true, gd_false, gd_tf, gd_ft, gd_ut, gd_uf, gv_true, gv_false, gv_tf, gv_ft, gv_ut, gv_uf, gE_true, gE_false, gE_tf, gE_ft, gE_ut, gE_uf, gU_true, gU_false, gU_tf, gU_ft, pickv_true, pickv_false, cnd_true, cnd_false, decide_true, decide_false, Bool.not_true, Bool.not_false, pr_not, nilv_some, bp_lss, bp_leq, bp_gtr, bp_geq, be_eql, be_neq, bne_self_eq_false, beq_self_eq_true, ldC_some, Option.isNone_none, Option.isNone_some, hp_drew, be_neqb Try.underlying4, ld9 _ c3]
        refine (c_SMay (s := sOps i) (by simp [sOps]) (hT.keep c3.below)).mono ?_
        rintro _ w4 ⟨rfl, b4⟩
        rw [mayS_ops]
        simp -implicitDefEqProofs only [kn, kn', kk, kk', wpB_some', gd_true, gd_false, gd_tf, gd_ft, gd_ut, gd_uf, gv_true, gv_false, gv_tf, gv_ft, gv_ut, gv_uf, gE_true, gE_false, gE_tf, gE_ft, gE_ut, gE_uf, gU_true, gU_false, gU_tf, gU_ft, pickv_true, pickv_false, cnd_true, cnd_false, decide_true, decide_false, Bool.not_true, Bool.not_false, pr_not, nilv_some, bp_lss, bp_leq, bp_gtr, bp_geq, be_eql, be_neq, bne_self_eq_false, beq_self_eq_true, ldC_some, Option.isNone_none, Option.isNone_some, hp_drew, be_neqb Try.underlying4]
        exact fin w4 (c3.trans (Chg.of_below b4 []))
      · have kk' : ¬ (i : Int) ≤ 1000 := by omega
        have e11 : ((11 : Int) == 0) = false := rfl
        have n11 : ((11 : Int) != 0) = true := rfl
        simp -implicitDefEqProofs only [kn, kn', kk, kk', if_true, if_false, wpB_some', gd_true, gd_false, gd_tf, gd_ft, gd_ut, gd_uf, gv_true, gv_false, gv_tf, gv_ft, gv_ut, gv_uf, gE_true, gE_false, gE_tf, gE_ft, gE_ut, gE_uf, gU_true, gU_false, gU_tf, gU_ft, pickv_true, pickv_false, cnd_true, cnd_false, decide_true, decide_false, Bool.not_true, Bool.not_false, pr_not, nilv_some, bp_lss, bp_leq, bp_gtr, bp_geq, be_eql, be_neq, bne_self_eq_false, beq_self_eq_true, ldC_some, Option.isNone_none, Option.isNone_some, hp_drew, e11, be_neqb Try.underlying4, ld8 _ c12]
        refine (c_SMay (s := sLists n) (by simp [sLists]; omega) (hS.keep c12.below)).mono ?_
        rintro _ w3 ⟨rfl, b3⟩
        have c3 := c12.trans (Chg.of_below b3 [])
        rw [mayS_lists]
        simp -implicitDefEqProofs only [kn, kn', kk, kk', wpB_some', gd_true, gd_false, gd_tf, gd_ft, gd_ut, gd_uf, gv_true, gv_false, gv_tf, gv_ft, gv_ut, gv_uf, gE_true, gE_false, gE_tf, gE_ft, gE_ut, gE_uf, gU_true, gU_false, gU_tf, gU_ft, pickv_true, pickv_false, cnd_true, cnd_false, decide_true, decide_false, Bool.not_true, Bool.not_false, pr_not, nilv_some, bp_lss, bp_leq, bp_gtr, bp_geq, be_eql, be_neq, bne_self_eq_false, beq_self_eq_true, ldC_some, Option.isNone_none, Option.isNone_some, hp_drew, be_neqb Try.underlying4, ld9 _ c3]
        refine (c_SMay (s := sOps i) (by simp [sOps]) (hT.keep c3.below)).mono ?_
        rintro _ w4 ⟨rfl, b4⟩
        rw [mayS_ops]
        have l0 : ((pPut (sOps i)).1.length : Int) = 0 := by rw [p4 (by omega)]; rfl
        simp -implicitDefEqProofs only [kn, kn', kk, kk', wpB_some', gd_true, gd_false, gd_tf, gd_ft, gd_ut, gd_uf, gv_true, gv_false, gv_tf, gv_ft, gv_ut, gv_uf, gE_true, gE_false, gE_tf, gE_ft, gE_ut, gE_uf, gU_true, gU_false, gU_tf, gU_ft, pickv_true, pickv_false, cnd_true, cnd_false, decide_true, decide_false, Bool.not_true, Bool.not_false, pr_not, nilv_some, bp_lss, bp_leq, bp_gtr, bp_geq, be_eql, be_neq, bne_self_eq_false, beq_self_eq_true, ldC_some, Option.isNone_none, Option.isNone_some, hp_drew, n11, be_neqb Try.underlying4, len_28, l0]
        exact fin w4 (c3.trans (Chg.of_below b4 []))
    · have kn' : ¬ (n : Int) ≤ 64 := by omega
      have e11 : ((11 : Int) == 0) = false := rfl
      have n11 : ((11 : Int) != 0) = true := rfl
      have l0 : ((pPut (sLists n)).1.length : Int) = 0 := by rw [p2 (by omega)]; rfl
      by_cases kk : i ≤ 1000
      · have kk' : (i : Int) ≤ 1000 := by omega
        simp -implicitDefEqProofs only [kn, kn', kk, kk', if_true, if_false, wpB_some', gd_true, gd_false, gd_tf, gd_ft, gd_ut, gd_uf, gv_true, gv_false, gv_tf, gv_ft, gv_ut, gv_uf, gE_true, gE_false, gE_tf, gE_ft, gE_ut, gE_uf, gU_true, gU_false, gU_tf, gU_ft, pickv_true, pickv_false, cnd_true, cnd_false, decide_true, decide_false, Bool.not_true, Bool.not_false, pr_not, nilv_some, bp_lss, bp_leq, bp_gtr, bp_geq, be_eql, be_neq, bne_self_eq_false, beq_self_eq_true, ldC_some, Option.isNone_none, Option.isNone_some, hp_drew, e11, be_neqb Try.underlying4, ld8 _ c12]
        refine (c_SMay (s := sLists n) (by simp [sLists]; omega) (hS.keep c12.below)).mono ?_
        rintro _ w3 ⟨rfl, b3⟩
        have c3 := c12.trans (Chg.of_below b3 [])
        rw [mayS_lists]
        simp -implicitDefEqProofs only [kn, kn', kk, kk', wpB_some', gd_true, gd_false, gd_tf, gd_ft, gd_ut, gd_uf, gv_true, gv_false, gv_tf, gv_ft, gv_ut, gv_uf, gE_true, gE_false, gE_tf, gE_ft, gE_ut, gE_uf, gU_true, gU_false, gU_tf, gU_ft, pickv_true, pickv_false, cnd_true, cnd_false, decide_true, decide_false, Bool.not_true, Bool.not_false, pr_not, nilv_some, bp_lss, bp_leq, bp_gtr, bp_geq, be_eql, be_neq, bne_self_eq_false, beq_self_eq_true, ldC_some, Option.isNone_none, Option.isNone_some, hp_drew, be_neqb Try.underlying4, ld9 _ c3]
        refine (c_SMay (s := sOps i) (by simp [sOps]) (hT.keep c3.below)).mono ?_
        rintro _ w4 ⟨rfl, b4⟩
        rw [mayS_ops]
        simp -implicitDefEqProofs only [kn, kn', kk, kk', wpB_some', gd_true, gd_false, gd_tf, gd_ft, gd_ut, gd_uf, gv_true, gv_false, gv_tf, gv_ft, gv_ut, gv_uf, gE_true, gE_false, gE_tf, gE_ft, gE_ut, gE_uf, gU_true, gU_false, gU_tf, gU_ft, pickv_true, pickv_false, cnd_true, cnd_false, decide_true, decide_false, Bool.not_true, Bool.not_false, pr_not, nilv_some, bp_lss, bp_leq, bp_gtr, bp_geq, be_eql, be_neq, bne_self_eq_false, beq_self_eq_true, ldC_some, Option.isNone_none, Option.isNone_some, hp_drew, n11, be_neqb Try.underlying4, len_28, l0]
        exact fin w4 (c3.trans (Chg.of_below b4 []))
      · have kk' : ¬ (i : Int) ≤ 1000 := by omega
        have l1 : ((pPut (sOps i)).1.length : Int) = 0 := by rw [p4 (by omega)]; rfl
        simp -implicitDefEqProofs only [kn, kn', kk, kk', if_true, if_false, wpB_some', gd_true, gd_false, gd_tf, gd_ft, gd_ut, gd_uf, gv_true, gv_false, gv_tf, gv_ft, gv_ut, gv_uf, gE_true, gE_false, gE_tf, gE_ft, gE_ut, gE_uf, gU_true, gU_false, gU_tf, gU_ft, pickv_true, pickv_false, cnd_true, cnd_false, decide_true, decide_false, Bool.not_true, Bool.not_false, pr_not, nilv_some, bp_lss, bp_leq, bp_gtr, bp_geq, be_eql, be_neq, bne_self_eq_false, beq_self_eq_true, ldC_some, Option.isNone_none, Option.isNone_some, hp_drew, e11, be_neqb Try.underlying4, ld8 _ c12]
        refine (c_SMay (s := sLists n) (by simp [sLists]; omega) (hS.keep c12.below)).mono ?_
        rintro _ w3 ⟨rfl, b3⟩
        have c3 := c12.trans (Chg.of_below b3 [])
        rw [mayS_lists]
        simp -implicitDefEqProofs only [kn, kn', kk, kk', wpB_some', gd_true, gd_false, gd_tf, gd_ft, gd_ut, gd_uf, gv_true, gv_false, gv_tf, gv_ft, gv_ut, gv_uf, gE_true, gE_false, gE_tf, gE_ft, gE_ut, gE_uf, gU_true, gU_false, gU_tf, gU_ft, pickv_true, pickv_false, cnd_true, cnd_false, decide_true, decide_false, Bool.not_true, Bool.not_false, pr_not, nilv_some, bp_lss, bp_leq, bp_gtr, bp_geq, be_eql, be_neq, bne_self_eq_false, beq_self_eq_true, ldC_some, Option.isNone_none, Option.isNone_some, hp_drew, be_neqb Try.underlying4, ld9 _ c3]
        refine (c_SMay (s := sOps i) (by simp [sOps]) (hT.keep c3.below)).mono ?_
        rintro _ w4 ⟨rfl, b4⟩
        rw [mayS_ops]
        simp -implicitDefEqProofs only [kn, kn', kk, kk', wpB_some', gd_true, gd_false, gd_tf, gd_ft, gd_ut, gd_uf, gv_true, gv_false, gv_tf, gv_ft, gv_ut, gv_uf, gE_true, gE_false, gE_tf, gE_ft, gE_ut, gE_uf, gU_true, gU_false, gU_tf, gU_ft, pickv_true, pickv_false, cnd_true, cnd_false, decide_true, decide_false, Bool.not_true, Bool.not_false, pr_not, nilv_some, bp_lss, bp_leq, bp_gtr, bp_geq, be_eql, be_neq, bne_self_eq_false, beq_self_eq_true, ldC_some, Option.isNone_none, Option.isNone_some, hp_drew, n11, be_neqb Try.underlying4, len_28, l0, l1]
        exact fin w4 (c3.trans (Chg.of_below b4 []))
  | succ e ih =>
    intro i w x h hx1 hx2 hi
    apply L6_0_ok
    have hlt : (i : Int) < k := by omega
    have hd := h.drew
    have ix : ∀ (n : Nat) c, 0 < n → pureRun Try.prog (Instr.indexAt 22 (.slice (some ⟨gt, 0, none⟩) n c) (.int .i64 0)) = some (.pointer (some ⟨gt, 0, none⟩)) := fun n c hn => ia_22 (by omega) (by omega)
    have ldx : ldC (hp w gt) 0 = some x := by rw [h.ht]; rfl
    have b3 : pureRun Try.prog (Instr.build 40 #[(0, .int .i64 3)]) = some (.agg (opC oPin).toArray) := bd_40_0
    have one : ∀ w' x', ManyI W w' n g8 gs g9 gt x' (i + 1) → x'.cells = #[x'] → x'.oneCell' = true → P6_1 (.bool true) (.int .i64 n) (.int .i64 k) (.pointer (some ⟨g8, 0, none⟩)) (.pointer (some ⟨g9, 0, none⟩)) (.int .i64 i) w' (OkS W) := fun w' x' h' a b => by
      apply L6_1_ok
      simp -implicitDefEqProofs only [L6_1, wpB_some', gd_true, gd_false, gd_tf, gd_ft, gd_ut, gd_uf, gv_true, gv_false, gv_tf, gv_ft, gv_ut, gv_uf, gE_true, gE_false, gE_tf, gE_ft, gE_ut, gE_uf, gU_true, gU_false, gU_tf, gU_ft, pickv_true, pickv_false, cnd_true, cnd_false, decide_true, decide_false, Bool.not_true, Bool.not_false, pr_not, nilv_some, bp_lss, bp_leq, bp_gtr, bp_geq, be_eql, be_neq, bne_self_eq_false, beq_self_eq_true, ldC_some, Option.isNone_none, Option.isNone_some, hp_drew, bp_add, wrapi (n := (i : Int) + 1) (by omega) (by omega)]
      have := ih (i + 1) w' x' h' a b (by omega)
      rw [Int.natCast_add i 1] at this
      exact this
    simp -implicitDefEqProofs only [L6_0, wpB_some', gd_true, gd_false, gd_tf, gd_ft, gd_ut, gd_uf, gv_true, gv_false, gv_tf, gv_ft, gv_ut, gv_uf, gE_true, gE_false, gE_tf, gE_ft, gE_ut, gE_uf, gU_true, gU_false, gU_tf, gU_ft, pickv_true, pickv_false, cnd_true, cnd_false, decide_true, decide_false, Bool.not_true, Bool.not_false, pr_not, nilv_some, bp_lss, bp_leq, bp_gtr, bp_geq, be_eql, be_neq, bne_self_eq_false, beq_self_eq_true, ldC_some, Option.isNone_none, Option.isNone_some, hp_drew, hlt, fa_25_0, ld_22, h.h9, t2_0, ix 1 1 (by omega), ld_27, ldx, b3]
    constructor
    · refine hd.push (by omega) fun x' w' a b k9 st h' => ?_
      simp -implicitDefEqProofs only [wpB_some', gd_true, gd_false, gd_tf, gd_ft, gd_ut, gd_uf, gv_true, gv_false, gv_tf, gv_ft, gv_ut, gv_uf, gE_true, gE_false, gE_tf, gE_ft, gE_ut, gE_uf, gU_true, gU_false, gU_tf, gU_ft, pickv_true, pickv_false, cnd_true, cnd_false, decide_true, decide_false, Bool.not_true, Bool.not_false, pr_not, nilv_some, bp_lss, bp_leq, bp_gtr, bp_geq, be_eql, be_neq, bne_self_eq_false, beq_self_eq_true, ldC_some, Option.isNone_none, Option.isNone_some, hp_drew, st]
      exact one _ x' h' a b
    · refine hd.push (by omega) fun x' w' a b k9 st h' => ?_
      simp -implicitDefEqProofs only [wpB_some', gd_true, gd_false, gd_tf, gd_ft, gd_ut, gd_uf, gv_true, gv_false, gv_tf, gv_ft, gv_ut, gv_uf, gE_true, gE_false, gE_tf, gE_ft, gE_ut, gE_uf, gU_true, gU_false, gU_tf, gU_ft, pickv_true, pickv_false, cnd_true, cnd_false, decide_true, decide_false, Bool.not_true, Bool.not_false, pr_not, nilv_some, bp_lss, bp_leq, bp_gtr, bp_geq, be_eql, be_neq, bne_self_eq_false, beq_self_eq_true, ldC_some, Option.isNone_none, Option.isNone_some, hp_drew, k9, t2_0, ix 1 1 (by omega), st]
      exact one _ x' h' a b
set_option maxHeartbeats 2000000 in
theorem lawMany {W : World} (a0 : Int) (_ : (Lit.int .i64 a0).wf = true) (a1 : Int) (_ : (Lit.int .i64 a1).wf = true) :
    CallR Try.prog 6 [.int .i64 a0, .int .i64 a1] W fun v w' => v = .bool true ∧ Below W.heap.size W w' := by
  apply F6_ok
  refine (c_first20 W).mono ?_
  rintro _ w ⟨rfl, c0⟩
  simp -implicitDefEqProofs only [F6, wpB_some', gd_true, gd_false, gd_tf, gd_ft, gd_ut, gd_uf, gv_true, gv_false, gv_tf, gv_ft, gv_ut, gv_uf, gE_true, gE_false, gE_tf, gE_ft, gE_ut, gE_uf, gU_true, gU_false, gU_tf, gU_ft, pickv_true, pickv_false, cnd_true, cnd_false, decide_true, decide_false, Bool.not_true, Bool.not_false, pr_not, nilv_some, bp_lss, bp_leq, bp_gtr, bp_geq, be_eql, be_neq, bne_self_eq_false, beq_self_eq_true, ldC_some, Option.isNone_none, Option.isNone_some, hp_drew]
  refine (c_Number a0 10 w (by omega) (by omega)).step ?_
  obtain ⟨n, hn⟩ : ∃ n : Nat, 60 + a0 % 10 = (n : Int) := ⟨(60 + a0 % 10).toNat, by omega⟩
  simp -implicitDefEqProofs only [bp_add, hn, wrapi (n := (n : Int)) (by omega) (by omega), wpB_some', gd_true, gd_false, gd_tf, gd_ft, gd_ut, gd_uf, gv_true, gv_false, gv_tf, gv_ft, gv_ut, gv_uf, gE_true, gE_false, gE_tf, gE_ft, gE_ut, gE_uf, gU_true, gU_false, gU_tf, gU_ft, pickv_true, pickv_false, cnd_true, cnd_false, decide_true, decide_false, Bool.not_true, Bool.not_false, pr_not, nilv_some, bp_lss, bp_leq, bp_gtr, bp_geq, be_eql, be_neq, bne_self_eq_false, beq_self_eq_true, ldC_some, Option.isNone_none, Option.isNone_some, hp_drew]
  refine (c_Number a1 5 w (by omega) (by omega)).step ?_
  obtain ⟨k, hk⟩ : ∃ k : Nat, 998 + a1 % 5 = (k : Int) := ⟨(998 + a1 % 5).toNat, by omega⟩
  obtain ⟨i, hi, hz, hs, hb⟩ := inf_27
  have one : (1 : Int) = ((1 : Nat) : Int) := rfl
  simp -implicitDefEqProofs only [bp_add, hk, wrapi (n := (k : Int)) (by omega) (by omega), wpB_some', gd_true, gd_false, gd_tf, gd_ft, gd_ut, gd_uf, gv_true, gv_false, gv_tf, gv_ft, gv_ut, gv_uf, gE_true, gE_false, gE_tf, gE_ft, gE_ut, gE_uf, gU_true, gU_false, gU_tf, gU_ft, pickv_true, pickv_false, cnd_true, cnd_false, decide_true, decide_false, Bool.not_true, Bool.not_false, pr_not, nilv_some, bp_lss, bp_leq, bp_gtr, bp_geq, be_eql, be_neq, bne_self_eq_false, beq_self_eq_true, ldC_some, Option.isNone_none, Option.isNone_some, hp_drew, effv_make (kl := .i64) (kc := .i64) (n := n) Try.underlying22 hi hz (by rw [hs]; omega) (by rw [hb]; omega) (by omega), bd_25_0, al_25, alloc_size]
  have hm : ∀ m : Nat, madeCells (Go.Value.slice none 0 0).cells (m * i.size) = (List.replicate m nl).toArray := fun m => by
    apply Array.toList_inj.1
    have := toList_madeCells_one (Go.Value.slice none 0 0) (m * i.size)
    rw [hs, Nat.mul_one] at this ⊢
    exact this
  simp -implicitDefEqProofs only [hm]
  rw [st_25 (by rfl) (by rfl) (by rw [alloc_heap, alloc_size, if_pos rfl]; rfl) (by rw [alloc_heap, alloc_size, if_pos rfl]; rfl), alloc_heap, alloc_size, if_pos rfl]
  simp -implicitDefEqProofs only [getE_some]
  have c1 : Chg [] w (put ((w.alloc (.cells (List.replicate n nl).toArray 27)).alloc (.cells #[.slice none 0 0, .slice none 0 0] 25)) (w.heap.size + 1) #[.slice (some ⟨w.heap.size, 0, none⟩) n n, .slice none 0 0] 25) := (((Chg.refl _ _).alloc _).alloc _).put (.inr (Nat.le_succ _)) _ _
  have h8 : hp (put ((w.alloc (.cells (List.replicate n nl).toArray 27)).alloc (.cells #[.slice none 0 0, .slice none 0 0] 25)) (w.heap.size + 1) #[.slice (some ⟨w.heap.size, 0, none⟩) n n, .slice none 0 0] 25) (w.heap.size + 1) = some (.cells #[.slice (some ⟨w.heap.size, 0, none⟩) n n, nl] 25) := by rw [put_heap, if_pos rfl, if_pos (by simp)]; rfl
  have hsb : hp (put ((w.alloc (.cells (List.replicate n nl).toArray 27)).alloc (.cells #[.slice none 0 0, .slice none 0 0] 25)) (w.heap.size + 1) #[.slice (some ⟨w.heap.size, 0, none⟩) n n, .slice none 0 0] 25) w.heap.size = some (.cells (List.replicate n nl).toArray 27) := by rw [put_heap, if_neg (by omega), alloc_heap, alloc_size, if_neg (by omega), alloc_heap, if_pos rfl]
  generalize put ((w.alloc (.cells (List.replicate n nl).toArray 27)).alloc (.cells #[.slice none 0 0, .slice none 0 0] 25)) (w.heap.size + 1) #[.slice (some ⟨w.heap.size, 0, none⟩) n n, .slice none 0 0] 25 = w2 at *
  have mk1 : ∀ K, effv Try.prog (Instr.makeSlice 22 (.int .i64 1) (.int .i64 1)) w2 K = K (.slice (some ⟨w2.heap.size, 0, none⟩) 1 1) (w2.alloc (.cells #[nl] 27)) := fun K => by
    have := effv_make (P := Try.prog) (w := w2) (K := K) (kl := .i64) (kc := .i64) (n := 1) Try.underlying22 hi hz (by rw [hs]; omega) (by rw [hb]; omega) (by omega)
    rw [hm] at this
    exact this
  simp -implicitDefEqProofs only [mk1, bd_25_0, wpB_some', al_25, alloc_size]
  rw [st_25 (by rfl) (by rfl) (by rw [alloc_heap, alloc_size, if_pos rfl]; rfl) (by rw [alloc_heap, alloc_size, if_pos rfl]; rfl), alloc_heap, alloc_size, if_pos rfl]
  simp -implicitDefEqProofs only [getE_some]
  have c2 : Chg [] w2 (put ((w2.alloc (.cells #[nl] 27)).alloc (.cells #[.slice none 0 0, .slice none 0 0] 25)) (w2.heap.size + 1) #[.slice (some ⟨w2.heap.size, 0, none⟩) 1 1, .slice none 0 0] 25) := (((Chg.refl _ _).alloc _).alloc _).put (.inr (Nat.le_succ _)) _ _
  have h9 : hp (put ((w2.alloc (.cells #[nl] 27)).alloc (.cells #[.slice none 0 0, .slice none 0 0] 25)) (w2.heap.size + 1) #[.slice (some ⟨w2.heap.size, 0, none⟩) 1 1, .slice none 0 0] 25) (w2.heap.size + 1) = some (.cells #[.slice (some ⟨w2.heap.size, 0, none⟩) 1 1, nl] 25) := by rw [put_heap, if_pos rfl, if_pos (by simp)]; rfl
  have ht : hp (put ((w2.alloc (.cells #[nl] 27)).alloc (.cells #[.slice none 0 0, .slice none 0 0] 25)) (w2.heap.size + 1) #[.slice (some ⟨w2.heap.size, 0, none⟩) 1 1, .slice none 0 0] 25) w2.heap.size = some (.cells #[nl] 27) := by rw [put_heap, if_neg (by omega), alloc_heap, alloc_size, if_neg (by omega), alloc_heap, if_pos rfl]
  have hbs := blk_lt hsb
  have z0 := c0.size
  have z1 := c1.size
  exact l_Many0 (by omega) (by omega) (by omega) (by omega) k 0 _ nl ⟨c2.at h8 (by simp), c2.at hsb (by simp), h9, ht, World.ownsRow_nil _ _ _ _, ⟨by omega, by omega, by omega, by omega⟩, by omega, (c0.trans c1).trans c2⟩ rfl rfl (by omega)
end Go.Proofs.Ytgamnncehjcdiaa
