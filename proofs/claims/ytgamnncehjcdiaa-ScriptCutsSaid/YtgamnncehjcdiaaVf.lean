/- Scripts made of numbers (rundalemake): the whole. -/
import Derived.Test.YtgamnncehjcdiaaVe
import Derived.Test.YtgamnncehjcdiaaSe
namespace Go.Proofs.Ytgamnncehjcdiaa
open Go Ev Go.RowKit
set_option linter.unusedSimpArgs false
set_option linter.unusedVariables false
set_option maxRecDepth 10000

set_option maxHeartbeats 400000 in
theorem l_pickM {W : World} {g6 g8 B n : Nat} {vs : List Value} {C : Option Addr} {cy : Nat} {ys : List Int} (hy : RdI .i64 W C ys) (hyl : ys.length ≤ 1000) (hn : n ≤ 64) : ∀ (d i : Nat) (w : World) (L : List (List OpV)) (x : Value), MI W w g6 g8 B n vs L x (m256 (ys.take i)) → i + d = ys.length →
      P21_0 (.slice C ys.length cy) (.pointer (some ⟨g6, 0, none⟩)) (.pointer (some ⟨g8, 0, none⟩)) (.int .i64 i) w (MadeP W n (m256 ys)) := by
  intro d
  induction d with
  | zero =>
    intro i w L x h hi
    apply L21_0_ok
    have : ¬ (i : Int) < ys.length := by omega
    simp -implicitDefEqProofs only [L21_0, wpB_some', gd_true, gd_false, gd_tf, gd_ft, gd_ut, gd_uf, gv_true, gv_false, gv_tf, gv_ft, gv_ut, gv_uf, gE_true, gE_false, gE_tf, gE_ft, gE_ut, gE_uf, gU_true, gU_false, gU_tf, gU_ft, pickv_true, pickv_false, cnd_true, cnd_false, decide_true, decide_false, Bool.not_true, Bool.not_false, pr_not, nilv_some, bp_lss, bp_leq, bp_gtr, bp_geq, be_eql, be_neq, bne_self_eq_false, beq_self_eq_true, ldC_some, Option.isNone_none, Option.isNone_some, hp_drew, len_23, this]
    rw [List.take_of_length_le (by omega)] at h
    exact l_fix hn n 0 w L h (fun a ha => by omega) (by omega)
  | succ d ih =>
    intro i w L x h hi
    apply L21_0_ok
    have hlt : (i : Int) < ys.length := by omega
    have hil : i < ys.length := by omega
    obtain ⟨q, q1, q2⟩ := ((hy.keep h.ch.below).drew).at (P := Try.prog) (c := cy) (j := .i64) Try.underlying23 Try.underlying3 sz_3 (i := (i : Int)) (by omega) hlt
    obtain ⟨A', c', rfl, hr, _⟩ := rdV_of_own h.own
    have h8d : hp w.drew g8 = some (.cells #[.slice (some ⟨B, 0, none⟩) n n, .slice A' (m256 (ys.take i)).length c'] 25) := h.h8
    have el : ys.getD i 0 = ys[i] := by simp [List.getD_eq_getElem?_getD, hil]
    rw [Int.toNat_natCast, el] at q2
    have em : m256 (ys.take (i + 1)) = m256 (ys.take i) ++ [ys[i] % 256] := by rw [take_snoc hil, m256, m256, List.map_append]; rfl
    have hlen : (m256 (ys.take i)).length = i := by simp [m256]; omega
    have fin : ∀ w', w' = w.drew → effv Try.prog (Instr.buildSlice 23 1 #[(0, .int .i64 (ys[i] % 256))]) w' fun t32 w =>
        effv Try.prog (Builtin.append_ #[23, 23] 23 #[.slice A' (m256 (ys.take i)).length c', t32]) w fun t33 w =>
        effu Try.prog (Instr.storeAt 23 (.pointer (some ⟨g8, 0 + 1, none⟩)) t33) w fun w =>
        P21_1 (.slice C ys.length cy) (.pointer (some ⟨g6, 0, none⟩)) (.pointer (some ⟨g8, 0, none⟩)) (.int .i64 i) w (MadeP W n (m256 ys)) := by
      rintro w' rfl
      have h8lt := blk_lt h8d
      have hown : w.drew.ownsRow (g8 + 1) 3 1 (.slice A' (m256 (ys.take i)).length c') (m256 (ys.take i)).length (ints (m256 (ys.take i))) := h.own
      refine ps_23 (fun u hu => by simp at hu; subst hu; rfl) hown (by omega) (by omega) fun x' w4 ho4 hg hnb => ?_
      obtain ⟨A2, c2, rfl, _⟩ := rdV_of_own ho4
      have cg := chg_own hg
      have hge : ∀ k ∈ (Value.slice A' (m256 (ys.take i)).length c').ownBlock.toList, g8 < k := fun k hk => (own_ge hown) k hk
      have h84 := cg.at h8d (fun hm => by have := hge _ hm; omega)
      have ok4 : okC (hp w4 g8) (0 + 1 + 1) = true := by rw [h84]; rfl
      rw [st_23 rfl rfl ok4, h84, getC_some, getE_some]
      have cp : Chg [g8] w4 (put w4 g8 #[.slice (some ⟨B, 0, none⟩) n n, .slice A2 ((m256 (ys.take i)).length + 1) c2] 25) := (Chg.refl _ _).put (.inl (by simp)) _ _
      have n6 := h.g6B
      have nB := h.lt.1
      have l4 : LL w4 B vs L := (h.ll.keep (Chg.refl [] _).drew (fun k hk => by simp at hk)).keepT h.lt cg fun k hk => .inr (by have := hge k hk; omega)
      have h6d : hp w.drew g6 = some (.cells #[nilS, nilS] 25) := h.h6
      have h64 := cg.at h6d (fun hm => by have := hge _ hm; omega)
      apply L21_1_ok
      simp -implicitDefEqProofs only [L21_1, wpB_some', gd_true, gd_false, gd_tf, gd_ft, gd_ut, gd_uf, gv_true, gv_false, gv_tf, gv_ft, gv_ut, gv_uf, gE_true, gE_false, gE_tf, gE_ft, gE_ut, gE_uf, gU_true, gU_false, gU_tf, gU_ft, pickv_true, pickv_false, cnd_true, cnd_false, decide_true, decide_false, Bool.not_true, Bool.not_false, pr_not, nilv_some, bp_lss, bp_leq, bp_gtr, bp_geq, be_eql, be_neq, bne_self_eq_false, beq_self_eq_true, ldC_some, Option.isNone_none, Option.isNone_some, hp_drew, bp_add, wrapi (n := (i : Int) + 1) (by omega) (by omega)]
      have := ih (i + 1) (put w4 g8 #[.slice (some ⟨B, 0, none⟩) n n, .slice A2 ((m256 (ys.take i)).length + 1) c2] 25) L _ ⟨cp.at h64 (by simp; omega), put_same (blk_lt h84) _ _, l4.keepT h.lt cp (fun k hk => .inr (by simp at hk; omega)), h.lt, by
        rw [em, List.length_append, ints_append]
        exact ownsRow_chg ho4 cp fun k hk => by have := (ho4.lt k hk).1; simp; omega, h.gen, h.n, h.g6B, h.g6W, h.tt, Chg.put (h.ch.drew.grown hg fun k hk => .inr (by have := hge k (by simpa using hk); have := h.g6W; omega)) (.inr (by have := h.g6W; omega)) _ _⟩ (by omega)
      rw [Int.natCast_add i 1] at this
      exact this
    simp -implicitDefEqProofs only [L21_0, wpB_some', gd_true, gd_false, gd_tf, gd_ft, gd_ut, gd_uf, gv_true, gv_false, gv_tf, gv_ft, gv_ut, gv_uf, gE_true, gE_false, gE_tf, gE_ft, gE_ut, gE_uf, gU_true, gU_false, gU_tf, gU_ft, pickv_true, pickv_false, cnd_true, cnd_false, decide_true, decide_false, Bool.not_true, Bool.not_false, pr_not, nilv_some, bp_lss, bp_leq, bp_gtr, bp_geq, be_eql, be_neq, bne_self_eq_false, beq_self_eq_true, ldC_some, Option.isNone_none, Option.isNone_some, hp_drew, len_23, hlt, fa_25_1, ld_23, h8d, t2_1, q1, ld_3, q2, el]
    refine ⟨?_, ?_⟩
    · refine (c_Number ys[i] 256 _ (by omega) (by omega)).step ?_
      exact fin _ rfl
    · refine (c_Number ys[i] 256 _ (by omega) (by omega)).step ?_
      simp -implicitDefEqProofs only [wpB_some', gd_true, gd_false, gd_tf, gd_ft, gd_ut, gd_uf, gv_true, gv_false, gv_tf, gv_ft, gv_ut, gv_uf, gE_true, gE_false, gE_tf, gE_ft, gE_ut, gE_uf, gU_true, gU_false, gU_tf, gU_ft, pickv_true, pickv_false, cnd_true, cnd_false, decide_true, decide_false, Bool.not_true, Bool.not_false, pr_not, nilv_some, bp_lss, bp_leq, bp_gtr, bp_geq, be_eql, be_neq, bne_self_eq_false, beq_self_eq_true, ldC_some, Option.isNone_none, Option.isNone_some, hp_drew, fa_25_1, ld_23, h.h8, t2_1]
      exact fin _ rfl
set_option maxHeartbeats 400000 in
theorem c_made20 {W : World} {A C : Option Addr} {c cy : Nat} {xs ys : List Int} (hA : RdI .i64 W A xs) (hy : RdI .i64 W C ys) (hyl : ys.length ≤ 1000) (m : Int) :
    CallR Try.prog 21 [.slice A xs.length c, .slice C ys.length cy, .int .i64 m] W (MadeP W (1 + m % 8).toNat (m256 ys)) := by
  have hnn : ∃ n : Nat, 1 + m % 8 = (n : Int) ∧ (1 + m % 8).toNat = n := ⟨(1 + m % 8).toNat, by omega, rfl⟩
  obtain ⟨n, hn, hnn⟩ := hnn
  rw [hnn]
  apply F21_ok
  simp -implicitDefEqProofs only [F21, wpB_some', gd_true, gd_false, gd_tf, gd_ft, gd_ut, gd_uf, gv_true, gv_false, gv_tf, gv_ft, gv_ut, gv_uf, gE_true, gE_false, gE_tf, gE_ft, gE_ut, gE_uf, gU_true, gU_false, gU_tf, gU_ft, pickv_true, pickv_false, cnd_true, cnd_false, decide_true, decide_false, Bool.not_true, Bool.not_false, pr_not, nilv_some, bp_lss, bp_leq, bp_gtr, bp_geq, be_eql, be_neq, bne_self_eq_false, beq_self_eq_true, ldC_some, Option.isNone_none, Option.isNone_some, hp_drew, al_25]
  refine (c_Number m 8 _ (by omega) (by omega)).step ?_
  simp -implicitDefEqProofs only [wpB_some', gd_true, gd_false, gd_tf, gd_ft, gd_ut, gd_uf, gv_true, gv_false, gv_tf, gv_ft, gv_ut, gv_uf, gE_true, gE_false, gE_tf, gE_ft, gE_ut, gE_uf, gU_true, gU_false, gU_tf, gU_ft, pickv_true, pickv_false, cnd_true, cnd_false, decide_true, decide_false, Bool.not_true, Bool.not_false, pr_not, nilv_some, bp_lss, bp_leq, bp_gtr, bp_geq, be_eql, be_neq, bne_self_eq_false, beq_self_eq_true, ldC_some, Option.isNone_none, Option.isNone_some, hp_drew, bp_add, hn, wrapi (n := (n : Int)) (by omega) (by omega)]
  generalize hz : W.alloc _ = w1
  have c1 : Chg [] W w1 := by rw [← hz]; exact (Chg.refl _ _).alloc _
  have z1 : w1.heap.size = W.heap.size + 1 := by rw [← hz]; simp
  have h6 : hp w1 W.heap.size = some (.cells #[nilS, nilS] 25) := by rw [← hz, alloc_heap, if_pos rfl]; rfl
  clear hz
  refine (c_genOps (c := c) (hA.keep c1.below) (n := n) (by omega) (by omega)).mono ?_
  rintro _ w2 ⟨B, vs, L, rfl, hl, hgen, hLn, htt, hB, c2⟩
  simp -implicitDefEqProofs only [wpB_some', gd_true, gd_false, gd_tf, gd_ft, gd_ut, gd_uf, gv_true, gv_false, gv_tf, gv_ft, gv_ut, gv_uf, gE_true, gE_false, gE_tf, gE_ft, gE_ut, gE_uf, gU_true, gU_false, gU_tf, gU_ft, pickv_true, pickv_false, cnd_true, cnd_false, decide_true, decide_false, Bool.not_true, Bool.not_false, pr_not, nilv_some, bp_lss, bp_leq, bp_gtr, bp_geq, be_eql, be_neq, bne_self_eq_false, beq_self_eq_true, ldC_some, Option.isNone_none, Option.isNone_some, hp_drew, bd_25_0, al_25]
  rw [st_25 (by rfl) (by rfl) (by rw [alloc_heap, if_pos rfl]; rfl) (by rw [alloc_heap, if_pos rfl]; rfl), alloc_heap, if_pos rfl]
  simp -implicitDefEqProofs only [getE_some]
  generalize hzz : w2.alloc _ = wa
  have hca : Chg [] w2 wa := by rw [← hzz]; exact (Chg.refl _ _).alloc _
  have hza : wa.heap.size = w2.heap.size + 1 := by rw [← hzz]; simp
  have hcp : Chg [] w2 (put wa w2.heap.size #[.slice (some ⟨B, 0, none⟩) n n, .slice none 0 0] 25) := hca.put (.inr (Nat.le_refl _)) _ _
  have h8 : hp (put wa w2.heap.size #[.slice (some ⟨B, 0, none⟩) n n, .slice none 0 0] 25) w2.heap.size = some (.cells #[.slice (some ⟨B, 0, none⟩) n n, .slice none 0 0] 25) := by rw [put_heap, if_pos rfl, if_pos (by omega)]
  exact l_pickM (hy) hyl (by omega) ys.length 0 _ L _ ⟨hcp.at (c2.at h6 (by simp)) (by simp), h8, hl.keep hcp (fun k hk => by simp at hk), hl.lt, World.ownsRow_nil _ _ _ _, hgen, hLn, by omega, Nat.le_refl _, htt, (c1.trans c2).trans hcp⟩ (by omega)
end Go.Proofs.Ytgamnncehjcdiaa
