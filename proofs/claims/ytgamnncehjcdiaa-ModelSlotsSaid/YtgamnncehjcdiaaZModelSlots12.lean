/- Parts of the proof of ModelSlots, one behind the other. Conditions: none. -/
import Derived.Test.YtgamnncehjcdiaaZModelSlots11
namespace Go.Proofs.Ytgamnncehjcdiaa
open Go Ev Go.RowKit
set_option linter.unusedSimpArgs false
set_option linter.unusedVariables false
set_option maxRecDepth 10000

theorem arr4_at (b : Nat) {k : Nat} (h1 : k < 4) : pureRun Try.prog (Instr.indexAt 93 (.pointer (some ⟨b, 0, none⟩)) (.int .i64 (k : Int))) = some (.pointer (some ⟨b, 0 + k * 1, none⟩)) := by
  have := pr_indexA (P := Try.prog) (b := b) (o := 0) (k := .i64) (i := (k : Int)) (z := 1) Try.underlying93 (by kernel_rfl) (by omega) (by omega)
  rw [Int.toNat_natCast] at this
  exact this
/-- all that the loop has -/
structure Wsl (W0 w : World) (g g8 g11 g12 : Nat) (c : CfV) (m : MdV) (st gn : List Int) (K : Nat) (F : Fp) : Prop where
  M : MdW W0 w g m K F
  h8 : hp w g8 = some (.cells (cfC c).toArray 74)
  h11 : hp w g11 = some (.cells (ints st).toArray 93)
  h12 : hp w g12 = some (.cells (ints gn).toArray 93)
  n8 : ¬ F g8
  n11 : ¬ F g11
  n12 : ¬ F g12
  ne : g11 ≠ g12
  w11 : W0.heap.size ≤ g11
  w12 : W0.heap.size ≤ g12
section
variable {W0 w w' : World} {g g8 g11 g12 : Nat} {c : CfV} {m m' : MdV} {st gn : List Int} {K K' : Nat} {F F' : Fp} {loose : Bool} {n s : Nat}
theorem Wsl.keep (D : Wsl W0 w g g8 g11 g12 c m st gn K F) (hc : Chg [] w w') : Wsl W0 w' g g8 g11 g12 c m st gn K F :=
  ⟨D.M.keep hc, hc.at D.h8 (by simp), hc.at D.h11 (by simp), hc.at D.h12 (by simp), D.n8, D.n11, D.n12, D.ne, D.w11, D.w12⟩
theorem Wsl.upd (D : Wsl W0 w g g8 g11 g12 c m st gn K F) (i : MdI w' g m' F') (u : UpdP F F' w w') (wf : Wf m' K') : Wsl W0 w' g g8 g11 g12 c m' st gn K' F' :=
  ⟨D.M.upd i u wf, (u.keep D.h8 D.n8).1, (u.keep D.h11 D.n11).1, (u.keep D.h12 D.n12).1, (u.keep D.h8 D.n8).2, (u.keep D.h11 D.n11).2, (u.keep D.h12 D.n12).2, D.ne, D.w11, D.w12⟩
theorem Wsl.put (D : Wsl W0 w g g8 g11 g12 c m st gn K F) {x : Nat} {L : List Int} (hx : hp w x = some (.cells (ints L).toArray 93)) (nx : ¬ F x) (wx : W0.heap.size ≤ x) (J : List Int) : MdW W0 (Ev.put w x (ints J).toArray 93) g m K F ∧ hp (Ev.put w x (ints J).toArray 93) g8 = some (.cells (cfC c).toArray 74) := by
  have ne8 : g8 ≠ x := fun h => by
    subst h
    rw [D.h8] at hx
    injection hx with h1
    injection h1 with _ h2
    exact absurd h2 (by decide)
  exact ⟨⟨D.M.chg.put (.inr wx) _ _, D.M.I.frame (good_md m) (ChgP.put w x _ _) fun k hk h => nx (by rw [← h]; exact hk), D.M.new, D.M.wf⟩, by rw [put_other ne8]; exact D.h8⟩
theorem Wsl.put11 (D : Wsl W0 w g g8 g11 g12 c m st gn K F) (J : List Int) : Wsl W0 (Ev.put w g11 (ints J).toArray 93) g g8 g11 g12 c m J gn K F := by
  obtain ⟨h1, h2⟩ := D.put D.h11 D.n11 D.w11 J
  exact ⟨h1, h2, put_same (blk_lt D.h11) _ _, by rw [put_other (Ne.symm D.ne)]; exact D.h12, D.n8, D.n11, D.n12, D.ne, D.w11, D.w12⟩
theorem Wsl.put12 (D : Wsl W0 w g g8 g11 g12 c m st gn K F) (J : List Int) : Wsl W0 (Ev.put w g12 (ints J).toArray 93) g g8 g11 g12 c m st J K F := by
  obtain ⟨h1, h2⟩ := D.put D.h12 D.n12 D.w12 J
  exact ⟨h1, h2, by rw [put_other D.ne]; exact D.h11, put_same (blk_lt D.h12) _ _, D.n8, D.n11, D.n12, D.ne, D.w11, D.w12⟩
theorem Wsl.does (D : Wsl W0 w g g8 g11 g12 c m st gn K F) (hK : K + 1 ≤ 1000000) {kind n v x : Int} {h : HnV} {r : RsV} {b : Bool} (hd : doV m 0 (kind, 0, 0, n, v, x) h r = (b, m')) :
    CallR Try.prog 42 [.pointer (some ⟨g, 0, none⟩), .int .i64 kind, .int .i64 n, .int .u64 v, .int .u64 x, .agg (hnC h).toArray, .agg (rsC r).toArray] w fun u w' => u = .bool b ∧ ∃ F', Wsl W0 w' g g8 g11 g12 c m' st gn (K + 1) F' ∧ UpdP F F' w w' := by
  have wf := D.M.wf.doV 0 (kind, 0, 0, n, v, x) h r
  refine (c_does24 D.M.I D.M.wf hK kind n v x h r).mono ?_
  rintro u w1 ⟨hu, F1, i1, u1⟩
  rw [hd] at hu i1 wf
  exact ⟨hu, F1, D.upd i1 u1 wf, u1⟩
theorem stI (hb : hp w g = some (.cells (ints st).toArray 93)) (hk : s < st.length) (x : Int) {L : World → Prop} : effu Try.prog (Instr.storeAt 3 (.pointer (some ⟨g, 0 + s * 1, none⟩)) (.int .i64 x)) w L = L (put w g (ints (st.set s x)).toArray 93) := by
  rw [st_3 (o := 0 + s * 1) rfl rfl (ints_ok hb hk), ints_st hb x]
abbrev Nxt (W0 : World) (g g8 g11 g12 : Nat) (c : CfV) (loose : Bool) (n : Nat) (x2 : Value) (i : Nat) : Prop :=
  ∀ (w : World) (m : MdV) (st gn : List Int) (F : Fp), Wsl W0 w g g8 g11 g12 c m st gn (10 * (i + 1)) F → SlI loose n m st gn (i + 1) →
    P12_0 (.bool loose) x2 (.bool true) (.pointer (some ⟨g8, 0, none⟩)) (.pointer (some ⟨g, 0, none⟩)) (.pointer (some ⟨g11, 0, none⟩)) (.pointer (some ⟨g12, 0, none⟩)) (.int .i64 ((i : Int) + 1)) w fun v w' => v = .bool true ∧ Chg [] W0 w'
variable {x2 : Value} {i : Nat}
theorem Wsl.mono (D : Wsl W0 w g g8 g11 g12 c m st gn K F) (h : K ≤ K') : Wsl W0 w g g8 g11 g12 c m st gn K' F :=
  ⟨⟨D.M.chg, D.M.I, D.M.new, D.M.wf.mono h⟩, D.h8, D.h11, D.h12, D.n8, D.n11, D.n12, D.ne, D.w11, D.w12⟩
set_option maxHeartbeats 1000000 in
theorem l_sl6 (N : Nxt W0 g g8 g11 g12 c loose n x2 i) (hi : i < 1000) (D : Wsl W0 w g g8 g11 g12 c m st gn K F) (hK : K ≤ 10 * (i + 1)) (S : SlI loose n m st gn (i + 1)) (hs : s < n) :
    P12_6 (.bool loose) x2 (.bool true) (.pointer (some ⟨g8, 0, none⟩)) (.pointer (some ⟨g, 0, none⟩)) (.pointer (some ⟨g11, 0, none⟩)) (.pointer (some ⟨g12, 0, none⟩)) (.int .i64 i) (.int .i64 s) w fun v w' => v = .bool true ∧ Chg [] W0 w' := by
  apply L12_6_ok
  have n4 := S.n4
  have k1 : s < st.length := by rw [S.l1]; omega
  have k2 : s < gn.length := by rw [S.l2]; omega
  obtain ⟨_, _, _, R⟩ := D.M.I.rd
  simp -implicitDefEqProofs only [L12_6]
  refine (c_mLive R (s : Int)).step ?_
  rw [S.live hs]
  have fin := N w m st gn F (D.mono hK) S
  have e1 : ((0 : Int) != 0) = false := rfl
  by_cases h1 : st.getD s 0 = 1
  · have e : (st.getD s 0 == 1) = true := by rw [h1]; rfl
    simp -implicitDefEqProofs only [if_pos h1, tup0, tup1, wpB_some', gd_true, gd_false, gd_tf, gd_ft, gd_ut, gd_uf, gv_true, gv_false, gv_tf, gv_ft, gv_ut, gv_uf, gE_true, gE_false, gE_tf, gE_ft, gE_ut, gE_uf, gU_true, gU_false, gU_tf, gU_ft, pickv_true, pickv_false, cnd_true, cnd_false, decide_true, decide_false, Bool.not_true, Bool.not_false, pr_not, nilv_some, bp_lss, bp_leq, bp_gtr, bp_geq, be_eql, be_neq, bne_self_eq_false, beq_self_eq_true, ldC_some, Option.isNone_none, Option.isNone_some, hp_drew, arr4_at g11 (show s < 4 by omega), arr4_at g12 (show s < 4 by omega), ld_3, ints_ld D.h11 k1, ints_ld D.h12 k2, e, be_neqb Try.underlying4, bp_add, wrapi (n := (i : Int) + 1) (by omega) (by omega)]
    exact fin
  · simp -implicitDefEqProofs only [if_neg h1, tup0, tup1, wpB_some', gd_true, gd_false, gd_tf, gd_ft, gd_ut, gd_uf, gv_true, gv_false, gv_tf, gv_ft, gv_ut, gv_uf, gE_true, gE_false, gE_tf, gE_ft, gE_ut, gE_uf, gU_true, gU_false, gU_tf, gU_ft, pickv_true, pickv_false, cnd_true, cnd_false, decide_true, decide_false, Bool.not_true, Bool.not_false, pr_not, nilv_some, bp_lss, bp_leq, bp_gtr, bp_geq, be_eql, be_neq, bne_self_eq_false, beq_self_eq_true, ldC_some, Option.isNone_none, Option.isNone_some, hp_drew, arr4_at g11 (show s < 4 by omega), arr4_at g12 (show s < 4 by omega), ld_3, ints_ld D.h11 k1, ints_ld D.h12 k2, eqf h1, be_neqb Try.underlying4, bp_add, wrapi (n := (i : Int) + 1) (by omega) (by omega)]
    exact fin
set_option maxHeartbeats 1000000 in
theorem l_sl3 (N : Nxt W0 g g8 g11 g12 c loose n x2 i) (hi : i < 1000) (D : Wsl W0 w g g8 g11 g12 c m st gn K F) (hK : K ≤ 10 * (i + 1)) (l1 : st.length = 4) (l2 : gn.length = 4) (n4 : n ≤ 4) (gr : 0 ≤ gn.getD s 0 ∧ gn.getD s 0 ≤ 1000) (S : if st.getD s 0 = 0 then SlI loose n m (st.set s 1) (gn.set s (gn.getD s 0 + 1)) (i + 1) else SlI loose n m st gn (i + 1)) (hs : s < n) :
    P12_3 (.bool loose) x2 (.bool true) (.pointer (some ⟨g8, 0, none⟩)) (.pointer (some ⟨g, 0, none⟩)) (.pointer (some ⟨g11, 0, none⟩)) (.pointer (some ⟨g12, 0, none⟩)) (.int .i64 i) (.int .i64 s) (.bool false) w fun v w' => v = .bool true ∧ Chg [] W0 w' := by
  apply L12_3_ok
  have k1 : s < st.length := by rw [l1]; omega
  have k2 : s < gn.length := by rw [l2]; omega
  by_cases h0 : st.getD s 0 = 0
  · rw [if_pos h0] at S
    have e : (st.getD s 0 == 0) = true := by rw [h0]; rfl
    have D1 := D.put11 (st.set s 1)
    have D2 := D1.put12 (gn.set s (gn.getD s 0 + 1))
    simp -implicitDefEqProofs only [L12_3, wpB_some', gd_true, gd_false, gd_tf, gd_ft, gd_ut, gd_uf, gv_true, gv_false, gv_tf, gv_ft, gv_ut, gv_uf, gE_true, gE_false, gE_tf, gE_ft, gE_ut, gE_uf, gU_true, gU_false, gU_tf, gU_ft, pickv_true, pickv_false, cnd_true, cnd_false, decide_true, decide_false, Bool.not_true, Bool.not_false, pr_not, nilv_some, bp_lss, bp_leq, bp_gtr, bp_geq, be_eql, be_neq, bne_self_eq_false, beq_self_eq_true, ldC_some, Option.isNone_none, Option.isNone_some, hp_drew, arr4_at g11 (show s < 4 by omega), arr4_at g12 (show s < 4 by omega), ld_3, ints_ld D.h11 k1, e, stI D.h11 k1, ints_ld D1.h12 k2, bp_add, wrapi (n := gn.getD s 0 + 1) (by omega) (by omega), stI D1.h12 k2]
    exact l_sl6 N hi D2 hK S hs
  · rw [if_neg h0] at S
    simp -implicitDefEqProofs only [L12_3, wpB_some', gd_true, gd_false, gd_tf, gd_ft, gd_ut, gd_uf, gv_true, gv_false, gv_tf, gv_ft, gv_ut, gv_uf, gE_true, gE_false, gE_tf, gE_ft, gE_ut, gE_uf, gU_true, gU_false, gU_tf, gU_ft, pickv_true, pickv_false, cnd_true, cnd_false, decide_true, decide_false, Bool.not_true, Bool.not_false, pr_not, nilv_some, bp_lss, bp_leq, bp_gtr, bp_geq, be_eql, be_neq, bne_self_eq_false, beq_self_eq_true, ldC_some, Option.isNone_none, Option.isNone_some, hp_drew, arr4_at g11 (show s < 4 by omega), ld_3, ints_ld D.h11 k1, eqf h0]
    exact l_sl6 N hi D hK S hs
set_option maxHeartbeats 1000000 in
theorem l_sl4 (N : Nxt W0 g g8 g11 g12 c loose n x2 i) (hi : i < 1000) (D : Wsl W0 w g g8 g11 g12 c m st gn K F) (hK : K + 1 ≤ 10 * (i + 1)) (S : SlI loose n m st gn (i + 1)) (hs : s < n) {g17 g19 : Nat} (h17 : hp w g17 = some (.cells (hnC ((s : Int), gn.getD s 0, 0, 0, 0)).toArray 51)) (h19 : hp w g19 = some (.cells (rsC (codeR (freeC st gn s))).toArray 53)) :
    P12_4 (.bool loose) x2 (.bool true) (.pointer (some ⟨g8, 0, none⟩)) (.pointer (some ⟨g, 0, none⟩)) (.pointer (some ⟨g11, 0, none⟩)) (.pointer (some ⟨g12, 0, none⟩)) (.int .i64 i) (.int .i64 s) (.pointer (some ⟨g17, 0, none⟩)) (.pointer (some ⟨g19, 0, none⟩)) w fun v w' => v = .bool true ∧ Chg [] W0 w' := by
  apply L12_4_ok
  have n4 := S.n4
  have k1 : s < st.length := by rw [S.l1]; omega
  have k2 : s < gn.length := by rw [S.l2]; omega
  simp -implicitDefEqProofs only [L12_4, ld_hn h17, ld_res h19, wpB_some']
  refine (D.does (by omega) (S.free hs)).mono ?_
  rintro _ w1 ⟨rfl, F1, D1, _⟩
  by_cases h1 : st.getD s 0 = 1
  · rw [if_pos h1] at D1
    have e : (st.getD s 0 == 1) = true := by rw [h1]; rfl
    have D2 := D1.put11 (st.set s 2)
    have k12 : s < (st.set s 2).length := by rw [List.length_set]; exact k1
    cases loose with
    | false =>
      simp -implicitDefEqProofs only [wpB_some', gd_true, gd_false, gd_tf, gd_ft, gd_ut, gd_uf, gv_true, gv_false, gv_tf, gv_ft, gv_ut, gv_uf, gE_true, gE_false, gE_tf, gE_ft, gE_ut, gE_uf, gU_true, gU_false, gU_tf, gU_ft, pickv_true, pickv_false, cnd_true, cnd_false, decide_true, decide_false, Bool.not_true, Bool.not_false, pr_not, nilv_some, bp_lss, bp_leq, bp_gtr, bp_geq, be_eql, be_neq, bne_self_eq_false, beq_self_eq_true, ldC_some, Option.isNone_none, Option.isNone_some, hp_drew, arr4_at g11 (show s < 4 by omega), ld_3, ints_ld D1.h11 k1, e, stI D1.h11 k1]
      exact l_sl6 N hi D2 (by omega) (S.turn hs 2 (by decide)) hs
    | true =>
      have D3 := D2.put11 ((st.set s 2).set s 0)
      rw [List.set_set] at D3
      simp -implicitDefEqProofs only [wpB_some', gd_true, gd_false, gd_tf, gd_ft, gd_ut, gd_uf, gv_true, gv_false, gv_tf, gv_ft, gv_ut, gv_uf, gE_true, gE_false, gE_tf, gE_ft, gE_ut, gE_uf, gU_true, gU_false, gU_tf, gU_ft, pickv_true, pickv_false, cnd_true, cnd_false, decide_true, decide_false, Bool.not_true, Bool.not_false, pr_not, nilv_some, bp_lss, bp_leq, bp_gtr, bp_geq, be_eql, be_neq, bne_self_eq_false, beq_self_eq_true, ldC_some, Option.isNone_none, Option.isNone_some, hp_drew, arr4_at g11 (show s < 4 by omega), ld_3, ints_ld D1.h11 k1, e, stI D1.h11 k1, stI D2.h11 k12, List.set_set]
      exact l_sl6 N hi D3 (by omega) (S.turn hs 0 (by decide)) hs
  · rw [if_neg h1] at D1
    simp -implicitDefEqProofs only [wpB_some', gd_true, gd_false, gd_tf, gd_ft, gd_ut, gd_uf, gv_true, gv_false, gv_tf, gv_ft, gv_ut, gv_uf, gE_true, gE_false, gE_tf, gE_ft, gE_ut, gE_uf, gU_true, gU_false, gU_tf, gU_ft, pickv_true, pickv_false, cnd_true, cnd_false, decide_true, decide_false, Bool.not_true, Bool.not_false, pr_not, nilv_some, bp_lss, bp_leq, bp_gtr, bp_geq, be_eql, be_neq, bne_self_eq_false, beq_self_eq_true, ldC_some, Option.isNone_none, Option.isNone_some, hp_drew, arr4_at g11 (show s < 4 by omega), ld_3, ints_ld D1.h11 k1, eqf h1]
    exact l_sl6 N hi D1 (by omega) S hs
set_option maxHeartbeats 1000000 in
theorem l_sl5 (N : Nxt W0 g g8 g11 g12 c loose n x2 i) (hi : i < 1000) (D : Wsl W0 w g g8 g11 g12 c m st gn K F) (hK : K ≤ 10 * (i + 1)) (l1 : st.length = 4) (n4 : n ≤ 4) (S : if st.getD s 0 = 2 then SlI loose n m (st.set s 0) gn (i + 1) else SlI loose n m st gn (i + 1)) (hs : s < n) :
    P12_5 (.bool loose) x2 (.bool true) (.pointer (some ⟨g8, 0, none⟩)) (.pointer (some ⟨g, 0, none⟩)) (.pointer (some ⟨g11, 0, none⟩)) (.pointer (some ⟨g12, 0, none⟩)) (.int .i64 i) (.int .i64 s) (.bool false) w fun v w' => v = .bool true ∧ Chg [] W0 w' := by
  apply L12_5_ok
  have k1 : s < st.length := by rw [l1]; omega
  by_cases h0 : st.getD s 0 = 2
  · rw [if_pos h0] at S
    have e : (st.getD s 0 == 2) = true := by rw [h0]; rfl
    have D1 := D.put11 (st.set s 0)
    simp -implicitDefEqProofs only [L12_5, wpB_some', gd_true, gd_false, gd_tf, gd_ft, gd_ut, gd_uf, gv_true, gv_false, gv_tf, gv_ft, gv_ut, gv_uf, gE_true, gE_false, gE_tf, gE_ft, gE_ut, gE_uf, gU_true, gU_false, gU_tf, gU_ft, pickv_true, pickv_false, cnd_true, cnd_false, decide_true, decide_false, Bool.not_true, Bool.not_false, pr_not, nilv_some, bp_lss, bp_leq, bp_gtr, bp_geq, be_eql, be_neq, bne_self_eq_false, beq_self_eq_true, ldC_some, Option.isNone_none, Option.isNone_some, hp_drew, arr4_at g11 (show s < 4 by omega), ld_3, ints_ld D.h11 k1, e, stI D.h11 k1]
    exact l_sl6 N hi D1 hK S hs
  · rw [if_neg h0] at S
    simp -implicitDefEqProofs only [L12_5, wpB_some', gd_true, gd_false, gd_tf, gd_ft, gd_ut, gd_uf, gv_true, gv_false, gv_tf, gv_ft, gv_ut, gv_uf, gE_true, gE_false, gE_tf, gE_ft, gE_ut, gE_uf, gU_true, gU_false, gU_tf, gU_ft, pickv_true, pickv_false, cnd_true, cnd_false, decide_true, decide_false, Bool.not_true, Bool.not_false, pr_not, nilv_some, bp_lss, bp_leq, bp_gtr, bp_geq, be_eql, be_neq, bne_self_eq_false, beq_self_eq_true, ldC_some, Option.isNone_none, Option.isNone_some, hp_drew, arr4_at g11 (show s < 4 by omega), ld_3, ints_ld D.h11 k1, eqf h0]
    exact l_sl6 N hi D hK S hs
end
end Go.Proofs.Ytgamnncehjcdiaa

namespace Go.Proofs.Ytgamnncehjcdiaa
open Go Ev Go.RowKit
set_option linter.unusedSimpArgs false
set_option linter.unusedVariables false
set_option maxRecDepth 10000

section
variable {W0 w w' : World} {g g8 g11 g12 : Nat} {c : CfV} {m m' : MdV} {st gn : List Int} {K K' : Nat} {F F' : Fp} {loose : Bool} {n s : Nat} {i : Nat}
def cntZ (st : List Int) (k : Nat) : Nat := ((st.take k).filter fun x => decide (x = 0)).length
theorem cntZ_le (st : List Int) (k : Nat) : cntZ st k ≤ k := by
  have := List.length_filter_le (fun p : Int => decide (p = 0)) (st.take k)
  simp only [cntZ]; simp at this ⊢; omega
theorem cntZ_succ {st : List Int} {k : Nat} (h : k < st.length) : cntZ st (k + 1) = cntZ st k + if st.getD k 0 = 0 then 1 else 0 := by
  have e : st.getD k 0 = st[k] := by rw [List.getD_eq_getElem?_getD, List.getElem?_eq_getElem h]; rfl
  rw [cntZ, List.take_add_one, List.getElem?_eq_getElem h, e]
  simp only [cntZ, Option.toList_some, List.filter_append, List.length_append]
  by_cases h : st[k] = 0 <;> simp [h]
/-- a number of the slice -/
theorem num_at {A : Option Addr} {cc : Nat} {xs : List Int} (hR : RdI .i64 w A xs) (hi : i < xs.length) :
    ∃ q : Addr, pureRun Try.prog (Instr.indexAt 23 (.slice A xs.length cc) (.int .i64 (i : Int))) = some (.pointer (some q)) ∧ ldv Try.prog 3 (.pointer (some q)) w = some (.int .i64 xs[i]) := int_at hR (List.getElem?_eq_getElem hi)
set_option maxHeartbeats 4000000 in
theorem l_sl1 {A : Option Addr} {cc : Nat} {xs : List Int} (hR : RdI .i64 W0 A xs) (hix : i < xs.length) (hc : c.2.2.2.1 = n) (N : Nxt W0 g g8 g11 g12 c loose n (.slice A xs.length cc) i) (hi : i < 100) (D : Wsl W0 w g g8 g11 g12 c m st gn (10 * i) F) (S : SlI loose n m st gn i) (hs : s < n) : ∀ (d k : Nat), k + d = n →
    P12_1 (.bool loose) (.slice A xs.length cc) (.bool true) (.pointer (some ⟨g8, 0, none⟩)) (.pointer (some ⟨g, 0, none⟩)) (.pointer (some ⟨g11, 0, none⟩)) (.pointer (some ⟨g12, 0, none⟩)) (.int .i64 i) (.int .i64 s) (.int .i64 (cntZ st k)) (.int .i64 k) w fun v w' => v = .bool true ∧ Chg [] W0 w'
  | d + 1, k, hk => by
    apply L12_1_ok
    have n4 := S.n4
    have hlt : (k : Int) < n := by omega
    have k1 : k < st.length := by rw [S.l1]; omega
    have c3 : (cfC c).toArray[0 + 3]? = some (.int .i64 (n : Int)) := by rw [cf_3, hc]
    have hle := cntZ_le st k
    have two : ∀ z : Nat, z = cntZ st (k + 1) → P12_2 (.bool loose) (.slice A xs.length cc) (.bool true) (.pointer (some ⟨g8, 0, none⟩)) (.pointer (some ⟨g, 0, none⟩)) (.pointer (some ⟨g11, 0, none⟩)) (.pointer (some ⟨g12, 0, none⟩)) (.int .i64 i) (.int .i64 s) (.int .i64 z) (.int .i64 k) w fun v w' => v = .bool true ∧ Chg [] W0 w' := by
      rintro z rfl
      apply L12_2_ok
      simp -implicitDefEqProofs only [L12_2, wpB_some', gd_true, gd_false, gd_tf, gd_ft, gd_ut, gd_uf, gv_true, gv_false, gv_tf, gv_ft, gv_ut, gv_uf, gE_true, gE_false, gE_tf, gE_ft, gE_ut, gE_uf, gU_true, gU_false, gU_tf, gU_ft, pickv_true, pickv_false, cnd_true, cnd_false, decide_true, decide_false, Bool.not_true, Bool.not_false, pr_not, nilv_some, bp_lss, bp_leq, bp_gtr, bp_geq, be_eql, be_neq, bne_self_eq_false, beq_self_eq_true, ldC_some, Option.isNone_none, Option.isNone_some, hp_drew, bp_add, wrapi (n := (k : Int) + 1) (by omega) (by omega)]
      have := l_sl1 (cc := cc) hR hix hc N hi D S hs d (k + 1) (by omega)
      rw [Int.natCast_add k 1] at this
      exact this
    by_cases h0 : st.getD k 0 = 0
    · have e : (st.getD k 0 == 0) = true := by rw [h0]; rfl
      simp -implicitDefEqProofs only [L12_1, wpB_some', gd_true, gd_false, gd_tf, gd_ft, gd_ut, gd_uf, gv_true, gv_false, gv_tf, gv_ft, gv_ut, gv_uf, gE_true, gE_false, gE_tf, gE_ft, gE_ut, gE_uf, gU_true, gU_false, gU_tf, gU_ft, pickv_true, pickv_false, cnd_true, cnd_false, decide_true, decide_false, Bool.not_true, Bool.not_false, pr_not, nilv_some, bp_lss, bp_leq, bp_gtr, bp_geq, be_eql, be_neq, bne_self_eq_false, beq_self_eq_true, ldC_some, Option.isNone_none, Option.isNone_some, hp_drew, fa_74_3, ld_3, D.h8, c3, hlt, arr4_at g11 (show k < 4 by omega), ints_ld D.h11 k1, e, bp_add, wrapi (n := (cntZ st k : Int) + 1) (by omega) (by omega)]
      have := two (cntZ st k + 1) (by rw [cntZ_succ k1, if_pos h0])
      rw [Int.natCast_add _ 1] at this
      exact this
    · simp -implicitDefEqProofs only [L12_1, wpB_some', gd_true, gd_false, gd_tf, gd_ft, gd_ut, gd_uf, gv_true, gv_false, gv_tf, gv_ft, gv_ut, gv_uf, gE_true, gE_false, gE_tf, gE_ft, gE_ut, gE_uf, gU_true, gU_false, gU_tf, gU_ft, pickv_true, pickv_false, cnd_true, cnd_false, decide_true, decide_false, Bool.not_true, Bool.not_false, pr_not, nilv_some, bp_lss, bp_leq, bp_gtr, bp_geq, be_eql, be_neq, bne_self_eq_false, beq_self_eq_true, ldC_some, Option.isNone_none, Option.isNone_some, hp_drew, fa_74_3, ld_3, D.h8, c3, hlt, arr4_at g11 (show k < 4 by omega), ints_ld D.h11 k1, eqf h0]
      exact two _ (by rw [cntZ_succ k1, if_neg h0]; rfl)
  | 0, k, hk => by
    apply L12_1_ok
    have n4 := S.n4
    have hkn : k = n := by omega
    subst hkn
    have hlt : ¬ (k : Int) < k := by omega
    have k1 : s < st.length := by rw [S.l1]; omega
    have k2 : s < gn.length := by rw [S.l2]; omega
    have c3 : (cfC c).toArray[0 + 3]? = some (.int .i64 (k : Int)) := by rw [cf_3, hc]
    have g0 := S.gr s
    have sp := S.spare
    have W1 : ∀ {w1 : World} {m1 : MdV} {st1 gn1 : List Int} {K1 : Nat} {F1 : Fp}, Wsl W0 w1 g g8 g11 g12 c m1 st1 gn1 K1 F1 → RdI .i64 w1 A xs := fun D => hR.keep D.M.chg.below
    have spe : ((cntZ st k : Int) == 0) = decide (spareN m.slots = 0) := by
      rw [sp]
      show (((cntZ st k : Nat) : Int) == 0) = decide (cntZ st k = 0)
      by_cases h : cntZ st k = 0
      · rw [h]; rfl
      · rw [decide_eq_false h]; exact eqf (by omega)
    simp -implicitDefEqProofs only [L12_1, wpB_some', gd_true, gd_false, gd_tf, gd_ft, gd_ut, gd_uf, gv_true, gv_false, gv_tf, gv_ft, gv_ut, gv_uf, gE_true, gE_false, gE_tf, gE_ft, gE_ut, gE_uf, gU_true, gU_false, gU_tf, gU_ft, pickv_true, pickv_false, cnd_true, cnd_false, decide_true, decide_false, Bool.not_true, Bool.not_false, pr_not, nilv_some, bp_lss, bp_leq, bp_gtr, bp_geq, be_eql, be_neq, bne_self_eq_false, beq_self_eq_true, ldC_some, Option.isNone_none, Option.isNone_some, hp_drew, fa_74_3, ld_3, D.h8, c3, hlt, arr4_at g12 (show s < 4 by omega), ints_ld D.h12 k2, bdh_01, al_51]
    rw [st_hn (c := (hnC noH).toArray) (e := 51) (by rw [alloc_heap, if_pos rfl]; rfl) rfl]
    generalize hw1 : put (w.alloc _) w.heap.size _ _ = w1
    have c1 : Chg [] w w1 := by rw [← hw1]; exact ((Chg.refl _ _).alloc _).put (.inr (Nat.le_refl _)) _ _
    have a17 : hp w1 w.heap.size = some (.cells (hnC ((s : Int), gn.getD s 0, 0, 0, 0)).toArray 51) := by rw [← hw1]; exact put_same (by simp) _ _
    clear hw1
    have D1 := D.keep c1
    have n17 : ¬ F w.heap.size := fun h => by have := isAt.lt D.M.I (good_md _) _ h; omega
    generalize w.heap.size = g17 at *
    obtain ⟨q, q1, q2⟩ := num_at (cc := cc) (W1 D1) hix
    simp -implicitDefEqProofs only [wpB_some', gd_true, gd_false, gd_tf, gd_ft, gd_ut, gd_uf, gv_true, gv_false, gv_tf, gv_ft, gv_ut, gv_uf, gE_true, gE_false, gE_tf, gE_ft, gE_ut, gE_uf, gU_true, gU_false, gU_tf, gU_ft, pickv_true, pickv_false, cnd_true, cnd_false, decide_true, decide_false, Bool.not_true, Bool.not_false, pr_not, nilv_some, bp_lss, bp_leq, bp_gtr, bp_geq, be_eql, be_neq, bne_self_eq_false, beq_self_eq_true, ldC_some, Option.isNone_none, Option.isNone_some, hp_drew, q1, q2]
    refine (c_Number xs[i] 3 w1 (by omega) (by omega)).step ?_
    have hm3 : xs[i] % 3 = 0 ∨ xs[i] % 3 = 1 ∨ xs[i] % 3 = 2 := by omega
    generalize xs[i] % 3 = t at *
    rcases hm3 with rfl | rfl | rfl
    · -- a Create
      have e : ((0 : Int) == 0) = true := rfl
      simp -implicitDefEqProofs only [wpB_some', gd_true, gd_false, gd_tf, gd_ft, gd_ut, gd_uf, gv_true, gv_false, gv_tf, gv_ft, gv_ut, gv_uf, gE_true, gE_false, gE_tf, gE_ft, gE_ut, gE_uf, gU_true, gU_false, gU_tf, gU_ft, pickv_true, pickv_false, cnd_true, cnd_false, decide_true, decide_false, Bool.not_true, Bool.not_false, pr_not, nilv_some, bp_lss, bp_leq, bp_gtr, bp_geq, be_eql, be_neq, bne_self_eq_false, beq_self_eq_true, ldC_some, Option.isNone_none, Option.isNone_some, hp_drew, e, arr4_at g12 (show s < 4 by omega), ld_3, ints_ld D1.h12 k2, bp_add, wrapi (n := gn.getD s 0 + 1) (by omega) (by omega), bdh_01, al_51]
      rw [st_hn (c := (hnC noH).toArray) (e := 51) (by rw [alloc_heap, if_pos rfl]; rfl) rfl]
      generalize hw2 : put (w1.alloc _) w1.heap.size _ _ = w2
      have c2 : Chg [] w1 w2 := by rw [← hw2]; exact ((Chg.refl _ _).alloc _).put (.inr (Nat.le_refl _)) _ _
      have a18 : hp w2 w1.heap.size = some (.cells (hnC ((s : Int), gn.getD s 0 + 1, 0, 0, 0)).toArray 51) := by rw [← hw2]; exact put_same (by simp) _ _
      clear hw2
      have D2 := D1.keep c2
      have n18 : ¬ F w1.heap.size := fun h => by have := isAt.lt D1.M.I (good_md _) _ h; omega
      generalize w1.heap.size = g18 at *
      have D2d := D2.keep (Chg.refl [] w2).drew
      have c7 := D2d.does (by omega) S.noslot
      have bb : ∀ a b : Bool, (a != b) = (a != b) := fun _ _ => rfl
      simp -implicitDefEqProofs only [bdh_, bdr_0, wpB_some']
      have fin : ∀ (w5 : World) (F5 : Fp) (m5 : MdV), Wsl W0 w5 g g8 g11 g12 c m5 st gn (10 * i + 3) F5 → (if st.getD s 0 = 0 then (true, { m with slots := m.slots.set s (1, gn.getD s 0 + 1), rgs := m.rgs ++ [⟨((s : Int), gn.getD s 0 + 1), 0, 0, [], [], []⟩] }) else (false, m)).2 = m5 →
          P12_3 (.bool loose) (.slice A xs.length cc) (.bool true) (.pointer (some ⟨g8, 0, none⟩)) (.pointer (some ⟨g, 0, none⟩)) (.pointer (some ⟨g11, 0, none⟩)) (.pointer (some ⟨g12, 0, none⟩)) (.int .i64 i) (.int .i64 s) (.bool false) w5 fun v w' => v = .bool true ∧ Chg [] W0 w' := by
        intro w5 F5 m5 D5 hm5
        refine l_sl3 N (by omega) D5 (by omega) S.l1 S.l2 n4 (by omega) ?_ hs
        by_cases h0 : st.getD s 0 = 0
        · rw [if_pos h0] at hm5 ⊢; rw [← hm5]; exact S.grow hs
        · rw [if_neg h0] at hm5 ⊢; rw [← hm5]; exact S.mono (by omega)
      have one := S.one (by omega) hs
      have hone : doV m 0 (1, 0, 0, 0, 0, 0) noH (0, ((s : Int), gn.getD s 0 + 1, 0, 0, 0), 0, 0) = (decide (st.getD s 0 = 0), (if st.getD s 0 = 0 then (true, { m with slots := m.slots.set s (1, gn.getD s 0 + 1), rgs := m.rgs ++ [⟨((s : Int), gn.getD s 0 + 1), 0, 0, [], [], []⟩] }) else (false, m)).2) := by
        rw [one]
        by_cases h0 : st.getD s 0 = 0
        · rw [if_pos h0, decide_eq_true h0]
        · rw [if_neg h0, decide_eq_false h0]
      have eqd : (st.getD s 0 == 0) = decide (st.getD s 0 = 0) := by
        by_cases h0 : st.getD s 0 = 0
        · rw [decide_eq_true h0, h0]; rfl
        · rw [decide_eq_false h0]; exact eqf h0
      generalize hm5 : (if st.getD s 0 = 0 then (true, { m with slots := m.slots.set s (1, gn.getD s 0 + 1), rgs := m.rgs ++ [⟨((s : Int), gn.getD s 0 + 1), 0, 0, [], [], []⟩] }) else (false, m)).2 = m5 at *
      cases loose with
      | false =>
        repeat' (with_reducible apply And.intro)
        all_goals
          refine c7.mono ?_
          rintro _ w3 ⟨rfl, F3, D3, u3⟩
          simp -implicitDefEqProofs only [wpB_some', gd_true, gd_false, gd_tf, gd_ft, gd_ut, gd_uf, gv_true, gv_false, gv_tf, gv_ft, gv_ut, gv_uf, gE_true, gE_false, gE_tf, gE_ft, gE_ut, gE_uf, gU_true, gU_false, gU_tf, gU_ft, pickv_true, pickv_false, cnd_true, cnd_false, decide_true, decide_false, Bool.not_true, Bool.not_false, pr_not, nilv_some, bp_lss, bp_leq, bp_gtr, bp_geq, be_eql, be_neq, bne_self_eq_false, beq_self_eq_true, ldC_some, Option.isNone_none, Option.isNone_some, hp_drew, be_neqb Try.underlying4, spe, Bool.false_or, arr4_at g12 (show s < 4 by omega), ld_3, ints_ld D3.h12 k2, bp_add, wrapi (n := gn.getD s 0 + 2) (by omega) (by omega), bdh_, bdh_01, bdr_1]
          refine (D3.does (by omega) (S.two (by omega) hs)).mono ?_
          rintro _ w4 ⟨rfl, F4, D4, u4⟩
          have k18 := u4.keep (u3.keep (show hp w2.drew g18 = _ from a18) n18).1 (u3.keep (show hp w2.drew g18 = _ from a18) n18).2
          simp -implicitDefEqProofs only [wpB_some', gd_true, gd_false, gd_tf, gd_ft, gd_ut, gd_uf, gv_true, gv_false, gv_tf, gv_ft, gv_ut, gv_uf, gE_true, gE_false, gE_tf, gE_ft, gE_ut, gE_uf, gU_true, gU_false, gU_tf, gU_ft, pickv_true, pickv_false, cnd_true, cnd_false, decide_true, decide_false, Bool.not_true, Bool.not_false, pr_not, nilv_some, bp_lss, bp_leq, bp_gtr, bp_geq, be_eql, be_neq, bne_self_eq_false, beq_self_eq_true, ldC_some, Option.isNone_none, Option.isNone_some, hp_drew, arr4_at g11 (show s < 4 by omega), ld_3, ints_ld D4.h11 k1, bdh_, ld_hn k18.1, bdr_1]
          refine (D4.does (by omega) hone).mono ?_
          rintro _ w5 ⟨rfl, F5, D5, u5⟩
          simp -implicitDefEqProofs only [wpB_some', gd_true, gd_false, gd_tf, gd_ft, gd_ut, gd_uf, gv_true, gv_false, gv_tf, gv_ft, gv_ut, gv_uf, gE_true, gE_false, gE_tf, gE_ft, gE_ut, gE_uf, gU_true, gU_false, gU_tf, gU_ft, pickv_true, pickv_false, cnd_true, cnd_false, decide_true, decide_false, Bool.not_true, Bool.not_false, pr_not, nilv_some, bp_lss, bp_leq, bp_gtr, bp_geq, be_eql, be_neq, bne_self_eq_false, beq_self_eq_true, ldC_some, Option.isNone_none, Option.isNone_some, hp_drew, arr4_at g11 (show s < 4 by omega), ld_3, ints_ld D5.h11 k1, eqd, be_neqb Try.underlying4]
          exact fin w5 F5 m5 D5 rfl
      | true =>
        repeat' (with_reducible apply And.intro)
        all_goals
          refine c7.mono ?_
          rintro _ w3 ⟨rfl, F3, D3, u3⟩
          simp -implicitDefEqProofs only [wpB_some', gd_true, gd_false, gd_tf, gd_ft, gd_ut, gd_uf, gv_true, gv_false, gv_tf, gv_ft, gv_ut, gv_uf, gE_true, gE_false, gE_tf, gE_ft, gE_ut, gE_uf, gU_true, gU_false, gU_tf, gU_ft, pickv_true, pickv_false, cnd_true, cnd_false, decide_true, decide_false, Bool.not_true, Bool.not_false, pr_not, nilv_some, bp_lss, bp_leq, bp_gtr, bp_geq, be_eql, be_neq, bne_self_eq_false, beq_self_eq_true, ldC_some, Option.isNone_none, Option.isNone_some, hp_drew, be_neqb Try.underlying4, spe, Bool.true_or, arr4_at g12 (show s < 4 by omega), ld_3, ints_ld D3.h12 k2, bp_add, wrapi (n := gn.getD s 0 + 2) (by omega) (by omega), bdh_, bdh_01, bdr_1]
          refine (D3.does (by omega) (S.two (by omega) hs)).mono ?_
          rintro _ w4 ⟨rfl, F4, D4, u4⟩
          have k18 := u4.keep (u3.keep (show hp w2.drew g18 = _ from a18) n18).1 (u3.keep (show hp w2.drew g18 = _ from a18) n18).2
          simp -implicitDefEqProofs only [wpB_some', gd_true, gd_false, gd_tf, gd_ft, gd_ut, gd_uf, gv_true, gv_false, gv_tf, gv_ft, gv_ut, gv_uf, gE_true, gE_false, gE_tf, gE_ft, gE_ut, gE_uf, gU_true, gU_false, gU_tf, gU_ft, pickv_true, pickv_false, cnd_true, cnd_false, decide_true, decide_false, Bool.not_true, Bool.not_false, pr_not, nilv_some, bp_lss, bp_leq, bp_gtr, bp_geq, be_eql, be_neq, bne_self_eq_false, beq_self_eq_true, ldC_some, Option.isNone_none, Option.isNone_some, hp_drew, arr4_at g11 (show s < 4 by omega), ld_3, ints_ld D4.h11 k1, bdh_, ld_hn k18.1, bdr_1]
          refine (D4.does (by omega) hone).mono ?_
          rintro _ w5 ⟨rfl, F5, D5, u5⟩
          simp -implicitDefEqProofs only [wpB_some', gd_true, gd_false, gd_tf, gd_ft, gd_ut, gd_uf, gv_true, gv_false, gv_tf, gv_ft, gv_ut, gv_uf, gE_true, gE_false, gE_tf, gE_ft, gE_ut, gE_uf, gU_true, gU_false, gU_tf, gU_ft, pickv_true, pickv_false, cnd_true, cnd_false, decide_true, decide_false, Bool.not_true, Bool.not_false, pr_not, nilv_some, bp_lss, bp_leq, bp_gtr, bp_geq, be_eql, be_neq, bne_self_eq_false, beq_self_eq_true, ldC_some, Option.isNone_none, Option.isNone_some, hp_drew, arr4_at g11 (show s < 4 by omega), ld_3, ints_ld D5.h11 k1, eqd, be_neqb Try.underlying4]
          exact fin w5 F5 m5 D5 rfl
    · -- a Free
      have e : ((1 : Int) == 0) = false := rfl
      have e1 : ((1 : Int) == 1) = true := rfl
      simp -implicitDefEqProofs only [wpB_some', gd_true, gd_false, gd_tf, gd_ft, gd_ut, gd_uf, gv_true, gv_false, gv_tf, gv_ft, gv_ut, gv_uf, gE_true, gE_false, gE_tf, gE_ft, gE_ut, gE_uf, gU_true, gU_false, gU_tf, gU_ft, pickv_true, pickv_false, cnd_true, cnd_false, decide_true, decide_false, Bool.not_true, Bool.not_false, pr_not, nilv_some, bp_lss, bp_leq, bp_gtr, bp_geq, be_eql, be_neq, bne_self_eq_false, beq_self_eq_true, ldC_some, Option.isNone_none, Option.isNone_some, hp_drew, e, e1, bdr_, al_53]
      rw [st_res (c := (rsC noR).toArray) (e := 53) (by rw [alloc_heap, if_pos rfl]; rfl) rfl]
      generalize hw2 : put (w1.alloc _) w1.heap.size _ _ = w2
      have c2 : Chg [] w1 w2 := by rw [← hw2]; exact ((Chg.refl _ _).alloc _).put (.inr (Nat.le_refl _)) _ _
      have a19 : hp w2 w1.heap.size = some (.cells (rsC noR).toArray 53) := by rw [← hw2]; exact put_same (by simp) _ _
      have ne17 : g17 ≠ w1.heap.size := by have := blk_lt a17; omega
      clear hw2
      have D2 := D1.keep c2
      have a172 := c2.at a17 (by simp)
      have sz := D1.M.chg.size
      have fin : ∀ x, freeC st gn s = x → P12_4 (.bool loose) (.slice A xs.length cc) (.bool true) (.pointer (some ⟨g8, 0, none⟩)) (.pointer (some ⟨g, 0, none⟩)) (.pointer (some ⟨g11, 0, none⟩)) (.pointer (some ⟨g12, 0, none⟩)) (.int .i64 i) (.int .i64 s) (.pointer (some ⟨g17, 0, none⟩)) (.pointer (some ⟨w1.heap.size, 0, none⟩)) (put w2 w1.heap.size (rsC (codeR x)).toArray 53) fun v w' => v = .bool true ∧ Chg [] W0 w' := by
        rintro x rfl
        have cp : Chg [] w1 (put w2 w1.heap.size (rsC (codeR (freeC st gn s))).toArray 53) := c2.put (.inr (Nat.le_refl _)) _ _
        exact l_sl4 N (by omega) (D1.keep cp) (by omega) (S.mono (by omega)) hs (cp.at a17 (by simp)) (put_same (blk_lt a19) _ _)
      generalize w1.heap.size = g19 at *
      have stc : ∀ x L, effu Try.prog (Instr.storeAt 29 (.pointer (some ⟨g19, 0 + 0, none⟩)) (.int .i64 x)) w2 L = L (put w2 g19 (rsC (codeR x)).toArray 53) := fun x L => by
        rw [st_29 (o := 0 + 0) rfl rfl (by rw [a19]; rfl), a19]; rfl
      by_cases hg : gn.getD s 0 = 0
      · have eg : (gn.getD s 0 == 0) = true := by rw [hg]; rfl
        simp -implicitDefEqProofs only [wpB_some', gd_true, gd_false, gd_tf, gd_ft, gd_ut, gd_uf, gv_true, gv_false, gv_tf, gv_ft, gv_ut, gv_uf, gE_true, gE_false, gE_tf, gE_ft, gE_ut, gE_uf, gU_true, gU_false, gU_tf, gU_ft, pickv_true, pickv_false, cnd_true, cnd_false, decide_true, decide_false, Bool.not_true, Bool.not_false, pr_not, nilv_some, bp_lss, bp_leq, bp_gtr, bp_geq, be_eql, be_neq, bne_self_eq_false, beq_self_eq_true, ldC_some, Option.isNone_none, Option.isNone_some, hp_drew, arr4_at g12 (show s < 4 by omega), ld_3, ints_ld D2.h12 k2, eg, fa_53_0, stc]
        exact fin 2 (by rw [freeC, if_pos hg])
      · by_cases h1 : st.getD s 0 = 1
        · have e2 : (st.getD s 0 != 1) = false := by rw [h1]; rfl
          simp -implicitDefEqProofs only [wpB_some', gd_true, gd_false, gd_tf, gd_ft, gd_ut, gd_uf, gv_true, gv_false, gv_tf, gv_ft, gv_ut, gv_uf, gE_true, gE_false, gE_tf, gE_ft, gE_ut, gE_uf, gU_true, gU_false, gU_tf, gU_ft, pickv_true, pickv_false, cnd_true, cnd_false, decide_true, decide_false, Bool.not_true, Bool.not_false, pr_not, nilv_some, bp_lss, bp_leq, bp_gtr, bp_geq, be_eql, be_neq, bne_self_eq_false, beq_self_eq_true, ldC_some, Option.isNone_none, Option.isNone_some, hp_drew, arr4_at g11 (show s < 4 by omega), arr4_at g12 (show s < 4 by omega), ld_3, ints_ld D2.h11 k1, ints_ld D2.h12 k2, eqf hg, e2]
          have f := fin 0 (by rw [freeC, if_neg hg, if_pos h1])
          have es : put w2 g19 (rsC (codeR 0)).toArray 53 = w2 := by
            have ha : w2.heap[g19]? = some (.cells (rsC noR).toArray 53 (0, 0)) := a19
            have hh : w2.heap.setIfInBounds g19 (.cells (rsC (codeR 0)).toArray 53) = w2.heap := by
              apply Array.ext_getElem?
              intro j
              rw [Array.getElem?_setIfInBounds]
              by_cases hj : g19 = j
              · subst hj
                rw [if_pos rfl, if_pos (blk_lt a19), ha]; rfl
              · rw [if_neg hj]
            unfold Ev.put
            rw [hh]
          rw [es] at f
          exact f
        · have e2 : (st.getD s 0 != 1) = true := bne_iff_ne.2 h1
          simp -implicitDefEqProofs only [wpB_some', gd_true, gd_false, gd_tf, gd_ft, gd_ut, gd_uf, gv_true, gv_false, gv_tf, gv_ft, gv_ut, gv_uf, gE_true, gE_false, gE_tf, gE_ft, gE_ut, gE_uf, gU_true, gU_false, gU_tf, gU_ft, pickv_true, pickv_false, cnd_true, cnd_false, decide_true, decide_false, Bool.not_true, Bool.not_false, pr_not, nilv_some, bp_lss, bp_leq, bp_gtr, bp_geq, be_eql, be_neq, bne_self_eq_false, beq_self_eq_true, ldC_some, Option.isNone_none, Option.isNone_some, hp_drew, arr4_at g11 (show s < 4 by omega), arr4_at g12 (show s < 4 by omega), ld_3, ints_ld D2.h11 k1, ints_ld D2.h12 k2, eqf hg, e2, fa_53_0, stc]
          exact fin 3 (by rw [freeC, if_neg hg, if_neg h1])
    · -- a Back
      have e : ((2 : Int) == 0) = false := rfl
      have e1 : ((2 : Int) == 1) = false := rfl
      have cd : Chg [] w1 w1.drew := (Chg.refl _ _).drew
      have D1d := D1.keep cd
      have eqd : (st.getD s 0 == 2) = decide (st.getD s 0 = 2) := by
        by_cases h0 : st.getD s 0 = 2
        · rw [decide_eq_true h0, h0]; rfl
        · rw [decide_eq_false h0]; exact eqf h0
      have bk := S.back hs
      have hb : backV m (s : Int) = (decide (st.getD s 0 = 2), (if st.getD s 0 = 2 then (true, { m with slots := m.slots.set s (0, gn.getD s 0) }) else (false, m)).2) := by
        rw [bk]
        by_cases h0 : st.getD s 0 = 2
        · rw [if_pos h0, decide_eq_true h0]
        · rw [if_neg h0, decide_eq_false h0]
      have cb := c_mBack D1d.M.I (s : Int)
      have wf := D1d.M.wf.back (s : Int)
      rw [hb] at cb wf
      simp -implicitDefEqProofs only [wpB_some', gd_true, gd_false, gd_tf, gd_ft, gd_ut, gd_uf, gv_true, gv_false, gv_tf, gv_ft, gv_ut, gv_uf, gE_true, gE_false, gE_tf, gE_ft, gE_ut, gE_uf, gU_true, gU_false, gU_tf, gU_ft, pickv_true, pickv_false, cnd_true, cnd_false, decide_true, decide_false, Bool.not_true, Bool.not_false, pr_not, nilv_some, bp_lss, bp_leq, bp_gtr, bp_geq, be_eql, be_neq, bne_self_eq_false, beq_self_eq_true, ldC_some, Option.isNone_none, Option.isNone_some, hp_drew, e, e1, arr4_at g11 (show s < 4 by omega), ld_3, ints_ld D1.h11 k1, eqd]
      repeat' (with_reducible apply And.intro)
      all_goals
        refine cb.mono ?_
        rintro _ w2 ⟨rfl, F2, i2, u2⟩
        have D2 := D1d.upd i2 u2 wf
        try simp -implicitDefEqProofs only [wpB_some', gd_true, gd_false, gd_tf, gd_ft, gd_ut, gd_uf, gv_true, gv_false, gv_tf, gv_ft, gv_ut, gv_uf, gE_true, gE_false, gE_tf, gE_ft, gE_ut, gE_uf, gU_true, gU_false, gU_tf, gU_ft, pickv_true, pickv_false, cnd_true, cnd_false, decide_true, decide_false, Bool.not_true, Bool.not_false, pr_not, nilv_some, bp_lss, bp_leq, bp_gtr, bp_geq, be_eql, be_neq, bne_self_eq_false, beq_self_eq_true, ldC_some, Option.isNone_none, Option.isNone_some, hp_drew, arr4_at g11 (show s < 4 by omega), ld_3, ints_ld D2.h11 k1]
        simp -implicitDefEqProofs only [eqd, be_neqb Try.underlying4, wpB_some', gd_true, gd_false, gd_tf, gd_ft, gd_ut, gd_uf, gv_true, gv_false, gv_tf, gv_ft, gv_ut, gv_uf, gE_true, gE_false, gE_tf, gE_ft, gE_ut, gE_uf, gU_true, gU_false, gU_tf, gU_ft, pickv_true, pickv_false, cnd_true, cnd_false, decide_true, decide_false, Bool.not_true, Bool.not_false, pr_not, nilv_some, bp_lss, bp_leq, bp_gtr, bp_geq, be_eql, be_neq, bne_self_eq_false, beq_self_eq_true, ldC_some, Option.isNone_none, Option.isNone_some, hp_drew]
        refine l_sl5 N (by omega) D2 (by omega) S.l1 n4 ?_ hs
        by_cases h0 : st.getD s 0 = 2
        · simp only [if_pos h0]; exact (S.mono (by omega)).turn hs 0 (by decide)
        · simp only [if_neg h0]; exact S.mono (by omega)
set_option maxHeartbeats 2000000 in
theorem l_sl0 {A : Option Addr} {cc : Nat} {xs : List Int} (hR : RdI .i64 W0 A xs) (hl : xs.length ≤ 60) (hc : c.2.2.2.1 = n) (hn : 1 ≤ n) : ∀ (d i : Nat) (w : World) (m : MdV) (st gn : List Int) (F : Fp), i + d = xs.length → Wsl W0 w g g8 g11 g12 c m st gn (10 * i) F → SlI loose n m st gn i →
    P12_0 (.bool loose) (.slice A xs.length cc) (.bool true) (.pointer (some ⟨g8, 0, none⟩)) (.pointer (some ⟨g, 0, none⟩)) (.pointer (some ⟨g11, 0, none⟩)) (.pointer (some ⟨g12, 0, none⟩)) (.int .i64 i) w fun v w' => v = .bool true ∧ Chg [] W0 w'
  | 0, i, w, m, st, gn, F, hi, D, S => by
    apply L12_0_ok
    have : ¬ (i : Int) < xs.length := by omega
    simp -implicitDefEqProofs only [L12_0, wpB_some', gd_true, gd_false, gd_tf, gd_ft, gd_ut, gd_uf, gv_true, gv_false, gv_tf, gv_ft, gv_ut, gv_uf, gE_true, gE_false, gE_tf, gE_ft, gE_ut, gE_uf, gU_true, gU_false, gU_tf, gU_ft, pickv_true, pickv_false, cnd_true, cnd_false, decide_true, decide_false, Bool.not_true, Bool.not_false, pr_not, nilv_some, bp_lss, bp_leq, bp_gtr, bp_geq, be_eql, be_neq, bne_self_eq_false, beq_self_eq_true, ldC_some, Option.isNone_none, Option.isNone_some, hp_drew, len_23, this]
    exact ⟨by first | rfl | trivial, D.M.chg⟩
  | d + 1, i, w, m, st, gn, F, hi, D, S => by
    apply L12_0_ok
    have hlt : (i : Int) < xs.length := by omega
    have hix : i < xs.length := by omega
    have n4 := S.n4
    have Dd := D.keep (Chg.refl [] w).drew
    obtain ⟨q, q1, q2⟩ := num_at (cc := cc) (hR.keep Dd.M.chg.below) hix
    have c3 : (cfC c).toArray[0 + 3]? = some (.int .i64 (n : Int)) := by rw [cf_3, hc]
    have h8d : ldC (hp w g8) (0 + 3) = some (.int .i64 (n : Int)) := by rw [D.h8, ldC_some, c3]
    have N : Nxt W0 g g8 g11 g12 c loose n (.slice A xs.length cc) i := fun w m st gn F D S => by
      have := l_sl0 (cc := cc) hR hl hc hn d (i + 1) w m st gn F (by omega) D S
      rw [Int.natCast_add i 1] at this
      exact this
    simp -implicitDefEqProofs only [L12_0, wpB_some', gd_true, gd_false, gd_tf, gd_ft, gd_ut, gd_uf, gv_true, gv_false, gv_tf, gv_ft, gv_ut, gv_uf, gE_true, gE_false, gE_tf, gE_ft, gE_ut, gE_uf, gU_true, gU_false, gU_tf, gU_ft, pickv_true, pickv_false, cnd_true, cnd_false, decide_true, decide_false, Bool.not_true, Bool.not_false, pr_not, nilv_some, bp_lss, bp_leq, bp_gtr, bp_geq, be_eql, be_neq, bne_self_eq_false, beq_self_eq_true, ldC_some, Option.isNone_none, Option.isNone_some, hp_drew, len_23, hlt, q1, q2, bp_quo (show (3 : Int) ≠ 0 by decide), fa_74_3]
    simp -implicitDefEqProofs only [ld_3, hp_drew, h8d, wpB_some']
    refine (c_Number _ n w.drew (by omega) (by omega)).step ?_
    have hs1 := Int.emod_nonneg (IntKind.i64.wrap (xs[i].tdiv 3)) (show (n : Int) ≠ 0 by omega)
    have hs2 := Int.emod_lt_of_pos (IntKind.i64.wrap (xs[i].tdiv 3)) (show (0 : Int) < n by omega)
    obtain ⟨s, hs⟩ : ∃ s : Nat, IntKind.i64.wrap (xs[i].tdiv 3) % (n : Int) = s := ⟨_, (Int.toNat_of_nonneg hs1).symm⟩
    rw [hs] at hs2 ⊢
    exact l_sl1 hR hix hc N (by omega) Dd S (by omega) n 0 (by omega)
set_option maxHeartbeats 1000000 in
theorem c_slots (a0 : Int) (loose : Bool) {A : Option Addr} {cc : Nat} {xs : List Int} (hR : RdI .i64 w A xs) : CallR Try.prog 12 [.int .i64 a0, .bool loose, .slice A xs.length cc] w fun v w' => v = .bool true ∧ Chg [] w w' := by
  apply F12_ok
  simp -implicitDefEqProofs only [F12]
  refine (c_mFirst w).mono ?_
  rintro _ w1 ⟨rfl, c1⟩
  by_cases hl : (60 : Int) < xs.length
  · simp -implicitDefEqProofs only [wpB_some', gd_true, gd_false, gd_tf, gd_ft, gd_ut, gd_uf, gv_true, gv_false, gv_tf, gv_ft, gv_ut, gv_uf, gE_true, gE_false, gE_tf, gE_ft, gE_ut, gE_uf, gU_true, gU_false, gU_tf, gU_ft, pickv_true, pickv_false, cnd_true, cnd_false, decide_true, decide_false, Bool.not_true, Bool.not_false, pr_not, nilv_some, bp_lss, bp_leq, bp_gtr, bp_geq, be_eql, be_neq, bne_self_eq_false, beq_self_eq_true, ldC_some, Option.isNone_none, Option.isNone_some, hp_drew, len_23, hl, gt_iff_lt]
    exact ⟨by first | rfl | trivial, c1⟩
  simp -implicitDefEqProofs only [wpB_some', gd_true, gd_false, gd_tf, gd_ft, gd_ut, gd_uf, gv_true, gv_false, gv_tf, gv_ft, gv_ut, gv_uf, gE_true, gE_false, gE_tf, gE_ft, gE_ut, gE_uf, gU_true, gU_false, gU_tf, gU_ft, pickv_true, pickv_false, cnd_true, cnd_false, decide_true, decide_false, Bool.not_true, Bool.not_false, pr_not, nilv_some, bp_lss, bp_leq, bp_gtr, bp_geq, be_eql, be_neq, bne_self_eq_false, beq_self_eq_true, ldC_some, Option.isNone_none, Option.isNone_some, hp_drew, len_23, hl, gt_iff_lt]
  refine (c_Number a0 4 w1 (by omega) (by omega)).step ?_
  obtain ⟨n, hn⟩ : ∃ n : Nat, 1 + a0 % 4 = n := ⟨(1 + a0 % 4).toNat, by omega⟩
  have hn4 : 1 ≤ n ∧ n ≤ 4 := by omega
  have hbc : pureRun Try.prog (Instr.build 74 #[(0, .int .i64 1), (1, .int .i64 1), (2, .int .i64 8), (3, .int .i64 n), (5, .int .i64 1)]) = some (.agg (cfC (1, 1, 8, (n : Int), 0, 1)).toArray) := bd_74_0_1_2_3_5
  simp -implicitDefEqProofs only [wpB_some', gd_true, gd_false, gd_tf, gd_ft, gd_ut, gd_uf, gv_true, gv_false, gv_tf, gv_ft, gv_ut, gv_uf, gE_true, gE_false, gE_tf, gE_ft, gE_ut, gE_uf, gU_true, gU_false, gU_tf, gU_ft, pickv_true, pickv_false, cnd_true, cnd_false, decide_true, decide_false, Bool.not_true, Bool.not_false, pr_not, nilv_some, bp_lss, bp_leq, bp_gtr, bp_geq, be_eql, be_neq, bne_self_eq_false, beq_self_eq_true, ldC_some, Option.isNone_none, Option.isNone_some, hp_drew, bp_add, hn, wrapi (n := (n : Int)) (by omega) (by omega), hbc, al_74]
  rw [st_74 rfl rfl (by rw [alloc_heap, if_pos rfl]; rfl) (by rw [alloc_heap, if_pos rfl]; rfl), alloc_heap, if_pos rfl, getE_some]
  generalize hw2 : put (w1.alloc _) w1.heap.size _ _ = w2
  have c2 : Chg [] w1 w2 := by rw [← hw2]; exact ((Chg.refl _ _).alloc _).put (.inr (Nat.le_refl _)) _ _
  have a8 : hp w2 w1.heap.size = some (.cells (cfC (1, 1, 8, (n : Int), 0, 1)).toArray 74) := by rw [← hw2]; exact put_same (by simp) _ _
  have lt8 := blk_lt a8
  clear hw2
  simp -implicitDefEqProofs only [ld_cf a8, wpB_some']
  have hmay : mayC (1, 1, 8, (n : Int), 0, 1) = true := by
    have : n = 1 ∨ n = 2 ∨ n = 3 ∨ n = 4 := by omega
    rcases this with rfl | rfl | rfl | rfl <;> decide
  refine (c_made24 (loose := loose) hmay w2).mono ?_
  rintro _ w3 ⟨gp, g, gx, Fm, Fx, rfl, P⟩
  have e6 : (pairA (1, 1, 8, (n : Int), 0, 1) g gx (.slice none 0 0))[0 + 6]? = some (.pointer (some ⟨g, 0, none⟩)) := rfl
  simp -implicitDefEqProofs only [wpB_some', gd_true, gd_false, gd_tf, gd_ft, gd_ut, gd_uf, gv_true, gv_false, gv_tf, gv_ft, gv_ut, gv_uf, gE_true, gE_false, gE_tf, gE_ft, gE_ut, gE_uf, gU_true, gU_false, gU_tf, gU_ft, pickv_true, pickv_false, cnd_true, cnd_false, decide_true, decide_false, Bool.not_true, Bool.not_false, pr_not, nilv_some, bp_lss, bp_leq, bp_gtr, bp_geq, be_eql, be_neq, bne_self_eq_false, beq_self_eq_true, ldC_some, Option.isNone_none, Option.isNone_some, hp_drew, be_eqlp Try.underlying87, Option.isNone_some, fa_92_1, ld_75, P.hp, e6, al_93]
  have c12 := c1.trans c2
  have s12 := c12.size
  have s3 := P.chg.size
  have M0 : MdW w w3 g (newM (1, 1, 8, (n : Int), 0, 1) loose) 0 Fm := ⟨c12.trans P.chg, P.I, fun k hk => by have := P.nm k hk; omega, wf_new hmay loose⟩
  have n8 : ¬ Fm w1.heap.size := fun h => by have := P.nm _ h; omega
  have a83 := P.chg.at a8 (by simp)
  have ca : Chg [] w3 ((w3.alloc (.cells #[Go.Value.int Go.IntKind.i64 0, Go.Value.int Go.IntKind.i64 0, Go.Value.int Go.IntKind.i64 0, Go.Value.int Go.IntKind.i64 0] 93)).alloc (.cells #[Go.Value.int Go.IntKind.i64 0, Go.Value.int Go.IntKind.i64 0, Go.Value.int Go.IntKind.i64 0, Go.Value.int Go.IntKind.i64 0] 93)) := ((Chg.refl _ _).alloc _).alloc _
  have lt : ∀ k, w3.heap.size ≤ k → ¬ Fm k := fun k hk h => by have := isAt.lt P.I (good_md _) _ h; omega
  have D : Wsl w ((w3.alloc (.cells #[Go.Value.int Go.IntKind.i64 0, Go.Value.int Go.IntKind.i64 0, Go.Value.int Go.IntKind.i64 0, Go.Value.int Go.IntKind.i64 0] 93)).alloc (.cells #[Go.Value.int Go.IntKind.i64 0, Go.Value.int Go.IntKind.i64 0, Go.Value.int Go.IntKind.i64 0, Go.Value.int Go.IntKind.i64 0] 93)) g w1.heap.size w3.heap.size (w3.heap.size + 1) (1, 1, 8, (n : Int), 0, 1) (newM (1, 1, 8, (n : Int), 0, 1) loose) [0, 0, 0, 0] [0, 0, 0, 0] 0 Fm :=
    ⟨M0.keep ca, ca.at a83 (by simp), by rw [alloc_heap, alloc_size, if_neg (by omega), alloc_heap, if_pos rfl]; rfl, by rw [alloc_heap, alloc_size, if_pos rfl]; rfl, n8, lt _ (Nat.le_refl _), lt _ (by omega), by omega, by omega, by omega⟩
  have S := sl_new (1, 1, 8, (n : Int), 0, 1) loose rfl (by simp only; omega)
  simp only [Int.toNat_natCast] at S
  simp -implicitDefEqProofs only [alloc_size]
  exact l_sl0 hR (by omega) rfl hn4.1 xs.length 0 _ _ _ _ Fm (by omega) D S
theorem lawSlots {W : World} (a0 : Int) (_ : (Lit.int .i64 a0).wf = true) (loose : Bool) (A : Option Addr) (n c : Nat) (zs : List Int) (h : InInts .i64 W A n c zs) : CallR Try.prog 12 [.int .i64 a0, .bool loose, .slice A n c] W fun v w' => v = .bool true ∧ Below W.heap.size W w' := by
  obtain ⟨h1, h2, h3, _, _⟩ := h.rd
  generalize zs.take n = xs at h1 h2
  subst h2
  exact (c_slots a0 loose h1).mono fun _ _ h => ⟨h.1, h.2.below⟩
end
end Go.Proofs.Ytgamnncehjcdiaa

