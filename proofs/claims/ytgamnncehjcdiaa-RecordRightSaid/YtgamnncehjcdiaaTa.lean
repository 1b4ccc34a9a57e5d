/- The record: Back, Open; the reference's record: a new one, which may be told of, Open. -/
import Derived.Test.YtgamnncehjcdiaaRr
namespace Go.Proofs.Ytgamnncehjcdiaa
open Go Ev Go.RowKit
set_option linter.unusedSimpArgs false
set_option linter.unusedVariables false
set_option maxRecDepth 10000

def pOpen (op : List Int) (wk : Int) : Int := if 0 ≤ wk ∧ wk < op.length then op.getD wk.toNat 0 else -1
theorem c_Open {w : World} {r : Nat} {F : List Nat} {S : List SpV} {op : List Int} {last : Int} (h : RecI w r F S op last) (wk : Int) :
    CallR Try.prog 25 [.pointer (some ⟨r, 0, none⟩), .int .i64 wk] w fun v w' => v = .int .i64 (pOpen op wk) ∧ w' = w := by
  obtain ⟨lv, ov, h1, h2, h3, hF⟩ := h.ex
  apply F25_ok
  by_cases k1 : wk < 0
  · simp -implicitDefEqProofs only [F25, wpB_some', gd_true, gd_false, gd_tf, gd_ft, gd_ut, gd_uf, gv_true, gv_false, gv_tf, gv_ft, gv_ut, gv_uf, gE_true, gE_false, gE_tf, gE_ft, gE_ut, gE_uf, gU_true, gU_false, gU_tf, gU_ft, pickv_true, pickv_false, cnd_true, cnd_false, decide_true, decide_false, Bool.not_true, Bool.not_false, pr_not, nilv_some, bp_lss, bp_leq, bp_gtr, bp_geq, be_eql, be_neq, bne_self_eq_false, beq_self_eq_true, ldC_some, Option.isNone_none, Option.isNone_some, hp_drew, k1, pOpen, if_neg (show ¬ (0 ≤ wk ∧ wk < op.length) by omega), and_self]
  obtain ⟨B, cB, rfl, hB, _, _⟩ := rdV_of_own h3
  by_cases k2 : (op.length : Int) ≤ wk
  · simp -implicitDefEqProofs only [F25, wpB_some', gd_true, gd_false, gd_tf, gd_ft, gd_ut, gd_uf, gv_true, gv_false, gv_tf, gv_ft, gv_ut, gv_uf, gE_true, gE_false, gE_tf, gE_ft, gE_ut, gE_uf, gU_true, gU_false, gU_tf, gU_ft, pickv_true, pickv_false, cnd_true, cnd_false, decide_true, decide_false, Bool.not_true, Bool.not_false, pr_not, nilv_some, bp_lss, bp_leq, bp_gtr, bp_geq, be_eql, be_neq, bne_self_eq_false, beq_self_eq_true, ldC_some, Option.isNone_none, Option.isNone_some, hp_drew, k1, k2, fa_121_1, ld_23, h1, a3_1, len_23, pOpen, if_neg (show ¬ (0 ≤ wk ∧ wk < op.length) by omega), and_self]
  obtain ⟨g, cg, he, hg0, q1, q2, q3, q4⟩ := own_elem (P := Try.prog) (i := wk) (j := .i64) h3 Try.underlying23 sz_3 (by omega) (by omega)
  have q2 := q2 0 (by omega)
  have hop : (ints op)[wk.toNat * 1 + 0]? = some (.int .i64 (op.getD wk.toNat 0)) := by simp [ints, List.getD_eq_getElem?_getD, show wk.toNat < op.length by omega]
  rw [hop, Nat.add_zero] at q2
  simp -implicitDefEqProofs only [F25, wpB_some', gd_true, gd_false, gd_tf, gd_ft, gd_ut, gd_uf, gv_true, gv_false, gv_tf, gv_ft, gv_ut, gv_uf, gE_true, gE_false, gE_tf, gE_ft, gE_ut, gE_uf, gU_true, gU_false, gU_tf, gU_ft, pickv_true, pickv_false, cnd_true, cnd_false, decide_true, decide_false, Bool.not_true, Bool.not_false, pr_not, nilv_some, bp_lss, bp_leq, bp_gtr, bp_geq, be_eql, be_neq, bne_self_eq_false, beq_self_eq_true, ldC_some, Option.isNone_none, Option.isNone_some, hp_drew, k1, k2, fa_121_1, ld_23, ld_3, h1, a3_1, len_23, q1, q2, pOpen, if_pos (show (0 ≤ wk ∧ wk < op.length) by omega), and_self]
def pBack (st : RecS) (id t : Int) : Int × RecS :=
  if spanOk st.1 id ∧ 0 ≤ (spAt st.1 id).pt ∧ (spAt st.1 id).bk < 0 ∧ st.2.2 ≤ t then (0, (st.1.set id.toNat { spAt st.1 id with bk := t }, st.2.1, t)) else (1, st)
set_option maxHeartbeats 1000000 in
theorem c_Back {w : World} {r : Nat} {F : List Nat} {S : List SpV} {op : List Int} {last : Int} (h : RecI w r F S op last) (id t : Int) :
    CallR Try.prog 35 [.pointer (some ⟨r, 0, none⟩), .int .i64 id, .int .i64 t] w fun v w' =>
      v = .int .i64 (pBack (S, op, last) id t).1 ∧ ∃ F', RecI w' r F' (pBack (S, op, last) id t).2.1 (pBack (S, op, last) id t).2.2.1 (pBack (S, op, last) id t).2.2.2 ∧ Upd F F' w w' := by
  apply F35_ok
  simp -implicitDefEqProofs only [F35]
  by_cases k1 : spanOk S id
  rotate_left
  · refine (c_rspan_no h k1).step ?_
    have bad : pBack (S, op, last) id t = (1, (S, op, last)) := if_neg fun h => k1 h.1
    simp -implicitDefEqProofs only [be_eqlp Try.underlying122, wpB_some', gd_true, gd_false, gd_tf, gd_ft, gd_ut, gd_uf, gv_true, gv_false, gv_tf, gv_ft, gv_ut, gv_uf, gE_true, gE_false, gE_tf, gE_ft, gE_ut, gE_uf, gU_true, gU_false, gU_tf, gU_ft, pickv_true, pickv_false, cnd_true, cnd_false, decide_true, decide_false, Bool.not_true, Bool.not_false, pr_not, nilv_some, bp_lss, bp_leq, bp_gtr, bp_geq, be_eql, be_neq, bne_self_eq_false, beq_self_eq_true, ldC_some, Option.isNone_none, Option.isNone_some, hp_drew, bad]
    exact ⟨trivial, F, h, Upd.refl _ _⟩
  obtain ⟨lv, ov, h1, h2, h3, hF⟩ := h.ex
  obtain ⟨g, c, e, hg, q1, q2, q3⟩ := h.at h1 (id := id) k1.1 k1.2.1
  refine (c_rspan_yes h h1 k1 hg).step ?_
  by_cases k2 : (spAt S id).pt < 0
  · have bad : pBack (S, op, last) id t = (1, (S, op, last)) := if_neg fun h => by have := h.2.1; simp only at this; omega
    simp -implicitDefEqProofs only [be_eqlp Try.underlying122, wpB_some', gd_true, gd_false, gd_tf, gd_ft, gd_ut, gd_uf, gv_true, gv_false, gv_tf, gv_ft, gv_ut, gv_uf, gE_true, gE_false, gE_tf, gE_ft, gE_ut, gE_uf, gU_true, gU_false, gU_tf, gU_ft, pickv_true, pickv_false, cnd_true, cnd_false, decide_true, decide_false, Bool.not_true, Bool.not_false, pr_not, nilv_some, bp_lss, bp_leq, bp_gtr, bp_geq, be_eql, be_neq, bne_self_eq_false, beq_self_eq_true, ldC_some, Option.isNone_none, Option.isNone_some, hp_drew, fa_58_4, ld_3, q2 9 (by omega), sp9, k2, bad]
    exact ⟨trivial, F, h, Upd.refl _ _⟩
  by_cases k3 : 0 ≤ (spAt S id).bk
  · have bad : pBack (S, op, last) id t = (1, (S, op, last)) := if_neg fun h => by have := h.2.2.1; simp only at this; omega
    simp -implicitDefEqProofs only [be_eqlp Try.underlying122, wpB_some', gd_true, gd_false, gd_tf, gd_ft, gd_ut, gd_uf, gv_true, gv_false, gv_tf, gv_ft, gv_ut, gv_uf, gE_true, gE_false, gE_tf, gE_ft, gE_ut, gE_uf, gU_true, gU_false, gU_tf, gU_ft, pickv_true, pickv_false, cnd_true, cnd_false, decide_true, decide_false, Bool.not_true, Bool.not_false, pr_not, nilv_some, bp_lss, bp_leq, bp_gtr, bp_geq, be_eql, be_neq, bne_self_eq_false, beq_self_eq_true, ldC_some, Option.isNone_none, Option.isNone_some, hp_drew, fa_58_4, fa_58_5, ld_3, q2 9 (by omega), q2 10 (by omega), sp9, sp10, k2, k3, bad]
    exact ⟨trivial, F, h, Upd.refl _ _⟩
  simp -implicitDefEqProofs only [be_eqlp Try.underlying122, wpB_some', gd_true, gd_false, gd_tf, gd_ft, gd_ut, gd_uf, gv_true, gv_false, gv_tf, gv_ft, gv_ut, gv_uf, gE_true, gE_false, gE_tf, gE_ft, gE_ut, gE_uf, gU_true, gU_false, gU_tf, gU_ft, pickv_true, pickv_false, cnd_true, cnd_false, decide_true, decide_false, Bool.not_true, Bool.not_false, pr_not, nilv_some, bp_lss, bp_leq, bp_gtr, bp_geq, be_eql, be_neq, bne_self_eq_false, beq_self_eq_true, ldC_some, Option.isNone_none, Option.isNone_some, hp_drew, fa_58_4, fa_58_5, ld_3, q2 9 (by omega), q2 10 (by omega), sp9, sp10, k2, k3]
  refine (c_rstep h1).mono ?_
  rintro v w2 ⟨rfl, hw2⟩
  by_cases k4 : last ≤ t
  rotate_left
  · have bad : pBack (S, op, last) id t = (1, (S, op, last)) := if_neg fun h => k4 h.2.2.2
    rw [if_neg k4] at hw2
    subst hw2
    simp -implicitDefEqProofs only [k4, wpB_some', gd_true, gd_false, gd_tf, gd_ft, gd_ut, gd_uf, gv_true, gv_false, gv_tf, gv_ft, gv_ut, gv_uf, gE_true, gE_false, gE_tf, gE_ft, gE_ut, gE_uf, gU_true, gU_false, gU_tf, gU_ft, pickv_true, pickv_false, cnd_true, cnd_false, decide_true, decide_false, Bool.not_true, Bool.not_false, pr_not, nilv_some, bp_lss, bp_leq, bp_gtr, bp_geq, be_eql, be_neq, bne_self_eq_false, beq_self_eq_true, ldC_some, Option.isNone_none, Option.isNone_some, hp_drew, bad]
    exact ⟨trivial, F, h, Upd.refl _ _⟩
  rw [if_pos k4] at hw2
  obtain ⟨hR2, hc2⟩ := h.step _ _ t h1
  rw [← hw2] at hR2 hc2
  have h2r : hp w2 r = some (.cells #[lv, ov, .int .i64 t] 121) := by rw [hw2]; exact put_same (blk_lt h1) _ _
  clear hw2
  have good : pBack (S, op, last) id t = (0, (S.set id.toNat { spAt S id with bk := t }, op, t)) := if_pos ⟨k1, by simp only; omega, by simp only; omega, k4⟩
  rw [good]
  obtain ⟨W1, W2, W3, W4, W5⟩ := hR2.write h2r k1.1 k1.2.1 hg { spAt S id with bk := t } 10 [.int .i64 t] (by show 10 + 1 ≤ 20; omega) rfl
  have e0 : setL (getC (hp w2 g)) (id.toNat * 20 + 10) [.int .i64 t] = (getC (hp w2 g)).setIfInBounds (id.toNat * 20 + 10) (.int .i64 t) := rfl
  rw [e0] at W1 W2
  simp -implicitDefEqProofs only [k4, wpB_some', gd_true, gd_false, gd_tf, gd_ft, gd_ut, gd_uf, gv_true, gv_false, gv_tf, gv_ft, gv_ut, gv_uf, gE_true, gE_false, gE_tf, gE_ft, gE_ut, gE_uf, gU_true, gU_false, gU_tf, gU_ft, pickv_true, pickv_false, cnd_true, cnd_false, decide_true, decide_false, Bool.not_true, Bool.not_false, pr_not, nilv_some, bp_lss, bp_leq, bp_gtr, bp_geq, be_eql, be_neq, bne_self_eq_false, beq_self_eq_true, ldC_some, Option.isNone_none, Option.isNone_some, hp_drew, fa_58_5, st_3 (w := w2) (v := .int .i64 t) rfl rfl W3]
  exact ⟨trivial, F, W1, hc2.trans W2, fun k hk => .inl hk⟩
/-- the reference's record: workers, the last step, its spans; what it stands on -/
structure RefI (w : World) (x : Nat) (F : List Nat) (n : Int) (S : List SpV) (last : Int) : Prop where
  ex : ∃ lv, hp w x = some (.cells #[.int .i64 n, .int .i64 last, lv] 67) ∧ w.ownsRow 0 58 20 lv S.length (S.flatMap spC) ∧ F = x :: blk lv
theorem RefI.lt {w : World} {r : Nat} {F : List Nat} {n : Int} {S : List SpV} {last : Int} (h : RefI w r F n S last) : ∀ k ∈ F, k < w.heap.size := by
  obtain ⟨lv, h1, h2, rfl⟩ := h.ex
  intro k hk
  simp at hk
  rcases hk with rfl | hk
  · exact blk_lt h1
  · exact (h2.lt k hk).2
theorem RefI.keep {w w' : World} {r : Nat} {F G : List Nat} {n : Int} {S : List SpV} {last : Int} (h : RefI w r F n S last) (hc : Chg G w w') (hd : Dis F G) : RefI w' r F n S last := by
  obtain ⟨lv, h1, h2, rfl⟩ := h.ex
  exact ⟨lv, hc.at h1 (hd r (by simp)), ownsRow_chg h2 hc fun k hk => hd k (by simp [hk]), rfl⟩
theorem RefI.rows {w : World} {r : Nat} {F : List Nat} {S : List SpV} {n n' last t : Int} (h : RefI w r F n S last) {lv : Value} (h1 : hp w r = some (.cells #[.int .i64 n', .int .i64 t, lv] 67)) :
    t = last ∧ w.ownsRow 0 58 20 lv S.length (S.flatMap spC) ∧ F = r :: blk lv ∧ (∀ k, lv.ownBlock = some k → k ≠ r) := by
  obtain ⟨lv', h1', h2, rfl⟩ := h.ex
  rw [h1] at h1'
  obtain ⟨_, rfl, rfl⟩ : n' = n ∧ t = last ∧ lv = lv' := by injection h1' with h1'; injection h1' with h1'; injection h1' with h1'; simp at h1'; exact h1'
  refine ⟨rfl, h2, rfl, fun k hk e => ?_⟩
  subst e
  obtain ⟨c, hc⟩ := own_hp h2 hk
  rw [h1] at hc; simp at hc
/-- the last step is written anew -/
theorem RefI.step {w : World} {r : Nat} {F : List Nat} {S : List SpV} {n last : Int} (h : RefI w r F n S last) (lv : Value) (t : Int) (h1 : hp w r = some (.cells #[.int .i64 n, .int .i64 last, lv] 67)) :
    RefI (put w r #[.int .i64 n, .int .i64 t, lv] 67) r F n S t ∧ Chg F w (put w r #[.int .i64 n, .int .i64 t, lv] 67) ∧ okC (hp w r) (0 + 1 + 1) = true ∧ hp (put w r #[.int .i64 n, .int .i64 t, lv] 67) r = some (.cells #[.int .i64 n, .int .i64 t, lv] 67) := by
  obtain ⟨_, o2, hF, n2⟩ := h.rows h1
  have hc : Chg [r] w (put w r #[.int .i64 n, .int .i64 t, lv] 67) := (Chg.refl _ _).put (.inl (by simp)) _ _
  refine ⟨⟨lv, put_same (blk_lt h1) _ _, ownsRow_chg o2 hc fun k hk hm => n2 k hk (by simpa using hm), hF⟩, (Chg.refl _ _).put (.inl (by rw [hF]; simp)) _ _, by rw [h1]; rfl, put_same (blk_lt h1) _ _⟩
theorem RefI.at {w : World} {r : Nat} {F : List Nat} {S : List SpV} {n n' last t : Int} (h : RefI w r F n S last) {lv : Value} (h1 : hp w r = some (.cells #[.int .i64 n', .int .i64 t, lv] 67)) {id : Int} (h0 : 0 ≤ id) (hl : id < S.length) :
    ∃ g c, lv = .slice (some ⟨g, 0, none⟩) S.length c ∧ lv.ownBlock = some g ∧ (∀ j, pureRun Try.prog (Instr.indexAt 54 lv (.int j id)) = some (.pointer (some ⟨g, id.toNat * 20, none⟩))) ∧ (∀ k, k < 20 → ldC (hp w g) (id.toNat * 20 + k) = (spA (spAt S id))[k]?) ∧ ldL (hp w g) (id.toNat * 20) 20 = some (spC (spAt S id)) :=
  sp_own (h.rows h1).2.1 rfl h0 hl
/-- a span's numbers are written anew -/
theorem RefI.write {w : World} {r : Nat} {F : List Nat} {S : List SpV} {n last : Int} (h : RefI w r F n S last) {lv : Value} (h1 : hp w r = some (.cells #[.int .i64 n, .int .i64 last, lv] 67)) {id : Int} (h0 : 0 ≤ id) (hl : id < S.length) {g : Nat} (hg : lv.ownBlock = some g) (s' : SpV) (k : Nat) (vs : List Value) (hk : k + vs.length ≤ 20)
    (he : spC s' = (spC (spAt S id)).take k ++ vs ++ (spC (spAt S id)).drop (k + vs.length)) :
    RefI (put w g (setL (getC (hp w g)) (id.toNat * 20 + k) vs) (getE (hp w g))) r F n (S.set id.toNat s') last ∧ Chg F w (put w g (setL (getC (hp w g)) (id.toNat * 20 + k) vs) (getE (hp w g))) ∧ okC (hp w g) (id.toNat * 20 + k + vs.length) = true ∧ g ≠ r ∧ hp (put w g (setL (getC (hp w g)) (id.toNat * 20 + k) vs) (getE (hp w g))) r = hp w r := by
  obtain ⟨_, o2, hF, n2⟩ := h.rows h1
  have hi : id.toNat < S.length := by omega
  have hle : id.toNat * 20 + k + vs.length ≤ S.length * 20 := by omega
  obtain ⟨p1, p2⟩ := ownsRow_put o2 hg (o := id.toNat * 20 + k) hle
  rw [flat_part spC_len s' k vs hk S id.toNat hi (by rw [spAt_eq hi]; exact he)] at p1
  have hc : Chg [g] w (put w g (setL (getC (hp w g)) (id.toNat * 20 + k) vs) (getE (hp w g))) := (Chg.refl _ _).put (.inl (by simp)) _ _
  have hgr := n2 g hg
  refine ⟨⟨lv, hc.at h1 (by simp; omega), by rw [List.length_set]; exact p1, hF⟩, hc.mono fun k hk _ => ?_, p2, hgr, hc.block r (blk_lt h1) (by simp; omega)⟩
  simp at hk; subst hk; rw [hF]; simp [hg]
theorem c_refNew (n : Int) (w : World) : CallR Try.prog 32 [.int .i64 n] w fun v w' => ∃ r F, v = .pointer (some ⟨r, 0, none⟩) ∧ RefI w' r F (min (max n 1) 64) [] 0 ∧ (∀ k ∈ F, w.heap.size ≤ k) ∧ Chg [] w w' := by
  apply F32_ok
  have e : (if (64 : Int) < (if (1 : Int) > n then 1 else n) then 64 else (if (1 : Int) > n then 1 else n)) = min (max n 1) 64 := by split <;> split <;> omega
  have hb : pureRun Try.prog (Instr.build 67 #[(0, .int .i64 (min (max n 1) 64))]) = some (.agg #[.int .i64 (min (max n 1) 64), .int .i64 0, .slice none 0 0]) := bd_67_0
  simp -implicitDefEqProofs only [F32, pr_max, pr_min, wpB_some', e, hb, effv_box, cells_agg]
  refine ⟨_, [w.heap.size], rfl, ⟨.slice none 0 0, by rw [alloc_heap, if_pos rfl], World.ownsRow_nil _ _ _ _, rfl⟩, fun k hk => by simp at hk; omega, (Chg.refl _ _).alloc _⟩
/-- may a span be told of? -/
theorem c_ropen {w : World} {r : Nat} {F : List Nat} {S : List SpV} {n last : Int} (h : RefI w r F n S last) (id t : Int) :
    CallR Try.prog 78 [.pointer (some ⟨r, 0, none⟩), .int .i64 id, .int .i64 t] w fun v w' => v = .bool (decide (spanOk S id ∧ last ≤ t)) ∧ w' = w := by
  obtain ⟨lv, h1, h2, hF⟩ := h.ex
  apply F78_ok
  obtain ⟨A, cA, rfl, hA, _, _⟩ := rdV_of_own h2
  have no : ¬ spanOk S id → decide (spanOk S id ∧ last ≤ t) = false := fun h => decide_eq_false fun h' => h h'.1
  by_cases k1 : 0 ≤ id
  rotate_left
  · simp -implicitDefEqProofs only [F78, wpB_some', gd_true, gd_false, gd_tf, gd_ft, gd_ut, gd_uf, gv_true, gv_false, gv_tf, gv_ft, gv_ut, gv_uf, gE_true, gE_false, gE_tf, gE_ft, gE_ut, gE_uf, gU_true, gU_false, gU_tf, gU_ft, pickv_true, pickv_false, cnd_true, cnd_false, decide_true, decide_false, Bool.not_true, Bool.not_false, pr_not, nilv_some, bp_lss, bp_leq, bp_gtr, bp_geq, be_eql, be_neq, bne_self_eq_false, beq_self_eq_true, ldC_some, Option.isNone_none, Option.isNone_some, hp_drew, k1, no fun h => k1 h.1, and_self]
  by_cases k2 : id < (S.length : Int)
  rotate_left
  · simp -implicitDefEqProofs only [F78, wpB_some', gd_true, gd_false, gd_tf, gd_ft, gd_ut, gd_uf, gv_true, gv_false, gv_tf, gv_ft, gv_ut, gv_uf, gE_true, gE_false, gE_tf, gE_ft, gE_ut, gE_uf, gU_true, gU_false, gU_tf, gU_ft, pickv_true, pickv_false, cnd_true, cnd_false, decide_true, decide_false, Bool.not_true, Bool.not_false, pr_not, nilv_some, bp_lss, bp_leq, bp_gtr, bp_geq, be_eql, be_neq, bne_self_eq_false, beq_self_eq_true, ldC_some, Option.isNone_none, Option.isNone_some, hp_drew, k1, k2, fa_67_2, ld_54, h1, a3_2, len_54, no fun h => k2 h.2.1, and_self]
  obtain ⟨g, c, e, hg, q1, q2, q3⟩ := h.at h1 (id := id) k1 k2
  by_cases k3 : (spAt S id).rs < 0
  rotate_left
  · simp -implicitDefEqProofs only [F78, wpB_some', gd_true, gd_false, gd_tf, gd_ft, gd_ut, gd_uf, gv_true, gv_false, gv_tf, gv_ft, gv_ut, gv_uf, gE_true, gE_false, gE_tf, gE_ft, gE_ut, gE_uf, gU_true, gU_false, gU_tf, gU_ft, pickv_true, pickv_false, cnd_true, cnd_false, decide_true, decide_false, Bool.not_true, Bool.not_false, pr_not, nilv_some, bp_lss, bp_leq, bp_gtr, bp_geq, be_eql, be_neq, bne_self_eq_false, beq_self_eq_true, ldC_some, Option.isNone_none, Option.isNone_some, hp_drew, k1, k2, k3, fa_67_2, ld_54, h1, a3_2, len_54, q1, fa_58_6, ld_3, q2 11 (by omega), sp11, no fun h => k3 h.2.2, and_self]
  have e : decide (spanOk S id ∧ last ≤ t) = decide (last ≤ t) := by rw [decide_eq_decide]; exact ⟨fun h => h.2, fun h => ⟨⟨k1, k2, k3⟩, h⟩⟩
  simp -implicitDefEqProofs only [F78, wpB_some', gd_true, gd_false, gd_tf, gd_ft, gd_ut, gd_uf, gv_true, gv_false, gv_tf, gv_ft, gv_ut, gv_uf, gE_true, gE_false, gE_tf, gE_ft, gE_ut, gE_uf, gU_true, gU_false, gU_tf, gU_ft, pickv_true, pickv_false, cnd_true, cnd_false, decide_true, decide_false, Bool.not_true, Bool.not_false, pr_not, nilv_some, bp_lss, bp_leq, bp_gtr, bp_geq, be_eql, be_neq, bne_self_eq_false, beq_self_eq_true, ldC_some, Option.isNone_none, Option.isNone_some, hp_drew, k1, k2, k3, fa_67_2, fa_67_1, ld_54, h1, a3_2, a3_1, len_54, q1, fa_58_6, ld_3, q2 11 (by omega), sp11, e, and_self]
/-- the reference looks for a worker's open one -/
def pROpen (S : List SpV) (wk : Int) : Nat → Nat → Int
  | 0, _ => -1
  | d + 1, i => if (spAt S i).wk = wk ∧ (spAt S i).rs < 0 then (i : Int) else pROpen S wk d (i + 1)
theorem l_refOpen {w : World} {r : Nat} {F : List Nat} {S : List SpV} {n last : Int} (h : RefI w r F n S last) (hS : S.length ≤ 1000) (wk : Int) : ∀ (d i : Nat), i + d = S.length →
    P38_0 (.pointer (some ⟨r, 0, none⟩)) (.int .i64 wk) (.int .i64 i) w fun v w' => v = .int .i64 (pROpen S wk d i) ∧ w' = w := by
  obtain ⟨lv, h1, h2, hF⟩ := h.ex
  obtain ⟨A, cA, rfl, hA, _, _⟩ := rdV_of_own h2
  intro d
  induction d with
  | zero =>
    intro i hi
    apply L38_0_ok
    have : ¬ (i : Int) < S.length := by omega
    simp -implicitDefEqProofs only [L38_0, wpB_some', gd_true, gd_false, gd_tf, gd_ft, gd_ut, gd_uf, gv_true, gv_false, gv_tf, gv_ft, gv_ut, gv_uf, gE_true, gE_false, gE_tf, gE_ft, gE_ut, gE_uf, gU_true, gU_false, gU_tf, gU_ft, pickv_true, pickv_false, cnd_true, cnd_false, decide_true, decide_false, Bool.not_true, Bool.not_false, pr_not, nilv_some, bp_lss, bp_leq, bp_gtr, bp_geq, be_eql, be_neq, bne_self_eq_false, beq_self_eq_true, ldC_some, Option.isNone_none, Option.isNone_some, hp_drew, fa_67_2, ld_54, h1, a3_2, len_54, this, pROpen, and_self]
  | succ d ih =>
    intro i hi
    apply L38_0_ok
    have hlt : (i : Int) < S.length := by omega
    obtain ⟨g, c, e, hg, q1, q2, q3⟩ := h.at h1 (id := (i : Int)) (by omega) hlt
    have go : ¬ ((spAt S i).wk = wk ∧ (spAt S i).rs < 0) → P38_0 (.pointer (some ⟨r, 0, none⟩)) (.int .i64 wk) (.int .i64 ((i : Int) + 1)) w fun v w' => v = .int .i64 (pROpen S wk (d + 1) i) ∧ w' = w := fun hn => by
      have := ih (i + 1) (by omega)
      rw [Int.natCast_add i 1] at this
      rw [pROpen, if_neg hn]
      exact this
    by_cases k1 : (spAt S i).wk = wk
    · have k1' : ((spAt S i).wk == wk) = true := by rw [k1]; simp
      by_cases k2 : (spAt S i).rs < 0
      · simp -implicitDefEqProofs only [L38_0, wpB_some', gd_true, gd_false, gd_tf, gd_ft, gd_ut, gd_uf, gv_true, gv_false, gv_tf, gv_ft, gv_ut, gv_uf, gE_true, gE_false, gE_tf, gE_ft, gE_ut, gE_uf, gU_true, gU_false, gU_tf, gU_ft, pickv_true, pickv_false, cnd_true, cnd_false, decide_true, decide_false, Bool.not_true, Bool.not_false, pr_not, nilv_some, bp_lss, bp_leq, bp_gtr, bp_geq, be_eql, be_neq, bne_self_eq_false, beq_self_eq_true, ldC_some, Option.isNone_none, Option.isNone_some, hp_drew, fa_67_2, ld_54, h1, a3_2, len_54, hlt, q1, fa_58_0, fa_58_6, ld_3, q2 0 (by omega), q2 11 (by omega), sp0, sp11, k1', k2]
        exact ⟨by rw [pROpen, if_pos ⟨k1, k2⟩], trivial⟩
      · simp -implicitDefEqProofs only [L38_0, wpB_some', gd_true, gd_false, gd_tf, gd_ft, gd_ut, gd_uf, gv_true, gv_false, gv_tf, gv_ft, gv_ut, gv_uf, gE_true, gE_false, gE_tf, gE_ft, gE_ut, gE_uf, gU_true, gU_false, gU_tf, gU_ft, pickv_true, pickv_false, cnd_true, cnd_false, decide_true, decide_false, Bool.not_true, Bool.not_false, pr_not, nilv_some, bp_lss, bp_leq, bp_gtr, bp_geq, be_eql, be_neq, bne_self_eq_false, beq_self_eq_true, ldC_some, Option.isNone_none, Option.isNone_some, hp_drew, fa_67_2, ld_54, h1, a3_2, len_54, hlt, q1, fa_58_0, fa_58_6, ld_3, q2 0 (by omega), q2 11 (by omega), sp0, sp11, k1', k2, bp_add, wrapi (n := (i : Int) + 1) (by omega) (by omega)]
        exact go fun h => k2 h.2
    · simp -implicitDefEqProofs only [L38_0, wpB_some', gd_true, gd_false, gd_tf, gd_ft, gd_ut, gd_uf, gv_true, gv_false, gv_tf, gv_ft, gv_ut, gv_uf, gE_true, gE_false, gE_tf, gE_ft, gE_ut, gE_uf, gU_true, gU_false, gU_tf, gU_ft, pickv_true, pickv_false, cnd_true, cnd_false, decide_true, decide_false, Bool.not_true, Bool.not_false, pr_not, nilv_some, bp_lss, bp_leq, bp_gtr, bp_geq, be_eql, be_neq, bne_self_eq_false, beq_self_eq_true, ldC_some, Option.isNone_none, Option.isNone_some, hp_drew, fa_67_2, ld_54, h1, a3_2, len_54, hlt, q1, fa_58_0, ld_3, q2 0 (by omega), sp0, eqf k1, bp_add, wrapi (n := (i : Int) + 1) (by omega) (by omega)]
      exact go fun h => k1 h.1
theorem c_refOpen {w : World} {r : Nat} {F : List Nat} {S : List SpV} {n last : Int} (h : RefI w r F n S last) (hS : S.length ≤ 1000) (wk : Int) :
    CallR Try.prog 38 [.pointer (some ⟨r, 0, none⟩), .int .i64 wk] w fun v w' => v = .int .i64 (pROpen S wk S.length 0) ∧ w' = w := by
  apply F38_ok
  simp -implicitDefEqProofs only [F38]
  exact l_refOpen h hS wk S.length 0 (by omega)
end Go.Proofs.Ytgamnncehjcdiaa
