/- The reference's record: Begin, Point, Back, End; are two lists of spans the same? -/
import Derived.Test.YtgamnncehjcdiaaTa
namespace Go.Proofs.Ytgamnncehjcdiaa
open Go Ev Go.RowKit
set_option linter.unusedSimpArgs false
set_option linter.unusedVariables false
set_option maxRecDepth 10000

abbrev RefS := List SpV × Int
def pRBegin (n : Int) (st : RefS) (wk ix : Int) (o : OpV) (t : Int) : (Int × Int) × RefS :=
  if wk < 0 ∨ n ≤ wk ∨ 0 ≤ pROpen st.1 wk st.1.length 0 ∨ t < st.2 then ((0, 1), st) else (((st.1.length : Int), 0), (st.1 ++ [⟨wk, ix, o, t, -1, -1, -1, resO⟩], t))
set_option maxHeartbeats 1000000 in
theorem c_refBegin {w : World} {r : Nat} {F : List Nat} {n : Int} {S : List SpV} {last : Int} (h : RefI w r F n S last) (hS : S.length ≤ 1000) (wk ix : Int) (o : OpV) (t : Int) :
    CallR Try.prog 33 [.pointer (some ⟨r, 0, none⟩), .int .i64 wk, .int .i64 ix, .agg (opC o).toArray, .int .i64 t] w fun v w' =>
      v = .tuple #[.int .i64 (pRBegin n (S, last) wk ix o t).1.1, .int .i64 (pRBegin n (S, last) wk ix o t).1.2] ∧ ∃ F', RefI w' r F' n (pRBegin n (S, last) wk ix o t).2.1 (pRBegin n (S, last) wk ix o t).2.2 ∧ Upd F F' w w' := by
  apply F33_ok
  simp -implicitDefEqProofs only [F33, effv_box, cells_agg]
  have hc1 : Chg [] w (w.alloc (.cells (opC o).toArray 40)) := (Chg.refl _ _).alloc _
  have hop1 : hp (w.alloc (.cells (opC o).toArray 40)) w.heap.size = some (.cells (opC o).toArray 40) := by rw [alloc_heap, if_pos rfl]
  have hR := h.keep hc1 (Dis.nil _)
  have hlt := h.lt
  generalize w.alloc (.cells (opC o).toArray 40) = w1 at *
  obtain ⟨lv, h1, h2, hF⟩ := hR.ex
  obtain ⟨A, cA, rfl, hA, _, _⟩ := rdV_of_own h2
  have same : ∀ w', Chg F w1 w' → Upd F F w w' := fun w' hc => Upd.pre hc1 ⟨hc, fun k hk => .inl hk⟩
  have bad : (wk < 0 ∨ n ≤ wk ∨ 0 ≤ pROpen S wk S.length 0 ∨ t < last) → pRBegin n (S, last) wk ix o t = ((0, 1), (S, last)) := fun h => if_pos h
  by_cases k1 : wk < 0
  · simp -implicitDefEqProofs only [wpB_some', gd_true, gd_false, gd_tf, gd_ft, gd_ut, gd_uf, gv_true, gv_false, gv_tf, gv_ft, gv_ut, gv_uf, gE_true, gE_false, gE_tf, gE_ft, gE_ut, gE_uf, gU_true, gU_false, gU_tf, gU_ft, pickv_true, pickv_false, cnd_true, cnd_false, decide_true, decide_false, Bool.not_true, Bool.not_false, pr_not, nilv_some, bp_lss, bp_leq, bp_gtr, bp_geq, be_eql, be_neq, bne_self_eq_false, beq_self_eq_true, ldC_some, Option.isNone_none, Option.isNone_some, hp_drew, k1, bad (.inl k1)]
    exact ⟨trivial, F, hR, same _ (Chg.refl _ _)⟩
  by_cases k2 : n ≤ wk
  · simp -implicitDefEqProofs only [wpB_some', gd_true, gd_false, gd_tf, gd_ft, gd_ut, gd_uf, gv_true, gv_false, gv_tf, gv_ft, gv_ut, gv_uf, gE_true, gE_false, gE_tf, gE_ft, gE_ut, gE_uf, gU_true, gU_false, gU_tf, gU_ft, pickv_true, pickv_false, cnd_true, cnd_false, decide_true, decide_false, Bool.not_true, Bool.not_false, pr_not, nilv_some, bp_lss, bp_leq, bp_gtr, bp_geq, be_eql, be_neq, bne_self_eq_false, beq_self_eq_true, ldC_some, Option.isNone_none, Option.isNone_some, hp_drew, k1, k2, fa_67_0, ld_3, h1, a3_0, bad (.inr (.inl k2))]
    exact ⟨trivial, F, hR, same _ (Chg.refl _ _)⟩
  simp -implicitDefEqProofs only [wpB_some', gd_true, gd_false, gd_tf, gd_ft, gd_ut, gd_uf, gv_true, gv_false, gv_tf, gv_ft, gv_ut, gv_uf, gE_true, gE_false, gE_tf, gE_ft, gE_ut, gE_uf, gU_true, gU_false, gU_tf, gU_ft, pickv_true, pickv_false, cnd_true, cnd_false, decide_true, decide_false, Bool.not_true, Bool.not_false, pr_not, nilv_some, bp_lss, bp_leq, bp_gtr, bp_geq, be_eql, be_neq, bne_self_eq_false, beq_self_eq_true, ldC_some, Option.isNone_none, Option.isNone_some, hp_drew, k1, k2, fa_67_0, ld_3, h1, a3_0]
  refine (c_refOpen hR hS wk).step ?_
  by_cases k3 : 0 ≤ pROpen S wk S.length 0
  · simp -implicitDefEqProofs only [wpB_some', gd_true, gd_false, gd_tf, gd_ft, gd_ut, gd_uf, gv_true, gv_false, gv_tf, gv_ft, gv_ut, gv_uf, gE_true, gE_false, gE_tf, gE_ft, gE_ut, gE_uf, gU_true, gU_false, gU_tf, gU_ft, pickv_true, pickv_false, cnd_true, cnd_false, decide_true, decide_false, Bool.not_true, Bool.not_false, pr_not, nilv_some, bp_lss, bp_leq, bp_gtr, bp_geq, be_eql, be_neq, bne_self_eq_false, beq_self_eq_true, ldC_some, Option.isNone_none, Option.isNone_some, hp_drew, k3, bad (.inr (.inr (.inl k3)))]
    exact ⟨trivial, F, hR, same _ (Chg.refl _ _)⟩
  by_cases k4 : t < last
  · simp -implicitDefEqProofs only [wpB_some', gd_true, gd_false, gd_tf, gd_ft, gd_ut, gd_uf, gv_true, gv_false, gv_tf, gv_ft, gv_ut, gv_uf, gE_true, gE_false, gE_tf, gE_ft, gE_ut, gE_uf, gU_true, gU_false, gU_tf, gU_ft, pickv_true, pickv_false, cnd_true, cnd_false, decide_true, decide_false, Bool.not_true, Bool.not_false, pr_not, nilv_some, bp_lss, bp_leq, bp_gtr, bp_geq, be_eql, be_neq, bne_self_eq_false, beq_self_eq_true, ldC_some, Option.isNone_none, Option.isNone_some, hp_drew, k3, k4, fa_67_1, ld_3, h1, a3_1, bad (.inr (.inr (.inr k4)))]
    exact ⟨trivial, F, hR, same _ (Chg.refl _ _)⟩
  obtain ⟨hR2, hc2, ok2, h2r⟩ := hR.step _ t h1
  have hst : ∀ L, effu Try.prog (Instr.storeAt 3 (.pointer (some ⟨r, 0 + 1, none⟩)) (.int .i64 t)) w1 L = L (put w1 r #[.int .i64 n, .int .i64 t, .slice A S.length cA] 67) := fun L => by
    rw [st_3 (v := .int .i64 t) rfl rfl ok2, h1]; rfl
  have hop2 : hp (put w1 r #[.int .i64 n, .int .i64 t, .slice A S.length cA] 67) w.heap.size = some (.cells (opC o).toArray 40) := by
    rw [put_other (fun e => by have := hlt r (by rw [hF]; simp); omega)]; exact hop1
  simp -implicitDefEqProofs only [wpB_some', gd_true, gd_false, gd_tf, gd_ft, gd_ut, gd_uf, gv_true, gv_false, gv_tf, gv_ft, gv_ut, gv_uf, gE_true, gE_false, gE_tf, gE_ft, gE_ut, gE_uf, gU_true, gU_false, gU_tf, gU_ft, pickv_true, pickv_false, cnd_true, cnd_false, decide_true, decide_false, Bool.not_true, Bool.not_false, pr_not, nilv_some, bp_lss, bp_leq, bp_gtr, bp_geq, be_eql, be_neq, bne_self_eq_false, beq_self_eq_true, ldC_some, Option.isNone_none, Option.isNone_some, hp_drew, k3, k4, fa_67_1, ld_3, h1, a3_1, hst]
  generalize put w1 r #[.int .i64 n, .int .i64 t, .slice A S.length cA] 67 = w2 at *
  obtain ⟨_, o2, _, n2⟩ := hR2.rows h2r
  have hld : ldv Try.prog 40 (.pointer (some ⟨w.heap.size, 0, none⟩)) w2.drew = some (.agg (opC o).toArray) := ldv_whole ag_40 sz_40 (by rw [hp_drew]; exact hop2)
  have hbd : pureRun Try.prog (Instr.build 58 #[(0, .int .i64 wk), (1, .int .i64 ix), (2, .agg (opC o).toArray), (3, .int .i64 t), (4, .int .i64 (-1)), (5, .int .i64 (-1)), (6, .int .i64 (-1))]) = some (.agg (spA ⟨wk, ix, o, t, -1, -1, -1, resO⟩)) := bd_58_0_1_2_3_4_5_6
  simp -implicitDefEqProofs only [wpB_some', gd_true, gd_false, gd_tf, gd_ft, gd_ut, gd_uf, gv_true, gv_false, gv_tf, gv_ft, gv_ut, gv_uf, gE_true, gE_false, gE_tf, gE_ft, gE_ut, gE_uf, gU_true, gU_false, gU_tf, gU_ft, pickv_true, pickv_false, cnd_true, cnd_false, decide_true, decide_false, Bool.not_true, Bool.not_false, pr_not, nilv_some, bp_lss, bp_leq, bp_gtr, bp_geq, be_eql, be_neq, bne_self_eq_false, beq_self_eq_true, ldC_some, Option.isNone_none, Option.isNone_some, hp_drew, fa_67_2, ld_54, h2r, a3_2, hld, hbd]
  refine ps_54 (base := 0) (w := w2.drew) (spC_one ⟨wk, ix, o, t, -1, -1, -1, resO⟩) (ownsRow_drew o2) (by omega) (Nat.zero_le _) fun x' w4 hx hg hnb => ?_
  obtain ⟨A', c', rfl, _⟩ := rdV_of_own hx
  have hcg : Chg (blk (.slice A S.length cA)) w2 w4 := (Chg.refl _ _).drew.grown hg fun k hk => .inl (mem_blk.2 hk)
  have h4r := hcg.at h2r fun hm => n2 _ (mem_blk.1 hm) rfl
  have hblt := blk_lt h4r
  have ok : okC (hp w4 r) (0 + 2 + 1) = true := by rw [h4r]; rfl
  have eqP : pRBegin n (S, last) wk ix o t = (((S.length : Int), 0), (S ++ [⟨wk, ix, o, t, -1, -1, -1, resO⟩], t)) := if_neg (by simp only [not_or]; omega)
  have h5r : hp (put w4 r #[.int .i64 n, .int .i64 t, .slice A' (S.length + 1) c'] 67) r = some (.cells #[.int .i64 n, .int .i64 t, .slice A' (S.length + 1) c'] 67) := put_same hblt _ _
  have e5 : (#[Value.int .i64 n, .int .i64 t, .slice A S.length cA].setIfInBounds (0 + 2) (.slice A' (S.length + 1) c')) = #[.int .i64 n, .int .i64 t, .slice A' (S.length + 1) c'] := rfl
  simp -implicitDefEqProofs only [wpB_some', gd_true, gd_false, gd_tf, gd_ft, gd_ut, gd_uf, gv_true, gv_false, gv_tf, gv_ft, gv_ut, gv_uf, gE_true, gE_false, gE_tf, gE_ft, gE_ut, gE_uf, gU_true, gU_false, gU_tf, gU_ft, pickv_true, pickv_false, cnd_true, cnd_false, decide_true, decide_false, Bool.not_true, Bool.not_false, pr_not, nilv_some, bp_lss, bp_leq, bp_gtr, bp_geq, be_eql, be_neq, bne_self_eq_false, beq_self_eq_true, ldC_some, Option.isNone_none, Option.isNone_some, hp_drew, fa_67_2, st_54 (w := w4) (b := r) (o := 0 + 2) (v := .slice A' (S.length + 1) c') rfl rfl ok, h4r, getC_some, getE_some, e5, ld_54, h5r, a3_2, len_54, bp_sub, wrapi (n := ((S.length + 1 : Nat) : Int) - 1) (by omega) (by omega), eqP]
  refine ⟨by rw [show ((S.length + 1 : Nat) : Int) - 1 = S.length by omega], r :: blk (.slice A' (S.length + 1) c'), ⟨.slice A' (S.length + 1) c', h5r, ?_, rfl⟩, ?_, fun k hk => ?_⟩
  · have hx5 := ownsRow_chg hx ((Chg.refl [r] w4).put (b := r) (.inl (by simp)) #[.int .i64 n, .int .i64 t, .slice A' (S.length + 1) c'] 67) fun k hk hm => by
      simp at hm; subst hm
      obtain ⟨c, hc⟩ := own_hp hx hk
      rw [h4r] at hc; simp at hc
    rw [List.length_append, flat_snoc]
    exact hx5
  · have c12 : Chg F w w2 := (hc1.mono (by simp)).trans hc2
    have c14 : Chg F w w4 := c12.trans (hcg.mono fun k hk _ => by rw [hF]; exact List.mem_cons_of_mem _ hk)
    exact c14.put (.inl (by rw [hF]; simp)) _ _
  · have hs : w.heap.size ≤ w2.heap.size := Nat.le_trans hc1.size hc2.size
    rw [hF]
    simp only [List.mem_cons, mem_blk] at hk ⊢
    rcases hk with hk | hk
    · exact .inl (.inl hk)
    · rcases hnb k hk with h | h
      · exact .inl (.inr h)
      · exact .inr (Nat.le_trans hs h)
def pRPoint (st : RefS) (id t : Int) (re : ResV) : Int × RefS :=
  if spanOk st.1 id ∧ (spAt st.1 id).pt < 0 ∧ st.2 ≤ t then (0, (st.1.set id.toNat { spAt st.1 id with pt := t, re := re }, t)) else (1, st)
def pREnd (st : RefS) (id t : Int) (re : ResV) : Int × RefS :=
  if spanOk st.1 id ∧ 0 ≤ (spAt st.1 id).pt ∧ st.2 ≤ t then (0, (st.1.set id.toNat { spAt st.1 id with rs := t, re := re }, t)) else (1, st)
def pRBack (st : RefS) (id t : Int) : Int × RefS :=
  if spanOk st.1 id ∧ 0 ≤ (spAt st.1 id).pt ∧ (spAt st.1 id).bk < 0 ∧ st.2 ≤ t then (0, (st.1.set id.toNat { spAt st.1 id with bk := t }, t)) else (1, st)
/-- a field and the answer of a span are written: what both Point and End do -/
theorem RefI.two {w : World} {r : Nat} {F : List Nat} {n : Int} {S : List SpV} {t : Int} (hR : RefI w r F n S t) {lv : Value} (h1 : hp w r = some (.cells #[.int .i64 n, .int .i64 t, lv] 67)) {id : Int} (h0 : 0 ≤ id) (hl : id < S.length) {re : ResV} {g7 : Nat} (h7 : hp w g7 = some (.cells (resA re) 53)) (n7 : g7 ∉ F)
    (s1 s2 : SpV) (k : Nat) (hk : k < 20) (e1 : spC s1 = (spC (spAt S id)).take k ++ [.int .i64 t] ++ (spC (spAt S id)).drop (k + 1)) (e2 : spC s2 = (spC s1).take 12 ++ resC re ++ (spC s1).drop (12 + (resC re).length)) :
    ∃ g c w3 w4, lv = .slice (some ⟨g, 0, none⟩) S.length c ∧ (∀ j, pureRun Try.prog (Instr.indexAt 54 lv (.int j id)) = some (.pointer (some ⟨g, id.toNat * 20, none⟩))) ∧ (∀ L, effu Try.prog (Instr.storeAt 3 (.pointer (some ⟨g, id.toNat * 20 + k, none⟩)) (.int .i64 t)) w L = L w3) ∧
      ldv Try.prog 53 (.pointer (some ⟨g7, 0, none⟩)) w = some (.agg (resA re)) ∧ ldv Try.prog 53 (.pointer (some ⟨g7, 0, none⟩)) w3 = some (.agg (resA re)) ∧ (∀ L, effu Try.prog (Instr.storeAt 53 (.pointer (some ⟨g, id.toNat * 20 + 12, none⟩)) (.agg (resA re))) w3 L = L w4) ∧
      RefI w4 r F n (S.set id.toNat s2) t ∧ Chg F w w4 := by
  obtain ⟨g, c, e, hg, q1, q2, q3⟩ := hR.at h1 h0 hl
  obtain ⟨W1, W2, W3, W4, W5⟩ := hR.write h1 h0 hl hg s1 k [.int .i64 t] (by show k + 1 ≤ 20; omega) e1
  have hF := (hR.rows h1).2.2.1
  have hgop : g ≠ g7 := fun e => n7 (by rw [← e, hF]; simp [hg])
  have e0 : setL (getC (hp w g)) (id.toNat * 20 + k) [.int .i64 t] = (getC (hp w g)).setIfInBounds (id.toNat * 20 + k) (.int .i64 t) := rfl
  rw [e0] at W1 W2 W5
  have h37 : hp (put w g ((getC (hp w g)).setIfInBounds (id.toNat * 20 + k) (.int .i64 t)) (getE (hp w g))) g7 = some (.cells (resA re) 53) := by rw [put_other (Ne.symm hgop)]; exact h7
  have h3r := W5.trans h1
  have hst1 : ∀ L, effu Try.prog (Instr.storeAt 3 (.pointer (some ⟨g, id.toNat * 20 + k, none⟩)) (.int .i64 t)) w L = L (put w g ((getC (hp w g)).setIfInBounds (id.toNat * 20 + k) (.int .i64 t)) (getE (hp w g))) := fun L => st_3 (v := .int .i64 t) rfl rfl W3
  generalize put w g ((getC (hp w g)).setIfInBounds (id.toNat * 20 + k) (.int .i64 t)) (getE (hp w g)) = w3 at *
  have hi : id.toNat < S.length := by omega
  have hsp : spAt (S.set id.toNat s1) id = s1 := by
    unfold spAt; simp [List.getD_eq_getElem?_getD, hi]
  obtain ⟨X1, X2, X3, X4, X5⟩ := W1.write h3r h0 (by rw [List.length_set]; exact hl) hg s2 12 (resC re) (by show 12 + 8 ≤ 20; omega) (by rw [hsp]; exact e2)
  rw [List.set_set] at X1
  exact ⟨g, c, w3, _, e, q1, hst1, ldv_whole ag_53 sz_53 h7, ldv_whole ag_53 sz_53 h37, fun L => effu_store (v := .agg (resA re)) sz_53 rfl rfl (by decide) X3, X1, W2.trans X2⟩
set_option maxHeartbeats 1000000 in
theorem c_refPoint {w : World} {r : Nat} {F : List Nat} {n : Int} {S : List SpV} {last : Int} (h : RefI w r F n S last) (id t : Int) (re : ResV) :
    CallR Try.prog 34 [.pointer (some ⟨r, 0, none⟩), .int .i64 id, .int .i64 t, .agg (resA re)] w fun v w' =>
      v = .int .i64 (pRPoint (S, last) id t re).1 ∧ ∃ F', RefI w' r F' n (pRPoint (S, last) id t re).2.1 (pRPoint (S, last) id t re).2.2 ∧ Upd F F' w w' := by
  apply F34_ok
  simp -implicitDefEqProofs only [F34, effv_box, cells_agg]
  have hc1 : Chg [] w (w.alloc (.cells (resA re) 53)) := (Chg.refl _ _).alloc _
  have hop1 : hp (w.alloc (.cells (resA re) 53)) w.heap.size = some (.cells (resA re) 53) := by rw [alloc_heap, if_pos rfl]
  have hR := h.keep hc1 (Dis.nil _)
  have hlt := h.lt
  generalize w.alloc (.cells (resA re) 53) = w1 at *
  have same : ∀ w', Chg F w1 w' → Upd F F w w' := fun w' hc => Upd.pre hc1 ⟨hc, fun k hk => .inl hk⟩
  refine (c_ropen hR id t).step ?_
  by_cases k1 : spanOk S id ∧ last ≤ t
  rotate_left
  · have bad : pRPoint (S, last) id t re = (1, (S, last)) := if_neg fun h => k1 ⟨h.1, h.2.2⟩
    simp -implicitDefEqProofs only [wpB_some', gd_true, gd_false, gd_tf, gd_ft, gd_ut, gd_uf, gv_true, gv_false, gv_tf, gv_ft, gv_ut, gv_uf, gE_true, gE_false, gE_tf, gE_ft, gE_ut, gE_uf, gU_true, gU_false, gU_tf, gU_ft, pickv_true, pickv_false, cnd_true, cnd_false, decide_true, decide_false, Bool.not_true, Bool.not_false, pr_not, nilv_some, bp_lss, bp_leq, bp_gtr, bp_geq, be_eql, be_neq, bne_self_eq_false, beq_self_eq_true, ldC_some, Option.isNone_none, Option.isNone_some, hp_drew, k1, bad]
    exact ⟨trivial, F, hR, same _ (Chg.refl _ _)⟩
  obtain ⟨k1, k4⟩ := k1
  obtain ⟨lv, h1, h2, hF⟩ := hR.ex
  obtain ⟨g, c, e, hg, q1, q2, q3⟩ := hR.at h1 (id := id) k1.1 k1.2.1
  have kk : spanOk S id ∧ last ≤ t := ⟨k1, k4⟩
  by_cases k2 : 0 ≤ (spAt S id).pt
  · have bad : pRPoint (S, last) id t re = (1, (S, last)) := if_neg fun h => by have := h.2.1; simp only at this; omega
    simp -implicitDefEqProofs only [wpB_some', gd_true, gd_false, gd_tf, gd_ft, gd_ut, gd_uf, gv_true, gv_false, gv_tf, gv_ft, gv_ut, gv_uf, gE_true, gE_false, gE_tf, gE_ft, gE_ut, gE_uf, gU_true, gU_false, gU_tf, gU_ft, pickv_true, pickv_false, cnd_true, cnd_false, decide_true, decide_false, Bool.not_true, Bool.not_false, pr_not, nilv_some, bp_lss, bp_leq, bp_gtr, bp_geq, be_eql, be_neq, bne_self_eq_false, beq_self_eq_true, ldC_some, Option.isNone_none, Option.isNone_some, hp_drew, decide_eq_true kk, fa_67_2, ld_54, h1, a3_2, q1, fa_58_4, ld_3, q2 9 (by omega), sp9, k2, bad]
    exact ⟨trivial, F, hR, same _ (Chg.refl _ _)⟩
  obtain ⟨hR2, hc2, ok2, h2r⟩ := hR.step _ t h1
  have hst : ∀ L, effu Try.prog (Instr.storeAt 3 (.pointer (some ⟨r, 0 + 1, none⟩)) (.int .i64 t)) w1 L = L (put w1 r #[.int .i64 n, .int .i64 t, lv] 67) := fun L => by
    rw [st_3 (v := .int .i64 t) rfl rfl ok2, h1]; rfl
  have n7 : w.heap.size ∉ F := fun hm => by have := hlt _ hm; omega
  have hop2 : hp (put w1 r #[.int .i64 n, .int .i64 t, lv] 67) w.heap.size = some (.cells (resA re) 53) := by
    rw [put_other (fun e => n7 (by rw [e, hF]; simp))]; exact hop1
  simp -implicitDefEqProofs only [wpB_some', gd_true, gd_false, gd_tf, gd_ft, gd_ut, gd_uf, gv_true, gv_false, gv_tf, gv_ft, gv_ut, gv_uf, gE_true, gE_false, gE_tf, gE_ft, gE_ut, gE_uf, gU_true, gU_false, gU_tf, gU_ft, pickv_true, pickv_false, cnd_true, cnd_false, decide_true, decide_false, Bool.not_true, Bool.not_false, pr_not, nilv_some, bp_lss, bp_leq, bp_gtr, bp_geq, be_eql, be_neq, bne_self_eq_false, beq_self_eq_true, ldC_some, Option.isNone_none, Option.isNone_some, hp_drew, decide_eq_true kk, fa_67_2, fa_67_1, ld_54, h1, a3_2, q1, fa_58_4, ld_3, q2 9 (by omega), sp9, k2, hst]
  generalize put w1 r #[.int .i64 n, .int .i64 t, lv] 67 = w2 at *
  have hRd : RefI w2.drew r F n S t := hR2.keep (Chg.refl [] w2).drew (Dis.nil _)
  obtain ⟨g', c', w3, w4, e', q1', u1, u2, u3, u4, u5, u6⟩ := hRd.two (w := w2.drew) h2r k1.1 k1.2.1 (re := re) hop2 n7 { spAt S id with pt := t } { spAt S id with pt := t, re := re } 9 (by omega) rfl rfl
  have good : pRPoint (S, last) id t re = (0, (S.set id.toNat { spAt S id with pt := t, re := re }, t)) := if_pos ⟨k1, by simp only; omega, k4⟩
  rw [good]
  simp -implicitDefEqProofs only [wpB_some', gd_true, gd_false, gd_tf, gd_ft, gd_ut, gd_uf, gv_true, gv_false, gv_tf, gv_ft, gv_ut, gv_uf, gE_true, gE_false, gE_tf, gE_ft, gE_ut, gE_uf, gU_true, gU_false, gU_tf, gU_ft, pickv_true, pickv_false, cnd_true, cnd_false, decide_true, decide_false, Bool.not_true, Bool.not_false, pr_not, nilv_some, bp_lss, bp_leq, bp_gtr, bp_geq, be_eql, be_neq, bne_self_eq_false, beq_self_eq_true, ldC_some, Option.isNone_none, Option.isNone_some, hp_drew, fa_67_2, ld_54, h2r, a3_2, u2, u3, q1', fa_58_4, fa_58_7, u1, u4]
  have fin : P34_0 w4 fun v w' => v = .int .i64 0 ∧ ∃ F', RefI w' r F' n (S.set id.toNat { spAt S id with pt := t, re := re }) t ∧ Upd F F' w w' := by
    apply L34_0_ok
    exact ⟨rfl, F, u5, ((hc1.mono (by simp)).trans hc2.drew).trans u6, fun k hk => .inl hk⟩
  exact ⟨fin, fin⟩
set_option maxHeartbeats 1000000 in
theorem c_refEnd {w : World} {r : Nat} {F : List Nat} {n : Int} {S : List SpV} {last : Int} (h : RefI w r F n S last) (id t : Int) (re : ResV) :
    CallR Try.prog 37 [.pointer (some ⟨r, 0, none⟩), .int .i64 id, .int .i64 t, .agg (resA re)] w fun v w' =>
      v = .int .i64 (pREnd (S, last) id t re).1 ∧ ∃ F', RefI w' r F' n (pREnd (S, last) id t re).2.1 (pREnd (S, last) id t re).2.2 ∧ Upd F F' w w' := by
  apply F37_ok
  simp -implicitDefEqProofs only [F37, effv_box, cells_agg]
  have hc1 : Chg [] w (w.alloc (.cells (resA re) 53)) := (Chg.refl _ _).alloc _
  have hop1 : hp (w.alloc (.cells (resA re) 53)) w.heap.size = some (.cells (resA re) 53) := by rw [alloc_heap, if_pos rfl]
  have hR := h.keep hc1 (Dis.nil _)
  have hlt := h.lt
  generalize w.alloc (.cells (resA re) 53) = w1 at *
  have same : ∀ w', Chg F w1 w' → Upd F F w w' := fun w' hc => Upd.pre hc1 ⟨hc, fun k hk => .inl hk⟩
  refine (c_ropen hR id t).step ?_
  by_cases k1 : spanOk S id ∧ last ≤ t
  rotate_left
  · have bad : pREnd (S, last) id t re = (1, (S, last)) := if_neg fun h => k1 ⟨h.1, h.2.2⟩
    simp -implicitDefEqProofs only [wpB_some', gd_true, gd_false, gd_tf, gd_ft, gd_ut, gd_uf, gv_true, gv_false, gv_tf, gv_ft, gv_ut, gv_uf, gE_true, gE_false, gE_tf, gE_ft, gE_ut, gE_uf, gU_true, gU_false, gU_tf, gU_ft, pickv_true, pickv_false, cnd_true, cnd_false, decide_true, decide_false, Bool.not_true, Bool.not_false, pr_not, nilv_some, bp_lss, bp_leq, bp_gtr, bp_geq, be_eql, be_neq, bne_self_eq_false, beq_self_eq_true, ldC_some, Option.isNone_none, Option.isNone_some, hp_drew, k1, bad]
    exact ⟨trivial, F, hR, same _ (Chg.refl _ _)⟩
  obtain ⟨k1, k4⟩ := k1
  obtain ⟨lv, h1, h2, hF⟩ := hR.ex
  obtain ⟨g, c, e, hg, q1, q2, q3⟩ := hR.at h1 (id := id) k1.1 k1.2.1
  have kk : spanOk S id ∧ last ≤ t := ⟨k1, k4⟩
  by_cases k2 : (spAt S id).pt < 0
  · have bad : pREnd (S, last) id t re = (1, (S, last)) := if_neg fun h => by have := h.2.1; simp only at this; omega
    simp -implicitDefEqProofs only [wpB_some', gd_true, gd_false, gd_tf, gd_ft, gd_ut, gd_uf, gv_true, gv_false, gv_tf, gv_ft, gv_ut, gv_uf, gE_true, gE_false, gE_tf, gE_ft, gE_ut, gE_uf, gU_true, gU_false, gU_tf, gU_ft, pickv_true, pickv_false, cnd_true, cnd_false, decide_true, decide_false, Bool.not_true, Bool.not_false, pr_not, nilv_some, bp_lss, bp_leq, bp_gtr, bp_geq, be_eql, be_neq, bne_self_eq_false, beq_self_eq_true, ldC_some, Option.isNone_none, Option.isNone_some, hp_drew, decide_eq_true kk, fa_67_2, ld_54, h1, a3_2, q1, fa_58_4, ld_3, q2 9 (by omega), sp9, k2, bad]
    exact ⟨trivial, F, hR, same _ (Chg.refl _ _)⟩
  obtain ⟨hR2, hc2, ok2, h2r⟩ := hR.step _ t h1
  have hst : ∀ L, effu Try.prog (Instr.storeAt 3 (.pointer (some ⟨r, 0 + 1, none⟩)) (.int .i64 t)) w1 L = L (put w1 r #[.int .i64 n, .int .i64 t, lv] 67) := fun L => by
    rw [st_3 (v := .int .i64 t) rfl rfl ok2, h1]; rfl
  have n7 : w.heap.size ∉ F := fun hm => by have := hlt _ hm; omega
  have hop2 : hp (put w1 r #[.int .i64 n, .int .i64 t, lv] 67) w.heap.size = some (.cells (resA re) 53) := by
    rw [put_other (fun e => n7 (by rw [e, hF]; simp))]; exact hop1
  simp -implicitDefEqProofs only [wpB_some', gd_true, gd_false, gd_tf, gd_ft, gd_ut, gd_uf, gv_true, gv_false, gv_tf, gv_ft, gv_ut, gv_uf, gE_true, gE_false, gE_tf, gE_ft, gE_ut, gE_uf, gU_true, gU_false, gU_tf, gU_ft, pickv_true, pickv_false, cnd_true, cnd_false, decide_true, decide_false, Bool.not_true, Bool.not_false, pr_not, nilv_some, bp_lss, bp_leq, bp_gtr, bp_geq, be_eql, be_neq, bne_self_eq_false, beq_self_eq_true, ldC_some, Option.isNone_none, Option.isNone_some, hp_drew, decide_eq_true kk, fa_67_2, fa_67_1, ld_54, h1, a3_2, q1, fa_58_4, ld_3, q2 9 (by omega), sp9, k2, hst]
  generalize put w1 r #[.int .i64 n, .int .i64 t, lv] 67 = w2 at *
  have hRd : RefI w2.drew r F n S t := hR2.keep (Chg.refl [] w2).drew (Dis.nil _)
  obtain ⟨g', c', w3, w4, e', q1', u1, u2, u3, u4, u5, u6⟩ := hRd.two (w := w2.drew) h2r k1.1 k1.2.1 (re := re) hop2 n7 { spAt S id with rs := t } { spAt S id with rs := t, re := re } 11 (by omega) rfl rfl
  have good : pREnd (S, last) id t re = (0, (S.set id.toNat { spAt S id with rs := t, re := re }, t)) := if_pos ⟨k1, by simp only; omega, k4⟩
  rw [good]
  simp -implicitDefEqProofs only [wpB_some', gd_true, gd_false, gd_tf, gd_ft, gd_ut, gd_uf, gv_true, gv_false, gv_tf, gv_ft, gv_ut, gv_uf, gE_true, gE_false, gE_tf, gE_ft, gE_ut, gE_uf, gU_true, gU_false, gU_tf, gU_ft, pickv_true, pickv_false, cnd_true, cnd_false, decide_true, decide_false, Bool.not_true, Bool.not_false, pr_not, nilv_some, bp_lss, bp_leq, bp_gtr, bp_geq, be_eql, be_neq, bne_self_eq_false, beq_self_eq_true, ldC_some, Option.isNone_none, Option.isNone_some, hp_drew, fa_67_2, ld_54, h2r, a3_2, u2, u3, q1', fa_58_6, fa_58_7, u1, u4]
  have fin : P37_0 w4 fun v w' => v = .int .i64 0 ∧ ∃ F', RefI w' r F' n (S.set id.toNat { spAt S id with rs := t, re := re }) t ∧ Upd F F' w w' := by
    apply L37_0_ok
    exact ⟨rfl, F, u5, ((hc1.mono (by simp)).trans hc2.drew).trans u6, fun k hk => .inl hk⟩
  exact ⟨fin, fin⟩
set_option maxHeartbeats 1000000 in
theorem c_refBack {w : World} {r : Nat} {F : List Nat} {n : Int} {S : List SpV} {last : Int} (h : RefI w r F n S last) (id t : Int) :
    CallR Try.prog 36 [.pointer (some ⟨r, 0, none⟩), .int .i64 id, .int .i64 t] w fun v w' =>
      v = .int .i64 (pRBack (S, last) id t).1 ∧ ∃ F', RefI w' r F' n (pRBack (S, last) id t).2.1 (pRBack (S, last) id t).2.2 ∧ Upd F F' w w' := by
  apply F36_ok
  simp -implicitDefEqProofs only [F36]
  refine (c_ropen h id t).step ?_
  by_cases k1 : spanOk S id ∧ last ≤ t
  rotate_left
  · have bad : pRBack (S, last) id t = (1, (S, last)) := if_neg fun h => k1 ⟨h.1, h.2.2.2⟩
    simp -implicitDefEqProofs only [wpB_some', gd_true, gd_false, gd_tf, gd_ft, gd_ut, gd_uf, gv_true, gv_false, gv_tf, gv_ft, gv_ut, gv_uf, gE_true, gE_false, gE_tf, gE_ft, gE_ut, gE_uf, gU_true, gU_false, gU_tf, gU_ft, pickv_true, pickv_false, cnd_true, cnd_false, decide_true, decide_false, Bool.not_true, Bool.not_false, pr_not, nilv_some, bp_lss, bp_leq, bp_gtr, bp_geq, be_eql, be_neq, bne_self_eq_false, beq_self_eq_true, ldC_some, Option.isNone_none, Option.isNone_some, hp_drew, k1, bad]
    exact ⟨trivial, F, h, Upd.refl _ _⟩
  obtain ⟨k1, k4⟩ := k1
  obtain ⟨lv, h1, h2, hF⟩ := h.ex
  obtain ⟨g, c, e, hg, q1, q2, q3⟩ := h.at h1 (id := id) k1.1 k1.2.1
  have kk : spanOk S id ∧ last ≤ t := ⟨k1, k4⟩
  by_cases k2 : (spAt S id).pt < 0
  · have bad : pRBack (S, last) id t = (1, (S, last)) := if_neg fun h => by have := h.2.1; simp only at this; omega
    simp -implicitDefEqProofs only [wpB_some', gd_true, gd_false, gd_tf, gd_ft, gd_ut, gd_uf, gv_true, gv_false, gv_tf, gv_ft, gv_ut, gv_uf, gE_true, gE_false, gE_tf, gE_ft, gE_ut, gE_uf, gU_true, gU_false, gU_tf, gU_ft, pickv_true, pickv_false, cnd_true, cnd_false, decide_true, decide_false, Bool.not_true, Bool.not_false, pr_not, nilv_some, bp_lss, bp_leq, bp_gtr, bp_geq, be_eql, be_neq, bne_self_eq_false, beq_self_eq_true, ldC_some, Option.isNone_none, Option.isNone_some, hp_drew, decide_eq_true kk, fa_67_2, ld_54, h1, a3_2, q1, fa_58_4, ld_3, q2 9 (by omega), sp9, k2, bad]
    exact ⟨trivial, F, h, Upd.refl _ _⟩
  by_cases k3 : 0 ≤ (spAt S id).bk
  · have bad : pRBack (S, last) id t = (1, (S, last)) := if_neg fun h => by have := h.2.2.1; simp only at this; omega
    simp -implicitDefEqProofs only [wpB_some', gd_true, gd_false, gd_tf, gd_ft, gd_ut, gd_uf, gv_true, gv_false, gv_tf, gv_ft, gv_ut, gv_uf, gE_true, gE_false, gE_tf, gE_ft, gE_ut, gE_uf, gU_true, gU_false, gU_tf, gU_ft, pickv_true, pickv_false, cnd_true, cnd_false, decide_true, decide_false, Bool.not_true, Bool.not_false, pr_not, nilv_some, bp_lss, bp_leq, bp_gtr, bp_geq, be_eql, be_neq, bne_self_eq_false, beq_self_eq_true, ldC_some, Option.isNone_none, Option.isNone_some, hp_drew, decide_eq_true kk, fa_67_2, ld_54, h1, a3_2, q1, fa_58_4, fa_58_5, ld_3, q2 9 (by omega), q2 10 (by omega), sp9, sp10, k2, k3, bad]
    exact ⟨trivial, F, h, Upd.refl _ _⟩
  obtain ⟨hR2, hc2, ok2, h2r⟩ := h.step _ t h1
  have hst : ∀ L, effu Try.prog (Instr.storeAt 3 (.pointer (some ⟨r, 0 + 1, none⟩)) (.int .i64 t)) w L = L (put w r #[.int .i64 n, .int .i64 t, lv] 67) := fun L => by
    rw [st_3 (v := .int .i64 t) rfl rfl ok2, h1]; rfl
  simp -implicitDefEqProofs only [wpB_some', gd_true, gd_false, gd_tf, gd_ft, gd_ut, gd_uf, gv_true, gv_false, gv_tf, gv_ft, gv_ut, gv_uf, gE_true, gE_false, gE_tf, gE_ft, gE_ut, gE_uf, gU_true, gU_false, gU_tf, gU_ft, pickv_true, pickv_false, cnd_true, cnd_false, decide_true, decide_false, Bool.not_true, Bool.not_false, pr_not, nilv_some, bp_lss, bp_leq, bp_gtr, bp_geq, be_eql, be_neq, bne_self_eq_false, beq_self_eq_true, ldC_some, Option.isNone_none, Option.isNone_some, hp_drew, decide_eq_true kk, fa_67_2, fa_67_1, ld_54, h1, a3_2, q1, fa_58_4, fa_58_5, ld_3, q2 9 (by omega), q2 10 (by omega), sp9, sp10, k2, k3, hst]
  generalize put w r #[.int .i64 n, .int .i64 t, lv] 67 = w2 at *
  obtain ⟨W1, W2, W3, W4, W5⟩ := hR2.write h2r k1.1 k1.2.1 hg { spAt S id with bk := t } 10 [.int .i64 t] (by show 10 + 1 ≤ 20; omega) rfl
  have e0 : setL (getC (hp w2 g)) (id.toNat * 20 + 10) [.int .i64 t] = (getC (hp w2 g)).setIfInBounds (id.toNat * 20 + 10) (.int .i64 t) := rfl
  rw [e0] at W1 W2
  have good : pRBack (S, last) id t = (0, (S.set id.toNat { spAt S id with bk := t }, t)) := if_pos ⟨k1, by simp only; omega, by simp only; omega, k4⟩
  rw [good]
  simp -implicitDefEqProofs only [wpB_some', gd_true, gd_false, gd_tf, gd_ft, gd_ut, gd_uf, gv_true, gv_false, gv_tf, gv_ft, gv_ut, gv_uf, gE_true, gE_false, gE_tf, gE_ft, gE_ut, gE_uf, gU_true, gU_false, gU_tf, gU_ft, pickv_true, pickv_false, cnd_true, cnd_false, decide_true, decide_false, Bool.not_true, Bool.not_false, pr_not, nilv_some, bp_lss, bp_leq, bp_gtr, bp_geq, be_eql, be_neq, bne_self_eq_false, beq_self_eq_true, ldC_some, Option.isNone_none, Option.isNone_some, hp_drew, h2r, a3_2, q1, fa_58_5, ld_54, st_3 (w := w2) (v := .int .i64 t) rfl rfl W3]
  exact ⟨trivial, F, W1, hc2.trans W2, fun k hk => .inl hk⟩
theorem l_same {xs ys : List SpV} (hl : xs.length ≤ 1000) (he : xs = ys) {A B : Option Addr} {c d : Nat} {W : World} : ∀ (e i : Nat) (w : World), RdV w A (xs.flatMap spC) → RdV w B (ys.flatMap spC) → Chg [] W w → i + e = xs.length →
    P39_0 (.slice A xs.length c) (.slice B ys.length d) (.int .i64 i) w fun v w' => v = .bool true ∧ Chg [] W w' := by
  subst he
  intro e
  induction e with
  | zero =>
    intro i w hA hB hW hi
    apply L39_0_ok
    have : ¬ (i : Int) < xs.length := by omega
    simp -implicitDefEqProofs only [L39_0, wpB_some', gd_true, gd_false, gd_tf, gd_ft, gd_ut, gd_uf, gv_true, gv_false, gv_tf, gv_ft, gv_ut, gv_uf, gE_true, gE_false, gE_tf, gE_ft, gE_ut, gE_uf, gU_true, gU_false, gU_tf, gU_ft, pickv_true, pickv_false, cnd_true, cnd_false, decide_true, decide_false, Bool.not_true, Bool.not_false, pr_not, nilv_some, bp_lss, bp_leq, bp_gtr, bp_geq, be_eql, be_neq, bne_self_eq_false, beq_self_eq_true, ldC_some, Option.isNone_none, Option.isNone_some, hp_drew, len_54, this]
    exact ⟨trivial, hW⟩
  | succ e ih =>
    intro i w hA hB hW hi
    apply L39_0_ok
    have hlt : (i : Int) < xs.length := by omega
    have hd : Chg [] w w.drew := (Chg.refl _ _).drew
    obtain ⟨b, o, q1, q2⟩ := sp_at' (c := c) (j := .i64) (i := i) hA (by omega)
    obtain ⟨b', o', p1, p2⟩ := sp_at' (c := d) (j := .i64) (i := i) hB (by omega)
    have hne : be Try.prog .neq 58 (.tmp 20) (.tmp 24) (.agg (spA xs[i])) (.agg (spA xs[i])) = some (.bool false) := by
      have := be_neq_58 (x := .tmp 20) (y := .tmp 24) (x0 := xs[i].wk) (y0 := xs[i].wk) (x1 := xs[i].ix) (y1 := xs[i].ix) (x2 := xs[i].op.1) (y2 := xs[i].op.1) (x3 := xs[i].op.2.1) (y3 := xs[i].op.2.1) (x4 := xs[i].op.2.2.1) (y4 := xs[i].op.2.2.1) (x5 := xs[i].op.2.2.2.1) (y5 := xs[i].op.2.2.2.1) (x6 := xs[i].op.2.2.2.2.1) (y6 := xs[i].op.2.2.2.2.1) (x7 := xs[i].op.2.2.2.2.2) (y7 := xs[i].op.2.2.2.2.2)
        (x8 := xs[i].iv) (y8 := xs[i].iv) (x9 := xs[i].pt) (y9 := xs[i].pt) (x10 := xs[i].bk) (y10 := xs[i].bk) (x11 := xs[i].rs) (y11 := xs[i].rs) (x12 := xs[i].re.1) (y12 := xs[i].re.1) (x13 := xs[i].re.2.1.1) (y13 := xs[i].re.2.1.1) (x14 := xs[i].re.2.1.2.1) (y14 := xs[i].re.2.1.2.1) (x15 := xs[i].re.2.1.2.2.1) (y15 := xs[i].re.2.1.2.2.1) (x16 := xs[i].re.2.1.2.2.2.1) (y16 := xs[i].re.2.1.2.2.2.1) (x17 := xs[i].re.2.1.2.2.2.2) (y17 := xs[i].re.2.1.2.2.2.2) (x18 := xs[i].re.2.2.1) (y18 := xs[i].re.2.2.1) (x19 := xs[i].re.2.2.2) (y19 := xs[i].re.2.2.2)
      simp only [beq_self_eq_true, Bool.and_self, Bool.not_true] at this
      exact this
    simp -implicitDefEqProofs only [L39_0, wpB_some', gd_true, gd_false, gd_tf, gd_ft, gd_ut, gd_uf, gv_true, gv_false, gv_tf, gv_ft, gv_ut, gv_uf, gE_true, gE_false, gE_tf, gE_ft, gE_ut, gE_uf, gU_true, gU_false, gU_tf, gU_ft, pickv_true, pickv_false, cnd_true, cnd_false, decide_true, decide_false, Bool.not_true, Bool.not_false, pr_not, nilv_some, bp_lss, bp_leq, bp_gtr, bp_geq, be_eql, be_neq, bne_self_eq_false, beq_self_eq_true, ldC_some, Option.isNone_none, Option.isNone_some, hp_drew, len_54, hlt, q1, p1, (q2.keep hd).ld, (p2.keep hd).ld, hne, bp_add, wrapi (n := (i : Int) + 1) (by omega) (by omega)]
    have h := ih (i + 1) w.drew hA hB hW.drew (by omega)
    rw [Int.natCast_add i 1] at h
    exact h
theorem c_same {xs : List SpV} (hl : xs.length ≤ 1000) {u v : Value} {w : World} (hx : SlP w u xs) (hy : SlP w v xs) : CallR Try.prog 39 [u, v] w fun r w' => r = .bool true ∧ Chg [] w w' := by
  obtain ⟨A, c, rfl, hA⟩ := hx
  obtain ⟨B, d, rfl, hB⟩ := hy
  apply F39_ok
  simp -implicitDefEqProofs only [F39, wpB_some', gd_true, gd_false, gd_tf, gd_ft, gd_ut, gd_uf, gv_true, gv_false, gv_tf, gv_ft, gv_ut, gv_uf, gE_true, gE_false, gE_tf, gE_ft, gE_ut, gE_uf, gU_true, gU_false, gU_tf, gU_ft, pickv_true, pickv_false, cnd_true, cnd_false, decide_true, decide_false, Bool.not_true, Bool.not_false, pr_not, nilv_some, bp_lss, bp_leq, bp_gtr, bp_geq, be_eql, be_neq, bne_self_eq_false, beq_self_eq_true, ldC_some, Option.isNone_none, Option.isNone_some, hp_drew, len_54]
  exact l_same hl rfl xs.length 0 w hA hB (Chg.refl _ _) (by omega)
end Go.Proofs.Ytgamnncehjcdiaa
