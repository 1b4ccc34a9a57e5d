/- The record: End, List. -/
import Derived.Test.YtgamnncehjcdiaaRm
namespace Go.Proofs.Ytgamnncehjcdiaa
open Go Ev Go.RowKit
set_option linter.unusedSimpArgs false
set_option linter.unusedVariables false
set_option maxRecDepth 10000

/-- a worker's open one is written anew -/
theorem RecI.writeO {w : World} {r : Nat} {F : List Nat} {S : List SpV} {op : List Int} {last t : Int} (h : RecI w r F S op last) {lv ov : Value} (h1 : hp w r = some (.cells #[lv, ov, .int .i64 t] 121)) {i : Int} (h0 : 0 ≤ i) (hl : i < op.length) (x : Int) :
    ∃ g c, ov = .slice (some ⟨g, 0, none⟩) op.length c ∧ pureRun Try.prog (Instr.indexAt 23 ov (.int .i64 i)) = some (.pointer (some ⟨g, i.toNat * 1, none⟩)) ∧ okC (hp w g) (i.toNat * 1 + 1) = true ∧ RecI (put w g ((getC (hp w g)).setIfInBounds (i.toNat * 1) (.int .i64 x)) (getE (hp w g))) r F S (op.set i.toNat x) last ∧ Chg F w (put w g ((getC (hp w g)).setIfInBounds (i.toNat * 1) (.int .i64 x)) (getE (hp w g))) := by
  obtain ⟨rfl, o2, o3, hF, n2, n3⟩ := h.rows h1
  have hi : i.toNat < op.length := by omega
  obtain ⟨g, c, e, hg, q1, q2, q3, q4⟩ := own_elem (P := Try.prog) (i := i) (j := .i64) o3 Try.underlying23 sz_3 h0 hl
  obtain ⟨p1, p2⟩ := ownsRow_put (vs := [.int .i64 x]) o3 hg (o := i.toNat * 1) (by simp; omega)
  rw [ints_put op _ _ hi] at p1
  have e0 : setL (getC (hp w g)) (i.toNat * 1) [.int .i64 x] = (getC (hp w g)).setIfInBounds (i.toNat * 1) (.int .i64 x) := rfl
  rw [e0] at p1
  have hc : Chg [g] w (put w g ((getC (hp w g)).setIfInBounds (i.toNat * 1) (.int .i64 x)) (getE (hp w g))) := (Chg.refl _ _).put (.inl (by simp)) _ _
  have hgr := (n3 g hg).1
  refine ⟨g, c, e, q1, p2, ⟨lv, ov, hc.at h1 (by simp; omega), ownsRow_chg o2 hc fun k hk hm => ?_, by rw [List.length_set]; exact p1, hF⟩, hc.mono fun k hk _ => ?_⟩
  · simp at hm; subst hm; exact (n2 _ hk).2 hg
  · simp at hk; subst hk; rw [hF]; simp [hg]
def pEnd (st : RecS) (id t : Int) (re : ResV) : Int × RecS :=
  if spanOk st.1 id ∧ 0 ≤ (spAt st.1 id).pt ∧ st.2.2 ≤ t then (0, (st.1.set id.toNat { spAt st.1 id with rs := t, re := re }, st.2.1.set (spAt st.1 id).wk.toNat (-1), t)) else (1, st)
set_option maxHeartbeats 1000000 in
theorem c_End {w : World} {r : Nat} {F : List Nat} {S : List SpV} {op : List Int} {last : Int} (h : RecI w r F S op last) (id t : Int) (re : ResV) (hwk : spanOk S id → 0 ≤ (spAt S id).wk ∧ (spAt S id).wk < op.length) :
    CallR Try.prog 28 [.pointer (some ⟨r, 0, none⟩), .int .i64 id, .int .i64 t, .agg (resA re)] w fun v w' =>
      v = .int .i64 (pEnd (S, op, last) id t re).1 ∧ ∃ F', RecI w' r F' (pEnd (S, op, last) id t re).2.1 (pEnd (S, op, last) id t re).2.2.1 (pEnd (S, op, last) id t re).2.2.2 ∧ Upd F F' w w' := by
  apply F28_ok
  simp -implicitDefEqProofs only [F28, effv_box, cells_agg]
  have hc1 : Chg [] w (w.alloc (.cells (resA re) 53)) := (Chg.refl _ _).alloc _
  have hop1 : hp (w.alloc (.cells (resA re) 53)) w.heap.size = some (.cells (resA re) 53) := by rw [alloc_heap, if_pos rfl]
  have hR := h.keep hc1 (Dis.nil _)
  have hlt := h.lt
  generalize w.alloc (.cells (resA re) 53) = w1 at *
  have same : ∀ w', Chg F w1 w' → Upd F F w w' := fun w' hc => Upd.pre hc1 ⟨hc, fun k hk => .inl hk⟩
  by_cases k1 : spanOk S id
  rotate_left
  · refine (c_rspan_no hR k1).step ?_
    have bad : pEnd (S, op, last) id t re = (1, (S, op, last)) := if_neg fun h => k1 h.1
    simp -implicitDefEqProofs only [be_eqlp Try.underlying122, Option.isNone_none, wpB_some', gd_tf, gv_tf, gd_ut, gv_ut, gd_uf, gv_uf, gE_tf, gE_uf, pickv_true, cnd_true, bad]
    exact ⟨trivial, F, hR, same _ (Chg.refl _ _)⟩
  obtain ⟨lv, ov, h1, h2, h3, hF⟩ := hR.ex
  obtain ⟨g, c, e, hg, q1, q2, q3⟩ := hR.at h1 (id := id) k1.1 k1.2.1
  refine (c_rspan_yes hR h1 k1 hg).step ?_
  by_cases k2 : (spAt S id).pt < 0
  · have bad : pEnd (S, op, last) id t re = (1, (S, op, last)) := if_neg fun h => by have := h.2.1; simp only at this; omega
    simp -implicitDefEqProofs only [be_eqlp Try.underlying122, Option.isNone_some, wpB_some', gd_false, gv_false, nilv_some, fa_58_4, ld_3, q2 9 (by omega), sp9, bp_lss, k2, decide_true, pickv_false, gd_tf, gv_tf, gd_ut, gv_ut, gd_uf, gv_uf, gE_tf, gE_uf, pickv_true, cnd_true, bad]
    exact ⟨trivial, F, hR, same _ (Chg.refl _ _)⟩
  simp -implicitDefEqProofs only [be_eqlp Try.underlying122, Option.isNone_some, wpB_some', gd_false, gv_false, nilv_some, fa_58_4, ld_3, q2 9 (by omega), sp9, bp_lss, k2, decide_false, pickv_false, gE_false]
  refine (c_rstep h1).mono ?_
  rintro v w2 ⟨rfl, hw2⟩
  by_cases k4 : last ≤ t
  rotate_left
  · have bad : pEnd (S, op, last) id t re = (1, (S, op, last)) := if_neg fun h => k4 h.2.2
    rw [if_neg k4] at hw2
    subst hw2
    simp -implicitDefEqProofs only [k4, decide_false, pr_not, Bool.not_false, gd_false, gv_false, wpB_some', pickv_false, cnd_true, bad]
    exact ⟨trivial, F, hR, same _ (Chg.refl _ _)⟩
  rw [if_pos k4] at hw2
  obtain ⟨hR2, hc2⟩ := hR.step _ _ t h1
  rw [← hw2] at hR2 hc2
  have h2r : hp w2 r = some (.cells #[lv, ov, .int .i64 t] 121) := by rw [hw2]; exact put_same (blk_lt h1) _ _
  have hop2 : hp w2 w.heap.size = some (.cells (resA re) 53) := by
    rw [hw2, put_other (fun e => by have := hlt r (by rw [hF]; simp); omega)]; exact hop1
  clear hw2
  have good : pEnd (S, op, last) id t re = (0, (S.set id.toNat { spAt S id with rs := t, re := re }, op.set (spAt S id).wk.toNat (-1), t)) := if_pos ⟨k1, by simp only; omega, k4⟩
  rw [good]
  have hRd : RecI w2.drew r F S op t := hR2.keep (Chg.refl [] w2).drew (Dis.nil _)
  obtain ⟨W1, W2, W3, W4, W5⟩ := hRd.write (w := w2.drew) h2r k1.1 k1.2.1 hg { spAt S id with rs := t } 11 [.int .i64 t] (by show 11 + 1 ≤ 20; omega) rfl
  have hgop : g ≠ w.heap.size := fun e => by have := hlt g (by rw [hF]; simp [hg]); omega
  have e0 : setL (getC (hp w2.drew g)) (id.toNat * 20 + 11) [.int .i64 t] = (getC (hp w2.drew g)).setIfInBounds (id.toNat * 20 + 11) (.int .i64 t) := rfl
  rw [e0] at W1 W2 W5
  have h3op : hp (put w2.drew g ((getC (hp w2.drew g)).setIfInBounds (id.toNat * 20 + 11) (.int .i64 t)) (getE (hp w2.drew g))) w.heap.size = some (.cells (resA re) 53) := by
    rw [put_other (Ne.symm hgop)]; exact hop2
  have ld2 : ldv Try.prog 53 (.pointer (some ⟨w.heap.size, 0, none⟩)) w2.drew = some (.agg (resA re)) := ldv_whole ag_53 sz_53 (by rw [hp_drew]; exact hop2)
  have ld3 := ldv_whole (t := 53) (c := resA re) ag_53 sz_53 h3op
  have h3r := W5.trans (show hp w2.drew r = _ from h2r)
  simp -implicitDefEqProofs only [k4, decide_true, pr_not, Bool.not_true, gd_false, gv_false, wpB_some', pickv_false, cnd_false, nilv_some, fa_58_6, fa_58_7, st_3 (w := w2.drew) (v := .int .i64 t) rfl rfl W3, ld2, ld3]
  have c13 : Chg F w (put w2.drew g ((getC (hp w2.drew g)).setIfInBounds (id.toNat * 20 + 11) (.int .i64 t)) (getE (hp w2.drew g))) := ((hc1.mono (by simp)).trans (hc2.drew)).trans W2
  generalize put w2.drew g ((getC (hp w2.drew g)).setIfInBounds (id.toNat * 20 + 11) (.int .i64 t)) (getE (hp w2.drew g)) = w3 at *
  have hlen : (S.length : Int) = (S.set id.toNat { spAt S id with rs := t }).length := by rw [List.length_set]
  have hi : id.toNat < S.length := by have := k1.1; have := k1.2.1; omega
  have hsp : ∀ s', spAt (S.set id.toNat s') id = s' := by
    intro s'; unfold spAt; simp [List.getD_eq_getElem?_getD, hi]
  obtain ⟨X1, X2, X3, X4, X5⟩ := W1.write h3r k1.1 (by rw [← hlen]; exact k1.2.1) hg { spAt S id with rs := t, re := re } 12 (resC re) (by show 12 + 8 ≤ 20; omega) (by rw [hsp]; rfl)
  rw [List.set_set] at X1
  have hst : ∀ L, effu Try.prog (Instr.storeAt 53 (.pointer (some ⟨g, id.toNat * 20 + 12, none⟩)) (.agg (resA re))) w3 L = L (put w3 g (setL (getC (hp w3 g)) (id.toNat * 20 + 12) (resC re)) (getE (hp w3 g))) := fun L => effu_store (v := .agg (resA re)) sz_53 rfl rfl (by decide) X3
  simp -implicitDefEqProofs only [hst]
  have h4r := X5.trans h3r
  have c14 := c13.trans X2
  clear X2 X3 X5 hst
  generalize put w3 g (setL (getC (hp w3 g)) (id.toNat * 20 + 12) (resC re)) (getE (hp w3 g)) = w4 at *
  obtain ⟨hwk0, hwkl⟩ := hwk k1
  have X1d : RecI w4.drew r F (S.set id.toNat { spAt S id with rs := t, re := re }) op t := X1.keep (Chg.refl [] w4).drew (Dis.nil _)
  obtain ⟨g4, c4, e4, y1, y2, y3, y4⟩ := X1d.writeO (w := w4.drew) h4r hwk0 hwkl (-1)
  obtain ⟨g5, c5, e5, hg5, z1, z2, z3⟩ := X1d.at (w := w4.drew) h4r (id := id) k1.1 (by rw [List.length_set]; exact k1.2.1)
  rw [hg] at hg5
  cases hg5
  have z20 := z2 0 (by omega)
  rw [hsp, sp0] at z20
  have fin : P28_0 (.pointer (some ⟨r, 0, none⟩)) (.pointer (some ⟨g, id.toNat * 20, none⟩)) w4 fun v w' => v = .int .i64 0 ∧ ∃ F', RecI w' r F' (S.set id.toNat { spAt S id with rs := t, re := re }) (op.set (spAt S id).wk.toNat (-1)) t ∧ Upd F F' w w' := by
    apply L28_0_ok
    simp -implicitDefEqProofs only [L28_0, nilv_some, wpB_some', fa_121_1, ld_23, hp_drew, h4r, ldC_some, a3_1, fa_58_0, ld_3, y1]
    rw [hp_drew] at z20
    simp -implicitDefEqProofs only [z20, wpB_some', y1, st_3 (w := w4.drew) (v := .int .i64 (-1)) rfl rfl y2]
    exact ⟨trivial, F, y3, c14.drew.trans y4, fun k hk => .inl hk⟩
  exact ⟨fin, fin⟩
/-- all of it, anew -/
theorem c_List {w : World} {r : Nat} {F : List Nat} {S : List SpV} {op : List Int} {last : Int} (h : RecI w r F S op last) (hS : S.length ≤ 1000) :
    CallR Try.prog 29 [.pointer (some ⟨r, 0, none⟩)] w fun v w' => w'.ownsRow w.heap.size 58 20 v S.length (S.flatMap spC) ∧ Chg [] w w' := by
  obtain ⟨lv, ov, h1, h2, h3, hF⟩ := h.ex
  apply F29_ok
  simp -implicitDefEqProofs only [F29, nilv_some, wpB_some', fa_121_0, ld_54, h1, ldC_some, a3_0]
  apply F75_ok
  obtain ⟨A, cA, rfl, hA, _, _⟩ := rdV_of_own h2
  cases A with
  | none =>
    have h0 : S.length = 0 := by
      rcases h2.2 with ⟨_, h0⟩ | ⟨g, cap, cur, e, _⟩
      · exact h0
      · cases e
    have hS0 : S = [] := List.length_eq_zero_iff.1 h0
    subst hS0
    simp -implicitDefEqProofs only [F75, be_eqlsl Try.underlying54, Option.isNone_none, wpB_some', cnd_true]
    exact ⟨World.ownsRow_nil _ _ _ _, Chg.refl _ _⟩
  | some p =>
    simp -implicitDefEqProofs only [F75, be_eqlsl Try.underlying54, Option.isNone_some, wpB_some', cnd_false]
    obtain ⟨i, hi, hz, hs, hb⟩ := inf_58
    refine eff_clone (size := 20) Try.underlying54 hi hz hs rfl (by omega) h2.1 hA (fun u hu => ?_) (by unfold maxLen; omega) (by rw [hb]; omega) fun x' w' ho hc => ⟨ho, hc⟩
    obtain ⟨s, _, hu⟩ := List.mem_flatMap.1 hu
    exact spC_one s u hu
end Go.Proofs.Ytgamnncehjcdiaa
