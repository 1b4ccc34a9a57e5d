/- The record: a span that has not ended; Point. -/
import Derived.Test.YtgamnncehjcdiaaRl
namespace Go.Proofs.Ytgamnncehjcdiaa
open Go Ev Go.RowKit
set_option linter.unusedSimpArgs false
set_option linter.unusedVariables false
set_option maxRecDepth 10000

def spZ : SpV := ⟨0, 0, (0, 0, 0, 0, 0, 0), 0, 0, 0, 0, resO⟩
def spAt (S : List SpV) (id : Int) : SpV := S.getD id.toNat spZ
def spanOk (S : List SpV) (id : Int) : Prop := 0 ≤ id ∧ id < S.length ∧ (spAt S id).rs < 0
instance (S : List SpV) (id : Int) : Decidable (spanOk S id) := by unfold spanOk; infer_instance
theorem spAt_eq {S : List SpV} {id : Int} (h : id.toNat < S.length) : S[id.toNat] = spAt S id := by unfold spAt; simp [List.getD_eq_getElem?_getD, h]
theorem spA_get (s : SpV) (k : Nat) : (spC s)[k]? = (spA s)[k]? := by simp [spA]
/-- a span's place in a record -/
theorem RecI.at {w : World} {r : Nat} {F : List Nat} {S : List SpV} {op : List Int} {last t : Int} (h : RecI w r F S op last) {lv ov : Value} (h1 : hp w r = some (.cells #[lv, ov, .int .i64 t] 121)) {id : Int} (h0 : 0 ≤ id) (hl : id < S.length) :
    ∃ g c, lv = .slice (some ⟨g, 0, none⟩) S.length c ∧ lv.ownBlock = some g ∧ (∀ j, pureRun Try.prog (Instr.indexAt 54 lv (.int j id)) = some (.pointer (some ⟨g, id.toNat * 20, none⟩))) ∧ (∀ k, k < 20 → ldC (hp w g) (id.toNat * 20 + k) = (spA (spAt S id))[k]?) ∧ ldL (hp w g) (id.toNat * 20) 20 = some (spC (spAt S id)) := by
  obtain ⟨_, o2, _⟩ := h.rows h1
  have hi : id.toNat < S.length := by omega
  obtain ⟨g, c, e, hg, q1, q2, q3, q4⟩ := own_elem (P := Try.prog) (i := id) (j := .i64) o2 Try.underlying54 sz_58 h0 hl
  refine ⟨g, c, e, hg, fun j => ?_, fun k hk => ?_, ?_⟩
  · obtain ⟨g', c', e', hg', q1', _⟩ := own_elem (P := Try.prog) (i := id) (j := j) o2 Try.underlying54 sz_58 h0 hl
    rw [hg] at hg'
    cases hg'
    exact q1'
  · rw [q2 k hk, flat_get spC_len S id.toNat hi k hk, spAt_eq hi, spA_get]
  · rw [q3, flat_at spC_len S id.toNat hi, spAt_eq hi]
/-- a span's numbers are written anew -/
theorem RecI.write {w : World} {r : Nat} {F : List Nat} {S : List SpV} {op : List Int} {last t : Int} (h : RecI w r F S op last) {lv ov : Value} (h1 : hp w r = some (.cells #[lv, ov, .int .i64 t] 121)) {id : Int} (h0 : 0 ≤ id) (hl : id < S.length) {g : Nat} (hg : lv.ownBlock = some g) (s' : SpV) (k : Nat) (vs : List Value) (hk : k + vs.length ≤ 20)
    (he : spC s' = (spC (spAt S id)).take k ++ vs ++ (spC (spAt S id)).drop (k + vs.length)) :
    RecI (put w g (setL (getC (hp w g)) (id.toNat * 20 + k) vs) (getE (hp w g))) r F (S.set id.toNat s') op last ∧ Chg F w (put w g (setL (getC (hp w g)) (id.toNat * 20 + k) vs) (getE (hp w g))) ∧ okC (hp w g) (id.toNat * 20 + k + vs.length) = true ∧ g ≠ r ∧ hp (put w g (setL (getC (hp w g)) (id.toNat * 20 + k) vs) (getE (hp w g))) r = hp w r := by
  obtain ⟨rfl, o2, o3, hF, n2, n3⟩ := h.rows h1
  have hi : id.toNat < S.length := by omega
  have hle : id.toNat * 20 + k + vs.length ≤ S.length * 20 := by omega
  obtain ⟨p1, p2⟩ := ownsRow_put o2 hg (o := id.toNat * 20 + k) hle
  rw [flat_part spC_len s' k vs hk S id.toNat hi (by rw [spAt_eq hi]; exact he)] at p1
  have hc : Chg [g] w (put w g (setL (getC (hp w g)) (id.toNat * 20 + k) vs) (getE (hp w g))) := (Chg.refl _ _).put (.inl (by simp)) _ _
  have hgr := (n2 g hg).1
  refine ⟨⟨lv, ov, hc.at h1 (by simp; omega), by rw [List.length_set]; exact p1, ownsRow_chg o3 hc fun k hk hm => ?_, hF⟩, hc.mono fun k hk _ => ?_, p2, hgr, hc.block r (blk_lt h1) (by simp; omega)⟩
  · simp at hm; subst hm; exact (n3 _ hk).2 hg
  · simp at hk; subst hk; rw [hF]; simp [hg]
/-- what may be told of a span -/
theorem c_rspan_no {w : World} {r : Nat} {F : List Nat} {S : List SpV} {op : List Int} {last : Int} (h : RecI w r F S op last) {id : Int} (hn : ¬ spanOk S id) :
    CallR Try.prog 74 [.pointer (some ⟨r, 0, none⟩), .int .i64 id] w fun v w' => v = .pointer none ∧ w' = w := by
  obtain ⟨lv, ov, h1, h2, h3, hF⟩ := h.ex
  apply F74_ok
  obtain ⟨A, cA, rfl, hA, _, _⟩ := rdV_of_own h2
  by_cases k1 : id < 0
  · simp -implicitDefEqProofs only [F74, bp_lss, k1, decide_true, wpB_some', gd_tf, gv_tf, gd_ut, gv_ut, gd_uf, gv_uf, pickv_true, cnd_true, and_self]
  by_cases k2 : (S.length : Int) ≤ id
  · simp -implicitDefEqProofs only [F74, bp_lss, k1, decide_true, decide_false, wpB_some', gd_false, gv_false, nilv_some, fa_121_0, ld_54, h1, ldC_some, a3_0, len_54, bp_geq, k2, pickv_false, gd_tf, gv_tf, gd_ut, gv_ut, gd_uf, gv_uf, pickv_true, cnd_true, and_self]
  obtain ⟨g, c, e, hg, q1, q2, q3⟩ := h.at h1 (id := id) (by omega) (by omega)
  have k3 : 0 ≤ (spAt S id).rs := Int.not_lt.1 fun hlt => hn ⟨by omega, by omega, hlt⟩
  simp -implicitDefEqProofs only [F74, bp_lss, k1, decide_true, decide_false, wpB_some', gd_false, gv_false, nilv_some, fa_121_0, ld_54, h1, ldC_some, a3_0, len_54, bp_geq, k2, pickv_false, q1, fa_58_6, ld_3, q2 11 (by omega), sp11, k3, pickv_true, cnd_true, and_self]
theorem c_rspan_yes {w : World} {r : Nat} {F : List Nat} {S : List SpV} {op : List Int} {last t : Int} (h : RecI w r F S op last) {lv ov : Value} (h1 : hp w r = some (.cells #[lv, ov, .int .i64 t] 121)) {id : Int} (hn : spanOk S id) {g : Nat} (hg : lv.ownBlock = some g) :
    CallR Try.prog 74 [.pointer (some ⟨r, 0, none⟩), .int .i64 id] w fun v w' => v = .pointer (some ⟨g, id.toNat * 20, none⟩) ∧ w' = w := by
  obtain ⟨k1, k2, k3⟩ := hn
  apply F74_ok
  obtain ⟨g', c, e, hg', q1, q2, q3⟩ := h.at h1 (id := id) k1 k2
  rw [hg] at hg'
  cases hg'
  subst e
  have k1' : ¬ id < 0 := by omega
  have k2' : ¬ (S.length : Int) ≤ id := by omega
  have k3' : ¬ 0 ≤ (spAt S id).rs := by omega
  simp -implicitDefEqProofs only [F74, bp_lss, k1', decide_true, decide_false, wpB_some', gd_false, gv_false, nilv_some, fa_121_0, ld_54, h1, ldC_some, a3_0, len_54, bp_geq, k2', pickv_false, q1, fa_58_6, ld_3, q2 11 (by omega), sp11, k3', pickv_true, cnd_false, and_self]
def resA (r : ResV) : Array Value := (resC r).toArray
def pPoint (st : RecS) (id t : Int) (re : ResV) : Int × RecS :=
  if spanOk st.1 id ∧ (spAt st.1 id).pt < 0 ∧ st.2.2 ≤ t then (0, (st.1.set id.toNat { spAt st.1 id with pt := t, re := re }, st.2.1, t)) else (1, st)
set_option maxHeartbeats 1000000 in
theorem c_Point {w : World} {r : Nat} {F : List Nat} {S : List SpV} {op : List Int} {last : Int} (h : RecI w r F S op last) (id t : Int) (re : ResV) :
    CallR Try.prog 27 [.pointer (some ⟨r, 0, none⟩), .int .i64 id, .int .i64 t, .agg (resA re)] w fun v w' =>
      v = .int .i64 (pPoint (S, op, last) id t re).1 ∧ ∃ F', RecI w' r F' (pPoint (S, op, last) id t re).2.1 (pPoint (S, op, last) id t re).2.2.1 (pPoint (S, op, last) id t re).2.2.2 ∧ Upd F F' w w' := by
  apply F27_ok
  simp -implicitDefEqProofs only [F27, effv_box, cells_agg]
  have hc1 : Chg [] w (w.alloc (.cells (resA re) 53)) := (Chg.refl _ _).alloc _
  have hop1 : hp (w.alloc (.cells (resA re) 53)) w.heap.size = some (.cells (resA re) 53) := by rw [alloc_heap, if_pos rfl]
  have hR := h.keep hc1 (Dis.nil _)
  have hlt := h.lt
  generalize w.alloc (.cells (resA re) 53) = w1 at *
  have same : ∀ w', Chg F w1 w' → Upd F F w w' := fun w' hc => Upd.pre hc1 ⟨hc, fun k hk => .inl hk⟩
  by_cases k1 : spanOk S id
  rotate_left
  · refine (c_rspan_no hR k1).step ?_
    have bad : pPoint (S, op, last) id t re = (1, (S, op, last)) := if_neg fun h => k1 h.1
    simp -implicitDefEqProofs only [be_eqlp Try.underlying122, Option.isNone_none, wpB_some', gd_tf, gv_tf, gd_ut, gv_ut, gd_uf, gv_uf, gE_tf, gE_uf, pickv_true, cnd_true, bad]
    exact ⟨trivial, F, hR, same _ (Chg.refl _ _)⟩
  obtain ⟨lv, ov, h1, h2, h3, hF⟩ := hR.ex
  obtain ⟨g, c, e, hg, q1, q2, q3⟩ := hR.at h1 (id := id) k1.1 k1.2.1
  refine (c_rspan_yes hR h1 k1 hg).step ?_
  by_cases k2 : 0 ≤ (spAt S id).pt
  · have bad : pPoint (S, op, last) id t re = (1, (S, op, last)) := if_neg fun h => by have := h.2.1; simp only at this; omega
    simp -implicitDefEqProofs only [be_eqlp Try.underlying122, Option.isNone_some, wpB_some', gd_false, gv_false, nilv_some, fa_58_4, ld_3, q2 9 (by omega), sp9, bp_geq, k2, decide_true, pickv_false, gd_tf, gv_tf, gd_ut, gv_ut, gd_uf, gv_uf, gE_tf, gE_uf, pickv_true, cnd_true, bad]
    exact ⟨trivial, F, hR, same _ (Chg.refl _ _)⟩
  simp -implicitDefEqProofs only [be_eqlp Try.underlying122, Option.isNone_some, wpB_some', gd_false, gv_false, nilv_some, fa_58_4, ld_3, q2 9 (by omega), sp9, bp_geq, k2, decide_false, pickv_false, gE_false]
  refine (c_rstep h1).mono ?_
  rintro v w2 ⟨rfl, hw2⟩
  by_cases k4 : last ≤ t
  rotate_left
  · have bad : pPoint (S, op, last) id t re = (1, (S, op, last)) := if_neg fun h => k4 h.2.2
    rw [if_neg k4] at hw2
    subst hw2
    simp -implicitDefEqProofs only [k4, decide_false, pr_not, Bool.not_false, gd_false, gv_false, wpB_some', pickv_false, cnd_true, bad]
    exact ⟨trivial, F, hR, same _ (Chg.refl _ _)⟩
  rw [if_pos k4] at hw2
  obtain ⟨hR2, hc2⟩ := hR.step _ _ t h1
  rw [← hw2] at hR2 hc2
  have h2r : hp w2 r = some (.cells #[lv, ov, .int .i64 t] 121) := by rw [hw2]; exact put_same (blk_lt h1) _ _
  have hop2 : hp w2 w.heap.size = some (.cells (resA re) 53) := by
    rw [hw2, put_other (fun e => by have := hlt r (by rw [hF]; simp); omega)]; exact hop1
  clear hw2
  have good : pPoint (S, op, last) id t re = (0, (S.set id.toNat { spAt S id with pt := t, re := re }, op, t)) := if_pos ⟨k1, by simp only; omega, k4⟩
  rw [good]
  have hR2' := ownsRow_drew (hR2.rows h2r).2.1
  have hRd : RecI w2.drew r F S op t := hR2.keep (Chg.refl [] w2).drew (Dis.nil _)
  obtain ⟨W1, W2, W3, W4, W5⟩ := hRd.write (w := w2.drew) h2r k1.1 k1.2.1 hg { spAt S id with pt := t } 9 [.int .i64 t] (by show 9 + 1 ≤ 20; omega) rfl
  have hgop : g ≠ w.heap.size := fun e => by have := hlt g (by rw [hF]; simp [hg]); omega
  have e0 : setL (getC (hp w2.drew g)) (id.toNat * 20 + 9) [.int .i64 t] = (getC (hp w2.drew g)).setIfInBounds (id.toNat * 20 + 9) (.int .i64 t) := rfl
  rw [e0] at W1 W2 W5
  have h3op : hp (put w2.drew g ((getC (hp w2.drew g)).setIfInBounds (id.toNat * 20 + 9) (.int .i64 t)) (getE (hp w2.drew g))) w.heap.size = some (.cells (resA re) 53) := by
    rw [put_other (Ne.symm hgop)]; exact hop2
  have ld2 : ldv Try.prog 53 (.pointer (some ⟨w.heap.size, 0, none⟩)) w2.drew = some (.agg (resA re)) := ldv_whole ag_53 sz_53 (by rw [hp_drew]; exact hop2)
  have ld3 := ldv_whole (t := 53) (c := resA re) ag_53 sz_53 h3op
  have h3r := W5.trans (show hp w2.drew r = _ from h2r)
  simp -implicitDefEqProofs only [k4, decide_true, pr_not, Bool.not_true, gd_false, gv_false, wpB_some', pickv_false, cnd_false, nilv_some, fa_58_4, fa_58_7, st_3 (w := w2.drew) (v := .int .i64 t) rfl rfl W3, ld2, ld3]
  have c13 : Chg F w (put w2.drew g ((getC (hp w2.drew g)).setIfInBounds (id.toNat * 20 + 9) (.int .i64 t)) (getE (hp w2.drew g))) := ((hc1.mono (by simp)).trans (hc2.drew)).trans W2
  generalize put w2.drew g ((getC (hp w2.drew g)).setIfInBounds (id.toNat * 20 + 9) (.int .i64 t)) (getE (hp w2.drew g)) = w3 at *
  have hlen : (S.length : Int) = (S.set id.toNat { spAt S id with pt := t }).length := by rw [List.length_set]
  have hi : id.toNat < S.length := by have := k1.1; have := k1.2.1; omega
  have hsp : spAt (S.set id.toNat { spAt S id with pt := t }) id = { spAt S id with pt := t } := by
    unfold spAt; simp [List.getD_eq_getElem?_getD, hi]
  obtain ⟨X1, X2, X3, X4, X5⟩ := W1.write h3r k1.1 (by rw [← hlen]; exact k1.2.1) hg { spAt S id with pt := t, re := re } 12 (resC re) (by show 12 + 8 ≤ 20; omega) (by rw [hsp]; rfl)
  rw [List.set_set] at X1
  have hst : ∀ L, effu Try.prog (Instr.storeAt 53 (.pointer (some ⟨g, id.toNat * 20 + 12, none⟩)) (.agg (resA re))) w3 L = L (put w3 g (setL (getC (hp w3 g)) (id.toNat * 20 + 12) (resC re)) (getE (hp w3 g))) := fun L => effu_store (v := .agg (resA re)) sz_53 rfl rfl (by decide) X3
  simp -implicitDefEqProofs only [hst]
  have fin : P27_0 (put w3 g (setL (getC (hp w3 g)) (id.toNat * 20 + 12) (resC re)) (getE (hp w3 g))) fun v w' => v = .int .i64 0 ∧ ∃ F', RecI w' r F' (S.set id.toNat { spAt S id with pt := t, re := re }) op t ∧ Upd F F' w w' := by
    apply L27_0_ok
    exact ⟨rfl, F, X1, c13.trans X2, fun k hk => .inl hk⟩
  exact ⟨fin, fin⟩
end Go.Proofs.Ytgamnncehjcdiaa
