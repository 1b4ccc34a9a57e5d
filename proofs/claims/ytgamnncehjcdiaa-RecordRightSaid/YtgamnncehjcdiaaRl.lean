/- The record: Begin. -/
import Derived.Test.YtgamnncehjcdiaaRk
namespace Go.Proofs.Ytgamnncehjcdiaa
open Go Ev Go.RowKit
set_option linter.unusedSimpArgs false
set_option linter.unusedVariables false
set_option maxRecDepth 10000

theorem a3_0 {a b c : Value} : (#[a, b, c] : Array Value)[0 + 0]? = some a := (rfl)
theorem a3_1 {a b c : Value} : (#[a, b, c] : Array Value)[0 + 1]? = some b := (rfl)
theorem a3_2 {a b c : Value} : (#[a, b, c] : Array Value)[0 + 2]? = some c := (rfl)
abbrev RecS := List SpV × List Int × Int
def resO : ResV := (0, (0, 0, 0, 0, 0), 0, 0)
def pBegin (st : RecS) (wk ix : Int) (o : OpV) (t : Int) : (Int × Int) × RecS :=
  if wk < 0 ∨ (st.2.1.length : Int) ≤ wk ∨ 0 ≤ st.2.1.getD wk.toNat 0 ∨ t < st.2.2 then ((0, 1), st)
  else (((st.1.length : Int), 0), (st.1 ++ [⟨wk, ix, o, t, -1, -1, -1, resO⟩], st.2.1.set wk.toNat st.1.length, t))
theorem spC_one (s : SpV) : ∀ u ∈ spC s, u.oneCell' = true := fun u hu => List.all_eq_true.1 (show (spC s).all (·.oneCell') = true from rfl) u hu
theorem RecI.rows {w : World} {r : Nat} {F : List Nat} {S : List SpV} {op : List Int} {last t : Int} (h : RecI w r F S op last) {lv ov : Value} (h1 : hp w r = some (.cells #[lv, ov, .int .i64 t] 121)) :
    t = last ∧ w.ownsRow 0 58 20 lv S.length (S.flatMap spC) ∧ w.ownsRow 0 3 1 ov op.length (ints op) ∧ F = r :: (blk lv ++ blk ov) ∧ (∀ k, lv.ownBlock = some k → k ≠ r ∧ ov.ownBlock ≠ some k) ∧ (∀ k, ov.ownBlock = some k → k ≠ r ∧ lv.ownBlock ≠ some k) := by
  obtain ⟨lv', ov', h1', h2, h3, rfl⟩ := h.ex
  rw [h1] at h1'
  obtain ⟨rfl, rfl, rfl⟩ : lv = lv' ∧ ov = ov' ∧ t = last := by injection h1' with h1'; injection h1' with h1'; injection h1' with h1'; simp at h1'; exact h1'
  refine ⟨rfl, h2, h3, rfl, fun k hk => ⟨fun e => ?_, fun e => ?_⟩, fun k hk => ⟨fun e => ?_, fun e => ?_⟩⟩
  · subst e
    obtain ⟨c, hc⟩ := own_hp h2 hk
    rw [h1] at hc; simp at hc
  · obtain ⟨c, hc⟩ := own_hp h2 hk
    obtain ⟨d, hd⟩ := own_hp h3 e
    rw [hc] at hd; simp at hd
  · subst e
    obtain ⟨c, hc⟩ := own_hp h3 hk
    rw [h1] at hc; simp at hc
  · obtain ⟨c, hc⟩ := own_hp h3 hk
    obtain ⟨d, hd⟩ := own_hp h2 e
    rw [hc] at hd; simp at hd
theorem ints_put (xs : List Int) (i : Nat) (x : Int) (hi : i < xs.length) : (ints xs).take (i * 1) ++ [.int .i64 x] ++ (ints xs).drop (i * 1 + [Value.int .i64 x].length) = ints (xs.set i x) := by
  have hi' : i < (ints xs).length := by simpa using hi
  rw [Nat.mul_one, List.length_singleton, set_eq _ _ _ hi', flat_set1]
theorem RecI.step {w : World} {r : Nat} {F : List Nat} {S : List SpV} {op : List Int} {last : Int} (h : RecI w r F S op last) (lv ov : Value) (t : Int) (h1 : hp w r = some (.cells #[lv, ov, .int .i64 last] 121)) :
    RecI (put w r #[lv, ov, .int .i64 t] 121) r F S op t ∧ Chg F w (put w r #[lv, ov, .int .i64 t] 121) := by
  obtain ⟨lv', ov', h1', h2, h3, rfl⟩ := h.ex
  rw [h1] at h1'
  obtain ⟨rfl, rfl⟩ : lv = lv' ∧ ov = ov' := by injection h1' with h1'; injection h1' with h1'; injection h1' with h1'; simp at h1'; exact h1'
  have hc : Chg [r] w (put w r #[lv, ov, .int .i64 t] 121) := (Chg.refl _ _).put (.inl (by simp)) _ _
  refine ⟨⟨lv, ov, put_same (blk_lt h1) _ _, ownsRow_chg h2 hc fun k hk hm => ?_, ownsRow_chg h3 hc fun k hk hm => ?_, rfl⟩, (Chg.refl _ _).put (.inl (by simp)) _ _⟩
  · simp at hm; subst hm
    obtain ⟨c, hc⟩ := own_hp h2 hk
    rw [h1] at hc; simp at hc
  · simp at hm; subst hm
    obtain ⟨c, hc⟩ := own_hp h3 hk
    rw [h1] at hc; simp at hc
set_option maxHeartbeats 1000000 in
theorem c_Begin {w : World} {r : Nat} {F : List Nat} {S : List SpV} {op : List Int} {last : Int} (h : RecI w r F S op last) (hS : S.length ≤ 1000) (ho : op.length ≤ 1000) (wk ix : Int) (o : OpV) (t : Int) :
    CallR Try.prog 26 [.pointer (some ⟨r, 0, none⟩), .int .i64 wk, .int .i64 ix, .agg (opC o).toArray, .int .i64 t] w fun v w' =>
      v = .tuple #[.int .i64 (pBegin (S, op, last) wk ix o t).1.1, .int .i64 (pBegin (S, op, last) wk ix o t).1.2] ∧ ∃ F', RecI w' r F' (pBegin (S, op, last) wk ix o t).2.1 (pBegin (S, op, last) wk ix o t).2.2.1 (pBegin (S, op, last) wk ix o t).2.2.2 ∧ Upd F F' w w' := by
  apply F26_ok
  simp -implicitDefEqProofs only [F26, effv_box, cells_agg]
  have hc1 : Chg [] w (w.alloc (.cells (opC o).toArray 40)) := (Chg.refl _ _).alloc _
  have hop1 : hp (w.alloc (.cells (opC o).toArray 40)) w.heap.size = some (.cells (opC o).toArray 40) := by rw [alloc_heap, if_pos rfl]
  have hR := h.keep hc1 (Dis.nil _)
  have hlt := h.lt
  generalize w.alloc (.cells (opC o).toArray 40) = w1 at *
  obtain ⟨lv, ov, h1, h2, h3, hF⟩ := hR.ex
  obtain ⟨B, cB, rfl, hB, _, _⟩ := rdV_of_own h3
  obtain ⟨A, cA, rfl, hA, _, _⟩ := rdV_of_own h2
  have same : ∀ w', Chg F w1 w' → RecI w' r F S op last → Upd F F w w' := fun w' hc hR => Upd.pre hc1 ⟨hc, fun k hk => .inl hk⟩
  have bad : (wk < 0 ∨ (op.length : Int) ≤ wk ∨ 0 ≤ op.getD wk.toNat 0 ∨ t < last) → pBegin (S, op, last) wk ix o t = ((0, 1), (S, op, last)) := fun h => if_pos h
  by_cases k1 : wk < 0
  · simp -implicitDefEqProofs only [bp_lss, k1, decide_true, wpB_some', gd_tf, gv_tf, gd_ut, gv_ut, gd_uf, gv_uf, gE_tf, gE_uf, pickv_true, cnd_true, bad (.inl k1)]
    exact ⟨trivial, F, hR, same _ (Chg.refl _ _) hR⟩
  by_cases k2 : (op.length : Int) ≤ wk
  · simp -implicitDefEqProofs only [bp_lss, k1, decide_true, decide_false, wpB_some', gd_false, gv_false, nilv_some, fa_121_1, ld_23, h1, ldC_some, a3_1, len_23, bp_geq, k2, pickv_false, gd_tf, gv_tf, gd_ut, gv_ut, gd_uf, gv_uf, gE_tf, gE_uf, pickv_true, cnd_true, bad (.inr (.inl k2))]
    exact ⟨trivial, F, hR, same _ (Chg.refl _ _) hR⟩
  have hwk : wk.toNat < op.length := by omega
  obtain ⟨g, cg, he, hg0, q1, q2, q3, q4⟩ := own_elem (P := Try.prog) (i := wk) (j := .i64) h3 Try.underlying23 sz_3 (by omega) (by omega)
  have q2 := q2 0 (by omega)
  have hop : (ints op)[wk.toNat * 1 + 0]? = some (.int .i64 (op.getD wk.toNat 0)) := by simp [ints, List.getD_eq_getElem?_getD, hwk]
  rw [hop, Nat.add_zero] at q2
  by_cases k3 : 0 ≤ op.getD wk.toNat 0
  · simp -implicitDefEqProofs only [bp_lss, k1, decide_true, decide_false, wpB_some', gd_false, gv_false, nilv_some, fa_121_1, ld_23, ld_3, h1, ldC_some, a3_1, len_23, bp_geq, k2, k3, q1, q2, pickv_false, gd_tf, gv_tf, gd_ut, gv_ut, gd_uf, gv_uf, gE_tf, gE_uf, pickv_true, cnd_true, bad (.inr (.inr (.inl k3)))]
    exact ⟨trivial, F, hR, same _ (Chg.refl _ _) hR⟩
  simp -implicitDefEqProofs only [bp_lss, k1, decide_true, decide_false, wpB_some', gd_false, gv_false, gE_false, nilv_some, fa_121_1, ld_23, ld_3, h1, ldC_some, a3_1, len_23, bp_geq, k2, k3, q1, q2, pickv_false]
  refine (c_rstep h1).mono ?_
  rintro v w2 ⟨rfl, hw2⟩
  by_cases k4 : t < last
  · have k4' : ¬ last ≤ t := by omega
    rw [if_neg k4'] at hw2
    subst hw2
    simp -implicitDefEqProofs only [k4', decide_false, pr_not, Bool.not_false, gd_false, gv_false, wpB_some', pickv_false, cnd_true, bad (.inr (.inr (.inr k4)))]
    exact ⟨trivial, F, hR, same _ (Chg.refl _ _) hR⟩
  have k4' : last ≤ t := by omega
  rw [if_pos k4'] at hw2
  obtain ⟨hR2, hc2⟩ := hR.step _ _ t h1
  rw [← hw2] at hR2 hc2
  have h2r : hp w2 r = some (.cells #[.slice A S.length cA, .slice B op.length cB, .int .i64 t] 121) := by rw [hw2]; exact put_same (blk_lt h1) _ _
  have hop2 : hp w2 w.heap.size = some (.cells (opC o).toArray 40) := by
    rw [hw2, put_other (fun e => by have := hlt r (by rw [hF]; simp); omega)]; exact hop1
  clear hw2 hB hA h2 h3 he hg0 q1 q3 q4
  clear q2
  clear q2
  clear g cg
  obtain ⟨_, o2, o3, _, n2, n3⟩ := hR2.rows h2r
  obtain ⟨g, cg, he, hg0, q1, q2, q3, q4⟩ := own_elem (P := Try.prog) (i := wk) (j := .i64) o3 Try.underlying23 sz_3 (by omega) (by omega)
  obtain ⟨p1, p2⟩ := ownsRow_put (vs := [.int .i64 S.length]) o3 hg0 (o := wk.toNat * 1) (by simp; omega)
  rw [ints_put op _ _ hwk] at p1
  have e0 : setL (getC (hp w2 g)) (wk.toNat * 1) [.int .i64 S.length] = (getC (hp w2 g)).setIfInBounds (wk.toNat * 1) (.int .i64 S.length) := rfl
  rw [e0] at p1
  have hcp : Chg [g] w2 (put w2 g ((getC (hp w2 g)).setIfInBounds (wk.toNat * 1) (.int .i64 S.length)) (getE (hp w2 g))) := (Chg.refl _ _).put (.inl (by simp)) _ _
  have gr := (n3 g hg0).1
  have gop : w.heap.size ≠ g := fun e => by
    obtain ⟨c, hc⟩ := own_hp o3 hg0
    rw [← e, hop2] at hc; simp at hc
  have rop : w.heap.size ≠ r := fun e => by rw [← e, hop2] at h2r; simp at h2r
  have h3r := hcp.at h2r (by simp; omega)
  have h3op := hcp.at hop2 (by simpa using gop)
  have o2' := ownsRow_chg o2 hcp fun k hk hm => by simp at hm; subst hm; exact (n3 _ hg0).2 hk
  have hFg : g ∈ F := by rw [hF]; simp [hg0]
  have hFr : r ∈ F := by rw [hF]; simp
  simp -implicitDefEqProofs only [k4', decide_true, pr_not, Bool.not_true, gd_false, gv_false, wpB_some', pickv_false, cnd_false, nilv_some, fa_121_0, fa_121_1, ld_54, ld_23, h2r, ldC_some, a3_0, a3_1, len_54, q1, st_3 (v := .int .i64 S.length) rfl rfl p2]
  generalize put w2 g ((getC (hp w2 g)).setIfInBounds (wk.toNat * 1) (.int .i64 S.length)) (getE (hp w2 g)) = w3 at *
  have hld : ldv Try.prog 40 (.pointer (some ⟨w.heap.size, 0, none⟩)) w3.drew = some (.agg (opC o).toArray) := ldv_whole ag_40 sz_40 (by rw [hp_drew]; exact h3op)
  have hbd : pureRun Try.prog (Instr.build 58 #[(0, .int .i64 wk), (1, .int .i64 ix), (2, .agg (opC o).toArray), (3, .int .i64 t), (4, .int .i64 (-1)), (5, .int .i64 (-1)), (6, .int .i64 (-1))]) = some (.agg (spA ⟨wk, ix, o, t, -1, -1, -1, resO⟩)) := bd_58_0_1_2_3_4_5_6
  simp -implicitDefEqProofs only [hp_drew, h3r, ldC_some, a3_0, wpB_some', hld, hbd]
  refine ps_54 (base := 0) (w := w3.drew) (spC_one ⟨wk, ix, o, t, -1, -1, -1, resO⟩) (ownsRow_drew o2') (by omega) (Nat.zero_le _) fun x' w4 hx hg hnb => ?_
  have hx1 : x'.oneCell' = true ∧ x'.cells = #[x'] := by obtain ⟨A', c', rfl, _⟩ := rdV_of_own hx; exact ⟨rfl, rfl⟩
  have hcg : Chg (blk (.slice A S.length cA)) w3 w4 := (Chg.refl _ _).drew.grown hg fun k hk => .inl (mem_blk.2 hk)
  have h4r := hcg.at h3r fun hm => (n2 _ (mem_blk.1 hm)).1 rfl
  have o4 := ownsRow_chg p1 hcg fun k hk hm => (n3 k hk).2 (mem_blk.1 hm)
  have hblt := blk_lt h4r
  have ok : okC (hp w4 r) (0 + 0 + 1) = true := by rw [h4r]; rfl
  have eqP : pBegin (S, op, last) wk ix o t = (((S.length : Int), 0), (S ++ [⟨wk, ix, o, t, -1, -1, -1, resO⟩], op.set wk.toNat S.length, t)) := if_neg (by simp only [not_or]; omega)
  simp -implicitDefEqProofs only [nilv_some, wpB_some', fa_121_0, st_54 (v := x') hx1.2 hx1.1 ok, h4r, getC_some, getE_some, eqP]
  refine ⟨trivial, r :: (blk x' ++ blk (.slice B op.length cB)), ⟨x', .slice B op.length cB, put_same hblt _ _, ?_, ?_, rfl⟩, ?_, fun k hk => ?_⟩
  · have hx5 := ownsRow_chg hx ((Chg.refl [r] w4).put (b := r) (.inl (by simp)) (#[.slice A S.length cA, .slice B op.length cB, .int .i64 t].setIfInBounds (0 + 0) x') 121) fun k hk hm => by
      simp at hm; subst hm
      obtain ⟨c, hc⟩ := own_hp hx hk
      rw [h4r] at hc; simp at hc
    rw [List.length_append, flat_snoc]
    exact hx5
  · have ho5 := ownsRow_chg o4 ((Chg.refl [r] w4).put (b := r) (.inl (by simp)) (#[.slice A S.length cA, .slice B op.length cB, .int .i64 t].setIfInBounds (0 + 0) x') 121) fun k hk hm => by
      simp at hm; subst hm
      exact (n3 _ hk).1 rfl
    rw [List.length_set]; exact ho5
  · have c13 : Chg F w w3 := ((hc1.mono (by simp)).trans hc2).trans (hcp.mono fun k hk _ => by simp at hk; subst hk; exact hFg)
    have c14 : Chg F w w4 := c13.trans (hcg.mono fun k hk _ => by rw [hF]; exact List.mem_cons_of_mem _ (List.mem_append_left _ hk))
    exact c14.put (.inl hFr) _ _
  · have hs : w.heap.size ≤ w3.heap.size := Nat.le_trans hc1.size (Nat.le_trans hc2.size hcp.size)
    rw [hF]
    simp only [List.mem_cons, List.mem_append, mem_blk] at hk ⊢
    rcases hk with hk | hk | hk
    · exact .inl (.inl hk)
    · rcases hnb k hk with h | h
      · exact .inl (.inr (.inl h))
      · exact .inr (Nat.le_trans hs h)
    · exact .inl (.inr (.inr hk))
end Go.Proofs.Ytgamnncehjcdiaa
