/- Parts of the proof of ModelWords, one behind the other. Conditions: none. -/
import Derived.Test.YtgamnncehjcdiaaZModelWords10
namespace Go.Proofs.Ytgamnncehjcdiaa
open Go Ev Go.RowKit
set_option linter.unusedSimpArgs false
set_option linter.unusedVariables false
set_option maxRecDepth 10000

theorem chg_ld {w w' : World} (hc : Chg [] w w') {b o : Nat} {v : Value} (h : ldC (hp w b) o = some v) : ldC (hp w' b) o = some v := by
  have : hp w' b = hp w b := hc.block b (by
    rcases Nat.lt_or_ge b w.heap.size with h1 | h1
    · exact h1
    · have h2 : hp w b = none := by simp [hp]; omega
      rw [h2] at h; cases h) (by simp)
  rw [this]; exact h
theorem MdI.word {w : World} {g : Nat} {m : MdV} {F : Fp} (I : MdI w g m F) {i : Nat} {r : RgV} (hi : m.rgs[i]? = some r) {k : Nat} {L : List Int} (hL : r.words[k]? = some L) {j : Nat} {x : Int} (hj : L[j]? = some x) :
    ∃ b c bw cw g2 c2, ldC (hp w g) (0 + 8) = some (.slice (some ⟨b, 0, none⟩) m.rgs.length c) ∧ ldC (hp w b) (i * 7 + 5) = some (.slice (some ⟨bw, 0, none⟩) r.words.length cw) ∧ ldC (hp w bw) k = some (.slice (some ⟨g2, 0, none⟩) L.length c2) ∧ ldC (hp w g2) j = some (.int .u64 x) ∧
      ∀ y, okC (hp w g2) (j + 1) = true ∧ ∃ F', MdI (put w g2 ((getC (hp w g2)).setIfInBounds j (.int .u64 y)) (getE (hp w g2))) g { m with rgs := m.rgs.set i { r with words := r.words.set k (L.set j y) } } F' ∧ UpdP F F' w (put w g2 ((getC (hp w g2)).setIfInBounds j (.int .u64 y)) (getE (hp w g2))) := by
  obtain ⟨b, c, v, Fk, hl, hnb, hsub, hFb, _, hld, hP, hres, _⟩ := I.rgCell hi (k := 5) (P := wordsT r.words) (by omega) rfl
  have hPw : (r.words.map wordT)[k]? = some (wordT L) := by rw [List.getElem?_map, hL]; rfl
  obtain ⟨bw, cw, v2, Fk2, hx2, _, _, _, hld2, hP2, hres2, _⟩ := isRow.cell hP (fun P hP => by obtain ⟨l, _, rfl⟩ := List.mem_map.1 hP; exact good_word l) hPw
  have hPu : ((u64s L).map isV)[j]? = some (isV (.int .u64 x)) := by rw [u64s, List.map_map, List.getElem?_map, hj]; rfl
  obtain ⟨g2, c2, v3, Fk3, hx3, _, _, _, hld3, hv3, _, hst⟩ := isRow.cell hP2 (good_ints (u64s_int L)) hPu
  refine ⟨b, c, bw, cw, g2, c2, hl, by rw [← hx2]; exact hld, by rw [← hx3]; exact hld2, by rw [hld3, hv3.1], fun y => ?_⟩
  obtain ⟨ok, F1, hrow, hupd⟩ := hst w none' (isV (.int .u64 y)) (.int .u64 y) (UpdP.none hv3.2 w) (good_int _ _) ⟨rfl, fun _ h => h⟩
  have hset : ((u64s L).map isV).set j (isV (.int .u64 y)) = (u64s (L.set j y)).map isV := by simp [u64s, List.map_set]
  rw [hset] at hrow
  have hrow' : wordT (L.set j y) (put w g2 ((getC (hp w g2)).setIfInBounds j (.int .u64 y)) (getE (hp w g2))) F1 v2 := by rw [wordT, List.length_set]; exact hrow
  obtain ⟨F2, hrow2, hupd2⟩ := hres2 _ F1 (wordT (L.set j y)) hupd hrow'
  rw [← List.map_set] at hrow2
  have hrow2' : wordsT (r.words.set k (L.set j y)) (put w g2 ((getC (hp w g2)).setIfInBounds j (.int .u64 y)) (getE (hp w g2))) F2 v := by rw [wordsT, List.length_set]; exact hrow2
  obtain ⟨F3, h1, h2⟩ := hres _ F2 (wordsT (r.words.set k (L.set j y))) { r with words := r.words.set k (L.set j y) } hupd2 hrow2' rfl
  exact ⟨ok, F3, h1, h2⟩
/-- a word of an object that is known: its region, its chunk, its place there -/
structure ObjAt (m : MdV) (h : HnV) (n : Int) (i : Nat) (r : RgV) (k : Nat) (L : List Int) (j : Nat) : Prop where
  fi : findR m.rgs (nmOf h) = some i
  ri : m.rgs[i]? = some r
  ix : ixOf r.chunks h.2.2.1 = k
  wk : r.words[k]? = some L
  wl : (L.length : Int) = m.c.2.2.1
  jn : h.2.2.2.1 + n = j
  jl : j < L.length
theorem obj_at {m : MdV} {K : Nat} (W : Wf m K) {h : HnV} {n : Int} (hk : knownV m h 2 = true) (n0 : 0 ≤ n) (n1 : n < h.2.2.2.2) : ∃ i r k L j, ObjAt m h n i r k L j := by
  unfold knownV at hk
  split at hk
  · cases hk
  · rename_i i hf
    rw [if_neg (by omega)] at hk
    obtain ⟨r, hr, _⟩ := findR_at hf
    simp only [hr, Bool.and_eq_true, decide_eq_true_eq] at hk
    have R := W.rg r (List.mem_of_getElem? hr)
    obtain ⟨o1, o2, o3, o4⟩ := R.ob h hk.2
    obtain ⟨k, k1, k2⟩ := ixOf_at o1
    have hkl := (List.getElem?_eq_some_iff.1 k2).1
    obtain ⟨L, hL⟩ : ∃ L, r.words[k]? = some L := ⟨_, List.getElem?_eq_getElem (by rw [R.wl]; exact hkl)⟩
    have hl := R.ww L (List.mem_of_getElem? hL)
    exact ⟨i, r, k, L, (h.2.2.2.1 + n).toNat, hf, hr, k1, hL, hl, by omega, by omega⟩
theorem ObjAt.val {m : MdV} {h : HnV} {n : Int} {i : Nat} {r : RgV} {k : Nat} {L : List Int} {j : Nat} (O : ObjAt m h n i r k L j) : L[j]? = some (wordV m h n) := by
  have e : rgOf m (nmOf h) = some r := by rw [rgOf, O.fi]; exact O.ri
  have e2 : chunkW r h.2.2.1 = L := by rw [chunkW, O.ix, Int.toNat_natCast, List.getD_eq_getElem?_getD, O.wk]; rfl
  rw [wordV, e]
  simp only
  rw [e2, O.jn, Int.toNat_natCast, List.getD_eq_getElem?_getD, List.getElem?_eq_getElem O.jl]
  rfl
theorem ObjAt.put {m : MdV} {h : HnV} {n : Int} {i : Nat} {r : RgV} {k : Nat} {L : List Int} {j : Nat} (O : ObjAt m h n i r k L j) (y : Int) : setWordV m h n y = { m with rgs := m.rgs.set i { r with words := r.words.set k (L.set j y) } } := by
  have e2 : chunkW r h.2.2.1 = L := by rw [chunkW, O.ix, Int.toNat_natCast, List.getD_eq_getElem?_getD, O.wk]; rfl
  simp only [setWordV, O.fi, O.ri, setW, e2, O.ix, O.jn, Int.toNat_natCast]
/-- a word stands there -/
structure WordAt (w : World) (g : Nat) (m : MdV) (F : Fp) (h : HnV) (n : Int) (g2 j : Nat) : Prop where
  ld : ldC (hp w g2) j = some (.int .u64 (wordV m h n))
  ok : okC (hp w g2) (j + 1) = true
  st : ∀ y, ∃ F', MdI (put w g2 ((getC (hp w g2)).setIfInBounds j (.int .u64 y)) (getE (hp w g2))) g (setWordV m h n y) F' ∧ UpdP F F' w (put w g2 ((getC (hp w g2)).setIfInBounds j (.int .u64 y)) (getE (hp w g2)))
set_option maxHeartbeats 1000000 in
theorem c_mWord {w : World} {g : Nat} {m : MdV} {F : Fp} {K : Nat} (I : MdI w g m F) (W : Wf m K) (hK : K ≤ 1000000) {h : HnV} {n : Int} (hk : knownV m h 2 = true) (n0 : 0 ≤ n) (n1 : n < h.2.2.2.2) :
    CallR Try.prog 82 [.pointer (some ⟨g, 0, none⟩), .agg (hnC h).toArray, .int .i64 n] w fun v w' => ∃ g2 j, v = .pointer (some ⟨g2, j, none⟩) ∧ Chg [] w w' ∧ ∀ w'', Chg [] w w'' → WordAt w'' g m F h n g2 j := by
  apply F82_ok
  obtain ⟨i, r, k, L, j, O⟩ := obj_at W hk n0 n1
  obtain ⟨b, c, bw, cw, g2, c2, p1, p2, p3, p4, _⟩ := I.word O.ri O.wk O.val
  have all : ∀ w'', Chg [] w w'' → WordAt w'' g m F h n g2 j := fun w'' hc => by
    obtain ⟨b', c', bw', cw', g2', c2', q1, q2, q3, q4, q5⟩ := (I.keep hc).word O.ri O.wk O.val
    rw [chg_ld hc p1] at q1; cases q1
    rw [chg_ld hc p2] at q2; cases q2
    rw [chg_ld hc p3] at q3; cases q3
    exact ⟨q4, (q5 0).1, fun y => by rw [O.put]; exact (q5 y).2⟩
  obtain ⟨s, rv, hh, M⟩ := I.rd
  have hrl := M.rl
  rw [p1] at hrl; cases hrl
  have w1 := W.w1
  have w2 := W.w2
  have hbox : hp (w.alloc (.cells (hnC h).toArray 51)) w.heap.size = some (.cells (hnC h).toArray 51) := by rw [alloc_heap, if_pos rfl]
  have hc0 : Chg [] w (w.alloc (.cells (hnC h).toArray 51)) := (Chg.refl _ _).alloc _
  simp -implicitDefEqProofs only [F82, effv_box, cells_agg]
  generalize w.alloc (.cells (hnC h).toArray 51) = w0 at *
  generalize w.heap.size = gb at *
  have ldh : ∀ w', hp w' gb = some (.cells (hnC h).toArray 51) → ldv Try.prog 51 (.pointer (some ⟨gb, 0, none⟩)) w' = some (.agg (hnC h).toArray) := fun w' hw => ldv_whole (t := 51) (c := (hnC h).toArray) ag_51 (show (Try.prog.info? 51).map (·.size) = some (hnC h).toArray.size from sz_51) hw
  simp -implicitDefEqProofs only [ldh _ hbox, wpB_some']
  refine (c_mNameOf h w0).mono ?_
  rintro _ w1 ⟨rfl, k1⟩
  have c01 := hc0.trans k1
  refine (c_mRegion (M.keep c01) (h.1, h.2.1) (Nat.le_trans W.rl hK)).mono ?_
  rintro v w2 ⟨k2, hv⟩
  have c02 := c01.trans k2
  have hf : findR m.rgs (h.1, h.2.1) = some i := O.fi
  rw [hf] at hv
  rcases hv with ⟨hv, _⟩ | ⟨i', rg, b', c', hi', hrg, hr, rfl⟩
  · cases hv
  cases hi'; cases hr
  have cd : Chg [] w w2.drew := c02.drew
  have b2 := (k1.trans k2).at hbox (by simp)
  have e2 : (hnC h).toArray[0 + 2]? = some (.int .i64 h.2.2.1) := rfl
  have e3 : (hnC h).toArray[0 + 3]? = some (.int .i64 h.2.2.2.1) := rfl
  rw [O.ri] at hrg
  cases hrg
  obtain ⟨G, hG⟩ := (M.keep cd).rT
  obtain ⟨b'', c'', hx, cv, wv, ov, R⟩ := rg_at hG O.ri
  cases hx
  have hwv := R.c5
  rw [chg_ld cd p2] at hwv
  cases hwv
  obtain ⟨A, cc, hcv, hR⟩ := ints_sh R.cT
  have R4 := R.c4
  rw [hcv] at R4
  have R5 := R.c5
  have hlw := (List.getElem?_eq_some_iff.1 O.wk).1
  have iaw := ia_142 (b := bw) (p := 0) (n := r.words.length) (c := cw) (j := .i64) (i := (k : Int)) (by omega) (by omega)
  rw [Int.toNat_natCast, Nat.zero_add, Nat.mul_one] at iaw
  have hjl := O.jl
  have iau := ia_177 (b := g2) (p := 0) (n := L.length) (c := c2) (j := .i64) (i := (j : Int)) (by omega) (by omega)
  rw [Int.toNat_natCast, Nat.zero_add, Nat.mul_one] at iau
  have p3d := chg_ld cd p3
  have hwl := O.wl
  have hcl : r.chunks.length ≤ 1000000 := Nat.le_trans (W.rg r (List.mem_of_getElem? O.ri)).cl hK
  have fin : ∃ g2' j', Value.pointer (some ⟨g2, j, none⟩) = .pointer (some ⟨g2', j', none⟩) ∧ Chg [] w w2.drew ∧ ∀ w'', Chg [] w w'' → WordAt w'' g m F h n g2' j' := ⟨g2, j, rfl, cd, all⟩
  have b2d : hp w2.drew gb = some (.cells (hnC h).toArray 51) := b2
  simp -implicitDefEqProofs only [wpB_some', nilv_some, fa_144_4, fa_144_3, fa_51_2, fa_51_3, ld_142, ld_23, ld_3, ldC_some, R4, R5, b2d, e2, e3, bp_add, O.jn, wrapi (n := (j : Int)) (by omega) (by omega)]
  have ix := c_iIndex (c := cc) hR hcl h.2.2.1
  rw [O.ix] at ix
  repeat' (with_reducible apply And.intro)
  all_goals
    refine ix.step ?_
    simp -implicitDefEqProofs only [wpB_some', iaw, ld_177, ld_142, ld_3, ldC_some, R5, b2d, e3, bp_add, O.jn, wrapi (n := (j : Int)) (by omega) (by omega), p3d, iau]
    exact fin
end Go.Proofs.Ytgamnncehjcdiaa

namespace Go.Proofs.Ytgamnncehjcdiaa
open Go Ev Go.RowKit
set_option linter.unusedSimpArgs false
set_option linter.unusedVariables false
set_option maxRecDepth 10000

section
variable {W w : World} {g g6 g7 g8 g10 k : Nat} {m : MdV} {F : Fp} {K : Nat} {o : OpV} {h : HnV} {d : HdV}
theorem rsC_one (r : RsV) : (rsC r).toArray.toList.all (·.oneCell') = true := rfl
theorem ld_res {r : RsV} {b : Nat} {e : TypeId} (hb : hp w b = some (.cells (rsC r).toArray e)) : ldv Try.prog 53 (.pointer (some ⟨b, 0, none⟩)) w = some (.agg (rsC r).toArray) := ldv_whole (t := 53) (c := (rsC r).toArray) ag_53 (show (Try.prog.info? 53).map (·.size) = some (rsC r).toArray.size from sz_53) hb
theorem st_res {r : RsV} {b : Nat} {c : Array Value} {e : TypeId} (hb : hp w b = some (.cells c e)) (hs : c.size = 8) {L : World → Prop} : effu Try.prog (Instr.storeAt 53 (.pointer (some ⟨b, 0, none⟩)) (.agg (rsC r).toArray)) w L = L (put w b (rsC r).toArray e) := by
  rw [st_53 rfl (rsC_one r) (by rw [hb, okC_some]; exact decide_eq_true (by omega)) (by rw [hb]; exact hs), hb]; rfl
theorem l_must2 (r : RsV) (hc : Chg [] W w) {c8 : Array Value} (h8 : hp w g8 = some (.cells c8 53)) (hs : c8.size = 8) (h10 : hp w g10 = some (.cells (rsC r).toArray 53)) (n8 : W.heap.size ≤ g8) :
    P45_2 (.pointer (some ⟨g8, 0, none⟩)) (.pointer (some ⟨g10, 0, none⟩)) w fun v w' => v = .tuple #[.agg (rsC r).toArray, .bool true] ∧ Chg [] W w' := by
  apply L45_2_ok
  simp -implicitDefEqProofs only [L45_2, ld_res h10, wpB_some']
  rw [st_res h8 hs, ld_res (put_same (blk_lt h8) _ _), wpB_some']
  exact ⟨rfl, hc.put (.inr n8) _ _⟩
set_option maxHeartbeats 1000000 in
theorem l_must1 (hc : Chg [] W w) (I : MdI w g m F) (Wm : Wf m K) (hK : K ≤ 1000000) (h6 : hp w g6 = some (.cells (opC o).toArray 40)) (h7 : hp w g7 = some (.cells (hnC h).toArray 51)) {c8 : Array Value} (h8 : hp w g8 = some (.cells c8 53)) (hs : c8.size = 8) (h10 : hp w g10 = some (.cells (rsC noR).toArray 53))
    (n8 : W.heap.size ≤ g8) (n10 : W.heap.size ≤ g10) (n810 : g8 ≠ g10) (hr : refusesV m d o h = 0) (n0 : 0 ≤ o.2.2.2.1) {t : Bool} (ht : t = decide (o.1 = 6 ∨ o.1 = 8)) :
    P45_1 (.pointer (some ⟨g, 0, none⟩)) (.pointer (some ⟨g6, 0, none⟩)) (.pointer (some ⟨g7, 0, none⟩)) (.pointer (some ⟨g8, 0, none⟩)) (.pointer (some ⟨g10, 0, none⟩)) (.int .i64 o.1) (.bool t) w fun v w' => v = .tuple #[.agg (rsC (mustB m o h)).toArray, .bool true] ∧ Chg [] W w' := by
  apply L45_1_ok
  have ldh : ∀ w', hp w' g7 = some (.cells (hnC h).toArray 51) → ldv Try.prog 51 (.pointer (some ⟨g7, 0, none⟩)) w' = some (.agg (hnC h).toArray) := fun w' hw => ldv_whole (t := 51) (c := (hnC h).toArray) ag_51 (show (Try.prog.info? 51).map (·.size) = some (hnC h).toArray.size from sz_51) hw
  have h6d : hp w.drew g6 = some (.cells (opC o).toArray 40) := h6
  have h7d : hp w.drew g7 = some (.cells (hnC h).toArray 51) := h7
  have cd : Chg [] w w.drew := (Chg.refl _ _).drew
  -- the rest, when the answer's cell is written
  have fin : ∀ (r : RsV) (k : Nat) (v : Value) (w3 : World), Chg [] w w3 → (rsC noR).toArray.setIfInBounds k v = (rsC r).toArray → mustB m o h = r →
      P45_2 (.pointer (some ⟨g8, 0, none⟩)) (.pointer (some ⟨g10, 0, none⟩)) (put w3 g10 ((getC (hp w3 g10)).setIfInBounds k v) (getE (hp w3 g10))) fun v w' => v = .tuple #[.agg (rsC (mustB m o h)).toArray, .bool true] ∧ Chg [] W w' := by
    intro r k v w3 c3 he hm
    have h103 := c3.at h10 (by simp)
    rw [h103, getC_some, getE_some, he, hm]
    exact l_must2 r ((hc.trans c3).put (.inr n10) _ _) (by rw [put_other n810]; exact c3.at h8 (by simp)) hs (put_same (blk_lt h103) _ _) n8
  have ok3 : ∀ (w3 : World) (k : Nat), Chg [] w w3 → k ≤ 8 → okC (hp w3 g10) k = true := fun w3 k c3 hk => by rw [c3.at h10 (by simp), okC_some]; exact decide_eq_true hk
  by_cases k68 : o.1 = 6 ∨ o.1 = 8
  · have ht' : t = true := by rw [ht]; exact decide_eq_true k68
    subst ht'
    obtain ⟨t1, t2⟩ := touch_ok hr (by omega) (by omega)
    simp -implicitDefEqProofs only [L45_1, wpB_some', gd_true, gd_false, gd_tf, gd_ft, gd_ut, gd_uf, gv_true, gv_false, gv_tf, gv_ft, gv_ut, gv_uf, gE_true, gE_false, gE_tf, gE_ft, gE_ut, gE_uf, gU_true, gU_false, gU_tf, gU_ft, pickv_true, pickv_false, cnd_true, cnd_false, decide_true, decide_false, Bool.not_true, Bool.not_false, pr_not, nilv_some, bp_lss, bp_leq, bp_gtr, bp_geq, be_eql, be_neq, bne_self_eq_false, beq_self_eq_true, ldC_some, Option.isNone_none, Option.isNone_some, hp_drew, ldh _ h7, fa_40_3, ld_3, h6, op_3]
    refine (c_mWord I Wm hK t1 n0 t2).mono ?_
    rintro _ w3 ⟨g2, j, rfl, c3, hw⟩
    have A := hw w3 c3
    simp -implicitDefEqProofs only [wpB_some', gd_true, gd_false, gd_tf, gd_ft, gd_ut, gd_uf, gv_true, gv_false, gv_tf, gv_ft, gv_ut, gv_uf, gE_true, gE_false, gE_tf, gE_ft, gE_ut, gE_uf, gU_true, gU_false, gU_tf, gU_ft, pickv_true, pickv_false, cnd_true, cnd_false, decide_true, decide_false, Bool.not_true, Bool.not_false, pr_not, nilv_some, bp_lss, bp_leq, bp_gtr, bp_geq, be_eql, be_neq, bne_self_eq_false, beq_self_eq_true, ldC_some, Option.isNone_none, Option.isNone_some, hp_drew, ld_38, A.ld, fa_53_3]
    rw [st_38 rfl rfl (ok3 _ _ c3 (by omega))]
    exact fin (0, noH, 0, wordV m h o.2.2.2.1) _ _ _ c3 rfl (by rw [mustB, if_pos k68])
  have ht' : t = false := by rw [ht]; exact decide_eq_false k68
  subst ht'
  by_cases k9 : o.1 = 9
  · have q9 : (o.1 == 9) = true := by rw [k9]; rfl
    obtain ⟨t1, t2⟩ := touch_ok hr (by omega) (by omega)
    have three : ∀ w3, Chg [] w w3 → P45_3 (.pointer (some ⟨g8, 0, none⟩)) (.pointer (some ⟨g10, 0, none⟩)) (.bool (wordV m h o.2.2.2.1 == o.2.2.2.2.1)) w3 fun v w' => v = .tuple #[.agg (rsC (mustB m o h)).toArray, .bool true] ∧ Chg [] W w' := by
      intro w3 c3
      apply L45_3_ok
      by_cases hv : wordV m h o.2.2.2.1 = o.2.2.2.2.1
      · have e : (wordV m h o.2.2.2.1 == o.2.2.2.2.1) = true := by rw [hv]; exact beq_self_eq_true _
        simp -implicitDefEqProofs only [L45_3, e, cnd_true, fa_53_2, wpB_some']
        rw [st_3 rfl rfl (ok3 _ _ c3 (by omega))]
        exact fin (0, noH, 1, 0) _ _ _ c3 rfl (by rw [mustB, if_neg k68, if_pos k9, if_pos hv])
      · simp -implicitDefEqProofs only [L45_3, eqf hv, cnd_false]
        have e : mustB m o h = noR := by rw [mustB, if_neg k68, if_pos k9, if_neg hv]; rfl
        rw [e]
        exact l_must2 noR (hc.trans c3) (c3.at h8 (by simp)) hs (c3.at h10 (by simp)) n8
    simp -implicitDefEqProofs only [L45_1, wpB_some', gd_true, gd_false, gd_tf, gd_ft, gd_ut, gd_uf, gv_true, gv_false, gv_tf, gv_ft, gv_ut, gv_uf, gE_true, gE_false, gE_tf, gE_ft, gE_ut, gE_uf, gU_true, gU_false, gU_tf, gU_ft, pickv_true, pickv_false, cnd_true, cnd_false, decide_true, decide_false, Bool.not_true, Bool.not_false, pr_not, nilv_some, bp_lss, bp_leq, bp_gtr, bp_geq, be_eql, be_neq, bne_self_eq_false, beq_self_eq_true, ldC_some, Option.isNone_none, Option.isNone_some, hp_drew, q9, ldh _ h7d, fa_40_3, fa_40_4, ld_3, ld_38, h6d, h6, op_3, op_4]
    have cw := c_mWord (I.keep cd) Wm hK t1 n0 t2
    repeat' (with_reducible apply And.intro)
    all_goals
      refine cw.mono ?_
      rintro _ w3 ⟨g2, j, rfl, c3, hw⟩
      have A := hw w3 c3
      have h63 := (cd.trans c3).at h6 (by simp)
      simp -implicitDefEqProofs only [wpB_some', gd_true, gd_false, gd_tf, gd_ft, gd_ut, gd_uf, gv_true, gv_false, gv_tf, gv_ft, gv_ut, gv_uf, gE_true, gE_false, gE_tf, gE_ft, gE_ut, gE_uf, gU_true, gU_false, gU_tf, gU_ft, pickv_true, pickv_false, cnd_true, cnd_false, decide_true, decide_false, Bool.not_true, Bool.not_false, pr_not, nilv_some, bp_lss, bp_leq, bp_gtr, bp_geq, be_eql, be_neq, bne_self_eq_false, beq_self_eq_true, ldC_some, Option.isNone_none, Option.isNone_some, hp_drew, ld_38, A.ld, h63, op_4]
      exact three w3 (cd.trans c3)
  by_cases k12 : o.1 = 12
  · have q12 : (o.1 == 12) = true := by rw [k12]; rfl
    obtain ⟨i, r, hf, hri, _, _⟩ := region_ok hr (by omega)
    obtain ⟨s, rv, hh, M⟩ := I.rd
    simp -implicitDefEqProofs only [L45_1, wpB_some', gd_true, gd_false, gd_tf, gd_ft, gd_ut, gd_uf, gv_true, gv_false, gv_tf, gv_ft, gv_ut, gv_uf, gE_true, gE_false, gE_tf, gE_ft, gE_ut, gE_uf, gU_true, gU_false, gU_tf, gU_ft, pickv_true, pickv_false, cnd_true, cnd_false, decide_true, decide_false, Bool.not_true, Bool.not_false, pr_not, nilv_some, bp_lss, bp_leq, bp_gtr, bp_geq, be_eql, be_neq, bne_self_eq_false, beq_self_eq_true, ldC_some, Option.isNone_none, Option.isNone_some, hp_drew, eqf k9, q12, ldh _ h7]
    refine (c_mNameOf h w).mono ?_
    rintro _ w1 ⟨rfl, c1⟩
    refine (c_mRegion (M.keep c1) (h.1, h.2.1) (Nat.le_trans Wm.rl hK)).mono ?_
    rintro v w2 ⟨c2, hv⟩
    have c02 := c1.trans c2
    have hf' : findR m.rgs (h.1, h.2.1) = some i := hf
    rw [hf'] at hv
    rcases hv with ⟨hv, _⟩ | ⟨i', rg, b', c', hi', hrg, hr', rfl⟩
    · cases hv
    cases hi'
    rw [hri] at hrg
    cases hrg
    obtain ⟨G, hG⟩ := (M.keep c02).rT
    obtain ⟨b'', c'', hx, cv, wv, ov, R⟩ := rg_at hG hri
    rw [hr'] at hx
    cases hx
    simp -implicitDefEqProofs only [wpB_some', gd_true, gd_false, gd_tf, gd_ft, gd_ut, gd_uf, gv_true, gv_false, gv_tf, gv_ft, gv_ut, gv_uf, gE_true, gE_false, gE_tf, gE_ft, gE_ut, gE_uf, gU_true, gU_false, gU_tf, gU_ft, pickv_true, pickv_false, cnd_true, cnd_false, decide_true, decide_false, Bool.not_true, Bool.not_false, pr_not, nilv_some, bp_lss, bp_leq, bp_gtr, bp_geq, be_eql, be_neq, bne_self_eq_false, beq_self_eq_true, ldC_some, Option.isNone_none, Option.isNone_some, hp_drew, fa_144_2, fa_53_2, ld_3, R.c3]
    rw [st_3 rfl rfl (ok3 _ _ c02 (by omega))]
    exact fin (0, noH, r.off, 0) _ _ _ c02 rfl (by
      rw [mustB, if_neg k68, if_neg k9, if_pos k12, rgOf, hf]
      simp only [Option.bind_some, hri])
  · simp -implicitDefEqProofs only [L45_1, wpB_some', gd_true, gd_false, gd_tf, gd_ft, gd_ut, gd_uf, gv_true, gv_false, gv_tf, gv_ft, gv_ut, gv_uf, gE_true, gE_false, gE_tf, gE_ft, gE_ut, gE_uf, gU_true, gU_false, gU_tf, gU_ft, pickv_true, pickv_false, cnd_true, cnd_false, decide_true, decide_false, Bool.not_true, Bool.not_false, pr_not, nilv_some, bp_lss, bp_leq, bp_gtr, bp_geq, be_eql, be_neq, bne_self_eq_false, beq_self_eq_true, ldC_some, Option.isNone_none, Option.isNone_some, hp_drew, eqf k9, eqf k12]
    have e : mustB m o h = noR := by rw [mustB, if_neg k68, if_neg k9, if_neg k12]
    rw [e]
    exact l_must2 noR hc h8 hs h10 n8
set_option maxHeartbeats 1000000 in
theorem c_mMust {w : World} {g : Nat} {m : MdV} {F : Fp} {K : Nat} (I : MdI w g m F) (Wm : Wf m K) (hK : K ≤ 1000000) (n : Int) (o : OpV) (h : HnV) :
    CallR Try.prog 45 [.pointer (some ⟨g, 0, none⟩), .int .i64 n, .agg (opC o).toArray, .agg (hnC h).toArray] w fun v w' => v = .tuple #[.agg (rsC (mustV m n o h).1).toArray, .bool (mustV m n o h).2] ∧ Chg [] w w' := by
  apply F45_ok
  obtain ⟨s, rv, hh, M⟩ := I.rd
  simp -implicitDefEqProofs only [F45, effv_box, cells_agg, al_53, alloc_size]
  generalize hw : ((w.alloc (.cells (opC o).toArray 40)).alloc _).alloc _ = w1
  have c1 : Chg [] w w1 := by rw [← hw]; exact (((Chg.refl _ _).alloc _).alloc _).alloc _
  have b6 : hp w1 w.heap.size = some (.cells (opC o).toArray 40) := by rw [← hw, alloc_heap, alloc_size, alloc_size, if_neg (by omega), alloc_heap, alloc_size, if_neg (by omega), alloc_heap, if_pos rfl]
  have b7 : hp w1 (w.heap.size + 1) = some (.cells (hnC h).toArray 51) := by rw [← hw, alloc_heap, alloc_size, alloc_size, if_neg (by omega), alloc_heap, alloc_size, if_pos rfl]
  have b8 : hp w1 (w.heap.size + 1 + 1) = some (.cells (rsC noR).toArray 53) := by rw [← hw, alloc_heap, alloc_size, alloc_size, if_pos rfl]; rfl
  clear hw
  have ldo : ∀ w', hp w' w.heap.size = some (.cells (opC o).toArray 40) → ldv Try.prog 40 (.pointer (some ⟨w.heap.size, 0, none⟩)) w' = some (.agg (opC o).toArray) := fun w' hw => ldv_whole (t := 40) (c := (opC o).toArray) ag_40 (show (Try.prog.info? 40).map (·.size) = some (opC o).toArray.size from sz_40) hw
  have ldh : ∀ w', hp w' (w.heap.size + 1) = some (.cells (hnC h).toArray 51) → ldv Try.prog 51 (.pointer (some ⟨w.heap.size + 1, 0, none⟩)) w' = some (.agg (hnC h).toArray) := fun w' hw => ldv_whole (t := 51) (c := (hnC h).toArray) ag_51 (show (Try.prog.info? 51).map (·.size) = some (hnC h).toArray.size from sz_51) hw
  simp -implicitDefEqProofs only [wpB_some', ldo _ b6]
  refine (c_mMay (M.keep c1) n o).mono ?_
  rintro _ w2 ⟨rfl, c2⟩
  have c02 := c1.trans c2
  have d6 := c2.at b6 (by simp)
  have d7 := c2.at b7 (by simp)
  have d8 := c2.at b8 (by simp)
  have noRe : ∀ (L : Array Value → Prop), L (rsC noR).toArray → L #[(Go.Value.int Go.IntKind.i64 0), (Go.Value.int Go.IntKind.i64 0), (Go.Value.int Go.IntKind.i64 0), (Go.Value.int Go.IntKind.i64 0), (Go.Value.int Go.IntKind.i64 0), (Go.Value.int Go.IntKind.i64 0), (Go.Value.int Go.IntKind.i64 0), (Go.Value.int Go.IntKind.u64 0)] := fun L h => h
  cases hm : mayV m n o with
  | false =>
    simp -implicitDefEqProofs only [wpB_some', gd_true, gd_false, gd_tf, gd_ft, gd_ut, gd_uf, gv_true, gv_false, gv_tf, gv_ft, gv_ut, gv_uf, gE_true, gE_false, gE_tf, gE_ft, gE_ut, gE_uf, gU_true, gU_false, gU_tf, gU_ft, pickv_true, pickv_false, cnd_true, cnd_false, decide_true, decide_false, Bool.not_true, Bool.not_false, pr_not, nilv_some, bp_lss, bp_leq, bp_gtr, bp_geq, be_eql, be_neq, bne_self_eq_false, beq_self_eq_true, ldC_some, Option.isNone_none, Option.isNone_some, hp_drew, bd_53_]
    refine noRe (fun z => effu Try.prog (Instr.storeAt 53 _ (.agg z)) _ _) ?_
    rw [st_res d8 rfl, ld_res (put_same (blk_lt d8) _ _), wpB_some']
    exact ⟨by rw [mustV, if_pos hm], c02.put (.inr (by omega)) _ _⟩
  | true =>
    obtain ⟨n0, n1, n2⟩ := may_n hm
    obtain ⟨d, hd⟩ := may_hd hm
    simp -implicitDefEqProofs only [wpB_some', gd_true, gd_false, gd_tf, gd_ft, gd_ut, gd_uf, gv_true, gv_false, gv_tf, gv_ft, gv_ut, gv_uf, gE_true, gE_false, gE_tf, gE_ft, gE_ut, gE_uf, gU_true, gU_false, gU_tf, gU_ft, pickv_true, pickv_false, cnd_true, cnd_false, decide_true, decide_false, Bool.not_true, Bool.not_false, pr_not, nilv_some, bp_lss, bp_leq, bp_gtr, bp_geq, be_eql, be_neq, bne_self_eq_false, beq_self_eq_true, ldC_some, Option.isNone_none, Option.isNone_some, hp_drew, ldo _ d6, ldh _ d7]
    refine (c_mRefuses (M.keep c02) (Wm.small hK) n0 hd o h).mono ?_
    rintro _ w3 ⟨rfl, c3⟩
    have c03 := c02.trans c3
    have f6 := c3.at d6 (by simp)
    have f7 := c3.at d7 (by simp)
    have f8 := c3.at d8 (by simp)
    have s3 := c03.size
    simp -implicitDefEqProofs only [wpB_some', gd_true, gd_false, gd_tf, gd_ft, gd_ut, gd_uf, gv_true, gv_false, gv_tf, gv_ft, gv_ut, gv_uf, gE_true, gE_false, gE_tf, gE_ft, gE_ut, gE_uf, gU_true, gU_false, gU_tf, gU_ft, pickv_true, pickv_false, cnd_true, cnd_false, decide_true, decide_false, Bool.not_true, Bool.not_false, pr_not, nilv_some, bp_lss, bp_leq, bp_gtr, bp_geq, be_eql, be_neq, bne_self_eq_false, beq_self_eq_true, ldC_some, Option.isNone_none, Option.isNone_some, hp_drew, bd_53_0, al_53]
    have codeE : ∀ (L : Array Value → Prop), L (rsC (codeR (refusesV m d o h))).toArray → L #[(.int .i64 (refusesV m d o h)), (Go.Value.int Go.IntKind.i64 0), (Go.Value.int Go.IntKind.i64 0), (Go.Value.int Go.IntKind.i64 0), (Go.Value.int Go.IntKind.i64 0), (Go.Value.int Go.IntKind.i64 0), (Go.Value.int Go.IntKind.i64 0), (Go.Value.int Go.IntKind.u64 0)] := fun L h => h
    refine codeE (fun z => effu Try.prog (Instr.storeAt 53 _ (.agg z)) _ _) ?_
    rw [st_res (c := (rsC noR).toArray) (e := 53) (by rw [alloc_heap, if_pos rfl]; rfl) rfl]
    generalize hw4 : put (w3.alloc _) w3.heap.size _ _ = w4
    have c4 : Chg [] w3 w4 := by rw [← hw4]; exact ((Chg.refl _ _).alloc _).put (.inr (Nat.le_refl _)) _ _
    have a10 : hp w4 w3.heap.size = some (.cells (rsC (codeR (refusesV m d o h))).toArray 53) := by rw [← hw4]; exact put_same (by simp) _ _
    clear hw4
    have c04 := c03.trans c4
    have a6 := c4.at f6 (by simp)
    have a7 := c4.at f7 (by simp)
    have a8 := c4.at f8 (by simp)
    have r0 : (rsC (codeR (refusesV m d o h))).toArray[0 + 0]? = some (.int .i64 (refusesV m d o h)) := rfl
    have lt8 := blk_lt f8
    by_cases hr : refusesV m d o h = 0
    · have e0 : (refusesV m d o h != 0) = false := by rw [hr]; rfl
      have mv : mustV m n o h = if o.1 = 1 ∨ o.1 = 2 then (noR, false) else (mustB m o h, true) := by
        rw [mustV, if_neg (by rw [hm]; simp), hd]
        simp only [hr, ne_eq, not_true_eq_false, if_false]
      have a10' : hp w4 w3.heap.size = some (.cells (rsC noR).toArray 53) := by rw [a10, hr]; rfl
      simp -implicitDefEqProofs only [wpB_some', gd_true, gd_false, gd_tf, gd_ft, gd_ut, gd_uf, gv_true, gv_false, gv_tf, gv_ft, gv_ut, gv_uf, gE_true, gE_false, gE_tf, gE_ft, gE_ut, gE_uf, gU_true, gU_false, gU_tf, gU_ft, pickv_true, pickv_false, cnd_true, cnd_false, decide_true, decide_false, Bool.not_true, Bool.not_false, pr_not, nilv_some, bp_lss, bp_leq, bp_gtr, bp_geq, be_eql, be_neq, bne_self_eq_false, beq_self_eq_true, ldC_some, Option.isNone_none, Option.isNone_some, hp_drew, fa_53_0, ld_29, a10, r0, e0, fa_40_0, ld_3, a6, op_0]
      have zero : ∀ t : Bool, t = decide (o.1 = 1 ∨ o.1 = 2) → P45_0 (.pointer (some ⟨g, 0, none⟩)) (.pointer (some ⟨w.heap.size, 0, none⟩)) (.pointer (some ⟨w.heap.size + 1, 0, none⟩)) (.pointer (some ⟨w.heap.size + 1 + 1, 0, none⟩)) (.pointer (some ⟨w3.heap.size, 0, none⟩)) (.int .i64 o.1) (.bool t) w4
          fun v w' => v = .tuple #[.agg (rsC (mustV m n o h).1).toArray, .bool (mustV m n o h).2] ∧ Chg [] w w' := by
        intro t ht
        apply L45_0_ok
        rw [mv]
        by_cases k12 : o.1 = 1 ∨ o.1 = 2
        · have ht' : t = true := by rw [ht]; exact decide_eq_true k12
          subst ht'
          rw [if_pos k12]
          simp -implicitDefEqProofs only [L45_0, wpB_some', gd_true, gd_false, gd_tf, gd_ft, gd_ut, gd_uf, gv_true, gv_false, gv_tf, gv_ft, gv_ut, gv_uf, gE_true, gE_false, gE_tf, gE_ft, gE_ut, gE_uf, gU_true, gU_false, gU_tf, gU_ft, pickv_true, pickv_false, cnd_true, cnd_false, decide_true, decide_false, Bool.not_true, Bool.not_false, pr_not, nilv_some, bp_lss, bp_leq, bp_gtr, bp_geq, be_eql, be_neq, bne_self_eq_false, beq_self_eq_true, ldC_some, Option.isNone_none, Option.isNone_some, hp_drew, bd_53_]
          refine noRe (fun z => effu Try.prog (Instr.storeAt 53 _ (.agg z)) _ _) ?_
          rw [st_res a8 rfl, ld_res (put_same (blk_lt a8) _ _), wpB_some']
          exact ⟨rfl, c04.put (.inr (by omega)) _ _⟩
        · have ht' : t = false := by rw [ht]; exact decide_eq_false k12
          subst ht'
          rw [if_neg k12]
          have one : ∀ t : Bool, t = decide (o.1 = 6 ∨ o.1 = 8) → _ := fun t ht => l_must1 (W := w) c04 (I.keep c04) Wm hK a6 a7 a8 rfl a10' (by omega) (by omega) (by omega) hr n2 ht
          by_cases k6 : o.1 = 6
          · have q : (o.1 == 6) = true := by rw [k6]; rfl
            have f := one true (by rw [k6]; rfl)
            simp -implicitDefEqProofs only [L45_0, wpB_some', gd_true, gd_false, gd_tf, gd_ft, gd_ut, gd_uf, gv_true, gv_false, gv_tf, gv_ft, gv_ut, gv_uf, gE_true, gE_false, gE_tf, gE_ft, gE_ut, gE_uf, gU_true, gU_false, gU_tf, gU_ft, pickv_true, pickv_false, cnd_true, cnd_false, decide_true, decide_false, Bool.not_true, Bool.not_false, pr_not, nilv_some, bp_lss, bp_leq, bp_gtr, bp_geq, be_eql, be_neq, bne_self_eq_false, beq_self_eq_true, ldC_some, Option.isNone_none, Option.isNone_some, hp_drew, q]
            exact f
          · have f := one (o.1 == 8) (by
              by_cases k8 : o.1 = 8
              · rw [k8]; rfl
              · rw [eqf k8]; exact (decide_eq_false (by omega)).symm)
            simp -implicitDefEqProofs only [L45_0, wpB_some', gd_true, gd_false, gd_tf, gd_ft, gd_ut, gd_uf, gv_true, gv_false, gv_tf, gv_ft, gv_ut, gv_uf, gE_true, gE_false, gE_tf, gE_ft, gE_ut, gE_uf, gU_true, gU_false, gU_tf, gU_ft, pickv_true, pickv_false, cnd_true, cnd_false, decide_true, decide_false, Bool.not_true, Bool.not_false, pr_not, nilv_some, bp_lss, bp_leq, bp_gtr, bp_geq, be_eql, be_neq, bne_self_eq_false, beq_self_eq_true, ldC_some, Option.isNone_none, Option.isNone_some, hp_drew, eqf k6]
            exact f
      by_cases k1 : o.1 = 1
      · have q : (o.1 == 1) = true := by rw [k1]; rfl
        have f := zero true (by rw [k1]; rfl)
        simp -implicitDefEqProofs only [wpB_some', gd_true, gd_false, gd_tf, gd_ft, gd_ut, gd_uf, gv_true, gv_false, gv_tf, gv_ft, gv_ut, gv_uf, gE_true, gE_false, gE_tf, gE_ft, gE_ut, gE_uf, gU_true, gU_false, gU_tf, gU_ft, pickv_true, pickv_false, cnd_true, cnd_false, decide_true, decide_false, Bool.not_true, Bool.not_false, pr_not, nilv_some, bp_lss, bp_leq, bp_gtr, bp_geq, be_eql, be_neq, bne_self_eq_false, beq_self_eq_true, ldC_some, Option.isNone_none, Option.isNone_some, hp_drew, q]
        exact f
      · have f := zero (o.1 == 2) (by
          by_cases k2 : o.1 = 2
          · rw [k2]; rfl
          · rw [eqf k2]; exact (decide_eq_false (by omega)).symm)
        simp -implicitDefEqProofs only [wpB_some', gd_true, gd_false, gd_tf, gd_ft, gd_ut, gd_uf, gv_true, gv_false, gv_tf, gv_ft, gv_ut, gv_uf, gE_true, gE_false, gE_tf, gE_ft, gE_ut, gE_uf, gU_true, gU_false, gU_tf, gU_ft, pickv_true, pickv_false, cnd_true, cnd_false, decide_true, decide_false, Bool.not_true, Bool.not_false, pr_not, nilv_some, bp_lss, bp_leq, bp_gtr, bp_geq, be_eql, be_neq, bne_self_eq_false, beq_self_eq_true, ldC_some, Option.isNone_none, Option.isNone_some, hp_drew, eqf k1]
        exact f
    · have e0 : (refusesV m d o h != 0) = true := bne_iff_ne.2 hr
      have mv : mustV m n o h = (codeR (refusesV m d o h), true) := by
        rw [mustV, if_neg (by rw [hm]; simp), hd]
        simp only
        rw [if_pos hr]
      simp -implicitDefEqProofs only [wpB_some', gd_true, gd_false, gd_tf, gd_ft, gd_ut, gd_uf, gv_true, gv_false, gv_tf, gv_ft, gv_ut, gv_uf, gE_true, gE_false, gE_tf, gE_ft, gE_ut, gE_uf, gU_true, gU_false, gU_tf, gU_ft, pickv_true, pickv_false, cnd_true, cnd_false, decide_true, decide_false, Bool.not_true, Bool.not_false, pr_not, nilv_some, bp_lss, bp_leq, bp_gtr, bp_geq, be_eql, be_neq, bne_self_eq_false, beq_self_eq_true, ldC_some, Option.isNone_none, Option.isNone_some, hp_drew, fa_53_0, ld_29, a10, r0, e0]
      rw [ld_res a10, wpB_some', st_res a8 rfl, ld_res (put_same (blk_lt a8) _ _), wpB_some', mv]
      exact ⟨rfl, c04.put (.inr (by omega)) _ _⟩
end
end Go.Proofs.Ytgamnncehjcdiaa

namespace Go.Proofs.Ytgamnncehjcdiaa
open Go Ev Go.RowKit
set_option linter.unusedSimpArgs false
set_option linter.unusedVariables false
set_option maxRecDepth 10000

theorem Ev.UpdP.pre {F F' : Fp} {a b c : World} (k : Chg [] a b) (u : UpdP F F' b c) : UpdP F F' a c := (UpdP.of0 k).trans u
theorem Ev.UpdP.post {F F' : Fp} {a b c : World} (u : UpdP F F' a b) (k : Chg [] b c) : UpdP F F' a c := u.trans (UpdP.of0 k)
/-- a flat row has grown -/
theorem flat_grown {e : TypeId} {z n m : Nat} {us vs : List Value} {w w' : World} {F : Fp} {x x' : Value} (h : isRow e z n (us.map isV) w F x) (ho : w'.ownsRow 0 e z x' m (us ++ vs)) (hg : w.grownBy w' x.ownBlock) (hnb : NewB w x x') :
    ∃ F', isRow e z m ((us ++ vs).map isV) w' F' x' ∧ UpdP F F' w w' := by
  obtain ⟨xs, Fs, _, _, _, h4⟩ := h
  refine ⟨_, own_flat ho, ⟨hg.os, hg.tape, hg.output, hg.size, fun k hk hn => hg.block k hk fun e => hn ((h4 k).2 (.inl e.symm))⟩, fun k hk => ?_⟩
  rcases hnb k hk with h5 | h5
  · exact .inl ((h4 k).2 (.inl h5))
  · exact .inr h5
theorem slots_at {m : MdV} {n : NmV} (h : isLv m n = true) : 0 ≤ n.1 ∧ n.1 < m.slots.length ∧ m.slots[n.1.toNat]? = some (1, n.2) := by
  simp only [isLv, Bool.and_eq_true, decide_eq_true_eq] at h
  exact ⟨h.1.1, h.1.2, h.2⟩
section
variable {W w : World} {g g6 g7 g9 b k : Nat} {m : MdV} {F : Fp} {K : Nat} {o : OpV} {h : HnV} {d : HdV} {n : Int}
/-- a hand is turned: its depth -/
theorem MdI.depthSet (I : MdI w g m F) (hd : m.hands[n.toNat]? = some d) (x : Int) :
    ∃ b c, ldC (hp w g) (0 + 9) = some (.slice (some ⟨b, 0, none⟩) m.hands.length c) ∧ b ≠ g ∧ ldC (hp w b) (n.toNat * 2 + 0) = some (.int .i64 d.depth) ∧ okC (hp w b) (n.toNat * 2 + 0 + 1) = true ∧
      ∃ F', MdI (put w b ((getC (hp w b)).setIfInBounds (n.toNat * 2 + 0) (.int .i64 x)) (getE (hp w b))) g (setHd m n { d with depth := x }) F' ∧ UpdP F F' w (put w b ((getC (hp w b)).setIfInBounds (n.toNat * 2 + 0) (.int .i64 x)) (getE (hp w b))) := by
  obtain ⟨b, c, v, Fk, hl, _, _, _, hbg, hld, hv, hst⟩ := I.hdCell hd (k := 0) (P := iT d.depth) (by omega) rfl
  obtain ⟨ok, F1, h1, h2⟩ := hst w none' (iT x) (.int .i64 x) { d with depth := x } (UpdP.none hv.2 w) (good_int _ _) ⟨rfl, fun _ h => h⟩ rfl
  exact ⟨b, c, hl, hbg, by rw [hld, hv.1], ok, F1, h1, h2⟩
set_option maxHeartbeats 2000000 in
theorem l_does0 (hc : Chg [] W w) (I : MdI w g m F) (Wm : Wf m K) (hK : K ≤ 1000000) (h6 : hp w g6 = some (.cells (opC o).toArray 40)) (h7 : hp w g7 = some (.cells (hnC h).toArray 51)) (h9 : hp w g9 = some (.cells (nmC (nmOf h)).toArray 141))
    (hd : m.hands[n.toNat]? = some d) (hr : refusesV m d o h = 0) (n0 : 0 ≤ o.2.2.2.1) {c : Nat} (hb : ldC (hp w g) (0 + 9) = some (.slice (some ⟨b, 0, none⟩) m.hands.length c)) :
    P100_0 (.pointer (some ⟨g, 0, none⟩)) (.pointer (some ⟨g6, 0, none⟩)) (.pointer (some ⟨g7, 0, none⟩)) (.pointer (some ⟨b, n.toNat * 2, none⟩)) (.pointer (some ⟨g9, 0, none⟩)) w fun v w' => v = .tuple #[] ∧ ∃ F', MdI w' g (doesV m n o h) F' ∧ UpdP F F' W w' := by
  apply L100_0_ok
  have dv : doesV m n o h = if o.1 = 3 then setHd m n { d with depth := d.depth + 1 }
    else if o.1 = 4 then setHd m n (if d.depth - 1 = 0 then { depth := 0, holds := [] } else { d with depth := d.depth - 1 })
    else if o.1 = 5 then (if holdsV d h then m else setHd m n { d with holds := d.holds ++ [nmOf h] })
    else if o.1 = 7 then setWordV m h o.2.2.2.1 o.2.2.2.2.1
    else if o.1 = 8 then setWordV m h o.2.2.2.1 (IntKind.u64.wrap (wordV m h o.2.2.2.1 + o.2.2.2.2.1))
    else if o.1 = 9 then (if wordV m h o.2.2.2.1 = o.2.2.2.2.1 then setWordV m h o.2.2.2.1 o.2.2.2.2.2 else m)
    else if o.1 = 10 then (match m.slots[h.1.toNat]? with | some p => { m with slots := m.slots.set h.1.toNat (if m.loose then 0 else 2, p.2) } | none => m)
    else m := by rw [doesV, hd]; rfl
  have hD := Wm.hd d (List.mem_of_getElem? hd)
  have hco := (refuses_code hr).2
  have ldh : ∀ w', hp w' g7 = some (.cells (hnC h).toArray 51) → ldv Try.prog 51 (.pointer (some ⟨g7, 0, none⟩)) w' = some (.agg (hnC h).toArray) := fun w' hw => ldv_whole (t := 51) (c := (hnC h).toArray) ag_51 (show (Try.prog.info? 51).map (·.size) = some (hnC h).toArray.size from sz_51) hw
  have ldn : ∀ w', hp w' g9 = some (.cells (nmC (nmOf h)).toArray 141) → ldv Try.prog 141 (.pointer (some ⟨g9, 0, none⟩)) w' = some (.agg (nmC (nmOf h)).toArray) := fun w' hw => ldv_whole (t := 141) (c := (nmC (nmOf h)).toArray) ag_141 (show (Try.prog.info? 141).map (·.size) = some (nmC (nmOf h)).toArray.size from sz_141) hw
  have cd : Chg [] w w.drew := (Chg.refl _ _).drew
  have h6d : hp w.drew g6 = some (.cells (opC o).toArray 40) := h6
  have h7d : hp w.drew g7 = some (.cells (hnC h).toArray 51) := h7
  have h9d : hp w.drew g9 = some (.cells (nmC (nmOf h)).toArray 141) := h9
  by_cases k3 : o.1 = 3
  · have q : (o.1 == 3) = true := by rw [k3]; rfl
    obtain ⟨b', c', hl, hbg, hld, ok, F1, h1, h2⟩ := I.depthSet hd (d.depth + 1)
    rw [hb] at hl; cases hl
    simp -implicitDefEqProofs only [L100_0, wpB_some', gd_true, gd_false, gd_tf, gd_ft, gd_ut, gd_uf, gv_true, gv_false, gv_tf, gv_ft, gv_ut, gv_uf, gE_true, gE_false, gE_tf, gE_ft, gE_ut, gE_uf, gU_true, gU_false, gU_tf, gU_ft, pickv_true, pickv_false, cnd_true, cnd_false, decide_true, decide_false, Bool.not_true, Bool.not_false, pr_not, nilv_some, bp_lss, bp_leq, bp_gtr, bp_geq, be_eql, be_neq, bne_self_eq_false, beq_self_eq_true, ldC_some, Option.isNone_none, Option.isNone_some, hp_drew, fa_40_0, ld_3, h6, op_0, q, fa_137_0, hld, bp_add, wrapi (n := d.depth + 1) (by omega) (by omega)]
    rw [st_3 (o := n.toNat * 2 + 0) rfl rfl ok, dv, if_pos k3]
    exact ⟨by first | rfl | trivial, F1, h1, h2.pre hc⟩
  by_cases k4 : o.1 = 4
  · have q : (o.1 == 4) = true := by rw [k4]; rfl
    obtain ⟨b', c', hl, hbg, hld, ok, F1, h1, h2⟩ := I.depthSet hd (d.depth - 1)
    rw [hb] at hl; cases hl
    simp -implicitDefEqProofs only [L100_0, wpB_some', gd_true, gd_false, gd_tf, gd_ft, gd_ut, gd_uf, gv_true, gv_false, gv_tf, gv_ft, gv_ut, gv_uf, gE_true, gE_false, gE_tf, gE_ft, gE_ut, gE_uf, gU_true, gU_false, gU_tf, gU_ft, pickv_true, pickv_false, cnd_true, cnd_false, decide_true, decide_false, Bool.not_true, Bool.not_false, pr_not, nilv_some, bp_lss, bp_leq, bp_gtr, bp_geq, be_eql, be_neq, bne_self_eq_false, beq_self_eq_true, ldC_some, Option.isNone_none, Option.isNone_some, hp_drew, fa_40_0, ld_3, h6, op_0, eqf k3, q, fa_137_0, hld, bp_sub, wrapi (n := d.depth - 1) (by omega) (by omega)]
    rw [st_3 (o := n.toNat * 2 + 0) rfl rfl ok, dv, if_neg k3, if_pos k4]
    have hb1 : ldC (hp (put w b ((getC (hp w b)).setIfInBounds (n.toNat * 2 + 0) (.int .i64 (d.depth - 1))) (getE (hp w b))) g) (0 + 9) = some (.slice (some ⟨b, 0, none⟩) m.hands.length c) := by rw [put_other (Ne.symm hbg)]; exact hb
    generalize put w b ((getC (hp w b)).setIfInBounds (n.toNat * 2 + 0) (.int .i64 (d.depth - 1))) (getE (hp w b)) = w1 at *
    have hd1 : (setHd m n { d with depth := d.depth - 1 }).hands[n.toNat]? = some { d with depth := d.depth - 1 } := by
      show (m.hands.set n.toNat _)[n.toNat]? = _
      rw [List.getElem?_set, if_pos rfl, if_pos (List.getElem?_eq_some_iff.1 hd).1]
    have hln : (setHd m n { d with depth := d.depth - 1 }).hands.length = m.hands.length := by simp [setHd]
    obtain ⟨b2, c2, v2, Fk2, hl2, _, _, _, _, hld2, hv2, hst2⟩ := h1.hdCell hd1 (k := 1) (P := namesT d.holds) (by omega) rfl
    obtain ⟨b3, c3, hl3, _, hld3, _⟩ := h1.depthSet hd1 0
    rw [hln, hb1] at hl2 hl3
    cases hl2; cases hl3
    by_cases hz : d.depth - 1 = 0
    · have e : (d.depth - 1 == 0) = true := by rw [hz]; rfl
      simp -implicitDefEqProofs only [wpB_some', gd_true, gd_false, gd_tf, gd_ft, gd_ut, gd_uf, gv_true, gv_false, gv_tf, gv_ft, gv_ut, gv_uf, gE_true, gE_false, gE_tf, gE_ft, gE_ut, gE_uf, gU_true, gU_false, gU_tf, gU_ft, pickv_true, pickv_false, cnd_true, cnd_false, decide_true, decide_false, Bool.not_true, Bool.not_false, pr_not, nilv_some, bp_lss, bp_leq, bp_gtr, bp_geq, be_eql, be_neq, bne_self_eq_false, beq_self_eq_true, ldC_some, Option.isNone_none, Option.isNone_some, hp_drew, fa_137_0, fa_137_1, ld_3, hld3, e]
      obtain ⟨ok2, F2, h3, h4⟩ := hst2 w1 none' (namesT []) (.slice none 0 0) { depth := 0, holds := [] } ⟨ChgP.refl _ _, fun k hk => hk.elim⟩ (good_names _) isRow.nil (by
        rw [hz]; rfl)
      rw [st_135 (o := n.toNat * 2 + 1) rfl rfl ok2, if_pos hz]
      have e2 : setHd m n { depth := 0, holds := [] } = { setHd m n { d with depth := d.depth - 1 } with hands := (setHd m n { d with depth := d.depth - 1 }).hands.set n.toNat { depth := 0, holds := [] } } := by
        simp [setHd, List.set_set]
      rw [e2]
      exact ⟨by first | rfl | trivial, F2, h3, (h2.trans h4).pre hc⟩
    · simp -implicitDefEqProofs only [wpB_some', gd_true, gd_false, gd_tf, gd_ft, gd_ut, gd_uf, gv_true, gv_false, gv_tf, gv_ft, gv_ut, gv_uf, gE_true, gE_false, gE_tf, gE_ft, gE_ut, gE_uf, gU_true, gU_false, gU_tf, gU_ft, pickv_true, pickv_false, cnd_true, cnd_false, decide_true, decide_false, Bool.not_true, Bool.not_false, pr_not, nilv_some, bp_lss, bp_leq, bp_gtr, bp_geq, be_eql, be_neq, bne_self_eq_false, beq_self_eq_true, ldC_some, Option.isNone_none, Option.isNone_some, hp_drew, fa_137_0, ld_3, hld3, eqf hz]
      rw [if_neg hz]
      exact ⟨by first | rfl | trivial, F1, h1, h2.pre hc⟩
  by_cases k5 : o.1 = 5
  · have q : (o.1 == 5) = true := by rw [k5]; rfl
    obtain ⟨b', c', v, Fk, hl, _, _, _, _, hld, hv, _⟩ := (I.keep cd).hdCell hd (k := 1) (P := namesT d.holds) (by omega) rfl
    rw [show ldC (hp w.drew g) (0 + 9) = _ from hb] at hl; cases hl
    obtain ⟨A, ca, rfl, hR⟩ := names_sh ⟨_, hv⟩
    simp -implicitDefEqProofs only [L100_0, wpB_some', gd_true, gd_false, gd_tf, gd_ft, gd_ut, gd_uf, gv_true, gv_false, gv_tf, gv_ft, gv_ut, gv_uf, gE_true, gE_false, gE_tf, gE_ft, gE_ut, gE_uf, gU_true, gU_false, gU_tf, gU_ft, pickv_true, pickv_false, cnd_true, cnd_false, decide_true, decide_false, Bool.not_true, Bool.not_false, pr_not, nilv_some, bp_lss, bp_leq, bp_gtr, bp_geq, be_eql, be_neq, bne_self_eq_false, beq_self_eq_true, ldC_some, Option.isNone_none, Option.isNone_some, hp_drew, fa_40_0, ld_3, h6, op_0, eqf k3, eqf k4, q, fa_137_1, ld_135, show ldC (hp w b) (n.toNat * 2 + 1) = _ from hld, ldn _ h9d]
    refine (c_nContains (c := ca) hR (by omega) (nmOf h)).mono ?_
    rintro _ w1 ⟨rfl, c1⟩
    have c01 := cd.trans c1
    rw [dv, if_neg k3, if_neg k4, if_pos k5]
    cases hh : holdsV d h with
    | true =>
      have hh' : decide (nmOf h ∈ d.holds) = true := hh
      simp -implicitDefEqProofs only [wpB_some', gd_true, gd_false, gd_tf, gd_ft, gd_ut, gd_uf, gv_true, gv_false, gv_tf, gv_ft, gv_ut, gv_uf, gE_true, gE_false, gE_tf, gE_ft, gE_ut, gE_uf, gU_true, gU_false, gU_tf, gU_ft, pickv_true, pickv_false, cnd_true, cnd_false, decide_true, decide_false, Bool.not_true, Bool.not_false, pr_not, nilv_some, bp_lss, bp_leq, bp_gtr, bp_geq, be_eql, be_neq, bne_self_eq_false, beq_self_eq_true, ldC_some, Option.isNone_none, Option.isNone_some, hp_drew, hh', if_true]
      exact ⟨by first | rfl | trivial, F, I.keep c01, (UpdP.of0 (hc.trans c01))⟩
    | false =>
      have hh' : decide (nmOf h ∈ d.holds) = false := hh
      have c02 : Chg [] w w1.drew := c01.drew
      obtain ⟨b', c', v, Fk, hl, _, _, _, _, hld, hv, hst⟩ := (I.keep c02).hdCell hd (k := 1) (P := namesT d.holds) (by omega) rfl
      rw [chg_ld c02 hb] at hl; cases hl
      have h91 : hp w1.drew g9 = some (.cells (nmC (nmOf h)).toArray 141) := c01.at h9 (by simp)
      simp -implicitDefEqProofs only [wpB_some', gd_true, gd_false, gd_tf, gd_ft, gd_ut, gd_uf, gv_true, gv_false, gv_tf, gv_ft, gv_ut, gv_uf, gE_true, gE_false, gE_tf, gE_ft, gE_ut, gE_uf, gU_true, gU_false, gU_tf, gU_ft, pickv_true, pickv_false, cnd_true, cnd_false, decide_true, decide_false, Bool.not_true, Bool.not_false, pr_not, nilv_some, bp_lss, bp_leq, bp_gtr, bp_geq, be_eql, be_neq, bne_self_eq_false, beq_self_eq_true, ldC_some, Option.isNone_none, Option.isNone_some, hp_drew, hh', fa_137_1, ld_135, show ldC (hp w1 b) (n.toNat * 2 + 1) = _ from hld, ldn _ h91, Bool.false_eq_true, if_false]
      obtain ⟨hown, _⟩ := flat_own hv
      refine ps_135 (by simp) hown (by omega) (Nat.zero_le _) fun x' w2 ho hg hnb => ?_
      rw [show d.holds.flatMap nmC ++ [Value.int .i64 (nmOf h).1, Value.int .i64 (nmOf h).2] = (d.holds ++ [nmOf h]).flatMap nmC by simp [nmC]] at ho
      have hv' : isRow 141 2 d.holds.length ((d.holds.flatMap nmC).map isV) w1.drew Fk v := hv
      obtain ⟨F2, hr2, hu2⟩ := flat_grown (vs := nmC (nmOf h)) hv' (by simpa [nmC] using ho) hg hnb
      have hr2' : namesT (d.holds ++ [nmOf h]) w2 F2 x' := by
        rw [namesT, List.length_append]
        have e : (d.holds ++ [nmOf h]).flatMap nmC = d.holds.flatMap nmC ++ nmC (nmOf h) := by simp
        rw [e]; exact hr2
      obtain ⟨ok2, F3, h3, h4⟩ := hst w2 F2 (namesT (d.holds ++ [nmOf h])) x' { d with holds := d.holds ++ [nmOf h] } hu2 (good_names _) hr2' rfl
      have one := (good_names _).one hr2'
      rw [st_135 (o := n.toNat * 2 + 1) one.1 one.2 ok2]
      exact ⟨by first | rfl | trivial, F3, h3, h4.pre (hc.trans c02)⟩
  by_cases k7 : o.1 = 7
  · have q : (o.1 == 7) = true := by rw [k7]; rfl
    obtain ⟨t1, t2⟩ := touch_ok hr (by omega) (by omega)
    have cw := c_mWord (I.keep cd) Wm hK t1 n0 t2
    simp -implicitDefEqProofs only [L100_0, wpB_some', gd_true, gd_false, gd_tf, gd_ft, gd_ut, gd_uf, gv_true, gv_false, gv_tf, gv_ft, gv_ut, gv_uf, gE_true, gE_false, gE_tf, gE_ft, gE_ut, gE_uf, gU_true, gU_false, gU_tf, gU_ft, pickv_true, pickv_false, cnd_true, cnd_false, decide_true, decide_false, Bool.not_true, Bool.not_false, pr_not, nilv_some, bp_lss, bp_leq, bp_gtr, bp_geq, be_eql, be_neq, bne_self_eq_false, beq_self_eq_true, ldC_some, Option.isNone_none, Option.isNone_some, hp_drew, fa_40_0, fa_40_3, fa_40_4, ld_3, ld_38, h6, h6d, op_0, op_3, op_4, eqf k3, eqf k4, eqf k5, q, ldh _ h7d]
    rw [dv, if_neg k3, if_neg k4, if_neg k5, if_pos k7]
    repeat' (with_reducible apply And.intro)
    all_goals
      refine cw.mono ?_
      rintro _ w3 ⟨g2, j, rfl, c3, hw⟩
      have A := hw w3 c3
      have h63 := (cd.trans c3).at h6 (by simp)
      simp -implicitDefEqProofs only [wpB_some', gd_true, gd_false, gd_tf, gd_ft, gd_ut, gd_uf, gv_true, gv_false, gv_tf, gv_ft, gv_ut, gv_uf, gE_true, gE_false, gE_tf, gE_ft, gE_ut, gE_uf, gU_true, gU_false, gU_tf, gU_ft, pickv_true, pickv_false, cnd_true, cnd_false, decide_true, decide_false, Bool.not_true, Bool.not_false, pr_not, nilv_some, bp_lss, bp_leq, bp_gtr, bp_geq, be_eql, be_neq, bne_self_eq_false, beq_self_eq_true, ldC_some, Option.isNone_none, Option.isNone_some, hp_drew, ld_38, h63, op_4]
      rw [st_38 rfl rfl A.ok]
      obtain ⟨F1, h1, h2⟩ := A.st o.2.2.2.2.1
      exact ⟨by first | rfl | trivial, F1, h1, h2.pre (hc.trans (cd.trans c3))⟩
  by_cases k8 : o.1 = 8
  · have q : (o.1 == 8) = true := by rw [k8]; rfl
    obtain ⟨t1, t2⟩ := touch_ok hr (by omega) (by omega)
    have cw := c_mWord (I.keep cd) Wm hK t1 n0 t2
    simp -implicitDefEqProofs only [L100_0, wpB_some', gd_true, gd_false, gd_tf, gd_ft, gd_ut, gd_uf, gv_true, gv_false, gv_tf, gv_ft, gv_ut, gv_uf, gE_true, gE_false, gE_tf, gE_ft, gE_ut, gE_uf, gU_true, gU_false, gU_tf, gU_ft, pickv_true, pickv_false, cnd_true, cnd_false, decide_true, decide_false, Bool.not_true, Bool.not_false, pr_not, nilv_some, bp_lss, bp_leq, bp_gtr, bp_geq, be_eql, be_neq, bne_self_eq_false, beq_self_eq_true, ldC_some, Option.isNone_none, Option.isNone_some, hp_drew, fa_40_0, fa_40_3, fa_40_4, ld_3, ld_38, h6, h6d, op_0, op_3, op_4, eqf k3, eqf k4, eqf k5, eqf k7, q, ldh _ h7d]
    rw [dv, if_neg k3, if_neg k4, if_neg k5, if_neg k7, if_pos k8]
    repeat' (with_reducible apply And.intro)
    all_goals
      refine cw.mono ?_
      rintro _ w3 ⟨g2, j, rfl, c3, hw⟩
      have A := hw w3 c3
      have h63 := (cd.trans c3).at h6 (by simp)
      simp -implicitDefEqProofs only [wpB_some', gd_true, gd_false, gd_tf, gd_ft, gd_ut, gd_uf, gv_true, gv_false, gv_tf, gv_ft, gv_ut, gv_uf, gE_true, gE_false, gE_tf, gE_ft, gE_ut, gE_uf, gU_true, gU_false, gU_tf, gU_ft, pickv_true, pickv_false, cnd_true, cnd_false, decide_true, decide_false, Bool.not_true, Bool.not_false, pr_not, nilv_some, bp_lss, bp_leq, bp_gtr, bp_geq, be_eql, be_neq, bne_self_eq_false, beq_self_eq_true, ldC_some, Option.isNone_none, Option.isNone_some, hp_drew, ld_38, h63, op_4, A.ld, bp_add]
      rw [st_38 rfl rfl A.ok]
      obtain ⟨F1, h1, h2⟩ := A.st (IntKind.u64.wrap (wordV m h o.2.2.2.1 + o.2.2.2.2.1))
      exact ⟨by first | rfl | trivial, F1, h1, h2.pre (hc.trans (cd.trans c3))⟩
  by_cases k9 : o.1 = 9
  · have q : (o.1 == 9) = true := by rw [k9]; rfl
    obtain ⟨t1, t2⟩ := touch_ok hr (by omega) (by omega)
    simp -implicitDefEqProofs only [L100_0, wpB_some', gd_true, gd_false, gd_tf, gd_ft, gd_ut, gd_uf, gv_true, gv_false, gv_tf, gv_ft, gv_ut, gv_uf, gE_true, gE_false, gE_tf, gE_ft, gE_ut, gE_uf, gU_true, gU_false, gU_tf, gU_ft, pickv_true, pickv_false, cnd_true, cnd_false, decide_true, decide_false, Bool.not_true, Bool.not_false, pr_not, nilv_some, bp_lss, bp_leq, bp_gtr, bp_geq, be_eql, be_neq, bne_self_eq_false, beq_self_eq_true, ldC_some, Option.isNone_none, Option.isNone_some, hp_drew, fa_40_0, fa_40_3, fa_40_4, ld_3, ld_38, h6, op_0, op_3, eqf k3, eqf k4, eqf k5, eqf k7, eqf k8, q, ldh _ h7]
    rw [dv, if_neg k3, if_neg k4, if_neg k5, if_neg k7, if_neg k8, if_pos k9]
    refine (c_mWord I Wm hK t1 n0 t2).mono ?_
    rintro _ w3 ⟨g2, j, rfl, c3, hw⟩
    have c3d : Chg [] w w3.drew := c3.drew
    have A := hw w3.drew c3d
    have h63 := c3.at h6 (by simp)
    by_cases hv : wordV m h o.2.2.2.1 = o.2.2.2.2.1
    · have e : (wordV m h o.2.2.2.1 == o.2.2.2.2.1) = true := by rw [hv]; exact beq_self_eq_true _
      simp -implicitDefEqProofs only [wpB_some', gd_true, gd_false, gd_tf, gd_ft, gd_ut, gd_uf, gv_true, gv_false, gv_tf, gv_ft, gv_ut, gv_uf, gE_true, gE_false, gE_tf, gE_ft, gE_ut, gE_uf, gU_true, gU_false, gU_tf, gU_ft, pickv_true, pickv_false, cnd_true, cnd_false, decide_true, decide_false, Bool.not_true, Bool.not_false, pr_not, nilv_some, bp_lss, bp_leq, bp_gtr, bp_geq, be_eql, be_neq, bne_self_eq_false, beq_self_eq_true, ldC_some, Option.isNone_none, Option.isNone_some, hp_drew, ld_38, fa_40_4, fa_40_5, h63, op_4, op_5, show ldC (hp w3 g2) j = _ from A.ld, e]
      rw [st_38 rfl rfl A.ok, if_pos hv]
      obtain ⟨F1, h1, h2⟩ := A.st o.2.2.2.2.2
      exact ⟨by first | rfl | trivial, F1, h1, h2.pre (hc.trans c3d)⟩
    · simp -implicitDefEqProofs only [wpB_some', gd_true, gd_false, gd_tf, gd_ft, gd_ut, gd_uf, gv_true, gv_false, gv_tf, gv_ft, gv_ut, gv_uf, gE_true, gE_false, gE_tf, gE_ft, gE_ut, gE_uf, gU_true, gU_false, gU_tf, gU_ft, pickv_true, pickv_false, cnd_true, cnd_false, decide_true, decide_false, Bool.not_true, Bool.not_false, pr_not, nilv_some, bp_lss, bp_leq, bp_gtr, bp_geq, be_eql, be_neq, bne_self_eq_false, beq_self_eq_true, ldC_some, Option.isNone_none, Option.isNone_some, hp_drew, ld_38, fa_40_4, h63, op_4, show ldC (hp w3 g2) j = _ from A.ld, eqf hv]
      rw [if_neg hv]
      exact ⟨by first | rfl | trivial, F, I.keep c3d, UpdP.of0 (hc.trans c3d)⟩
  by_cases k10 : o.1 = 10
  · have q : (o.1 == 10) = true := by rw [k10]; rfl
    obtain ⟨i, r, hf, hri, hnm, hlv⟩ := region_ok hr (by omega)
    obtain ⟨s0, s1, s2⟩ := slots_at hlv
    have s2' : m.slots[h.1.toNat]? = some (1, h.2.1) := s2
    have s0' : 0 ≤ h.1 := s0
    have s1' : h.1 < m.slots.length := s1
    obtain ⟨b1, c1, hl, ok, F1, h1, h2⟩ := (I.keep cd).slotSet s2' (p' := (2, h.2.1)) (k := 0) (x := 2) (by omega) rfl
    have ia := ia_128 (b := b1) (p := 0) (n := m.slots.length) (c := c1) (j := .i64) (i := h.1) (by omega) (by omega)
    rw [Nat.zero_add] at ia
    have e0 : (hnC h).toArray[0 + 0]? = some (.int .i64 h.1) := rfl
    simp -implicitDefEqProofs only [L100_0, wpB_some', gd_true, gd_false, gd_tf, gd_ft, gd_ut, gd_uf, gv_true, gv_false, gv_tf, gv_ft, gv_ut, gv_uf, gE_true, gE_false, gE_tf, gE_ft, gE_ut, gE_uf, gU_true, gU_false, gU_tf, gU_ft, pickv_true, pickv_false, cnd_true, cnd_false, decide_true, decide_false, Bool.not_true, Bool.not_false, pr_not, nilv_some, bp_lss, bp_leq, bp_gtr, bp_geq, be_eql, be_neq, bne_self_eq_false, beq_self_eq_true, ldC_some, Option.isNone_none, Option.isNone_some, hp_drew, fa_40_0, ld_3, h6, op_0, eqf k3, eqf k4, eqf k5, eqf k7, eqf k8, eqf k9, q, fa_132_2, ld_128, show ldC (hp w g) (0 + 7) = _ from hl, fa_51_0, h7, e0, ia, fa_150_0]
    rw [st_3 (o := h.1.toNat * 2 + 0) rfl rfl ok, dv, if_neg k3, if_neg k4, if_neg k5, if_neg k7, if_neg k8, if_neg k9, if_pos k10, s2']
    have u1 := h2.pre (hc.trans cd)
    have h71 : hp (put w.drew b1 ((getC (hp w.drew b1)).setIfInBounds (h.1.toNat * 2 + 0) (.int .i64 2)) (getE (hp w.drew b1))) g7 = some (.cells (hnC h).toArray 51) := by
      rw [put_other]
      · exact h7
      · intro e
        subst e
        rw [show hp w.drew g7 = _ from h7, okC_some, decide_eq_true_eq] at ok
        obtain ⟨sv, _, _, M⟩ := I.rd
        obtain ⟨A', c', hs', hR'⟩ := slots_sh M.sT
        have hsl := M.sl
        rw [show ldC (hp w g) (0 + 7) = _ from hl] at hsl
        cases hsl
        cases hs'
        have hown := (flat_own M.sT.choose_spec).1
        rcases hown.2 with ⟨hx, _⟩ | ⟨gg, cap, cur, hx, _, hgg, _⟩
        · cases hx
        · cases hx
          have h7' : w.heap[g7]? = some (.cells (hnC h).toArray 51) := h7
          rw [h7'] at hgg
          cases hgg
    generalize put w.drew b1 ((getC (hp w.drew b1)).setIfInBounds (h.1.toNat * 2 + 0) (.int .i64 2)) (getE (hp w.drew b1)) = w1 at *
    obtain ⟨_, _, _, M1⟩ := h1.rd
    have ml := M1.l
    by_cases hlo : m.loose = true
    · rw [show ({ m with slots := m.slots.set h.1.toNat (2, h.2.1) } : MdV).loose = true from hlo] at ml
      have cd1 : Chg [] w1 w1.drew := (Chg.refl _ _).drew
      have s3 : ({ m with slots := m.slots.set h.1.toNat (2, h.2.1) } : MdV).slots[h.1.toNat]? = some (2, h.2.1) := by
        show (m.slots.set _ _)[_]? = _
        rw [List.getElem?_set, if_pos rfl, if_pos (List.getElem?_eq_some_iff.1 s2').1]
      obtain ⟨b2, c2, hl2, ok2, F2, h3, h4⟩ := (h1.keep cd1).slotSet s3 (p' := (0, h.2.1)) (k := 0) (x := 0) (by omega) rfl
      have hln : ({ m with slots := m.slots.set h.1.toNat (2, h.2.1) } : MdV).slots.length = m.slots.length := by simp
      rw [hln] at hl2
      have ia2 := ia_128 (b := b2) (p := 0) (n := m.slots.length) (c := c2) (j := .i64) (i := h.1) (by omega) (by omega)
      rw [Nat.zero_add] at ia2
      simp -implicitDefEqProofs only [wpB_some', gd_true, gd_false, gd_tf, gd_ft, gd_ut, gd_uf, gv_true, gv_false, gv_tf, gv_ft, gv_ut, gv_uf, gE_true, gE_false, gE_tf, gE_ft, gE_ut, gE_uf, gU_true, gU_false, gU_tf, gU_ft, pickv_true, pickv_false, cnd_true, cnd_false, decide_true, decide_false, Bool.not_true, Bool.not_false, pr_not, nilv_some, bp_lss, bp_leq, bp_gtr, bp_geq, be_eql, be_neq, bne_self_eq_false, beq_self_eq_true, ldC_some, Option.isNone_none, Option.isNone_some, hp_drew, fa_132_1, fa_132_2, ld_4, ml, ld_128, show ldC (hp w1 g) (0 + 7) = _ from hl2, fa_51_0, ld_3, h71, e0, ia2, fa_150_0, hlo, if_true]
      rw [st_3 (o := h.1.toNat * 2 + 0) rfl rfl ok2]
      have e2 : ({ m with slots := m.slots.set h.1.toNat (0, h.2.1) } : MdV) = { ({ m with slots := m.slots.set h.1.toNat (2, h.2.1) } : MdV) with slots := ({ m with slots := m.slots.set h.1.toNat (2, h.2.1) } : MdV).slots.set h.1.toNat (0, h.2.1) } := by simp [List.set_set]
      rw [← e2, hlo] at h3
      exact ⟨by first | rfl | trivial, F2, h3, u1.trans (h4.pre cd1)⟩
    · have hlf : m.loose = false := by simpa using hlo
      rw [show ({ m with slots := m.slots.set h.1.toNat (2, h.2.1) } : MdV).loose = false from hlf] at ml
      simp -implicitDefEqProofs only [wpB_some', gd_true, gd_false, gd_tf, gd_ft, gd_ut, gd_uf, gv_true, gv_false, gv_tf, gv_ft, gv_ut, gv_uf, gE_true, gE_false, gE_tf, gE_ft, gE_ut, gE_uf, gU_true, gU_false, gU_tf, gU_ft, pickv_true, pickv_false, cnd_true, cnd_false, decide_true, decide_false, Bool.not_true, Bool.not_false, pr_not, nilv_some, bp_lss, bp_leq, bp_gtr, bp_geq, be_eql, be_neq, bne_self_eq_false, beq_self_eq_true, ldC_some, Option.isNone_none, Option.isNone_some, hp_drew, fa_132_1, ld_4, ml, hlf, Bool.false_eq_true, if_false]
      rw [hlf] at h1
      exact ⟨by first | rfl | trivial, F1, h1, u1⟩
  · simp -implicitDefEqProofs only [L100_0, wpB_some', gd_true, gd_false, gd_tf, gd_ft, gd_ut, gd_uf, gv_true, gv_false, gv_tf, gv_ft, gv_ut, gv_uf, gE_true, gE_false, gE_tf, gE_ft, gE_ut, gE_uf, gU_true, gU_false, gU_tf, gU_ft, pickv_true, pickv_false, cnd_true, cnd_false, decide_true, decide_false, Bool.not_true, Bool.not_false, pr_not, nilv_some, bp_lss, bp_leq, bp_gtr, bp_geq, be_eql, be_neq, bne_self_eq_false, beq_self_eq_true, ldC_some, Option.isNone_none, Option.isNone_some, hp_drew, fa_40_0, ld_3, h6, op_0, eqf k3, eqf k4, eqf k5, eqf k7, eqf k8, eqf k9, eqf k10]
    rw [dv, if_neg k3, if_neg k4, if_neg k5, if_neg k7, if_neg k8, if_neg k9, if_neg k10]
    exact ⟨by first | rfl | trivial, F, I, UpdP.of0 hc⟩
set_option maxHeartbeats 1000000 in
theorem c_mDoes (I : MdI w g m F) (Wm : Wf m K) (hK : K ≤ 1000000) (hm : mayV m n o = true) (hd : m.hands[n.toNat]? = some d) (hr : refusesV m d o h = 0) :
    CallR Try.prog 100 [.pointer (some ⟨g, 0, none⟩), .int .i64 n, .agg (opC o).toArray, .agg (hnC h).toArray] w fun v w' => v = .tuple #[] ∧ ∃ F', MdI w' g (doesV m n o h) F' ∧ UpdP F F' w w' := by
  apply F100_ok
  obtain ⟨n0, n1, n2⟩ := may_n hm
  simp -implicitDefEqProofs only [F100, effv_box, cells_agg, alloc_size]
  generalize hw : (w.alloc (.cells (opC o).toArray 40)).alloc _ = w1
  have c1 : Chg [] w w1 := by rw [← hw]; exact ((Chg.refl _ _).alloc _).alloc _
  have a6 : hp w1 w.heap.size = some (.cells (opC o).toArray 40) := by rw [← hw, alloc_heap, alloc_size, if_neg (by omega), alloc_heap, if_pos rfl]
  have a7 : hp w1 (w.heap.size + 1) = some (.cells (hnC h).toArray 51) := by rw [← hw, alloc_heap, alloc_size, if_pos rfl]
  clear hw
  generalize w.heap.size = g6 at *
  have ldh : ∀ w', hp w' (g6 + 1) = some (.cells (hnC h).toArray 51) → ldv Try.prog 51 (.pointer (some ⟨g6 + 1, 0, none⟩)) w' = some (.agg (hnC h).toArray) := fun w' hw => ldv_whole (t := 51) (c := (hnC h).toArray) ag_51 (show (Try.prog.info? 51).map (·.size) = some (hnC h).toArray.size from sz_51) hw
  obtain ⟨_, _, hv, M⟩ := I.rd
  obtain ⟨Fh, hF⟩ := M.hT
  obtain ⟨b, c, hx, _⟩ := hd_at hF hd
  have hb := M.hl
  rw [hx] at hb
  have cd : Chg [] w w1.drew := c1.drew
  have a7d : hp w1.drew (g6 + 1) = some (.cells (hnC h).toArray 51) := a7
  have hbd := fun w' (k : Chg [] w w') => chg_ld k hb
  have ia := ia_129 (b := b) (p := 0) (n := m.hands.length) (c := c) (j := .i64) (i := n) (by omega) (by omega)
  rw [Nat.zero_add] at ia
  have nm : ∀ (w' : World) {K : Value → World → Prop}, (∀ w'', Chg [] w' w'' → K (.agg (nmC (nmOf h)).toArray) w'') → CallR Try.prog 86 [.agg (hnC h).toArray] w' K := fun w' K hk => (c_mNameOf h w').mono fun v w'' hv => by obtain ⟨rfl, hc⟩ := hv; exact hk w'' hc
  have tail : ∀ w3, Chg [] w1 w3 → ∀ t : Nat, w1.heap.size ≤ t → hp w3 t = some (.cells #[.int .i64 0, .int .i64 0] 141) →
      effu Try.prog (Instr.storeAt 141 (.pointer (some ⟨t, 0, none⟩)) (.agg (nmC (nmOf h)).toArray)) w3 fun w' =>
      P100_0 (.pointer (some ⟨g, 0, none⟩)) (.pointer (some ⟨g6, 0, none⟩)) (.pointer (some ⟨g6 + 1, 0, none⟩)) (.pointer (some ⟨b, n.toNat * 2, none⟩)) (.pointer (some ⟨t, 0, none⟩)) w' fun v w' => v = .tuple #[] ∧ ∃ F', MdI w' g (doesV m n o h) F' ∧ UpdP F F' w w' := by
    intro w3 c3 t hge ht
    rw [st_141 (by rfl) (by rfl) (by rw [ht]; rfl) (by rw [ht]; rfl), ht]
    simp -implicitDefEqProofs only [getE_some]
    have c4 : Chg [] w1 (put w3 t (nmC (nmOf h)).toArray 141) := c3.put (.inr hge) _ _
    have c04 := c1.trans c4
    exact l_does0 c04 (I.keep c04) Wm hK (c4.at a6 (by simp)) (c4.at a7 (by simp)) (put_same (blk_lt ht) _ _) hd hr n2 (hbd _ c04)
  simp -implicitDefEqProofs only [wpB_some', gd_true, gd_false, gd_tf, gd_ft, gd_ut, gd_uf, gv_true, gv_false, gv_tf, gv_ft, gv_ut, gv_uf, gE_true, gE_false, gE_tf, gE_ft, gE_ut, gE_uf, gU_true, gU_false, gU_tf, gU_ft, pickv_true, pickv_false, cnd_true, cnd_false, decide_true, decide_false, Bool.not_true, Bool.not_false, pr_not, nilv_some, bp_lss, bp_leq, bp_gtr, bp_geq, be_eql, be_neq, bne_self_eq_false, beq_self_eq_true, ldC_some, Option.isNone_none, Option.isNone_some, hp_drew, fa_132_4, ld_129, show ldC (hp w1 g) (0 + 9) = _ from hbd _ c1, ia, ldh _ a7d, al_141]
  repeat' (with_reducible apply And.intro)
  all_goals first
    | (refine nm _ ?_
       intro w3 c3
       have c13 : Chg [] w1 w3 := (((Chg.refl [] w1).drew).alloc _).trans c3
       try simp -implicitDefEqProofs only [wpB_some', gd_true, gd_false, gd_tf, gd_ft, gd_ut, gd_uf, gv_true, gv_false, gv_tf, gv_ft, gv_ut, gv_uf, gE_true, gE_false, gE_tf, gE_ft, gE_ut, gE_uf, gU_true, gU_false, gU_tf, gU_ft, pickv_true, pickv_false, cnd_true, cnd_false, decide_true, decide_false, Bool.not_true, Bool.not_false, pr_not, nilv_some, bp_lss, bp_leq, bp_gtr, bp_geq, be_eql, be_neq, bne_self_eq_false, beq_self_eq_true, ldC_some, Option.isNone_none, Option.isNone_some, hp_drew, fa_132_4, ld_129, hbd _ (c1.trans c13), ia, al_141]
       exact tail w3 c13 _ (Nat.le_refl _) (c3.at (by rw [alloc_heap, if_pos rfl]) (by simp)))
    | (refine nm _ ?_
       intro w3 c3
       have c13 : Chg [] w1 w3 := ((Chg.refl [] w1).drew).trans c3
       try simp -implicitDefEqProofs only [wpB_some', gd_true, gd_false, gd_tf, gd_ft, gd_ut, gd_uf, gv_true, gv_false, gv_tf, gv_ft, gv_ut, gv_uf, gE_true, gE_false, gE_tf, gE_ft, gE_ut, gE_uf, gU_true, gU_false, gU_tf, gU_ft, pickv_true, pickv_false, cnd_true, cnd_false, decide_true, decide_false, Bool.not_true, Bool.not_false, pr_not, nilv_some, bp_lss, bp_leq, bp_gtr, bp_geq, be_eql, be_neq, bne_self_eq_false, beq_self_eq_true, ldC_some, Option.isNone_none, Option.isNone_some, hp_drew, fa_132_4, ld_129, hbd _ (c1.trans c13), ia, al_141]
       exact tail _ (c13.alloc _) _ c13.size (by rw [alloc_heap, if_pos rfl]))
end
end Go.Proofs.Ytgamnncehjcdiaa

namespace Go.Proofs.Ytgamnncehjcdiaa
open Go Ev Go.RowKit
set_option linter.unusedSimpArgs false
set_option linter.unusedVariables false
set_option maxRecDepth 10000

section
variable {W w : World} {g g5 b i k : Nat} {m : MdV} {F : Fp} {K : Nat} {r : RgV}
theorem own_unique {e : TypeId} {z n : Nat} {x : Value} {xs ys : List Value} {p q : Nat} (h : w.ownsRow p e z x n xs) (k : w.ownsRow q e z x n ys) : xs = ys := by
  rcases h.2 with ⟨rfl, rfl⟩ | ⟨g, cap, cur, rfl, _, hg, _, _, _, ht⟩
  · have h1 := h.1; have h2 := k.1
    simp at h1 h2
    rw [h1, h2]
  · rcases k.2 with ⟨h0, _⟩ | ⟨g', cap', cur', h0, _, hg', _, _, _, ht'⟩
    · cases h0
    · cases h0
      rw [hg] at hg'
      cases hg'
      rw [← ht, ← ht']
/-- what does not stand on a thing's blocks stays as it is when it is turned -/
theorem Ev.UpdP.keep {F F' : Fp} {w w1 : World} (u : UpdP F F' w w1) {x : Nat} {o : Obj} (hx : hp w x = some o) (hn : ¬ F x) : hp w1 x = some o ∧ ¬ F' x := by
  refine ⟨u.chg.at hx hn, fun h => ?_⟩
  rcases u.sub x h with h1 | h1
  · exact hn h1
  · have := blk_lt hx; omega
theorem slots_blk (I : MdI w g m F) {n c : Nat} (hl : ldC (hp w g) (0 + 7) = some (.slice (some ⟨b, 0, none⟩) n c)) : b ≠ g ∧ F b := by
  obtain ⟨v, Fk, hg, hng, hsub, hld, hS, _⟩ := isAt.cell I (good_md m) (k := 7) (P := slotsT m.slots) rfl
  rw [show ldC (hp w g) 7 = _ from hl] at hld
  cases hld
  obtain ⟨xs, Fs, _, _, _, h4⟩ := hS
  have hb := (h4 b).2 (.inl rfl)
  exact ⟨fun e => hng (by rw [← e]; exact hb), hsub b hb⟩
theorem st_slot {x y : Value} {o : Nat} {L : World → Prop} (h1 : x.oneCell' = true) (h2 : y.oneCell' = true) (hx : x.cells = #[x]) (hy : y.cells = #[y]) (ok : okC (hp w b) (o + 2) = true) : effu Try.prog (Instr.storeAt 150 (.pointer (some ⟨b, o, none⟩)) (.agg #[x, y])) w L = L (put w b (((getC (hp w b)).setIfInBounds o x).setIfInBounds (o + 1) y) (getE (hp w b))) := by
  exact effu_store (v := .agg #[x, y]) sz_150 rfl (by show (List.all [x, y] _) = true; simp [h1, h2]) (by decide) ok
theorem MdI.slotSet2 (I : MdI w g m F) {p p' : NmV} (hp' : m.slots[i]? = some p) :
    ∃ b c, ldC (hp w g) (0 + 7) = some (.slice (some ⟨b, 0, none⟩) m.slots.length c) ∧ b ≠ g ∧ F b ∧ okC (hp w b) (i * 2 + 2) = true ∧
      ∃ F', MdI (put w b (((getC (hp w b)).setIfInBounds (i * 2) (.int .i64 p'.1)).setIfInBounds (i * 2 + 1) (.int .i64 p'.2)) (getE (hp w b))) g { m with slots := m.slots.set i p' } F' ∧ UpdP F F' w (put w b (((getC (hp w b)).setIfInBounds (i * 2) (.int .i64 p'.1)).setIfInBounds (i * 2 + 1) (.int .i64 p'.2)) (getE (hp w b))) := by
  obtain ⟨b, c, hl, ok, F1, h1, h2⟩ := I.slotSet hp' (p' := (p'.1, p.2)) (k := 0) (x := p'.1) (by omega) rfl
  obtain ⟨hbg, hFb⟩ := slots_blk I hl
  have hp2 : ({ m with slots := m.slots.set i (p'.1, p.2) } : MdV).slots[i]? = some (p'.1, p.2) := by
    show (m.slots.set _ _)[_]? = _
    rw [List.getElem?_set, if_pos rfl, if_pos (List.getElem?_eq_some_iff.1 hp').1]
  obtain ⟨b2, c2, hl2, ok2, F2, h3, h4⟩ := h1.slotSet hp2 (p' := p') (k := 1) (x := p'.2) (by omega) rfl
  have hln : ({ m with slots := m.slots.set i (p'.1, p.2) } : MdV).slots.length = m.slots.length := by simp
  rw [hln, put_other (Ne.symm hbg), hl] at hl2
  cases hl2
  obtain ⟨cc, e, hb, hle⟩ := okC_cases ok
  have hlt := blk_lt hb
  rw [hb] at h3 h4 ok2 h2
  rw [getC_some, getE_some, put_same hlt] at h3 h4 ok2
  rw [getC_some, getE_some, put_put] at h3 h4
  have es : ({ m with slots := m.slots.set i p' } : MdV) = { ({ m with slots := m.slots.set i (p'.1, p.2) } : MdV) with slots := ({ m with slots := m.slots.set i (p'.1, p.2) } : MdV).slots.set i p' } := by simp [List.set_set]
  refine ⟨b, c, hl, hbg, hFb, ?_, F2, ?_, ?_⟩
  · rw [hb, okC_some]
    rw [okC_some, decide_eq_true_eq] at ok2
    simp at ok2
    exact decide_eq_true ok2
  · rw [hb, es]; exact h3
  · rw [hb]
    exact UpdP.trans h2 h4
/-- a cell of a region: what it is, what comes of the model when another thing is put there -/
theorem MdI.rgPut (I : MdI w g m F) {n c : Nat} (hb : ldC (hp w g) (0 + 8) = some (.slice (some ⟨b, 0, none⟩) n c)) (hr : m.rgs[i]? = some r) (hk : k < 7) {P : Th} (hP : (rgT r)[k]? = some P) :
    ∃ v Fk, (∀ x, Fk x → F x) ∧ F b ∧ ¬ Fk b ∧ ldC (hp w b) (i * 7 + k) = some v ∧ P w Fk v ∧
      ∀ w1 F' P' v' r', UpdP Fk F' w w1 → OwnT P' → P' w1 F' v' → rgT r' = (rgT r).set k P' → okC (hp w1 b) (i * 7 + k + 1) = true ∧ v'.cells = #[v'] ∧ v'.oneCell' = true ∧
        ldC (hp (put w1 b ((getC (hp w1 b)).setIfInBounds (i * 7 + k) v') (getE (hp w1 b))) g) (0 + 8) = some (.slice (some ⟨b, 0, none⟩) n c) ∧
        ∃ F1, MdI (put w1 b ((getC (hp w1 b)).setIfInBounds (i * 7 + k) v') (getE (hp w1 b))) g { m with rgs := m.rgs.set i r' } F1 ∧ UpdP F F1 w (put w1 b ((getC (hp w1 b)).setIfInBounds (i * 7 + k) v') (getE (hp w1 b))) := by
  obtain ⟨rv, Fr, hg, hng, hsub, hld, hR, hres, _⟩ := isAt.cell I (good_md m) (k := 8) (P := rgsT m.rgs) rfl
  have hP' : (m.rgs.flatMap rgT)[i * 7 + k]? = some P := (flatM_get rgT_len m.rgs i r hr k hk).trans hP
  obtain ⟨b', c', v, Fk, hx, hFb, hnb, hsub2, hld2, hv, h3, h4⟩ := isRow.cell hR (good_rgL m.rgs) hP'
  rw [show ldC (hp w g) 8 = _ from hb, hx] at hld
  cases hld
  have hbg : b ≠ g := fun e => hng (by rw [← e]; exact hFb)
  refine ⟨v, Fk, fun x hx => hsub x (hsub2 x hx), hsub b hFb, hnb, hld2, hv, fun w1 F' P' v' r' u hg' hpp hr' => ?_⟩
  obtain ⟨ok, F1, hrow, hupd⟩ := h4 w1 F' P' v' u hg' hpp
  rw [flatM_setP rgT_len hk hr' hr] at hrow
  have hrow' : rgsT (m.rgs.set i r') (put w1 b ((getC (hp w1 b)).setIfInBounds (i * 7 + k) v') (getE (hp w1 b))) F1 rv := by rw [rgsT, List.length_set]; exact hrow
  obtain ⟨F2, e1, e2⟩ := hres _ F1 (rgsT (m.rgs.set i r')) hupd hrow'
  obtain ⟨one1, one2⟩ := hg'.one hpp
  refine ⟨ok, one1, one2, ?_, F2, e1, e2⟩
  rw [put_other (Ne.symm hbg)]
  have : hp w1 g = hp w g := u.chg.block g (by
    rcases Nat.lt_or_ge g w.heap.size with h | h
    · exact h
    · have h2 : hp w g = none := by simp [hp]; omega
      rw [h2] at hb; cases hb) fun h => hng (hsub2 g h)
  rw [this]; exact hb
/-- the row of regions: what comes of the model when another row is put there -/
theorem MdI.rgsPut (I : MdI w g m F) : ∃ v Fk, (∀ x, Fk x → F x) ∧ ldC (hp w g) (0 + 8) = some v ∧ rgsT m.rgs w Fk v ∧
    ∀ w1 F' v' rgs', UpdP Fk F' w w1 → rgsT rgs' w1 F' v' → okC (hp w1 g) (0 + 8 + 1) = true ∧ v'.cells = #[v'] ∧ v'.oneCell' = true ∧
      ∃ F1, MdI (put w1 g ((getC (hp w1 g)).setIfInBounds (0 + 8) v') (getE (hp w1 g))) g { m with rgs := rgs' } F1 ∧ UpdP F F1 w (put w1 g ((getC (hp w1 g)).setIfInBounds (0 + 8) v') (getE (hp w1 g))) := by
  obtain ⟨rv, Fr, hg, hng, hsub, hld, hR, _, hput⟩ := isAt.cell I (good_md m) (k := 8) (P := rgsT m.rgs) rfl
  refine ⟨rv, Fr, hsub, hld, hR, fun w1 F' v' rgs' u hv' => ?_⟩
  obtain ⟨ok, F1, h1, h2⟩ := hput w1 F' (rgsT rgs') v' u (good_rgs rgs') hv'
  obtain ⟨one1, one2⟩ := (good_rgs rgs').one hv'
  exact ⟨ok, one1, one2, F1, h1, h2⟩
/-- a row of regions, grown by an empty one -/
theorem rgs_grown {L : List RgV} {w' : World} {x x' : Value} {xs : List Value} (h : rgsT L w F x) (hown : w.ownsRow 0 144 7 x L.length xs) (nm : NmV) (cls : Int)
    (ho : w'.ownsRow 0 144 7 x' (L.length + 1) (xs ++ [.int .i64 nm.1, .int .i64 nm.2, .int .i64 cls, .int .i64 0, .slice none 0 0, .slice none 0 0, .slice none 0 0])) (hg : w.grownBy w' x.ownBlock) (hnb : NewB w x x') :
    ∃ F', rgsT (L ++ [⟨nm, cls, 0, [], [], []⟩]) w' F' x' ∧ UpdP F F' w w' := by
  have hy : Parts w (rgT ⟨nm, cls, 0, [], [], []⟩) [.int .i64 nm.1, .int .i64 nm.2, .int .i64 cls, .int .i64 0, .slice none 0 0, .slice none 0 0, .slice none 0 0] (fun _ => none') := by
    refine ⟨rfl, fun k P v hP hv => ?_, fun _ _ _ _ _ b hb _ => hb⟩
    have hk := (List.getElem?_eq_some_iff.1 hP).1
    rw [rgT_len] at hk
    have hk' : k = 0 ∨ k = 1 ∨ k = 2 ∨ k = 3 ∨ k = 4 ∨ k = 5 ∨ k = 6 := by omega
    rcases hk' with rfl | rfl | rfl | rfl | rfl | rfl | rfl <;> cases hP <;> cases hv
    · exact ⟨rfl, fun _ h => h⟩
    · exact ⟨rfl, fun _ h => h⟩
    · exact ⟨rfl, fun _ h => h⟩
    · exact ⟨rfl, fun _ h => h⟩
    · exact isRow.nil
    · exact isRow.nil
    · exact isRow.nil
  obtain ⟨F', h1, h2, _⟩ := isRow.grow (G := none') (m := 1) h (good_rgL L) (good_rg _) hy (fun b => ⟨fun h => h.elim, fun ⟨_, _, h⟩ => h⟩) (fun _ _ h => h) (fun xs' h' => by rw [own_unique h' hown]; exact ho) hg hnb
  refine ⟨F', ?_, ⟨h2.chg.mono fun k hk => hk.resolve_right id, fun k hk => (h2.sub k hk).imp (·.resolve_right id) id⟩⟩
  rw [rgsT, List.length_append, List.flatMap_append]
  simpa using h1
theorem rs_beq (a b : RsV) : ((a.1 == b.1) && (((a.2.1.1 == b.2.1.1) && ((a.2.1.2.1 == b.2.1.2.1) && ((a.2.1.2.2.1 == b.2.1.2.2.1) && ((a.2.1.2.2.2.1 == b.2.1.2.2.2.1) && ((a.2.1.2.2.2.2 == b.2.1.2.2.2.2) && (true)))))) && ((a.2.2.1 == b.2.2.1) && ((a.2.2.2 == b.2.2.2) && (true))))) = decide (a = b) := by
  obtain ⟨a1, ⟨a2, a3, a4, a5, a6⟩, a7, a8⟩ := a; obtain ⟨b1, ⟨b2, b3, b4, b5, b6⟩, b7, b8⟩ := b
  by_cases h1 : a1 = b1 <;> by_cases h2 : a2 = b2 <;> by_cases h3 : a3 = b3 <;> by_cases h4 : a4 = b4 <;> by_cases h5 : a5 = b5 <;> by_cases h6 : a6 = b6 <;> by_cases h7 : a7 = b7 <;> by_cases h8 : a8 = b8 <;> simp [h1, h2, h3, h4, h5, h6, h7, h8]
theorem be_rs {x y : Operand} (a b : RsV) : be Try.prog .eql 53 x y (.agg (rsC a).toArray) (.agg (rsC b).toArray) = some (.bool (decide (a = b))) := by rw [← rs_beq]; exact be_eql_53
theorem be_nrs {x y : Operand} (a b : RsV) : be Try.prog .neq 53 x y (.agg (rsC a).toArray) (.agg (rsC b).toArray) = some (.bool (!decide (a = b))) := by rw [← rs_beq]; exact be_neq_53
set_option maxHeartbeats 1000000 in
theorem c_mTaken {s rv hh : Value} (M : MdR w g m s rv hh) (Wm : Wf m K) (hK : K ≤ 1000000) (x : Int) : CallR Try.prog 129 [.pointer (some ⟨g, 0, none⟩), .int .i64 x] w fun v w' => v = .bool (takenV m x) ∧ Chg [] w w' := by
  apply F129_ok
  obtain ⟨A, c, hr⟩ := rgs_sh M.rT
  have hrl := M.rl
  rw [hr] at hrl
  have hl := Nat.le_trans Wm.rl hK
  simp -implicitDefEqProofs only [F129, wpB_some', gd_true, gd_false, gd_tf, gd_ft, gd_ut, gd_uf, gv_true, gv_false, gv_tf, gv_ft, gv_ut, gv_uf, gE_true, gE_false, gE_tf, gE_ft, gE_ut, gE_uf, gU_true, gU_false, gU_tf, gU_ft, pickv_true, pickv_false, cnd_true, cnd_false, decide_true, decide_false, Bool.not_true, Bool.not_false, pr_not, nilv_some, bp_lss, bp_leq, bp_gtr, bp_geq, be_eql, be_neq, bne_self_eq_false, beq_self_eq_true, ldC_some, Option.isNone_none, Option.isNone_some, hp_drew, nilv_some, fa_132_3, ld_130, hrl, len_130]
  have main : ∀ (d i : Nat) (w1 : World), Chg [] w w1 → (∀ (j : Nat) (r : RgV), j < i → m.rgs[j]? = some r → (isLv m r.nm && decide (x ∈ r.chunks)) = false) → i + d = m.rgs.length →
      P129_0 (.pointer (some ⟨g, 0, none⟩)) (.int .i64 x) (.slice A m.rgs.length c) (.int .i64 m.rgs.length) (.int .i64 i) w1 fun v w' => v = .bool (takenV m x) ∧ Chg [] w w' := by
    intro d
    induction d with
    | zero =>
      intro i w1 hc hn hi
      apply L129_0_ok
      have : ¬ (i : Int) < m.rgs.length := by omega
      simp -implicitDefEqProofs only [L129_0, wpB_some', gd_true, gd_false, gd_tf, gd_ft, gd_ut, gd_uf, gv_true, gv_false, gv_tf, gv_ft, gv_ut, gv_uf, gE_true, gE_false, gE_tf, gE_ft, gE_ut, gE_uf, gU_true, gU_false, gU_tf, gU_ft, pickv_true, pickv_false, cnd_true, cnd_false, decide_true, decide_false, Bool.not_true, Bool.not_false, pr_not, nilv_some, bp_lss, bp_leq, bp_gtr, bp_geq, be_eql, be_neq, bne_self_eq_false, beq_self_eq_true, ldC_some, Option.isNone_none, Option.isNone_some, hp_drew, this]
      refine ⟨?_, hc⟩
      have : takenV m x = false := by
        rw [takenV, List.any_eq_false]
        intro r hr
        obtain ⟨j, hj⟩ := List.getElem?_of_mem hr
        rw [hn j r (by have := (List.getElem?_eq_some_iff.1 hj).1; omega) hj]; simp
      rw [this]
    | succ d ih =>
      intro i w1 hc hn hi
      apply L129_0_ok
      have hlt : (i : Int) < m.rgs.length := by omega
      obtain ⟨rg, hrg⟩ : ∃ rg, m.rgs[i]? = some rg := ⟨_, List.getElem?_eq_getElem (by omega)⟩
      obtain ⟨Fr, hF⟩ := (M.keep hc).rT
      obtain ⟨b, c', hx, cv, wv, ov, R⟩ := rg_at hF hrg
      rw [hr] at hx
      cases hx
      have ia := ia_130 (b := b) (p := 0) (n := m.rgs.length) (c := c) (j := .i64) (i := (i : Int)) (by omega) (by omega)
      rw [Int.toNat_natCast, Nat.zero_add] at ia
      have lr : ldL (hp w1 b) (i * 7) 7 = some [.int .i64 rg.nm.1, .int .i64 rg.nm.2, .int .i64 rg.cls, .int .i64 rg.off, cv, wv, ov] := ldL_take 7 _ _ rfl fun j u hj => by
        have hj' := (List.getElem?_eq_some_iff.1 hj).1
        simp at hj'
        have h7 : j = 0 ∨ j = 1 ∨ j = 2 ∨ j = 3 ∨ j = 4 ∨ j = 5 ∨ j = 6 := by omega
        rcases h7 with rfl | rfl | rfl | rfl | rfl | rfl | rfl <;> cases hj
        · exact R.c0
        · exact R.c1
        · exact R.c2
        · exact R.c3
        · exact R.c4
        · exact R.c5
        · exact R.c6
      obtain ⟨Fc, hFc⟩ := R.cT
      obtain ⟨Fw, hFw⟩ := R.wT
      obtain ⟨Fo, hFo⟩ := R.oT
      have one1 := ((good_intsT _).one hFc).2
      have one2 := ((good_words _).one hFw).2
      have one3 := ((good_objs _).one hFo).2
      simp -implicitDefEqProofs only [L129_0, wpB_some', gd_true, gd_false, gd_tf, gd_ft, gd_ut, gd_uf, gv_true, gv_false, gv_tf, gv_ft, gv_ut, gv_uf, gE_true, gE_false, gE_tf, gE_ft, gE_ut, gE_uf, gU_true, gU_false, gU_tf, gU_ft, pickv_true, pickv_false, cnd_true, cnd_false, decide_true, decide_false, Bool.not_true, Bool.not_false, pr_not, nilv_some, bp_lss, bp_leq, bp_gtr, bp_geq, be_eql, be_neq, bne_self_eq_false, beq_self_eq_true, ldC_some, Option.isNone_none, Option.isNone_some, hp_drew, hlt, ia, ld_144, lr, Option.map_some, al_144]
      rw [st_144 (by rfl) (by show (List.all [_, _, _, _, cv, wv, ov] _) = true; have oi : ∀ (k : IntKind) (x : Int), (Value.int k x).oneCell' = true := fun _ _ => rfl; simp [one1, one2, one3, oi]) (by rw [alloc_heap, if_pos rfl]; rfl) (by rw [alloc_heap, if_pos rfl]; rfl), alloc_heap, if_pos rfl, getE_some]
      generalize hw2 : put (w1.alloc _) w1.heap.size _ _ = w2
      have c2 : Chg [] w1 w2 := by rw [← hw2]; exact ((Chg.refl _ _).alloc _).put (.inr (Nat.le_refl _)) _ _
      have a6 : hp w2 w1.heap.size = some (.cells #[.int .i64 rg.nm.1, .int .i64 rg.nm.2, .int .i64 rg.cls, .int .i64 rg.off, cv, wv, ov] 144) := by rw [← hw2]; exact put_same (by simp) _ _
      clear hw2
      have c02 := hc.trans c2
      have ln : ldL (some (Obj.cells #[.int .i64 rg.nm.1, .int .i64 rg.nm.2, .int .i64 rg.cls, .int .i64 rg.off, cv, wv, ov] 144)) (0 + 0) 2 = some [.int .i64 rg.nm.1, .int .i64 rg.nm.2] := rfl
      simp -implicitDefEqProofs only [fa_144_0, ld_141, a6, ln, Option.map_some, wpB_some']
      refine (c_mIsLive (M.keep c02) rg.nm).mono ?_
      rintro _ w3 ⟨rfl, c3⟩
      have c03 := c02.trans c3
      have a63 := c3.at a6 (by simp)
      have next : (isLv m rg.nm && decide (x ∈ rg.chunks)) = false → P129_0 (.pointer (some ⟨g, 0, none⟩)) (.int .i64 x) (.slice (some ⟨b, 0, none⟩) m.rgs.length c) (.int .i64 m.rgs.length) (.int .i64 ((i : Int) + 1)) w3 fun v w' => v = .bool (takenV m x) ∧ Chg [] w w' := by
        intro hf
        have := ih (i + 1) w3 c03 (fun j r hj hr => by
          rcases Nat.lt_or_ge j i with h1 | h1
          · exact hn j r h1 hr
          · have : j = i := by omega
            subst this
            rw [hrg] at hr; cases hr; exact hf) (by omega)
        rw [Int.natCast_add i 1] at this
        exact this
      cases hlv : isLv m rg.nm with
      | false =>
        simp -implicitDefEqProofs only [wpB_some', gd_true, gd_false, gd_tf, gd_ft, gd_ut, gd_uf, gv_true, gv_false, gv_tf, gv_ft, gv_ut, gv_uf, gE_true, gE_false, gE_tf, gE_ft, gE_ut, gE_uf, gU_true, gU_false, gU_tf, gU_ft, pickv_true, pickv_false, cnd_true, cnd_false, decide_true, decide_false, Bool.not_true, Bool.not_false, pr_not, nilv_some, bp_lss, bp_leq, bp_gtr, bp_geq, be_eql, be_neq, bne_self_eq_false, beq_self_eq_true, ldC_some, Option.isNone_none, Option.isNone_some, hp_drew, bp_add, wrapi (n := (i : Int) + 1) (by omega) (by omega)]
        exact next (by rw [hlv]; rfl)
      | true =>
        obtain ⟨A', c', hcv, hR⟩ := ints_sh ⟨_, hFc⟩
        have e4 : (#[Value.int .i64 rg.nm.1, .int .i64 rg.nm.2, .int .i64 rg.cls, .int .i64 rg.off, cv, wv, ov])[0 + 4]? = some (.slice A' rg.chunks.length c') := by rw [hcv]; rfl
        simp -implicitDefEqProofs only [wpB_some', gd_true, gd_false, gd_tf, gd_ft, gd_ut, gd_uf, gv_true, gv_false, gv_tf, gv_ft, gv_ut, gv_uf, gE_true, gE_false, gE_tf, gE_ft, gE_ut, gE_uf, gU_true, gU_false, gU_tf, gU_ft, pickv_true, pickv_false, cnd_true, cnd_false, decide_true, decide_false, Bool.not_true, Bool.not_false, pr_not, nilv_some, bp_lss, bp_leq, bp_gtr, bp_geq, be_eql, be_neq, bne_self_eq_false, beq_self_eq_true, ldC_some, Option.isNone_none, Option.isNone_some, hp_drew, fa_144_3, ld_23, a63, e4]
        apply F112_ok
        simp -implicitDefEqProofs only [F112]
        have hR3 : RdI .i64 w3 A' rg.chunks := hR.keep (c2.trans c3).below
        have hcl : rg.chunks.length ≤ 1000000 := Nat.le_trans (Wm.rg rg (List.mem_of_getElem? hrg)).cl hK
        refine (c_iIndex (c := c') hR3 hcl x).step ?_
        have hge : decide (ixOf rg.chunks x ≥ 0) = decide (x ∈ rg.chunks) := ixOf_mem _ _
        simp -implicitDefEqProofs only [wpB_some', gd_true, gd_false, gd_tf, gd_ft, gd_ut, gd_uf, gv_true, gv_false, gv_tf, gv_ft, gv_ut, gv_uf, gE_true, gE_false, gE_tf, gE_ft, gE_ut, gE_uf, gU_true, gU_false, gU_tf, gU_ft, pickv_true, pickv_false, cnd_true, cnd_false, decide_true, decide_false, Bool.not_true, Bool.not_false, pr_not, nilv_some, bp_lss, bp_leq, bp_gtr, bp_geq, be_eql, be_neq, bne_self_eq_false, beq_self_eq_true, ldC_some, Option.isNone_none, Option.isNone_some, hp_drew, bp_geq]
        by_cases hm : x ∈ rg.chunks
        · rw [decide_eq_true hm] at hge
          have hge' := of_decide_eq_true hge
          simp -implicitDefEqProofs only [wpB_some', gd_true, gd_false, gd_tf, gd_ft, gd_ut, gd_uf, gv_true, gv_false, gv_tf, gv_ft, gv_ut, gv_uf, gE_true, gE_false, gE_tf, gE_ft, gE_ut, gE_uf, gU_true, gU_false, gU_tf, gU_ft, pickv_true, pickv_false, cnd_true, cnd_false, decide_true, decide_false, Bool.not_true, Bool.not_false, pr_not, nilv_some, bp_lss, bp_leq, bp_gtr, bp_geq, be_eql, be_neq, bne_self_eq_false, beq_self_eq_true, ldC_some, Option.isNone_none, Option.isNone_some, hp_drew, hge', bp_geq]
          refine ⟨?_, c03⟩
          have : takenV m x = true := by
            rw [takenV, List.any_eq_true]
            exact ⟨rg, List.mem_of_getElem? hrg, by rw [hlv, decide_eq_true hm]; rfl⟩
          rw [this]
        · rw [decide_eq_false hm] at hge
          have hge' := of_decide_eq_false hge
          simp -implicitDefEqProofs only [wpB_some', gd_true, gd_false, gd_tf, gd_ft, gd_ut, gd_uf, gv_true, gv_false, gv_tf, gv_ft, gv_ut, gv_uf, gE_true, gE_false, gE_tf, gE_ft, gE_ut, gE_uf, gU_true, gU_false, gU_tf, gU_ft, pickv_true, pickv_false, cnd_true, cnd_false, decide_true, decide_false, Bool.not_true, Bool.not_false, pr_not, nilv_some, bp_lss, bp_leq, bp_gtr, bp_geq, be_eql, be_neq, bne_self_eq_false, beq_self_eq_true, ldC_some, Option.isNone_none, Option.isNone_some, hp_drew, hge', bp_geq, bp_add, wrapi (n := (i : Int) + 1) (by omega) (by omega)]
          exact next (by rw [decide_eq_false hm]; simp)
  exact main m.rgs.length 0 w (Chg.refl _ _) (fun j r hj => by omega) (by omega)
end
end Go.Proofs.Ytgamnncehjcdiaa

namespace Go.Proofs.Ytgamnncehjcdiaa
open Go Ev Go.RowKit
set_option linter.unusedSimpArgs false
set_option linter.unusedVariables false
set_option maxRecDepth 10000

section
variable {W w : World} {g g5 : Nat} {m : MdV} {F : Fp} {K : Nat} {r : RsV} {cls : Int} {p : NmV}
theorem MdI.notF (I : MdI W g m F) {x : Nat} (h : W.heap.size ≤ x) : ¬ F x := fun hx => by have := isAt.lt I (good_md m) x hx; omega
theorem rs_0 (r : RsV) : (rsC r).toArray[0 + 0]? = some (.int .i64 r.1) := rfl
theorem rs_1 (r : RsV) : (rsC r).toArray[0 + 1 + 0]? = some (.int .i64 r.2.1.1) := rfl
theorem rs_3 (r : RsV) : (rsC r).toArray[0 + 1 + 2]? = some (.int .i64 r.2.1.2.2.1) := rfl
theorem rs_h (r : RsV) (e : TypeId) : ldL (some (Obj.cells (rsC r).toArray e)) (0 + 1) 5 = some (hnC r.2.1) := rfl
set_option maxHeartbeats 1000000 in
theorem l_creates0 (hc : Chg [] W w) (IW : MdI W g m F) (Wm : Wf m K) (hK : K + 1 ≤ 1000000) (n5 : W.heap.size ≤ g5) (h5 : hp w g5 = some (.cells (rsC r).toArray 53)) (r7 : r ≠ codeR 7) (hs : 0 ≤ r.2.1.1 ∧ r.2.1.1 < m.slots.length) (hp' : m.slots[r.2.1.1.toNat]? = some p) (p0 : p.1 = 0) :
    P101_0 (.pointer (some ⟨g, 0, none⟩)) (.int .i64 cls) (.pointer (some ⟨g5, 0, none⟩)) (.int .i64 (laterV p.2)) w fun v w' => v = .bool (createsV m cls r).1 ∧ ∃ F', MdI w' g (createsV m cls r).2 F' ∧ UpdP F F' W w' := by
  apply L101_0_ok
  have I := IW.keep hc
  have cv : createsV m cls r = if r = (0, (r.2.1.1, laterV p.2, 0, 0, 0), 0, 0) then
        (true, { m with slots := m.slots.set r.2.1.1.toNat (1, laterV p.2), rgs := m.rgs ++ [⟨(r.2.1.1, laterV p.2), cls, 0, [], [], []⟩] }) else (false, m) := by
    rw [createsV, if_neg r7, if_pos hs, hp']
    simp only [ne_eq, p0, not_true_eq_false, if_false]
  have hbe : be Try.prog .neq 53 (.tmp 54) (.tmp 60) (.agg (rsC r).toArray) (.agg #[.int .i64 0, .int .i64 r.2.1.1, .int .i64 (laterV p.2), .int .i64 0, .int .i64 0, .int .i64 0, .int .i64 0, .int .u64 0]) = some (.bool (!decide (r = (0, (r.2.1.1, laterV p.2, 0, 0, 0), 0, 0)))) := be_nrs r (0, (r.2.1.1, laterV p.2, 0, 0, 0), 0, 0)
  simp -implicitDefEqProofs only [L101_0, ld_res h5, wpB_some', fa_53_1, fa_51_0, ld_3, h5, ldC_some, rs_1, bd_51_0_1, bd_53_1, hbe]
  by_cases hr : r = (0, (r.2.1.1, laterV p.2, 0, 0, 0), 0, 0)
  · rw [if_pos hr] at cv
    rw [cv]
    have cd : Chg [] w w.drew := (Chg.refl _ _).drew
    obtain ⟨b1, c1, hl, hbg, hFb, ok, F1, h1, h2⟩ := (I.keep cd).slotSet2 (p' := (1, laterV p.2)) hp'
    have ia := ia_128 (b := b1) (p := 0) (n := m.slots.length) (c := c1) (j := .i64) (i := r.2.1.1) hs.1 hs.2
    rw [Nat.zero_add] at ia
    simp -implicitDefEqProofs only [decide_eq_true hr, wpB_some', gd_true, gd_false, gd_tf, gd_ft, gd_ut, gd_uf, gv_true, gv_false, gv_tf, gv_ft, gv_ut, gv_uf, gE_true, gE_false, gE_tf, gE_ft, gE_ut, gE_uf, gU_true, gU_false, gU_tf, gU_ft, pickv_true, pickv_false, cnd_true, cnd_false, decide_true, decide_false, Bool.not_true, Bool.not_false, pr_not, nilv_some, bp_lss, bp_leq, bp_gtr, bp_geq, be_eql, be_neq, bne_self_eq_false, beq_self_eq_true, ldC_some, Option.isNone_none, Option.isNone_some, hp_drew, fa_132_2, ld_128, show ldC (hp w g) (0 + 7) = _ from hl, h5, rs_1, bd_150_0_1, ia]
    rw [st_slot (o := r.2.1.1.toNat * 2) rfl rfl rfl rfl ok]
    have k5 := h2.keep (show hp w.drew g5 = _ from h5) (IW.notF n5)
    generalize put w.drew b1 _ _ = w1 at *
    have cd1 : Chg [] w1 w1.drew := (Chg.refl _ _).drew
    have k5d : hp w1.drew g5 = some (.cells (rsC r).toArray 53) := k5.1
    have fin : ∀ w2, Chg [] w1 w2 → ∃ (v : Value) (Fk : Fp), ldC (hp w2 g) (0 + 8) = some v ∧ (∀ x, Fk x → F1 x) ∧
        ∀ {Q : Value → World → Prop}, (∀ x' w3, okC (hp w3 g) (0 + 8 + 1) = true → x'.cells = #[x'] → x'.oneCell' = true →
            (∃ F', MdI (put w3 g ((getC (hp w3 g)).setIfInBounds (0 + 8) x') (getE (hp w3 g))) g { m with slots := m.slots.set r.2.1.1.toNat (1, laterV p.2), rgs := m.rgs ++ [⟨(r.2.1.1, laterV p.2), cls, 0, [], [], []⟩] } F' ∧ UpdP F F' W (put w3 g ((getC (hp w3 g)).setIfInBounds (0 + 8) x') (getE (hp w3 g)))) → Q x' w3) →
          effv Try.prog (Instr.buildSlice 130 1 #[(0, .agg #[.int .i64 r.2.1.1, .int .i64 (laterV p.2), .int .i64 cls, .int .i64 0, .slice none 0 0, .slice none 0 0, .slice none 0 0])]) w2 fun y w3 => effv Try.prog (Builtin.append_ #[130, 130] 130 #[v, y]) w3 Q := by
      intro w2 c2
      obtain ⟨v, Fk, hsub, hld, hR, hput⟩ := (h1.keep c2).rgsPut
      refine ⟨v, Fk, hld, hsub, fun {Q} hQ => ?_⟩
      obtain ⟨xs, Fs, q1, q2, q3, q4⟩ := hR
      have hlen : ({ m with slots := m.slots.set r.2.1.1.toNat (1, laterV p.2) } : MdV).rgs.length = m.rgs.length := rfl
      rw [hlen] at q1
      have hrl := Wm.rl
      refine ps_130 (fun u hu => by simp only [List.mem_cons, List.not_mem_nil, or_false] at hu; rcases hu with rfl | rfl | rfl | rfl | rfl | rfl | rfl <;> rfl) q1 (by omega) (Nat.zero_le _) fun x' w3 ho hg hnb => ?_
      obtain ⟨F3, r1, r2⟩ := rgs_grown (nm := (r.2.1.1, laterV p.2)) (cls := cls) (L := m.rgs) ⟨xs, Fs, q1, q2, q3, q4⟩ q1 ho hg hnb
      obtain ⟨ok3, s1, s2, F4, t1, t2⟩ := hput w3 F3 x' _ r2 r1
      exact hQ x' w3 ok3 s1 s2 ⟨F4, t1, (h2.pre (hc.trans cd)).trans (t2.pre c2)⟩
    obtain ⟨v0, Fk0, hv0, hs0, _⟩ := fin w1 (Chg.refl _ _)
    have en : nmOf r.2.1 = (r.2.1.1, laterV p.2) := by
      have := congrArg (fun x : RsV => x.2.1.2.1) hr
      simp only at this
      rw [nmOf, this]
    constructor
    · simp -implicitDefEqProofs only [wpB_some', gd_true, gd_false, gd_tf, gd_ft, gd_ut, gd_uf, gv_true, gv_false, gv_tf, gv_ft, gv_ut, gv_uf, gE_true, gE_false, gE_tf, gE_ft, gE_ut, gE_uf, gU_true, gU_false, gU_tf, gU_ft, pickv_true, pickv_false, cnd_true, cnd_false, decide_true, decide_false, Bool.not_true, Bool.not_false, pr_not, nilv_some, bp_lss, bp_leq, bp_gtr, bp_geq, be_eql, be_neq, bne_self_eq_false, beq_self_eq_true, ldC_some, Option.isNone_none, Option.isNone_some, hp_drew, fa_132_3, ld_130, hv0, fa_53_1, ld_51, k5.1, rs_h, Option.map_some]
      refine (c_mNameOf r.2.1 w1.drew).mono ?_
      rintro _ w2 ⟨rfl, c2⟩
      obtain ⟨v, Fk, hv, hsub, hf⟩ := fin w2 (cd1.trans c2)
      rw [chg_ld (cd1.trans c2) hv0] at hv
      cases hv
      have en' : (nmC (r.2.1.1, r.2.1.2.1)).toArray = #[.int .i64 r.2.1.1, .int .i64 (laterV p.2)] := by
        have := congrArg (fun x : NmV => (nmC x).toArray) en
        exact this
      simp -implicitDefEqProofs only [wpB_some', gd_true, gd_false, gd_tf, gd_ft, gd_ut, gd_uf, gv_true, gv_false, gv_tf, gv_ft, gv_ut, gv_uf, gE_true, gE_false, gE_tf, gE_ft, gE_ut, gE_uf, gU_true, gU_false, gU_tf, gU_ft, pickv_true, pickv_false, cnd_true, cnd_false, decide_true, decide_false, Bool.not_true, Bool.not_false, pr_not, nilv_some, bp_lss, bp_leq, bp_gtr, bp_geq, be_eql, be_neq, bne_self_eq_false, beq_self_eq_true, ldC_some, Option.isNone_none, Option.isNone_some, hp_drew, en', bd_144_0_1]
      refine hf fun x' w3 ok s1 s2 hx => ?_
      rw [st_130 (o := 0 + 8) s1 s2 ok]
      apply L101_1_ok
      exact ⟨rfl, hx⟩
    · simp -implicitDefEqProofs only [wpB_some', gd_true, gd_false, gd_tf, gd_ft, gd_ut, gd_uf, gv_true, gv_false, gv_tf, gv_ft, gv_ut, gv_uf, gE_true, gE_false, gE_tf, gE_ft, gE_ut, gE_uf, gU_true, gU_false, gU_tf, gU_ft, pickv_true, pickv_false, cnd_true, cnd_false, decide_true, decide_false, Bool.not_true, Bool.not_false, pr_not, nilv_some, bp_lss, bp_leq, bp_gtr, bp_geq, be_eql, be_neq, bne_self_eq_false, beq_self_eq_true, ldC_some, Option.isNone_none, Option.isNone_some, hp_drew, fa_132_3, fa_53_1, ld_51, k5.1, rs_h, Option.map_some]
      refine (c_mNameOf r.2.1 w1.drew).mono ?_
      rintro _ w2 ⟨rfl, c2⟩
      obtain ⟨v, Fk, hv, hsub, hf⟩ := fin w2 (cd1.trans c2)
      have en' : (nmC (r.2.1.1, r.2.1.2.1)).toArray = #[.int .i64 r.2.1.1, .int .i64 (laterV p.2)] := by
        have := congrArg (fun x : NmV => (nmC x).toArray) en
        exact this
      simp -implicitDefEqProofs only [wpB_some', gd_true, gd_false, gd_tf, gd_ft, gd_ut, gd_uf, gv_true, gv_false, gv_tf, gv_ft, gv_ut, gv_uf, gE_true, gE_false, gE_tf, gE_ft, gE_ut, gE_uf, gU_true, gU_false, gU_tf, gU_ft, pickv_true, pickv_false, cnd_true, cnd_false, decide_true, decide_false, Bool.not_true, Bool.not_false, pr_not, nilv_some, bp_lss, bp_leq, bp_gtr, bp_geq, be_eql, be_neq, bne_self_eq_false, beq_self_eq_true, ldC_some, Option.isNone_none, Option.isNone_some, hp_drew, en', bd_144_0_1, ld_130, hv]
      refine hf fun x' w3 ok s1 s2 hx => ?_
      rw [st_130 (o := 0 + 8) s1 s2 ok]
      apply L101_1_ok
      exact ⟨rfl, hx⟩
  · rw [if_neg hr] at cv
    simp -implicitDefEqProofs only [decide_eq_false hr, wpB_some', gd_true, gd_false, gd_tf, gd_ft, gd_ut, gd_uf, gv_true, gv_false, gv_tf, gv_ft, gv_ut, gv_uf, gE_true, gE_false, gE_tf, gE_ft, gE_ut, gE_uf, gU_true, gU_false, gU_tf, gU_ft, pickv_true, pickv_false, cnd_true, cnd_false, decide_true, decide_false, Bool.not_true, Bool.not_false, pr_not, nilv_some, bp_lss, bp_leq, bp_gtr, bp_geq, be_eql, be_neq, bne_self_eq_false, beq_self_eq_true, ldC_some, Option.isNone_none, Option.isNone_some, hp_drew]
    rw [cv]
    exact ⟨rfl, F, I, UpdP.of0 hc⟩
set_option maxHeartbeats 1000000 in
theorem c_mCreates (I : MdI w g m F) (Wm : Wf m K) (hK : K + 1 ≤ 1000000) (cls : Int) (r : RsV) :
    CallR Try.prog 101 [.pointer (some ⟨g, 0, none⟩), .int .i64 cls, .agg (rsC r).toArray] w fun v w' => v = .bool (createsV m cls r).1 ∧ ∃ F', MdI w' g (createsV m cls r).2 F' ∧ UpdP F F' w w' := by
  apply F101_ok
  have h5 : hp (w.alloc (.cells (rsC r).toArray 53)) w.heap.size = some (.cells (rsC r).toArray 53) := by rw [alloc_heap, if_pos rfl]
  have c0 : Chg [] w (w.alloc (.cells (rsC r).toArray 53)) := (Chg.refl _ _).alloc _
  simp -implicitDefEqProofs only [F101, effv_box, cells_agg]
  generalize w.alloc (.cells (rsC r).toArray 53) = w0 at *
  have hsz : w.heap.size ≤ w.heap.size := Nat.le_refl _
  generalize hg5 : w.heap.size = g5 at *
  have n5 : w.heap.size ≤ g5 := by omega
  obtain ⟨_, _, _, M⟩ := (I.keep c0).rd
  have hbe : be Try.prog .eql 53 (.tmp 9) (.tmp 10) (.agg (rsC r).toArray) (.agg #[.int .i64 7, .int .i64 0, .int .i64 0, .int .i64 0, .int .i64 0, .int .i64 0, .int .i64 0, .int .u64 0]) = some (.bool (decide (r = codeR 7))) := be_rs r (codeR 7)
  simp -implicitDefEqProofs only [ld_res h5, wpB_some', bd_53_0, hbe]
  by_cases r7 : r = codeR 7
  · have cv : createsV m cls r = (m.loose || decide (spareN m.slots = 0), m) := by rw [createsV, if_pos r7]
    simp -implicitDefEqProofs only [decide_eq_true r7, wpB_some', gd_true, gd_false, gd_tf, gd_ft, gd_ut, gd_uf, gv_true, gv_false, gv_tf, gv_ft, gv_ut, gv_uf, gE_true, gE_false, gE_tf, gE_ft, gE_ut, gE_uf, gU_true, gU_false, gU_tf, gU_ft, pickv_true, pickv_false, cnd_true, cnd_false, decide_true, decide_false, Bool.not_true, Bool.not_false, pr_not, nilv_some, bp_lss, bp_leq, bp_gtr, bp_geq, be_eql, be_neq, bne_self_eq_false, beq_self_eq_true, ldC_some, Option.isNone_none, Option.isNone_some, hp_drew, fa_132_1, ld_4, M.l]
    rw [cv]
    by_cases hlo : m.loose = true
    · simp -implicitDefEqProofs only [hlo, wpB_some', gd_true, gd_false, gd_tf, gd_ft, gd_ut, gd_uf, gv_true, gv_false, gv_tf, gv_ft, gv_ut, gv_uf, gE_true, gE_false, gE_tf, gE_ft, gE_ut, gE_uf, gU_true, gU_false, gU_tf, gU_ft, pickv_true, pickv_false, cnd_true, cnd_false, decide_true, decide_false, Bool.not_true, Bool.not_false, pr_not, nilv_some, bp_lss, bp_leq, bp_gtr, bp_geq, be_eql, be_neq, bne_self_eq_false, beq_self_eq_true, ldC_some, Option.isNone_none, Option.isNone_some, hp_drew]
      exact ⟨by simp, F, I.keep c0, UpdP.of0 c0⟩
    · have hlf : m.loose = false := by simpa using hlo
      simp -implicitDefEqProofs only [hlf, wpB_some', gd_true, gd_false, gd_tf, gd_ft, gd_ut, gd_uf, gv_true, gv_false, gv_tf, gv_ft, gv_ut, gv_uf, gE_true, gE_false, gE_tf, gE_ft, gE_ut, gE_uf, gU_true, gU_false, gU_tf, gU_ft, pickv_true, pickv_false, cnd_true, cnd_false, decide_true, decide_false, Bool.not_true, Bool.not_false, pr_not, nilv_some, bp_lss, bp_leq, bp_gtr, bp_geq, be_eql, be_neq, bne_self_eq_false, beq_self_eq_true, ldC_some, Option.isNone_none, Option.isNone_some, hp_drew]
      refine (c_mSpare M Wm.sl).mono ?_
      rintro _ w1 ⟨rfl, c1⟩
      simp -implicitDefEqProofs only [wpB_some', gd_true, gd_false, gd_tf, gd_ft, gd_ut, gd_uf, gv_true, gv_false, gv_tf, gv_ft, gv_ut, gv_uf, gE_true, gE_false, gE_tf, gE_ft, gE_ut, gE_uf, gU_true, gU_false, gU_tf, gU_ft, pickv_true, pickv_false, cnd_true, cnd_false, decide_true, decide_false, Bool.not_true, Bool.not_false, pr_not, nilv_some, bp_lss, bp_leq, bp_gtr, bp_geq, be_eql, be_neq, bne_self_eq_false, beq_self_eq_true, ldC_some, Option.isNone_none, Option.isNone_some, hp_drew]
      refine ⟨?_, F, I.keep (c0.trans c1), UpdP.of0 (c0.trans c1)⟩
      by_cases hz : spareN m.slots = 0
      · rw [hz]; rfl
      · rw [eqf (show (spareN m.slots : Int) ≠ 0 by omega), decide_eq_false hz]; rfl
  · have cd : Chg [] w0 w0.drew := (Chg.refl _ _).drew
    have cvn : ¬ (0 ≤ r.2.1.1 ∧ r.2.1.1 < m.slots.length) → createsV m cls r = (false, m) := fun h => by rw [createsV, if_neg r7, if_neg h]
    have I1 := I.keep (c0.trans cd)
    have MD := M.keep cd
    simp -implicitDefEqProofs only [decide_eq_false r7, wpB_some', gd_true, gd_false, gd_tf, gd_ft, gd_ut, gd_uf, gv_true, gv_false, gv_tf, gv_ft, gv_ut, gv_uf, gE_true, gE_false, gE_tf, gE_ft, gE_ut, gE_uf, gU_true, gU_false, gU_tf, gU_ft, pickv_true, pickv_false, cnd_true, cnd_false, decide_true, decide_false, Bool.not_true, Bool.not_false, pr_not, nilv_some, bp_lss, bp_leq, bp_gtr, bp_geq, be_eql, be_neq, bne_self_eq_false, beq_self_eq_true, ldC_some, Option.isNone_none, Option.isNone_some, hp_drew, fa_53_1, fa_51_0, ld_3, h5, rs_1]
    refine (c_mSlot MD r.2.1.1).step ?_
    by_cases hs : 0 ≤ r.2.1.1 ∧ r.2.1.1 < m.slots.length
    · obtain ⟨p, hp'⟩ : ∃ p, m.slots[r.2.1.1.toNat]? = some p := ⟨_, List.getElem?_eq_getElem (by omega)⟩
      obtain ⟨A, c, hsl, hR⟩ := slots_sh MD.sT
      obtain ⟨b, o, q1, q2, q3⟩ := slot_at (c := c) hR hp'
      have hcast : ((r.2.1.1.toNat : Nat) : Int) = r.2.1.1 := by omega
      rw [hcast] at q1
      have l7 := MD.sl
      rw [hsl] at l7
      have l7' : ldC (hp w0 g) (0 + 7) = some (.slice A m.slots.length c) := l7
      have q2' : ldC (hp w0 b) (o + 0) = some (.int .i64 p.1) := q2
      have q3' : ldC (hp w0 b) (o + 1) = some (.int .i64 p.2) := q3
      by_cases p0 : p.1 = 0
      · have pg := Wm.sg p (List.mem_of_getElem? hp')
        have e0 : (p.1 != 0) = false := by rw [p0]; rfl
        have fin : ∀ x, laterV p.2 = x → P101_0 (.pointer (some ⟨g, 0, none⟩)) (.int .i64 cls) (.pointer (some ⟨g5, 0, none⟩)) (.int .i64 x) w0.drew.drew fun v w' => v = .bool (createsV m cls r).1 ∧ ∃ F', MdI w' g (createsV m cls r).2 F' ∧ UpdP F F' w w' := by
          rintro x rfl
          exact l_creates0 (c0.drew.drew) I Wm hK n5 (show hp w0.drew.drew g5 = _ from h5) r7 hs hp' p0
        by_cases hlt : p.2 < 4294967295
        · have f := fin (p.2 + 1) (by rw [laterV, if_pos hlt])
          simp -implicitDefEqProofs only [wpB_some', gd_true, gd_false, gd_tf, gd_ft, gd_ut, gd_uf, gv_true, gv_false, gv_tf, gv_ft, gv_ut, gv_uf, gE_true, gE_false, gE_tf, gE_ft, gE_ut, gE_uf, gU_true, gU_false, gU_tf, gU_ft, pickv_true, pickv_false, cnd_true, cnd_false, decide_true, decide_false, Bool.not_true, Bool.not_false, pr_not, nilv_some, bp_lss, bp_leq, bp_gtr, bp_geq, be_eql, be_neq, bne_self_eq_false, beq_self_eq_true, ldC_some, Option.isNone_none, Option.isNone_some, hp_drew, hs, and_self, decide_true, fa_132_2, ld_128, l7', fa_53_1, fa_51_0, ld_3, h5, rs_1, q1, fa_150_0, fa_150_1, q2', q3', e0, hlt, bp_add, wrapi (n := p.2 + 1) (by omega) (by omega)]
          exact f
        · have f := fin 0 (by rw [laterV, if_neg hlt])
          simp -implicitDefEqProofs only [wpB_some', gd_true, gd_false, gd_tf, gd_ft, gd_ut, gd_uf, gv_true, gv_false, gv_tf, gv_ft, gv_ut, gv_uf, gE_true, gE_false, gE_tf, gE_ft, gE_ut, gE_uf, gU_true, gU_false, gU_tf, gU_ft, pickv_true, pickv_false, cnd_true, cnd_false, decide_true, decide_false, Bool.not_true, Bool.not_false, pr_not, nilv_some, bp_lss, bp_leq, bp_gtr, bp_geq, be_eql, be_neq, bne_self_eq_false, beq_self_eq_true, ldC_some, Option.isNone_none, Option.isNone_some, hp_drew, hs, and_self, decide_true, fa_132_2, ld_128, l7', fa_53_1, fa_51_0, ld_3, h5, rs_1, q1, fa_150_0, fa_150_1, q2', q3', e0, hlt]
          exact f
      · have e0 : (p.1 != 0) = true := bne_iff_ne.2 p0
        have cv : createsV m cls r = (false, m) := by
          rw [createsV, if_neg r7, if_pos hs, hp']
          simp only [ne_eq, p0, not_false_eq_true, if_true]
        simp -implicitDefEqProofs only [wpB_some', gd_true, gd_false, gd_tf, gd_ft, gd_ut, gd_uf, gv_true, gv_false, gv_tf, gv_ft, gv_ut, gv_uf, gE_true, gE_false, gE_tf, gE_ft, gE_ut, gE_uf, gU_true, gU_false, gU_tf, gU_ft, pickv_true, pickv_false, cnd_true, cnd_false, decide_true, decide_false, Bool.not_true, Bool.not_false, pr_not, nilv_some, bp_lss, bp_leq, bp_gtr, bp_geq, be_eql, be_neq, bne_self_eq_false, beq_self_eq_true, ldC_some, Option.isNone_none, Option.isNone_some, hp_drew, hs, and_self, decide_true, fa_132_2, ld_128, l7', fa_53_1, fa_51_0, ld_3, h5, rs_1, q1, fa_150_0, q2', e0]
        rw [cv]
        exact ⟨by first | rfl | trivial, F, I1, UpdP.of0 (c0.trans cd)⟩
    · simp -implicitDefEqProofs only [wpB_some', gd_true, gd_false, gd_tf, gd_ft, gd_ut, gd_uf, gv_true, gv_false, gv_tf, gv_ft, gv_ut, gv_uf, gE_true, gE_false, gE_tf, gE_ft, gE_ut, gE_uf, gU_true, gU_false, gU_tf, gU_ft, pickv_true, pickv_false, cnd_true, cnd_false, decide_true, decide_false, Bool.not_true, Bool.not_false, pr_not, nilv_some, bp_lss, bp_leq, bp_gtr, bp_geq, be_eql, be_neq, bne_self_eq_false, beq_self_eq_true, ldC_some, Option.isNone_none, Option.isNone_some, hp_drew, hs, decide_false]
      rw [cvn hs]
      exact ⟨by first | rfl | trivial, F, I1, UpdP.of0 (c0.trans cd)⟩
end
end Go.Proofs.Ytgamnncehjcdiaa

namespace Go.Proofs.Ytgamnncehjcdiaa
open Go Ev Go.RowKit
set_option linter.unusedSimpArgs false
set_option linter.unusedVariables false
set_option maxRecDepth 10000

section
variable {W w : World} {g g7 g11 b c i : Nat} {m : MdV} {F F0 : Fp} {K : Nat} {r : RsV} {x : RgV} {want : HnV} {need : Int}
theorem ld_hn {h : HnV} {g : Nat} {e : TypeId} (hb : hp w g = some (.cells (hnC h).toArray e)) : ldv Try.prog 51 (.pointer (some ⟨g, 0, none⟩)) w = some (.agg (hnC h).toArray) := ldv_whole (t := 51) (c := (hnC h).toArray) ag_51 (show (Try.prog.info? 51).map (·.size) = some (hnC h).toArray.size from sz_51) hb
theorem set_rg {i : Nat} {x y : RgV} (m : MdV) : { ({ m with rgs := m.rgs.set i x } : MdV) with rgs := ({ m with rgs := m.rgs.set i x } : MdV).rgs.set i y } = { m with rgs := m.rgs.set i y } := by simp [List.set_set]
theorem at_set {i : Nat} {x y : RgV} (hi : m.rgs[i]? = some x) : ({ m with rgs := m.rgs.set i y } : MdV).rgs[i]? = some y := by
  show (m.rgs.set i y)[i]? = _
  rw [List.getElem?_set, if_pos rfl, if_pos (List.getElem?_eq_some_iff.1 hi).1]
theorem own_alloc_u64s (n : Nat) (hn : n ≤ maxLen) : wordT (List.replicate n 0) (w.alloc (.cells (u64s (List.replicate n 0)).toArray 38)) (fun b => b = w.heap.size) (.slice (some ⟨w.heap.size, 0, none⟩) n n) := by
  have h : (w.alloc (.cells (u64s (List.replicate n 0)).toArray 38)).ownsRow 0 38 1 (.slice (some ⟨w.heap.size, 0, none⟩) n n) n (u64s (List.replicate n 0)) :=
    ⟨by simp [u64s], .inr ⟨w.heap.size, n, _, rfl, Nat.zero_le _, heap_alloc_new w _, Nat.le_refl _, hn, by simp [u64s], by simp [u64s]⟩⟩
  have h2 := own_flat h
  have e : (fun b => (Value.slice (some ⟨w.heap.size, 0, none⟩) n n).ownBlock = some b) = (fun b => b = w.heap.size) := by
    funext b
    simp [Value.ownBlock, eq_comm]
  rw [e] at h2
  rw [wordT, List.length_replicate]
  exact h2
set_option maxHeartbeats 1000000 in
theorem l_gives1 (U : UpdP F0 F W w) (I : MdI w g m F) (hb : ldC (hp w g) (0 + 8) = some (.slice (some ⟨b, 0, none⟩) m.rgs.length c)) (hi : m.rgs[i]? = some x) (hol : x.objs.length ≤ 1000000) (h11 : hp w g11 = some (.cells (hnC want).toArray 51)) :
    P102_1 (.pointer (some ⟨b, i * 7, none⟩)) (.pointer (some ⟨g11, 0, none⟩)) w fun v w' => v = .bool true ∧ ∃ F', MdI w' g { m with rgs := m.rgs.set i { x with objs := x.objs ++ [want] } } F' ∧ UpdP F0 F' W w' := by
  apply L102_1_ok
  have cd : Chg [] w w.drew := (Chg.refl _ _).drew
  obtain ⟨v, Fk, hsub, hFb, hnb, hld, hv, hput⟩ := (I.keep cd).rgPut (hb := chg_ld cd hb) hi (k := 6) (by omega) (P := objsT x.objs) rfl
  have h11d : hp w.drew g11 = some (.cells (hnC want).toArray 51) := h11
  simp -implicitDefEqProofs only [L102_1, wpB_some', gd_true, gd_false, gd_tf, gd_ft, gd_ut, gd_uf, gv_true, gv_false, gv_tf, gv_ft, gv_ut, gv_uf, gE_true, gE_false, gE_tf, gE_ft, gE_ut, gE_uf, gU_true, gU_false, gU_tf, gU_ft, pickv_true, pickv_false, cnd_true, cnd_false, decide_true, decide_false, Bool.not_true, Bool.not_false, pr_not, nilv_some, bp_lss, bp_leq, bp_gtr, bp_geq, be_eql, be_neq, bne_self_eq_false, beq_self_eq_true, ldC_some, Option.isNone_none, Option.isNone_some, hp_drew, fa_144_5, ld_90, show ldC (hp w b) (i * 7 + 6) = _ from hld, ld_hn h11d]
  obtain ⟨hown, _⟩ := flat_own hv
  refine ps_90 (fun u hu => by simp only [List.mem_cons, List.not_mem_nil, or_false] at hu; rcases hu with rfl | rfl | rfl | rfl | rfl <;> rfl) hown (by omega) (Nat.zero_le _) fun x' w2 ho hg hnb => ?_
  obtain ⟨F2, hr2, hu2⟩ := flat_grown (vs := hnC want) hv ho hg hnb
  have hr2' : objsT (x.objs ++ [want]) w2 F2 x' := by
    rw [objsT, List.length_append]
    have e : (x.objs ++ [want]).flatMap hnC = x.objs.flatMap hnC ++ hnC want := by simp
    rw [e]; exact hr2
  obtain ⟨ok, s1, s2, _, F3, t1, t2⟩ := hput w2 F2 (objsT (x.objs ++ [want])) x' { x with objs := x.objs ++ [want] } hu2 (good_objs _) hr2' rfl
  rw [st_90 (o := i * 7 + 6) s1 s2 ok]
  exact ⟨by first | rfl | trivial, F3, t1, U.trans (t2.pre cd)⟩
set_option maxHeartbeats 2000000 in
theorem l_gives0 (U : UpdP F0 F W w) (I : MdI w g m F) (Wm : Wf m K) (hK : K + 1 ≤ 1000000) (hb : ldC (hp w g) (0 + 8) = some (.slice (some ⟨b, 0, none⟩) m.rgs.length c)) (hi : m.rgs[i]? = some x) (hol : x.objs.length ≤ 1000000)
    (h7 : hp w g7 = some (.cells (rsC r).toArray 53)) (h11 : hp w g11 = some (.cells (hnC want).toArray 51)) (n11 : ¬ F g11) :
    P102_0 (.pointer (some ⟨g, 0, none⟩)) (.pointer (some ⟨g7, 0, none⟩)) (.pointer (some ⟨b, i * 7, none⟩)) (.int .i64 need) (.pointer (some ⟨g11, 0, none⟩)) (.bool (rfitsV x m.c.2.2.1 need)) w fun v w' =>
      v = .bool (if r = (0, want, 0, 0) then true else false) ∧ ∃ F', MdI w' g (if r = (0, want, 0, 0) then { m with rgs := m.rgs.set i (growV m.c.2.2.1 need x want) } else m) F' ∧ UpdP F0 F' W w' := by
  apply L102_0_ok
  have hbe : be Try.prog .neq 53 (.tmp 74) (.tmp 76) (.agg (rsC r).toArray) (.agg (rsC (0, want, 0, 0)).toArray) = some (.bool (!decide (r = (0, want, 0, 0)))) := be_nrs r (0, want, 0, 0)
  have hbd : pureRun Try.prog (Instr.build 53 #[(1, .agg (hnC want).toArray)]) = some (.agg (rsC (0, want, 0, 0)).toArray) := bd_53_1
  have W1 := Wm.w1
  have W2 := Wm.w2
  have R := Wm.rg x (List.mem_of_getElem? hi)
  simp -implicitDefEqProofs only [L102_0, ld_res h7, ld_hn h11, hbd, hbe, wpB_some']
  by_cases hr : r = (0, want, 0, 0)
  · rw [if_pos hr, if_pos hr]
    cases hf : rfitsV x m.c.2.2.1 need with
    | true =>
      obtain ⟨f1, f2, f3, f4⟩ := fits_need hf
      obtain ⟨v, Fk, hsub, hFb, hnb, hld, hv, hput⟩ := I.rgPut (hb := hb) hi (k := 3) (by omega) (P := iT x.off) rfl
      rw [hv.1] at hld
      obtain ⟨ok, s1, s2, hb1, F1, t1, t2⟩ := hput w none' (iT (x.off + need)) (.int .i64 (x.off + need)) { x with off := x.off + need } (UpdP.none hv.2 w) (good_int _ _) ⟨rfl, fun _ h => h⟩ rfl
      simp -implicitDefEqProofs only [decide_eq_true hr, wpB_some', gd_true, gd_false, gd_tf, gd_ft, gd_ut, gd_uf, gv_true, gv_false, gv_tf, gv_ft, gv_ut, gv_uf, gE_true, gE_false, gE_tf, gE_ft, gE_ut, gE_uf, gU_true, gU_false, gU_tf, gU_ft, pickv_true, pickv_false, cnd_true, cnd_false, decide_true, decide_false, Bool.not_true, Bool.not_false, pr_not, nilv_some, bp_lss, bp_leq, bp_gtr, bp_geq, be_eql, be_neq, bne_self_eq_false, beq_self_eq_true, ldC_some, Option.isNone_none, Option.isNone_some, hp_drew, fa_144_2, ld_3, hld, bp_add, wrapi (n := x.off + need) (by omega) (by omega)]
      rw [st_3 (o := i * 7 + 3) s1 s2 ok]
      have k11 := t2.keep h11 n11
      have hln : ({ m with rgs := m.rgs.set i { x with off := x.off + need } } : MdV).rgs.length = m.rgs.length := by simp
      have := l_gives1 (U.trans t2) t1 (hb := by rw [hln]; exact hb1) (at_set hi) hol k11.1
      rw [set_rg] at this
      have eg : growV m.c.2.2.1 need x want = { x with off := x.off + need, objs := x.objs ++ [want] } := by rw [growV, hf]; rfl
      rw [eg]
      exact this
    | false =>
      have cd : Chg [] w w.drew := (Chg.refl _ _).drew
      obtain ⟨v, Fk, hsub, hFb, hnb, hld, hv, hput⟩ := (I.keep cd).rgPut (hb := chg_ld cd hb) hi (k := 4) (by omega) (P := intsT x.chunks) rfl
      have h11d : hp w.drew g11 = some (.cells (hnC want).toArray 51) := h11
      have e2 : (hnC want).toArray[0 + 2]? = some (.int .i64 want.2.2.1) := rfl
      simp -implicitDefEqProofs only [decide_eq_true hr, wpB_some', gd_true, gd_false, gd_tf, gd_ft, gd_ut, gd_uf, gv_true, gv_false, gv_tf, gv_ft, gv_ut, gv_uf, gE_true, gE_false, gE_tf, gE_ft, gE_ut, gE_uf, gU_true, gU_false, gU_tf, gU_ft, pickv_true, pickv_false, cnd_true, cnd_false, decide_true, decide_false, Bool.not_true, Bool.not_false, pr_not, nilv_some, bp_lss, bp_leq, bp_gtr, bp_geq, be_eql, be_neq, bne_self_eq_false, beq_self_eq_true, ldC_some, Option.isNone_none, Option.isNone_some, hp_drew, fa_144_3, fa_51_2, ld_23, ld_3, show ldC (hp w b) (i * 7 + 4) = _ from hld, h11, e2]
      obtain ⟨hown, _⟩ := flat_own hv
      have hcl := R.cl
      refine ps_23 (fun u hu => by simp only [List.mem_cons, List.not_mem_nil, or_false] at hu; rcases hu with rfl; rfl) hown (by omega) (Nat.zero_le _) fun x1 w2 ho hg hnb => ?_
      obtain ⟨F2, hr2, hu2⟩ := flat_grown (vs := [Value.int .i64 want.2.2.1]) hv ho hg hnb
      have hr2' : intsT (x.chunks ++ [want.2.2.1]) w2 F2 x1 := by
        rw [intsT, List.length_append]
        have e : ints (x.chunks ++ [want.2.2.1]) = ints x.chunks ++ [Value.int .i64 want.2.2.1] := by simp [ints]
        rw [e]; exact hr2
      obtain ⟨ok, s1, s2, hb1, F3, t1, t2⟩ := hput w2 F2 (intsT (x.chunks ++ [want.2.2.1])) x1 { x with chunks := x.chunks ++ [want.2.2.1] } hu2 (good_intsT _) hr2' rfl
      rw [st_23 (o := i * 7 + 4) s1 s2 ok]
      have k11 := t2.keep h11d n11
      have U1 := U.trans (t2.pre cd)
      generalize put w2 b _ _ = w3 at *
      generalize hx1 : ({ x with chunks := x.chunks ++ [want.2.2.1] } : RgV) = y1 at *
      have hi1 := at_set (m := m) (y := y1) hi
      have hln1 : ({ m with rgs := m.rgs.set i y1 } : MdV).rgs.length = m.rgs.length := by simp
      generalize hm1 : ({ m with rgs := m.rgs.set i y1 } : MdV) = m1 at *
      have hc1 : m1.c = m.c := by rw [← hm1]
      -- the words
      have cd3 : Chg [] w3 w3.drew := (Chg.refl _ _).drew
      obtain ⟨v5, Fk5, hsub5, _, _, hld5, hv5, hput5⟩ := (t1.keep cd3).rgPut (hb := chg_ld cd3 hb1) hi1 (k := 5) (by omega) (P := wordsT y1.words) rfl
      obtain ⟨_, _, _, M3⟩ := t1.rd
      have hw2 : ldC (hp w3 g) (0 + 0 + 2) = some (.int .i64 ((m.c.2.2.1.toNat : Nat) : Int)) := by
        have := M3.c 2 (by omega)
        rw [hc1] at this
        rw [show ((m.c.2.2.1.toNat : Nat) : Int) = m.c.2.2.1 by omega]
        exact this
      obtain ⟨iu, hiu, hzu, hsu, hbu⟩ := inf_38
      generalize hn : m.c.2.2.1.toNat = n at *
      have hn' : (n : Int) = m.c.2.2.1 := by omega
      simp -implicitDefEqProofs only [wpB_some', gd_true, gd_false, gd_tf, gd_ft, gd_ut, gd_uf, gv_true, gv_false, gv_tf, gv_ft, gv_ut, gv_uf, gE_true, gE_false, gE_tf, gE_ft, gE_ut, gE_uf, gU_true, gU_false, gU_tf, gU_ft, pickv_true, pickv_false, cnd_true, cnd_false, decide_true, decide_false, Bool.not_true, Bool.not_false, pr_not, nilv_some, bp_lss, bp_leq, bp_gtr, bp_geq, be_eql, be_neq, bne_self_eq_false, beq_self_eq_true, ldC_some, Option.isNone_none, Option.isNone_some, hp_drew, fa_144_4, fa_132_0, fa_74_2, ld_142, ld_3, show ldC (hp w3 b) (i * 7 + 5) = _ from hld5, hw2, effv_make (P := Try.prog) (kl := .i64) (kc := .i64) (n := n) Try.underlying177 hiu hzu (by rw [hsu]; omega) (by rw [hbu]; omega) (by omega)]
      have hmc : madeCells (Value.int .u64 0).cells (n * iu.size) = (u64s (List.replicate n 0)).toArray := by
        apply Array.toList_inj.1
        rw [hsu, Nat.mul_one]
        have := toList_madeCells_one (Value.int .u64 0) n
        rw [u64s, List.map_replicate]
        exact this
      rw [hmc]
      have n3 : w3.drew.heap.size = w3.heap.size := rfl
      have ob := own_alloc_u64s (w := w3.drew) n (by unfold maxLen; omega)
      generalize hwA : w3.drew.alloc (.cells (u64s (List.replicate n 0)).toArray 38) = wA at *
      have cA : Chg [] w3.drew wA := by rw [← hwA]; exact (Chg.refl _ _).alloc _
      have sA : wA.heap.size = w3.heap.size + 1 := by rw [← hwA, alloc_size, n3]
      have hv5A := (good_words y1.words).frame hv5 (ChgP.of0 cA none') (fun _ _ h => h)
      obtain ⟨xs, Fs, q1, q2, q3, q4⟩ := hv5A
      have hyw : y1.words.length ≤ 1000000 := by rw [← hx1]; have := R.wl; simp only; omega
      refine ps_142 (fun u hu => by simp only [List.mem_cons, List.not_mem_nil, or_false] at hu; rcases hu with rfl; rfl) q1 (by omega) (Nat.zero_le _) fun x2 w4 ho2 hg2 hnb2 => ?_
      have hy : Parts wA [wordT (List.replicate n 0)] [.slice (some ⟨w3.drew.heap.size, 0, none⟩) n n] (fun _ => fun b => b = w3.drew.heap.size) := ⟨rfl, fun k P v hP hv => by
        have hk := (List.getElem?_eq_some_iff.1 hP).1
        have : k = 0 := by simp at hk; omega
        subst this
        cases hP; cases hv
        exact ob, fun j k hj hk hjk => by simp at hj hk; omega⟩
      have hF5 : ∀ k, Fk5 k → k < w3.heap.size := fun k hk => isAt.lt (t1.keep cd3) (good_md m1) k (hsub5 k hk)
      obtain ⟨F5, g1, g2, _⟩ := isRow.grow (G := fun b => b = w3.drew.heap.size) (m := 1) ⟨xs, Fs, q1, q2, q3, q4⟩ (fun P hP => by obtain ⟨l, _, rfl⟩ := List.mem_map.1 hP; exact good_word l) (fun P hP => by rw [List.mem_singleton.1 hP]; exact good_word _) hy
        (fun b => ⟨fun h => ⟨0, by simp, h⟩, fun ⟨_, _, h⟩ => h⟩) (fun k hk hk2 => by have := hF5 k hk; omega) (fun xs' h' => by rw [own_unique h' q1]; exact ho2) hg2 hnb2
      have hu5 : UpdP Fk5 F5 w3.drew w4 := by
        refine ⟨⟨g2.chg.os.trans cA.os, g2.chg.tape.trans cA.tape, g2.chg.output.trans cA.output, by have := g2.chg.size; omega, fun k hk hn => ?_⟩, fun k hk => ?_⟩
        · rw [g2.chg.block k (by omega) (fun h => by rcases h with h | h; exact hn h; omega)]
          exact cA.block k hk (by simp)
        · rcases g2.sub k hk with h | h
          · rcases h with h | h
            · exact .inl h
            · exact .inr (by omega)
          · exact .inr (by omega)
      have g1' : wordsT (y1.words ++ [List.replicate n 0]) w4 F5 x2 := by
        rw [wordsT, List.length_append, List.map_append]; exact g1
      obtain ⟨ok5, s51, s52, hb5, F6, t51, t52⟩ := hput5 w4 F5 (wordsT (y1.words ++ [List.replicate n 0])) x2 { y1 with words := y1.words ++ [List.replicate n 0] } hu5 (good_words _) g1' rfl
      rw [st_142 (o := i * 7 + 5) s51 s52 ok5]
      have k113 := t52.keep (show hp w3.drew g11 = _ from k11.1) k11.2
      have U2 := U1.trans (t52.pre cd3)
      have em2 : ({ m1 with rgs := m1.rgs.set i { y1 with words := y1.words ++ [List.replicate n 0] } } : MdV) = { m with rgs := m.rgs.set i { y1 with words := y1.words ++ [List.replicate n 0] } } := by rw [← hm1]; exact set_rg m
      rw [em2] at t51
      generalize put w4 b _ _ = w5 at *
      generalize hy2 : ({ y1 with words := y1.words ++ [List.replicate n 0] } : RgV) = y2 at *
      have hi2 := at_set (m := m) (y := y2) hi
      -- how much is given away
      obtain ⟨_, _, _, M5⟩ := t51.rd
      have hw5 : ldC (hp w5 g) (0 + 0 + 2) = some (.int .i64 m.c.2.2.1) := M5.c 2 (by omega)
      simp -implicitDefEqProofs only [wpB_some', gd_true, gd_false, gd_tf, gd_ft, gd_ut, gd_uf, gv_true, gv_false, gv_tf, gv_ft, gv_ut, gv_uf, gE_true, gE_false, gE_tf, gE_ft, gE_ut, gE_uf, gU_true, gU_false, gU_tf, gU_ft, pickv_true, pickv_false, cnd_true, cnd_false, decide_true, decide_false, Bool.not_true, Bool.not_false, pr_not, nilv_some, bp_lss, bp_leq, bp_gtr, bp_geq, be_eql, be_neq, bne_self_eq_false, beq_self_eq_true, ldC_some, Option.isNone_none, Option.isNone_some, hp_drew, fa_132_0, fa_74_2, ld_3, hw5]
      refine (c_sAfter m.c.2.2.1 need w5).step ?_
      obtain ⟨v3, Fk3, hsub3, _, _, hld3, hv3, hput3⟩ := t51.rgPut (hb := hb5) hi2 (k := 3) (by omega) (P := iT y2.off) rfl
      obtain ⟨ok3, s31, s32, hb3, F7, t31, t32⟩ := hput3 w5 none' (iT (afterV m.c.2.2.1 need)) (.int .i64 (afterV m.c.2.2.1 need)) { y2 with off := afterV m.c.2.2.1 need } (UpdP.none hv3.2 w5) (good_int _ _) ⟨rfl, fun _ h => h⟩ rfl
      simp -implicitDefEqProofs only [wpB_some', gd_true, gd_false, gd_tf, gd_ft, gd_ut, gd_uf, gv_true, gv_false, gv_tf, gv_ft, gv_ut, gv_uf, gE_true, gE_false, gE_tf, gE_ft, gE_ut, gE_uf, gU_true, gU_false, gU_tf, gU_ft, pickv_true, pickv_false, cnd_true, cnd_false, decide_true, decide_false, Bool.not_true, Bool.not_false, pr_not, nilv_some, bp_lss, bp_leq, bp_gtr, bp_geq, be_eql, be_neq, bne_self_eq_false, beq_self_eq_true, ldC_some, Option.isNone_none, Option.isNone_some, hp_drew, fa_144_2]
      rw [st_3 (o := i * 7 + 3) s31 s32 ok3]
      have k114 := t32.keep k113.1 k113.2
      rw [set_rg] at t31
      have hi3 := at_set (m := m) (y := { y2 with off := afterV m.c.2.2.1 need }) hi
      have hol3 : ({ y2 with off := afterV m.c.2.2.1 need } : RgV).objs.length ≤ 1000000 := by rw [← hy2, ← hx1]; exact hol
      have := l_gives1 (U2.trans t32) t31 (hb := by
        have hln : ({ m with rgs := m.rgs.set i { y2 with off := afterV m.c.2.2.1 need } } : MdV).rgs.length = m.rgs.length := by simp
        rw [hln]; exact hb3) hi3 hol3 k114.1
      rw [set_rg] at this
      have eg : growV m.c.2.2.1 need x want = { ({ y2 with off := afterV m.c.2.2.1 need } : RgV) with objs := ({ y2 with off := afterV m.c.2.2.1 need } : RgV).objs ++ [want] } := by
        rw [growV, hf, ← hy2, ← hx1, hn]; rfl
      rw [eg]
      exact this
  · rw [if_neg hr, if_neg hr]
    simp -implicitDefEqProofs only [decide_eq_false hr, wpB_some', gd_true, gd_false, gd_tf, gd_ft, gd_ut, gd_uf, gv_true, gv_false, gv_tf, gv_ft, gv_ut, gv_uf, gE_true, gE_false, gE_tf, gE_ft, gE_ut, gE_uf, gU_true, gU_false, gU_tf, gU_ft, pickv_true, pickv_false, cnd_true, cnd_false, decide_true, decide_false, Bool.not_true, Bool.not_false, pr_not, nilv_some, bp_lss, bp_leq, bp_gtr, bp_geq, be_eql, be_neq, bne_self_eq_false, beq_self_eq_true, ldC_some, Option.isNone_none, Option.isNone_some, hp_drew]
    exact ⟨by first | rfl | trivial, F, I, U⟩
end
end Go.Proofs.Ytgamnncehjcdiaa

namespace Go.Proofs.Ytgamnncehjcdiaa
open Go Ev Go.RowKit
set_option linter.unusedSimpArgs false
set_option linter.unusedVariables false
set_option maxRecDepth 10000

section
variable {w : World} {g : Nat} {m : MdV} {F : Fp} {K : Nat}
set_option maxHeartbeats 2000000 in
theorem c_mGives (I : MdI w g m F) (Wm : Wf m K) (hK : K + 1 ≤ 1000000) (n : Int) (h : HnV) (r : RsV) {i : Nat} (hf : findR m.rgs (nmOf h) = some i) :
    CallR Try.prog 102 [.pointer (some ⟨g, 0, none⟩), .int .i64 n, .agg (hnC h).toArray, .agg (rsC r).toArray] w fun v w' => v = .bool (givesV m n h r).1 ∧ ∃ F', MdI w' g (givesV m n h r).2 F' ∧ UpdP F F' w w' := by
  apply F102_ok
  obtain ⟨x, hi, hnm⟩ := findR_at hf
  have R := Wm.rg x (List.mem_of_getElem? hi)
  have W1 := Wm.w1
  have W2 := Wm.w2
  have gv : givesV m n h r = if rfitsV x m.c.2.2.1 (roundV x.cls n) = false ∧ r = codeR 6 then (true, m)
      else if rfitsV x m.c.2.2.1 (roundV x.cls n) = false ∧ (r.2.1.2.2.1 < 0 ∨ m.c.2.1 ≤ r.2.1.2.2.1 ∨ takenV m r.2.1.2.2.1 = true) then (false, m)
      else if r = (0, wantV m.c.2.2.1 (roundV x.cls n) n x h r.2.1.2.2.1, 0, 0) then (true, { m with rgs := m.rgs.set i (growV m.c.2.2.1 (roundV x.cls n) x (wantV m.c.2.2.1 (roundV x.cls n) n x h r.2.1.2.2.1)) })
      else (false, m) := by
    rw [givesV, hf]; simp only [hi]
  simp -implicitDefEqProofs only [F102, effv_box, cells_agg, alloc_size]
  generalize hw : (w.alloc (.cells (hnC h).toArray 51)).alloc _ = w1
  have c1 : Chg [] w w1 := by rw [← hw]; exact ((Chg.refl _ _).alloc _).alloc _
  have a6 : hp w1 w.heap.size = some (.cells (hnC h).toArray 51) := by rw [← hw, alloc_heap, alloc_size, if_neg (by omega), alloc_heap, if_pos rfl]
  have a7 : hp w1 (w.heap.size + 1) = some (.cells (rsC r).toArray 53) := by rw [← hw, alloc_heap, alloc_size, if_pos rfl]
  clear hw
  obtain ⟨_, _, _, M⟩ := I.rd
  simp -implicitDefEqProofs only [ld_hn a6, wpB_some']
  refine (c_mNameOf h w1).mono ?_
  rintro _ w2 ⟨rfl, c2⟩
  have c02 := c1.trans c2
  refine (c_mRegion (M.keep c02) (h.1, h.2.1) (Nat.le_trans Wm.rl (by omega))).mono ?_
  rintro v w3 ⟨c3, hv⟩
  have c03 := c02.trans c3
  have hf' : findR m.rgs (h.1, h.2.1) = some i := hf
  rw [hf'] at hv
  rcases hv with ⟨hv, _⟩ | ⟨i', rg, b, c, hi', hrg, hrow, rfl⟩
  · cases hv
  cases hi'
  rw [hi] at hrg
  cases hrg
  have hb3 : ∀ w', Chg [] w w' → ldC (hp w' g) (0 + 8) = some (.slice (some ⟨b, 0, none⟩) m.rgs.length c) := fun w' k => by
    rw [← hrow]; exact (M.keep k).rl
  obtain ⟨G, hG⟩ := (M.keep c03).rT
  obtain ⟨b', c', hx, cv, wv, ov, R3⟩ := rg_at hG hi
  rw [hrow] at hx
  cases hx
  have k2 := c2.trans c3
  have f6 := k2.at a6 (by simp)
  have f7 := k2.at a7 (by simp)
  simp -implicitDefEqProofs only [wpB_some', gd_true, gd_false, gd_tf, gd_ft, gd_ut, gd_uf, gv_true, gv_false, gv_tf, gv_ft, gv_ut, gv_uf, gE_true, gE_false, gE_tf, gE_ft, gE_ut, gE_uf, gU_true, gU_false, gU_tf, gU_ft, pickv_true, pickv_false, cnd_true, cnd_false, decide_true, decide_false, Bool.not_true, Bool.not_false, pr_not, nilv_some, bp_lss, bp_leq, bp_gtr, bp_geq, be_eql, be_neq, bne_self_eq_false, beq_self_eq_true, ldC_some, Option.isNone_none, Option.isNone_some, hp_drew, fa_144_1, ld_3, R3.c2]
  refine (c_sRound x.cls n w3).step ?_
  have e0 : (hnC h).toArray[0 + 0]? = some (.int .i64 h.1) := rfl
  have e1 : (hnC h).toArray[0 + 1]? = some (.int .i64 h.2.1) := rfl
  simp -implicitDefEqProofs only [wpB_some', gd_true, gd_false, gd_tf, gd_ft, gd_ut, gd_uf, gv_true, gv_false, gv_tf, gv_ft, gv_ut, gv_uf, gE_true, gE_false, gE_tf, gE_ft, gE_ut, gE_uf, gU_true, gU_false, gU_tf, gU_ft, pickv_true, pickv_false, cnd_true, cnd_false, decide_true, decide_false, Bool.not_true, Bool.not_false, pr_not, nilv_some, bp_lss, bp_leq, bp_gtr, bp_geq, be_eql, be_neq, bne_self_eq_false, beq_self_eq_true, ldC_some, Option.isNone_none, Option.isNone_some, hp_drew, fa_51_0, fa_51_1, fa_51_2, fa_53_1, ld_3, f6, f7, e0, e1, rs_3, bd_51_0_1_2_4, al_51]
  rw [st_51 (by rfl) (by rfl) (by rw [alloc_heap, if_pos rfl]; rfl) (by rw [alloc_heap, if_pos rfl]; rfl), alloc_heap, if_pos rfl, getE_some]
  generalize hw4 : put (w3.alloc _) w3.heap.size _ _ = w4
  have c4 : Chg [] w3 w4 := by rw [← hw4]; exact ((Chg.refl _ _).alloc _).put (.inr (Nat.le_refl _)) _ _
  have a11 : hp w4 w3.heap.size = some (.cells (hnC (h.1, h.2.1, r.2.1.2.2.1, 0, n)).toArray 51) := by rw [← hw4]; exact put_same (by simp) _ _
  clear hw4
  have c04 := c03.trans c4
  have s3 := c03.size
  have f74 := c4.at f7 (by simp)
  have hw4 : ∀ w', Chg [] w w' → ldC (hp w' g) (0 + 0 + 2) = some (.int .i64 m.c.2.2.1) := fun w' k => (M.keep k).c 2 (by omega)
  have hw1 : ∀ w', Chg [] w w' → ldC (hp w' g) (0 + 0 + 1) = some (.int .i64 m.c.2.1) := fun w' k => (M.keep k).c 1 (by omega)
  simp -implicitDefEqProofs only [wpB_some', gd_true, gd_false, gd_tf, gd_ft, gd_ut, gd_uf, gv_true, gv_false, gv_tf, gv_ft, gv_ut, gv_uf, gE_true, gE_false, gE_tf, gE_ft, gE_ut, gE_uf, gU_true, gU_false, gU_tf, gU_ft, pickv_true, pickv_false, cnd_true, cnd_false, decide_true, decide_false, Bool.not_true, Bool.not_false, pr_not, nilv_some, bp_lss, bp_leq, bp_gtr, bp_geq, be_eql, be_neq, bne_self_eq_false, beq_self_eq_true, ldC_some, Option.isNone_none, Option.isNone_some, hp_drew, fa_132_0, fa_74_2, ld_3, hw4 _ c04]
  refine (c_mFits (R3.keep c4) m.c.2.2.1 (roundV x.cls n)).step ?_
  have nF : ∀ {y}, w.heap.size ≤ y → ¬ F y := fun hy => I.notF hy
  have hol : x.objs.length ≤ 1000000 := Nat.le_trans R.ol (by omega)
  have c34 : Chg [] w3 w4 := c4
  have tail : ∀ (want : HnV) w6, Chg [] w3 w6 → hp w6 w3.heap.size = some (.cells (hnC want).toArray 51) →
      P102_0 (.pointer (some ⟨g, 0, none⟩)) (.pointer (some ⟨w.heap.size + 1, 0, none⟩)) (.pointer (some ⟨b, i * 7, none⟩)) (.int .i64 (roundV x.cls n)) (.pointer (some ⟨w3.heap.size, 0, none⟩)) (.bool (rfitsV x m.c.2.2.1 (roundV x.cls n))) w6 fun v w' =>
        v = .bool (if r = (0, want, 0, 0) then true else false) ∧ ∃ F', MdI w' g (if r = (0, want, 0, 0) then { m with rgs := m.rgs.set i (growV m.c.2.2.1 (roundV x.cls n) x want) } else m) F' ∧ UpdP F F' w w' := by
    intro want w6 c6 h11
    have c06 := c03.trans c6
    exact l_gives0 (UpdP.of0 c06) (I.keep c06) Wm hK (hb3 _ c06) hi hol (c6.at f7 (by simp)) h11 (nF (by omega))
  cases hfit : rfitsV x m.c.2.2.1 (roundV x.cls n) with
  | true =>
    rw [hfit] at tail
    obtain ⟨f1, f2, f3, f4⟩ := fits_need hfit
    have ew : wantV m.c.2.2.1 (roundV x.cls n) n x h r.2.1.2.2.1 = (h.1, h.2.1, newV x.chunks, x.off, n) := by rw [wantV, hfit]; rfl
    rw [hfit, ew] at gv
    simp only [Bool.true_eq_false, false_and, if_false] at gv
    have tl : ∀ w6, Chg [] w3 w6 → hp w6 w3.heap.size = some (.cells (hnC (h.1, h.2.1, newV x.chunks, x.off, n)).toArray 51) →
        P102_0 (.pointer (some ⟨g, 0, none⟩)) (.pointer (some ⟨w.heap.size + 1, 0, none⟩)) (.pointer (some ⟨b, i * 7, none⟩)) (.int .i64 (roundV x.cls n)) (.pointer (some ⟨w3.heap.size, 0, none⟩)) (.bool true) w6 fun v w' => v = .bool (givesV m n h r).1 ∧ ∃ F', MdI w' g (givesV m n h r).2 F' ∧ UpdP F F' w w' := by
      intro w6 c6 h11
      have t := tail _ w6 c6 h11
      rw [gv]
      by_cases hr : r = (0, (h.1, h.2.1, newV x.chunks, x.off, n), 0, 0)
      · rw [if_pos hr, if_pos hr] at t; rw [if_pos hr]; exact t
      · rw [if_neg hr, if_neg hr] at t; rw [if_neg hr]; exact t
    have cd : Chg [] w4 w4.drew := (Chg.refl _ _).drew
    have R4 := R3.keep c4
    have cn := c_mNewest (R4.keep cd) (Nat.le_trans R.cl (by omega))
    have st2 : ∀ w5 L, hp w5 w3.heap.size = some (.cells (hnC (h.1, h.2.1, r.2.1.2.2.1, 0, n)).toArray 51) → effu Try.prog (Instr.storeAt 3 (.pointer (some ⟨w3.heap.size, 0 + 2, none⟩)) (.int .i64 (newV x.chunks))) w5 L = L (put w5 w3.heap.size (hnC (h.1, h.2.1, newV x.chunks, 0, n)).toArray 51) := by
      intro w5 L h5
      rw [st_3 (o := 0 + 2) rfl rfl (by rw [h5]; rfl), h5]; rfl
    have st3 : ∀ w5 L, hp w5 w3.heap.size = some (.cells (hnC (h.1, h.2.1, newV x.chunks, 0, n)).toArray 51) → effu Try.prog (Instr.storeAt 3 (.pointer (some ⟨w3.heap.size, 0 + 3, none⟩)) (.int .i64 x.off)) w5 L = L (put w5 w3.heap.size (hnC (h.1, h.2.1, newV x.chunks, x.off, n)).toArray 51) := by
      intro w5 L h5
      rw [st_3 (o := 0 + 3) rfl rfl (by rw [h5]; rfl), h5]; rfl
    simp -implicitDefEqProofs only [wpB_some', gd_true, gd_false, gd_tf, gd_ft, gd_ut, gd_uf, gv_true, gv_false, gv_tf, gv_ft, gv_ut, gv_uf, gE_true, gE_false, gE_tf, gE_ft, gE_ut, gE_uf, gU_true, gU_false, gU_tf, gU_ft, pickv_true, pickv_false, cnd_true, cnd_false, decide_true, decide_false, Bool.not_true, Bool.not_false, pr_not, nilv_some, bp_lss, bp_leq, bp_gtr, bp_geq, be_eql, be_neq, bne_self_eq_false, beq_self_eq_true, ldC_some, Option.isNone_none, Option.isNone_some, hp_drew, fa_144_2, ld_3, show ldC (hp w4 b) (i * 7 + 3) = _ from R4.c3]
    repeat' (with_reducible apply And.intro)
    all_goals
      refine cn.mono ?_
      rintro _ w5 ⟨rfl, c5⟩
      have c35 := c34.trans (cd.trans c5)
      have h5 := c5.at (show hp w4.drew w3.heap.size = _ from a11) (by simp)
      have R5 := (R3.keep c35).c3
      have h6 : hp (put w5 w3.heap.size (hnC (h.1, h.2.1, newV x.chunks, 0, n)).toArray 51) w3.heap.size = _ := put_same (blk_lt h5) _ _
      have c36 : Chg [] w3 (put w5 w3.heap.size (hnC (h.1, h.2.1, newV x.chunks, 0, n)).toArray 51) := c35.put (.inr (Nat.le_refl _)) _ _
      have R6 := (R3.keep c36).c3
      simp -implicitDefEqProofs only [wpB_some', gd_true, gd_false, gd_tf, gd_ft, gd_ut, gd_uf, gv_true, gv_false, gv_tf, gv_ft, gv_ut, gv_uf, gE_true, gE_false, gE_tf, gE_ft, gE_ut, gE_uf, gU_true, gU_false, gU_tf, gU_ft, pickv_true, pickv_false, cnd_true, cnd_false, decide_true, decide_false, Bool.not_true, Bool.not_false, pr_not, nilv_some, bp_lss, bp_leq, bp_gtr, bp_geq, be_eql, be_neq, bne_self_eq_false, beq_self_eq_true, ldC_some, Option.isNone_none, Option.isNone_some, hp_drew, fa_144_2, fa_51_2, fa_51_3, ld_3, R5]
      rw [st2 _ _ h5]
      simp -implicitDefEqProofs only [wpB_some', gd_true, gd_false, gd_tf, gd_ft, gd_ut, gd_uf, gv_true, gv_false, gv_tf, gv_ft, gv_ut, gv_uf, gE_true, gE_false, gE_tf, gE_ft, gE_ut, gE_uf, gU_true, gU_false, gU_tf, gU_ft, pickv_true, pickv_false, cnd_true, cnd_false, decide_true, decide_false, Bool.not_true, Bool.not_false, pr_not, nilv_some, bp_lss, bp_leq, bp_gtr, bp_geq, be_eql, be_neq, bne_self_eq_false, beq_self_eq_true, ldC_some, Option.isNone_none, Option.isNone_some, hp_drew, fa_144_2, fa_51_2, fa_51_3, ld_3, R6, st3 _ _ h6]
      exact tl _ (c36.put (.inr (Nat.le_refl _)) _ _) (put_same (blk_lt h6) _ _)
  | false =>
    rw [hfit] at tail
    have ew : wantV m.c.2.2.1 (roundV x.cls n) n x h r.2.1.2.2.1 = (h.1, h.2.1, r.2.1.2.2.1, 0, n) := by rw [wantV, hfit]; rfl
    rw [hfit, ew] at gv
    simp only [true_and] at gv
    have hbe : be Try.prog .eql 53 (.tmp 51) (.tmp 52) (.agg (rsC r).toArray) (.agg #[.int .i64 6, .int .i64 0, .int .i64 0, .int .i64 0, .int .i64 0, .int .i64 0, .int .i64 0, .int .u64 0]) = some (.bool (decide (r = codeR 6))) := be_rs r (codeR 6)
    simp -implicitDefEqProofs only [wpB_some', gd_true, gd_false, gd_tf, gd_ft, gd_ut, gd_uf, gv_true, gv_false, gv_tf, gv_ft, gv_ut, gv_uf, gE_true, gE_false, gE_tf, gE_ft, gE_ut, gE_uf, gU_true, gU_false, gU_tf, gU_ft, pickv_true, pickv_false, cnd_true, cnd_false, decide_true, decide_false, Bool.not_true, Bool.not_false, pr_not, nilv_some, bp_lss, bp_leq, bp_gtr, bp_geq, be_eql, be_neq, bne_self_eq_false, beq_self_eq_true, ldC_some, Option.isNone_none, Option.isNone_some, hp_drew, ld_res f74, bd_53_0, hbe]
    by_cases r6 : r = codeR 6
    · rw [if_pos r6] at gv
      simp -implicitDefEqProofs only [decide_eq_true r6, wpB_some', gd_true, gd_false, gd_tf, gd_ft, gd_ut, gd_uf, gv_true, gv_false, gv_tf, gv_ft, gv_ut, gv_uf, gE_true, gE_false, gE_tf, gE_ft, gE_ut, gE_uf, gU_true, gU_false, gU_tf, gU_ft, pickv_true, pickv_false, cnd_true, cnd_false, decide_true, decide_false, Bool.not_true, Bool.not_false, pr_not, nilv_some, bp_lss, bp_leq, bp_gtr, bp_geq, be_eql, be_neq, bne_self_eq_false, beq_self_eq_true, ldC_some, Option.isNone_none, Option.isNone_some, hp_drew]
      rw [gv]
      exact ⟨by first | rfl | trivial, F, I.keep c04, UpdP.of0 c04⟩
    rw [if_neg r6] at gv
    have cd : Chg [] w4 w4.drew := (Chg.refl _ _).drew
    have e2 : (hnC (h.1, h.2.1, r.2.1.2.2.1, 0, n)).toArray[0 + 2]? = some (.int .i64 r.2.1.2.2.1) := rfl
    by_cases n0 : r.2.1.2.2.1 < 0
    · rw [if_pos (.inl n0)] at gv
      simp -implicitDefEqProofs only [decide_eq_false r6, wpB_some', gd_true, gd_false, gd_tf, gd_ft, gd_ut, gd_uf, gv_true, gv_false, gv_tf, gv_ft, gv_ut, gv_uf, gE_true, gE_false, gE_tf, gE_ft, gE_ut, gE_uf, gU_true, gU_false, gU_tf, gU_ft, pickv_true, pickv_false, cnd_true, cnd_false, decide_true, decide_false, Bool.not_true, Bool.not_false, pr_not, nilv_some, bp_lss, bp_leq, bp_gtr, bp_geq, be_eql, be_neq, bne_self_eq_false, beq_self_eq_true, ldC_some, Option.isNone_none, Option.isNone_some, hp_drew, fa_51_2, ld_3, a11, e2, n0]
      rw [gv]
      exact ⟨by first | rfl | trivial, F, I.keep (c04.trans cd), UpdP.of0 (c04.trans cd)⟩
    by_cases n1 : m.c.2.1 ≤ r.2.1.2.2.1
    · rw [if_pos (.inr (.inl n1))] at gv
      simp -implicitDefEqProofs only [decide_eq_false r6, wpB_some', gd_true, gd_false, gd_tf, gd_ft, gd_ut, gd_uf, gv_true, gv_false, gv_tf, gv_ft, gv_ut, gv_uf, gE_true, gE_false, gE_tf, gE_ft, gE_ut, gE_uf, gU_true, gU_false, gU_tf, gU_ft, pickv_true, pickv_false, cnd_true, cnd_false, decide_true, decide_false, Bool.not_true, Bool.not_false, pr_not, nilv_some, bp_lss, bp_leq, bp_gtr, bp_geq, be_eql, be_neq, bne_self_eq_false, beq_self_eq_true, ldC_some, Option.isNone_none, Option.isNone_some, hp_drew, fa_51_2, ld_3, a11, e2, n0, fa_132_0, fa_74_1, hw1 _ c04, bp_geq, n1, ge_iff_le]
      rw [gv]
      exact ⟨by first | rfl | trivial, F, I.keep (c04.trans cd), UpdP.of0 (c04.trans cd)⟩
    simp -implicitDefEqProofs only [decide_eq_false r6, wpB_some', gd_true, gd_false, gd_tf, gd_ft, gd_ut, gd_uf, gv_true, gv_false, gv_tf, gv_ft, gv_ut, gv_uf, gE_true, gE_false, gE_tf, gE_ft, gE_ut, gE_uf, gU_true, gU_false, gU_tf, gU_ft, pickv_true, pickv_false, cnd_true, cnd_false, decide_true, decide_false, Bool.not_true, Bool.not_false, pr_not, nilv_some, bp_lss, bp_leq, bp_gtr, bp_geq, be_eql, be_neq, bne_self_eq_false, beq_self_eq_true, ldC_some, Option.isNone_none, Option.isNone_some, hp_drew, fa_51_2, ld_3, a11, e2, n0, fa_132_0, fa_74_1, hw1 _ c04, bp_geq, n1, ge_iff_le]
    refine (c_mTaken (M.keep (c04.trans cd)) Wm (by omega) r.2.1.2.2.1).mono ?_
    rintro _ w5 ⟨rfl, c5⟩
    have c35 := c34.trans (cd.trans c5)
    have h5 := c5.at (show hp w4.drew w3.heap.size = _ from a11) (by simp)
    cases ht : takenV m r.2.1.2.2.1 with
    | true =>
      rw [if_pos (.inr (.inr ht))] at gv
      simp -implicitDefEqProofs only [wpB_some', gd_true, gd_false, gd_tf, gd_ft, gd_ut, gd_uf, gv_true, gv_false, gv_tf, gv_ft, gv_ut, gv_uf, gE_true, gE_false, gE_tf, gE_ft, gE_ut, gE_uf, gU_true, gU_false, gU_tf, gU_ft, pickv_true, pickv_false, cnd_true, cnd_false, decide_true, decide_false, Bool.not_true, Bool.not_false, pr_not, nilv_some, bp_lss, bp_leq, bp_gtr, bp_geq, be_eql, be_neq, bne_self_eq_false, beq_self_eq_true, ldC_some, Option.isNone_none, Option.isNone_some, hp_drew]
      rw [gv]
      exact ⟨by first | rfl | trivial, F, I.keep (c03.trans c35), UpdP.of0 (c03.trans c35)⟩
    | false =>
      rw [if_neg (by rintro (h1 | h1 | h1); exact n0 h1; exact n1 h1; rw [ht] at h1; cases h1)] at gv
      simp -implicitDefEqProofs only [wpB_some', gd_true, gd_false, gd_tf, gd_ft, gd_ut, gd_uf, gv_true, gv_false, gv_tf, gv_ft, gv_ut, gv_uf, gE_true, gE_false, gE_tf, gE_ft, gE_ut, gE_uf, gU_true, gU_false, gU_tf, gU_ft, pickv_true, pickv_false, cnd_true, cnd_false, decide_true, decide_false, Bool.not_true, Bool.not_false, pr_not, nilv_some, bp_lss, bp_leq, bp_gtr, bp_geq, be_eql, be_neq, bne_self_eq_false, beq_self_eq_true, ldC_some, Option.isNone_none, Option.isNone_some, hp_drew]
      have t := tail _ w5 c35 h5
      rw [gv]
      by_cases hr : r = (0, (h.1, h.2.1, r.2.1.2.2.1, 0, n), 0, 0)
      · rw [if_pos hr, if_pos hr] at t; rw [if_pos hr]; exact t
      · rw [if_neg hr, if_neg hr] at t; rw [if_neg hr]; exact t
set_option maxHeartbeats 1000000 in
theorem c_mDo (I : MdI w g m F) (Wm : Wf m K) (hK : K + 1 ≤ 1000000) (n : Int) (o : OpV) (h : HnV) (r : RsV) :
    CallR Try.prog 57 [.pointer (some ⟨g, 0, none⟩), .int .i64 n, .agg (opC o).toArray, .agg (hnC h).toArray, .agg (rsC r).toArray] w fun v w' => v = .bool (doV m n o h r).1 ∧ ∃ F', MdI w' g (doV m n o h r).2 F' ∧ UpdP F F' w w' := by
  apply F57_ok
  simp -implicitDefEqProofs only [F57, effv_box, cells_agg, alloc_size]
  generalize hw : ((w.alloc (.cells (opC o).toArray 40)).alloc _).alloc _ = w1
  have c1 : Chg [] w w1 := by rw [← hw]; exact (((Chg.refl _ _).alloc _).alloc _).alloc _
  have a7 : hp w1 w.heap.size = some (.cells (opC o).toArray 40) := by rw [← hw, alloc_heap, alloc_size, alloc_size, if_neg (by omega), alloc_heap, alloc_size, if_neg (by omega), alloc_heap, if_pos rfl]
  have a8 : hp w1 (w.heap.size + 1) = some (.cells (hnC h).toArray 51) := by rw [← hw, alloc_heap, alloc_size, alloc_size, if_neg (by omega), alloc_heap, alloc_size, if_pos rfl]
  have a9 : hp w1 (w.heap.size + 1 + 1) = some (.cells (rsC r).toArray 53) := by rw [← hw, alloc_heap, alloc_size, alloc_size, if_pos rfl]
  clear hw
  have ldo : ∀ w', hp w' w.heap.size = some (.cells (opC o).toArray 40) → ldv Try.prog 40 (.pointer (some ⟨w.heap.size, 0, none⟩)) w' = some (.agg (opC o).toArray) := fun w' hw => ldv_whole (t := 40) (c := (opC o).toArray) ag_40 (show (Try.prog.info? 40).map (·.size) = some (opC o).toArray.size from sz_40) hw
  obtain ⟨_, _, _, M⟩ := I.rd
  simp -implicitDefEqProofs only [wpB_some', ldo _ a7]
  refine (c_mMay (M.keep c1) n o).mono ?_
  rintro _ w2 ⟨rfl, c2⟩
  have c02 := c1.trans c2
  have b7 := c2.at a7 (by simp)
  have b8 := c2.at a8 (by simp)
  cases hm : mayV m n o with
  | false =>
    simp -implicitDefEqProofs only [wpB_some', gd_true, gd_false, gd_tf, gd_ft, gd_ut, gd_uf, gv_true, gv_false, gv_tf, gv_ft, gv_ut, gv_uf, gE_true, gE_false, gE_tf, gE_ft, gE_ut, gE_uf, gU_true, gU_false, gU_tf, gU_ft, pickv_true, pickv_false, cnd_true, cnd_false, decide_true, decide_false, Bool.not_true, Bool.not_false, pr_not, nilv_some, bp_lss, bp_leq, bp_gtr, bp_geq, be_eql, be_neq, bne_self_eq_false, beq_self_eq_true, ldC_some, Option.isNone_none, Option.isNone_some, hp_drew]
    have e : doV m n o h r = (false, m) := by rw [doV, if_pos hm]
    rw [e]
    exact ⟨by first | rfl | trivial, F, I.keep c02, UpdP.of0 c02⟩
  | true =>
    obtain ⟨d, hd⟩ := may_hd hm
    simp -implicitDefEqProofs only [wpB_some', gd_true, gd_false, gd_tf, gd_ft, gd_ut, gd_uf, gv_true, gv_false, gv_tf, gv_ft, gv_ut, gv_uf, gE_true, gE_false, gE_tf, gE_ft, gE_ut, gE_uf, gU_true, gU_false, gU_tf, gU_ft, pickv_true, pickv_false, cnd_true, cnd_false, decide_true, decide_false, Bool.not_true, Bool.not_false, pr_not, nilv_some, bp_lss, bp_leq, bp_gtr, bp_geq, be_eql, be_neq, bne_self_eq_false, beq_self_eq_true, ldC_some, Option.isNone_none, Option.isNone_some, hp_drew, ldo _ b7, ld_hn b8]
    refine (c_mMust (I.keep c02) Wm (by omega) n o h).mono ?_
    rintro _ w3 ⟨rfl, c3⟩
    have c13 := c2.trans c3
    have c03 := c1.trans c13
    simp -implicitDefEqProofs only [tup0, tup1, wpB_some', gd_true, gd_false, gd_tf, gd_ft, gd_ut, gd_uf, gv_true, gv_false, gv_tf, gv_ft, gv_ut, gv_uf, gE_true, gE_false, gE_tf, gE_ft, gE_ut, gE_uf, gU_true, gU_false, gU_tf, gU_ft, pickv_true, pickv_false, cnd_true, cnd_false, decide_true, decide_false, Bool.not_true, Bool.not_false, pr_not, nilv_some, bp_lss, bp_leq, bp_gtr, bp_geq, be_eql, be_neq, bne_self_eq_false, beq_self_eq_true, ldC_some, Option.isNone_none, Option.isNone_some, hp_drew, al_53]
    rw [st_res (c := (rsC noR).toArray) (e := 53) (by rw [alloc_heap, if_pos rfl]; rfl) rfl]
    generalize hw4 : put (w3.alloc _) w3.heap.size _ _ = w4
    have c4 : Chg [] w3 w4 := by rw [← hw4]; exact ((Chg.refl _ _).alloc _).put (.inr (Nat.le_refl _)) _ _
    have a11 : hp w4 w3.heap.size = some (.cells (rsC (mustV m n o h).1).toArray 53) := by rw [← hw4]; exact put_same (by simp) _ _
    clear hw4
    have c14 := c13.trans c4
    have c04 := c1.trans c14
    have d7 := c14.at a7 (by simp)
    have d8 := c14.at a8 (by simp)
    have d9 := c14.at a9 (by simp)
    have hbe : be Try.prog .neq 53 (.tmp 27) (.tmp 28) (.agg (rsC r).toArray) (.agg (rsC (mustV m n o h).1).toArray) = some (.bool (!decide (r = (mustV m n o h).1))) := be_nrs r _
    cases hi : (mustV m n o h).2 with
    | true =>
      simp -implicitDefEqProofs only [wpB_some', gd_true, gd_false, gd_tf, gd_ft, gd_ut, gd_uf, gv_true, gv_false, gv_tf, gv_ft, gv_ut, gv_uf, gE_true, gE_false, gE_tf, gE_ft, gE_ut, gE_uf, gU_true, gU_false, gU_tf, gU_ft, pickv_true, pickv_false, cnd_true, cnd_false, decide_true, decide_false, Bool.not_true, Bool.not_false, pr_not, nilv_some, bp_lss, bp_leq, bp_gtr, bp_geq, be_eql, be_neq, bne_self_eq_false, beq_self_eq_true, ldC_some, Option.isNone_none, Option.isNone_some, hp_drew, ld_res d9, ld_res a11, hbe]
      have ed : doV m n o h r = if r = (mustV m n o h).1 then (true, if r.1 = 0 then doesV m n o h else m) else (false, m) := by rw [doV, if_neg (by rw [hm]; simp), if_pos hi]
      by_cases hr : r = (mustV m n o h).1
      · rw [if_pos hr] at ed
        simp -implicitDefEqProofs only [decide_eq_true hr, wpB_some', gd_true, gd_false, gd_tf, gd_ft, gd_ut, gd_uf, gv_true, gv_false, gv_tf, gv_ft, gv_ut, gv_uf, gE_true, gE_false, gE_tf, gE_ft, gE_ut, gE_uf, gU_true, gU_false, gU_tf, gU_ft, pickv_true, pickv_false, cnd_true, cnd_false, decide_true, decide_false, Bool.not_true, Bool.not_false, pr_not, nilv_some, bp_lss, bp_leq, bp_gtr, bp_geq, be_eql, be_neq, bne_self_eq_false, beq_self_eq_true, ldC_some, Option.isNone_none, Option.isNone_some, hp_drew, fa_53_0, ld_29, d9, rs_0]
        by_cases h0 : r.1 = 0
        · rw [if_pos h0] at ed
          have e0 : (r.1 == 0) = true := by rw [h0]; rfl
          have hrf := must_fine hm hd (by rw [← hr]; exact h0)
          simp -implicitDefEqProofs only [e0, wpB_some', gd_true, gd_false, gd_tf, gd_ft, gd_ut, gd_uf, gv_true, gv_false, gv_tf, gv_ft, gv_ut, gv_uf, gE_true, gE_false, gE_tf, gE_ft, gE_ut, gE_uf, gU_true, gU_false, gU_tf, gU_ft, pickv_true, pickv_false, cnd_true, cnd_false, decide_true, decide_false, Bool.not_true, Bool.not_false, pr_not, nilv_some, bp_lss, bp_leq, bp_gtr, bp_geq, be_eql, be_neq, bne_self_eq_false, beq_self_eq_true, ldC_some, Option.isNone_none, Option.isNone_some, hp_drew, ldo _ d7, ld_hn d8]
          refine (c_mDoes (I.keep c04) Wm (by omega) hm hd hrf).mono ?_
          rintro _ w5 ⟨rfl, F5, i5, u5⟩
          apply L57_0_ok
          rw [ed]
          exact ⟨rfl, F5, i5, u5.pre c04⟩
        · rw [if_neg h0] at ed
          simp -implicitDefEqProofs only [eqf h0, wpB_some', gd_true, gd_false, gd_tf, gd_ft, gd_ut, gd_uf, gv_true, gv_false, gv_tf, gv_ft, gv_ut, gv_uf, gE_true, gE_false, gE_tf, gE_ft, gE_ut, gE_uf, gU_true, gU_false, gU_tf, gU_ft, pickv_true, pickv_false, cnd_true, cnd_false, decide_true, decide_false, Bool.not_true, Bool.not_false, pr_not, nilv_some, bp_lss, bp_leq, bp_gtr, bp_geq, be_eql, be_neq, bne_self_eq_false, beq_self_eq_true, ldC_some, Option.isNone_none, Option.isNone_some, hp_drew]
          apply L57_0_ok
          rw [ed]
          exact ⟨rfl, F, I.keep c04, UpdP.of0 c04⟩
      · rw [if_neg hr] at ed
        simp -implicitDefEqProofs only [decide_eq_false hr, wpB_some', gd_true, gd_false, gd_tf, gd_ft, gd_ut, gd_uf, gv_true, gv_false, gv_tf, gv_ft, gv_ut, gv_uf, gE_true, gE_false, gE_tf, gE_ft, gE_ut, gE_uf, gU_true, gU_false, gU_tf, gU_ft, pickv_true, pickv_false, cnd_true, cnd_false, decide_true, decide_false, Bool.not_true, Bool.not_false, pr_not, nilv_some, bp_lss, bp_leq, bp_gtr, bp_geq, be_eql, be_neq, bne_self_eq_false, beq_self_eq_true, ldC_some, Option.isNone_none, Option.isNone_some, hp_drew]
        rw [ed]
        exact ⟨by first | rfl | trivial, F, I.keep c04, UpdP.of0 c04⟩
    | false =>
      obtain ⟨hrf, hk⟩ := must_open hm hd hi
      have ed : doV m n o h r = if o.1 = 1 then createsV m o.2.2.2.1 r else givesV m o.2.2.2.1 h r := by rw [doV, if_neg (by rw [hm]; simp), if_neg (by rw [hi]; simp)]
      by_cases k1 : o.1 = 1
      · rw [if_pos k1] at ed
        have q : (o.1 == 1) = true := by rw [k1]; rfl
        simp -implicitDefEqProofs only [wpB_some', gd_true, gd_false, gd_tf, gd_ft, gd_ut, gd_uf, gv_true, gv_false, gv_tf, gv_ft, gv_ut, gv_uf, gE_true, gE_false, gE_tf, gE_ft, gE_ut, gE_uf, gU_true, gU_false, gU_tf, gU_ft, pickv_true, pickv_false, cnd_true, cnd_false, decide_true, decide_false, Bool.not_true, Bool.not_false, pr_not, nilv_some, bp_lss, bp_leq, bp_gtr, bp_geq, be_eql, be_neq, bne_self_eq_false, beq_self_eq_true, ldC_some, Option.isNone_none, Option.isNone_some, hp_drew, fa_40_0, fa_40_3, ld_3, d7, op_0, op_3, q, ld_res d9]
        refine (c_mCreates (I.keep c04) Wm hK o.2.2.2.1 r).mono ?_
        rintro _ w5 ⟨rfl, F5, i5, u5⟩
        rw [ed]
        exact ⟨rfl, F5, i5, u5.pre c04⟩
      · rw [if_neg k1] at ed
        obtain ⟨i, x, hf, _, _, _⟩ := region_ok hrf (by omega)
        simp -implicitDefEqProofs only [wpB_some', gd_true, gd_false, gd_tf, gd_ft, gd_ut, gd_uf, gv_true, gv_false, gv_tf, gv_ft, gv_ut, gv_uf, gE_true, gE_false, gE_tf, gE_ft, gE_ut, gE_uf, gU_true, gU_false, gU_tf, gU_ft, pickv_true, pickv_false, cnd_true, cnd_false, decide_true, decide_false, Bool.not_true, Bool.not_false, pr_not, nilv_some, bp_lss, bp_leq, bp_gtr, bp_geq, be_eql, be_neq, bne_self_eq_false, beq_self_eq_true, ldC_some, Option.isNone_none, Option.isNone_some, hp_drew, fa_40_0, fa_40_3, ld_3, d7, op_0, op_3, eqf k1, ld_res d9, ld_hn d8]
        refine (c_mGives (I.keep c04) Wm hK o.2.2.2.1 h r hf).mono ?_
        rintro _ w5 ⟨rfl, F5, i5, u5⟩
        rw [ed]
        exact ⟨rfl, F5, i5, u5.pre c04⟩
end
end Go.Proofs.Ytgamnncehjcdiaa

namespace Go.Proofs.Ytgamnncehjcdiaa
open Go Ev Go.RowKit
set_option linter.unusedSimpArgs false
set_option linter.unusedVariables false
set_option maxRecDepth 10000

section
variable {w : World} {g : Nat} {m : MdV} {F : Fp} {K : Nat}
theorem c_layWithin (n a b : Int) (w : World) : CallR Try.prog 113 [.int .i64 n, .int .i64 a, .int .i64 b] w fun v w' => v = .bool (decide (a ≤ n ∧ n ≤ b)) ∧ w' = w := by
  apply F113_ok
  by_cases h1 : a ≤ n
  · simp -implicitDefEqProofs only [F113, wpB_some', gd_true, gd_false, gd_tf, gd_ft, gd_ut, gd_uf, gv_true, gv_false, gv_tf, gv_ft, gv_ut, gv_uf, gE_true, gE_false, gE_tf, gE_ft, gE_ut, gE_uf, gU_true, gU_false, gU_tf, gU_ft, pickv_true, pickv_false, cnd_true, cnd_false, decide_true, decide_false, Bool.not_true, Bool.not_false, pr_not, nilv_some, bp_lss, bp_leq, bp_gtr, bp_geq, be_eql, be_neq, bne_self_eq_false, beq_self_eq_true, ldC_some, Option.isNone_none, Option.isNone_some, hp_drew, bp_geq, bp_leq, h1, ge_iff_le, true_and, and_self]
  · simp -implicitDefEqProofs only [F113, wpB_some', gd_true, gd_false, gd_tf, gd_ft, gd_ut, gd_uf, gv_true, gv_false, gv_tf, gv_ft, gv_ut, gv_uf, gE_true, gE_false, gE_tf, gE_ft, gE_ut, gE_uf, gU_true, gU_false, gU_tf, gU_ft, pickv_true, pickv_false, cnd_true, cnd_false, decide_true, decide_false, Bool.not_true, Bool.not_false, pr_not, nilv_some, bp_lss, bp_leq, bp_gtr, bp_geq, be_eql, be_neq, bne_self_eq_false, beq_self_eq_true, ldC_some, Option.isNone_none, Option.isNone_some, hp_drew, bp_geq, bp_leq, h1, ge_iff_le, false_and, and_self]
def mayC (c : CfV) : Bool := decide (1 ≤ c.1 ∧ c.1 ≤ 64) && (decide (1 ≤ c.2.1 ∧ c.2.1 ≤ 4096) && (decide (8 ≤ c.2.2.1 ∧ c.2.2.1 ≤ 1024) && (decide (c.2.2.1 % 8 = 0) && (decide (1 ≤ c.2.2.2.1 ∧ c.2.2.2.1 ≤ 4096) && (decide (0 ≤ c.2.2.2.2.1 ∧ c.2.2.2.2.1 ≤ 64) && decide (1 ≤ c.2.2.2.2.2 ∧ c.2.2.2.2.2 ≤ 8))))))
theorem cf_0 (c : CfV) : (cfC c).toArray[0 + 0]? = some (.int .i64 c.1) := rfl
theorem cf_1 (c : CfV) : (cfC c).toArray[0 + 1]? = some (.int .i64 c.2.1) := rfl
theorem cf_2 (c : CfV) : (cfC c).toArray[0 + 2]? = some (.int .i64 c.2.2.1) := rfl
theorem cf_3 (c : CfV) : (cfC c).toArray[0 + 3]? = some (.int .i64 c.2.2.2.1) := rfl
theorem cf_4 (c : CfV) : (cfC c).toArray[0 + 4]? = some (.int .i64 c.2.2.2.2.1) := rfl
theorem cf_5 (c : CfV) : (cfC c).toArray[0 + 5]? = some (.int .i64 c.2.2.2.2.2) := rfl
theorem ld_cf {c : CfV} {g : Nat} {e : TypeId} (hb : hp w g = some (.cells (cfC c).toArray e)) : ldv Try.prog 74 (.pointer (some ⟨g, 0, none⟩)) w = some (.agg (cfC c).toArray) := ldv_whole (t := 74) (c := (cfC c).toArray) ag_74 (show (Try.prog.info? 74).map (·.size) = some (cfC c).toArray.size from sz_74) hb
set_option maxHeartbeats 1000000 in
theorem c_layMay (c : CfV) (w : World) : CallR Try.prog 80 [.agg (cfC c).toArray] w fun v w' => v = .bool (mayC c) ∧ Chg [] w w' := by
  apply F80_ok
  have b1 : hp (w.alloc (.cells (cfC c).toArray 74)) w.heap.size = some (.cells (cfC c).toArray 74) := by rw [alloc_heap, if_pos rfl]
  have c0 : Chg [] w (w.alloc (.cells (cfC c).toArray 74)) := (Chg.refl _ _).alloc _
  simp -implicitDefEqProofs only [F80, effv_box, cells_agg]
  generalize w.alloc (.cells (cfC c).toArray 74) = w0 at *
  simp -implicitDefEqProofs only [wpB_some', gd_true, gd_false, gd_tf, gd_ft, gd_ut, gd_uf, gv_true, gv_false, gv_tf, gv_ft, gv_ut, gv_uf, gE_true, gE_false, gE_tf, gE_ft, gE_ut, gE_uf, gU_true, gU_false, gU_tf, gU_ft, pickv_true, pickv_false, cnd_true, cnd_false, decide_true, decide_false, Bool.not_true, Bool.not_false, pr_not, nilv_some, bp_lss, bp_leq, bp_gtr, bp_geq, be_eql, be_neq, bne_self_eq_false, beq_self_eq_true, ldC_some, Option.isNone_none, Option.isNone_some, hp_drew, fa_74_0, ld_3, b1, cf_0]
  refine (c_layWithin _ _ _ w0).step ?_
  by_cases h1 : 1 ≤ c.1 ∧ c.1 ≤ 64
  · simp -implicitDefEqProofs only [decide_eq_true h1, wpB_some', gd_true, gd_false, gd_tf, gd_ft, gd_ut, gd_uf, gv_true, gv_false, gv_tf, gv_ft, gv_ut, gv_uf, gE_true, gE_false, gE_tf, gE_ft, gE_ut, gE_uf, gU_true, gU_false, gU_tf, gU_ft, pickv_true, pickv_false, cnd_true, cnd_false, decide_true, decide_false, Bool.not_true, Bool.not_false, pr_not, nilv_some, bp_lss, bp_leq, bp_gtr, bp_geq, be_eql, be_neq, bne_self_eq_false, beq_self_eq_true, ldC_some, Option.isNone_none, Option.isNone_some, hp_drew, fa_74_1, ld_3, b1, cf_1]
    refine (c_layWithin _ _ _ w0).step ?_
    by_cases h2 : 1 ≤ c.2.1 ∧ c.2.1 ≤ 4096
    · simp -implicitDefEqProofs only [decide_eq_true h2, wpB_some', gd_true, gd_false, gd_tf, gd_ft, gd_ut, gd_uf, gv_true, gv_false, gv_tf, gv_ft, gv_ut, gv_uf, gE_true, gE_false, gE_tf, gE_ft, gE_ut, gE_uf, gU_true, gU_false, gU_tf, gU_ft, pickv_true, pickv_false, cnd_true, cnd_false, decide_true, decide_false, Bool.not_true, Bool.not_false, pr_not, nilv_some, bp_lss, bp_leq, bp_gtr, bp_geq, be_eql, be_neq, bne_self_eq_false, beq_self_eq_true, ldC_some, Option.isNone_none, Option.isNone_some, hp_drew, fa_74_2, ld_3, b1, cf_2]
      refine (c_layWithin _ _ _ w0).step ?_
      by_cases h3 : 8 ≤ c.2.2.1 ∧ c.2.2.1 ≤ 1024
      · have hm : c.2.2.1.tmod 8 = c.2.2.1 % 8 := Int.tmod_eq_emod_of_nonneg (by omega)
        by_cases h4 : c.2.2.1 % 8 = 0
        · have e4 : (c.2.2.1 % 8 == 0) = true := by rw [h4]; rfl
          simp -implicitDefEqProofs only [decide_eq_true h3, wpB_some', gd_true, gd_false, gd_tf, gd_ft, gd_ut, gd_uf, gv_true, gv_false, gv_tf, gv_ft, gv_ut, gv_uf, gE_true, gE_false, gE_tf, gE_ft, gE_ut, gE_uf, gU_true, gU_false, gU_tf, gU_ft, pickv_true, pickv_false, cnd_true, cnd_false, decide_true, decide_false, Bool.not_true, Bool.not_false, pr_not, nilv_some, bp_lss, bp_leq, bp_gtr, bp_geq, be_eql, be_neq, bne_self_eq_false, beq_self_eq_true, ldC_some, Option.isNone_none, Option.isNone_some, hp_drew, fa_74_2, fa_74_3, ld_3, b1, cf_2, cf_3, bp_rem (show (8 : Int) ≠ 0 by decide), hm, e4]
          refine (c_layWithin _ _ _ w0).step ?_
          by_cases h5 : 1 ≤ c.2.2.2.1 ∧ c.2.2.2.1 ≤ 4096
          · simp -implicitDefEqProofs only [decide_eq_true h5, wpB_some', gd_true, gd_false, gd_tf, gd_ft, gd_ut, gd_uf, gv_true, gv_false, gv_tf, gv_ft, gv_ut, gv_uf, gE_true, gE_false, gE_tf, gE_ft, gE_ut, gE_uf, gU_true, gU_false, gU_tf, gU_ft, pickv_true, pickv_false, cnd_true, cnd_false, decide_true, decide_false, Bool.not_true, Bool.not_false, pr_not, nilv_some, bp_lss, bp_leq, bp_gtr, bp_geq, be_eql, be_neq, bne_self_eq_false, beq_self_eq_true, ldC_some, Option.isNone_none, Option.isNone_some, hp_drew, fa_74_4, ld_3, b1, cf_4]
            refine (c_layWithin _ _ _ w0).step ?_
            by_cases h6 : 0 ≤ c.2.2.2.2.1 ∧ c.2.2.2.2.1 ≤ 64
            · simp -implicitDefEqProofs only [decide_eq_true h6, wpB_some', gd_true, gd_false, gd_tf, gd_ft, gd_ut, gd_uf, gv_true, gv_false, gv_tf, gv_ft, gv_ut, gv_uf, gE_true, gE_false, gE_tf, gE_ft, gE_ut, gE_uf, gU_true, gU_false, gU_tf, gU_ft, pickv_true, pickv_false, cnd_true, cnd_false, decide_true, decide_false, Bool.not_true, Bool.not_false, pr_not, nilv_some, bp_lss, bp_leq, bp_gtr, bp_geq, be_eql, be_neq, bne_self_eq_false, beq_self_eq_true, ldC_some, Option.isNone_none, Option.isNone_some, hp_drew, fa_74_5, ld_3, b1, cf_5]
              refine (c_layWithin _ _ _ w0).step ?_
              by_cases h7 : 1 ≤ c.2.2.2.2.2 ∧ c.2.2.2.2.2 ≤ 8
              · simp -implicitDefEqProofs only [decide_eq_true h7, wpB_some', gd_true, gd_false, gd_tf, gd_ft, gd_ut, gd_uf, gv_true, gv_false, gv_tf, gv_ft, gv_ut, gv_uf, gE_true, gE_false, gE_tf, gE_ft, gE_ut, gE_uf, gU_true, gU_false, gU_tf, gU_ft, pickv_true, pickv_false, cnd_true, cnd_false, decide_true, decide_false, Bool.not_true, Bool.not_false, pr_not, nilv_some, bp_lss, bp_leq, bp_gtr, bp_geq, be_eql, be_neq, bne_self_eq_false, beq_self_eq_true, ldC_some, Option.isNone_none, Option.isNone_some, hp_drew]
                exact ⟨by simp [mayC, h1, h2, h3, h4, h5, h6, h7], c0⟩
              · simp -implicitDefEqProofs only [decide_eq_false h7, wpB_some', gd_true, gd_false, gd_tf, gd_ft, gd_ut, gd_uf, gv_true, gv_false, gv_tf, gv_ft, gv_ut, gv_uf, gE_true, gE_false, gE_tf, gE_ft, gE_ut, gE_uf, gU_true, gU_false, gU_tf, gU_ft, pickv_true, pickv_false, cnd_true, cnd_false, decide_true, decide_false, Bool.not_true, Bool.not_false, pr_not, nilv_some, bp_lss, bp_leq, bp_gtr, bp_geq, be_eql, be_neq, bne_self_eq_false, beq_self_eq_true, ldC_some, Option.isNone_none, Option.isNone_some, hp_drew]
                exact ⟨by rw [mayC, decide_eq_false h7]; simp, c0⟩
            · simp -implicitDefEqProofs only [decide_eq_false h6, wpB_some', gd_true, gd_false, gd_tf, gd_ft, gd_ut, gd_uf, gv_true, gv_false, gv_tf, gv_ft, gv_ut, gv_uf, gE_true, gE_false, gE_tf, gE_ft, gE_ut, gE_uf, gU_true, gU_false, gU_tf, gU_ft, pickv_true, pickv_false, cnd_true, cnd_false, decide_true, decide_false, Bool.not_true, Bool.not_false, pr_not, nilv_some, bp_lss, bp_leq, bp_gtr, bp_geq, be_eql, be_neq, bne_self_eq_false, beq_self_eq_true, ldC_some, Option.isNone_none, Option.isNone_some, hp_drew]
              exact ⟨by rw [mayC, decide_eq_false h6]; simp, c0⟩
          · simp -implicitDefEqProofs only [decide_eq_false h5, wpB_some', gd_true, gd_false, gd_tf, gd_ft, gd_ut, gd_uf, gv_true, gv_false, gv_tf, gv_ft, gv_ut, gv_uf, gE_true, gE_false, gE_tf, gE_ft, gE_ut, gE_uf, gU_true, gU_false, gU_tf, gU_ft, pickv_true, pickv_false, cnd_true, cnd_false, decide_true, decide_false, Bool.not_true, Bool.not_false, pr_not, nilv_some, bp_lss, bp_leq, bp_gtr, bp_geq, be_eql, be_neq, bne_self_eq_false, beq_self_eq_true, ldC_some, Option.isNone_none, Option.isNone_some, hp_drew]
            exact ⟨by rw [mayC, decide_eq_false h5]; simp, c0⟩
        · simp -implicitDefEqProofs only [decide_eq_true h3, wpB_some', gd_true, gd_false, gd_tf, gd_ft, gd_ut, gd_uf, gv_true, gv_false, gv_tf, gv_ft, gv_ut, gv_uf, gE_true, gE_false, gE_tf, gE_ft, gE_ut, gE_uf, gU_true, gU_false, gU_tf, gU_ft, pickv_true, pickv_false, cnd_true, cnd_false, decide_true, decide_false, Bool.not_true, Bool.not_false, pr_not, nilv_some, bp_lss, bp_leq, bp_gtr, bp_geq, be_eql, be_neq, bne_self_eq_false, beq_self_eq_true, ldC_some, Option.isNone_none, Option.isNone_some, hp_drew, fa_74_2, ld_3, b1, cf_2, bp_rem (show (8 : Int) ≠ 0 by decide), hm, eqf h4]
          exact ⟨by rw [mayC, decide_eq_false h4]; simp, c0⟩
      · simp -implicitDefEqProofs only [decide_eq_false h3, wpB_some', gd_true, gd_false, gd_tf, gd_ft, gd_ut, gd_uf, gv_true, gv_false, gv_tf, gv_ft, gv_ut, gv_uf, gE_true, gE_false, gE_tf, gE_ft, gE_ut, gE_uf, gU_true, gU_false, gU_tf, gU_ft, pickv_true, pickv_false, cnd_true, cnd_false, decide_true, decide_false, Bool.not_true, Bool.not_false, pr_not, nilv_some, bp_lss, bp_leq, bp_gtr, bp_geq, be_eql, be_neq, bne_self_eq_false, beq_self_eq_true, ldC_some, Option.isNone_none, Option.isNone_some, hp_drew]
        exact ⟨by rw [mayC, decide_eq_false h3]; simp, c0⟩
    · simp -implicitDefEqProofs only [decide_eq_false h2, wpB_some', gd_true, gd_false, gd_tf, gd_ft, gd_ut, gd_uf, gv_true, gv_false, gv_tf, gv_ft, gv_ut, gv_uf, gE_true, gE_false, gE_tf, gE_ft, gE_ut, gE_uf, gU_true, gU_false, gU_tf, gU_ft, pickv_true, pickv_false, cnd_true, cnd_false, decide_true, decide_false, Bool.not_true, Bool.not_false, pr_not, nilv_some, bp_lss, bp_leq, bp_gtr, bp_geq, be_eql, be_neq, bne_self_eq_false, beq_self_eq_true, ldC_some, Option.isNone_none, Option.isNone_some, hp_drew]
      exact ⟨by rw [mayC, decide_eq_false h2]; simp, c0⟩
  · simp -implicitDefEqProofs only [decide_eq_false h1, wpB_some', gd_true, gd_false, gd_tf, gd_ft, gd_ut, gd_uf, gv_true, gv_false, gv_tf, gv_ft, gv_ut, gv_uf, gE_true, gE_false, gE_tf, gE_ft, gE_ut, gE_uf, gU_true, gU_false, gU_tf, gU_ft, pickv_true, pickv_false, cnd_true, cnd_false, decide_true, decide_false, Bool.not_true, Bool.not_false, pr_not, nilv_some, bp_lss, bp_leq, bp_gtr, bp_geq, be_eql, be_neq, bne_self_eq_false, beq_self_eq_true, ldC_some, Option.isNone_none, Option.isNone_some, hp_drew]
    exact ⟨by rw [mayC, decide_eq_false h1]; simp, c0⟩
/-- one without regions -/
def newM (c : CfV) (loose : Bool) : MdV := ⟨c, loose, List.replicate c.2.2.2.1.toNat (0, 0), [], List.replicate c.1.toNat ⟨0, []⟩⟩
theorem may_cf {c : CfV} (h : mayC c = true) : (1 ≤ c.1 ∧ c.1 ≤ 64) ∧ (1 ≤ c.2.1 ∧ c.2.1 ≤ 4096) ∧ (8 ≤ c.2.2.1 ∧ c.2.2.1 ≤ 1024) ∧ (1 ≤ c.2.2.2.1 ∧ c.2.2.2.1 ≤ 4096) := by
  simp only [mayC, Bool.and_eq_true, decide_eq_true_eq] at h
  exact ⟨h.1, h.2.1, h.2.2.1, h.2.2.2.2.1⟩
theorem wf_new {c : CfV} (h : mayC c = true) (l : Bool) : Wf (newM c l) 0 := by
  obtain ⟨h1, h2, h3, h4⟩ := may_cf h
  refine ⟨by show 1 ≤ c.2.2.1; omega, h3.2, by simp only [newM, List.length_replicate]; omega, fun p hp => ?_, fun d hd => ?_, Nat.le_refl _, fun r hr => by cases hr⟩
  · rw [List.eq_of_mem_replicate hp]; exact ⟨Int.le_refl _, by decide⟩
  · rw [List.eq_of_mem_replicate hd]; exact ⟨Int.le_refl _, by decide, Nat.zero_le _⟩
theorem made_flat {zs : List Value} {z : Nat} (hz : zs.length = z) (h0 : 0 < z) (n : Nat) : madeCells zs.toArray (n * z) = ((List.replicate n ()).flatMap fun _ => zs).toArray := by
  apply Array.ext_getElem?
  intro k
  rcases Nat.lt_or_ge k (n * z) with hk | hk
  · have hq : k / z < n := by rw [Nat.div_lt_iff_lt_mul h0]; exact hk
    have hm := Nat.mod_lt k h0
    have hkk : k = k / z * z + k % z := by rw [Nat.mul_comm]; exact (Nat.div_add_mod k z).symm
    have e := flatM_get (f := fun _ : Unit => zs) (fun _ => hz) (List.replicate n ()) (k / z) () (by simp [hq]) (k % z) hm
    rw [← hkk] at e
    have e1 : (((List.replicate n ()).flatMap fun _ => zs).toArray)[k]? = zs[k % z]? := by rw [List.getElem?_toArray, e]
    rw [e1, List.getElem?_eq_getElem (by omega)]
    simp only [madeCells, Array.getElem?_map, Array.getElem?_range, hk, if_true, Option.map_some, List.size_toArray, hz]
    rw [getElem!_pos _ _ (by simp [hz]; exact hm)]
    simp
  · have e1 : ((List.replicate n ()).flatMap fun _ => zs).length = n * z := by rw [flatM_len (z := z) (fun _ => hz)]; simp
    rw [Array.getElem?_eq_none (by simp [madeCells]; omega), Array.getElem?_eq_none (by rw [List.size_toArray, e1]; exact hk)]
/-- a new row of things of two cells -/
theorem row_new {e : TypeId} (n : Nat) (hn : n ≤ maxLen) (a b : Value) : (w.alloc (.cells ((List.replicate n ()).flatMap fun _ => [a, b]).toArray e)).ownsRow 0 e 2 (.slice (some ⟨w.heap.size, 0, none⟩) n n) n ((List.replicate n ()).flatMap fun _ => [a, b]) := by
  have hl : ((List.replicate n ()).flatMap fun _ => [a, b]).length = n * 2 := by rw [flatM_len (z := 2) (fun _ => rfl)]; simp
  exact ⟨hl, .inr ⟨w.heap.size, n, _, rfl, Nat.zero_le _, heap_alloc_new w _, Nat.le_refl _, hn, by rw [List.size_toArray]; exact hl, by simp [List.take_of_length_le (show ((List.replicate n ()).flatMap fun _ => [a, b]).length ≤ n * 2 by rw [hl]; exact Nat.le_refl _)]⟩⟩
theorem own_of_row {n : Nat} : (fun b => (Value.slice (some ⟨w.heap.size, 0, none⟩) n n).ownBlock = some b) = (fun b => b = w.heap.size) := by
  funext b
  simp [Value.ownBlock, eq_comm]
theorem slots_new (n : Nat) (hn : n ≤ maxLen) : slotsT (List.replicate n (0, 0)) (w.alloc (.cells ((List.replicate n ()).flatMap fun _ => [Value.int .i64 0, Value.int .i64 0]).toArray 150)) (fun b => b = w.heap.size) (.slice (some ⟨w.heap.size, 0, none⟩) n n) := by
  have h2 := own_flat (row_new (w := w) (e := 150) n hn (.int .i64 0) (.int .i64 0))
  rw [own_of_row] at h2
  have e : (List.replicate n ((0 : Int), (0 : Int))).flatMap nmC = (List.replicate n ()).flatMap fun _ => [Value.int .i64 0, Value.int .i64 0] := by
    induction n with
    | zero => rfl
    | succ n ih => rw [List.replicate_succ, List.replicate_succ, List.flatMap_cons, List.flatMap_cons, ih (by omega) (own_of_row ▸ own_flat (row_new n (by omega) _ _))]; rfl
  rw [slotsT, List.length_replicate, e]
  exact h2
theorem hands_new (n : Nat) (hn : n ≤ maxLen) : handsT (List.replicate n ⟨0, []⟩) (w.alloc (.cells ((List.replicate n ()).flatMap fun _ => [Value.int .i64 0, Value.slice none 0 0]).toArray 137)) (fun b => b = w.heap.size) (.slice (some ⟨w.heap.size, 0, none⟩) n n) := by
  have h := row_new (w := w) (e := 137) n hn (.int .i64 0) (.slice none 0 0)
  refine ⟨_, fun _ => none', by rw [List.length_replicate]; exact h, ⟨?_, fun k P v hP hv => ?_, fun _ _ _ _ _ b hb _ => hb⟩, fun b ⟨_, _, hb⟩ => hb.elim, fun b => ⟨fun hb => .inl (by rw [hb]; rfl), fun hb => ?_⟩⟩
  · rw [flatM_len (z := 2) hdT_len, flatM_len (z := 2) (fun _ => rfl)]; simp
  · have hk := (List.getElem?_eq_some_iff.1 hP).1
    rw [flatM_len (z := 2) hdT_len, List.length_replicate] at hk
    have hq : k / 2 < n := by omega
    have hkk : k = k / 2 * 2 + k % 2 := by omega
    rw [hkk] at hP hv
    rw [flatM_get hdT_len _ (k / 2) ⟨0, []⟩ (by simp [hq]) (k % 2) (by omega)] at hP
    rw [flatM_get (z := 2) (f := fun _ : Unit => [Value.int .i64 0, Value.slice none 0 0]) (fun _ => rfl) _ (k / 2) () (by simp [hq]) (k % 2) (by omega)] at hv
    have h2 : k % 2 = 0 ∨ k % 2 = 1 := by omega
    rcases h2 with h2 | h2 <;> rw [h2] at hP hv <;> cases hP <;> cases hv
    · exact ⟨rfl, fun _ h => h⟩
    · exact isRow.nil
  · rcases hb with hb | ⟨_, _, hb⟩
    · simp [Value.ownBlock] at hb; exact hb.symm
    · exact hb.elim
theorem model_parts {c : CfV} {S R H : List Value} {m : MdV} {sv rv hv : Value} {Fs Fr Fh : Fp} (hm : m.c = c) (hs : slotsT m.slots w Fs sv) (hr : rgsT m.rgs w Fr rv) (hh : handsT m.hands w Fh hv) (d1 : FDis Fs Fr) (d2 : FDis Fs Fh) (d3 : FDis Fr Fh) :
    Parts w (mdT m) (cfC c ++ [.bool m.loose, sv, rv, hv]) (fun k => if k = 7 then Fs else if k = 8 then Fr else if k = 9 then Fh else none') := by
  subst hm
  refine ⟨rfl, fun k P v hP hv' => ?_, fun j k hj hk hjk b h1 h2 => ?_⟩
  · have hk := (List.getElem?_eq_some_iff.1 hP).1
    have hk' : (mdT m).length = 10 := rfl
    rw [hk'] at hk
    have h10 : k = 0 ∨ k = 1 ∨ k = 2 ∨ k = 3 ∨ k = 4 ∨ k = 5 ∨ k = 6 ∨ k = 7 ∨ k = 8 ∨ k = 9 := by omega
    rcases h10 with rfl | rfl | rfl | rfl | rfl | rfl | rfl | rfl | rfl | rfl <;> cases hP <;> cases hv'
    · exact ⟨rfl, fun _ h => h⟩
    · exact ⟨rfl, fun _ h => h⟩
    · exact ⟨rfl, fun _ h => h⟩
    · exact ⟨rfl, fun _ h => h⟩
    · exact ⟨rfl, fun _ h => h⟩
    · exact ⟨rfl, fun _ h => h⟩
    · exact ⟨rfl, fun _ h => h⟩
    · exact hs
    · exact hr
    · exact hh
  · have e : ∀ k, (if k = 7 then Fs else if k = 8 then Fr else if k = 9 then Fh else none') b → (k = 7 ∧ Fs b) ∨ (k = 8 ∧ Fr b) ∨ (k = 9 ∧ Fh b) := by
      intro k h
      split at h
      · exact .inl ⟨by assumption, h⟩
      split at h
      · exact .inr (.inl ⟨by assumption, h⟩)
      split at h
      · exact .inr (.inr ⟨by assumption, h⟩)
      · exact h.elim
    rcases e j h1 with ⟨a1, a2⟩ | ⟨a1, a2⟩ | ⟨a1, a2⟩ <;> rcases e k h2 with ⟨b1, b2⟩ | ⟨b1, b2⟩ | ⟨b1, b2⟩
    · omega
    · exact d1 b a2 b2
    · exact d2 b a2 b2
    · exact d1 b b2 a2
    · omega
    · exact d3 b a2 b2
    · exact d2 b b2 a2
    · exact d3 b b2 a2
    · omega
end
end Go.Proofs.Ytgamnncehjcdiaa

namespace Go.Proofs.Ytgamnncehjcdiaa
open Go Ev Go.RowKit
set_option linter.unusedSimpArgs false
set_option linter.unusedVariables false
set_option maxRecDepth 10000

section
variable {w : World} {g : Nat} {m : MdV} {F : Fp} {K : Nat}
/-- what a maker of models answers -/
def Made (w : World) (c : CfV) (m : MdV) (v : Value) (w' : World) : Prop := Chg [] w w' ∧ ((mayC c = false ∧ v = .tuple #[.pointer none, .int .i64 1]) ∨ (mayC c = true ∧ ∃ g F, v = .tuple #[.pointer (some ⟨g, 0, none⟩), .int .i64 0] ∧ MdI w' g m F ∧ ∀ k, F k → w.heap.size ≤ k))
set_option maxHeartbeats 1000000 in
theorem c_mNew (c : CfV) (w : World) : CallR Try.prog 41 [.agg (cfC c).toArray] w fun v w' => Made w c (newM c false) v w' := by
  apply F41_ok
  have b1 : hp (w.alloc (.cells (cfC c).toArray 74)) w.heap.size = some (.cells (cfC c).toArray 74) := by rw [alloc_heap, if_pos rfl]
  have c0 : Chg [] w (w.alloc (.cells (cfC c).toArray 74)) := (Chg.refl _ _).alloc _
  simp -implicitDefEqProofs only [F41, effv_box, cells_agg]
  generalize w.alloc (.cells (cfC c).toArray 74) = w0 at *
  simp -implicitDefEqProofs only [ld_cf b1, wpB_some']
  refine (c_layMay c w0).mono ?_
  rintro _ w1 ⟨rfl, k1⟩
  have c1 := c0.trans k1
  have b2 := k1.at b1 (by simp)
  cases hm : mayC c with
  | false =>
    simp -implicitDefEqProofs only [wpB_some', gd_true, gd_false, gd_tf, gd_ft, gd_ut, gd_uf, gv_true, gv_false, gv_tf, gv_ft, gv_ut, gv_uf, gE_true, gE_false, gE_tf, gE_ft, gE_ut, gE_uf, gU_true, gU_false, gU_tf, gU_ft, pickv_true, pickv_false, cnd_true, cnd_false, decide_true, decide_false, Bool.not_true, Bool.not_false, pr_not, nilv_some, bp_lss, bp_leq, bp_gtr, bp_geq, be_eql, be_neq, bne_self_eq_false, beq_self_eq_true, ldC_some, Option.isNone_none, Option.isNone_some, hp_drew]
    exact ⟨c1, .inl ⟨hm, by first | rfl | trivial⟩⟩
  | true =>
    obtain ⟨h1, h2, h3, h4⟩ := may_cf hm
    have b2d : hp w1.drew w.heap.size = some (.cells (cfC c).toArray 74) := b2
    have cd := c1.drew
    obtain ⟨is, his, hzs, hss, hbs⟩ := inf_150
    obtain ⟨ih, hih, hzh, hsh, hbh⟩ := inf_137
    have e3 : (cfC c).toArray[0 + 3]? = some (.int .i64 ((c.2.2.2.1.toNat : Nat) : Int)) := by rw [cf_3]; congr; omega
    have e0 : (cfC c).toArray[0 + 0]? = some (.int .i64 ((c.1.toNat : Nat) : Int)) := by rw [cf_0]; congr; omega
    have nm : newM c false = ⟨c, false, List.replicate c.2.2.2.1.toNat (0, 0), [], List.replicate c.1.toNat ⟨0, []⟩⟩ := rfl
    have l1 : c.2.2.2.1.toNat ≤ 4096 := by omega
    have l2 : c.1.toNat ≤ 64 := by omega
    generalize c.2.2.2.1.toNat = ns at *
    generalize c.1.toNat = nh at *
    have mks : madeCells (Value.agg #[.int .i64 0, .int .i64 0]).cells (ns * is.size) = ((List.replicate ns ()).flatMap fun _ => [Value.int .i64 0, Value.int .i64 0]).toArray := by rw [hss]; exact made_flat (zs := [Value.int .i64 0, Value.int .i64 0]) rfl (by decide) ns
    have mkh : madeCells (Value.agg #[.int .i64 0, .slice none 0 0]).cells (nh * ih.size) = ((List.replicate nh ()).flatMap fun _ => [Value.int .i64 0, Value.slice none 0 0]).toArray := by rw [hsh]; exact made_flat (zs := [Value.int .i64 0, Value.slice none 0 0]) rfl (by decide) nh
    have fin : ∀ (w2 : World) (Fs Fh : Fp) (sb hb : Nat), Chg [] w w2 → slotsT (List.replicate ns (0, 0)) w2 Fs (.slice (some ⟨sb, 0, none⟩) ns ns) → handsT (List.replicate nh ⟨0, []⟩) w2 Fh (.slice (some ⟨hb, 0, none⟩) nh nh) → FDis Fs Fh → (∀ k, Fs k → w.heap.size ≤ k) → (∀ k, Fh k → w.heap.size ≤ k) →
        Made w c (newM c false) (.tuple #[.pointer (some ⟨w2.heap.size, 0, none⟩), .int .i64 0]) (w2.alloc (.cells (cfC c ++ [Value.bool false, Value.slice (some ⟨sb, 0, none⟩) ns ns, Value.slice none 0 0, Value.slice (some ⟨hb, 0, none⟩) nh nh]).toArray 132)) := by
      intro w2 Fs Fh sb hb c2 hs hh hd ns' nh'
      have hp' := model_parts (S := []) (R := []) (H := []) (m := newM c false) (c := c) (rv := .slice none 0 0) (Fr := none') rfl (by rw [nm]; exact hs) (by rw [nm]; exact isRow.nil) (by rw [nm]; exact hh) (fun _ _ h => h) hd (fun _ h _ => h)
      refine ⟨c2.alloc _, .inr ⟨hm, w2.heap.size, _, rfl, isAt.new hp' (good_md _), fun k hk => ?_⟩⟩
      rcases hk with hk | ⟨j, _, hk⟩
      · rw [hk]; exact c2.size
      · split at hk
        · exact ns' k hk
        split at hk
        · exact hk.elim
        split at hk
        · exact nh' k hk
        · exact hk.elim
    have len2 : maxLen = maxLen := rfl
    have hml : ns ≤ maxLen ∧ nh ≤ maxLen := by unfold maxLen; omega
    simp -implicitDefEqProofs only [wpB_some', gd_true, gd_false, gd_tf, gd_ft, gd_ut, gd_uf, gv_true, gv_false, gv_tf, gv_ft, gv_ut, gv_uf, gE_true, gE_false, gE_tf, gE_ft, gE_ut, gE_uf, gU_true, gU_false, gU_tf, gU_ft, pickv_true, pickv_false, cnd_true, cnd_false, decide_true, decide_false, Bool.not_true, Bool.not_false, pr_not, nilv_some, bp_lss, bp_leq, bp_gtr, bp_geq, be_eql, be_neq, bne_self_eq_false, beq_self_eq_true, ldC_some, Option.isNone_none, Option.isNone_some, hp_drew, fa_74_3, fa_74_0, ld_3, ld_cf b2d, b2, e3, e0, effv_make (P := Try.prog) (kl := .i64) (kc := .i64) (n := ns) Try.underlying128 his hzs (by rw [hss]; omega) (by rw [hbs]; omega) (by omega), effv_make (P := Try.prog) (kl := .i64) (kc := .i64) (n := nh) Try.underlying129 hih hzh (by rw [hsh]; omega) (by rw [hbh]; omega) (by omega), mks, mkh]
    have hbd : ∀ a b, pureRun Try.prog (Instr.build 132 #[(0, .agg (cfC c).toArray), (2, .slice (some ⟨a, 0, none⟩) ns ns), (4, .slice (some ⟨b, 0, none⟩) nh nh)]) = some (.agg (cfC c ++ [Value.bool false, Value.slice (some ⟨a, 0, none⟩) ns ns, Value.slice none 0 0, Value.slice (some ⟨b, 0, none⟩) nh nh]).toArray) := fun a b => bd_132_0_2_4
    simp -implicitDefEqProofs only [hbd, wpB_some', effv_box, cells_agg]
    have sz : w.heap.size ≤ w1.drew.heap.size := cd.size
    constructor
    · have s1 := slots_new (w := w1.drew) ns hml.1
      generalize hwA : w1.drew.alloc (.cells ((List.replicate ns ()).flatMap fun _ => [Value.int .i64 0, Value.int .i64 0]).toArray 150) = wA at *
      have cA : Chg [] w1.drew wA := by rw [← hwA]; exact (Chg.refl _ _).alloc _
      have sA : wA.heap.size = w1.drew.heap.size + 1 := by rw [← hwA, alloc_size]
      have h1 := hands_new (w := wA) nh hml.2
      have cB : Chg [] wA (wA.alloc (.cells ((List.replicate nh ()).flatMap fun _ => [Value.int .i64 0, Value.slice none 0 0]).toArray 137)) := (Chg.refl _ _).alloc _
      exact fin _ _ _ _ _ ((cd.trans cA).trans cB) ((good_slots _).frame s1 (ChgP.of0 cB none') fun _ _ h => h) h1 (fun k h1 h2 => by omega) (fun k hk => by omega) (fun k hk => by omega)
    · have s1 := hands_new (w := w1.drew) nh hml.2
      generalize hwA : w1.drew.alloc (.cells ((List.replicate nh ()).flatMap fun _ => [Value.int .i64 0, Value.slice none 0 0]).toArray 137) = wA at *
      have cA : Chg [] w1.drew wA := by rw [← hwA]; exact (Chg.refl _ _).alloc _
      have sA : wA.heap.size = w1.drew.heap.size + 1 := by rw [← hwA, alloc_size]
      have h1 := slots_new (w := wA) ns hml.1
      have cB : Chg [] wA (wA.alloc (.cells ((List.replicate ns ()).flatMap fun _ => [Value.int .i64 0, Value.int .i64 0]).toArray 150)) := (Chg.refl _ _).alloc _
      exact fin _ _ _ _ _ ((cd.trans cA).trans cB) h1 ((good_hands _).frame s1 (ChgP.of0 cB none') fun _ _ h => h) (fun k h1 h2 => by omega) (fun k hk => by omega) (fun k hk => by omega)
def valueV (m : MdV) (h : HnV) (n : Int) : Int × Bool := if knownV m h 2 = true ∧ 0 ≤ n ∧ n < h.2.2.2.2 then (wordV m h n, true) else (0, false)
set_option maxHeartbeats 1000000 in
theorem c_mValue (I : MdI w g m F) (Wm : Wf m K) (hK : K ≤ 1000000) (h : HnV) (n : Int) : CallR Try.prog 43 [.pointer (some ⟨g, 0, none⟩), .agg (hnC h).toArray, .int .i64 n] w fun v w' => v = .tuple #[.int .u64 (valueV m h n).1, .bool (valueV m h n).2] ∧ Chg [] w w' := by
  apply F43_ok
  have b4 : hp (w.alloc (.cells (hnC h).toArray 51)) w.heap.size = some (.cells (hnC h).toArray 51) := by rw [alloc_heap, if_pos rfl]
  have c0 : Chg [] w (w.alloc (.cells (hnC h).toArray 51)) := (Chg.refl _ _).alloc _
  simp -implicitDefEqProofs only [F43, effv_box, cells_agg]
  generalize w.alloc (.cells (hnC h).toArray 51) = w0 at *
  obtain ⟨_, _, _, M⟩ := I.rd
  have sm := Wm.small hK
  simp -implicitDefEqProofs only [ld_hn b4, wpB_some']
  refine (c_mKnown (M.keep c0) h 2 sm.r sm.o).mono ?_
  rintro _ w1 ⟨rfl, c1⟩
  have c01 := c0.trans c1
  have b41 := c1.at b4 (by simp)
  have e4 : (hnC h).toArray[0 + 4]? = some (.int .i64 h.2.2.2.2) := rfl
  cases hk : knownV m h 2 with
  | false =>
    have ev : valueV m h n = (0, false) := by rw [valueV, if_neg (by rw [hk]; simp)]
    simp -implicitDefEqProofs only [wpB_some', gd_true, gd_false, gd_tf, gd_ft, gd_ut, gd_uf, gv_true, gv_false, gv_tf, gv_ft, gv_ut, gv_uf, gE_true, gE_false, gE_tf, gE_ft, gE_ut, gE_uf, gU_true, gU_false, gU_tf, gU_ft, pickv_true, pickv_false, cnd_true, cnd_false, decide_true, decide_false, Bool.not_true, Bool.not_false, pr_not, nilv_some, bp_lss, bp_leq, bp_gtr, bp_geq, be_eql, be_neq, bne_self_eq_false, beq_self_eq_true, ldC_some, Option.isNone_none, Option.isNone_some, hp_drew]
    rw [ev]
    exact ⟨by first | rfl | trivial, c01⟩
  | true =>
    by_cases n0 : n < 0
    · have ev : valueV m h n = (0, false) := by rw [valueV, if_neg (by omega)]
      simp -implicitDefEqProofs only [wpB_some', gd_true, gd_false, gd_tf, gd_ft, gd_ut, gd_uf, gv_true, gv_false, gv_tf, gv_ft, gv_ut, gv_uf, gE_true, gE_false, gE_tf, gE_ft, gE_ut, gE_uf, gU_true, gU_false, gU_tf, gU_ft, pickv_true, pickv_false, cnd_true, cnd_false, decide_true, decide_false, Bool.not_true, Bool.not_false, pr_not, nilv_some, bp_lss, bp_leq, bp_gtr, bp_geq, be_eql, be_neq, bne_self_eq_false, beq_self_eq_true, ldC_some, Option.isNone_none, Option.isNone_some, hp_drew, n0]
      rw [ev]
      exact ⟨by first | rfl | trivial, c01⟩
    by_cases n1 : h.2.2.2.2 ≤ n
    · have ev : valueV m h n = (0, false) := by rw [valueV, if_neg (by omega)]
      simp -implicitDefEqProofs only [wpB_some', gd_true, gd_false, gd_tf, gd_ft, gd_ut, gd_uf, gv_true, gv_false, gv_tf, gv_ft, gv_ut, gv_uf, gE_true, gE_false, gE_tf, gE_ft, gE_ut, gE_uf, gU_true, gU_false, gU_tf, gU_ft, pickv_true, pickv_false, cnd_true, cnd_false, decide_true, decide_false, Bool.not_true, Bool.not_false, pr_not, nilv_some, bp_lss, bp_leq, bp_gtr, bp_geq, be_eql, be_neq, bne_self_eq_false, beq_self_eq_true, ldC_some, Option.isNone_none, Option.isNone_some, hp_drew, n0, fa_51_4, ld_3, b41, e4, bp_geq, ge_iff_le, n1]
      rw [ev]
      exact ⟨by first | rfl | trivial, c01⟩
    have ev : valueV m h n = (wordV m h n, true) := by rw [valueV, if_pos ⟨hk, by omega, by omega⟩]
    simp -implicitDefEqProofs only [wpB_some', gd_true, gd_false, gd_tf, gd_ft, gd_ut, gd_uf, gv_true, gv_false, gv_tf, gv_ft, gv_ut, gv_uf, gE_true, gE_false, gE_tf, gE_ft, gE_ut, gE_uf, gU_true, gU_false, gU_tf, gU_ft, pickv_true, pickv_false, cnd_true, cnd_false, decide_true, decide_false, Bool.not_true, Bool.not_false, pr_not, nilv_some, bp_lss, bp_leq, bp_gtr, bp_geq, be_eql, be_neq, bne_self_eq_false, beq_self_eq_true, ldC_some, Option.isNone_none, Option.isNone_some, hp_drew, n0, fa_51_4, ld_3, b41, e4, bp_geq, ge_iff_le, n1, ld_hn b41]
    refine (c_mWord (I.keep c01) Wm hK hk (by omega) (by omega)).mono ?_
    rintro _ w3 ⟨g2, j, rfl, c3, hw⟩
    have A := hw w3 c3
    simp -implicitDefEqProofs only [wpB_some', gd_true, gd_false, gd_tf, gd_ft, gd_ut, gd_uf, gv_true, gv_false, gv_tf, gv_ft, gv_ut, gv_uf, gE_true, gE_false, gE_tf, gE_ft, gE_ut, gE_uf, gU_true, gU_false, gU_tf, gU_ft, pickv_true, pickv_false, cnd_true, cnd_false, decide_true, decide_false, Bool.not_true, Bool.not_false, pr_not, nilv_some, bp_lss, bp_leq, bp_gtr, bp_geq, be_eql, be_neq, bne_self_eq_false, beq_self_eq_true, ldC_some, Option.isNone_none, Option.isNone_some, hp_drew, ld_38, A.ld]
    rw [ev]
    exact ⟨by first | rfl | trivial, c01.trans c3⟩
end
end Go.Proofs.Ytgamnncehjcdiaa

namespace Go.Proofs.Ytgamnncehjcdiaa
open Go Ev Go.RowKit
set_option linter.unusedSimpArgs false
set_option linter.unusedVariables false
set_option maxRecDepth 10000

section
variable {W w : World} {g : Nat} {m : MdV} {F : Fp} {K : Nat}
/-- a model that is new since a world -/
structure MdW (W w : World) (g : Nat) (m : MdV) (K : Nat) (F : Fp) : Prop where
  chg : Chg [] W w
  I : MdI w g m F
  new : ∀ k, F k → W.heap.size ≤ k
  wf : Wf m K
theorem MdW.keep {w' : World} (h : MdW W w g m K F) (hc : Chg [] w w') : MdW W w' g m K F := ⟨h.chg.trans hc, h.I.keep hc, h.new, h.wf⟩
theorem MdW.upd {w' : World} {m' : MdV} {K' : Nat} {F' : Fp} (h : MdW W w g m K F) (I : MdI w' g m' F') (u : UpdP F F' w w') (wf : Wf m' K') : MdW W w' g m' K' F' := by
  have hs := h.chg.size
  refine ⟨⟨u.chg.os.trans h.chg.os, u.chg.tape.trans h.chg.tape, u.chg.output.trans h.chg.output, Nat.le_trans hs u.chg.size, fun k hk _ => ?_⟩, I, fun k hk => ?_, wf⟩
  · rw [u.chg.block k (Nat.lt_of_lt_of_le hk hs) fun hf => by have := h.new k hf; omega]
    exact h.chg.block k hk (by simp)
  · rcases u.sub k hk with h1 | h1
    · exact h.new k h1
    · omega


theorem c_does24 (I : MdI w g m F) (Wm : Wf m K) (hK : K + 1 ≤ 1000000) (kind n v x : Int) (h : HnV) (r : RsV) :
    CallR Try.prog 42 [.pointer (some ⟨g, 0, none⟩), .int .i64 kind, .int .i64 n, .int .u64 v, .int .u64 x, .agg (hnC h).toArray, .agg (rsC r).toArray] w fun u w' => u = .bool (doV m 0 (kind, 0, 0, n, v, x) h r).1 ∧ ∃ F', MdI w' g (doV m 0 (kind, 0, 0, n, v, x) h r).2 F' ∧ UpdP F F' w w' := by
  apply F42_ok
  simp -implicitDefEqProofs only [F42, effv_box, cells_agg, alloc_size]
  generalize hw : (w.alloc (.cells (hnC h).toArray 51)).alloc _ = w1
  have c1 : Chg [] w w1 := by rw [← hw]; exact ((Chg.refl _ _).alloc _).alloc _
  have a6 : hp w1 w.heap.size = some (.cells (hnC h).toArray 51) := by rw [← hw, alloc_heap, alloc_size, if_neg (by omega), alloc_heap, if_pos rfl]
  have a7 : hp w1 (w.heap.size + 1) = some (.cells (rsC r).toArray 53) := by rw [← hw, alloc_heap, alloc_size, if_pos rfl]
  clear hw
  have hbd : pureRun Try.prog (Instr.build 40 #[(0, .int .i64 kind), (3, .int .i64 n), (4, .int .u64 v), (5, .int .u64 x)]) = some (.agg (opC (kind, 0, 0, n, v, x)).toArray) := bd_40_0_3_4_5
  simp -implicitDefEqProofs only [hbd, wpB_some', ld_hn a6, ld_res a7]
  refine (c_mDo (I.keep c1) Wm hK 0 (kind, 0, 0, n, v, x) h r).mono ?_
  rintro _ w2 ⟨rfl, F2, i2, u2⟩
  exact ⟨rfl, F2, i2, u2.pre c1⟩
theorem bdo_0 (k : Int) : pureRun Try.prog (Instr.build 40 #[(0, .int .i64 k)]) = some (.agg (opC (k, 0, 0, 0, 0, 0)).toArray) := bd_40_0
theorem bdh_ : pureRun Try.prog (Instr.build 51 #[]) = some (.agg (hnC noH).toArray) := bd_51_
theorem bdh_1 (x : Int) : pureRun Try.prog (Instr.build 51 #[(1, .int .i64 x)]) = some (.agg (hnC (0, x, 0, 0, 0)).toArray) := bd_51_1
theorem bdh_01 (x y : Int) : pureRun Try.prog (Instr.build 51 #[(0, .int .i64 x), (1, .int .i64 y)]) = some (.agg (hnC (x, y, 0, 0, 0)).toArray) := bd_51_0_1
theorem bdr_ : pureRun Try.prog (Instr.build 53 #[]) = some (.agg (rsC noR).toArray) := bd_53_
theorem bdr_0 (x : Int) : pureRun Try.prog (Instr.build 53 #[(0, .int .i64 x)]) = some (.agg (rsC (codeR x)).toArray) := bd_53_0
theorem bdr_1 (h : HnV) : pureRun Try.prog (Instr.build 53 #[(1, .agg (hnC h).toArray)]) = some (.agg (rsC (0, h, 0, 0)).toArray) := bd_53_1
theorem st_hn {r : HnV} {b : Nat} {c : Array Value} {e : TypeId} (hb : hp w b = some (.cells c e)) (hs : c.size = 5) {L : World → Prop} : effu Try.prog (Instr.storeAt 51 (.pointer (some ⟨b, 0, none⟩)) (.agg (hnC r).toArray)) w L = L (put w b (hnC r).toArray e) := by
  rw [st_51 rfl rfl (by rw [hb, okC_some]; exact decide_eq_true (by omega)) (by rw [hb]; exact hs), hb]; rfl
def m0F : MdV := newM (1, 1, 8, 1, 0, 1) false
def m1F : MdV := (doV m0F 0 (1, 0, 0, 0, 0, 0) noH (0, (0, 1, 0, 0, 0), 0, 0)).2
def m2F : MdV := (doV m1F 0 (10, 0, 0, 0, 0, 0) (0, 1, 0, 0, 0) noR).2
theorem m0_must : mustV m0F 0 (10, 0, 0, 0, 0, 0) noH = (codeR 2, true) := by kernel_rfl
theorem m0_do : (doV m0F 0 (1, 0, 0, 0, 0, 0) noH (0, (0, 1, 0, 0, 0), 0, 0)).1 = true := by decide +kernel
theorem m1_do : (doV m1F 0 (10, 0, 0, 0, 0, 0) (0, 1, 0, 0, 0) noR).1 = true := by decide +kernel
theorem m2_spare : spareN m2F.slots = 0 := by decide +kernel
theorem m2_back : (backV m2F 0).1 = true := by decide +kernel
theorem m3_spare : spareN (backV m2F 0).2.slots = 1 := by decide +kernel
set_option maxHeartbeats 1000000 in
theorem c_mFirst (w : World) : CallR Try.prog 40 [] w fun v w' => v = .bool true ∧ Chg [] w w' := by
  apply F40_ok
  have hbc : pureRun Try.prog (Instr.build 74 #[(0, .int .i64 1), (1, .int .i64 1), (2, .int .i64 8), (3, .int .i64 1), (5, .int .i64 1)]) = some (.agg (cfC (1, 1, 8, 1, 0, 1)).toArray) := bd_74_0_1_2_3_5
  simp -implicitDefEqProofs only [F40, hbc, wpB_some']
  refine (c_mNew (1, 1, 8, 1, 0, 1) w).mono ?_
  rintro v w1 ⟨c1, hv⟩
  rcases hv with ⟨hm, _⟩ | ⟨hm, g, F, rfl, I, hF⟩
  · exact absurd hm (by decide)
  have M0 : MdW w w1 g m0F 0 F := ⟨c1, I, hF, wf_new hm false⟩
  have en : ((0 : Int) != 0) = false := rfl
  simp -implicitDefEqProofs only [tup0, tup1, wpB_some', gd_true, gd_false, gd_tf, gd_ft, gd_ut, gd_uf, gv_true, gv_false, gv_tf, gv_ft, gv_ut, gv_uf, gE_true, gE_false, gE_tf, gE_ft, gE_ut, gE_uf, gU_true, gU_false, gU_tf, gU_ft, pickv_true, pickv_false, cnd_true, cnd_false, decide_true, decide_false, Bool.not_true, Bool.not_false, pr_not, nilv_some, bp_lss, bp_leq, bp_gtr, bp_geq, be_eql, be_neq, bne_self_eq_false, beq_self_eq_true, ldC_some, Option.isNone_none, Option.isNone_some, hp_drew, be_eqlp Try.underlying75, Option.isNone_some, en, bdo_0, bdh_]
  refine (c_mMust M0.I M0.wf (by omega) 0 (10, 0, 0, 0, 0, 0) noH).mono ?_
  rintro _ w2 ⟨rfl, c2⟩
  have M1 := M0.keep c2
  rw [m0_must]
  simp -implicitDefEqProofs only [tup0, tup1, wpB_some', gd_true, gd_false, gd_tf, gd_ft, gd_ut, gd_uf, gv_true, gv_false, gv_tf, gv_ft, gv_ut, gv_uf, gE_true, gE_false, gE_tf, gE_ft, gE_ut, gE_uf, gU_true, gU_false, gU_tf, gU_ft, pickv_true, pickv_false, cnd_true, cnd_false, decide_true, decide_false, Bool.not_true, Bool.not_false, pr_not, nilv_some, bp_lss, bp_leq, bp_gtr, bp_geq, be_eql, be_neq, bne_self_eq_false, beq_self_eq_true, ldC_some, Option.isNone_none, Option.isNone_some, hp_drew, al_53]
  rw [st_res (c := (rsC noR).toArray) (e := 53) (by rw [alloc_heap, if_pos rfl]; rfl) rfl]
  generalize hw3 : put (w2.alloc _) w2.heap.size _ _ = w3
  have c3 : Chg [] w2 w3 := by rw [← hw3]; exact ((Chg.refl _ _).alloc _).put (.inr (Nat.le_refl _)) _ _
  have a3 : hp w3 w2.heap.size = some (.cells (rsC (codeR 2)).toArray 53) := by rw [← hw3]; exact put_same (by simp) _ _
  clear hw3
  have M2 := M1.keep c3
  have n3 : ¬ F w2.heap.size := fun h => by have := isAt.lt M1.I (good_md _) _ h; omega
  generalize w2.heap.size = g3 at *
  simp -implicitDefEqProofs only [bdh_1, wpB_some', al_51]
  rw [st_hn (c := (hnC noH).toArray) (e := 51) (by rw [alloc_heap, if_pos rfl]; rfl) rfl]
  generalize hw4 : put (w3.alloc _) w3.heap.size _ _ = w4
  have c4 : Chg [] w3 w4 := by rw [← hw4]; exact ((Chg.refl _ _).alloc _).put (.inr (Nat.le_refl _)) _ _
  have a5 : hp w4 w3.heap.size = some (.cells (hnC (0, 1, 0, 0, 0)).toArray 51) := by rw [← hw4]; exact put_same (by simp) _ _
  clear hw4
  have M3 := M2.keep c4
  have n5 : ¬ F w3.heap.size := fun h => by have := isAt.lt M2.I (good_md _) _ h; omega
  have a34 := c4.at a3 (by simp)
  generalize w3.heap.size = g5 at *
  simp -implicitDefEqProofs only [bdo_0, bdh_, ld_hn a5, bdr_1, wpB_some']
  refine (c_mDo M3.I M3.wf (by omega) 0 (1, 0, 0, 0, 0, 0) noH (0, (0, 1, 0, 0, 0), 0, 0)).mono ?_
  rintro _ w5 ⟨rfl, F5, i5, u5⟩
  have M5 := M3.upd i5 u5 (M3.wf.doV _ _ _ _)
  have a55 := u5.keep a5 n5
  have a35 := u5.keep a34 n3
  rw [m0_do]
  simp -implicitDefEqProofs only [bdo_0, bdr_, ld_hn a55.1, wpB_some']
  refine (c_mDo M5.I M5.wf (by omega) 0 (10, 0, 0, 0, 0, 0) (0, 1, 0, 0, 0) noR).mono ?_
  rintro _ w6 ⟨rfl, F6, i6, u6⟩
  have M6 : MdW w w6 g m2F 2 F6 := M5.upd i6 u6 (M5.wf.doV _ _ _ _)
  have a36 := u6.keep a35.1 a35.2
  have e1 : (doV (doV m0F 0 (1, 0, 0, 0, 0, 0) noH (0, (0, 1, 0, 0, 0), 0, 0)).2 0 (10, 0, 0, 0, 0, 0) (0, 1, 0, 0, 0) noR).1 = true := m1_do
  have hbe : be Try.prog .eql 53 (.tmp 40) (.tmp 41) (.agg (rsC (codeR 2)).toArray) (.agg (rsC (codeR 2)).toArray) = some (.bool true) := by rw [be_rs, decide_eq_true rfl]
  obtain ⟨_, _, _, R6⟩ := M6.I.rd
  rw [e1]
  simp -implicitDefEqProofs only [wpB_some', gd_true, gd_false, gd_tf, gd_ft, gd_ut, gd_uf, gv_true, gv_false, gv_tf, gv_ft, gv_ut, gv_uf, gE_true, gE_false, gE_tf, gE_ft, gE_ut, gE_uf, gU_true, gU_false, gU_tf, gU_ft, pickv_true, pickv_false, cnd_true, cnd_false, decide_true, decide_false, Bool.not_true, Bool.not_false, pr_not, nilv_some, bp_lss, bp_leq, bp_gtr, bp_geq, be_eql, be_neq, bne_self_eq_false, beq_self_eq_true, ldC_some, Option.isNone_none, Option.isNone_some, hp_drew, ld_res a36.1, bdr_0, hbe]
  refine (c_mSpare R6 M6.wf.sl).mono ?_
  rintro _ w7 ⟨rfl, c7⟩
  have M7 := M6.keep c7
  have e2 : (((spareN m2F.slots : Nat) : Int) == 0) = true := by rw [m2_spare]; rfl
  simp -implicitDefEqProofs only [wpB_some', gd_true, gd_false, gd_tf, gd_ft, gd_ut, gd_uf, gv_true, gv_false, gv_tf, gv_ft, gv_ut, gv_uf, gE_true, gE_false, gE_tf, gE_ft, gE_ut, gE_uf, gU_true, gU_false, gU_tf, gU_ft, pickv_true, pickv_false, cnd_true, cnd_false, decide_true, decide_false, Bool.not_true, Bool.not_false, pr_not, nilv_some, bp_lss, bp_leq, bp_gtr, bp_geq, be_eql, be_neq, bne_self_eq_false, beq_self_eq_true, ldC_some, Option.isNone_none, Option.isNone_some, hp_drew, e2]
  refine (c_mBack M7.I 0).mono ?_
  rintro _ w8 ⟨rfl, F8, i8, u8⟩
  have M8 := M7.upd i8 u8 (M7.wf.back 0)
  rw [m2_back]
  obtain ⟨_, _, _, R8⟩ := M8.I.rd
  simp -implicitDefEqProofs only [wpB_some', gd_true, gd_false, gd_tf, gd_ft, gd_ut, gd_uf, gv_true, gv_false, gv_tf, gv_ft, gv_ut, gv_uf, gE_true, gE_false, gE_tf, gE_ft, gE_ut, gE_uf, gU_true, gU_false, gU_tf, gU_ft, pickv_true, pickv_false, cnd_true, cnd_false, decide_true, decide_false, Bool.not_true, Bool.not_false, pr_not, nilv_some, bp_lss, bp_leq, bp_gtr, bp_geq, be_eql, be_neq, bne_self_eq_false, beq_self_eq_true, ldC_some, Option.isNone_none, Option.isNone_some, hp_drew]
  refine (c_mSpare R8 M8.wf.sl).mono ?_
  rintro _ w9 ⟨rfl, c9⟩
  have e3 : (((spareN (backV m2F 0).2.slots : Nat) : Int) == 1) = true := by rw [m3_spare]; rfl
  simp -implicitDefEqProofs only [wpB_some', gd_true, gd_false, gd_tf, gd_ft, gd_ut, gd_uf, gv_true, gv_false, gv_tf, gv_ft, gv_ut, gv_uf, gE_true, gE_false, gE_tf, gE_ft, gE_ut, gE_uf, gU_true, gU_false, gU_tf, gU_ft, pickv_true, pickv_false, cnd_true, cnd_false, decide_true, decide_false, Bool.not_true, Bool.not_false, pr_not, nilv_some, bp_lss, bp_leq, bp_gtr, bp_geq, be_eql, be_neq, bne_self_eq_false, beq_self_eq_true, ldC_some, Option.isNone_none, Option.isNone_some, hp_drew, e3]
  exact ⟨by first | rfl | trivial, (M8.keep c9).chg⟩
end
end Go.Proofs.Ytgamnncehjcdiaa

namespace Go.Proofs.Ytgamnncehjcdiaa
open Go Ev Go.RowKit
set_option linter.unusedSimpArgs false
set_option linter.unusedVariables false
set_option maxRecDepth 10000

def oW (W : Int) : HnV := (1, 1, 0, 0, W)
def hW : HnV := (1, 1, 0, 0, 0)
def gW : HnV := (0, 1, 0, 0, 0)
def xW : HnV := (0, 1, 0, 0, 5)
def cW (W : Int) : CfV := (1, 1, W, 2, 0, 1)
def stA (W : Int) (L : List Int) : MdV := ⟨cW W, false, [(0, 0), (1, 1)], [⟨(1, 1), 0, W, [0], [L], [oW W]⟩], [⟨1, [(1, 1)]⟩]⟩
def stA1 (W : Int) (L : List Int) : MdV := ⟨cW W, false, [(0, 0), (2, 1)], [⟨(1, 1), 0, W, [0], [L], [oW W]⟩], [⟨1, [(1, 1)]⟩]⟩
def stA2 (W : Int) (L : List Int) : MdV := ⟨cW W, false, [(1, 1), (2, 1)], [⟨(1, 1), 0, W, [0], [L], [oW W]⟩, ⟨(0, 1), 0, 0, [], [], []⟩], [⟨1, [(1, 1)]⟩]⟩
def stB (W : Int) (L : List Int) : MdV := ⟨cW W, false, [(1, 1), (2, 1)], [⟨(1, 1), 0, W, [0], [L], [oW W]⟩, ⟨(0, 1), 0, if W = 8 then 8 else 5, [0], [List.replicate W.toNat 0], [xW]⟩], [⟨1, [(1, 1)]⟩]⟩
def stW (W : Int) (fr : Bool) (L : List Int) : MdV := match fr with | true => stB W L | false => stA W L
section
variable {W k v x : Int} {fr : Bool} {L : List Int} {m : MdV} {d : HdV} {o : OpV} {h : HnV} {r : RsV}
def nw1 (W : Int) : MdV := ⟨cW W, false, [(0, 0), (1, 1)], [⟨(1, 1), 0, 0, [], [], []⟩], [⟨0, []⟩]⟩
def nw2 (W : Int) : MdV := ⟨cW W, false, [(0, 0), (1, 1)], [⟨(1, 1), 0, W, [0], [List.replicate W.toNat 0], [oW W]⟩], [⟨0, []⟩]⟩
def nw3 (W : Int) : MdV := ⟨cW W, false, [(0, 0), (1, 1)], [⟨(1, 1), 0, W, [0], [List.replicate W.toNat 0], [oW W]⟩], [⟨1, []⟩]⟩
theorem go1 (h : W = 8 ∨ W = 16) : doV (newM (cW W) false) 0 (1, 0, 0, 0, 0, 0) noH (0, hW, 0, 0) = (true, nw1 W) := by rcases h with rfl | rfl <;> kernel_rfl
theorem go2 (h : W = 8 ∨ W = 16) : doV (nw1 W) 0 (2, 0, 0, W, 0, 0) hW (0, oW W, 0, 0) = (true, nw2 W) := by rcases h with rfl | rfl <;> kernel_rfl
theorem go3 (h : W = 8 ∨ W = 16) : doV (nw2 W) 0 (3, 0, 0, 0, 0, 0) noH noR = (true, nw3 W) := by rcases h with rfl | rfl <;> kernel_rfl
theorem go4 (h : W = 8 ∨ W = 16) : doV (nw3 W) 0 (5, 0, 0, 0, 0, 0) (oW W) noR = (true, stW W false (List.replicate W.toNat 0)) := by rcases h with rfl | rfl <;> kernel_rfl
theorem go5 (h : W = 8 ∨ W = 16) (L : List Int) : doV (stW W false L) 0 (10, 0, 0, 0, 0, 0) hW noR = (true, stA1 W L) := by rcases h with rfl | rfl <;> kernel_rfl
theorem go6 (h : W = 8 ∨ W = 16) (L : List Int) : doV (stA1 W L) 0 (1, 0, 0, 0, 0, 0) noH (0, gW, 0, 0) = (true, stA2 W L) := by rcases h with rfl | rfl <;> kernel_rfl
theorem go7 (h : W = 8 ∨ W = 16) (L : List Int) : doV (stA2 W L) 0 (2, 0, 0, 5, 0, 0) gW (0, xW, 0, 0) = (true, stW W true L) := by rcases h with rfl | rfl <;> kernel_rfl
theorem may_touch (hm : m.hands.length = 1) {kd : Int} (h6 : 6 ≤ kd) (h9 : kd ≤ 9) (k0 : 0 ≤ k) (k1 : k < 16) (hv : 7 ≤ kd ∨ v = 0) (hx : kd = 9 ∨ x = 0) : mayV m 0 (kd, 0, 0, k, v, x) = true := by
  have hk : kd = 6 ∨ kd = 7 ∨ kd = 8 ∨ kd = 9 := by omega
  rcases hk with rfl | rfl | rfl | rfl <;> simp [mayV, mayO, hm, frM, atM, nM, nB, vB, wB, ofK] <;> omega
theorem do_touch (hm : mayV m 0 o = true) (hd : m.hands[0]? = some d) (hr : refusesV m d o h = 0) (ho : o.1 ≠ 1 ∧ o.1 ≠ 2) : doV m 0 o h r = if r = mustB m o h then (true, if r.1 = 0 then doesV m 0 o h else m) else (false, m) := by
  have hd' : m.hands[(0 : Int).toNat]? = some d := hd
  have mv : mustV m 0 o h = (mustB m o h, true) := by
    rw [mustV, if_neg (by rw [hm]; simp), hd']
    simp only
    rw [if_neg (by rw [hr]; simp), if_neg (by rintro (h1 | h1); exact ho.1 h1; exact ho.2 h1)]
  rw [doV, if_neg (by rw [hm]; simp), mv]
  simp only [if_true]
theorem hands_st : (stW W fr L).hands = [⟨1, [(1, 1)]⟩] := by cases fr <;> rfl
theorem known_st (h : W = 8 ∨ W = 16) : knownV (stW W fr L) (oW W) 2 = true := by rcases h with rfl | rfl <;> cases fr <;> kernel_rfl
theorem refuses_st (h : W = 8 ∨ W = 16) {kd : Int} (h6 : 6 ≤ kd) (h9 : kd ≤ 9) (k1 : k < W) : refusesV (stW W fr L) ⟨1, [(1, 1)]⟩ (kd, 0, 0, k, v, x) (oW W) = 0 := by
  have e : ofK kd = 2 := by rw [ofK, if_neg (by omega), if_pos ⟨h6, h9⟩]
  rw [refusesV, if_neg (by simp only [e, known_st h]; simp), codeV, if_neg (by simp only; omega), if_neg (by simp only; omega), if_neg (by simp only; omega), if_neg (by simp only; omega), if_pos ⟨h6, h9⟩, if_neg (by rw [show holdsV ⟨1, [(1, 1)]⟩ (oW W) = true from rfl]; simp), if_neg (by show ¬ W ≤ k; omega)]
theorem find_st : findR (stW W fr L).rgs (nmOf (oW W)) = some 0 := by cases fr <;> kernel_rfl
theorem rg_st : (stW W fr L).rgs[0]? = some ⟨(1, 1), 0, W, [0], [L], [oW W]⟩ := by cases fr <;> rfl
theorem word_st (k0 : 0 ≤ k) : wordV (stW W fr L) (oW W) k = L.getD k.toNat 0 := by
  rw [wordV, rgOf, find_st]
  simp only [Option.bind_some, rg_st]
  have e : chunkW ⟨(1, 1), 0, W, [0], [L], [oW W]⟩ (oW W).2.2.1 = L := by rfl
  rw [e]
  show L.getD (0 + k).toNat 0 = _
  rw [Int.zero_add]
theorem set_st (k0 : 0 ≤ k) (y : Int) : setWordV (stW W fr L) (oW W) k y = stW W fr (L.set k.toNat y) := by
  rw [setWordV, find_st]
  simp only [rg_st]
  have e : setW ⟨(1, 1), 0, W, [0], [L], [oW W]⟩ (oW W) k y = ⟨(1, 1), 0, W, [0], [L.set k.toNat y], [oW W]⟩ := by
    have e1 : chunkW ⟨(1, 1), 0, W, [0], [L], [oW W]⟩ (oW W).2.2.1 = L := by rfl
    have e2 : ((oW W).2.2.2.1 + k).toNat = k.toNat := by show (0 + k).toNat = _; rw [Int.zero_add]
    simp only [setW, e1, e2]
    rfl
  rw [e]
  cases fr <;> rfl
/-- what each of the operations on a word does -/
theorem go_load (h : W = 8 ∨ W = 16) (k0 : 0 ≤ k) (k1 : k < W) (y : Int) : doV (stW W fr L) 0 (6, 0, 0, k, 0, 0) (oW W) (0, noH, 0, y) = (decide (y = L.getD k.toNat 0), stW W fr L) := by
  rw [do_touch (may_touch (by rw [hands_st]; rfl) (by omega) (by omega) k0 (by omega) (.inr rfl) (.inr rfl)) (by rw [hands_st]; rfl) (refuses_st h (by omega) (by omega) k1) (by simp)]
  have eb : mustB (stW W fr L) (6, 0, 0, k, 0, 0) (oW W) = (0, noH, 0, L.getD k.toNat 0) := by rw [mustB, if_pos (.inl rfl), word_st k0]
  rw [eb]
  by_cases hy : y = L.getD k.toNat 0
  · rw [if_pos (by rw [hy]), decide_eq_true hy]
    simp only [if_true]
    rw [doesV, hands_st]; rfl
  · rw [if_neg (fun e => hy (congrArg (fun r : RsV => r.2.2.2) e)), decide_eq_false hy]
theorem go_store (h : W = 8 ∨ W = 16) (k0 : 0 ≤ k) (k1 : k < W) : doV (stW W fr L) 0 (7, 0, 0, k, v, 0) (oW W) noR = (true, stW W fr (L.set k.toNat v)) := by
  rw [do_touch (may_touch (by rw [hands_st]; rfl) (by omega) (by omega) k0 (by omega) (.inl (by omega)) (.inr rfl)) (by rw [hands_st]; rfl) (refuses_st h (by omega) (by omega) k1) (by simp)]
  rw [if_pos (by rfl), if_pos (by rfl), doesV, hands_st]
  simp only [List.getElem?_cons_zero, Int.toNat_zero]
  rw [if_neg (by decide), if_neg (by decide), if_neg (by decide), if_pos trivial, set_st k0]
theorem go_add (h : W = 8 ∨ W = 16) (k0 : 0 ≤ k) (k1 : k < W) : doV (stW W fr L) 0 (8, 0, 0, k, v, 0) (oW W) (0, noH, 0, L.getD k.toNat 0) = (true, stW W fr (L.set k.toNat (IntKind.u64.wrap (L.getD k.toNat 0 + v)))) := by
  rw [do_touch (may_touch (by rw [hands_st]; rfl) (by omega) (by omega) k0 (by omega) (.inl (by omega)) (.inr rfl)) (by rw [hands_st]; rfl) (refuses_st h (by omega) (by omega) k1) (by simp)]
  have eb : mustB (stW W fr L) (8, 0, 0, k, v, 0) (oW W) = (0, noH, 0, L.getD k.toNat 0) := by rw [mustB, if_pos (.inr rfl), word_st k0]
  rw [eb, if_pos rfl, if_pos rfl, doesV, hands_st]
  simp only [List.getElem?_cons_zero, Int.toNat_zero]
  rw [if_neg (by decide), if_neg (by decide), if_neg (by decide), if_neg (by decide), if_pos trivial, set_st k0, word_st k0]
theorem go_cas (h : W = 8 ∨ W = 16) (k0 : 0 ≤ k) (k1 : k < W) (hv : L.getD k.toNat 0 = v) : doV (stW W fr L) 0 (9, 0, 0, k, v, x) (oW W) (0, noH, 1, 0) = (true, stW W fr (L.set k.toNat x)) := by
  rw [do_touch (may_touch (by rw [hands_st]; rfl) (by omega) (by omega) k0 (by omega) (.inl (by omega)) (.inl rfl)) (by rw [hands_st]; rfl) (refuses_st h (by omega) (by omega) k1) (by simp)]
  have eb : mustB (stW W fr L) (9, 0, 0, k, v, x) (oW W) = (0, noH, 1, 0) := by rw [mustB, if_neg (by simp), if_pos rfl, word_st k0, if_pos hv]
  rw [eb, if_pos rfl, if_pos rfl, doesV, hands_st]
  simp only [List.getElem?_cons_zero, Int.toNat_zero]
  rw [if_neg (by decide), if_neg (by decide), if_neg (by decide), if_neg (by decide), if_neg (by decide), if_pos trivial, set_st k0, word_st k0, if_pos hv]
theorem go_cas0 (h : W = 8 ∨ W = 16) (k0 : 0 ≤ k) (k1 : k < W) (hv : L.getD k.toNat 0 ≠ v) : doV (stW W fr L) 0 (9, 0, 0, k, v, x) (oW W) noR = (true, stW W fr L) := by
  rw [do_touch (may_touch (by rw [hands_st]; rfl) (by omega) (by omega) k0 (by omega) (.inl (by omega)) (.inl rfl)) (by rw [hands_st]; rfl) (refuses_st h (by omega) (by omega) k1) (by simp)]
  have eb : mustB (stW W fr L) (9, 0, 0, k, v, x) (oW W) = noR := by rw [mustB, if_neg (by simp), if_pos rfl, word_st k0, if_neg hv]; rfl
  rw [eb, if_pos rfl, if_pos (by rfl), doesV, hands_st]
  simp only [List.getElem?_cons_zero, Int.toNat_zero]
  rw [if_neg (by decide), if_neg (by decide), if_neg (by decide), if_neg (by decide), if_neg (by decide), if_pos trivial, word_st k0, if_neg hv]
theorem val_o (h : W = 8 ∨ W = 16) (k0 : 0 ≤ k) (k1 : k < W) : valueV (stW W fr L) (oW W) k = (L.getD k.toNat 0, true) := by
  rw [valueV, if_pos ⟨known_st h, k0, k1⟩, word_st k0]
theorem val_x (h : W = 8 ∨ W = 16) : valueV (stW W fr L) xW 0 = (0, fr) := by rcases h with rfl | rfl <;> cases fr <;> kernel_rfl
theorem wrap_ne {a : Int} (h0 : 0 ≤ a) (h1 : a < 18446744073709551616) : IntKind.u64.wrap (a + 1) ≠ a := by
  by_cases h : a = 18446744073709551615
  · rw [h]; decide
  · rw [wrapu (by omega) (by omega)]; omega
end
end Go.Proofs.Ytgamnncehjcdiaa

namespace Go.Proofs.Ytgamnncehjcdiaa
open Go Ev Go.RowKit
set_option linter.unusedSimpArgs false
set_option linter.unusedVariables false
set_option maxRecDepth 10000

theorem pair_at {w : World} {A : Option Addr} {c : Nat} {L : List NmV} (h : RdV w A (L.flatMap nmC)) {i : Nat} {p : NmV} (hp' : L[i]? = some p) :
    ∃ b o, pureRun Try.prog (Instr.indexAt 72 (.slice A L.length c) (.int .i64 i)) = some (.pointer (some ⟨b, o, none⟩)) ∧ ldC (hp w b) (o + 0) = some (.int .i64 p.1) ∧ ldC (hp w b) (o + 1) = some (.int .i64 p.2) := by
  have hi := (List.getElem?_eq_some_iff.1 hp').1
  obtain ⟨b, o, h1, h2, _⟩ := h.elem (P := Try.prog) (c := c) (n := L.length) (i := (i : Int)) (j := .i64) Try.underlying72 (z := 2) (by kernel_rfl) (by omega) (by rw [flatM_len nmC_len]; exact Nat.le_refl _) (by omega) (by omega)
  rw [Int.toNat_natCast] at h2
  exact ⟨b, o, h1, (h2 0 (by omega)).trans (flatM_get nmC_len L i p hp' 0 (by omega)), (h2 1 (by omega)).trans (flatM_get nmC_len L i p hp' 1 (by omega))⟩
theorem pair_0 (b o : Nat) : pureRun Try.prog (Instr.indexAt 80 (.pointer (some ⟨b, o, none⟩)) (.int .i64 0)) = some (.pointer (some ⟨b, o + 0, none⟩)) := pr_indexA (k := .i64) (i := 0) (z := 1) Try.underlying80 (by kernel_rfl) (by omega) (by omega)
theorem pair_1 (b o : Nat) : pureRun Try.prog (Instr.indexAt 80 (.pointer (some ⟨b, o, none⟩)) (.int .i64 1)) = some (.pointer (some ⟨b, o + 1, none⟩)) := pr_indexA (k := .i64) (i := 1) (z := 1) Try.underlying80 (by kernel_rfl) (by omega) (by omega)
theorem arr_at (b : Nat) {k : Int} (h0 : 0 ≤ k) (h1 : k < 16) : pureRun Try.prog (Instr.indexAt 79 (.pointer (some ⟨b, 0, none⟩)) (.int .i64 k)) = some (.pointer (some ⟨b, k.toNat, none⟩)) := by
  have := pr_indexA (P := Try.prog) (b := b) (o := 0) (k := .i64) (i := k) (z := 1) Try.underlying79 (by kernel_rfl) h0 h1
  rw [Nat.zero_add, Nat.mul_one] at this
  exact this
/-- all that the loop has -/
structure Wds (W0 w : World) (g g8 g11 g12 g13 g14 g15 : Nat) (W : Int) (m : MdV) (I : List Int) (K : Nat) (F : Fp) : Prop where
  M : MdW W0 w g m K F
  h8 : hp w g8 = some (.cells (cfC (cW W)).toArray 74)
  h11 : hp w g11 = some (.cells (hnC hW).toArray 51)
  h12 : hp w g12 = some (.cells (hnC (oW W)).toArray 51)
  h13 : hp w g13 = some (.cells (hnC gW).toArray 51)
  h14 : hp w g14 = some (.cells (hnC xW).toArray 51)
  h15 : hp w g15 = some (.cells (u64s I).toArray 79)
  n8 : ¬ F g8
  n11 : ¬ F g11
  n12 : ¬ F g12
  n13 : ¬ F g13
  n14 : ¬ F g14
  n15 : ¬ F g15
  new : W0.heap.size ≤ g15
section
variable {W0 w w' : World} {g g8 g11 g12 g13 g14 g15 : Nat} {W : Int} {m m' : MdV} {I : List Int} {K K' : Nat} {F F' : Fp}
theorem Wds.keep (D : Wds W0 w g g8 g11 g12 g13 g14 g15 W m I K F) (hc : Chg [] w w') : Wds W0 w' g g8 g11 g12 g13 g14 g15 W m I K F :=
  ⟨D.M.keep hc, hc.at D.h8 (by simp), hc.at D.h11 (by simp), hc.at D.h12 (by simp), hc.at D.h13 (by simp), hc.at D.h14 (by simp), hc.at D.h15 (by simp), D.n8, D.n11, D.n12, D.n13, D.n14, D.n15, D.new⟩
theorem Wds.upd (D : Wds W0 w g g8 g11 g12 g13 g14 g15 W m I K F) (i : MdI w' g m' F') (u : UpdP F F' w w') (wf : Wf m' K') : Wds W0 w' g g8 g11 g12 g13 g14 g15 W m' I K' F' :=
  ⟨D.M.upd i u wf, (u.keep D.h8 D.n8).1, (u.keep D.h11 D.n11).1, (u.keep D.h12 D.n12).1, (u.keep D.h13 D.n13).1, (u.keep D.h14 D.n14).1, (u.keep D.h15 D.n15).1,
    (u.keep D.h8 D.n8).2, (u.keep D.h11 D.n11).2, (u.keep D.h12 D.n12).2, (u.keep D.h13 D.n13).2, (u.keep D.h14 D.n14).2, (u.keep D.h15 D.n15).2, D.new⟩
theorem Wds.put (D : Wds W0 w g g8 g11 g12 g13 g14 g15 W m I K F) (J : List Int) : Wds W0 (Ev.put w g15 (u64s J).toArray 79) g g8 g11 g12 g13 g14 g15 W m J K F := by
  have ne : ∀ {x : Nat} {c : Array Value} {e : TypeId}, hp w x = some (.cells c e) → e ≠ 79 → x ≠ g15 := fun hx he h => by
    subst h
    rw [D.h15] at hx
    cases hx
    exact he rfl
  have I' : MdI (Ev.put w g15 (u64s J).toArray 79) g m F := D.M.I.frame (good_md m) (ChgP.put w g15 _ _) fun k hk h => D.n15 (by rw [← h]; exact hk)
  exact ⟨⟨D.M.chg.put (.inr D.new) _ _, I', D.M.new, D.M.wf⟩, by rw [put_other (ne D.h8 (by decide))]; exact D.h8, by rw [put_other (ne D.h11 (by decide))]; exact D.h11, by rw [put_other (ne D.h12 (by decide))]; exact D.h12,
    by rw [put_other (ne D.h13 (by decide))]; exact D.h13, by rw [put_other (ne D.h14 (by decide))]; exact D.h14, put_same (blk_lt D.h15) _ _, D.n8, D.n11, D.n12, D.n13, D.n14, D.n15, D.new⟩
theorem Wds.does (D : Wds W0 w g g8 g11 g12 g13 g14 g15 W m I K F) (hK : K + 1 ≤ 1000000) {kind n v x : Int} {h : HnV} {r : RsV} {b : Bool} (hd : doV m 0 (kind, 0, 0, n, v, x) h r = (b, m')) :
    CallR Try.prog 42 [.pointer (some ⟨g, 0, none⟩), .int .i64 kind, .int .i64 n, .int .u64 v, .int .u64 x, .agg (hnC h).toArray, .agg (rsC r).toArray] w fun u w' => u = .bool b ∧ ∃ F', Wds W0 w' g g8 g11 g12 g13 g14 g15 W m' I (K + 1) F' := by
  have wf := D.M.wf.doV 0 (kind, 0, 0, n, v, x) h r
  refine (c_does24 D.M.I D.M.wf hK kind n v x h r).mono ?_
  rintro u w1 ⟨hu, F1, i1, u1⟩
  rw [hd] at hu i1 wf
  exact ⟨hu, F1, D.upd i1 u1 wf⟩
theorem bdr_2 (x : Int) : pureRun Try.prog (Instr.build 53 #[(2, .int .i64 x)]) = some (.agg (rsC (0, noH, x, 0)).toArray) := bd_53_2
theorem bdr_3 (x : Int) : pureRun Try.prog (Instr.build 53 #[(3, .int .u64 x)]) = some (.agg (rsC (0, noH, 0, x)).toArray) := bd_53_3
theorem u64_ld {I : List Int} {e : TypeId} {k : Nat} (h : hp w g = some (.cells (u64s I).toArray e)) (hk : k < I.length) : ldC (hp w g) k = some (.int .u64 (I.getD k 0)) := by
  rw [h, ldC_some]
  simp [u64s, List.getD_eq_getElem?_getD, hk]
theorem set_getD {L : List Int} {k j : Nat} {x : Int} : (L.set k x).getD j 0 = if k = j ∧ j < L.length then x else L.getD j 0 := by
  rw [List.getD_eq_getElem?_getD, List.getElem?_set, List.getD_eq_getElem?_getD]
  by_cases h : k = j
  · subst h
    by_cases h2 : k < L.length
    · rw [if_pos rfl, if_pos h2, if_pos ⟨rfl, h2⟩]; rfl
    · rw [if_pos rfl, if_neg h2, if_neg (fun h => h2 h.2), List.getElem?_eq_none (by omega)]
  · rw [if_neg h, if_neg (fun h' => h h'.1)]
theorem u64_rng (n : Int) : 0 ≤ IntKind.u64.wrap n ∧ IntKind.u64.wrap n < 18446744073709551616 := by
  simp [IntKind.wrap, IntKind.bits, IntKind.signed]; omega
set_option maxHeartbeats 4000000 in
theorem l_words0 (hw : W = 8 ∨ W = 16) {A : Option Addr} {c : Nat} {ps : List NmV} (hR : RdV W0 A (ps.flatMap nmC)) (hl : ps.length ≤ 30) (at' : Int) (hat : 0 ≤ at' ∧ at' < 31) :
    ∀ (d i : Nat) (w : World) (F : Fp) (L I : List Int), i + d = ps.length → Wds W0 w g g8 g11 g12 g13 g14 g15 W (stW W (decide (at' < i)) L) I (10 * i + 10) F → (L.length : Int) = W → I.length = 16 → (∀ j : Nat, (j : Int) < W → I.getD j 0 = L.getD j 0) → (∀ j : Nat, 0 ≤ L.getD j 0 ∧ L.getD j 0 < 18446744073709551616) →
      P10_0 (.slice A ps.length c) (.bool true) (.pointer (some ⟨g8, 0, none⟩)) (.pointer (some ⟨g, 0, none⟩)) (.pointer (some ⟨g11, 0, none⟩)) (.pointer (some ⟨g12, 0, none⟩)) (.pointer (some ⟨g13, 0, none⟩)) (.pointer (some ⟨g14, 0, none⟩)) (.pointer (some ⟨g15, 0, none⟩)) (.int .i64 at') (.int .i64 i) w fun v w' => v = .bool true ∧ Chg [] W0 w'
  | 0, i, w, F, L, I, hi, D, hL, hI, hIL, hr => by
    apply L10_0_ok
    have : ¬ (i : Int) < ps.length := by omega
    simp -implicitDefEqProofs only [L10_0, wpB_some', gd_true, gd_false, gd_tf, gd_ft, gd_ut, gd_uf, gv_true, gv_false, gv_tf, gv_ft, gv_ut, gv_uf, gE_true, gE_false, gE_tf, gE_ft, gE_ut, gE_uf, gU_true, gU_false, gU_tf, gU_ft, pickv_true, pickv_false, cnd_true, cnd_false, decide_true, decide_false, Bool.not_true, Bool.not_false, pr_not, nilv_some, bp_lss, bp_leq, bp_gtr, bp_geq, be_eql, be_neq, bne_self_eq_false, beq_self_eq_true, ldC_some, Option.isNone_none, Option.isNone_some, hp_drew, len_72, this]
    exact ⟨by first | rfl | trivial, D.M.chg⟩
  | d + 1, i, w, F, L, I, hi, D, hL, hI, hIL, hr => by
    apply L10_0_ok
    have hlt : (i : Int) < ps.length := by omega
    obtain ⟨p, hp'⟩ : ∃ p, ps[i]? = some p := ⟨_, List.getElem?_eq_getElem (by omega)⟩
    have i30 : i < 30 := by omega
    have hge : decide ((i : Int) ≥ at') = decide (at' < ((i + 1 : Nat) : Int)) := by
      by_cases h : (i : Int) ≥ at'
      · rw [decide_eq_true h, decide_eq_true (by omega)]
      · rw [decide_eq_false h, decide_eq_false (by omega)]
    by_cases hia : (i : Int) = at'
    case' pos =>
      have e1 : ((i : Int) == at') = true := by rw [hia]; exact beq_self_eq_true _
      rw [decide_eq_false (by omega)] at D
      simp -implicitDefEqProofs only [L10_0, wpB_some', gd_true, gd_false, gd_tf, gd_ft, gd_ut, gd_uf, gv_true, gv_false, gv_tf, gv_ft, gv_ut, gv_uf, gE_true, gE_false, gE_tf, gE_ft, gE_ut, gE_uf, gU_true, gU_false, gU_tf, gU_ft, pickv_true, pickv_false, cnd_true, cnd_false, decide_true, decide_false, Bool.not_true, Bool.not_false, pr_not, nilv_some, bp_lss, bp_leq, bp_gtr, bp_geq, be_eql, be_neq, bne_self_eq_false, beq_self_eq_true, ldC_some, Option.isNone_none, Option.isNone_some, hp_drew, len_72, hlt, e1, ld_hn D.h11, bdr_]
      refine (D.does (by omega) (go5 hw L)).mono ?_
      rintro _ w1 ⟨rfl, F1, D1⟩
      simp -implicitDefEqProofs only [wpB_some', gd_true, gd_false, gd_tf, gd_ft, gd_ut, gd_uf, gv_true, gv_false, gv_tf, gv_ft, gv_ut, gv_uf, gE_true, gE_false, gE_tf, gE_ft, gE_ut, gE_uf, gU_true, gU_false, gU_tf, gU_ft, pickv_true, pickv_false, cnd_true, cnd_false, decide_true, decide_false, Bool.not_true, Bool.not_false, pr_not, nilv_some, bp_lss, bp_leq, bp_gtr, bp_geq, be_eql, be_neq, bne_self_eq_false, beq_self_eq_true, ldC_some, Option.isNone_none, Option.isNone_some, hp_drew, bdh_, ld_hn D1.h13, bdr_1]
      refine (D1.does (by omega) (go6 hw L)).mono ?_
      rintro _ w2 ⟨rfl, F2, D2⟩
      simp -implicitDefEqProofs only [wpB_some', gd_true, gd_false, gd_tf, gd_ft, gd_ut, gd_uf, gv_true, gv_false, gv_tf, gv_ft, gv_ut, gv_uf, gE_true, gE_false, gE_tf, gE_ft, gE_ut, gE_uf, gU_true, gU_false, gU_tf, gU_ft, pickv_true, pickv_false, cnd_true, cnd_false, decide_true, decide_false, Bool.not_true, Bool.not_false, pr_not, nilv_some, bp_lss, bp_leq, bp_gtr, bp_geq, be_eql, be_neq, bne_self_eq_false, beq_self_eq_true, ldC_some, Option.isNone_none, Option.isNone_some, hp_drew, ld_hn D2.h13, ld_hn D2.h14, bdr_1]
      refine (D2.does (by omega) (go7 hw L)).mono ?_
      rintro _ wz ⟨rfl, Fz, Dz⟩
      simp -implicitDefEqProofs only [wpB_some', gd_true, gd_false, gd_tf, gd_ft, gd_ut, gd_uf, gv_true, gv_false, gv_tf, gv_ft, gv_ut, gv_uf, gE_true, gE_false, gE_tf, gE_ft, gE_ut, gE_uf, gU_true, gU_false, gU_tf, gU_ft, pickv_true, pickv_false, cnd_true, cnd_false, decide_true, decide_false, Bool.not_true, Bool.not_false, pr_not, nilv_some, bp_lss, bp_leq, bp_gtr, bp_geq, be_eql, be_neq, bne_self_eq_false, beq_self_eq_true, ldC_some, Option.isNone_none, Option.isNone_some, hp_drew]
      rw [show true = decide (at' < ((i + 1 : Nat) : Int)) from (decide_eq_true (by omega)).symm] at Dz
      obtain ⟨Kz, hKz, Dz⟩ : ∃ Kz, Kz ≤ 10 * i + 13 ∧ Wds W0 wz g g8 g11 g12 g13 g14 g15 W (stW W (decide (at' < ((i + 1 : Nat) : Int))) L) I Kz Fz := ⟨_, by omega, Dz⟩
    case' neg =>
      have e1 : ((i : Int) == at') = false := eqf hia
      rw [show decide (at' < (i : Int)) = decide (at' < ((i + 1 : Nat) : Int)) by
        by_cases h : at' < (i : Int)
        · rw [decide_eq_true h, decide_eq_true (by omega)]
        · rw [decide_eq_false h, decide_eq_false (by omega)]] at D
      simp -implicitDefEqProofs only [L10_0, wpB_some', gd_true, gd_false, gd_tf, gd_ft, gd_ut, gd_uf, gv_true, gv_false, gv_tf, gv_ft, gv_ut, gv_uf, gE_true, gE_false, gE_tf, gE_ft, gE_ut, gE_uf, gU_true, gU_false, gU_tf, gU_ft, pickv_true, pickv_false, cnd_true, cnd_false, decide_true, decide_false, Bool.not_true, Bool.not_false, pr_not, nilv_some, bp_lss, bp_leq, bp_gtr, bp_geq, be_eql, be_neq, bne_self_eq_false, beq_self_eq_true, ldC_some, Option.isNone_none, Option.isNone_some, hp_drew, len_72, hlt, e1]
      generalize F = Fz at *
      generalize w = wz at *
      obtain ⟨Kz, hKz, Dz⟩ : ∃ Kz, Kz ≤ 10 * i + 13 ∧ Wds W0 wz g g8 g11 g12 g13 g14 g15 W (stW W (decide (at' < ((i + 1 : Nat) : Int))) L) I Kz Fz := ⟨_, by omega, D⟩
    all_goals
      clear e1
      generalize hfr : decide (at' < ((i + 1 : Nat) : Int)) = fr at *
      obtain ⟨b, o, q1, q2, q3⟩ := pair_at (c := c) (hR.keep Dz.M.chg.below) hp'
      have q2' : ldC (hp wz.drew b) (o + 0) = some (.int .i64 p.1) := q2
      have q3' : ldC (hp wz.drew b) (o + 1) = some (.int .i64 p.2) := q3
      simp -implicitDefEqProofs only [wpB_some', gd_true, gd_false, gd_tf, gd_ft, gd_ut, gd_uf, gv_true, gv_false, gv_tf, gv_ft, gv_ut, gv_uf, gE_true, gE_false, gE_tf, gE_ft, gE_ut, gE_uf, gU_true, gU_false, gU_tf, gU_ft, pickv_true, pickv_false, cnd_true, cnd_false, decide_true, decide_false, Bool.not_true, Bool.not_false, pr_not, nilv_some, bp_lss, bp_leq, bp_gtr, bp_geq, be_eql, be_neq, bne_self_eq_false, beq_self_eq_true, ldC_some, Option.isNone_none, Option.isNone_some, hp_drew, q1, pair_0, ld_3, q2, fa_74_2, Dz.h8, cf_2]
      have hW8 : (cW W).2.2.1 = W := rfl
      rw [hW8]
      refine (c_Number p.1 W wz.drew (by omega) (by omega)).step ?_
      have k0 : 0 ≤ p.1 % W := Int.emod_nonneg _ (by omega)
      have k1 : p.1 % W < W := Int.emod_lt_of_pos _ (by omega)
      generalize p.1 % W = k at *
      have kI : k.toNat < I.length := by omega
      have kL : k.toNat < L.length := by omega
      have hIk := hIL k.toNat (by omega)
      have ranw := u64_rng p.2
      have aa := arr_at g15 k0 (show k < 16 by omega)
      have D0 := Dz.keep (Chg.refl [] wz).drew.drew
      simp -implicitDefEqProofs only [wpB_some', gd_true, gd_false, gd_tf, gd_ft, gd_ut, gd_uf, gv_true, gv_false, gv_tf, gv_ft, gv_ut, gv_uf, gE_true, gE_false, gE_tf, gE_ft, gE_ut, gE_uf, gU_true, gU_false, gU_tf, gU_ft, pickv_true, pickv_false, cnd_true, cnd_false, decide_true, decide_false, Bool.not_true, Bool.not_false, pr_not, nilv_some, bp_lss, bp_leq, bp_gtr, bp_geq, be_eql, be_neq, bne_self_eq_false, beq_self_eq_true, ldC_some, Option.isNone_none, Option.isNone_some, hp_drew, q1, pair_1, ld_3, q3', q3, cv_3_38, ld_hn (show hp wz.drew g12 = _ from Dz.h12), ld_hn D0.h12, ld_hn Dz.h12, aa, ld_38, u64_ld (show hp wz.drew g15 = _ from Dz.h15) kI, u64_ld Dz.h15 kI, u64_ld D0.h15 kI, hIk, bdr_3]
      generalize IntKind.u64.wrap p.2 = v at *
      refine (D0.does (by omega) (go_load hw k0 k1 _)).mono ?_
      rintro _ w1 ⟨rfl, F1, D1⟩
      simp -implicitDefEqProofs only [decide_eq_true (Eq.refl (L.getD k.toNat 0)), wpB_some', gd_true, gd_false, gd_tf, gd_ft, gd_ut, gd_uf, gv_true, gv_false, gv_tf, gv_ft, gv_ut, gv_uf, gE_true, gE_false, gE_tf, gE_ft, gE_ut, gE_uf, gU_true, gU_false, gU_tf, gU_ft, pickv_true, pickv_false, cnd_true, cnd_false, decide_true, decide_false, Bool.not_true, Bool.not_false, pr_not, nilv_some, bp_lss, bp_leq, bp_gtr, bp_geq, be_eql, be_neq, bne_self_eq_false, beq_self_eq_true, ldC_some, Option.isNone_none, Option.isNone_some, hp_drew, ld_hn D1.h12, aa, ld_38, u64_ld D1.h15 kI, hIk, bdr_3, bp_add]
      refine (D1.does (by omega) (go_load hw k0 k1 _)).mono ?_
      rintro _ w2 ⟨rfl, F2, D2⟩
      have hne := wrap_ne (hr k.toNat).1 (hr k.toNat).2
      simp -implicitDefEqProofs only [decide_eq_false hne, wpB_some', gd_true, gd_false, gd_tf, gd_ft, gd_ut, gd_uf, gv_true, gv_false, gv_tf, gv_ft, gv_ut, gv_uf, gE_true, gE_false, gE_tf, gE_ft, gE_ut, gE_uf, gU_true, gU_false, gU_tf, gU_ft, pickv_true, pickv_false, cnd_true, cnd_false, decide_true, decide_false, Bool.not_true, Bool.not_false, pr_not, nilv_some, bp_lss, bp_leq, bp_gtr, bp_geq, be_eql, be_neq, bne_self_eq_false, beq_self_eq_true, ldC_some, Option.isNone_none, Option.isNone_some, hp_drew, ld_hn D2.h12, bdr_]
      refine (D2.does (by omega) (go_store hw k0 k1)).mono ?_
      rintro _ w3 ⟨rfl, F3, D3⟩
      have gv1 : (L.set k.toNat v).getD k.toNat 0 = v := by rw [set_getD, if_pos ⟨rfl, kL⟩]
      simp -implicitDefEqProofs only [wpB_some', gd_true, gd_false, gd_tf, gd_ft, gd_ut, gd_uf, gv_true, gv_false, gv_tf, gv_ft, gv_ut, gv_uf, gE_true, gE_false, gE_tf, gE_ft, gE_ut, gE_uf, gU_true, gU_false, gU_tf, gU_ft, pickv_true, pickv_false, cnd_true, cnd_false, decide_true, decide_false, Bool.not_true, Bool.not_false, pr_not, nilv_some, bp_lss, bp_leq, bp_gtr, bp_geq, be_eql, be_neq, bne_self_eq_false, beq_self_eq_true, ldC_some, Option.isNone_none, Option.isNone_some, hp_drew, ld_hn D3.h12, bdr_3]
      have ga := go_add (fr := fr) (L := L.set k.toNat v) (v := 3) hw k0 k1
      rw [gv1, List.set_set] at ga
      refine (D3.does (by omega) ga).mono ?_
      rintro _ w4 ⟨rfl, F4, D4⟩
      have gv2 : (L.set k.toNat (IntKind.u64.wrap (v + 3))).getD k.toNat 0 = IntKind.u64.wrap (v + 3) := by rw [set_getD, if_pos ⟨rfl, kL⟩]
      simp -implicitDefEqProofs only [wpB_some', gd_true, gd_false, gd_tf, gd_ft, gd_ut, gd_uf, gv_true, gv_false, gv_tf, gv_ft, gv_ut, gv_uf, gE_true, gE_false, gE_tf, gE_ft, gE_ut, gE_uf, gU_true, gU_false, gU_tf, gU_ft, pickv_true, pickv_false, cnd_true, cnd_false, decide_true, decide_false, Bool.not_true, Bool.not_false, pr_not, nilv_some, bp_lss, bp_leq, bp_gtr, bp_geq, be_eql, be_neq, bne_self_eq_false, beq_self_eq_true, ldC_some, Option.isNone_none, Option.isNone_some, hp_drew, ld_hn D4.h12, bdr_2, bp_add]
      have gc := go_cas (fr := fr) (x := v) hw k0 k1 gv2
      rw [List.set_set] at gc
      refine (D4.does (by omega) gc).mono ?_
      rintro _ w5 ⟨rfl, F5, D5⟩
      have hne2 : (L.set k.toNat v).getD k.toNat 0 ≠ IntKind.u64.wrap (v + 1) := by rw [gv1]; exact (wrap_ne ranw.1 ranw.2).symm
      simp -implicitDefEqProofs only [wpB_some', gd_true, gd_false, gd_tf, gd_ft, gd_ut, gd_uf, gv_true, gv_false, gv_tf, gv_ft, gv_ut, gv_uf, gE_true, gE_false, gE_tf, gE_ft, gE_ut, gE_uf, gU_true, gU_false, gU_tf, gU_ft, pickv_true, pickv_false, cnd_true, cnd_false, decide_true, decide_false, Bool.not_true, Bool.not_false, pr_not, nilv_some, bp_lss, bp_leq, bp_gtr, bp_geq, be_eql, be_neq, bne_self_eq_false, beq_self_eq_true, ldC_some, Option.isNone_none, Option.isNone_some, hp_drew, ld_hn D5.h12, bdr_, bp_add]
      refine (D5.does (by omega) (go_cas0 hw k0 k1 hne2)).mono ?_
      rintro _ w6 ⟨rfl, F6, D6⟩
      simp -implicitDefEqProofs only [wpB_some', gd_true, gd_false, gd_tf, gd_ft, gd_ut, gd_uf, gv_true, gv_false, gv_tf, gv_ft, gv_ut, gv_uf, gE_true, gE_false, gE_tf, gE_ft, gE_ut, gE_uf, gU_true, gU_false, gU_tf, gU_ft, pickv_true, pickv_false, cnd_true, cnd_false, decide_true, decide_false, Bool.not_true, Bool.not_false, pr_not, nilv_some, bp_lss, bp_leq, bp_gtr, bp_geq, be_eql, be_neq, bne_self_eq_false, beq_self_eq_true, ldC_some, Option.isNone_none, Option.isNone_some, hp_drew, aa]
      rw [st_38 (o := k.toNat) rfl rfl (by rw [D6.h15, okC_some, List.size_toArray]; simp only [u64s, List.length_map]; exact decide_eq_true kI), D6.h15, getC_some, getE_some]
      have eI : (u64s I).toArray.setIfInBounds k.toNat (.int .u64 v) = (u64s (I.set k.toNat v)).toArray := by
        apply Array.toList_inj.1
        simp [u64s, List.map_set]
      rw [eI]
      have D7 := D6.put (I.set k.toNat v)
      generalize put w6 g15 (u64s (I.set k.toNat v)).toArray 79 = w7 at *
      simp -implicitDefEqProofs only [wpB_some', gd_true, gd_false, gd_tf, gd_ft, gd_ut, gd_uf, gv_true, gv_false, gv_tf, gv_ft, gv_ut, gv_uf, gE_true, gE_false, gE_tf, gE_ft, gE_ut, gE_uf, gU_true, gU_false, gU_tf, gU_ft, pickv_true, pickv_false, cnd_true, cnd_false, decide_true, decide_false, Bool.not_true, Bool.not_false, pr_not, nilv_some, bp_lss, bp_leq, bp_gtr, bp_geq, be_eql, be_neq, bne_self_eq_false, beq_self_eq_true, ldC_some, Option.isNone_none, Option.isNone_some, hp_drew, ld_hn D7.h12]
      refine (c_mValue D7.M.I D7.M.wf (by omega) (oW W) k).mono ?_
      rintro _ w8 ⟨rfl, c8⟩
      have D8 := D7.keep c8
      rw [val_o hw k0 k1, gv1]
      simp -implicitDefEqProofs only [wpB_some', gd_true, gd_false, gd_tf, gd_ft, gd_ut, gd_uf, gv_true, gv_false, gv_tf, gv_ft, gv_ut, gv_uf, gE_true, gE_false, gE_tf, gE_ft, gE_ut, gE_uf, gU_true, gU_false, gU_tf, gU_ft, pickv_true, pickv_false, cnd_true, cnd_false, decide_true, decide_false, Bool.not_true, Bool.not_false, pr_not, nilv_some, bp_lss, bp_leq, bp_gtr, bp_geq, be_eql, be_neq, bne_self_eq_false, beq_self_eq_true, ldC_some, Option.isNone_none, Option.isNone_some, hp_drew, tup0, tup1, ld_hn D8.h14]
      refine (c_mValue D8.M.I D8.M.wf (by omega) xW 0).mono ?_
      rintro _ w9 ⟨rfl, c9⟩
      have D9 := D8.keep c9
      rw [val_x hw]
      have e0 : ((0 : Int) != 0) = false := rfl
      by_cases hia' : (i : Int) ≥ at'
      all_goals
        first | rw [decide_eq_true hia'] at hge | rw [decide_eq_false hia'] at hge
        subst hge
        simp -implicitDefEqProofs only [tup0, tup1, wpB_some', gd_true, gd_false, gd_tf, gd_ft, gd_ut, gd_uf, gv_true, gv_false, gv_tf, gv_ft, gv_ut, gv_uf, gE_true, gE_false, gE_tf, gE_ft, gE_ut, gE_uf, gU_true, gU_false, gU_tf, gU_ft, pickv_true, pickv_false, cnd_true, cnd_false, decide_true, decide_false, Bool.not_true, Bool.not_false, pr_not, nilv_some, bp_lss, bp_leq, bp_gtr, bp_geq, be_eql, be_neq, bne_self_eq_false, beq_self_eq_true, ldC_some, Option.isNone_none, Option.isNone_some, hp_drew, e0, bp_geq, hia', be_neqb Try.underlying4, bne_self_eq_false, bp_add, wrapi (n := (i : Int) + 1) (by omega) (by omega)]
        have next := l_words0 (c := c) hw hR hl at' hat d (i + 1) w9 F6 (L.set k.toNat v) (I.set k.toNat v) (by omega) (by
          rw [hfr]
          exact ⟨⟨D9.M.chg, D9.M.I, D9.M.new, D9.M.wf.mono (by omega)⟩, D9.h8, D9.h11, D9.h12, D9.h13, D9.h14, D9.h15, D9.n8, D9.n11, D9.n12, D9.n13, D9.n14, D9.n15, D9.new⟩) (by rw [List.length_set]; exact hL) (by rw [List.length_set]; exact hI) (fun j hj => by
            rw [set_getD, set_getD]
            by_cases hkj : k.toNat = j
            · rw [if_pos ⟨hkj, by omega⟩, if_pos ⟨hkj, by omega⟩]
            · rw [if_neg (fun h => hkj h.1), if_neg (fun h => hkj h.1)]; exact hIL j hj) (fun j => by
            rw [set_getD]
            split
            · exact ranw
            · exact hr j)
        rw [Int.natCast_add i 1] at next
        exact next
set_option maxHeartbeats 2000000 in
theorem c_words (a0 a2 : Int) {A : Option Addr} {c : Nat} {ps : List NmV} (hR : RdV w A (ps.flatMap nmC)) : CallR Try.prog 10 [.int .i64 a0, .slice A ps.length c, .int .i64 a2] w fun v w' => v = .bool true ∧ Chg [] w w' := by
  apply F10_ok
  simp -implicitDefEqProofs only [F10]
  refine (c_mFirst w).mono ?_
  rintro _ w1 ⟨rfl, c1⟩
  by_cases hl : (30 : Int) < ps.length
  · simp -implicitDefEqProofs only [wpB_some', gd_true, gd_false, gd_tf, gd_ft, gd_ut, gd_uf, gv_true, gv_false, gv_tf, gv_ft, gv_ut, gv_uf, gE_true, gE_false, gE_tf, gE_ft, gE_ut, gE_uf, gU_true, gU_false, gU_tf, gU_ft, pickv_true, pickv_false, cnd_true, cnd_false, decide_true, decide_false, Bool.not_true, Bool.not_false, pr_not, nilv_some, bp_lss, bp_leq, bp_gtr, bp_geq, be_eql, be_neq, bne_self_eq_false, beq_self_eq_true, ldC_some, Option.isNone_none, Option.isNone_some, hp_drew, len_72, hl]
    exact ⟨by first | rfl | trivial, c1⟩
  simp -implicitDefEqProofs only [wpB_some', gd_true, gd_false, gd_tf, gd_ft, gd_ut, gd_uf, gv_true, gv_false, gv_tf, gv_ft, gv_ut, gv_uf, gE_true, gE_false, gE_tf, gE_ft, gE_ut, gE_uf, gU_true, gU_false, gU_tf, gU_ft, pickv_true, pickv_false, cnd_true, cnd_false, decide_true, decide_false, Bool.not_true, Bool.not_false, pr_not, nilv_some, bp_lss, bp_leq, bp_gtr, bp_geq, be_eql, be_neq, bne_self_eq_false, beq_self_eq_true, ldC_some, Option.isNone_none, Option.isNone_some, hp_drew, len_72, hl]
  refine (c_Number a0 2 w1 (by omega) (by omega)).step ?_
  have h2 : a0 % 2 = 0 ∨ a0 % 2 = 1 := by omega
  obtain ⟨W, hWe, hw⟩ : ∃ W, 8 + 8 * (a0 % 2) = W ∧ (W = 8 ∨ W = 16) := ⟨_, rfl, by omega⟩
  have hbc : pureRun Try.prog (Instr.build 74 #[(0, .int .i64 1), (1, .int .i64 1), (2, .int .i64 W), (3, .int .i64 2), (5, .int .i64 1)]) = some (.agg (cfC (cW W)).toArray) := bd_74_0_1_2_3_5
  simp -implicitDefEqProofs only [wpB_some', gd_true, gd_false, gd_tf, gd_ft, gd_ut, gd_uf, gv_true, gv_false, gv_tf, gv_ft, gv_ut, gv_uf, gE_true, gE_false, gE_tf, gE_ft, gE_ut, gE_uf, gU_true, gU_false, gU_tf, gU_ft, pickv_true, pickv_false, cnd_true, cnd_false, decide_true, decide_false, Bool.not_true, Bool.not_false, pr_not, nilv_some, bp_lss, bp_leq, bp_gtr, bp_geq, be_eql, be_neq, bne_self_eq_false, beq_self_eq_true, ldC_some, Option.isNone_none, Option.isNone_some, hp_drew, bp_mul, wrapi (n := 8 * (a0 % 2)) (by omega) (by omega), bp_add, hWe, wrapi (n := W) (by omega) (by omega), hbc, al_74]
  rw [st_74 rfl rfl (by rw [alloc_heap, if_pos rfl]; rfl) (by rw [alloc_heap, if_pos rfl]; rfl), alloc_heap, if_pos rfl, getE_some]
  generalize hw2 : put (w1.alloc _) w1.heap.size _ _ = w2
  have c2 : Chg [] w1 w2 := by rw [← hw2]; exact ((Chg.refl _ _).alloc _).put (.inr (Nat.le_refl _)) _ _
  have a8 : hp w2 w1.heap.size = some (.cells (cfC (cW W)).toArray 74) := by rw [← hw2]; exact put_same (by simp) _ _
  have lt8 := blk_lt a8
  clear hw2
  simp -implicitDefEqProofs only [ld_cf a8, wpB_some']
  refine (c_mNew (cW W) w2).mono ?_
  rintro v w3 ⟨c3, hv⟩
  have c03 := c1.trans (c2.trans c3)
  have hmay : mayC (cW W) = true := by rcases hw with rfl | rfl <;> decide
  rcases hv with ⟨hm, _⟩ | ⟨hm, g, F, rfl, I, hF⟩
  · rw [hmay] at hm; cases hm
  have sz := (c1.trans c2).size
  have sz3 := c3.size
  have M0 : MdW w w3 g (newM (cW W) false) 0 F := ⟨c03, I, fun k hk => by have := hF k hk; omega, wf_new hm false⟩
  have n8 : ¬ F w1.heap.size := fun h => by have := hF _ h; omega
  have a83 := c3.at a8 (by simp)
  have hFs : ∀ k, F k → k < w3.heap.size := isAt.lt I (good_md _)
  generalize w1.heap.size = g8 at *
  have en : ((0 : Int) != 0) = false := rfl
  simp -implicitDefEqProofs only [tup0, tup1, wpB_some', gd_true, gd_false, gd_tf, gd_ft, gd_ut, gd_uf, gv_true, gv_false, gv_tf, gv_ft, gv_ut, gv_uf, gE_true, gE_false, gE_tf, gE_ft, gE_ut, gE_uf, gU_true, gU_false, gU_tf, gU_ft, pickv_true, pickv_false, cnd_true, cnd_false, decide_true, decide_false, Bool.not_true, Bool.not_false, pr_not, nilv_some, bp_lss, bp_leq, bp_gtr, bp_geq, be_eql, be_neq, bne_self_eq_false, beq_self_eq_true, ldC_some, Option.isNone_none, Option.isNone_some, hp_drew, be_eqlp Try.underlying75, Option.isNone_some, en, bdh_01, al_51]
  rw [st_hn (c := (hnC noH).toArray) (e := 51) (by rw [alloc_heap, if_pos rfl]; rfl) rfl]
  generalize hw4 : put (w3.alloc _) w3.heap.size _ _ = w4
  have c4 : Chg [] w3 w4 := by rw [← hw4]; exact ((Chg.refl _ _).alloc _).put (.inr (Nat.le_refl _)) _ _
  have a11 : hp w4 w3.heap.size = some (.cells (hnC hW).toArray 51) := by rw [← hw4]; exact put_same (by simp) _ _
  have s4 : w4.heap.size = w3.heap.size + 1 := by rw [← hw4]; simp
  clear hw4
  have a84 := c4.at a83 (by simp)
  have bo : pureRun Try.prog (Instr.build 51 #[(0, .int .i64 1), (1, .int .i64 1), (4, .int .i64 W)]) = some (.agg (hnC (oW W)).toArray) := bd_51_0_1_4
  have bx : pureRun Try.prog (Instr.build 51 #[(1, .int .i64 1), (4, .int .i64 5)]) = some (.agg (hnC xW).toArray) := bd_51_1_4
  have hcf : (cfC (cW W)).toArray[0 + 2]? = some (.int .i64 W) := rfl
  simp -implicitDefEqProofs only [wpB_some', gd_true, gd_false, gd_tf, gd_ft, gd_ut, gd_uf, gv_true, gv_false, gv_tf, gv_ft, gv_ut, gv_uf, gE_true, gE_false, gE_tf, gE_ft, gE_ut, gE_uf, gU_true, gU_false, gU_tf, gU_ft, pickv_true, pickv_false, cnd_true, cnd_false, decide_true, decide_false, Bool.not_true, Bool.not_false, pr_not, nilv_some, bp_lss, bp_leq, bp_gtr, bp_geq, be_eql, be_neq, bne_self_eq_false, beq_self_eq_true, ldC_some, Option.isNone_none, Option.isNone_some, hp_drew, fa_74_2, ld_3, a84, hcf, bo, al_51]
  rw [st_hn (c := (hnC noH).toArray) (e := 51) (by rw [alloc_heap, if_pos rfl]; rfl) rfl]
  generalize hw5 : put (w4.alloc _) w4.heap.size _ _ = w5
  have c5 : Chg [] w4 w5 := by rw [← hw5]; exact ((Chg.refl _ _).alloc _).put (.inr (Nat.le_refl _)) _ _
  have a12 : hp w5 w4.heap.size = some (.cells (hnC (oW W)).toArray 51) := by rw [← hw5]; exact put_same (by simp) _ _
  have s5 : w5.heap.size = w4.heap.size + 1 := by rw [← hw5]; simp
  clear hw5
  simp -implicitDefEqProofs only [bdh_1, wpB_some', al_51]
  rw [st_hn (c := (hnC noH).toArray) (e := 51) (by rw [alloc_heap, if_pos rfl]; rfl) rfl]
  generalize hw6 : put (w5.alloc _) w5.heap.size _ _ = w6
  have c6 : Chg [] w5 w6 := by rw [← hw6]; exact ((Chg.refl _ _).alloc _).put (.inr (Nat.le_refl _)) _ _
  have a13 : hp w6 w5.heap.size = some (.cells (hnC gW).toArray 51) := by rw [← hw6]; exact put_same (by simp) _ _
  have s6 : w6.heap.size = w5.heap.size + 1 := by rw [← hw6]; simp
  clear hw6
  simp -implicitDefEqProofs only [bx, wpB_some', al_51]
  rw [st_hn (c := (hnC noH).toArray) (e := 51) (by rw [alloc_heap, if_pos rfl]; rfl) rfl]
  generalize hw7 : put (w6.alloc _) w6.heap.size _ _ = w7
  have c7 : Chg [] w6 w7 := by rw [← hw7]; exact ((Chg.refl _ _).alloc _).put (.inr (Nat.le_refl _)) _ _
  have a14 : hp w7 w6.heap.size = some (.cells (hnC xW).toArray 51) := by rw [← hw7]; exact put_same (by simp) _ _
  have s7 : w7.heap.size = w6.heap.size + 1 := by rw [← hw7]; simp
  clear hw7
  have c57 := c5.trans (c6.trans c7)
  have b11 := c57.at a11 (by simp)
  have b12 := (c6.trans c7).at a12 (by simp)
  have b13 := c7.at a13 (by simp)
  have b8 := c57.at a84 (by simp)
  have M7 := M0.keep (c4.trans c57)
  have nf : ∀ {k}, w3.heap.size ≤ k → ¬ F k := fun hk h => by have := hFs _ h; omega
  -- the four steps; the handles stand as they did
  have stp : ∀ {w w' : World} {m m' : MdV} {F F' : Fp} {K : Nat} {kind n v x : Int} {h : HnV} {r : RsV}, True := fun {w w' m m' F F' K kind n v x h r} => trivial
  have D7 : ∀ (w8 : World) (m : MdV) (K : Nat) (F' : Fp), MdW w w8 g m K F' → UpdP F F' w7 w8 → Wds w (w8.alloc (.cells (u64s (List.replicate 16 0)).toArray 79)) g g8 w3.heap.size w4.heap.size w5.heap.size w6.heap.size w8.heap.size W m (List.replicate 16 0) K F' := by
    intro w8 m K F' M u
    have ca : Chg [] w8 (w8.alloc (.cells (u64s (List.replicate 16 0)).toArray 79)) := (Chg.refl _ _).alloc _
    have k8 := u.keep b8 n8
    have k11 := u.keep b11 (nf (Nat.le_refl _))
    have k12 := u.keep b12 (nf (by omega))
    have k13 := u.keep b13 (nf (by omega))
    have k14 := u.keep a14 (nf (by omega))
    exact ⟨M.keep ca, ca.at k8.1 (by simp), ca.at k11.1 (by simp), ca.at k12.1 (by simp), ca.at k13.1 (by simp), ca.at k14.1 (by simp), by rw [alloc_heap, if_pos rfl], k8.2, k11.2, k12.2, k13.2, k14.2, fun h => by have := isAt.lt M.I (good_md _) _ h; omega, M.chg.size⟩
  simp -implicitDefEqProofs only [bdh_, ld_hn b11, bdr_1, wpB_some']
  have step : ∀ {wa : World} {m m' : MdV} {Fa : Fp} {K : Nat} {kind n v x : Int} {h : HnV} {r : RsV}, MdW w wa g m K Fa → UpdP F Fa w7 wa → K + 1 ≤ 1000 → doV m 0 (kind, 0, 0, n, v, x) h r = (true, m') →
      CallR Try.prog 42 [.pointer (some ⟨g, 0, none⟩), .int .i64 kind, .int .i64 n, .int .u64 v, .int .u64 x, .agg (hnC h).toArray, .agg (rsC r).toArray] wa fun u w' => u = .bool true ∧ ∃ F', MdW w w' g m' (K + 1) F' ∧ UpdP F F' w7 w' := by
    intro wa m m' Fa K kind n v x h r M u hK hd
    have wf := M.wf.doV 0 (kind, 0, 0, n, v, x) h r
    refine (c_does24 M.I M.wf (by omega) kind n v x h r).mono ?_
    rintro z w' ⟨hz, F', i', u'⟩
    rw [hd] at hz i' wf
    exact ⟨hz, F', M.upd i' u' wf, u.trans u'⟩
  have b8k : ∀ {wa : World} {Fa : Fp}, UpdP F Fa w7 wa → hp wa g8 = some (.cells (cfC (cW W)).toArray 74) := fun u => (u.keep b8 n8).1
  have b11k : ∀ {wa : World} {Fa : Fp}, UpdP F Fa w7 wa → hp wa w3.heap.size = some (.cells (hnC hW).toArray 51) := fun u => (u.keep b11 (nf (Nat.le_refl _))).1
  have b12k : ∀ {wa : World} {Fa : Fp}, UpdP F Fa w7 wa → hp wa w4.heap.size = some (.cells (hnC (oW W)).toArray 51) := fun u => (u.keep b12 (nf (by omega))).1
  refine (step M7 (UpdP.refl _ _) (by omega) (go1 hw)).mono ?_
  rintro _ x1 ⟨rfl, F1, N1, u1⟩
  simp -implicitDefEqProofs only [wpB_some', gd_true, gd_false, gd_tf, gd_ft, gd_ut, gd_uf, gv_true, gv_false, gv_tf, gv_ft, gv_ut, gv_uf, gE_true, gE_false, gE_tf, gE_ft, gE_ut, gE_uf, gU_true, gU_false, gU_tf, gU_ft, pickv_true, pickv_false, cnd_true, cnd_false, decide_true, decide_false, Bool.not_true, Bool.not_false, pr_not, nilv_some, bp_lss, bp_leq, bp_gtr, bp_geq, be_eql, be_neq, bne_self_eq_false, beq_self_eq_true, ldC_some, Option.isNone_none, Option.isNone_some, hp_drew, fa_74_2, ld_3, b8k u1, hcf, ld_hn (b11k u1), ld_hn (b12k u1), bdr_1]
  refine (step N1 u1 (by omega) (go2 hw)).mono ?_
  rintro _ x2 ⟨rfl, F2, N2, u2⟩
  simp -implicitDefEqProofs only [wpB_some', gd_true, gd_false, gd_tf, gd_ft, gd_ut, gd_uf, gv_true, gv_false, gv_tf, gv_ft, gv_ut, gv_uf, gE_true, gE_false, gE_tf, gE_ft, gE_ut, gE_uf, gU_true, gU_false, gU_tf, gU_ft, pickv_true, pickv_false, cnd_true, cnd_false, decide_true, decide_false, Bool.not_true, Bool.not_false, pr_not, nilv_some, bp_lss, bp_leq, bp_gtr, bp_geq, be_eql, be_neq, bne_self_eq_false, beq_self_eq_true, ldC_some, Option.isNone_none, Option.isNone_some, hp_drew, bdh_, bdr_]
  refine (step N2 u2 (by omega) (go3 hw)).mono ?_
  rintro _ x3 ⟨rfl, F3, N3, u3⟩
  simp -implicitDefEqProofs only [wpB_some', gd_true, gd_false, gd_tf, gd_ft, gd_ut, gd_uf, gv_true, gv_false, gv_tf, gv_ft, gv_ut, gv_uf, gE_true, gE_false, gE_tf, gE_ft, gE_ut, gE_uf, gU_true, gU_false, gU_tf, gU_ft, pickv_true, pickv_false, cnd_true, cnd_false, decide_true, decide_false, Bool.not_true, Bool.not_false, pr_not, nilv_some, bp_lss, bp_leq, bp_gtr, bp_geq, be_eql, be_neq, bne_self_eq_false, beq_self_eq_true, ldC_some, Option.isNone_none, Option.isNone_some, hp_drew, ld_hn (b12k u3), bdr_]
  refine (step N3 u3 (by omega) (go4 hw)).mono ?_
  rintro _ x4 ⟨rfl, F4, N4, u4⟩
  have D := D7 x4 _ _ _ N4 u4
  have ez : #[Go.Value.int Go.IntKind.u64 0, Go.Value.int Go.IntKind.u64 0, Go.Value.int Go.IntKind.u64 0, Go.Value.int Go.IntKind.u64 0, Go.Value.int Go.IntKind.u64 0, Go.Value.int Go.IntKind.u64 0, Go.Value.int Go.IntKind.u64 0, Go.Value.int Go.IntKind.u64 0, Go.Value.int Go.IntKind.u64 0, Go.Value.int Go.IntKind.u64 0, Go.Value.int Go.IntKind.u64 0, Go.Value.int Go.IntKind.u64 0, Go.Value.int Go.IntKind.u64 0, Go.Value.int Go.IntKind.u64 0, Go.Value.int Go.IntKind.u64 0, Go.Value.int Go.IntKind.u64 0] = (u64s (List.replicate 16 0)).toArray := rfl
  simp -implicitDefEqProofs only [wpB_some', gd_true, gd_false, gd_tf, gd_ft, gd_ut, gd_uf, gv_true, gv_false, gv_tf, gv_ft, gv_ut, gv_uf, gE_true, gE_false, gE_tf, gE_ft, gE_ut, gE_uf, gU_true, gU_false, gU_tf, gU_ft, pickv_true, pickv_false, cnd_true, cnd_false, decide_true, decide_false, Bool.not_true, Bool.not_false, pr_not, nilv_some, bp_lss, bp_leq, bp_gtr, bp_geq, be_eql, be_neq, bne_self_eq_false, beq_self_eq_true, ldC_some, Option.isNone_none, Option.isNone_some, hp_drew, al_79, ez]
  refine (c_Number a2 31 _ (by omega) (by omega)).step ?_
  have r0 : ∀ n j, (List.replicate n (0 : Int)).getD j 0 = 0 := fun n j => by
    rw [List.getD_eq_getElem?_getD, List.getElem?_replicate]
    split <;> rfl
  have hat : 0 ≤ a2 % 31 ∧ a2 % 31 < 31 := by omega
  refine l_words0 hw hR (by omega) (a2 % 31) hat ps.length 0 _ F4 (List.replicate W.toNat 0) (List.replicate 16 0) (by omega) ?_ (by rw [List.length_replicate]; omega) (by simp) (fun j _ => by rw [r0, r0]) (fun j => by rw [r0]; omega)
  rw [decide_eq_false (show ¬ a2 % 31 < ((0 : Nat) : Int) by omega)]
  exact ⟨⟨D.M.chg, D.M.I, D.M.new, D.M.wf.mono (by omega)⟩, D.h8, D.h11, D.h12, D.h13, D.h14, D.h15, D.n8, D.n11, D.n12, D.n13, D.n14, D.n15, D.new⟩
theorem nmDec (ns : List Int) (h : ns.length = 2) : ∃ s : NmV, nmC s = List.zipWith Value.int [.i64, .i64] ns := by
  match ns, h with
  | [a, b], _ => exact ⟨(a, b), rfl⟩
theorem open_pairs {H : Type} {enc : TypeId × Value → H} {w : World} {base : Nat} {spare : Nat → Bool} {held : Bool} {fuel : Nat} {a : Option Addr} {len cap : Nat} {x : DataW H × List MemPlace}
    (h : DataW.trod enc Try.prog w base spare held fuel 72 [.slice a len cap] = some x) : ∃ S : List NmV, S.length = len ∧ RdV w a (S.flatMap nmC) ∧ len ≤ cap ∧ cap ≤ maxLen :=
  open_flat (d := 6) (z := 2) (ks := [.i64, .i64]) Try.underlying72 (by kernel_rfl) (by kernel_rfl) (fun ns h _ => nmDec ns h) nmC_len h
theorem lawWords {W : World} (a0 : Int) (_ : (Lit.int .i64 a0).wf = true) (A : Option Addr) (n c : Nat) (S : List NmV) (hl : S.length = n) (hR : RdV W A (S.flatMap nmC)) (_ : n ≤ c) (_ : c ≤ maxLen) (a2 : Int) (_ : (Lit.int .i64 a2).wf = true) :
    CallR Try.prog 10 [.int .i64 a0, .slice A n c, .int .i64 a2] W fun v w' => v = .bool true ∧ Below W.heap.size W w' := by
  subst hl
  exact (c_words a0 a2 hR).mono fun _ _ h => ⟨h.1, h.2.below⟩
end
end Go.Proofs.Ytgamnncehjcdiaa

