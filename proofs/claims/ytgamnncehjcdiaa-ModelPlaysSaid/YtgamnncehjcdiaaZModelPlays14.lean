/- Parts of the proof of ModelPlays, one behind the other. Conditions: none. -/
import Derived.Test.YtgamnncehjcdiaaZModelPlays13
set_option linter.unusedSimpArgs false
set_option linter.unusedVariables false
set_option maxRecDepth 10000
namespace Go.Proofs.Ytgamnncehjcdiaa
open Go Ev Go.RowKit

section
variable {W w : World} {g g7 g11 : Nat} {m : MdV} {F F0 : Fp} {K : Nat} {o : OpV} {h : HnV} {i : Nat} {rg : RgV} {want : HnV} {need : Int} {r : RsV} {nn : Nat}
def badV (m : MdV) (ch : Int) : Prop := ch < 0 ∨ m.c.2.1 ≤ ch ∨ takenV m ch = true
instance (m : MdV) (ch : Int) : Decidable (badV m ch) := by unfold badV; infer_instance
set_option maxHeartbeats 4000000 in
theorem l_rAlloc0 (U : UpdP F0 F W w) (I : RfI w g (toRf m) F) (Wm : Wf m K) (hK : K + 1 ≤ 1000000) (hi : m.rgs[i]? = some rg) (h7 : hp w g7 = some (.cells (rsC r).toArray 53)) (h11 : hp w g11 = some (.cells (hnC want).toArray 51)) (n11 : ¬ F g11) :
    P99_0 (.pointer (some ⟨g, 0, none⟩)) (.pointer (some ⟨g7, 0, none⟩)) (.int .i64 i) (.bool (rfitsV rg m.c.2.2.1 need)) (.pointer (some ⟨g11, 0, none⟩)) (.int .i64 need) w fun v w' =>
      v = .bool (if r = (0, want, 0, 0) ∧ (rfitsV rg m.c.2.2.1 need = true ∨ ¬ badV m want.2.2.1) then true else false) ∧ ∃ F', RfI w' g (toRf (if r = (0, want, 0, 0) ∧ (rfitsV rg m.c.2.2.1 need = true ∨ ¬ badV m want.2.2.1) then { m with rgs := m.rgs.set i (growV m.c.2.2.1 need rg want) } else m)) F' ∧ UpdP F0 F' W w' := by
  apply L99_0_ok
  have hbe : be Try.prog .neq 53 (.tmp 81) (.tmp 83) (.agg (rsC r).toArray) (.agg (rsC (0, want, 0, 0)).toArray) = some (.bool (!decide (r = (0, want, 0, 0)))) := be_nrs r (0, want, 0, 0)
  have W1 := Wm.w1
  have W2 := Wm.w2
  have R0 := Wm.rg rg (List.mem_of_getElem? hi)
  have hx : (toRf m).rgs[i]? = some (rg, isLv m rg.nm) := by rw [rgs_rf, hi]; rfl
  have hil := (List.getElem?_eq_some_iff.1 hx).1
  have cd : Chg [] w w.drew := (Chg.refl _ _).drew
  have hol : rg.objs.length ≤ 1000000 := Nat.le_trans R0.ol (by omega)
  simp -implicitDefEqProofs only [L99_0, bV h7, ld_hn h11, bdr_1, hbe, ad]
  by_cases hr : r = (0, want, 0, 0)
  · cases hf : rfitsV rg m.c.2.2.1 need with
    | true =>
      have ct : r = (0, want, 0, 0) ∧ (true = true ∨ ¬ badV m want.2.2.1) := ⟨hr, .inl rfl⟩
      rw [if_pos ct, if_pos ct]
      obtain ⟨f1, f2, f3, f4⟩ := fits_need hf
      obtain ⟨b, c, v, Fk, hl, hbg, _, _, hld, hv, hput⟩ := (I.keep cd).rgPut hx (k := 3) (by omega) (P := iT rg.off) rfl
      rw [hv.1] at hld
      have hl' : ldC (hp w g) (0 + 9) = some (.slice (some ⟨b, 0, none⟩) (toRf m).rgs.length c) := hl
      have hld' : ldC (hp w b) (i * 8 + 3) = some (.int .i64 rg.off) := hld
      have ia := ia_rgs (b := b) (c := c) hil
      obtain ⟨ok, _, _, _, F1, t1, t2⟩ := hput w.drew none' (iT (rg.off + need)) (.int .i64 (rg.off + need)) ({ rg with off := rg.off + need }, isLv m rg.nm) (UpdP.none hv.2 _) (good_int _ _) ⟨rfl, fun _ h => h⟩ rfl
      have k11 := t2.keep (show hp w.drew g11 = _ from h11) n11
      have fin := l_rAlloc1 (want := want) (U.trans (t2.pre cd)) t1 (at_rr hx) hol k11.1
      rw [set_rr] at fin
      simp -implicitDefEqProofs only [decide_eq_true hr, ad, ax, am, aM, aN, aQ, aR, av, ak, aJ, aK, aS, aT, ay, ap, aU, aV, aX, aY, ae, ac, aj, ag, z1z, z2z, z3z, z4z, aH, af, aD, aB, aC, aA, aE, aG, z5z, z6z, ah, z7z, z8z, au, bK, fa_158_3, bN, bj, hl', ia, hld', bG, bC (n := rg.off + need) (by omega) (by omega)]
      rw [st_3 (o := i * 8 + 3) rfl rfl ok]
      have eg : growV m.c.2.2.1 need rg want = { rg with off := rg.off + need, objs := rg.objs ++ [want] } := by rw [growV, hf]; rfl
      have er := rf_setRg m hi (r' := { rg with off := rg.off + need, objs := rg.objs ++ [want] }) rfl
      rw [eg, er]
      exact fin
    | false =>
      obtain ⟨s, gn, rv, dd, hh, R⟩ := I.rd
      have hc1 : ldC (hp w g) (0 + 0 + 1) = some (.int .i64 m.c.2.1) := R.c 1 (by omega)
      have e2 : (hnC want).toArray[0 + 2]? = some (.int .i64 want.2.2.1) := rfl
      have bad : badV m want.2.2.1 → ¬ (r = (0, want, 0, 0) ∧ (false = true ∨ ¬ badV m want.2.2.1)) := fun hb ⟨_, h⟩ => by
        rcases h with h | h
        · cases h
        · exact h hb
      by_cases n0 : want.2.2.1 < 0
      · have cn := bad (.inl n0)
        simp -implicitDefEqProofs only [decide_eq_true hr, ad, ax, am, aM, aN, aQ, aR, av, ak, aJ, aK, aS, aT, ay, ap, aU, aV, aX, aY, ae, ac, aj, ag, z1z, z2z, z3z, z4z, aH, af, aD, aB, aC, aA, aE, aG, z5z, z6z, ah, z7z, z8z, au, cj, bj, h11, e2, n0]
        rw [if_neg cn, if_neg cn]
        exact ⟨by first | rfl | trivial, F, RfI.keep I cd, U.post cd⟩
      by_cases n1 : m.c.2.1 ≤ want.2.2.1
      · have cn := bad (.inr (.inl n1))
        simp -implicitDefEqProofs only [decide_eq_true hr, ad, ax, am, aM, aN, aQ, aR, av, ak, aJ, aK, aS, aT, ay, ap, aU, aV, aX, aY, ae, ac, aj, ag, z1z, z2z, z3z, z4z, aH, af, aD, aB, aC, aA, aE, aG, z5z, z6z, ah, z7z, z8z, au, cj, bj, h11, e2, n0, cr, fa_74_1, hc1, aA, n1, ge_iff_le]
        rw [if_neg cn, if_neg cn]
        exact ⟨by first | rfl | trivial, F, RfI.keep I cd, U.post cd⟩
      simp -implicitDefEqProofs only [decide_eq_true hr, ad, ax, am, aM, aN, aQ, aR, av, ak, aJ, aK, aS, aT, ay, ap, aU, aV, aX, aY, ae, ac, aj, ag, z1z, z2z, z3z, z4z, aH, af, aD, aB, aC, aA, aE, aG, z5z, z6z, ah, z7z, z8z, au, cj, bj, h11, e2, n0, cr, fa_74_1, hc1, aA, n1, ge_iff_le]
      refine (c_rTaken (R.keep cd) (by rw [rf_len]; exact Nat.le_trans Wm.rl (by omega)) (fun p hp => by
        obtain ⟨y, hy, rfl⟩ := List.mem_map.1 hp
        exact Nat.le_trans (Wm.rg y hy).cl (by omega)) want.2.2.1).mono ?_
      rintro _ w5 ⟨rfl, c5⟩
      rw [rf_taken]
      have c05 := cd.trans c5
      have h115 := c05.at h11 (by simp)
      cases ht : takenV m want.2.2.1 with
      | true =>
        have cn := bad (.inr (.inr ht))
        simp -implicitDefEqProofs only [ad, ax, am, aM, aN, aQ, aR, av, ak, aJ, aK, aS, aT, ay, ap, aU, aV, aX, aY, ae, ac, aj, ag, z1z, z2z, z3z, z4z, aH, af, aD, aB, aC, aA, aE, aG, z5z, z6z, ah, z7z, z8z, au]
        rw [if_neg cn, if_neg cn]
        exact ⟨by first | rfl | trivial, F, RfI.keep I c05, U.post c05⟩
      | false =>
        have nb : ¬ badV m want.2.2.1 := by
          rintro (h1 | h1 | h1)
          · exact n0 h1
          · exact n1 h1
          · rw [ht] at h1; cases h1
        have ct : r = (0, want, 0, 0) ∧ (false = true ∨ ¬ badV m want.2.2.1) := ⟨hr, .inr nb⟩
        have cd5 : Chg [] w5 w5.drew := (Chg.refl _ _).drew
        have c0d := c05.trans cd5
        obtain ⟨b, c, v, Fk, hl, hbg, _, hsub, hld, hv, hput⟩ := (RfI.keep I c0d).rgPut hx (k := 5) (by omega) (P := intsT rg.chunks) rfl
        have hl' : ldC (hp w5 g) (0 + 9) = some (.slice (some ⟨b, 0, none⟩) (toRf m).rgs.length c) := hl
        have hld' : ldC (hp w5 b) (i * 8 + 5) = some v := hld
        have ia := ia_rgs (b := b) (c := c) hil
        obtain ⟨hown, _⟩ := flat_own hv
        have hcl := R0.cl
        simp -implicitDefEqProofs only [ad, ax, am, aM, aN, aQ, aR, av, ak, aJ, aK, aS, aT, ay, ap, aU, aV, aX, aY, ae, ac, aj, ag, z1z, z2z, z3z, z4z, aH, af, aD, aB, aC, aA, aE, aG, z5z, z6z, ah, z7z, z8z, au, bK, fa_158_5, cj, bN, ce, bj, hl', ia, hld', h115, e2]
        rw [if_pos ct, if_pos ct]
        have fin : ∀ (x1 : Value) (w2 : World), w2.ownsRow 0 3 1 x1 (rg.chunks.length + 1) (ints rg.chunks ++ [.int .i64 want.2.2.1]) → w5.drew.grownBy w2 v.ownBlock → NewB w5.drew v x1 →
            ldC (hp w2 g) (0 + 9) = some (.slice (some ⟨b, 0, none⟩) (toRf m).rgs.length c) ∧ effu Try.prog (Instr.storeAt 23 (.pointer (some ⟨b, i * 8 + 5, none⟩)) x1) w2 fun w' => P99_2 (.pointer (some ⟨g, 0, none⟩)) (.int .i64 i) (.pointer (some ⟨g11, 0, none⟩)) (.int .i64 need) w' fun v w' => v = .bool true ∧ ∃ F', RfI w' g (toRf { m with rgs := m.rgs.set i (growV m.c.2.2.1 need rg want) }) F' ∧ UpdP F0 F' W w' := by
          intro x1 w2 ho hg hnb
          obtain ⟨F2, hr2, hu2⟩ := flat_grown (vs := [Value.int .i64 want.2.2.1]) hv ho hg hnb
          have hr2' : intsT (rg.chunks ++ [want.2.2.1]) w2 F2 x1 := by
            rw [intsT, List.length_append]
            have e : ints (rg.chunks ++ [want.2.2.1]) = ints rg.chunks ++ [Value.int .i64 want.2.2.1] := by simp [ints]
            rw [e]; exact hr2
          obtain ⟨ok, s1, s2, hgg, F3, t1, t2⟩ := hput w2 F2 (intsT (rg.chunks ++ [want.2.2.1])) x1 ({ rg with chunks := rg.chunks ++ [want.2.2.1] }, isLv m rg.nm) hu2 (good_intsT _) hr2' rfl
          refine ⟨by rw [hgg]; exact hl, ?_⟩
          rw [st_23 (o := i * 8 + 5) s1 s2 ok]
          have k11 := t2.keep (show hp w5.drew g11 = _ from h115) n11
          have f := l_rAlloc2 (want := want) (need := need) (U.trans (t2.pre c0d)) t1 (at_rr hx) hol (by have := R0.wl; simp only; omega) (by show 0 ≤ m.c.2.2.1; omega) W2 k11.1 k11.2
          rw [set_rr] at f
          have eg : growV m.c.2.2.1 need rg want = { rg with chunks := rg.chunks ++ [want.2.2.1], words := rg.words ++ [List.replicate m.c.2.2.1.toNat 0], off := afterV m.c.2.2.1 need, objs := rg.objs ++ [want] } := by rw [growV, hf]; rfl
          have er := rf_setRg m hi (r' := { rg with chunks := rg.chunks ++ [want.2.2.1], words := rg.words ++ [List.replicate m.c.2.2.1.toNat 0], off := afterV m.c.2.2.1 need, objs := rg.objs ++ [want] }) rfl
          rw [eg, er]
          exact f
        repeat' (with_reducible apply And.intro)
        all_goals
          refine ps_23 (fun u hu => by simp only [List.mem_cons, List.not_mem_nil, or_false] at hu; rcases hu with rfl; rfl) hown (by omega) (Nat.zero_le _) fun x1 w2 ho hg hnb => ?_
          obtain ⟨f1, f2⟩ := fin x1 w2 ho hg hnb
          try simp -implicitDefEqProofs only [ad, ax, am, aM, aN, aQ, aR, av, ak, aJ, aK, aS, aT, ay, ap, aU, aV, aX, aY, ae, ac, aj, ag, z1z, z2z, z3z, z4z, aH, af, aD, aB, aC, aA, aE, aG, z5z, z6z, ah, z7z, z8z, au, bN, f1, ia, fa_158_5]
          exact f2
  · have cn : ∀ {P : Prop}, ¬ (r = (0, want, 0, 0) ∧ P) := fun h => hr h.1
    simp -implicitDefEqProofs only [decide_eq_false hr, ad, ax, am, aM, aN, aQ, aR, av, ak, aJ, aK, aS, aT, ay, ap, aU, aV, aX, aY, ae, ac, aj, ag, z1z, z2z, z3z, z4z, aH, af, aD, aB, aC, aA, aE, aG, z5z, z6z, ah, z7z, z8z, au]
    rw [if_neg cn, if_neg cn]
    exact ⟨by first | rfl | trivial, F, I, U⟩
set_option maxHeartbeats 4000000 in
theorem c_rAlloc (I : RfI w g (toRf m) F) (Wm : Wf m K) (hK : K + 1 ≤ 1000000) (o : OpV) (h : HnV) (r : RsV) (hf : findR m.rgs (nmOf h) = some i) :
    CallR Try.prog 99 [.pointer (some ⟨g, 0, none⟩), .agg (opC o).toArray, .agg (hnC h).toArray, .agg (rsC r).toArray] w fun v w' => v = .bool (givesV m o.2.2.2.1 h r).1 ∧ ∃ F', RfI w' g (toRf (givesV m o.2.2.2.1 h r).2) F' ∧ UpdP F F' w w' := by
  apply F99_ok
  obtain ⟨x, hi, hnm⟩ := findR_at hf
  have R0 := Wm.rg x (List.mem_of_getElem? hi)
  have W1 := Wm.w1
  have W2 := Wm.w2
  have hx : (toRf m).rgs[i]? = some (x, isLv m x.nm) := by rw [rgs_rf, hi]; rfl
  have hil := (List.getElem?_eq_some_iff.1 hx).1
  have hlen : (toRf m).rgs.length ≤ 1000000 := by rw [rf_len]; exact Nat.le_trans Wm.rl (by omega)
  have gv : givesV m o.2.2.2.1 h r = if rfitsV x m.c.2.2.1 (roundV x.cls o.2.2.2.1) = false ∧ r = codeR 6 then (true, m)
      else if rfitsV x m.c.2.2.1 (roundV x.cls o.2.2.2.1) = false ∧ (r.2.1.2.2.1 < 0 ∨ m.c.2.1 ≤ r.2.1.2.2.1 ∨ takenV m r.2.1.2.2.1 = true) then (false, m)
      else if r = (0, wantV m.c.2.2.1 (roundV x.cls o.2.2.2.1) o.2.2.2.1 x h r.2.1.2.2.1, 0, 0) then (true, { m with rgs := m.rgs.set i (growV m.c.2.2.1 (roundV x.cls o.2.2.2.1) x (wantV m.c.2.2.1 (roundV x.cls o.2.2.2.1) o.2.2.2.1 x h r.2.1.2.2.1)) })
      else (false, m) := by
    rw [givesV, hf]; simp only [hi]
  simp -implicitDefEqProofs only [F99, bE, bA, bf]
  generalize hw : ((w.alloc (.cells (opC o).toArray 40)).alloc _).alloc _ = w1
  have c1 : Chg [] w w1 := by rw [← hw]; exact (((Chg.refl _ _).alloc _).alloc _).alloc _
  have b5 : hp w1 w.heap.size = some (.cells (opC o).toArray 40) := by rw [← hw, bc, bf, bf, if_neg (by omega), bc, bf, if_neg (by omega), bc, if_pos rfl]
  have b6 : hp w1 (w.heap.size + 1) = some (.cells (hnC h).toArray 51) := by rw [← hw, bc, bf, bf, if_neg (by omega), bc, bf, if_pos rfl]
  have b7 : hp w1 (w.heap.size + 1 + 1) = some (.cells (rsC r).toArray 53) := by rw [← hw, bc, bf, bf, if_pos rfl]
  clear hw
  obtain ⟨s, gn, rv, dd, hh, R⟩ := (I.keep c1).rd
  have e0 : (hnC h).toArray[0 + 0]? = some (.int .i64 h.1) := rfl
  have e1 : (hnC h).toArray[0 + 1]? = some (.int .i64 h.2.1) := rfl
  simp -implicitDefEqProofs only [ad, ax, am, aM, aN, aQ, aR, av, ak, aJ, aK, aS, aT, ay, ap, aU, aV, aX, aY, ae, ac, aj, ag, z1z, z2z, z3z, z4z, aH, af, aD, aB, aC, aA, aE, aG, z5z, z6z, ah, z7z, z8z, au, bX, fa_51_1, bj, b6, e0, e1]
  refine (c_rFind R (nmOf h) hlen).step ?_
  rw [findX_rf, hf]
  simp -implicitDefEqProofs only [ixR, ad, ax, am, aM, aN, aQ, aR, av, ak, aJ, aK, aS, aT, ay, ap, aU, aV, aX, aY, ae, ac, aj, ag, z1z, z2z, z3z, z4z, aH, af, aD, aB, aC, aA, aE, aG, z5z, z6z, ah, z7z, z8z, au, bT, bj, b5, op_3]
  refine (c_rFits R hx hlen o.2.2.2.1).mono ?_
  rintro _ w2 ⟨rfl, c2⟩
  have c02 := c1.trans c2
  have d5 := c2.at b5 (by simp)
  have d6 := c2.at b6 (by simp)
  have d7 := c2.at b7 (by simp)
  have hbe : be Try.prog .eql 53 (.tmp 24) (.tmp 25) (.agg (rsC r).toArray) (.agg (rsC (codeR 6)).toArray) = some (.bool (decide (r = codeR 6))) := be_rs r (codeR 6)
  have efit : rfitsV (x, isLv m x.nm).1 (toRf m).c.2.2.1 (roundV (x, isLv m x.nm).1.cls o.2.2.2.1) = rfitsV x m.c.2.2.1 (roundV x.cls o.2.2.2.1) := rfl
  rw [efit]
  simp -implicitDefEqProofs only [bV d7, bdr_0, hbe, ad]
  by_cases r6 : r = codeR 6
  · simp -implicitDefEqProofs only [decide_eq_true r6, ad, ax, am, aM, aN, aQ, aR, av, ak, aJ, aK, aS, aT, ay, ap, aU, aV, aX, aY, ae, ac, aj, ag, z1z, z2z, z3z, z4z, aH, af, aD, aB, aC, aA, aE, aG, z5z, z6z, ah, z7z, z8z, au]
    cases hfit : rfitsV x m.c.2.2.1 (roundV x.cls o.2.2.2.1) with
    | true =>
      rw [hfit, if_neg (by simp), if_neg (by simp), if_neg (by rw [r6]; intro e; have := congrArg (fun q : RsV => q.1) e; simp [codeR] at this)] at gv
      rw [gv]
      exact ⟨rfl, F, I.keep c02, UpdP.of0 c02⟩
    | false =>
      rw [if_pos ⟨hfit, r6⟩] at gv
      rw [gv]
      exact ⟨rfl, F, I.keep c02, UpdP.of0 c02⟩
  rw [if_neg (fun h => r6 h.2)] at gv
  have bhn : pureRun Try.prog (Instr.build 51 #[(0, .int .i64 h.1), (1, .int .i64 h.2.1), (2, .int .i64 r.2.1.2.2.1), (4, .int .i64 o.2.2.2.1)]) = some (.agg (hnC (h.1, h.2.1, r.2.1.2.2.1, 0, o.2.2.2.1)).toArray) := bd_51_0_1_2_4
  simp -implicitDefEqProofs only [decide_eq_false r6, ad, ax, am, aM, aN, aQ, aR, av, ak, aJ, aK, aS, aT, ay, ap, aU, aV, aX, aY, ae, ac, aj, ag, z1z, z2z, z3z, z4z, aH, af, aD, aB, aC, aA, aE, aG, z5z, z6z, ah, z7z, z8z, au, bX, fa_51_1, cj, fa_53_1, bT, bj, d5, d6, d7, e0, e1, rs_3, op_3, bhn, al_51]
  rw [st_hn (c := (hnC noH).toArray) (e := 51) (by rw [bc, if_pos rfl]; rfl) rfl]
  generalize hw3 : put (w2.alloc _) w2.heap.size _ _ = w3
  have c3 : Chg [] w2 w3 := by rw [← hw3]; exact ((Chg.refl _ _).alloc _).put (.inr (Nat.le_refl _)) _ _
  have a11 : hp w3 w2.heap.size = some (.cells (hnC (h.1, h.2.1, r.2.1.2.2.1, 0, o.2.2.2.1)).toArray 51) := by rw [← hw3]; exact bv (by simp) _ _
  clear hw3
  have c03 := c02.trans c3
  have f5 := c3.at d5 (by simp)
  have f7 := c3.at d7 (by simp)
  have s2 := c02.size
  have nF : ∀ {y}, w.heap.size ≤ y → ¬ F y := fun hy => I.notF hy
  obtain ⟨b, c, hb9, ⟨cv, wv, ov, Q⟩, _⟩ := rf_flag (I.keep c03) hi
  have ia := ia_rgs (b := b) (c := c) hil
  have cd3 : Chg [] w3 w3.drew := (Chg.refl _ _).drew
  simp -implicitDefEqProofs only [ad, ax, am, aM, aN, aQ, aR, av, ak, aJ, aK, aS, aT, ay, ap, aU, aV, aX, aY, ae, ac, aj, ag, z1z, z2z, z3z, z4z, aH, af, aD, aB, aC, aA, aE, aG, z5z, z6z, ah, z7z, z8z, au, bK, fa_158_2, bT, bN, bj, hb9, ia, Q.c2, f5, op_3]
  refine (c_rRound x.cls o.2.2.2.1 w3.drew).step ?_
  have tail : ∀ (want : HnV) w6, Chg [] w2 w6 → hp w6 w2.heap.size = some (.cells (hnC want).toArray 51) →
      P99_0 (.pointer (some ⟨g, 0, none⟩)) (.pointer (some ⟨w.heap.size + 1 + 1, 0, none⟩)) (.int .i64 i) (.bool (rfitsV x m.c.2.2.1 (roundV x.cls o.2.2.2.1))) (.pointer (some ⟨w2.heap.size, 0, none⟩)) (.int .i64 (roundV x.cls o.2.2.2.1)) w6 fun v w' =>
        v = .bool (if r = (0, want, 0, 0) ∧ (rfitsV x m.c.2.2.1 (roundV x.cls o.2.2.2.1) = true ∨ ¬ badV m want.2.2.1) then true else false) ∧ ∃ F', RfI w' g (toRf (if r = (0, want, 0, 0) ∧ (rfitsV x m.c.2.2.1 (roundV x.cls o.2.2.2.1) = true ∨ ¬ badV m want.2.2.1) then { m with rgs := m.rgs.set i (growV m.c.2.2.1 (roundV x.cls o.2.2.2.1) x want) } else m)) F' ∧ UpdP F F' w w' := by
    intro want w6 c6 h11
    have c06 := c02.trans c6
    exact l_rAlloc0 (UpdP.of0 c06) (I.keep c06) Wm hK hi (c6.at d7 (by simp)) h11 (nF (by omega))
  cases hfit : rfitsV x m.c.2.2.1 (roundV x.cls o.2.2.2.1) with
  | true =>
    rw [hfit] at tail
    obtain ⟨f1, f2, f3, f4⟩ := fits_need hfit
    have ew : wantV m.c.2.2.1 (roundV x.cls o.2.2.2.1) o.2.2.2.1 x h r.2.1.2.2.1 = (h.1, h.2.1, newV x.chunks, x.off, o.2.2.2.1) := by rw [wantV, hfit]; rfl
    rw [hfit, ew] at gv
    simp only [Bool.true_eq_false, false_and, if_false] at gv
    have tl : ∀ w6, Chg [] w2 w6 → hp w6 w2.heap.size = some (.cells (hnC (h.1, h.2.1, newV x.chunks, x.off, o.2.2.2.1)).toArray 51) →
        P99_0 (.pointer (some ⟨g, 0, none⟩)) (.pointer (some ⟨w.heap.size + 1 + 1, 0, none⟩)) (.int .i64 i) (.bool true) (.pointer (some ⟨w2.heap.size, 0, none⟩)) (.int .i64 (roundV x.cls o.2.2.2.1)) w6 fun v w' => v = .bool (givesV m o.2.2.2.1 h r).1 ∧ ∃ F', RfI w' g (toRf (givesV m o.2.2.2.1 h r).2) F' ∧ UpdP F F' w w' := by
      intro w6 c6 h11
      have t := tail _ w6 c6 h11
      rw [gv]
      by_cases hr : r = (0, (h.1, h.2.1, newV x.chunks, x.off, o.2.2.2.1), 0, 0)
      · have ct : r = (0, (h.1, h.2.1, newV x.chunks, x.off, o.2.2.2.1), 0, 0) ∧ (true = true ∨ ¬ badV m (newV x.chunks)) := ⟨hr, .inl rfl⟩
        rw [if_pos ct, if_pos ct] at t; rw [if_pos hr]; exact t
      · have cn : ¬ (r = (0, (h.1, h.2.1, newV x.chunks, x.off, o.2.2.2.1), 0, 0) ∧ (true = true ∨ ¬ badV m (newV x.chunks))) := fun h => hr h.1
        rw [if_neg cn, if_neg cn] at t; rw [if_neg hr]; exact t
    have st2 : ∀ w5 L, hp w5 w2.heap.size = some (.cells (hnC (h.1, h.2.1, r.2.1.2.2.1, 0, o.2.2.2.1)).toArray 51) → effu Try.prog (Instr.storeAt 3 (.pointer (some ⟨w2.heap.size, 0 + 2, none⟩)) (.int .i64 (newV x.chunks))) w5 L = L (put w5 w2.heap.size (hnC (h.1, h.2.1, newV x.chunks, 0, o.2.2.2.1)).toArray 51) := by
      intro w5 L h5
      rw [st_3 (o := 0 + 2) rfl rfl (by rw [h5]; rfl), h5]; rfl
    have st3 : ∀ w5 L, hp w5 w2.heap.size = some (.cells (hnC (h.1, h.2.1, newV x.chunks, 0, o.2.2.2.1)).toArray 51) → effu Try.prog (Instr.storeAt 3 (.pointer (some ⟨w2.heap.size, 0 + 3, none⟩)) (.int .i64 x.off)) w5 L = L (put w5 w2.heap.size (hnC (h.1, h.2.1, newV x.chunks, x.off, o.2.2.2.1)).toArray 51) := by
      intro w5 L h5
      rw [st_3 (o := 0 + 3) rfl rfl (by rw [h5]; rfl), h5]; rfl
    have Qd : ∀ w5, Chg [] w2 w5 → ∃ A cc, ldC (hp w5 g) (0 + 9) = some (.slice (some ⟨b, 0, none⟩) (toRf m).rgs.length c) ∧ ldC (hp w5 b) (i * 8 + 3) = some (.int .i64 x.off) ∧ ldC (hp w5 b) (i * 8 + 5) = some (.slice A x.chunks.length cc) ∧ RdI .i64 w5 A x.chunks := by
      intro w5 c5
      obtain ⟨b', c', hb', ⟨cv', wv', ov', Q'⟩, _⟩ := rf_flag (I.keep (c02.trans c5)) hi
      obtain ⟨b0, c0, hb0, _, _⟩ := rf_flag (I.keep c02) hi
      have e3 := bR c3 hb0
      rw [hb9] at e3
      cases e3
      rw [bR c5 hb0] at hb'
      cases hb'
      obtain ⟨A, cc, rfl, hRc⟩ := ints_sh Q'.cT
      exact ⟨A, cc, bR c5 hb0, Q'.c3, Q'.c5, hRc⟩
    obtain ⟨A, cc, z1, z2, z3, hRc⟩ := Qd w3.drew (c3.trans cd3)
    have z1' : ldC (hp w3 g) (0 + 9) = some (.slice (some ⟨b, 0, none⟩) (toRf m).rgs.length c) := z1
    have z2' : ldC (hp w3 b) (i * 8 + 3) = some (.int .i64 x.off) := z2
    have z3' : ldC (hp w3 b) (i * 8 + 5) = some (.slice A x.chunks.length cc) := z3
    have hlast : x.chunks[x.chunks.length - 1]? = some (newV x.chunks) := by
      rw [newV, if_neg (by omega), List.getD_eq_getElem?_getD, List.getElem?_eq_getElem (show x.chunks.length - 1 < x.chunks.length by omega)]; rfl
    obtain ⟨q, q1, q2⟩ := int_at (c := cc) hRc hlast
    have hlm : (x.chunks.length : Int) - 1 = ((x.chunks.length - 1 : Nat) : Int) := by omega
    have hcl := R0.cl
    have T : ∀ w5, Chg [] w2 w5 → hp w5 w2.heap.size = some (.cells (hnC (h.1, h.2.1, r.2.1.2.2.1, 0, o.2.2.2.1)).toArray 51) →
        hp (put w5 w2.heap.size (hnC (h.1, h.2.1, newV x.chunks, 0, o.2.2.2.1)).toArray 51) w2.heap.size = some (.cells (hnC (h.1, h.2.1, newV x.chunks, 0, o.2.2.2.1)).toArray 51) ∧
        ldC (hp (put w5 w2.heap.size (hnC (h.1, h.2.1, newV x.chunks, 0, o.2.2.2.1)).toArray 51) g) (0 + 9) = some (.slice (some ⟨b, 0, none⟩) (toRf m).rgs.length c) ∧
        ldC (hp (put w5 w2.heap.size (hnC (h.1, h.2.1, newV x.chunks, 0, o.2.2.2.1)).toArray 51) b) (i * 8 + 3) = some (.int .i64 x.off) ∧
        P99_0 (.pointer (some ⟨g, 0, none⟩)) (.pointer (some ⟨w.heap.size + 1 + 1, 0, none⟩)) (.int .i64 i) (.bool true) (.pointer (some ⟨w2.heap.size, 0, none⟩)) (.int .i64 (roundV x.cls o.2.2.2.1)) (put (put w5 w2.heap.size (hnC (h.1, h.2.1, newV x.chunks, 0, o.2.2.2.1)).toArray 51) w2.heap.size (hnC (h.1, h.2.1, newV x.chunks, x.off, o.2.2.2.1)).toArray 51) fun v w' => v = .bool (givesV m o.2.2.2.1 h r).1 ∧ ∃ F', RfI w' g (toRf (givesV m o.2.2.2.1 h r).2) F' ∧ UpdP F F' w w' := by
      intro w5 c5 h5
      have h6 : hp (put w5 w2.heap.size (hnC (h.1, h.2.1, newV x.chunks, 0, o.2.2.2.1)).toArray 51) w2.heap.size = _ := bv (bz h5) _ _
      have c26 : Chg [] w2 (put w5 w2.heap.size (hnC (h.1, h.2.1, newV x.chunks, 0, o.2.2.2.1)).toArray 51) := c5.put (.inr (Nat.le_refl _)) _ _
      obtain ⟨A6, cc6, y1, y2, _, _⟩ := Qd _ c26
      exact ⟨h6, y1, y2, tl _ (c26.put (.inr (Nat.le_refl _)) _ _) (bv (bz h6) (hnC (h.1, h.2.1, newV x.chunks, x.off, o.2.2.2.1)).toArray 51)⟩
    have a11d : hp w3.drew w2.heap.size = some (.cells (hnC (h.1, h.2.1, r.2.1.2.2.1, 0, o.2.2.2.1)).toArray 51) := a11
    have a11e : hp w3.drew.drew w2.heap.size = some (.cells (hnC (h.1, h.2.1, r.2.1.2.2.1, 0, o.2.2.2.1)).toArray 51) := a11
    obtain ⟨h6, y1, y2, t⟩ := T w3.drew (c3.trans cd3) a11d
    obtain ⟨h6e, y1e, y2e, te⟩ := T w3.drew.drew (c3.trans cd3).drew a11e
    have z1e : ldC (hp w3.drew.drew g) (0 + 9) = some (.slice (some ⟨b, 0, none⟩) (toRf m).rgs.length c) := z1
    have z2e : ldC (hp w3.drew.drew b) (i * 8 + 3) = some (.int .i64 x.off) := z2
    have z3e : ldC (hp w3.drew.drew b) (i * 8 + 5) = some (.slice A x.chunks.length cc) := z3
    have q2' : ldv Try.prog 3 (.pointer (some q)) w3.drew = some (.int .i64 (newV x.chunks)) := q2
    have q2e : ldv Try.prog 3 (.pointer (some q)) w3.drew.drew = some (.int .i64 (newV x.chunks)) := q2
    simp -implicitDefEqProofs only [ad, ax, am, aM, aN, aQ, aR, av, ak, aJ, aK, aS, aT, ay, ap, aU, aV, aX, aY, ae, ac, aj, ag, z1z, z2z, z3z, z4z, aH, af, aD, aB, aC, aA, aE, aG, z5z, z6z, ah, z7z, z8z, au, bK, fa_158_3, fa_158_5, cj, fa_51_3, bN, ce, bj, z1', z2', z3', z1e, z2e, z3e, ia, len_23, bp_sub, hlm, bC (n := ((x.chunks.length - 1 : Nat) : Int)) (by omega) (by omega), q1, q2', q2e]
    repeat' (with_reducible apply And.intro)
    all_goals first
      | (rw [st2 _ _ a11d]
         try simp -implicitDefEqProofs only [ad, ax, am, aM, aN, aQ, aR, av, ak, aJ, aK, aS, aT, ay, ap, aU, aV, aX, aY, ae, ac, aj, ag, z1z, z2z, z3z, z4z, aH, af, aD, aB, aC, aA, aE, aG, z5z, z6z, ah, z7z, z8z, au, bK, fa_158_3, bN, bj, y1, y2, ia]
         rw [st3 _ _ h6]
         exact t)
      | (rw [st2 _ _ a11e]
         try simp -implicitDefEqProofs only [ad, ax, am, aM, aN, aQ, aR, av, ak, aJ, aK, aS, aT, ay, ap, aU, aV, aX, aY, ae, ac, aj, ag, z1z, z2z, z3z, z4z, aH, af, aD, aB, aC, aA, aE, aG, z5z, z6z, ah, z7z, z8z, au, bK, fa_158_3, bN, bj, y1e, y2e, ia]
         rw [st3 _ _ h6e]
         exact te)
  | false =>
    rw [hfit] at tail
    have ew : wantV m.c.2.2.1 (roundV x.cls o.2.2.2.1) o.2.2.2.1 x h r.2.1.2.2.1 = (h.1, h.2.1, r.2.1.2.2.1, 0, o.2.2.2.1) := by rw [wantV, hfit]; rfl
    rw [hfit, ew] at gv
    simp only [true_and] at gv
    have t := tail _ w3.drew (c3.trans cd3) (show hp w3.drew w2.heap.size = _ from a11)
    simp -implicitDefEqProofs only [ad, ax, am, aM, aN, aQ, aR, av, ak, aJ, aK, aS, aT, ay, ap, aU, aV, aX, aY, ae, ac, aj, ag, z1z, z2z, z3z, z4z, aH, af, aD, aB, aC, aA, aE, aG, z5z, z6z, ah, z7z, z8z, au]
    rw [gv]
    by_cases hb : badV m r.2.1.2.2.1
    · have hb' : r.2.1.2.2.1 < 0 ∨ m.c.2.1 ≤ r.2.1.2.2.1 ∨ takenV m r.2.1.2.2.1 = true := hb
      have cn : ¬ (r = (0, (h.1, h.2.1, r.2.1.2.2.1, 0, o.2.2.2.1), 0, 0) ∧ (false = true ∨ ¬ badV m r.2.1.2.2.1)) := fun ⟨_, h⟩ => by
        rcases h with h | h
        · cases h
        · exact h hb
      rw [if_neg cn, if_neg cn] at t; rw [if_pos hb']; exact t
    · have hb' : ¬ (r.2.1.2.2.1 < 0 ∨ m.c.2.1 ≤ r.2.1.2.2.1 ∨ takenV m r.2.1.2.2.1 = true) := hb
      rw [if_neg hb']
      by_cases hr : r = (0, (h.1, h.2.1, r.2.1.2.2.1, 0, o.2.2.2.1), 0, 0)
      · have ct : r = (0, (h.1, h.2.1, r.2.1.2.2.1, 0, o.2.2.2.1), 0, 0) ∧ (false = true ∨ ¬ badV m r.2.1.2.2.1) := ⟨hr, .inr hb⟩
        rw [if_pos ct, if_pos ct] at t; rw [if_pos hr]; exact t
      · have cn : ¬ (r = (0, (h.1, h.2.1, r.2.1.2.2.1, 0, o.2.2.2.1), 0, 0) ∧ (false = true ∨ ¬ badV m r.2.1.2.2.1)) := fun h => hr h.1
        rw [if_neg cn, if_neg cn] at t; rw [if_neg hr]; exact t
end
end Go.Proofs.Ytgamnncehjcdiaa

namespace Go.Proofs.Ytgamnncehjcdiaa
open Go Ev Go.RowKit

section
variable {w : World} {g : Nat} {m : MdV} {F : Fp} {K : Nat}
set_option maxHeartbeats 4000000 in
theorem c_rDo (I : RfI w g (toRf m) F) (Wm : Wf m K) (Wn' : Wn m K) (hK : K + 1 ≤ 1000000) (n : Int) (o : OpV) (h : HnV) (r : RsV) :
    CallR Try.prog 56 [.pointer (some ⟨g, 0, none⟩), .int .i64 n, .agg (opC o).toArray, .agg (hnC h).toArray, .agg (rsC r).toArray] w fun v w' => v = .bool (doV m n o h r).1 ∧ ∃ F', RfI w' g (toRf (doV m n o h r).2) F' ∧ UpdP F F' w w' := by
  apply F56_ok
  simp -implicitDefEqProofs only [F56, bE, bA, bf]
  generalize hw : ((w.alloc (.cells (opC o).toArray 40)).alloc _).alloc _ = w1
  have c1 : Chg [] w w1 := by rw [← hw]; exact (((Chg.refl _ _).alloc _).alloc _).alloc _
  have a7 : hp w1 w.heap.size = some (.cells (opC o).toArray 40) := by rw [← hw, bc, bf, bf, if_neg (by omega), bc, bf, if_neg (by omega), bc, if_pos rfl]
  have a8 : hp w1 (w.heap.size + 1) = some (.cells (hnC h).toArray 51) := by rw [← hw, bc, bf, bf, if_neg (by omega), bc, bf, if_pos rfl]
  have a9 : hp w1 (w.heap.size + 1 + 1) = some (.cells (rsC r).toArray 53) := by rw [← hw, bc, bf, bf, if_pos rfl]
  clear hw
  have ldo : ∀ w', hp w' w.heap.size = some (.cells (opC o).toArray 40) → ldv Try.prog 40 (.pointer (some ⟨w.heap.size, 0, none⟩)) w' = some (.agg (opC o).toArray) := fun w' hw => bJ (t := 40) (c := (opC o).toArray) ag_40 (show (Try.prog.info? 40).map (·.size) = some (opC o).toArray.size from sz_40) hw
  simp -implicitDefEqProofs only [ad, ldo _ a7]
  refine (c_refMay o w1).mono ?_
  rintro _ w2 ⟨rfl, c2⟩
  have c02 := c1.trans c2
  have b7 := c2.at a7 (by simp)
  have b8 := c2.at a8 (by simp)
  obtain ⟨s, gn, rv, dd, hh, R⟩ := (I.keep c02).rd
  have hc0 : ldC (hp w2 g) (0 + 0 + 0) = some (.int .i64 m.c.1) := R.c 0 (by omega)
  have bad : mayV m n o = false → doV m n o h r = (false, m) := fun e => by rw [doV, if_pos e]
  cases hmo : mayO o with
  | false =>
    simp -implicitDefEqProofs only [ad, ax, am, aM, aN, aQ, aR, av, ak, aJ, aK, aS, aT, ay, ap, aU, aV, aX, aY, ae, ac, aj, ag, z1z, z2z, z3z, z4z, aH, af, aD, aB, aC, aA, aE, aG, z5z, z6z, ah, z7z, z8z, au]
    rw [bad (by simp [mayV, hmo])]
    exact ⟨by first | rfl | trivial, F, I.keep c02, UpdP.of0 c02⟩
  | true =>
  by_cases n0 : n < 0
  · simp -implicitDefEqProofs only [ad, ax, am, aM, aN, aQ, aR, av, ak, aJ, aK, aS, aT, ay, ap, aU, aV, aX, aY, ae, ac, aj, ag, z1z, z2z, z3z, z4z, aH, af, aD, aB, aC, aA, aE, aG, z5z, z6z, ah, z7z, z8z, au, n0]
    rw [bad (by simp only [mayV, Bool.and_eq_false_iff, decide_eq_false_iff_not]; omega)]
    exact ⟨by first | rfl | trivial, F, I.keep c02, UpdP.of0 c02⟩
  by_cases n1 : m.c.1 ≤ n
  · simp -implicitDefEqProofs only [ad, ax, am, aM, aN, aQ, aR, av, ak, aJ, aK, aS, aT, ay, ap, aU, aV, aX, aY, ae, ac, aj, ag, z1z, z2z, z3z, z4z, aH, af, aD, aB, aC, aA, aE, aG, z5z, z6z, ah, z7z, z8z, au, n0, cr, fa_74_0, bj, hc0, aA, n1, ge_iff_le]
    have := Wn'.cw
    rw [bad (by simp only [mayV, Bool.and_eq_false_iff, decide_eq_false_iff_not]; omega)]
    exact ⟨by first | rfl | trivial, F, I.keep c02, UpdP.of0 c02⟩
  obtain ⟨nn, rfl⟩ := Int.eq_ofNat_of_zero_le (show 0 ≤ n by omega)
  have hm : mayV m nn o = true := by
    have := Wn'.cw
    rw [mayV, hmo, decide_eq_true (show (0 : Int) ≤ nn by omega), decide_eq_true (show (nn : Int) < m.hands.length by omega)]; rfl
  obtain ⟨d, hd⟩ := may_hd hm
  have hd' : m.hands[nn]? = some d := hd
  simp -implicitDefEqProofs only [ad, ax, am, aM, aN, aQ, aR, av, ak, aJ, aK, aS, aT, ay, ap, aU, aV, aX, aY, ae, ac, aj, ag, z1z, z2z, z3z, z4z, aH, af, aD, aB, aC, aA, aE, aG, z5z, z6z, ah, z7z, z8z, au, n0, cr, fa_74_0, bj, hc0, aA, n1, ge_iff_le, ldo _ b7, ld_hn b8]
  refine (c_rMust (I.keep c02) Wm (by omega) hm h).mono ?_
  rintro _ w3 ⟨rfl, c3⟩
  have c13 := c2.trans c3
  have c03 := c1.trans c13
  simp -implicitDefEqProofs only [tup0, tup1, ad, ax, am, aM, aN, aQ, aR, av, ak, aJ, aK, aS, aT, ay, ap, aU, aV, aX, aY, ae, ac, aj, ag, z1z, z2z, z3z, z4z, aH, af, aD, aB, aC, aA, aE, aG, z5z, z6z, ah, z7z, z8z, au, al_53]
  rw [st_res (c := (rsC noR).toArray) (e := 53) (by rw [bc, if_pos rfl]; rfl) rfl]
  generalize hw4 : put (w3.alloc _) w3.heap.size _ _ = w4
  have c4 : Chg [] w3 w4 := by rw [← hw4]; exact ((Chg.refl _ _).alloc _).put (.inr (Nat.le_refl _)) _ _
  have a11 : hp w4 w3.heap.size = some (.cells (rsC (mustV m nn o h).1).toArray 53) := by rw [← hw4]; exact bv (by simp) _ _
  clear hw4
  have c14 := c13.trans c4
  have c04 := c1.trans c14
  have d7 := c14.at a7 (by simp)
  have d8 := c14.at a8 (by simp)
  have d9 := c14.at a9 (by simp)
  have hbe : be Try.prog .neq 53 (.tmp 39) (.tmp 40) (.agg (rsC r).toArray) (.agg (rsC (mustV m nn o h).1).toArray) = some (.bool (!decide (r = (mustV m nn o h).1))) := be_nrs r _
  cases hi : (mustV m nn o h).2 with
  | true =>
    simp -implicitDefEqProofs only [ad, ax, am, aM, aN, aQ, aR, av, ak, aJ, aK, aS, aT, ay, ap, aU, aV, aX, aY, ae, ac, aj, ag, z1z, z2z, z3z, z4z, aH, af, aD, aB, aC, aA, aE, aG, z5z, z6z, ah, z7z, z8z, au, bV d9, bV a11, hbe]
    have ed : doV m nn o h r = if r = (mustV m nn o h).1 then (true, if r.1 = 0 then doesV m nn o h else m) else (false, m) := by rw [doV, if_neg (by rw [hm]; simp), if_pos hi]
    by_cases hr : r = (mustV m nn o h).1
    · rw [if_pos hr] at ed
      simp -implicitDefEqProofs only [decide_eq_true hr, ad, ax, am, aM, aN, aQ, aR, av, ak, aJ, aK, aS, aT, ay, ap, aU, aV, aX, aY, ae, ac, aj, ag, z1z, z2z, z3z, z4z, aH, af, aD, aB, aC, aA, aE, aG, z5z, z6z, ah, z7z, z8z, au, fa_53_0, bU, d9, rs_0]
      by_cases h0 : r.1 = 0
      · rw [if_pos h0] at ed
        have e0 : (r.1 == 0) = true := by rw [h0]; rfl
        have hrf := must_fine hm hd (by rw [← hr]; exact h0)
        simp -implicitDefEqProofs only [e0, ad, ax, am, aM, aN, aQ, aR, av, ak, aJ, aK, aS, aT, ay, ap, aU, aV, aX, aY, ae, ac, aj, ag, z1z, z2z, z3z, z4z, aH, af, aD, aB, aC, aA, aE, aG, z5z, z6z, ah, z7z, z8z, au, ldo _ d7, ld_hn d8]
        refine (c_rDoes (I.keep c04) Wm (by omega) Wn' hm hd' hrf).mono ?_
        rintro _ w5 ⟨rfl, F5, i5, u5⟩
        apply L56_0_ok
        rw [ed]
        exact ⟨rfl, F5, i5, u5.pre c04⟩
      · rw [if_neg h0] at ed
        simp -implicitDefEqProofs only [eqf h0, ad, ax, am, aM, aN, aQ, aR, av, ak, aJ, aK, aS, aT, ay, ap, aU, aV, aX, aY, ae, ac, aj, ag, z1z, z2z, z3z, z4z, aH, af, aD, aB, aC, aA, aE, aG, z5z, z6z, ah, z7z, z8z, au]
        apply L56_0_ok
        rw [ed]
        exact ⟨rfl, F, I.keep c04, UpdP.of0 c04⟩
    · rw [if_neg hr] at ed
      simp -implicitDefEqProofs only [decide_eq_false hr, ad, ax, am, aM, aN, aQ, aR, av, ak, aJ, aK, aS, aT, ay, ap, aU, aV, aX, aY, ae, ac, aj, ag, z1z, z2z, z3z, z4z, aH, af, aD, aB, aC, aA, aE, aG, z5z, z6z, ah, z7z, z8z, au]
      rw [ed]
      exact ⟨by first | rfl | trivial, F, I.keep c04, UpdP.of0 c04⟩
  | false =>
    obtain ⟨hrf, hk⟩ := must_open hm hd hi
    have ed : doV m nn o h r = if o.1 = 1 then createsV m o.2.2.2.1 r else givesV m o.2.2.2.1 h r := by rw [doV, if_neg (by rw [hm]; simp), if_neg (by rw [hi]; simp)]
    by_cases k1 : o.1 = 1
    · rw [if_pos k1] at ed
      have q : (o.1 == 1) = true := by rw [k1]; rfl
      simp -implicitDefEqProofs only [ad, ax, am, aM, aN, aQ, aR, av, ak, aJ, aK, aS, aT, ay, ap, aU, aV, aX, aY, ae, ac, aj, ag, z1z, z2z, z3z, z4z, aH, af, aD, aB, aC, aA, aE, aG, z5z, z6z, ah, z7z, z8z, au, bq, bj, d7, bD, q, bV d9, ldo _ d7]
      refine (c_rCreate (I.keep c04) Wm Wn' hK o r).mono ?_
      rintro _ w5 ⟨rfl, F5, i5, u5⟩
      rw [ed]
      exact ⟨rfl, F5, i5, u5.pre c04⟩
    · rw [if_neg k1] at ed
      obtain ⟨i, x, hf, _, _, _⟩ := region_ok hrf (by omega)
      simp -implicitDefEqProofs only [ad, ax, am, aM, aN, aQ, aR, av, ak, aJ, aK, aS, aT, ay, ap, aU, aV, aX, aY, ae, ac, aj, ag, z1z, z2z, z3z, z4z, aH, af, aD, aB, aC, aA, aE, aG, z5z, z6z, ah, z7z, z8z, au, bq, bj, d7, bD, eqf k1, bV d9, ld_hn d8, ldo _ d7]
      refine (c_rAlloc (I.keep c04) Wm hK o h r hf).mono ?_
      rintro _ w5 ⟨rfl, F5, i5, u5⟩
      rw [ed]
      exact ⟨rfl, F5, i5, u5.pre c04⟩
end
end Go.Proofs.Ytgamnncehjcdiaa

namespace Go.Proofs.Ytgamnncehjcdiaa
open Go Ev Go.RowKit

section
variable {w : World} {g : Nat} {m : MdV} {F : Fp} {K : Nat}
def objsV (m : MdV) (n : Int) : List HnV := if (liveV m n).2 then (match findR m.rgs (n, (liveV m n).1) with | some i => (match m.rgs[i]? with | some r => r.objs | none => []) | none => []) else []
def RdO (w : World) (v : Value) (L : List HnV) : Prop := ∃ A c, v = .slice A L.length c ∧ RdV w A (L.flatMap hnC)
theorem RdO.keep {w w' : World} {v : Value} {L : List HnV} (h : RdO w v L) (hc : Chg [] w w') : RdO w' v L := by
  obtain ⟨A, c, rfl, h1⟩ := h
  exact ⟨A, c, rfl, h1.keep hc.below⟩
theorem hnC_one (h : HnV) : ∀ u ∈ hnC h, u.oneCell' = true := fun u hu => by
  simp only [hnC, List.mem_cons, List.not_mem_nil, or_false] at hu
  rcases hu with rfl | rfl | rfl | rfl | rfl <;> rfl
theorem live_at {n : Int} (Wn' : Wn m K) (h : (liveV m n).2 = true) : ∃ i r, findR m.rgs (n, (liveV m n).1) = some i ∧ m.rgs[i]? = some r := by
  have hl := h
  unfold liveV at h
  by_cases h0 : 0 ≤ n ∧ n < m.slots.length
  · rw [if_pos h0] at h
    have hlt : n.toNat < m.slots.length := by omega
    rw [List.getElem?_eq_getElem hlt] at h
    simp only at h
    by_cases h1 : (m.slots[n.toNat]).1 = 1
    · obtain ⟨k, hk⟩ := Wn'.lv n.toNat m.slots[n.toNat] (List.getElem?_eq_getElem hlt) h1
      rw [Int.toNat_of_nonneg h0.1] at hk
      obtain ⟨r, hr, _⟩ := findR_at hk
      refine ⟨k, r, ?_, hr⟩
      rw [liveV, if_pos h0, List.getElem?_eq_getElem hlt]
      simp only
      rw [if_pos h1]; exact hk
    · rw [if_neg h1] at h; cases h
  · rw [if_neg h0] at h; cases h
set_option maxHeartbeats 1000000 in
theorem c_hClone {L : List HnV} {v : Value} (h : RdO w v L) (hl : L.length ≤ 1000000) : CallR Try.prog 131 [v] w fun v w' => RdO w' v L ∧ Chg [] w w' := by
  obtain ⟨A, c, rfl, h1⟩ := h
  apply F131_ok
  cases A with
  | none =>
    have hL : L = [] := by
      cases L with
      | nil => rfl
      | cons x L => obtain ⟨p, hp, _⟩ := h1 0 (.int .i64 x.1) rfl; cases hp
    subst hL
    simp -implicitDefEqProofs only [F131, be_eqlsl Try.underlying90, z7z, ad, aj]
    exact ⟨⟨none, 0, rfl, h1⟩, Chg.refl _ _⟩
  | some p =>
    simp -implicitDefEqProofs only [F131, be_eqlsl Try.underlying90, z8z, ad, ag]
    obtain ⟨i, hi, hz, hs, hb⟩ := inf_51
    refine eff_clone (size := 5) Try.underlying90 hi hz hs rfl (by omega) (flat_len hnC_len L) h1 (fun u hu => ?_) (by unfold maxLen; omega) (by rw [hb]; omega) fun x' w' ho hc => ?_
    · obtain ⟨s, _, hu⟩ := List.mem_flatMap.1 hu
      exact hnC_one s u hu
    · obtain ⟨A, cA, rfl, hA, _, _⟩ := rdV_of_own ho
      exact ⟨⟨A, cA, rfl, hA⟩, hc⟩
set_option maxHeartbeats 1000000 in
theorem c_mObjects (I : MdI w g m F) (Wm : Wf m K) (Wn' : Wn m K) (hK : K ≤ 1000000) (n : Int) : CallR Try.prog 105 [.pointer (some ⟨g, 0, none⟩), .int .i64 n] w fun v w' => RdO w' v (objsV m n) ∧ Chg [] w w' := by
  apply F105_ok
  obtain ⟨s, rv, hh, M⟩ := I.rd
  simp -implicitDefEqProofs only [F105]
  refine (c_mLive M n).step ?_
  cases hl : (liveV m n).2 with
  | false =>
    simp -implicitDefEqProofs only [tup0, tup1, ad, ax, am, aM, aN, aQ, aR, av, ak, aJ, aK, aS, aT, ay, ap, aU, aV, aX, aY, ae, ac, aj, ag, z1z, z2z, z3z, z4z, aH, af, aD, aB, aC, aA, aE, aG, z5z, z6z, ah, z7z, z8z, au]
    rw [objsV, hl]
    exact ⟨⟨none, 0, rfl, fun j u hj => by simp at hj⟩, Chg.refl _ _⟩
  | true =>
    obtain ⟨i, r, hf, hr⟩ := live_at Wn' hl
    have hbd : pureRun Try.prog (Instr.build 141 #[(0, .int .i64 n), (1, .int .i64 (liveV m n).1)]) = some (.agg (nmC (n, (liveV m n).1)).toArray) := bd_141_0_1
    simp -implicitDefEqProofs only [tup0, tup1, ad, ax, am, aM, aN, aQ, aR, av, ak, aJ, aK, aS, aT, ay, ap, aU, aV, aX, aY, ae, ac, aj, ag, z1z, z2z, z3z, z4z, aH, af, aD, aB, aC, aA, aE, aG, z5z, z6z, ah, z7z, z8z, au, hbd]
    refine (c_mRegion M (n, (liveV m n).1) (Nat.le_trans Wm.rl hK)).mono ?_
    rintro v w1 ⟨c1, hv⟩
    rw [hf] at hv
    rcases hv with ⟨h1, _⟩ | ⟨i', r', b, c, h1, h2, h3, rfl⟩
    · cases h1
    cases h1
    rw [hr] at h2; cases h2
    have M1 := M.keep c1
    obtain ⟨G, hG⟩ := M1.rT
    obtain ⟨b', c', hx, cv, wv, ov, R⟩ := rg_at hG hr
    rw [h3] at hx; cases hx
    obtain ⟨A, cc, hov, hR⟩ := objs_sh R.oT
    have R6 := R.c6
    rw [hov] at R6
    have ho := (Wm.rg r (List.mem_of_getElem? hr)).ol
    simp -implicitDefEqProofs only [ad, ax, am, aM, aN, aQ, aR, av, ak, aJ, aK, aS, aT, ay, ap, aU, aV, aX, aY, ae, ac, aj, ag, z1z, z2z, z3z, z4z, aH, af, aD, aB, aC, aA, aE, aG, z5z, z6z, ah, z7z, z8z, au, fa_144_5, ld_90, R6]
    refine (c_hClone (L := r.objs) ⟨A, cc, rfl, hR⟩ (by omega)).mono ?_
    rintro v w2 ⟨h2, c2⟩
    have e : objsV m n = r.objs := by rw [objsV, hl, hf]; simp only [hr, if_true]
    rw [e]
    exact ⟨h2, c1.trans c2⟩
set_option maxHeartbeats 1000000 in
theorem c_rObjects (I : RfI w g (toRf m) F) (Wm : Wf m K) (Wn' : Wn m K) (hK : K ≤ 1000000) (n : Int) : CallR Try.prog 96 [.pointer (some ⟨g, 0, none⟩), .int .i64 n] w fun v w' => RdO w' v (objsV m n) ∧ Chg [] w w' ∧ ∀ p k c, v = .slice (some p) k c → w.heap.size ≤ p.block := by
  apply F96_ok
  obtain ⟨s, gn, rv, dd, hh, R⟩ := I.rd
  have cs := Wn'.cs
  simp -implicitDefEqProofs only [F96]
  refine (c_rLive R (by simp only [toRf, List.length_map]; omega) (by simp [toRf]) n).step ?_
  rw [rf_live]
  cases hl : (liveV m n).2 with
  | false =>
    simp -implicitDefEqProofs only [tup0, tup1, ad, ax, am, aM, aN, aQ, aR, av, ak, aJ, aK, aS, aT, ay, ap, aU, aV, aX, aY, ae, ac, aj, ag, z1z, z2z, z3z, z4z, aH, af, aD, aB, aC, aA, aE, aG, z5z, z6z, ah, z7z, z8z, au]
    rw [objsV, hl]
    exact ⟨⟨none, 0, rfl, fun j u hj => by simp at hj⟩, Chg.refl _ _, fun p k c h => by cases h⟩
  | true =>
    obtain ⟨i, r, hf, hr⟩ := live_at Wn' hl
    have hx : (toRf m).rgs[i]? = some (r, isLv m r.nm) := by rw [rgs_rf, hr]; rfl
    have hil := (List.getElem?_eq_some_iff.1 hx).1
    have cd : Chg [] w w.drew := (Chg.refl _ _).drew
    have Rd := R.keep cd
    obtain ⟨Fr, hFr⟩ := R.rT
    obtain ⟨b, c, rfl, cv, wv, ov, Q⟩ := rr_at hFr hx
    have ia := ia_rgs (b := b) (c := c) hil
    obtain ⟨A, co, rfl, hR⟩ := objs_sh Q.oT
    have Qd := Q.keep cd
    have ho := (Wm.rg r (List.mem_of_getElem? hr)).ol
    have hlen : (toRf m).rgs.length ≤ 1000000 := by rw [rf_len]; exact Nat.le_trans Wm.rl hK
    have e : objsV m n = r.objs := by rw [objsV, hl, hf]; simp only [hr, if_true]
    have fin : ∀ {A : Option Addr} {co : Nat}, RdV w A (r.objs.flatMap hnC) → effv Try.prog (Builtin.append_ #[90, 90] 90 #[.slice none 0 0, .slice A r.objs.length co]) w.drew fun v w' => RdO w' v (objsV m n) ∧ Chg [] w w' ∧ ∀ p k c, v = .slice (some p) k c → w.heap.size ≤ p.block := by
      intro A co hR
      have hRd := hR.keep cd.below
      obtain ⟨i, hi, hz, hs, hb⟩ := inf_51
      refine eff_append (base := w.drew.heap.size) (xs := []) (n := 0) (news := r.objs.flatMap hnC) (m := r.objs.length) Try.underlying90 hi hz hs rfl (by omega) (World.ownsRow_nil _ _ _ _) (flat_len hnC_len r.objs) (fun j u hj => hRd j u hj) (fun u hu => ?_) (by unfold maxLen; omega) (by rw [hb]; omega) (Nat.le_refl _)
        fun x' w1 ho hg => ?_
      · obtain ⟨s, _, hu⟩ := List.mem_flatMap.1 hu
        exact hnC_one s u hu
      have hc1 : Chg [] w.drew w1 := (Chg.refl _ _).grown hg fun k hk => by simp [Value.ownBlock] at hk
      rw [List.nil_append, Nat.zero_add] at ho
      obtain ⟨A, cA, rfl, hA, hb, _⟩ := rdV_of_own ho
      rw [e]
      exact ⟨⟨A, cA, rfl, hA⟩, cd.trans hc1, fun p k c h => by cases h; exact (hb p rfl).1⟩
    have q7 := Q.c7
    have q7d := Qd.c7
    simp -implicitDefEqProofs only [tup0, tup1, ad, ax, am, aM, aN, aQ, aR, av, ak, aJ, aK, aS, aT, ay, ap, aU, aV, aX, aY, ae, ac, aj, ag, z1z, z2z, z3z, z4z, aH, af, aD, aB, aC, aA, aE, aG, z5z, z6z, ah, z7z, z8z, au, bK, bN, R.rl, Rd.rl]
    repeat' (with_reducible apply And.intro)
    all_goals
      refine (c_rFind Rd (n, (liveV m n).1) hlen).step ?_
      rw [findX_rf, hf]
      simp -implicitDefEqProofs only [ixR, ad, ax, am, aM, aN, aQ, aR, av, ak, aJ, aK, aS, aT, ay, ap, aU, aV, aX, aY, ae, ac, aj, ag, z1z, z2z, z3z, z4z, aH, af, aD, aB, aC, aA, aE, aG, z5z, z6z, ah, z7z, z8z, au, bN, Rd.rl, R.rl, ia, fa_158_7, ld_90, q7d, q7]
      exact fin hR
theorem c_sameHandles {v v' : Value} {L M : List HnV} (h : RdO w v L) (k : RdO w v' M) (hl : L.length ≤ 1000000) : CallR Try.prog 104 [v, v'] w fun u w' => u = .bool (decide (L = M)) ∧ Chg [] w w' := by
  obtain ⟨A, c, rfl, hR⟩ := h
  obtain ⟨B, d, rfl, hS⟩ := k
  apply F104_ok
  by_cases hn : L.length = M.length
  · have e : ((L.length : Int) != M.length) = false := by rw [hn]; exact bne_self_eq_false _
    simp -implicitDefEqProofs only [F104, ad, ax, am, aM, aN, aQ, aR, av, ak, aJ, aK, aS, aT, ay, ap, aU, aV, aX, aY, ae, ac, aj, ag, z1z, z2z, z3z, z4z, aH, af, aD, aB, aC, aA, aE, aG, z5z, z6z, ah, z7z, z8z, au, len_90, e]
    have main : ∀ (t i : Nat) (w1 : World), Chg [] w w1 → (∀ (j : Nat), j < i → L[j]? = M[j]?) → i + t = L.length →
        P104_0 (.slice A L.length c) (.slice B M.length d) (.int .i64 i) w1 fun u w' => u = .bool (decide (L = M)) ∧ Chg [] w w' := by
      intro t
      induction t with
      | zero =>
        intro i w1 c1 hj hi
        apply L104_0_ok
        have : ¬ (i : Int) < L.length := by omega
        simp -implicitDefEqProofs only [L104_0, ad, ax, am, aM, aN, aQ, aR, av, ak, aJ, aK, aS, aT, ay, ap, aU, aV, aX, aY, ae, ac, aj, ag, z1z, z2z, z3z, z4z, aH, af, aD, aB, aC, aA, aE, aG, z5z, z6z, ah, z7z, z8z, au, len_90, this]
        refine ⟨?_, c1⟩
        rw [decide_eq_true]
        apply List.ext_getElem?
        intro j
        rcases Nat.lt_or_ge j i with h | h
        · exact hj j h
        · rw [List.getElem?_eq_none (by omega), List.getElem?_eq_none (by omega)]
      | succ t ih =>
        intro i w1 c1 hj hi
        apply L104_0_ok
        have hlt : (i : Int) < L.length := by omega
        have hil : i < L.length := by omega
        have him : i < M.length := by omega
        have cd1 : Chg [] w w1.drew := c1.drew
        obtain ⟨bb, oo, q1, _, q3, _⟩ := (hR.keep cd1.below).elem (P := Try.prog) (c := c) (n := L.length) (i := (i : Int)) (j := .i64) Try.underlying90 sz_51 (by omega) (by rw [flat_len hnC_len]; exact Nat.le_refl _) (by omega) (by omega)
        rw [Int.toNat_natCast, flat_at hnC_len L i hil] at q3
        obtain ⟨bm, om, p1, _, p3, _⟩ := (hS.keep cd1.below).elem (P := Try.prog) (c := d) (n := M.length) (i := (i : Int)) (j := .i64) Try.underlying90 sz_51 (by omega) (by rw [flat_len hnC_len]; exact Nat.le_refl _) (by omega) (by omega)
        rw [Int.toNat_natCast, flat_at hnC_len M i him] at p3
        have l1 : ldv Try.prog 51 (.pointer (some ⟨bb, oo, none⟩)) w1.drew = some (.agg (hnC L[i]).toArray) := by rw [ld_51, q3]; rfl
        have l2 : ldv Try.prog 51 (.pointer (some ⟨bm, om, none⟩)) w1.drew = some (.agg (hnC M[i]).toArray) := by rw [ld_51, p3]; rfl
        have hbe : be Try.prog .neq 51 (.tmp 20) (.tmp 24) (.agg (hnC L[i]).toArray) (.agg (hnC M[i]).toArray) = some (.bool (!decide (L[i] = M[i]))) := by
          rw [← hn_beq]; exact be_neq_51
        simp -implicitDefEqProofs only [L104_0, ad, ax, am, aM, aN, aQ, aR, av, ak, aJ, aK, aS, aT, ay, ap, aU, aV, aX, aY, ae, ac, aj, ag, z1z, z2z, z3z, z4z, aH, af, aD, aB, aC, aA, aE, aG, z5z, z6z, ah, z7z, z8z, au, len_90, hlt, q1, p1, l1, l2, hbe]
        by_cases hya : L[i] = M[i]
        · simp -implicitDefEqProofs only [decide_eq_true hya, ad, ax, am, aM, aN, aQ, aR, av, ak, aJ, aK, aS, aT, ay, ap, aU, aV, aX, aY, ae, ac, aj, ag, z1z, z2z, z3z, z4z, aH, af, aD, aB, aC, aA, aE, aG, z5z, z6z, ah, z7z, z8z, au, bG, bC (n := (i : Int) + 1) (by omega) (by omega)]
          have := ih (i + 1) w1.drew cd1 (fun j hj' => by
            rcases Nat.lt_or_ge j i with h1 | h1
            · exact hj j h1
            · have : j = i := by omega
              subst this
              rw [List.getElem?_eq_getElem hil, List.getElem?_eq_getElem him, hya]) (by omega)
          rw [Int.natCast_add i 1] at this
          exact this
        · simp -implicitDefEqProofs only [decide_eq_false hya, ad, ax, am, aM, aN, aQ, aR, av, ak, aJ, aK, aS, aT, ay, ap, aU, aV, aX, aY, ae, ac, aj, ag, z1z, z2z, z3z, z4z, aH, af, aD, aB, aC, aA, aE, aG, z5z, z6z, ah, z7z, z8z, au]
          refine ⟨?_, cd1⟩
          rw [decide_eq_false (fun h => hya (by subst h; rfl))]
    exact main L.length 0 w (Chg.refl _ _) (fun j hj => by omega) (by omega)
  · have e : ((L.length : Int) != M.length) = true := bne_iff_ne.2 (by omega)
    simp -implicitDefEqProofs only [F104, ad, ax, am, aM, aN, aQ, aR, av, ak, aJ, aK, aS, aT, ay, ap, aU, aV, aX, aY, ae, ac, aj, ag, z1z, z2z, z3z, z4z, aH, af, aD, aB, aC, aA, aE, aG, z5z, z6z, ah, z7z, z8z, au, len_90, e]
    refine ⟨?_, Chg.refl _ _⟩
    rw [decide_eq_false (fun h => hn (by rw [h]))]
end
end Go.Proofs.Ytgamnncehjcdiaa

namespace Go.Proofs.Ytgamnncehjcdiaa
open Go Ev Go.RowKit

section
variable {W w : World} {g g4 g10 : Nat} {m : MdV} {F : Fp} {K : Nat} {h : HnV}
theorem known_rf (Wm : Wf m K) (a : HnV) : (knownX (toRf m) a).2 = knownV m a 2 := by
  have := good_rfv Wm 7 a
  simpa [goodX, ofK] using this
set_option maxHeartbeats 2000000 in
theorem l_rValue0 {n : Int} {i : Nat} {rg : RgV} {k : Nat} {L : List Int} {j : Nat} (I : RfI W g (toRf m) F) (hc : Chg [] W w) (Wm : Wf m K) (hK : K ≤ 1000000) (O : ObjAt m h n i rg k L j) {ov : Value} {A : Option Addr} {cc : Nat} {bw cw g2 c2 : Nat}
    (b4 : hp w g4 = some (.cells (hnC h).toArray 51)) (b10 : hp w g10 = some (.cells (rgA (rg, isLv m rg.nm) (.slice A rg.chunks.length cc) (.slice (some ⟨bw, 0, none⟩) rg.words.length cw) ov) 158))
    (hRc : RdI .i64 w A rg.chunks) (p3 : ldC (hp w bw) k = some (.slice (some ⟨g2, 0, none⟩) L.length c2)) (p4 : ldC (hp w g2) j = some (.int .u64 (wordV m h n))) :
    P106_0 (.int .i64 n) (.pointer (some ⟨g4, 0, none⟩)) (.pointer (some ⟨g10, 0, none⟩)) w fun v w' => v = .tuple #[.int .u64 (wordV m h n), .bool true] ∧ Chg [] W w' := by
  apply L106_0_ok
  have W1 := Wm.w1
  have W2 := Wm.w2
  have e2 : (hnC h).toArray[0 + 2]? = some (.int .i64 h.2.2.1) := rfl
  have e3 : (hnC h).toArray[0 + 3]? = some (.int .i64 h.2.2.2.1) := rfl
  have r6 : (rgA (rg, isLv m rg.nm) (.slice A rg.chunks.length cc) (.slice (some ⟨bw, 0, none⟩) rg.words.length cw) ov)[0 + 6]? = some (.slice (some ⟨bw, 0, none⟩) rg.words.length cw) := rfl
  have cd : Chg [] w w.drew := (Chg.refl _ _).drew
  have hcl : rg.chunks.length ≤ 1000000 := Nat.le_trans (Wm.rg rg (List.mem_of_getElem? O.ri)).cl hK
  have hwr := (Wm.rg rg (List.mem_of_getElem? O.ri)).wl
  have hlw := (List.getElem?_eq_some_iff.1 O.wk).1
  have iaw := ia_142 (b := bw) (p := 0) (n := rg.words.length) (c := cw) (j := .i64) (i := (k : Int)) (by omega) (by omega)
  rw [Int.toNat_natCast, Nat.zero_add, Nat.mul_one] at iaw
  have hjl := O.jl
  have hwl := O.wl
  have iau := ia_177 (b := g2) (p := 0) (n := L.length) (c := c2) (j := .i64) (i := (j : Int)) (by omega) (by omega)
  rw [Int.toNat_natCast, Nat.zero_add, Nat.mul_one] at iau
  have cat := c_rAt (w := w.drew) (p := (rg, isLv m rg.nm)) (c := cc) (wv := .slice (some ⟨bw, 0, none⟩) rg.words.length cw) (ov := ov) (hRc.keep cd.below) hcl h.2.2.1
  rw [show ixOf (rg, isLv m rg.nm).1.chunks h.2.2.1 = (k : Int) from O.ix] at cat
  have ldr : ∀ w', hp w' g10 = some (.cells (rgA (rg, isLv m rg.nm) (.slice A rg.chunks.length cc) (.slice (some ⟨bw, 0, none⟩) rg.words.length cw) ov) 158) → ldv Try.prog 158 (.pointer (some ⟨g10, 0, none⟩)) w' = some (.agg (rgA (rg, isLv m rg.nm) (.slice A rg.chunks.length cc) (.slice (some ⟨bw, 0, none⟩) rg.words.length cw) ov)) := fun w' hw => bJ (t := 158) ag_158 (by rw [sz_158]; rfl) hw
  have b10d : hp w.drew g10 = _ := b10
  simp -implicitDefEqProofs only [L106_0, ad, ax, am, aM, aN, aQ, aR, av, ak, aJ, aK, aS, aT, ay, ap, aU, aV, aX, aY, ae, ac, aj, ag, z1z, z2z, z3z, z4z, aH, af, aD, aB, aC, aA, aE, aG, z5z, z6z, ah, z7z, z8z, au, fa_158_6, cj, fa_51_3, ld_142, bj, b4, b10, e2, e3, r6, ldr _ b10d, bG, O.jn, bC (n := (j : Int)) (by omega) (by omega)]
  repeat' (with_reducible apply And.intro)
  all_goals
    refine cat.mono ?_
    rintro _ w3 ⟨rfl, c3⟩
    have c13 := cd.trans c3
    have t3 := bR c13 p3
    have t4 := bR c13 p4
    have t9 := c13.at b4 (by simp)
    have t10 := c13.at b10 (by simp)
    simp -implicitDefEqProofs only [ad, ax, am, aM, aN, aQ, aR, av, ak, aJ, aK, aS, aT, ay, ap, aU, aV, aX, aY, ae, ac, aj, ag, z1z, z2z, z3z, z4z, aH, af, aD, aB, aC, aA, aE, aG, z5z, z6z, ah, z7z, z8z, au, fa_158_6, fa_51_3, ld_142, ld_177, ld_38, bj, t3, t4, t9, t10, e3, r6, iaw, bG, O.jn, bC (n := (j : Int)) (by omega) (by omega), iau]
    exact ⟨by first | rfl | trivial, hc.trans c13⟩
set_option maxHeartbeats 2000000 in
theorem c_rValue (I : RfI w g (toRf m) F) (Wm : Wf m K) (hK : K ≤ 1000000) (h : HnV) (n : Int) : CallR Try.prog 106 [.pointer (some ⟨g, 0, none⟩), .agg (hnC h).toArray, .int .i64 n] w fun v w' => v = .tuple #[.int .u64 (valueV m h n).1, .bool (valueV m h n).2] ∧ Chg [] w w' := by
  apply F106_ok
  have b4 : hp (w.alloc (.cells (hnC h).toArray 51)) w.heap.size = some (.cells (hnC h).toArray 51) := by rw [bc, if_pos rfl]
  have c0 : Chg [] w (w.alloc (.cells (hnC h).toArray 51)) := (Chg.refl _ _).alloc _
  simp -implicitDefEqProofs only [F106, bE, bA]
  generalize w.alloc (.cells (hnC h).toArray 51) = w0 at *
  generalize w.heap.size = g4 at *
  obtain ⟨_, _, _, _, _, R⟩ := (I.keep c0).rd
  have sm := Wm.small hK
  have hlen : (toRf m).rgs.length ≤ 1000000 := by rw [rf_len]; exact sm.r
  simp -implicitDefEqProofs only [ld_hn b4, ad]
  refine (c_rKnown R hlen (fun p hp => by
        obtain ⟨y, hy, rfl⟩ := List.mem_map.1 hp
        exact sm.o y hy) h).mono ?_
  rintro _ w1 ⟨rfl, c1⟩
  have b41 := c1.at b4 (by simp)
  have c01 := c0.trans c1
  rw [known_rf Wm h]
  have e0 : (hnC h).toArray[0 + 0]? = some (.int .i64 h.1) := rfl
  have e1 : (hnC h).toArray[0 + 1]? = some (.int .i64 h.2.1) := rfl
  have e4 : (hnC h).toArray[0 + 4]? = some (.int .i64 h.2.2.2.2) := rfl
  cases hk : knownV m h 2 with
  | false =>
    simp -implicitDefEqProofs only [tup0, tup1, ad, ax, am, aM, aN, aQ, aR, av, ak, aJ, aK, aS, aT, ay, ap, aU, aV, aX, aY, ae, ac, aj, ag, z1z, z2z, z3z, z4z, aH, af, aD, aB, aC, aA, aE, aG, z5z, z6z, ah, z7z, z8z, au]
    rw [valueV, if_neg (fun h => by rw [hk] at h; cases h.1)]
    exact ⟨by first | rfl | trivial, c01⟩
  | true =>
  by_cases n0 : n < 0
  · simp -implicitDefEqProofs only [tup0, tup1, ad, ax, am, aM, aN, aQ, aR, av, ak, aJ, aK, aS, aT, ay, ap, aU, aV, aX, aY, ae, ac, aj, ag, z1z, z2z, z3z, z4z, aH, af, aD, aB, aC, aA, aE, aG, z5z, z6z, ah, z7z, z8z, au, n0]
    rw [valueV, if_neg (fun h => by omega)]
    exact ⟨by first | rfl | trivial, c01⟩
  by_cases n1 : h.2.2.2.2 ≤ n
  · simp -implicitDefEqProofs only [tup0, tup1, ad, ax, am, aM, aN, aQ, aR, av, ak, aJ, aK, aS, aT, ay, ap, aU, aV, aX, aY, ae, ac, aj, ag, z1z, z2z, z3z, z4z, aH, af, aD, aB, aC, aA, aE, aG, z5z, z6z, ah, z7z, z8z, au, n0, fa_51_4, bj, b41, e4, aA, ge_iff_le, n1]
    rw [valueV, if_neg (fun h => by omega)]
    exact ⟨by first | rfl | trivial, c01⟩
  rw [valueV, if_pos ⟨hk, by omega, by omega⟩]
  obtain ⟨i, rg, k, L, j, O⟩ := obj_at Wm hk (show 0 ≤ n by omega) (by omega)
  have hx : (toRf m).rgs[i]? = some (rg, isLv m rg.nm) := O.rf
  have hil := (List.getElem?_eq_some_iff.1 hx).1
  have cd : Chg [] w1 w1.drew := (Chg.refl _ _).drew
  have c0d := c01.trans cd
  have ca : Chg [] w1.drew (w1.drew.alloc (.cells (rgA (⟨(0, 0), 0, 0, [], [], []⟩, false) (.slice none 0 0) (.slice none 0 0) (.slice none 0 0)) 158)) := (Chg.refl _ _).alloc _
  have aa : hp (w1.drew.alloc (.cells (rgA (⟨(0, 0), 0, 0, [], [], []⟩, false) (.slice none 0 0) (.slice none 0 0) (.slice none 0 0)) 158)) w1.heap.size = some (.cells (rgA (⟨(0, 0), 0, 0, [], [], []⟩, false) (.slice none 0 0) (.slice none 0 0) (.slice none 0 0)) 158) := by rw [bc, if_pos (show w1.heap.size = w1.drew.heap.size from rfl)]
  have hgen : (w1.drew.alloc (.cells (rgA (⟨(0, 0), 0, 0, [], [], []⟩, false) (.slice none 0 0) (.slice none 0 0) (.slice none 0 0)) 158)) = (w1.drew.alloc (.cells #[.int .i64 0, .int .i64 0, .int .i64 0, .int .i64 0, .bool false, .slice none 0 0, .slice none 0 0, .slice none 0 0] 158)) := rfl
  have b41d : hp w1.drew g4 = _ := b41
  obtain ⟨_, _, _, _, _, R1⟩ := (I.keep c01).rd
  obtain ⟨Fr, hFr⟩ := R1.rT
  obtain ⟨b, c, rfl, cv, wv, ov, Q⟩ := rr_at hFr hx
  have ia := ia_rgs (b := b) (c := c) hil
  have h9 : ldC (hp w1 g) (0 + 9) = some (.slice (some ⟨b, 0, none⟩) (toRf m).rgs.length c) := R1.rl
  simp -implicitDefEqProofs only [tup0, tup1, ad, ax, am, aM, aN, aQ, aR, av, ak, aJ, aK, aS, aT, ay, ap, aU, aV, aX, aY, ae, ac, aj, ag, z1z, z2z, z3z, z4z, aH, af, aD, aB, aC, aA, aE, aG, z5z, z6z, ah, z7z, z8z, au, n0, fa_51_4, bX, fa_51_1, bj, b41, e4, e0, e1, aA, ge_iff_le, n1, bK, bN, h9, al_158]
  obtain ⟨w2, hw2⟩ : ∃ w2, w2 = w1.drew.alloc (.cells (rgA (⟨(0, 0), 0, 0, [], [], []⟩, false) (.slice none 0 0) (.slice none 0 0) (.slice none 0 0)) 158) := ⟨_, rfl⟩
  rw [← hw2] at ca aa hgen
  have c02 := c0d.trans ca
  obtain ⟨_, _, _, _, _, R2⟩ := (I.keep c02).rd
  obtain ⟨b', c', bw, cw, g2, c2, p1, p2, p3, p4, _⟩ := (I.keep c02).word O.rf O.wk O.val
  have h92 := bR (cd.trans ca) h9
  rw [h92] at p1; cases p1
  obtain ⟨Fr2, hFr2⟩ := R2.rT
  have hr2 := R2.rl
  rw [h92] at hr2; cases hr2
  obtain ⟨_, _, hx2, cv2, wv2, ov2, Q2⟩ := rr_at hFr2 hx
  cases hx2
  have q6 := Q2.c6
  rw [p2] at q6; cases q6
  obtain ⟨A, cc, rfl, hRc⟩ := ints_sh Q2.cT
  obtain ⟨Ao, co, rfl, _⟩ := objs_sh Q2.oT
  have aa' : hp w2 w1.drew.heap.size = _ := aa
  obtain ⟨_, _, _, _, _, R1d⟩ := (I.keep c0d).rd
  obtain ⟨Fr1, hFr1⟩ := R1d.rT
  have hr1 := R1d.rl
  rw [show ldC (hp w1.drew g) (0 + 9) = _ from h9] at hr1; cases hr1
  obtain ⟨_, _, hx1, cv1, wv1, ov1, Q1⟩ := rr_at hFr1 hx
  cases hx1
  have same : cv1 = .slice A rg.chunks.length cc ∧ wv1 = .slice (some ⟨bw, 0, none⟩) rg.words.length cw ∧ ov1 = .slice Ao rg.objs.length co := by
    have k5 := bR ca Q1.c5
    have k6 := bR ca Q1.c6
    have k7 := bR ca Q1.c7
    rw [Q2.c5] at k5
    rw [p2] at k6
    rw [Q2.c7] at k7
    exact ⟨(Option.some.inj k5).symm, (Option.some.inj k6).symm, (Option.some.inj k7).symm⟩
  obtain ⟨rfl, rfl, rfl⟩ := same
  have fin : P106_0 (.int .i64 n) (.pointer (some ⟨g4, 0, none⟩)) (.pointer (some ⟨w1.heap.size, 0, none⟩)) (put w2 w1.heap.size (rgA (rg, isLv m rg.nm) (.slice A rg.chunks.length cc) (.slice (some ⟨bw, 0, none⟩) rg.words.length cw) (.slice Ao rg.objs.length co)) 158) fun v w' => v = .tuple #[.int .u64 (wordV m h n), .bool true] ∧ Chg [] w w' := by
    have cp : Chg [] w1 (put w2 w1.heap.size (rgA (rg, isLv m rg.nm) (.slice A rg.chunks.length cc) (.slice (some ⟨bw, 0, none⟩) rg.words.length cw) (.slice Ao rg.objs.length co)) 158) := (cd.trans ca).put (.inr (Nat.le_refl _)) _ _
    have cp' := c01.trans cp
    obtain ⟨b', c', bw', cw', g2', c2', z1, z2, z3, z4, _⟩ := (I.keep cp').word O.rf O.wk O.val
    rw [bR cp h9] at z1; cases z1
    obtain ⟨_, _, _, _, _, R3⟩ := (I.keep cp').rd
    obtain ⟨Fr3, hFr3⟩ := R3.rT
    have hr3 := R3.rl
    rw [bR cp h9] at hr3; cases hr3
    obtain ⟨_, _, hx3, cv3, wv3, ov3, Q3⟩ := rr_at hFr3 hx
    cases hx3
    obtain ⟨A3, cc3, rfl, hRc3⟩ := ints_sh Q3.cT
    have hb : ∃ v5, ldC (hp w1 b) (i * 8 + 5) = some v5 := ⟨_, Q.c5⟩
    have k5 := bR (cd.trans ca) Q.c5
    have k5' := bR cp Q.c5
    have a5 := Q2.c5
    have a5' := Q3.c5
    rw [k5] at a5
    rw [k5'] at a5'
    rw [Option.some.inj a5] at a5'
    cases a5'
    have k6 := bR (cd.trans ca) Q.c6
    have k6' := bR cp Q.c6
    rw [k6] at p2
    rw [k6'] at z2
    rw [Option.some.inj p2] at z2
    cases z2
    exact l_rValue0 I cp' Wm hK O (cp.at b41 (by simp)) (bv (bz aa) _ _) hRc3 z3 z4
  have st : ∀ L, effu Try.prog (Instr.storeAt 158 (.pointer (some ⟨w1.drew.heap.size, 0, none⟩)) (.agg (rgA (rg, isLv m rg.nm) (.slice A rg.chunks.length cc) (.slice (some ⟨bw, 0, none⟩) rg.words.length cw) (.slice Ao rg.objs.length co)))) w2 L = L (put w2 w1.heap.size (rgA (rg, isLv m rg.nm) (.slice A rg.chunks.length cc) (.slice (some ⟨bw, 0, none⟩) rg.words.length cw) (.slice Ao rg.objs.length co)) 158) := fun L => by
    rw [st_158 rfl rfl (by rw [aa']; rfl) (by rw [aa']; rfl), aa', bM]; rfl
  have ff : findX (toRf m).rgs (nmOf h) = some i := by rw [findX_rf]; exact O.fi
  have e1' := c_rFind R2 (nmOf h) hlen
  have e2' := c_rFind R1d (nmOf h) hlen
  rw [ff] at e1' e2'
  have h9d : ldC (hp w1.drew g) (0 + 9) = _ := h9
  repeat' (with_reducible apply And.intro)
  all_goals first
    | (rw [← hgen]
       refine e1'.step ?_
       simp -implicitDefEqProofs only [ixR, ad, ax, am, aM, aN, aQ, aR, av, ak, aJ, aK, aS, aT, ay, ap, aU, aV, aX, aY, ae, ac, aj, ag, z1z, z2z, z3z, z4z, aH, af, aD, aB, aC, aA, aE, aG, z5z, z6z, ah, z7z, z8z, au, bN, h92, ia, ld_rg Q2]
       rw [st]
       exact fin)
    | (refine e2'.step ?_
       simp -implicitDefEqProofs only [ixR, ad, ax, am, aM, aN, aQ, aR, av, ak, aJ, aK, aS, aT, ay, ap, aU, aV, aX, aY, ae, ac, aj, ag, z1z, z2z, z3z, z4z, aH, af, aD, aB, aC, aA, aE, aG, z5z, z6z, ah, z7z, z8z, au, bN, h9, h9d, ia, ld_rg Q1, ← hgen]
       rw [st]
       exact fin)
end
end Go.Proofs.Ytgamnncehjcdiaa

namespace Go.Proofs.Ytgamnncehjcdiaa
open Go Ev Go.RowKit

theorem t2_1 {a b : Value} : (#[a, b] : Array Value)[0 + 1]? = some b := (rfl)
theorem t2_0 {a b : Value} : (#[a, b] : Array Value)[0 + 0]? = some a := (rfl)
theorem val_at {w : World} {A : Option Addr} {vs : List Value} {n c i : Nat} {x : Value} {j : IntKind} (h : RdV w A vs) (hn : vs.length = n) (hx : vs[i]? = some x) :
    ∃ b o, pureRun Try.prog (Instr.indexAt 22 (.slice A n c) (.int j i)) = some (.pointer (some ⟨b, o, none⟩)) ∧ ldC (hp w b) o = some x := by
  have hi := (List.getElem?_eq_some_iff.1 hx).1
  obtain ⟨b, o, h1, h2, _⟩ := h.elem1 (P := Try.prog) (c := c) (n := n) (i := (i : Int)) (j := j) Try.underlying22 sz_27 (by omega) (by omega) (by omega)
  rw [Int.toNat_natCast, hx] at h2
  exact ⟨b, o, h1, h2⟩
theorem op_at {w : World} {A : Option Addr} {ops : List OpV} {c i : Nat} {j : IntKind} (h : RdV w A (ops.flatMap opC)) (hi : i < ops.length) :
    ∃ b o, pureRun Try.prog (Instr.indexAt 27 (.slice A ops.length c) (.int j i)) = some (.pointer (some ⟨b, o, none⟩)) ∧ ldv Try.prog 40 (.pointer (some ⟨b, o, none⟩)) w = some (.agg (opC ops[i]).toArray) := by
  obtain ⟨b, o, h1, h2, h3, _⟩ := h.elem (P := Try.prog) (c := c) (n := ops.length) (i := (i : Int)) (j := j) Try.underlying27 sz_40 (by omega) (by rw [flat_len opC_len]; exact Nat.le_refl _) (by omega) (by omega)
  rw [Int.toNat_natCast, flat_at opC_len ops i hi] at h3
  exact ⟨b, o, h1, by rw [ld_40, h3]; rfl⟩
theorem blk_add (p : Addr) (i : Nat) : (p.add i).block = p.block := by unfold Addr.add; split <;> rfl
theorem RdI.chg {k : IntKind} {w w' : World} {S : List Nat} {A : Option Addr} {xs : List Int} (h : RdI k w A xs) (hc : Chg S w w') (hn : ∀ p, A = some p → p.block ∉ S) : RdI k w' A xs := fun i hi => by
  obtain ⟨p, hp, h1⟩ := h i hi
  exact ⟨p, hp, hc.cell h1 (by rw [blk_add]; exact hn p hp)⟩
set_option maxHeartbeats 1000000 in
theorem c_SeqN {w : World} {g : Nat} {A : Option Addr} {c : Nat} {xs : List Int} {at' : Nat} (hb : hp w g = some (.cells #[.slice A xs.length c, .int .i64 at'] 100)) (hA : RdI .i64 w A xs) (hne : ∀ p, A = some p → p.block ≠ g) (hat : at' ≤ 1000000000) {m : Int} (h0 : 0 < m) (h1 : m ≤ 1000000) :
    CallR Try.prog 50 [.pointer (some ⟨g, 0, none⟩), .int .i64 m] w fun v w' => (∃ r : Nat, v = .int .i64 r ∧ (r : Int) < m) ∧ hp w' g = some (.cells #[.slice A xs.length c, .int .i64 ((at' + 1 : Nat) : Int)] 100) ∧ Chg [g] w w' := by
  apply F50_ok
  have fin : ∀ (w0 : World), Chg [] w w0 → ∀ x : Int, P50_0 (.pointer (some ⟨g, 0, none⟩)) (.int .i64 m) (.int .i64 x) w0 fun v w' => (∃ r : Nat, v = .int .i64 r ∧ (r : Int) < m) ∧ hp w' g = some (.cells #[.slice A xs.length c, .int .i64 ((at' + 1 : Nat) : Int)] 100) ∧ Chg [g] w w' := by
    intro w0 hc0 x
    apply L50_0_ok
    have hb0 := hc0.at hb (by simp)
    have ok : okC (hp w0 g) (0 + 1 + 1) = true := by rw [hb0]; rfl
    have e1 : (#[Value.slice A xs.length c, .int .i64 at'].setIfInBounds (0 + 1) (.int .i64 ((at' : Int) + 1))) = #[.slice A xs.length c, .int .i64 ((at' + 1 : Nat) : Int)] := by rw [Int.natCast_add at' 1]; rfl
    simp -implicitDefEqProofs only [L50_0, ad, ax, am, aM, aN, aQ, aR, av, ak, aJ, aK, aS, aT, ay, ap, aU, aV, aX, aY, ae, ac, aj, ag, z1z, z2z, z3z, z4z, aH, af, aD, aB, aC, aA, aE, aG, z5z, z6z, ah, z7z, z8z, au, fa_100_1, bj, hb0, t2_1, bG, bC (n := (at' : Int) + 1) (by omega) (by omega), st_3 (w := w0) (b := g) (o := 0 + 1) (v := .int .i64 ((at' : Int) + 1)) rfl rfl ok, getC_some, bM, e1]
    refine (c_Number x m _ h0 (by omega)).step ?_
    have hp1 : Chg [g] w0 (put w0 g #[.slice A xs.length c, .int .i64 ((at' + 1 : Nat) : Int)] 100) := (Chg.refl _ _).put (.inl (by simp)) _ _
    have hr := Int.emod_nonneg x (b := m) (by omega)
    have hr2 := Int.emod_lt_of_pos x h0
    refine ⟨⟨(x % m).toNat, by rw [Int.toNat_of_nonneg hr], by omega⟩, bv (bz hb0) _ _, (hc0.mono (by simp)).trans hp1⟩
  have hd : Chg [] w w.drew := (Chg.refl _ _).drew
  by_cases hlt : (at' : Int) < xs.length
  · obtain ⟨q, q1, q2⟩ := (hA.drew.drew).at (P := Try.prog) (c := c) (j := .i64) Try.underlying23 Try.underlying3 sz_3 (i := (at' : Int)) (by omega) hlt
    simp -implicitDefEqProofs only [F50, ad, ax, am, aM, aN, aQ, aR, av, ak, aJ, aK, aS, aT, ay, ap, aU, aV, aX, aY, ae, ac, aj, ag, z1z, z2z, z3z, z4z, aH, af, aD, aB, aC, aA, aE, aG, z5z, z6z, ah, z7z, z8z, au, fa_100_0, fa_100_1, bj, ce, hb, t2_0, t2_1, len_23, hlt, q1, q2]
    exact fin _ hd.drew _
  · simp -implicitDefEqProofs only [F50, ad, ax, am, aM, aN, aQ, aR, av, ak, aJ, aK, aS, aT, ay, ap, aU, aV, aX, aY, ae, ac, aj, ag, z1z, z2z, z3z, z4z, aH, af, aD, aB, aC, aA, aE, aG, z5z, z6z, ah, z7z, z8z, au, fa_100_0, fa_100_1, bj, ce, hb, t2_0, t2_1, len_23, hlt]
    exact fin _ hd _
def kindsL : List Int := [1, 1, 2, 2, 2, 3, 3, 5, 5, 5, 6, 7, 7, 8, 9, 6, 4, 10, 10, 11, 11, 12, 0]
theorem c_kinds (w : World) : CallR Try.prog 118 [] w fun v w' => v = .slice (some ⟨w.heap.size, 0, none⟩) 23 23 ∧ hp w' w.heap.size = some (.cells (ints kindsL).toArray 3) ∧ Chg [] w w' := by
  apply F118_ok
  simp -implicitDefEqProofs only [F118, bs_23_23]
  exact ⟨trivial, by rw [bc, if_pos rfl]; rfl, (Chg.refl _ _).alloc _⟩
theorem kinds_at : ∀ r : Nat, r < 23 → kindsL.getD r 0 = 0 ∨ kindsL.getD r 0 = 1 ∨ kindsL.getD r 0 = 2 ∨ kindsL.getD r 0 = 3 ∨ kindsL.getD r 0 = 4 ∨ kindsL.getD r 0 = 5 ∨ kindsL.getD r 0 = 6 ∨ kindsL.getD r 0 = 7 ∨ kindsL.getD r 0 = 8 ∨ kindsL.getD r 0 = 9 ∨ kindsL.getD r 0 = 10 ∨ kindsL.getD r 0 = 11 ∨ kindsL.getD r 0 = 12 := by decide
theorem lit_at {w : World} {g n : Nat} {xs : List Int} (h : hp w g = some (.cells (ints xs).toArray 3)) (hn : n = xs.length) {r : Nat} (hr : r < n) :
    pureRun Try.prog (Instr.indexAt 23 (.slice (some ⟨g, 0, none⟩) n n) (.int .i64 r)) = some (.pointer (some ⟨g, 0 + r * 1, none⟩)) ∧ ldC (hp w g) (0 + r * 1) = some (.int .i64 (xs.getD r 0)) := by
  subst hn
  have := ia_23 (b := g) (p := 0) (c := xs.length) (j := .i64) (i := (r : Int)) (n := xs.length) (by omega) (by omega)
  rw [Int.toNat_natCast] at this
  exact ⟨this, ints_ld h hr⟩
def IsL (w : World) (g : Nat) (v : Value) (L : List (List OpV)) : Prop :=
  ∃ A c vs, v = .slice A L.length c ∧ RdV w A vs ∧ vs.length = L.length ∧ (∀ (j : Nat) (x : Value) (ops : List OpV), vs[j]? = some x → L[j]? = some ops → ∃ A' c', x = .slice A' ops.length c' ∧ RdV w A' (ops.flatMap opC) ∧ ∀ p, A' = some p → p.block ≠ g) ∧ ∀ p, A = some p → p.block ≠ g
theorem IsL.keep {w w' : World} {g : Nat} {v : Value} {L : List (List OpV)} (h : IsL w g v L) (hc : Chg [g] w w') : IsL w' g v L := by
  obtain ⟨A, c, vs, rfl, h2, h3, h4, h5⟩ := h
  refine ⟨A, c, vs, rfl, h2.chg hc fun p hp _ => by simpa using h5 p hp, h3, fun j x ops hx ho => ?_, h5⟩
  obtain ⟨A', c', e, h6, h7⟩ := h4 j x ops hx ho
  exact ⟨A', c', e, h6.chg hc fun p hp _ => by simpa using h7 p hp, h7⟩
theorem IsL.list {w : World} {g : Nat} {A : Option Addr} {c : Nat} {L : List (List OpV)} {vs : List Value} (h3 : vs.length = L.length) (h4 : ∀ (j : Nat) (x : Value) (ops : List OpV), vs[j]? = some x → L[j]? = some ops → ∃ A' c', x = .slice A' ops.length c' ∧ RdV w A' (ops.flatMap opC) ∧ ∀ p, A' = some p → p.block ≠ g) {i : Nat} (hi : i < L.length) :
    ∃ A' c', vs[i]? = some (.slice A' (L[i]).length c') ∧ RdV w A' ((L[i]).flatMap opC) := by
  obtain ⟨x, hx⟩ : ∃ x, vs[i]? = some x := ⟨_, List.getElem?_eq_getElem (by omega)⟩
  obtain ⟨A', c', e, hO, _⟩ := h4 i x L[i] hx (List.getElem?_eq_getElem hi)
  exact ⟨A', c', by rw [hx, e], hO⟩
def NameO (o : OpV) : Prop := 0 ≤ o.2.1 ∧ o.2.1 ≤ 63 ∧ 0 ≤ o.2.2.1 ∧ o.2.2.1 ≤ 999
def tot : List (List OpV) → Nat
  | [] => 0
  | l :: L => l.length + tot L
theorem tot_take_succ {L : List (List OpV)} {i : Nat} (h : i < L.length) : tot (L.take (i + 1)) = tot (L.take i) + (L[i]).length := by
  induction L generalizing i with
  | nil => simp at h
  | cons x xs ih =>
    cases i with
    | zero => simp [tot]
    | succ i =>
      have := ih (i := i) (by simpa using h)
      simp [tot, this]; omega
theorem tot_take_le (L : List (List OpV)) (i : Nat) : tot (L.take i) ≤ tot L := by
  induction L generalizing i with
  | nil => simp [tot]
  | cons x xs ih =>
    cases i with
    | zero => simp [tot]
    | succ i => have := ih i; simp [tot]; omega
structure AtI (W w : World) (x : Value) (R : List OpV) : Prop where
  own : w.ownsRow W.heap.size 40 6 x R.length (R.flatMap opC)
  ok : ∀ o ∈ R, NameO o
  ch : Chg [] W w
set_option maxHeartbeats 1000000 in
theorem l_at1 {W : World} {A : Option Addr} {c : Nat} {vs : List Value} {L : List (List OpV)} (hL : L.length ≤ 64) (hll : ∀ l ∈ L, l.length ≤ 1000) (hT : tot L ≤ 100000) (h2 : RdV W A vs) (h3 : vs.length = L.length) {i : Nat} (hi : i < L.length) {A' : Option Addr} {c' : Nat} (hx : vs[i]? = some (.slice A' (L[i]).length c')) (hA' : RdV W A' ((L[i]).flatMap opC)) {kd : Int} {Q : Value → World → Prop}
    (next : ∀ w x R, AtI W w x R → R.length ≤ tot (L.take (i + 1)) → P119_0 (.slice A L.length c) (.int .i64 kd) x (.int .i64 ((i : Int) + 1)) w Q) :
    ∀ (d j : Nat) (w : World) (x : Value) (R : List OpV), AtI W w x R → R.length ≤ tot (L.take i) + j → j + d = (L[i]).length →
      P119_1 (.slice A L.length c) (.int .i64 kd) x (.int .i64 i) (.int .i64 j) w Q := by
  have hmem : L[i] ∈ L := List.getElem_mem hi
  have hl := hll _ hmem
  have ht := tot_take_le L (i + 1)
  rw [tot_take_succ hi] at ht
  intro d
  induction d with
  | zero =>
    intro j w x R h hR hj
    apply L119_1_ok
    obtain ⟨b, o, q1, q2⟩ := val_at (c := c) (j := .i64) (h2.keep h.ch.below) h3 hx
    have : ¬ (j : Int) < (L[i]).length := by omega
    simp -implicitDefEqProofs only [L119_1, ad, ax, am, aM, aN, aQ, aR, av, ak, aJ, aK, aS, aT, ay, ap, aU, aV, aX, aY, ae, ac, aj, ag, z1z, z2z, z3z, z4z, aH, af, aD, aB, aC, aA, aE, aG, z5z, z6z, ah, z7z, z8z, au, q1, ld_27, q2, len_27, this, bG, bC (n := (i : Int) + 1) (by omega) (by omega)]
    exact next w x R h (by rw [tot_take_succ hi]; omega)
  | succ d ih =>
    intro j w x R h hR hj
    apply L119_1_ok
    obtain ⟨b, o, q1, q2⟩ := val_at (c := c) (j := .i64) (h2.keep h.ch.below) h3 hx
    have hlt : (j : Int) < (L[i]).length := by omega
    have hjl : j < (L[i]).length := by omega
    obtain ⟨b2, o2, r1, r2, r3, _⟩ := (hA'.keep h.ch.below).elem (P := Try.prog) (c := c') (n := (L[i]).length) (i := (j : Int)) (j := .i64) Try.underlying27 sz_40 (by omega) (by rw [flat_len opC_len]; exact Nat.le_refl _) (by omega) hlt
    have r0 := r2 0 (by omega)
    rw [Int.toNat_natCast, flat_get opC_len (L[i]) j hjl 0 (by omega)] at r0
    have r0 : ldC (hp w b2) (o2 + 0) = some (.int .i64 (L[i])[j].1) := r0
    have two : ∀ w' x' R', AtI W w' x' R' → R'.length ≤ R.length + 1 → P119_2 (.slice A L.length c) (.int .i64 kd) x' (.int .i64 i) (.int .i64 j) w' Q := fun w' x' R' h' hR' => by
      apply L119_2_ok
      simp -implicitDefEqProofs only [L119_2, ad, ax, am, aM, aN, aQ, aR, av, ak, aJ, aK, aS, aT, ay, ap, aU, aV, aX, aY, ae, ac, aj, ag, z1z, z2z, z3z, z4z, aH, af, aD, aB, aC, aA, aE, aG, z5z, z6z, ah, z7z, z8z, au, bG, bC (n := (j : Int) + 1) (by omega) (by omega)]
      have := ih (j + 1) w' x' R' h' (by omega) (by omega)
      rw [Int.natCast_add j 1] at this
      exact this
    by_cases hk : (L[i])[j].1 = kd
    · have hk' : ((L[i])[j].1 == kd) = true := by rw [hk]; simp
      have hbd : pureRun Try.prog (Instr.build 40 #[(1, .int .i64 i), (2, .int .i64 j)]) = some (.agg (opC (0, (i : Int), (j : Int), 0, 0, 0)).toArray) := bd_40_1_2
      simp -implicitDefEqProofs only [L119_1, ad, ax, am, aM, aN, aQ, aR, av, ak, aJ, aK, aS, aT, ay, ap, aU, aV, aX, aY, ae, ac, aj, ag, z1z, z2z, z3z, z4z, aH, af, aD, aB, aC, aA, aE, aG, z5z, z6z, ah, z7z, z8z, au, q1, ld_27, q2, len_27, hlt, r1, bq, bj, r0, hk', hbd]
      refine ps_27 (fun u hu => List.all_eq_true.1 (show (opC (0, (i : Int), (j : Int), 0, 0, 0)).all (·.oneCell') = true from rfl) u hu) h.own (by omega) h.ch.size fun x' w' ho hg hnb => ?_
      refine two w' x' (R ++ [(0, (i : Int), (j : Int), 0, 0, 0)]) ⟨by rw [List.length_append, flat_snoc]; exact ho, fun o ho => ?_, h.ch.grown hg fun k hk => .inr (h.own.lt k hk).1⟩ (by simp)
      rcases List.mem_append.1 ho with h1 | h1
      · exact h.ok o h1
      · simp at h1; subst h1
        exact ⟨by simp only; omega, by simp only; omega, by simp only; omega, by simp only; omega⟩
    · simp -implicitDefEqProofs only [L119_1, ad, ax, am, aM, aN, aQ, aR, av, ak, aJ, aK, aS, aT, ay, ap, aU, aV, aX, aY, ae, ac, aj, ag, z1z, z2z, z3z, z4z, aH, af, aD, aB, aC, aA, aE, aG, z5z, z6z, ah, z7z, z8z, au, q1, ld_27, q2, len_27, hlt, r1, bq, bj, r0, eqf hk]
      exact two w x R h (by omega)
theorem c_at {w : World} {g : Nat} {v : Value} {L : List (List OpV)} (h : IsL w g v L) (hL : L.length ≤ 64) (hll : ∀ l ∈ L, l.length ≤ 1000) (hT : tot L ≤ 100000) (kd : Int) :
    CallR Try.prog 119 [v, .int .i64 kd] w fun r w' => ∃ R, AtI w w' r R ∧ R.length ≤ 100000 := by
  obtain ⟨A, c, vs, rfl, h2, h3, h4, h5⟩ := h
  apply F119_ok
  simp -implicitDefEqProofs only [F119]
  have main : ∀ (d i : Nat) (w1 : World) (x : Value) (R : List OpV), AtI w w1 x R → R.length ≤ tot (L.take i) → i + d = L.length →
      P119_0 (.slice A L.length c) (.int .i64 kd) x (.int .i64 i) w1 fun r w' => ∃ R, AtI w w' r R ∧ R.length ≤ 100000 := by
    intro d
    induction d with
    | zero =>
      intro i w1 x R h1 hR hi
      apply L119_0_ok
      have : ¬ (i : Int) < L.length := by omega
      simp -implicitDefEqProofs only [L119_0, ad, ax, am, aM, aN, aQ, aR, av, ak, aJ, aK, aS, aT, ay, ap, aU, aV, aX, aY, ae, ac, aj, ag, z1z, z2z, z3z, z4z, aH, af, aD, aB, aC, aA, aE, aG, z5z, z6z, ah, z7z, z8z, au, len_22, this]
      exact ⟨R, h1, by have := tot_take_le L i; omega⟩
    | succ d ih =>
      intro i w1 x R h1 hR hi
      apply L119_0_ok
      have hlt : (i : Int) < L.length := by omega
      have hil : i < L.length := by omega
      obtain ⟨A', c', hx, hO⟩ := IsL.list (A := A) (c := c) h3 h4 hil
      simp -implicitDefEqProofs only [L119_0, ad, ax, am, aM, aN, aQ, aR, av, ak, aJ, aK, aS, aT, ay, ap, aU, aV, aX, aY, ae, ac, aj, ag, z1z, z2z, z3z, z4z, aH, af, aD, aB, aC, aA, aE, aG, z5z, z6z, ah, z7z, z8z, au, len_22, hlt]
      refine l_at1 (c := c) hL hll hT h2 h3 hil hx hO (fun w2 x2 R2 h2' hR2 => ?_) (L[i]).length 0 w1 x R h1 (by omega) (by omega)
      have := ih (i + 1) w2 x2 R2 h2' hR2 (by omega)
      rw [Int.natCast_add i 1] at this
      exact this
  exact main L.length 0 w _ [] ⟨World.ownsRow_nil _ _ _ _, fun o ho => by simp at ho, Chg.refl _ _⟩ (by simp) (by omega)
end Go.Proofs.Ytgamnncehjcdiaa

namespace Go.Proofs.Ytgamnncehjcdiaa
open Go Ev Go.RowKit

def oZero : OpV := (0, 0, 0, 0, 0, 0)
def WfO' (o : OpV) : Prop := (0 ≤ o.2.2.2.2.1 ∧ o.2.2.2.2.1 < 18446744073709551616) ∧ (0 ≤ o.2.2.2.2.2 ∧ o.2.2.2.2.2 < 18446744073709551616)
def GenO (o : OpV) : Prop := (o = oZero ∨ mayO o = true) ∧ WfO' o
theorem mayO_of {k f a n v w : Int} (h1 : 1 ≤ k) (h2 : k ≤ 12) (hf : 0 ≤ f ∧ f ≤ frM k) (ha : 0 ≤ a ∧ a ≤ atM k) (hn : 0 ≤ n ∧ n ≤ nM k) (hv : vB k = true ∨ v = 0) (hw : wB k = true ∨ w = 0) : mayO (k, f, a, n, v, w) = true :=
  decide_eq_true ⟨⟨h1, h2⟩, hf, ha, hn, hv, hw⟩
def Half (o : OpV) : Prop := (1 ≤ o.1 ∧ o.1 ≤ 12) ∧ frM o.1 = 63 ∧ atM o.1 = 999 ∧ (0 ≤ o.2.2.2.1 ∧ o.2.2.2.1 ≤ nM o.1) ∧ (vB o.1 = true ∨ o.2.2.2.2.1 = 0) ∧ (wB o.1 = true ∨ o.2.2.2.2.2 = 0) ∧ WfO' o
structure Env (W : World) (q : Nat) (A : Option Addr) (xs : List Int) (x1 : Value) (L : List (List OpV)) : Prop where
  hA : RdI .i64 W A xs
  hne : ∀ p, A = some p → p.block ≠ q
  il : IsL W q x1 L
  qW : q < W.heap.size
  hL : L.length ≤ 64
  hll : ∀ l ∈ L, l.length ≤ 1000
  hT : tot L ≤ 100000
structure Gen (W w : World) (q g4 g6 : Nat) (A : Option Addr) (c : Nat) (xs : List Int) (a0 at' : Nat) (o : OpV) : Prop where
  sq : hp w q = some (.cells #[.slice A xs.length c, .int .i64 at'] 100)
  h4 : hp w g4 = some (.cells (opC oZero).toArray 40)
  h6 : hp w g6 = some (.cells (opC o).toArray 40)
  ne : g4 ≠ g6
  g4W : W.heap.size ≤ g4
  g6W : W.heap.size ≤ g6
  ch : Chg [q] W w
  at1 : a0 ≤ at'
  at2 : at' ≤ 900000000
def GenP (W : World) (q : Nat) (A : Option Addr) (c : Nat) (xs : List Int) (a0 m : Nat) (v : Value) (w' : World) : Prop := ∃ o at', v = .agg (opC o).toArray ∧ GenO o ∧ hp w' q = some (.cells #[.slice A xs.length c, .int .i64 ((at' : Nat) : Int)] 100) ∧ a0 ≤ at' ∧ at' ≤ a0 + m ∧ Chg [q] W w'
section
variable {W w : World} {q g4 g6 : Nat} {A : Option Addr} {c : Nat} {xs : List Int} {a0 at' : Nat} {o : OpV} {x1 : Value} {L : List (List OpV)}
theorem Gen.next (E : Env W q A xs x1 L) (h : Gen W w q g4 g6 A c xs a0 at' o) (hat : at' + 1 ≤ 900000000) {m : Int} (h0 : 0 < m) (h1 : m ≤ 1000000) {K : Value → World → Prop} (hk : ∀ (r : Nat) w', (r : Int) < m → Gen W w' q g4 g6 A c xs a0 (at' + 1) o → Chg [q] w w' → K (.int .i64 r) w') :
    CallR Try.prog 50 [.pointer (some ⟨q, 0, none⟩), .int .i64 m] w K := by
  refine (c_SeqN h.sq (RdI.chg E.hA h.ch fun p hp => by simpa using E.hne p hp) E.hne (by have := h.at2; omega) h0 h1).mono ?_
  rintro v w' ⟨⟨r, rfl, hr⟩, hs, hc⟩
  have n4 : g4 ≠ q := by have := h.g4W; have := E.qW; omega
  have n6 : g6 ≠ q := by have := h.g6W; have := E.qW; omega
  exact hk r w' hr ⟨hs, hc.at h.h4 (by simpa using n4), hc.at h.h6 (by simpa using n6), h.ne, h.g4W, h.g6W, h.ch.trans hc, by have := h.at1; omega, hat⟩ hc
theorem Gen.grow (h : Gen W w q g4 g6 A c xs a0 at' o) {w' : World} (hc : Chg [] w w') : Gen W w' q g4 g6 A c xs a0 at' o :=
  ⟨hc.at h.sq (by simp), hc.at h.h4 (by simp), hc.at h.h6 (by simp), h.ne, h.g4W, h.g6W, h.ch.trans (hc.mono (by simp)), h.at1, h.at2⟩
theorem Gen.set (E : Env W q A xs x1 L) (h : Gen W w q g4 g6 A c xs a0 at' o) (o' : OpV) : Gen W (put w g6 (opC o').toArray 40) q g4 g6 A c xs a0 at' o' :=
  ⟨by rw [bS (by have := h.g6W; have := E.qW; omega)]; exact h.sq, by rw [bS h.ne]; exact h.h4, bv (bz h.h6) _ _, h.ne, h.g4W, h.g6W, h.ch.put (.inr h.g6W) _ _, h.at1, h.at2⟩
theorem Gen.ans (E : Env W q A xs x1 L) (h : Gen W w q g4 g6 A c xs a0 at' o) (ho : GenO o) {m : Nat} (hm : at' ≤ a0 + m) : wpB (ldv Try.prog 40 (.pointer (some ⟨g6, 0, none⟩)) w) fun t21 =>
    effu Try.prog (Instr.storeAt 40 (.pointer (some ⟨g4, 0, none⟩)) t21) w fun w =>
    wpB (ldv Try.prog 40 (.pointer (some ⟨g4, 0, none⟩)) w) fun r4 => GenP W q A c xs a0 m r4 w := by
  have hld := bJ ag_40 (show (Try.prog.info? 40).map (·.size) = some (opC o).toArray.size from sz_40) h.h6
  rw [hld, ad, st_40 (by rfl) (by rfl) (by rw [h.h4]; rfl) (by rw [h.h4]; rfl), h.h4, bM]
  have h4 : hp (put w g4 (opC o).toArray 40) g4 = some (.cells (opC o).toArray 40) := bv (bz h.h4) _ _
  rw [bJ ag_40 (show (Try.prog.info? 40).map (·.size) = some (opC o).toArray.size from sz_40) h4, ad]
  exact ⟨o, at', rfl, ho, by rw [bS (by have := h.g4W; have := E.qW; omega)]; exact h.sq, h.at1, hm, h.ch.put (.inr h.g4W) _ _⟩
theorem Gen.five (E : Env W q A xs x1 L) (h : Gen W w q g4 g6 A c xs a0 at' o) (ho : GenO o) {m : Nat} (hm : at' ≤ a0 + m) : P90_5 (.pointer (some ⟨g4, 0, none⟩)) (.pointer (some ⟨g6, 0, none⟩)) w (GenP W q A c xs a0 m) := by
  apply L90_5_ok
  exact h.ans E ho hm
theorem Gen.st (h : Gen W w q g4 g6 A c xs a0 at' o) {i : Nat} (hi : i < 3) (x : Int) {K : World → Prop} :
    effu Try.prog (Instr.storeAt 3 (.pointer (some ⟨g6, 0 + (i + 1), none⟩)) (.int .i64 x)) w K = K (put w g6 ((opC o).toArray.setIfInBounds (0 + (i + 1)) (.int .i64 x)) 40) := by
  rw [st_3 (w := w) (b := g6) (o := 0 + (i + 1)) (v := .int .i64 x) rfl rfl (by rw [h.h6]; rcases i with _ | _ | _ | i <;> first | rfl | omega), h.h6, bM, getC_some]
theorem Gen.stu (h : Gen W w q g4 g6 A c xs a0 at' o) {i : Nat} (hi : i < 2) (x : Int) {K : World → Prop} :
    effu Try.prog (Instr.storeAt 38 (.pointer (some ⟨g6, 0 + (i + 4), none⟩)) (.int .u64 x)) w K = K (put w g6 ((opC o).toArray.setIfInBounds (0 + (i + 4)) (.int .u64 x)) 40) := by
  rw [st_38 (w := w) (b := g6) (o := 0 + (i + 4)) (v := .int .u64 x) rfl rfl (by rw [h.h6]; rcases i with _ | _ | i <;> first | rfl | omega), h.h6, bM, getC_some]
theorem set_1 (k f a n v u x : Int) : ((opC (k, f, a, n, v, u)).toArray.setIfInBounds (0 + 1) (.int .i64 x)) = (opC (k, x, a, n, v, u)).toArray := rfl
theorem set_2 (k f a n v u x : Int) : ((opC (k, f, a, n, v, u)).toArray.setIfInBounds (0 + 2) (.int .i64 x)) = (opC (k, f, x, n, v, u)).toArray := rfl
theorem set_3 (k f a n v u x : Int) : ((opC (k, f, a, n, v, u)).toArray.setIfInBounds (0 + 3) (.int .i64 x)) = (opC (k, f, a, x, v, u)).toArray := rfl
theorem set_4 (k f a n v u x : Int) : ((opC (k, f, a, n, v, u)).toArray.setIfInBounds (0 + 4) (.int .u64 x)) = (opC (k, f, a, n, x, u)).toArray := rfl
theorem set_5 (k f a n v u x : Int) : ((opC (k, f, a, n, v, u)).toArray.setIfInBounds (0 + 5) (.int .u64 x)) = (opC (k, f, a, n, v, x)).toArray := rfl
theorem half_done {k f a n v u : Int} (h : Half (k, f, a, n, v, u)) {f' a' : Int} (hf : 0 ≤ f' ∧ f' ≤ 63) (ha : 0 ≤ a' ∧ a' ≤ 999) : GenO (k, f', a', n, v, u) := by
  obtain ⟨h1, h2, h3, h4, h5, h6, h7⟩ := h
  simp only at h1 h2 h3 h4 h5 h6 h7
  exact ⟨.inr (mayO_of h1.1 h1.2 (by rw [h2]; exact hf) (by rw [h3]; exact ha) h4 h5 h6), h7⟩
set_option maxHeartbeats 4000000 in
theorem Gen.four (E : Env W q A xs x1 L) (h : Gen W w q g4 g6 A c xs a0 at' o) (ho : Half o) (hat : at' + 4 ≤ 900000000) {m : Nat} (hm : at' + 4 ≤ a0 + m) (want : Int) : P90_4 (.pointer (some ⟨q, 0, none⟩)) x1 (.pointer (some ⟨g4, 0, none⟩)) (.pointer (some ⟨g6, 0, none⟩)) (.int .i64 want) w (GenP W q A c xs a0 m) := by
  apply L90_4_ok
  simp -implicitDefEqProofs only [L90_4, ad, ax, am, aM, aN, aQ, aR, av, ak, aJ, aK, aS, aT, ay, ap, aU, aV, aX, aY, ae, ac, aj, ag, z1z, z2z, z3z, z4z, aH, af, aD, aB, aC, aA, aE, aG, z5z, z6z, ah, z7z, z8z, au]
  refine (c_at (E.il.keep h.ch) E.hL E.hll E.hT want).mono ?_
  rintro r w1 ⟨R, hR, hRl⟩
  obtain ⟨B, cB, rfl, hB⟩ := rdV_of_own hR.own
  have h1 := h.grow hR.ch
  obtain ⟨k, f, a, n, v, u⟩ := o
  have dflt : ∀ w2 at2, Gen W w2 q g4 g6 A c xs a0 at2 (k, f, a, n, v, u) → at2 ≤ at' + 2 → CallR Try.prog 50 [.pointer (some ⟨q, 0, none⟩), .int .i64 5] w2 fun t90 w =>
      CallR Try.prog 50 [.pointer (some ⟨q, 0, none⟩), .int .i64 9] w fun t92 w =>
      effu Try.prog (Instr.storeAt 3 (.pointer (some ⟨g6, 0 + 1, none⟩)) t90) w fun w =>
      effu Try.prog (Instr.storeAt 3 (.pointer (some ⟨g6, 0 + 2, none⟩)) t92) w fun w =>
      wpB (ldv Try.prog 40 (.pointer (some ⟨g6, 0, none⟩)) w) fun t95 =>
      effu Try.prog (Instr.storeAt 40 (.pointer (some ⟨g4, 0, none⟩)) t95) w fun w =>
      wpB (ldv Try.prog 40 (.pointer (some ⟨g4, 0, none⟩)) w) fun r4 => GenP W q A c xs a0 m r4 w := by
    intro w2 at2 h2 hat2
    refine h2.next E (by omega) (by decide) (by decide) fun r3 w3 hr3 h3 _ => ?_
    refine h3.next E (by omega) (by decide) (by decide) fun r4 w4 hr4 h4 _ => ?_
    rw [h4.st (i := 0) (by omega), set_1]
    have h5 := h4.set E (k, r3, a, n, v, u)
    rw [h5.st (i := 1) (by omega), set_2]
    exact (h5.set E (k, r3, r4, n, v, u)).ans E (half_done ho (by omega) (by omega)) (by omega)
  by_cases hz : R.length = 0
  · have hz' : ((R.length : Int) == 0) = true := by rw [hz]; rfl
    simp -implicitDefEqProofs only [ad, ax, am, aM, aN, aQ, aR, av, ak, aJ, aK, aS, aT, ay, ap, aU, aV, aX, aY, ae, ac, aj, ag, z1z, z2z, z3z, z4z, aH, af, aD, aB, aC, aA, aE, aG, z5z, z6z, ah, z7z, z8z, au, len_27, hz', fa_40_1, fa_40_2]
    exact dflt w1 _ h1 (by omega)
  have hz' : ((R.length : Int) == 0) = false := by simp; simpa using hz
  simp -implicitDefEqProofs only [ad, ax, am, aM, aN, aQ, aR, av, ak, aJ, aK, aS, aT, ay, ap, aU, aV, aX, aY, ae, ac, aj, ag, z1z, z2z, z3z, z4z, aH, af, aD, aB, aC, aA, aE, aG, z5z, z6z, ah, z7z, z8z, au, len_27, hz']
  refine h1.next E (by omega) (by decide) (by decide) fun r2 w2 hr2 h2 c2 => ?_
  simp -implicitDefEqProofs only [ad, ax, am, aM, aN, aQ, aR, av, ak, aJ, aK, aS, aT, ay, ap, aU, aV, aX, aY, ae, ac, aj, ag, z1z, z2z, z3z, z4z, aH, af, aD, aB, aC, aA, aE, aG, z5z, z6z, ah, z7z, z8z, au, fa_40_1, fa_40_2]
  by_cases hr0 : (r2 : Int) = 0
  · have e : ((r2 : Int) == 0) = true := by rw [hr0]; rfl
    simp -implicitDefEqProofs only [ad, ax, am, aM, aN, aQ, aR, av, ak, aJ, aK, aS, aT, ay, ap, aU, aV, aX, aY, ae, ac, aj, ag, z1z, z2z, z3z, z4z, aH, af, aD, aB, aC, aA, aE, aG, z5z, z6z, ah, z7z, z8z, au, e]
    exact dflt w2 _ h2 (by omega)
  simp -implicitDefEqProofs only [ad, ax, am, aM, aN, aQ, aR, av, ak, aJ, aK, aS, aT, ay, ap, aU, aV, aX, aY, ae, ac, aj, ag, z1z, z2z, z3z, z4z, aH, af, aD, aB, aC, aA, aE, aG, z5z, z6z, ah, z7z, z8z, au, eqf hr0, len_27]
  refine h2.next E (by omega) (by omega) (by omega) fun r3 w3 hr3 h3 c3 => ?_
  have c13 : Chg [q] w1 w3 := c2.trans c3
  have hq : q < w1.heap.size := Nat.lt_of_lt_of_le E.qW (by have := h.ch.size; have := hR.ch.size; omega)
  have hB3 : RdV w3 B (R.flatMap opC) := hB.1.chg c13 fun p hp _ => by
    have := (hR.own.lt p.block (by rw [hp]; rfl)).1
    have := E.qW
    have := h.ch.size
    simp; omega
  have hrl : r3 < R.length := by omega
  obtain ⟨b, o', q1, q2⟩ := op_at (c := cB) (j := .i64) (i := r3) hB3 hrl
  have hN := hR.ok _ (List.getElem_mem hrl)
  generalize R[r3] = e at *
  simp -implicitDefEqProofs only [ad, ax, am, aM, aN, aQ, aR, av, ak, aJ, aK, aS, aT, ay, ap, aU, aV, aX, aY, ae, ac, aj, ag, z1z, z2z, z3z, z4z, aH, af, aD, aB, aC, aA, aE, aG, z5z, z6z, ah, z7z, z8z, au, q1, q2, al_40]
  rw [st_40 (by rfl) (by rfl) (by rw [bc, if_pos rfl]; rfl) (by rw [bc, if_pos rfl]; rfl), bc, if_pos rfl]
  simp -implicitDefEqProofs only [bM]
  generalize hzz : w3.alloc _ = wa
  have hca : Chg [] w3 wa := by rw [← hzz]; exact (Chg.refl _ _).alloc _
  have hza : wa.heap.size = w3.heap.size + 1 := by rw [← hzz]; simp
  have hcp : Chg [] w3 (put wa w3.heap.size (opC e).toArray 40) := hca.put (.inr (Nat.le_refl _)) _ _
  have h8 : hp (put wa w3.heap.size (opC e).toArray 40) w3.heap.size = some (.cells (opC e).toArray 40) := by rw [put_heap, if_pos rfl, if_pos (by omega)]
  have h5 := h3.grow hcp
  have n6 : w3.heap.size ≠ g6 := by have := bz h3.h6; omega
  clear hzz hca hza hcp h3 q1 q2
  generalize put wa w3.heap.size (opC e).toArray 40 = w5 at *
  generalize w3.heap.size = g8 at *
  have h8d : hp w5.drew g8 = some (.cells (opC e).toArray 40) := h8
  have h5d : Gen W w5.drew q g4 g6 A c xs a0 (at' + 1 + 1) (k, f, a, n, v, u) := h5.grow (Chg.refl _ _).drew
  have h6 := h5d.set E (k, e.2.1, a, n, v, u)
  have h8p : hp (put w5.drew g6 (opC (k, e.2.1, a, n, v, u)).toArray 40) g8 = some (.cells (opC e).toArray 40) := by rw [bS n6]; exact h8d
  have h7 := h6.set E (k, e.2.1, e.2.2.1, n, v, u)
  have fin := h7.five E (half_done ho (f' := e.2.1) (a' := e.2.2.1) ⟨hN.1, hN.2.1⟩ ⟨hN.2.2.1, hN.2.2.2⟩) (m := m) (by omega)
  simp -implicitDefEqProofs only [fa_40_1, fa_40_2, bj, h8d, op_1, op_2, ad, ax, am, aM, aN, aQ, aR, av, ak, aJ, aK, aS, aT, ay, ap, aU, aV, aX, aY, ae, ac, aj, ag, z1z, z2z, z3z, z4z, aH, af, aD, aB, aC, aA, aE, aG, z5z, z6z, ah, z7z, z8z, au, h5d.st (i := 0) (by omega), set_1, h6.st (i := 1) (by omega), set_2, h8p]
  exact ⟨fin, fin⟩
end
end Go.Proofs.Ytgamnncehjcdiaa

namespace Go.Proofs.Ytgamnncehjcdiaa
open Go Ev Go.RowKit
section
variable {W w : World} {q g4 g6 : Nat} {A : Option Addr} {c : Nat} {xs : List Int} {a0 at' : Nat} {o : OpV} {x1 : Value} {L : List (List OpV)}
set_option maxHeartbeats 4000000 in
theorem Gen.three (E : Env W q A xs x1 L) (h : Gen W w q g4 g6 A c xs a0 at' o) (ho : Half o) (hat : at' + 5 ≤ 900000000) {m : Nat} (hm : at' + 5 ≤ a0 + m) (want : Int) : P90_3 (.pointer (some ⟨q, 0, none⟩)) x1 (.pointer (some ⟨g4, 0, none⟩)) (.pointer (some ⟨g6, 0, none⟩)) (.int .i64 want) w (GenP W q A c xs a0 m) := by
  apply L90_3_ok
  by_cases k9 : o.1 = 9
  · simp -implicitDefEqProofs only [L90_3, ad, ax, am, aM, aN, aQ, aR, av, ak, aJ, aK, aS, aT, ay, ap, aU, aV, aX, aY, ae, ac, aj, ag, z1z, z2z, z3z, z4z, aH, af, aD, aB, aC, aA, aE, aG, z5z, z6z, ah, z7z, z8z, au, bq, fa_40_5, bj, h.h6, bD, k9]
    refine h.next E (by omega) (by decide) (by decide) fun r w1 hr h1 c1 => ?_
    obtain ⟨k, f, a, n, v, u⟩ := o
    simp -implicitDefEqProofs only [ad, ax, am, aM, aN, aQ, aR, av, ak, aJ, aK, aS, aT, ay, ap, aU, aV, aX, aY, ae, ac, aj, ag, z1z, z2z, z3z, z4z, aH, af, aD, aB, aC, aA, aE, aG, z5z, z6z, ah, z7z, z8z, au, fa_40_5, cv_3_38, wrapu (n := (r : Int)) (by omega) (by omega)]
    rw [h1.stu (i := 1) (by omega), set_5]
    obtain ⟨b1, b2, b3, b4, b5, b6, b7⟩ := ho
    simp only at k9
    exact (h1.set E (k, f, a, n, v, r)).four E ⟨b1, b2, b3, b4, b5, .inl (by simp [wB, k9]), b7.1, by simp only; omega⟩ (by omega) (by omega) want
  · simp -implicitDefEqProofs only [L90_3, ad, ax, am, aM, aN, aQ, aR, av, ak, aJ, aK, aS, aT, ay, ap, aU, aV, aX, aY, ae, ac, aj, ag, z1z, z2z, z3z, z4z, aH, af, aD, aB, aC, aA, aE, aG, z5z, z6z, ah, z7z, z8z, au, bq, bj, h.h6, bD, eqf k9]
    exact h.four E ho (by omega) (by omega) want
set_option maxHeartbeats 4000000 in
theorem Gen.one (E : Env W q A xs x1 L) (h : Gen W w q g4 g6 A c xs a0 at' o) (ho : Half o) (hat : at' + 6 ≤ 900000000) {m : Nat} (hm : at' + 6 ≤ a0 + m) (want : Int) : P90_1 (.pointer (some ⟨q, 0, none⟩)) x1 (.pointer (some ⟨g4, 0, none⟩)) (.pointer (some ⟨g6, 0, none⟩)) (.int .i64 want) w (GenP W q A c xs a0 m) := by
  apply L90_1_ok
  have yesC : vB o.1 = true → CallR Try.prog 50 [.pointer (some ⟨q, 0, none⟩), .int .i64 3] w fun t68 w =>
      wpB (pureRun Try.prog (convert 3 38 t68)) fun t69 =>
      effu Try.prog (Instr.storeAt 38 (.pointer (some ⟨g6, 0 + 4, none⟩)) t69) w fun w =>
      P90_3 (.pointer (some ⟨q, 0, none⟩)) x1 (.pointer (some ⟨g4, 0, none⟩)) (.pointer (some ⟨g6, 0, none⟩)) (.int .i64 want) w (GenP W q A c xs a0 m) := by
    intro kv
    refine h.next E (by omega) (by decide) (by decide) fun r w1 hr h1 c1 => ?_
    obtain ⟨k, f, a, n, v, u⟩ := o
    simp -implicitDefEqProofs only [ad, ax, am, aM, aN, aQ, aR, av, ak, aJ, aK, aS, aT, ay, ap, aU, aV, aX, aY, ae, ac, aj, ag, z1z, z2z, z3z, z4z, aH, af, aD, aB, aC, aA, aE, aG, z5z, z6z, ah, z7z, z8z, au, cv_3_38, wrapu (n := (r : Int)) (by omega) (by omega)]
    rw [h1.stu (i := 0) (by omega), set_4]
    obtain ⟨b1, b2, b3, b4, b5, b6, b7⟩ := ho
    exact (h1.set E (k, f, a, n, r, u)).three E ⟨b1, b2, b3, b4, .inl kv, b6, by simp only; omega, b7.2⟩ (by omega) (by omega) want
  by_cases k7 : o.1 = 7
  · simp -implicitDefEqProofs only [L90_1, ad, ax, am, aM, aN, aQ, aR, av, ak, aJ, aK, aS, aT, ay, ap, aU, aV, aX, aY, ae, ac, aj, ag, z1z, z2z, z3z, z4z, aH, af, aD, aB, aC, aA, aE, aG, z5z, z6z, ah, z7z, z8z, au, bq, fa_40_4, bj, h.h6, bD, k7, Int.reduceBEq]
    exact yesC (by rw [k7]; rfl)
  by_cases k8 : o.1 = 8
  · simp -implicitDefEqProofs only [L90_1, ad, ax, am, aM, aN, aQ, aR, av, ak, aJ, aK, aS, aT, ay, ap, aU, aV, aX, aY, ae, ac, aj, ag, z1z, z2z, z3z, z4z, aH, af, aD, aB, aC, aA, aE, aG, z5z, z6z, ah, z7z, z8z, au, bq, fa_40_4, bj, h.h6, bD, k8, Int.reduceBEq]
    exact yesC (by rw [k8]; rfl)
  by_cases k9 : o.1 = 9
  · simp -implicitDefEqProofs only [L90_1, ad, ax, am, aM, aN, aQ, aR, av, ak, aJ, aK, aS, aT, ay, ap, aU, aV, aX, aY, ae, ac, aj, ag, z1z, z2z, z3z, z4z, aH, af, aD, aB, aC, aA, aE, aG, z5z, z6z, ah, z7z, z8z, au, bq, fa_40_4, bj, h.h6, bD, k9, Int.reduceBEq]
    exact yesC (by rw [k9]; rfl)
  simp -implicitDefEqProofs only [L90_1, ad, ax, am, aM, aN, aQ, aR, av, ak, aJ, aK, aS, aT, ay, ap, aU, aV, aX, aY, ae, ac, aj, ag, z1z, z2z, z3z, z4z, aH, af, aD, aB, aC, aA, aE, aG, z5z, z6z, ah, z7z, z8z, au, bq, fa_40_4, bj, h.h6, bD, eqf k7, eqf k8, eqf k9]
  exact h.three E ho (by omega) (by omega) want
def list9 : List Int := [1, 2, 3, 5, 8, 9, 16, 17, 0]
theorem list9_at : ∀ r : Nat, r < 9 → 0 ≤ list9.getD r 0 ∧ list9.getD r 0 ≤ 17 := by decide
theorem wfo0 (k n : Int) : WfO' (k, 0, 0, n, 0, 0) := ⟨⟨Int.le_refl 0, by show (0 : Int) < _; omega⟩, Int.le_refl 0, by show (0 : Int) < _; omega⟩
theorem mayO0 {k : Int} (h1 : 1 ≤ k) (h2 : k ≤ 12) {n : Int} (h0 : 0 ≤ n) (hn : n ≤ nM k) : GenO (k, 0, 0, n, 0, 0) :=
  ⟨.inr (mayO_of h1 h2 ⟨by omega, by rw [frM]; split <;> omega⟩ ⟨by omega, by rw [atM]; split <;> omega⟩ ⟨h0, hn⟩ (.inr rfl) (.inr rfl)), wfo0 k n⟩
theorem genO0 {k : Int} (hk : k = 0 ∨ 1 ≤ k ∧ k ≤ 12) : GenO (k, 0, 0, 0, 0, 0) := by
  rcases hk with rfl | ⟨h1, h2⟩
  · exact ⟨.inl rfl, wfo0 0 0⟩
  · exact mayO0 h1 h2 (by omega) (by rw [nM]; repeat' (split; first | omega | skip); all_goals omega)
theorem half0 {k n : Int} (hk : k = 2 ∨ k = 5 ∨ k = 10 ∨ k = 12 ∨ 6 ≤ k ∧ k ≤ 9) (h0 : 0 ≤ n) (hn : n ≤ nM k) : Half (k, 0, 0, n, 0, 0) := by
  have ho : ofK k ≠ 0 := by
    rw [ofK]; split
    · omega
    · split
      · omega
      · split <;> omega
  exact ⟨⟨by simp only; omega, by simp only; omega⟩, by simp [frM, ho], by simp [atM, ho], ⟨h0, hn⟩, .inr rfl, .inr rfl, wfo0 k n⟩
theorem nM_b {k : Int} (h : nB k = true) (h1 : k ≠ 1) : nM k = 65535 := by simp [nM, h1, h]
set_option maxHeartbeats 8000000 in
theorem Gen.zero (E : Env W q A xs x1 L) {k : Int} (hk : k = 0 ∨ 1 ≤ k ∧ k ≤ 12) (hk1 : k ≠ 1) (h : Gen W w q g4 g6 A c xs a0 at' (k, 0, 0, 0, 0, 0)) (hat : at' + 7 ≤ 900000000) {m : Nat} (hm : at' + 7 ≤ a0 + m) {b : Bool} (hb : b = decide (6 ≤ k ∧ k ≤ 9)) : P90_0 (.pointer (some ⟨q, 0, none⟩)) x1 (.pointer (some ⟨g4, 0, none⟩)) (.pointer (some ⟨g6, 0, none⟩)) (.int .i64 1) (.int .i64 k) (.bool b) w (GenP W q A c xs a0 m) := by
  apply L90_0_ok
  by_cases k69 : 6 ≤ k ∧ k ≤ 9
  · have hb' : b = true := by rw [hb]; simp [k69]
    subst hb'
    simp -implicitDefEqProofs only [L90_0, ad, ax, am, aM, aN, aQ, aR, av, ak, aJ, aK, aS, aT, ay, ap, aU, aV, aX, aY, ae, ac, aj, ag, z1z, z2z, z3z, z4z, aH, af, aD, aB, aC, aA, aE, aG, z5z, z6z, ah, z7z, z8z, au]
    refine h.next E (by omega) (by decide) (by decide) fun r w1 hr h1 c1 => ?_
    simp -implicitDefEqProofs only [ad, ax, am, aM, aN, aQ, aR, av, ak, aJ, aK, aS, aT, ay, ap, aU, aV, aX, aY, ae, ac, aj, ag, z1z, z2z, z3z, z4z, aH, af, aD, aB, aC, aA, aE, aG, z5z, z6z, ah, z7z, z8z, au, bT]
    rw [h1.st (i := 2) (by omega), set_3]
    have hn : nM k = 65535 := nM_b (by simp [nB]; omega) (by omega)
    exact (h1.set E (k, 0, 0, r, 0, 0)).one E (half0 (by omega) (by omega) (by omega)) (by omega) (by omega) 2
  have hb' : b = false := by rw [hb]; simp [k69]
  subst hb'
  by_cases k2 : k = 2
  · subst k2
    simp -implicitDefEqProofs only [L90_0, ad, ax, am, aM, aN, aQ, aR, av, ak, aJ, aK, aS, aT, ay, ap, aU, aV, aX, aY, ae, ac, aj, ag, z1z, z2z, z3z, z4z, aH, af, aD, aB, aC, aA, aE, aG, z5z, z6z, ah, z7z, z8z, au, bs_23_9]
    generalize hz : w.alloc _ = w1
    have c1 : Chg [] w w1 := by rw [← hz]; exact (Chg.refl _ _).alloc _
    have hl : hp w1 w.heap.size = some (.cells (ints list9).toArray 3) := by rw [← hz, bc, if_pos rfl]; rfl
    refine (h.grow c1).next E (by omega) (by decide) (by decide) fun r w2 hr h2 c2 => ?_
    have qW : w.heap.size ≠ q := by have := E.qW; have := h.ch.size; omega
    have hl2 := c2.at hl (by simpa using qW)
    have hr' : r < 9 := by omega
    have la := lit_at hl2 (n := 9) rfl hr'
    have lb := list9_at r hr'
    simp -implicitDefEqProofs only [ad, ax, am, aM, aN, aQ, aR, av, ak, aJ, aK, aS, aT, ay, ap, aU, aV, aX, aY, ae, ac, aj, ag, z1z, z2z, z3z, z4z, aH, af, aD, aB, aC, aA, aE, aG, z5z, z6z, ah, z7z, z8z, au, la.1, bj, la.2, bT]
    rw [h2.st (i := 2) (by omega), set_3]
    exact (h2.set E (2, 0, 0, list9.getD r 0, 0, 0)).one E (half0 (by omega) (by omega) (by rw [nM_b (by rfl) (by decide)]; omega)) (by omega) (by omega) 1
  by_cases k5 : k = 5
  · subst k5
    simp -implicitDefEqProofs only [L90_0, ad, ax, am, aM, aN, aQ, aR, av, ak, aJ, aK, aS, aT, ay, ap, aU, aV, aX, aY, ae, ac, aj, ag, z1z, z2z, z3z, z4z, aH, af, aD, aB, aC, aA, aE, aG, z5z, z6z, ah, z7z, z8z, au, bs_23_2, Int.reduceBEq]
    generalize hz : w.alloc _ = w1
    have c1 : Chg [] w w1 := by rw [← hz]; exact (Chg.refl _ _).alloc _
    have hl : hp w1 w.heap.size = some (.cells (ints [1, 2]).toArray 3) := by rw [← hz, bc, if_pos rfl]; rfl
    refine (h.grow c1).next E (by omega) (by decide) (by decide) fun r w2 hr h2 c2 => ?_
    have qW : w.heap.size ≠ q := by have := E.qW; have := h.ch.size; omega
    have hl2 := c2.at hl (by simpa using qW)
    have hr' : r < 2 := by omega
    have la := lit_at hl2 (n := 2) rfl hr'
    simp -implicitDefEqProofs only [ad, ax, am, aM, aN, aQ, aR, av, ak, aJ, aK, aS, aT, ay, ap, aU, aV, aX, aY, ae, ac, aj, ag, z1z, z2z, z3z, z4z, aH, af, aD, aB, aC, aA, aE, aG, z5z, z6z, ah, z7z, z8z, au, la.1, bj, la.2]
    exact h2.one E (half0 (by omega) (by omega) (by rw [nM]; repeat' (split; first | omega | skip); all_goals omega)) (by omega) (by omega) _
  have two : ∀ b : Bool, (b = true → k = 10 ∨ k = 12) → P90_2 (.pointer (some ⟨q, 0, none⟩)) x1 (.pointer (some ⟨g4, 0, none⟩)) (.pointer (some ⟨g6, 0, none⟩)) (.bool b) w (GenP W q A c xs a0 m) := by
    intro b hb
    apply L90_2_ok
    cases b with
    | true =>
      simp -implicitDefEqProofs only [L90_2, ad, ax, am, aM, aN, aQ, aR, av, ak, aJ, aK, aS, aT, ay, ap, aU, aV, aX, aY, ae, ac, aj, ag, z1z, z2z, z3z, z4z, aH, af, aD, aB, aC, aA, aE, aG, z5z, z6z, ah, z7z, z8z, au]
      exact h.one E (half0 (by have := hb rfl; omega) (by omega) (by rw [nM]; repeat' (split; first | omega | skip); all_goals omega)) (by omega) (by omega) 1
    | false =>
      simp -implicitDefEqProofs only [L90_2, ag]
      exact h.ans E (genO0 hk) (by omega)
  by_cases k10 : k = 10
  · subst k10
    simp -implicitDefEqProofs only [L90_0, ad, ax, am, aM, aN, aQ, aR, av, ak, aJ, aK, aS, aT, ay, ap, aU, aV, aX, aY, ae, ac, aj, ag, z1z, z2z, z3z, z4z, aH, af, aD, aB, aC, aA, aE, aG, z5z, z6z, ah, z7z, z8z, au]
    exact two true fun _ => .inl rfl
  by_cases k12 : k = 12
  · subst k12
    simp -implicitDefEqProofs only [L90_0, ad, ax, am, aM, aN, aQ, aR, av, ak, aJ, aK, aS, aT, ay, ap, aU, aV, aX, aY, ae, ac, aj, ag, z1z, z2z, z3z, z4z, aH, af, aD, aB, aC, aA, aE, aG, z5z, z6z, ah, z7z, z8z, au]
    exact two true fun _ => .inr rfl
  simp -implicitDefEqProofs only [L90_0, ad, ax, am, aM, aN, aQ, aR, av, ak, aJ, aK, aS, aT, ay, ap, aU, aV, aX, aY, ae, ac, aj, ag, z1z, z2z, z3z, z4z, aH, af, aD, aB, aC, aA, aE, aG, z5z, z6z, ah, z7z, z8z, au, eqf k2, eqf k5, eqf k10, eqf k12]
  exact two false fun h => by cases h
end
theorem opC0 (k : Int) : (#[Value.int .i64 k, .int .i64 0, .int .i64 0, .int .i64 0, .int .u64 0, .int .u64 0] : Array Value) = (opC (k, 0, 0, 0, 0, 0)).toArray := rfl
set_option maxHeartbeats 8000000 in
theorem c_genOp {W : World} {q : Nat} {A : Option Addr} {c : Nat} {xs : List Int} {a0 : Nat} {x1 : Value} {L : List (List OpV)} (E : Env W q A xs x1 L) (hs : hp W q = some (.cells #[.slice A xs.length c, .int .i64 (a0 : Int)] 100)) (ha : a0 ≤ 800000000) :
    CallR Try.prog 90 [.pointer (some ⟨q, 0, none⟩), x1] W (GenP W q A c xs a0 12) := by
  apply F90_ok
  simp -implicitDefEqProofs only [F90, ad, ax, am, aM, aN, aQ, aR, av, ak, aJ, aK, aS, aT, ay, ap, aU, aV, aX, aY, ae, ac, aj, ag, z1z, z2z, z3z, z4z, aH, af, aD, aB, aC, aA, aE, aG, z5z, z6z, ah, z7z, z8z, au, al_40]
  generalize hz : W.alloc _ = w1
  have c1 : Chg [] W w1 := by rw [← hz]; exact (Chg.refl _ _).alloc _
  have z1 : w1.heap.size = W.heap.size + 1 := by rw [← hz]; simp
  have h4 : hp w1 W.heap.size = some (.cells (opC oZero).toArray 40) := by rw [← hz, bc, if_pos rfl]; rfl
  clear hz
  refine (c_kinds w1).mono ?_
  rintro _ w2 ⟨rfl, hk2, c2⟩
  simp -implicitDefEqProofs only [ad, ax, am, aM, aN, aQ, aR, av, ak, aJ, aK, aS, aT, ay, ap, aU, aV, aX, aY, ae, ac, aj, ag, z1z, z2z, z3z, z4z, aH, af, aD, aB, aC, aA, aE, aG, z5z, z6z, ah, z7z, z8z, au, len_23]
  have E2 : Env w2 q A xs x1 L := ⟨E.hA.keep (c1.trans c2).below, E.hne, E.il.keep ((c1.trans c2).mono (by simp)), by have := E.qW; have := c2.size; omega, E.hL, E.hll, E.hT⟩
  refine (c_SeqN ((c1.trans c2).at hs (by simp)) E2.hA E2.hne (by omega) (m := 23) (by decide) (by decide)).mono ?_
  rintro _ w3 ⟨⟨r, rfl, hr⟩, hs3, c3⟩
  have nq : w1.heap.size ≠ q := by have := E.qW; omega
  have nq4 : W.heap.size ≠ q := by have := E.qW; omega
  have hr' : r < 23 := by omega
  have la := lit_at (c3.at hk2 (by simpa using nq)) (n := 23) rfl hr'
  have lb := kinds_at r hr'
  have h43 := c3.at (c2.at h4 (by simp)) (by simpa using nq4)
  have z3 : W.heap.size + 1 ≤ w3.heap.size := by have := c2.size; have := c3.size; omega
  have c13 : Chg [q] W w3 := ((c1.trans c2).mono (by simp)).trans c3
  generalize kindsL.getD r 0 = k at *
  simp -implicitDefEqProofs only [ad, ax, am, aM, aN, aQ, aR, av, ak, aJ, aK, aS, aT, ay, ap, aU, aV, aX, aY, ae, ac, aj, ag, z1z, z2z, z3z, z4z, aH, af, aD, aB, aC, aA, aE, aG, z5z, z6z, ah, z7z, z8z, au, la.1, bj, la.2, bd_40_0, al_40]
  rw [st_40 (by rfl) (by rfl) (by rw [bc, if_pos rfl]; rfl) (by rw [bc, if_pos rfl]; rfl), bc, if_pos rfl, opC0 k]
  simp -implicitDefEqProofs only [bM]
  generalize hzz : w3.alloc _ = wa
  have hca : Chg [] w3 wa := by rw [← hzz]; exact (Chg.refl _ _).alloc _
  have hza : wa.heap.size = w3.heap.size + 1 := by rw [← hzz]; simp
  have hcp : Chg [] w3 (put wa w3.heap.size (opC (k, 0, 0, 0, 0, 0)).toArray 40) := hca.put (.inr (Nat.le_refl _)) _ _
  have h6 : hp (put wa w3.heap.size (opC (k, 0, 0, 0, 0, 0)).toArray 40) w3.heap.size = some (.cells (opC (k, 0, 0, 0, 0, 0)).toArray 40) := by rw [put_heap, if_pos rfl, if_pos (by omega)]
  have G : Gen W (put wa w3.heap.size (opC (k, 0, 0, 0, 0, 0)).toArray 40) q W.heap.size w3.heap.size A c xs a0 (a0 + 1) (k, 0, 0, 0, 0, 0) :=
    ⟨hcp.at hs3 (by simp), hcp.at h43 (by simp), h6, by omega, Nat.le_refl _, by omega, c13.trans (hcp.mono (by simp)), by omega, by omega⟩
  clear hzz hca hza hcp
  generalize put wa w3.heap.size (opC (k, 0, 0, 0, 0, 0)).toArray 40 = w4 at *
  have hk : k = 0 ∨ 1 ≤ k ∧ k ≤ 12 := by omega
  have op0 : (opC (k, 0, 0, 0, 0, 0)).toArray[0 + 0]? = some (.int .i64 k) := rfl
  by_cases k1 : k = 1
  · subst k1
    simp -implicitDefEqProofs only [ad, ax, am, aM, aN, aQ, aR, av, ak, aJ, aK, aS, aT, ay, ap, aU, aV, aX, aY, ae, ac, aj, ag, z1z, z2z, z3z, z4z, aH, af, aD, aB, aC, aA, aE, aG, z5z, z6z, ah, z7z, z8z, au, bq, bj, h6, op0, Int.reduceBEq]
    refine G.next E (m := 4) (by omega) (by decide) (by decide) fun r2 w5 hr2 h5 c5 => ?_
    simp -implicitDefEqProofs only [ad, ax, am, aM, aN, aQ, aR, av, ak, aJ, aK, aS, aT, ay, ap, aU, aV, aX, aY, ae, ac, aj, ag, z1z, z2z, z3z, z4z, aH, af, aD, aB, aC, aA, aE, aG, z5z, z6z, ah, z7z, z8z, au, bT]
    rw [h5.st (i := 2) (by omega), set_3]
    exact (h5.set E (1, 0, 0, r2, 0, 0)).ans E (mayO0 (by decide) (by decide) (by omega) (by show (r2 : Int) ≤ nM 1; rw [nM, if_pos rfl]; omega)) (by omega)
  by_cases k6 : k = 6
  · subst k6
    simp -implicitDefEqProofs only [ad, ax, am, aM, aN, aQ, aR, av, ak, aJ, aK, aS, aT, ay, ap, aU, aV, aX, aY, ae, ac, aj, ag, z1z, z2z, z3z, z4z, aH, af, aD, aB, aC, aA, aE, aG, z5z, z6z, ah, z7z, z8z, au, bq, bj, h6, op0, Int.reduceBEq]
    exact G.zero (m := 12) (at' := a0 + 1) E hk k1 (by omega) (by omega) rfl
  by_cases k7 : k = 7
  · subst k7
    simp -implicitDefEqProofs only [ad, ax, am, aM, aN, aQ, aR, av, ak, aJ, aK, aS, aT, ay, ap, aU, aV, aX, aY, ae, ac, aj, ag, z1z, z2z, z3z, z4z, aH, af, aD, aB, aC, aA, aE, aG, z5z, z6z, ah, z7z, z8z, au, bq, bj, h6, op0, Int.reduceBEq]
    exact G.zero (m := 12) (at' := a0 + 1) E hk k1 (by omega) (by omega) rfl
  by_cases k8 : k = 8
  · subst k8
    simp -implicitDefEqProofs only [ad, ax, am, aM, aN, aQ, aR, av, ak, aJ, aK, aS, aT, ay, ap, aU, aV, aX, aY, ae, ac, aj, ag, z1z, z2z, z3z, z4z, aH, af, aD, aB, aC, aA, aE, aG, z5z, z6z, ah, z7z, z8z, au, bq, bj, h6, op0, Int.reduceBEq]
    exact G.zero (m := 12) (at' := a0 + 1) E hk k1 (by omega) (by omega) rfl
  by_cases k9 : k = 9
  · subst k9
    simp -implicitDefEqProofs only [ad, ax, am, aM, aN, aQ, aR, av, ak, aJ, aK, aS, aT, ay, ap, aU, aV, aX, aY, ae, ac, aj, ag, z1z, z2z, z3z, z4z, aH, af, aD, aB, aC, aA, aE, aG, z5z, z6z, ah, z7z, z8z, au, bq, bj, h6, op0, Int.reduceBEq]
    exact G.zero (m := 12) (at' := a0 + 1) E hk k1 (by omega) (by omega) rfl
  simp -implicitDefEqProofs only [ad, ax, am, aM, aN, aQ, aR, av, ak, aJ, aK, aS, aT, ay, ap, aU, aV, aX, aY, ae, ac, aj, ag, z1z, z2z, z3z, z4z, aH, af, aD, aB, aC, aA, aE, aG, z5z, z6z, ah, z7z, z8z, au, bq, bj, h6, op0, eqf k1, eqf k6, eqf k7, eqf k8, eqf k9]
  exact G.zero (m := 12) (at' := a0 + 1) E hk k1 (by omega) (by omega) (decide_eq_false (by omega)).symm
end Go.Proofs.Ytgamnncehjcdiaa

namespace Go.Proofs.Ytgamnncehjcdiaa
open Go Ev Go.RowKit

section
variable {W w w' : World}
theorem lit_rd {b : Nat} {xs : List Int} {e : TypeId} (h : hp w b = some (.cells (ints xs).toArray e)) : RdI .i64 w (some ⟨b, 0, none⟩) xs := fun i hi => by
  refine ⟨_, rfl, ?_⟩
  rw [addr_add, cell_ldC, h, ah, Nat.zero_add]
  simp only [ints, List.getElem?_toArray, List.getElem?_map, List.getElem?_eq_getElem hi, List.getD_eq_getElem?_getD]
  rfl
theorem i64_in (i : Int) : (∃ x : Int, IntKind.i64.wrap i = x) := ⟨_, rfl⟩
structure NmW (q : Nat) (A : Option Addr) (cc : Nat) (xs : List Int) (B : Nat) (w : World) : Prop where
  sq : ∃ at' : Nat, hp w q = some (.cells #[.slice A xs.length cc, .int .i64 (at' : Int)] 100) ∧ at' ≤ B
  rd : RdI .i64 w A xs
  ne : ∀ p, A = some p → p.block ≠ q
theorem NmW.N {q : Nat} {A : Option Addr} {cc : Nat} {xs : List Int} {B : Nat} (h : NmW q A cc xs B w) (hB : B ≤ 1000000) {m : Int} (h0 : 0 < m) (h1 : m ≤ 1000000) {K : Value → World → Prop} (hk : ∀ (r : Nat) w', (r : Int) < m → Chg [q] w w' → NmW q A cc xs (B + 1) w' → K (.int .i64 r) w') :
    CallR Try.prog 50 [.pointer (some ⟨q, 0, none⟩), .int .i64 m] w K := by
  obtain ⟨at', h2, h3⟩ := h.sq
  refine (c_SeqN h2 h.rd h.ne (by omega) h0 h1).mono ?_
  rintro v w' ⟨⟨r, rfl, hr⟩, hs, hc⟩
  exact hk r w' hr hc ⟨⟨at' + 1, hs, by omega⟩, RdI.chg h.rd hc fun p hp => by simpa using h.ne p hp, h.ne⟩
set_option maxHeartbeats 2000000 in
theorem c_mConfig (a : Int) (w : World) : CallR Try.prog 49 [.int .i64 a] w fun v w' => ∃ c : CfV, v = .agg (cfC c).toArray ∧ mayC c = true ∧ Chg [] w w' := by
  apply F49_ok
  have nb : ∀ {m : Int} (a : Int) (w : World), 0 < m → m ≤ 1000 → ∀ K : Value → World → Prop, (∀ x : Int, K (.int .i64 x) w) → CallR Try.prog 22 [.int .i64 a, .int .i64 m] w K := by
    intro m a w h0 h1 K hK
    exact (c_Number a m w h0 (by omega)).step (hK _)
  have s2 : (cfC (0, 0, 0, 0, 0, 0)).toArray.size = 6 := rfl
  simp -implicitDefEqProofs only [F49, al_74]
  generalize hw1 : w.alloc _ = w1
  have c1 : Chg [] w w1 := by rw [← hw1]; exact (Chg.refl _ _).alloc _
  have a2 : hp w1 w.heap.size = some (.cells (cfC (0, 0, 0, 0, 0, 0)).toArray 74) := by rw [← hw1, bc, if_pos rfl]; rfl
  clear hw1
  refine nb _ _ (by decide) (by decide) _ fun x0 => ?_
  simp -implicitDefEqProofs only [bp_quo (show (4 : Int) ≠ 0 by decide), ad]
  refine nb _ _ (by decide) (by decide) _ fun x1 => ?_
  simp -implicitDefEqProofs only [bp_quo (show (32 : Int) ≠ 0 by decide), ad]
  refine nb _ _ (by decide) (by decide) _ fun x2 => ?_
  simp -implicitDefEqProofs only [bp_quo (show (64 : Int) ≠ 0 by decide), ad]
  refine nb _ _ (by decide) (by decide) _ fun x3 => ?_
  simp -implicitDefEqProofs only [bp_quo (show (256 : Int) ≠ 0 by decide), ad]
  refine nb _ _ (by decide) (by decide) _ fun x4 => ?_
  simp -implicitDefEqProofs only [bp_quo (show (1024 : Int) ≠ 0 by decide), ad]
  refine nb _ _ (by decide) (by decide) _ fun x5 => ?_
  simp -implicitDefEqProofs only [bs_23_6, bd_100_0, ad, bE, bA]
  generalize hwa : w1.alloc _ = wa
  have ca : Chg [] w1 wa := by rw [← hwa]; exact (Chg.refl _ _).alloc _
  have sa : wa.heap.size = w1.heap.size + 1 := by rw [← hwa, bf]
  have aa : hp wa w1.heap.size = some (.cells (ints [x0, x1, x2, x3, x4, x5]).toArray 3) := by rw [← hwa, bc, if_pos rfl]; rfl
  clear hwa
  generalize hwb : wa.alloc _ = wb
  have cb : Chg [] wa wb := by rw [← hwb]; exact (Chg.refl _ _).alloc _
  have ab : hp wb wa.heap.size = some (.cells #[.slice (some ⟨w1.heap.size, 0, none⟩) 6 6, .int .i64 0] 100) := by rw [← hwb, bc, if_pos rfl]
  clear hwb
  have D0 : NmW wa.heap.size (some ⟨w1.heap.size, 0, none⟩) 6 [x0, x1, x2, x3, x4, x5] 0 wb := ⟨⟨0, ab, Nat.le_refl _⟩, (lit_rd aa).keep cb.below, fun p hp => by cases hp; simp only; omega⟩
  have b2 := cb.at (ca.at a2 (by simp)) (by simp)
  have s1 := bz a2
  have cwb : Chg [] w wb := (c1.trans ca).trans cb
  have ne2 : w.heap.size ≠ wa.heap.size := by omega
  generalize hq : wa.heap.size = q at *
  have qn : w.heap.size ≤ q := by omega
  have fin : ∀ {w1 : World}, Chg [q] wb w1 → Chg [] w w1 := fun hc => ⟨hc.os.trans cwb.os, hc.tape.trans cwb.tape, hc.output.trans cwb.output, Nat.le_trans cwb.size hc.size, fun k hk _ => by
    rw [hc.block k (Nat.lt_of_lt_of_le hk cwb.size) (by simp; omega)]; exact cwb.block k hk (by simp)⟩
  refine D0.N (by omega) (by decide) (by decide) fun r0 v0 h0 k0 D1 => ?_
  simp -implicitDefEqProofs only [bG, ad, bC (n := 1 + (r0 : Int)) (by omega) (by omega)]
  refine D1.N (by omega) (by decide) (by decide) fun r1 v1 h1 k1 D2 => ?_
  simp -implicitDefEqProofs only [bG, ad, bC (n := 1 + (r1 : Int)) (by omega) (by omega)]
  refine D2.N (by omega) (by decide) (by decide) fun r2 v2 h2 k2 D3 => ?_
  simp -implicitDefEqProofs only [bG, bp_mul, ad, bC (n := 8 * (r2 : Int)) (by omega) (by omega), bC (n := 8 + 8 * (r2 : Int)) (by omega) (by omega)]
  refine D3.N (by omega) (by decide) (by decide) fun r3 v3 h3 k3 D4 => ?_
  simp -implicitDefEqProofs only [bG, ad, bC (n := 1 + (r3 : Int)) (by omega) (by omega)]
  refine D4.N (by omega) (by decide) (by decide) fun r4 v4 h4 k4 D5 => ?_
  refine D5.N (by omega) (by decide) (by decide) fun r5 v5 h5 k5 D6 => ?_
  have kk : Chg [q] wb v5 := k0.trans (k1.trans (k2.trans (k3.trans (k4.trans k5))))
  have b5 := kk.at b2 (by simpa using ne2)
  have hbc : pureRun Try.prog (Instr.build 74 #[(0, .int .i64 (1 + (r0 : Int))), (1, .int .i64 (1 + (r1 : Int))), (2, .int .i64 (8 + 8 * (r2 : Int))), (3, .int .i64 (1 + (r3 : Int))), (4, .int .i64 r4), (5, .int .i64 (1 + (r5 : Int)))]) = some (.agg (cfC (1 + (r0 : Int), 1 + (r1 : Int), 8 + 8 * (r2 : Int), 1 + (r3 : Int), (r4 : Int), 1 + (r5 : Int))).toArray) := bd_74_0_1_2_3_4_5
  simp -implicitDefEqProofs only [bG, ad, bC (n := 1 + (r5 : Int)) (by omega) (by omega), hbc]
  rw [st_74 rfl rfl (by rw [b5]; rfl) (by rw [b5]; rfl), b5, bM, ld_cf (bv (bz b5) _ _), ad]
  refine ⟨_, rfl, ?_, (fin kk).put (.inr (Nat.le_refl _)) _ _⟩
  simp only [mayC, Bool.and_eq_true, decide_eq_true_eq]
  omega
structure PlE where
  gp : Nat
  g : Nat
  gx : Nat
  q : Nat
  c : CfV
  A : Option Addr
  cc : Nat
  xs : List Int
structure St (m : MdV) (c : CfV) (K : Nat) : Prop where
  wf : Wf m K
  wn : Wn m K
  mc : m.c = c
theorem St.mono {m : MdV} {c : CfV} {K K' : Nat} (h : St m c K) (hk : K ≤ K') : St m c K' := ⟨h.wf.mono hk, h.wn.mono hk, h.mc⟩
structure PlF (W : World) (E : PlE) (w : World) (m mx : MdV) (Kn : List HnV) (K B : Nat) (Fm Fx Fk : Fp) (kv : Value) : Prop where
  chg : Chg [] W w
  hp : Ev.hp w E.gp = some (.cells (pairA E.c E.g E.gx kv) 92)
  I : MdI w E.g m Fm
  X : RfI w E.gx (toRf mx) Fx
  kn : objsT Kn w Fk kv
  sq : ∃ at' : Nat, Ev.hp w E.q = some (.cells #[.slice E.A E.xs.length E.cc, .int .i64 (at' : Int)] 100) ∧ at' ≤ B
  rd : RdI .i64 W E.A E.xs
  ne : ∀ p, E.A = some p → p.block < W.heap.size
  dmx : FDis Fm Fx
  dmk : FDis Fm Fk
  dxk : FDis Fx Fk
  pm : ¬ Fm E.gp
  px : ¬ Fx E.gp
  pk : ¬ Fk E.gp
  qm : ¬ Fm E.q
  qx : ¬ Fx E.q
  qk : ¬ Fk E.q
  pq : E.gp ≠ E.q
  nm : ∀ k, Fm k → W.heap.size ≤ k
  nx : ∀ k, Fx k → W.heap.size ≤ k
  nk : ∀ k, Fk k → W.heap.size ≤ k
  np : W.heap.size ≤ E.gp
  nq : W.heap.size ≤ E.q
  sm : St m E.c K
  sx : St mx E.c K
  kl : Kn.length ≤ K
section
variable {E : PlE} {m mx m' : MdV} {Kn : List HnV} {K K' B : Nat} {Fm Fx Fk F' : Fp} {kv : Value}
theorem PlF.keep (D : PlF W E w m mx Kn K B Fm Fx Fk kv) (hc : Chg [] w w') : PlF W E w' m mx Kn K B Fm Fx Fk kv := by
  obtain ⟨at', h1, h2⟩ := D.sq
  exact ⟨D.chg.trans hc, hc.at D.hp (by simp), D.I.keep hc, D.X.keep hc, (cm _).frame D.kn (ChgP.of0 hc none') (fun _ _ h => h), ⟨at', hc.at h1 (by simp), h2⟩, D.rd, D.ne, D.dmx, D.dmk, D.dxk, D.pm, D.px, D.pk, D.qm, D.qx, D.qk, D.pq, D.nm, D.nx, D.nk, D.np, D.nq, D.sm, D.sx, D.kl⟩
theorem PlF.qlt (D : PlF W E w m mx Kn K B Fm Fx Fk kv) : E.q < w.heap.size := by
  obtain ⟨at', h1, h2⟩ := D.sq
  exact bz h1
theorem PlF.plt (D : PlF W E w m mx Kn K B Fm Fx Fk kv) : E.gp < w.heap.size := bz D.hp
theorem chgW {a b c : World} {S : Nat → Prop} (h : Chg [] a b) (k : ChgP S b c) (hs : ∀ x, S x → a.heap.size ≤ x) : Chg [] a c :=
  ⟨k.os.trans h.os, k.tape.trans h.tape, k.output.trans h.output, Nat.le_trans h.size k.size, fun x hx _ => by
    rw [k.block x (Nat.lt_of_lt_of_le hx h.size) fun hf => by have := hs x hf; omega]; exact h.block x hx (by simp)⟩
theorem PlF.seq (D : PlF W E w m mx Kn K B Fm Fx Fk kv) {B' : Nat} (hc : Chg [E.q] w w') (hq : ∃ at' : Nat, Ev.hp w' E.q = some (.cells #[.slice E.A E.xs.length E.cc, .int .i64 (at' : Int)] 100) ∧ at' ≤ B') : PlF W E w' m mx Kn K B' Fm Fx Fk kv := by
  have cp : ChgP (fun k => k = E.q) w w' := (ChgP.of hc).mono fun k hk => by simpa using hk
  exact ⟨chgW D.chg cp (fun x hx => by rw [hx]; exact D.nq), hc.at D.hp (by simpa using D.pq), isAt.frame D.I (bY _) cp (fun k h1 h2 => D.qm (h2 ▸ h1)), isAt.frame D.X (cf _) cp (fun k h1 h2 => D.qx (h2 ▸ h1)), (cm _).frame D.kn cp (fun k h1 h2 => D.qk (h2 ▸ h1)), hq, D.rd, D.ne, D.dmx, D.dmk, D.dxk, D.pm, D.px, D.pk, D.qm, D.qx, D.qk, D.pq, D.nm, D.nx, D.nk, D.np, D.nq, D.sm, D.sx, D.kl⟩
theorem PlF.N (D : PlF W E w m mx Kn K B Fm Fx Fk kv) (hB : B ≤ 1000000) {n : Int} (h0 : 0 < n) (h1 : n ≤ 1000000) {Q : Value → World → Prop} (hk : ∀ (r : Nat) w', (r : Int) < n → Chg [E.q] w w' → PlF W E w' m mx Kn K (B + 1) Fm Fx Fk kv → Q (.int .i64 r) w') :
    CallR Try.prog 50 [.pointer (some ⟨E.q, 0, none⟩), .int .i64 n] w Q := by
  obtain ⟨at', h2, h3⟩ := D.sq
  refine (c_SeqN h2 (D.rd.keep D.chg.below) (fun p hp => by have := D.ne p hp; have := D.nq; omega) (by omega) h0 h1).mono ?_
  rintro v w' ⟨⟨r, rfl, hr⟩, hs, hc⟩
  exact hk r w' hr hc (D.seq hc ⟨at' + 1, hs, by omega⟩)
theorem Ev.UpdP.dis {F F' G : Fp} (u : UpdP F F' w w') (d : FDis F G) (hG : ∀ k, G k → k < w.heap.size) : FDis F' G := fun k h1 h2 => by
  rcases u.sub k h1 with h | h
  · exact d k h h2
  · have := hG k h2; omega
theorem PlF.updM (D : PlF W E w m mx Kn K B Fm Fx Fk kv) (i : MdI w' E.g m' F') (u : UpdP Fm F' w w') (hk : K ≤ K') (s : St m' E.c K') : PlF W E w' m' mx Kn K' B F' Fx Fk kv := by
  obtain ⟨at', h1, h2⟩ := D.sq
  have sz := D.chg.size
  have kp := u.keep D.hp D.pm
  have kq := u.keep h1 D.qm
  exact ⟨chgW D.chg u.chg D.nm, kp.1, i, isAt.frame D.X (cf _) u.chg (fun k h1 h2 => D.dmx k h2 h1), (cm _).frame D.kn u.chg (fun k h1 h2 => D.dmk k h2 h1), ⟨at', kq.1, h2⟩, D.rd, D.ne, u.dis D.dmx (isAt.lt D.X (cf _)), u.dis D.dmk ((cm _).lt D.kn), D.dxk, kp.2, D.px, D.pk, kq.2, D.qx, D.qk, D.pq, fun k hk => by rcases u.sub k hk with h | h; exact D.nm k h; omega, D.nx, D.nk, D.np, D.nq, s, D.sx.mono hk, Nat.le_trans D.kl hk⟩
theorem PlF.updX (D : PlF W E w m mx Kn K B Fm Fx Fk kv) (i : RfI w' E.gx (toRf m') F') (u : UpdP Fx F' w w') (hk : K ≤ K') (s : St m' E.c K') : PlF W E w' m m' Kn K' B Fm F' Fk kv := by
  obtain ⟨at', h1, h2⟩ := D.sq
  have sz := D.chg.size
  have kp := u.keep D.hp D.px
  have kq := u.keep h1 D.qx
  exact ⟨chgW D.chg u.chg D.nx, kp.1, isAt.frame D.I (bY _) u.chg (fun k h1 h2 => D.dmx k h1 h2), i, (cm _).frame D.kn u.chg (fun k h1 h2 => D.dxk k h2 h1), ⟨at', kq.1, h2⟩, D.rd, D.ne, fun k h1 h2 => u.dis (fun k a b => D.dmx k b a) (isAt.lt D.I (bY _)) k h2 h1, D.dmk, u.dis D.dxk ((cm _).lt D.kn), D.pm, kp.2, D.pk, D.qm, kq.2, D.qk, D.pq, D.nm, fun k hk => by rcases u.sub k hk with h | h; exact D.nx k h; omega, D.nk, D.np, D.nq, D.sm.mono hk, s, Nat.le_trans D.kl hk⟩
end
end
end Go.Proofs.Ytgamnncehjcdiaa

namespace Go.Proofs.Ytgamnncehjcdiaa
open Go Ev Go.RowKit

section
variable {W W1 w w' : World} {E : PlE} {m mx : MdV} {Kn : List HnV} {K B : Nat} {Fm Fx Fk : Fp} {kv : Value} {o : OpV} {h : HnV} {g5 g6 g7 g8 B0 : Nat}
def AskP (W : World) (E : PlE) (W1 : World) (m mx : MdV) (Kn : List HnV) (K B : Nat) (Fm Fx Fk : Fp) (kv : Value) (v : Value) (w' : World) : Prop :=
  ∃ (n : Int) (o : OpV) (h : HnV), v = .tuple #[.int .i64 n, .agg (opC o).toArray, .agg (hnC h).toArray] ∧ PlF W E w' m mx Kn K B Fm Fx Fk kv ∧ Chg [E.q] W1 w'
theorem pl_c (D : PlF W E w m mx Kn K B Fm Fx Fk kv) {k : Nat} (hk : k < 6) : ldC (hp w E.gp) (0 + 0 + k) = (cfC E.c)[k]? := by
  rw [D.hp, ah, pairA, List.getElem?_toArray, show 0 + 0 + k = k by omega, List.getElem?_append_left (by simpa [cfC] using hk)]
theorem pl_m (D : PlF W E w m mx Kn K B Fm Fx Fk kv) : ldC (hp w E.gp) (0 + 6) = some (.pointer (some ⟨E.g, 0, none⟩)) := by rw [D.hp]; rfl
theorem pl_x (D : PlF W E w m mx Kn K B Fm Fx Fk kv) : ldC (hp w E.gp) (0 + 7) = some (.pointer (some ⟨E.gx, 0, none⟩)) := by rw [D.hp]; rfl
theorem pl_k (D : PlF W E w m mx Kn K B Fm Fx Fk kv) : ldC (hp w E.gp) (0 + 8) = some kv := by rw [D.hp]; rfl
theorem pl_kn (D : PlF W E w m mx Kn K B Fm Fx Fk kv) : ∃ A c, kv = .slice A Kn.length c ∧ RdV w A (Kn.flatMap hnC) := objs_sh ⟨_, D.kn⟩
theorem PlF.newer {B0 : Nat} (D1 : PlF W E W1 m mx Kn K B0 Fm Fx Fk kv) (D : PlF W E w m mx Kn K B Fm Fx Fk kv) {G : Fp} (cp : ChgP G w w') (hG : ∀ k, G k → W1.heap.size ≤ k) : PlF W E w' m mx Kn K B Fm Fx Fk kv := by
  obtain ⟨at', h1, h2⟩ := D.sq
  have lm := isAt.lt D1.I (bY _)
  have lx := isAt.lt D1.X (cf _)
  have lk := (cm _).lt D1.kn
  have lp := D1.plt
  have lq := D1.qlt
  have sz := D1.chg.size
  exact ⟨chgW D.chg cp (fun x hx => by have := hG x hx; omega), cp.at D.hp (fun h => by have := hG _ h; omega), isAt.frame D.I (bY _) cp (fun k h1 h2 => by have := lm k h1; have := hG k h2; omega), isAt.frame D.X (cf _) cp (fun k h1 h2 => by have := lx k h1; have := hG k h2; omega), (cm _).frame D.kn cp (fun k h1 h2 => by have := lk k h1; have := hG k h2; omega), ⟨at', cp.at h1 (fun h => by have := hG _ h; omega), h2⟩, D.rd, D.ne, D.dmx, D.dmk, D.dxk, D.pm, D.px, D.pk, D.qm, D.qx, D.qk, D.pq, D.nm, D.nx, D.nk, D.np, D.nq, D.sm, D.sx, D.kl⟩
theorem chgP_put (w : World) (x : Nat) (c : Array Value) (e : TypeId) : ChgP (fun k => k = x) w (put w x c e) := (ChgP.of (((Chg.refl [x] w).put (.inl (by simp)) c e))).mono fun k hk => by simpa using hk
theorem PlF.put {B0 : Nat} (D1 : PlF W E W1 m mx Kn K B0 Fm Fx Fk kv) (D : PlF W E w m mx Kn K B Fm Fx Fk kv) {x : Nat} (hx : W1.heap.size ≤ x) (c : Array Value) (e : TypeId) : PlF W E (Ev.put w x c e) m mx Kn K B Fm Fx Fk kv :=
  D1.newer D (chgP_put w x c e) fun k hk => by rw [hk]; exact hx
set_option maxHeartbeats 2000000 in
theorem l_asks0 (D1 : PlF W E W1 m mx Kn K B0 Fm Fx Fk kv) (D : PlF W E w m mx Kn K B Fm Fx Fk kv) (hm : mayC E.c = true) (hB : B ≤ 900000) (hW : Chg [E.q] W1 w)
    {c5 c6 : Array Value} {e5 e6 : TypeId} (h5 : hp w g5 = some (.cells c5 e5)) (s5 : c5.size = 6) (h6 : hp w g6 = some (.cells c6 e6)) (s6 : c6.size = 5) (h7 : hp w g7 = some (.cells (opC o).toArray 40)) (h8 : hp w g8 = some (.cells (hnC h).toArray 51))
    (n5 : W1.heap.size ≤ g5) (n6 : W1.heap.size ≤ g6) (n7 : W1.heap.size ≤ g7) (n8 : W1.heap.size ≤ g8) (ne : g5 ≠ g6) (ne58 : g5 ≠ g8) (ne57 : g5 ≠ g7) :
    P52_0 (.pointer (some ⟨E.gp, 0, none⟩)) (.pointer (some ⟨E.q, 0, none⟩)) (.pointer (some ⟨g5, 0, none⟩)) (.pointer (some ⟨g6, 0, none⟩)) (.pointer (some ⟨g7, 0, none⟩)) (.pointer (some ⟨g8, 0, none⟩)) w (AskP W E W1 m mx Kn K (B + 2) Fm Fx Fk kv) := by
  apply L52_0_ok
  obtain ⟨m1, m2, m3, m4⟩ := may_cf hm
  have cd : Chg [] w w.drew := (Chg.refl _ _).drew
  have hq := D1.qlt
  have Dd := D.keep cd
  have c0 : ldC (hp w E.gp) (0 + 0 + 0) = some (.int .i64 E.c.1) := pl_c D (by omega)
  have ldo : ∀ {w' : World} {b : Nat}, hp w' b = some (.cells (opC o).toArray 40) → ldv Try.prog 40 (.pointer (some ⟨b, 0, none⟩)) w' = some (.agg (opC o).toArray) := fun hw => bJ (t := 40) (c := (opC o).toArray) ag_40 (show (Try.prog.info? 40).map (·.size) = some (opC o).toArray.size from sz_40) hw
  have fin : ∀ (w3 : World) (n : Int), Chg [E.q] w.drew w3 → PlF W E w3 m mx Kn K (B + 2) Fm Fx Fk kv →
      effu Try.prog (Instr.storeAt 40 (.pointer (some ⟨g5, 0, none⟩)) (.agg (opC o).toArray)) w3 fun w => effu Try.prog (Instr.storeAt 51 (.pointer (some ⟨g6, 0, none⟩)) (.agg (hnC h).toArray)) w fun w => wpB (ldv Try.prog 40 (.pointer (some ⟨g5, 0, none⟩)) w) fun r5 => wpB (ldv Try.prog 51 (.pointer (some ⟨g6, 0, none⟩)) w) fun r6 => AskP W E W1 m mx Kn K (B + 2) Fm Fx Fk kv (.tuple #[.int .i64 n, r5, r6]) w := by
    intro w3 n c3 D3
    have k5 := c3.at (show hp w.drew g5 = _ from h5) (by simp; omega)
    have k6 := c3.at (show hp w.drew g6 = _ from h6) (by simp; omega)
    rw [st_40 rfl rfl (by rw [k5, okC_some]; exact decide_eq_true (by omega)) (by rw [k5]; exact s5), k5, bM]
    have k6' : hp (put w3 g5 (opC o).toArray e5) g6 = _ := (bS ne.symm _ _).trans k6
    rw [st_hn k6' s6]
    have j6 : hp (put (put w3 g5 (opC o).toArray e5) g6 (hnC h).toArray e6) g6 = some (.cells (hnC h).toArray e6) := bv (bz k6') _ _
    have j5 : hp (put (put w3 g5 (opC o).toArray e5) g6 (hnC h).toArray e6) g5 = some (.cells (opC o).toArray e5) := (bS ne _ _).trans (bv (bz k5) _ _)
    have l5 : ldv Try.prog 40 (.pointer (some ⟨g5, 0, none⟩)) (put (put w3 g5 (opC o).toArray e5) g6 (hnC h).toArray e6) = some (.agg (opC o).toArray) := bJ (t := 40) (c := (opC o).toArray) ag_40 (show (Try.prog.info? 40).map (·.size) = some (opC o).toArray.size from sz_40) j5
    have l6 : ldv Try.prog 51 (.pointer (some ⟨g6, 0, none⟩)) (put (put w3 g5 (opC o).toArray e5) g6 (hnC h).toArray e6) = some (.agg (hnC h).toArray) := bJ (t := 51) (c := (hnC h).toArray) ag_51 (show (Try.prog.info? 51).map (·.size) = some (hnC h).toArray.size from sz_51) j6
    rw [l5, l6, ad, ad]
    refine ⟨n, o, h, rfl, D1.put (D1.put D3 n5 _ _) n6 _ _, ?_⟩
    have cW : Chg [E.q] W1 w3 := (hW.trans (cd.mono (by simp))).trans c3
    exact (cW.put (.inr n5) _ _).put (.inr n6) _ _
  simp -implicitDefEqProofs only [L52_0, ad, ax, am, aM, aN, aQ, aR, av, ak, aJ, aK, aS, aT, ay, ap, aU, aV, aX, aY, ae, ac, aj, ag, z1z, z2z, z3z, z4z, aH, af, aD, aB, aC, aA, aE, aG, z5z, z6z, ah, z7z, z8z, au, fa_92_0, fa_74_0, bj, c0, bG, bC (n := E.c.1 + 1) (by omega) (by omega), ldo h7, ldo (show hp w.drew g7 = _ from h7), ld_hn h8, ld_hn (show hp w.drew g8 = _ from h8)]
  repeat' (with_reducible apply And.intro)
  all_goals
    refine Dd.N (by omega) (by omega) (by omega) fun r1 v1 h1 k1 D2 => ?_
    have a7 := k1.at (show hp w.drew g7 = _ from h7) (by simp; omega)
    have a8 := k1.at (show hp w.drew g8 = _ from h8) (by simp; omega)
    try simp -implicitDefEqProofs only [ldo a7, ld_hn a8, ad]
    refine D2.N (by omega) (by decide) (by decide) fun r2 v2 h2 k2 D3 => ?_
    have b7 := k2.at a7 (by simp; omega)
    have b8 := k2.at a8 (by simp; omega)
    simp -implicitDefEqProofs only [bp_sub, bC (n := (r1 : Int) - r2) (by omega) (by omega), ldo b7, ld_hn b8, ad]
    have f := fin v2 ((r1 : Int) - r2) (k1.trans k2) D3
    have j5 := (k1.trans k2).at (show hp w.drew g5 = _ from h5) (by simp; omega)
    first
      | exact f
      | (rw [st_40 rfl rfl (by rw [j5, okC_some]; exact decide_eq_true (by omega)) (by rw [j5]; exact s5), j5, bM] at f ⊢
         have i8 : hp (Ev.put v2 g5 (opC o).toArray e5) g8 = _ := (bS ne58.symm _ _).trans b8
         simp -implicitDefEqProofs only [ld_hn i8, ad]
         exact f)
theorem PlF.more (D : PlF W E w m mx Kn K B Fm Fx Fk kv) {B' : Nat} (hB : B ≤ B') : PlF W E w m mx Kn K B' Fm Fx Fk kv := by
  obtain ⟨at', h1, h2⟩ := D.sq
  exact ⟨D.chg, D.hp, D.I, D.X, D.kn, ⟨at', h1, by omega⟩, D.rd, D.ne, D.dmx, D.dmk, D.dxk, D.pm, D.px, D.pk, D.qm, D.qx, D.qk, D.pq, D.nm, D.nx, D.nk, D.np, D.nq, D.sm, D.sx, D.kl⟩
theorem AskP.more {B' : Nat} (hB : B ≤ B') {v : Value} (h : AskP W E W1 m mx Kn K B Fm Fx Fk kv v w) : AskP W E W1 m mx Kn K B' Fm Fx Fk kv v w := by
  obtain ⟨n, o, a, e, D, c⟩ := h
  exact ⟨n, o, a, e, D.more hB, c⟩
structure AsW (W : World) (E : PlE) (W1 w : World) (m mx : MdV) (Kn : List HnV) (K B : Nat) (Fm Fx Fk : Fp) (kv : Value) (g5 g6 g7 g8 : Nat) (o : OpV) (h : HnV) : Prop where
  D : PlF W E w m mx Kn K B Fm Fx Fk kv
  hW : Chg [E.q] W1 w
  h5 : hp w g5 = some (.cells (opC oZero).toArray 40)
  h6 : hp w g6 = some (.cells (hnC noH).toArray 51)
  h7 : hp w g7 = some (.cells (opC o).toArray 40)
  h8 : hp w g8 = some (.cells (hnC h).toArray 51)
structure AsN (W1 : World) (g5 g6 g7 g8 : Nat) : Prop where
  n5 : W1.heap.size ≤ g5
  n6 : W1.heap.size ≤ g6
  n7 : W1.heap.size ≤ g7
  n8 : W1.heap.size ≤ g8
  e56 : g5 ≠ g6
  e57 : g5 ≠ g7
  e58 : g5 ≠ g8
  e68 : g6 ≠ g8
  e78 : g7 ≠ g8
theorem AsW.N (S : AsW W E W1 w m mx Kn K B Fm Fx Fk kv g5 g6 g7 g8 o h) (G : AsN W1 g5 g6 g7 g8) (hq : E.q < W1.heap.size) (hB : B ≤ 900000) {n : Int} (h0 : 0 < n) (h1 : n ≤ 1000000) {Q : Value → World → Prop} (hk : ∀ (r : Nat) w', (r : Int) < n → AsW W E W1 w' m mx Kn K (B + 1) Fm Fx Fk kv g5 g6 g7 g8 o h → Q (.int .i64 r) w') :
    CallR Try.prog 50 [.pointer (some ⟨E.q, 0, none⟩), .int .i64 n] w Q := by
  obtain ⟨n5, n6, n7, n8, _⟩ := G
  exact S.D.N (by omega) h0 h1 fun r w' hr hc D' => hk r w' hr ⟨D', S.hW.trans hc, hc.at S.h5 (by simp; omega), hc.at S.h6 (by simp; omega), hc.at S.h7 (by simp; omega), hc.at S.h8 (by simp; omega)⟩
theorem AsW.keep (S : AsW W E W1 w m mx Kn K B Fm Fx Fk kv g5 g6 g7 g8 o h) (hc : Chg [] w w') : AsW W E W1 w' m mx Kn K B Fm Fx Fk kv g5 g6 g7 g8 o h :=
  ⟨S.D.keep hc, S.hW.trans (hc.mono (by simp)), hc.at S.h5 (by simp), hc.at S.h6 (by simp), hc.at S.h7 (by simp), hc.at S.h8 (by simp)⟩
theorem AsW.go (D1 : PlF W E W1 m mx Kn K B0 Fm Fx Fk kv) (S : AsW W E W1 w m mx Kn K B Fm Fx Fk kv g5 g6 g7 g8 o h) (G : AsN W1 g5 g6 g7 g8) (hm : mayC E.c = true) {T : Nat} (hB : B ≤ T) (hT : T ≤ 900000) :
    P52_0 (.pointer (some ⟨E.gp, 0, none⟩)) (.pointer (some ⟨E.q, 0, none⟩)) (.pointer (some ⟨g5, 0, none⟩)) (.pointer (some ⟨g6, 0, none⟩)) (.pointer (some ⟨g7, 0, none⟩)) (.pointer (some ⟨g8, 0, none⟩)) w (AskP W E W1 m mx Kn K (T + 2) Fm Fx Fk kv) :=
  l_asks0 D1 (S.D.more hB) hm hT S.hW S.h5 rfl S.h6 rfl S.h7 S.h8 G.n5 G.n6 G.n7 G.n8 G.e56 G.e58 G.e57
theorem AsW.st (D1 : PlF W E W1 m mx Kn K B0 Fm Fx Fk kv) (S : AsW W E W1 w m mx Kn K B Fm Fx Fk kv g5 g6 g7 g8 o h) (G : AsN W1 g5 g6 g7 g8) (hm : mayC E.c = true) {T : Nat} (hB : B ≤ T) (hT : T ≤ 900000) (h' : HnV) :
    effu Try.prog (Instr.storeAt 51 (.pointer (some ⟨g8, 0, none⟩)) (.agg (hnC h').toArray)) w fun w => P52_0 (.pointer (some ⟨E.gp, 0, none⟩)) (.pointer (some ⟨E.q, 0, none⟩)) (.pointer (some ⟨g5, 0, none⟩)) (.pointer (some ⟨g6, 0, none⟩)) (.pointer (some ⟨g7, 0, none⟩)) (.pointer (some ⟨g8, 0, none⟩)) w (AskP W E W1 m mx Kn K (T + 2) Fm Fx Fk kv) := by
  rw [st_hn S.h8 rfl]
  have S' : AsW W E W1 (Ev.put w g8 (hnC h').toArray 51) m mx Kn K B Fm Fx Fk kv g5 g6 g7 g8 o h' :=
    ⟨D1.put S.D G.n8 _ _, S.hW.put (.inr G.n8) _ _, (bS G.e58 _ _).trans S.h5, (bS G.e68 _ _).trans S.h6, (bS G.e78 _ _).trans S.h7, bv (bz S.h8) _ _⟩
  exact S'.go D1 G hm hB hT
set_option maxHeartbeats 4000000 in
theorem c_asks (D : PlF W E w m mx Kn K B Fm Fx Fk kv) (hm : mayC E.c = true) (hB : B ≤ 500000) (hK : K ≤ 1000) :
    CallR Try.prog 52 [.pointer (some ⟨E.gp, 0, none⟩), .pointer (some ⟨E.q, 0, none⟩)] w (AskP W E w m mx Kn K (B + 20 + 2) Fm Fx Fk kv) := by
  apply F52_ok
  have hq := D.qlt
  simp -implicitDefEqProofs only [F52, al_40, al_51, bf]
  generalize hw : (w.alloc _).alloc _ = w1
  have c1 : Chg [] w w1 := by rw [← hw]; exact ((Chg.refl _ _).alloc _).alloc _
  have z1 : w1.heap.size = w.heap.size + 2 := by rw [← hw, bf, bf]
  have a5 : hp w1 w.heap.size = some (.cells (opC oZero).toArray 40) := by rw [← hw, bc, bf, if_neg (by omega), bc, if_pos rfl]; rfl
  have a6 : hp w1 (w.heap.size + 1) = some (.cells (hnC noH).toArray 51) := by rw [← hw, bc, bf, if_pos rfl]; rfl
  clear hw
  have D0 := D.keep c1
  obtain ⟨at', sq, hat⟩ := D0.sq
  have En : Env w1 E.q E.A E.xs (.slice none 0 0) [] := ⟨D0.rd.keep D0.chg.below, fun p hp => by have := D.ne p hp; have := D.nq; omega, ⟨none, 0, [], rfl, fun j u hj => by simp at hj, rfl, fun j x ops hx => by simp at hx, fun p hp => by cases hp⟩, by omega, by simp, fun l hl => by simp at hl, by simp [tot]⟩
  refine (c_genOp En sq (by omega)).mono ?_
  rintro _ w2 ⟨o, at2, rfl, _, sq2, ha1, ha2, c2⟩
  have D2 := D0.seq (B' := B + 12) c2 ⟨at2, sq2, by omega⟩
  have b5 := c2.at a5 (by simp; omega)
  have b6 := c2.at a6 (by simp; omega)
  have s2 := c2.size
  rw [st_40 (b := w2.heap.size) rfl rfl (by rw [bc, if_pos rfl]; rfl) (by rw [bc, if_pos rfl]; rfl), bc, if_pos rfl, bM]
  simp -implicitDefEqProofs only [fa_40_1, fa_40_2, ad]
  generalize hw3 : Ev.put (w2.alloc _) w2.heap.size _ _ = w3
  have c3 : Chg [] w2 w3 := by rw [← hw3]; exact ((Chg.refl _ _).alloc _).put (.inr (Nat.le_refl _)) _ _
  have z3 : w3.heap.size = w2.heap.size + 1 := by rw [← hw3]; simp
  have a7 : hp w3 w2.heap.size = some (.cells (opC o).toArray 40) := by rw [← hw3]; exact bv (by simp) _ _
  clear hw3
  rw [st_3 (o := 0 + 1) rfl rfl (by rw [a7]; rfl), a7, getC_some, bM]
  have a7' := bv (bz a7) ((opC o).toArray.setIfInBounds (0 + 1) (.int .i64 0)) 40
  rw [st_3 (o := 0 + 2) rfl rfl (by rw [a7']; rfl), a7', getC_some, bM]
  have e7 : ((opC o).toArray.setIfInBounds (0 + 1) (.int .i64 0)).setIfInBounds (0 + 2) (.int .i64 0) = (opC (o.1, 0, 0, o.2.2.2.1, o.2.2.2.2.1, o.2.2.2.2.2)).toArray := rfl
  rw [e7]
  generalize hw4 : Ev.put (Ev.put w3 _ _ _) _ _ _ = w4
  have c4 : Chg [] w2 w4 := by rw [← hw4]; exact (c3.put (.inr (Nat.le_refl _)) _ _).put (.inr (Nat.le_refl _)) _ _
  have z4 : w4.heap.size = w2.heap.size + 1 := by rw [← hw4]; simpa using z3
  have b7 : hp w4 w2.heap.size = some (.cells (opC (o.1, 0, 0, o.2.2.2.1, o.2.2.2.2.1, o.2.2.2.2.2)).toArray 40) := by rw [← hw4]; exact bv (bz a7') _ _
  clear hw4 a7' e7
  simp -implicitDefEqProofs only [bdh_, ad]
  rw [st_hn (c := (hnC noH).toArray) (e := 51) (by rw [bc, if_pos rfl]; rfl) rfl]
  generalize hw5 : Ev.put (w4.alloc _) w4.heap.size _ _ = w5
  have c5 : Chg [] w4 w5 := by rw [← hw5]; exact ((Chg.refl _ _).alloc _).put (.inr (Nat.le_refl _)) _ _
  have b8 : hp w5 w4.heap.size = some (.cells (hnC noH).toArray 51) := by rw [← hw5]; exact bv (by simp) _ _
  clear hw5
  have c25 := c4.trans c5
  have cW : Chg [E.q] w w5 := ((c1.mono (by simp)).trans c2).trans (c25.mono (by simp))
  have S : AsW W E w w5 m mx Kn K (B + 12) Fm Fx Fk kv w.heap.size (w.heap.size + 1) w2.heap.size w4.heap.size (o.1, 0, 0, o.2.2.2.1, o.2.2.2.2.1, o.2.2.2.2.2) noH :=
    ⟨D2.keep c25, cW, c25.at b5 (by simp), c25.at b6 (by simp), c5.at b7 (by simp), b8⟩
  have G : AsN w w.heap.size (w.heap.size + 1) w2.heap.size w4.heap.size := ⟨Nat.le_refl _, by omega, by omega, by omega, by omega, by omega, by omega, by omega, by omega⟩
  clear b8 b7 a7 b5 b6 a5 a6 c5 c25 cW c4 c3 D2 sq2 En sq
  generalize w.heap.size + 1 = g6 at *
  generalize w2.heap.size = g7 at *
  generalize w4.heap.size = g8 at *
  generalize hg5 : w.heap.size = g5 at *
  have lit : ∀ w6 B6, AsW W E w w6 m mx Kn K B6 Fm Fx Fk kv g5 g6 g7 g8 (o.1, 0, 0, o.2.2.2.1, o.2.2.2.2.1, o.2.2.2.2.2) noH → B6 ≤ B + 13 →
      CallR Try.prog 50 [.pointer (some ⟨E.q, 0, none⟩), .int .i64 6] w6 fun t47 u => wpB (bp Try.prog .sub 3 t47 (.int .i64 1)) fun t48 =>
        CallR Try.prog 50 [.pointer (some ⟨E.q, 0, none⟩), .int .i64 3] u fun t50 u => CallR Try.prog 50 [.pointer (some ⟨E.q, 0, none⟩), .int .i64 3] u fun t52 u => CallR Try.prog 50 [.pointer (some ⟨E.q, 0, none⟩), .int .i64 3] u fun t54 u => CallR Try.prog 50 [.pointer (some ⟨E.q, 0, none⟩), .int .i64 3] u fun t56 u =>
        wpB (pureRun Try.prog (Instr.build 51 #[(0, t48), (1, t50), (2, t52), (3, t54), (4, t56)])) fun t57 => effu Try.prog (Instr.storeAt 51 (.pointer (some ⟨g8, 0, none⟩)) t57) u fun u =>
        P52_0 (.pointer (some ⟨E.gp, 0, none⟩)) (.pointer (some ⟨E.q, 0, none⟩)) (.pointer (some ⟨g5, 0, none⟩)) (.pointer (some ⟨g6, 0, none⟩)) (.pointer (some ⟨g7, 0, none⟩)) (.pointer (some ⟨g8, 0, none⟩)) u (AskP W E w m mx Kn K (B + 20 + 2) Fm Fx Fk kv) := by
    intro w6 B6 S6 hB6
    refine S6.N G D.qlt (by omega) (by decide) (by decide) fun r0 v0 h0 S7 => ?_
    simp -implicitDefEqProofs only [bp_sub, bC (n := (r0 : Int) - 1) (by omega) (by omega), ad]
    refine S7.N G D.qlt (by omega) (by decide) (by decide) fun r1 v1 h1 S8 => ?_
    refine S8.N G D.qlt (by omega) (by decide) (by decide) fun r2 v2 h2 S9 => ?_
    refine S9.N G D.qlt (by omega) (by decide) (by decide) fun r3 v3 h3 S10 => ?_
    refine S10.N G D.qlt (by omega) (by decide) (by decide) fun r4 v4 h4 S11 => ?_
    have hb : pureRun Try.prog (Instr.build 51 #[(0, .int .i64 ((r0 : Int) - 1)), (1, .int .i64 r1), (2, .int .i64 r2), (3, .int .i64 r3), (4, .int .i64 r4)]) = some (.agg (hnC ((r0 : Int) - 1, (r1 : Int), (r2 : Int), (r3 : Int), (r4 : Int))).toArray) := bd_51_0_1_2_3_4
    rw [hb, ad]
    exact AsW.st D S11 G hm (T := B + 20) (by omega) (by omega) _
  obtain ⟨A, ck, hkv, _⟩ := pl_kn S.D
  have hk8 := pl_k S.D
  rw [hkv] at hk8
  by_cases hn : (0 : Int) < Kn.length
  · simp -implicitDefEqProofs only [ad, ax, am, aM, aN, aQ, aR, av, ak, aJ, aK, aS, aT, ay, ap, aU, aV, aX, aY, ae, ac, aj, ag, z1z, z2z, z3z, z4z, aH, af, aD, aB, aC, aA, aE, aG, z5z, z6z, ah, z7z, z8z, au, fa_92_3, ld_90, hk8, len_90, aC, hn, gt_iff_lt]
    refine S.N G D.qlt (by omega) (by decide) (by decide) fun r v6 h6 S6 => ?_
    have S6d := S6.keep (Chg.refl [] v6).drew
    have k6 := pl_k S6.D
    rw [hkv] at k6
    by_cases hr : (0 : Int) < r
    · have hkl := S.D.kl
      obtain ⟨j, hj⟩ : ∃ j : Nat, (if (8 : Int) < Kn.length then (8 : Int) else Kn.length) = j := ⟨(if (8 : Int) < Kn.length then (8 : Int) else Kn.length).toNat, by split <;> omega⟩
      have hj1 : 1 ≤ j ∧ j ≤ 8 ∧ j ≤ Kn.length := by split at hj <;> omega
      have k6d : ldC (hp v6.drew E.gp) (0 + 8) = some (.slice A Kn.length ck) := k6
      simp -implicitDefEqProofs only [ad, ax, am, aM, aN, aQ, aR, av, ak, aJ, aK, aS, aT, ay, ap, aU, aV, aX, aY, ae, ac, aj, ag, z1z, z2z, z3z, z4z, aH, af, aD, aB, aC, aA, aE, aG, z5z, z6z, ah, z7z, z8z, au, aC, hr, gt_iff_lt, fa_92_3, ld_90, k6, k6d, len_90, bp_sub, bC (n := (Kn.length : Int) - 1) (by omega) (by omega), pr_min, hj]
      repeat' (with_reducible apply And.intro)
      all_goals
        refine S6d.N G D.qlt (by omega) (by omega) (by omega) fun r2 v7 h7 S7 => ?_
        have k7 := pl_k S7.D
        rw [hkv] at k7
        obtain ⟨A', ck', hkv', hR⟩ := pl_kn S7.D
        rw [hkv] at hkv'
        cases hkv'
        obtain ⟨i, hi⟩ : ∃ i : Nat, (Kn.length : Int) - 1 - r2 = i := ⟨((Kn.length : Int) - 1 - r2).toNat, by omega⟩
        obtain ⟨bb, oo, q1, _, q3, _⟩ := hR.elem (P := Try.prog) (c := ck) (n := Kn.length) (i := (i : Int)) (j := .i64) Try.underlying90 sz_51 (by omega) (by rw [flat_len hnC_len]; exact Nat.le_refl _) (by omega) (by omega)
        rw [Int.toNat_natCast, flat_at hnC_len Kn i (by omega)] at q3
        have l1 : ldv Try.prog 51 (.pointer (some ⟨bb, oo, none⟩)) v7 = some (.agg (hnC (Kn[i]'(by omega))).toArray) := by rw [ld_51, q3]; rfl
        simp -implicitDefEqProofs only [ad, ax, am, aM, aN, aQ, aR, av, ak, aJ, aK, aS, aT, ay, ap, aU, aV, aX, aY, ae, ac, aj, ag, z1z, z2z, z3z, z4z, aH, af, aD, aB, aC, aA, aE, aG, z5z, z6z, ah, z7z, z8z, au, fa_92_3, ld_90, k7, len_90, bp_sub, bC (n := (Kn.length : Int) - 1) (by omega) (by omega), hi, bC (n := (i : Int)) (by omega) (by omega), q1, l1]
        exact AsW.st D S7 G hm (T := B + 20) (by omega) (by omega) _
    · simp -implicitDefEqProofs only [ad, ax, am, aM, aN, aQ, aR, av, ak, aJ, aK, aS, aT, ay, ap, aU, aV, aX, aY, ae, ac, aj, ag, z1z, z2z, z3z, z4z, aH, af, aD, aB, aC, aA, aE, aG, z5z, z6z, ah, z7z, z8z, au, aC, hr, gt_iff_lt]
      exact lit _ _ S6 (by omega)
  · simp -implicitDefEqProofs only [ad, ax, am, aM, aN, aQ, aR, av, ak, aJ, aK, aS, aT, ay, ap, aU, aV, aX, aY, ae, ac, aj, ag, z1z, z2z, z3z, z4z, aH, af, aD, aB, aC, aA, aE, aG, z5z, z6z, ah, z7z, z8z, au, fa_92_3, ld_90, hk8, len_90, aC, hn, gt_iff_lt]
    exact lit _ _ S (by omega)
end
end Go.Proofs.Ytgamnncehjcdiaa

namespace Go.Proofs.Ytgamnncehjcdiaa
open Go Ev Go.RowKit

section
variable {W W1 w w' : World} {E : PlE} {m mx : MdV} {Kn : List HnV} {K B : Nat} {Fm Fx Fk : Fp} {kv : Value} {o : OpV} {h x : HnV} {g8 g9 g10 g14 g16 B0 nn : Nat}
def AnsP (W : World) (E : PlE) (W1 : World) (m mx : MdV) (Kn : List HnV) (K B : Nat) (Fm Fx Fk : Fp) (kv : Value) (v : Value) (w' : World) : Prop :=
  ∃ (r : RsV), v = .agg (rsC r).toArray ∧ PlF W E w' m mx Kn K B Fm Fx Fk kv ∧ Chg [E.q] W1 w'
structure AnW (W : World) (E : PlE) (W1 w : World) (m mx : MdV) (Kn : List HnV) (K B : Nat) (Fm Fx Fk : Fp) (kv : Value) (g8 g9 g10 : Nat) (o : OpV) (h : HnV) : Prop where
  D1 : ∃ B0, PlF W E W1 m mx Kn K B0 Fm Fx Fk kv
  D : PlF W E w m mx Kn K B Fm Fx Fk kv
  hW : Chg [E.q] W1 w
  h8 : hp w g8 = some (.cells (opC o).toArray 40)
  h9 : hp w g9 = some (.cells (hnC h).toArray 51)
  h10 : hp w g10 = some (.cells (rsC noR).toArray 53)
  n8 : W1.heap.size ≤ g8
  n9 : W1.heap.size ≤ g9
  n10 : W1.heap.size ≤ g10
theorem AnW.qlt (S : AnW W E W1 w m mx Kn K B Fm Fx Fk kv g8 g9 g10 o h) : E.q < W1.heap.size := by
  obtain ⟨B0, D1⟩ := S.D1
  exact D1.qlt
theorem AnW.qch (S : AnW W E W1 w m mx Kn K B Fm Fx Fk kv g8 g9 g10 o h) {B' : Nat} (hc : Chg [E.q] w w') (D : PlF W E w' m mx Kn K B' Fm Fx Fk kv) : AnW W E W1 w' m mx Kn K B' Fm Fx Fk kv g8 g9 g10 o h := by
  have := S.qlt
  have := S.n8
  have := S.n9
  have := S.n10
  exact ⟨S.D1, D, S.hW.trans hc, hc.at S.h8 (by simp; omega), hc.at S.h9 (by simp; omega), hc.at S.h10 (by simp; omega), S.n8, S.n9, S.n10⟩
theorem AnW.N (S : AnW W E W1 w m mx Kn K B Fm Fx Fk kv g8 g9 g10 o h) (hB : B ≤ 900000) {n : Int} (h0 : 0 < n) (h1 : n ≤ 1000000) {Q : Value → World → Prop} (hk : ∀ (r : Nat) w', (r : Int) < n → Chg [E.q] w w' → AnW W E W1 w' m mx Kn K (B + 1) Fm Fx Fk kv g8 g9 g10 o h → Q (.int .i64 r) w') :
    CallR Try.prog 50 [.pointer (some ⟨E.q, 0, none⟩), .int .i64 n] w Q :=
  S.D.N (by omega) h0 h1 fun r w' hr hc D' => hk r w' hr hc (S.qch hc D')
theorem AnW.keep (S : AnW W E W1 w m mx Kn K B Fm Fx Fk kv g8 g9 g10 o h) (hc : Chg [] w w') : AnW W E W1 w' m mx Kn K B Fm Fx Fk kv g8 g9 g10 o h :=
  ⟨S.D1, S.D.keep hc, S.hW.trans (hc.mono (by simp)), hc.at S.h8 (by simp), hc.at S.h9 (by simp), hc.at S.h10 (by simp), S.n8, S.n9, S.n10⟩
theorem AnW.put (S : AnW W E W1 w m mx Kn K B Fm Fx Fk kv g8 g9 g10 o h) {y : Nat} (hy : W1.heap.size ≤ y) (y8 : y ≠ g8) (y9 : y ≠ g9) (y10 : y ≠ g10) (c : Array Value) (e : TypeId) : AnW W E W1 (Ev.put w y c e) m mx Kn K B Fm Fx Fk kv g8 g9 g10 o h := by
  obtain ⟨B0, D1⟩ := S.D1
  exact ⟨⟨B0, D1⟩, D1.put S.D hy _ _, S.hW.put (.inr hy) _ _, (bS y8.symm _ _).trans S.h8, (bS y9.symm _ _).trans S.h9, (bS y10.symm _ _).trans S.h10, S.n8, S.n9, S.n10⟩
theorem AnW.ans (S : AnW W E W1 w m mx Kn K B Fm Fx Fk kv g8 g9 g10 o h) (r : RsV) {T : Nat} (hT : B ≤ T) :
    effu Try.prog (Instr.storeAt 53 (.pointer (some ⟨g10, 0, none⟩)) (.agg (rsC r).toArray)) w fun w => wpB (ldv Try.prog 53 (.pointer (some ⟨g10, 0, none⟩)) w) fun r10 => AnsP W E W1 m mx Kn K T Fm Fx Fk kv r10 w := by
  obtain ⟨B0, D1⟩ := S.D1
  rw [st_res S.h10 rfl, bV (bv (bz S.h10) _ _), ad]
  exact ⟨r, rfl, (D1.put S.D S.n10 _ _).more hT, S.hW.put (.inr S.n10) _ _⟩
set_option maxHeartbeats 1000000 in
theorem l_ans3 (S : AnW W E W1 w m mx Kn K B Fm Fx Fk kv g8 g9 g10 o h) (hB : B ≤ 900000) (h14 : hp w g14 = some (.cells (hnC x).toArray 51)) (n14 : W1.heap.size ≤ g14) {T : Nat} (hT : B + 1 ≤ T) :
    P55_3 (.pointer (some ⟨E.q, 0, none⟩)) (.pointer (some ⟨g10, 0, none⟩)) (.pointer (some ⟨g14, 0, none⟩)) w (AnsP W E W1 m mx Kn K T Fm Fx Fk kv) := by
  apply L55_3_ok
  have := S.qlt
  simp -implicitDefEqProofs only [L55_3]
  refine S.N (by omega) (by decide) (by decide) fun r v1 h1 c1 S1 => ?_
  have k14 := c1.at h14 (by simp; omega)
  by_cases hr : (r : Int) = 0
  · have e : ((r : Int) == 0) = true := by rw [hr]; rfl
    simp -implicitDefEqProofs only [ad, ax, am, aM, aN, aQ, aR, av, ak, aJ, aK, aS, aT, ay, ap, aU, aV, aX, aY, ae, ac, aj, ag, z1z, z2z, z3z, z4z, aH, af, aD, aB, aC, aA, aE, aG, z5z, z6z, ah, z7z, z8z, au, e, bdr_0]
    exact S1.ans _ hT
  · simp -implicitDefEqProofs only [ad, ax, am, aM, aN, aQ, aR, av, ak, aJ, aK, aS, aT, ay, ap, aU, aV, aX, aY, ae, ac, aj, ag, z1z, z2z, z3z, z4z, aH, af, aD, aB, aC, aA, aE, aG, z5z, z6z, ah, z7z, z8z, au, eqf hr, ld_hn k14, bdr_1]
    exact S1.ans _ hT
set_option maxHeartbeats 1000000 in
theorem l_ans2 (S : AnW W E W1 w m mx Kn K B Fm Fx Fk kv g8 g9 g10 o h) (hB : B ≤ 900000) (h14 : hp w g14 = some (.cells (hnC x).toArray 51)) (n14 : W1.heap.size ≤ g14) (e8 : g14 ≠ g8) (e9 : g14 ≠ g9) (e10 : g14 ≠ g10) {r : RsV} (h16 : hp w g16 = some (.cells (rsC r).toArray 53)) {T : Nat} (hT : B + 1 ≤ T) :
    P55_2 (.pointer (some ⟨E.q, 0, none⟩)) (.pointer (some ⟨g10, 0, none⟩)) (.pointer (some ⟨g14, 0, none⟩)) (.pointer (some ⟨g16, 0, none⟩)) w (AnsP W E W1 m mx Kn K T Fm Fx Fk kv) := by
  apply L55_2_ok
  have e2 : (rsC r).toArray[0 + 6]? = some (.int .i64 r.2.2.1) := rfl
  simp -implicitDefEqProofs only [L55_2, ad, ax, am, aM, aN, aQ, aR, av, ak, aJ, aK, aS, aT, ay, ap, aU, aV, aX, aY, ae, ac, aj, ag, z1z, z2z, z3z, z4z, aH, af, aD, aB, aC, aA, aE, aG, z5z, z6z, ah, z7z, z8z, au, fa_53_2, fa_51_3, bj, h16, e2]
  rw [st_3 (o := 0 + 3) rfl rfl (by rw [h14]; rfl), h14, getC_some, bM]
  exact l_ans3 (x := (x.1, x.2.1, x.2.2.1, r.2.2.1, x.2.2.2.2)) (S.put n14 e8 e9 e10 _ _) hB (bv (bz h14) _ _) n14 hT
set_option maxHeartbeats 4000000 in
theorem l_ans1 (S : AnW W E W1 w m mx Kn K B Fm Fx Fk kv g8 g9 g10 o h) (hB : B ≤ 800000) (hK : K ≤ 1000) (hn : (nn : Int) < E.c.1) (h14 : hp w g14 = some (.cells (hnC x).toArray 51)) (n14 : W1.heap.size ≤ g14) (e8 : g14 ≠ g8) (e9 : g14 ≠ g9) (e10 : g14 ≠ g10) {T : Nat} (hT : B + 2 ≤ T) :
    P55_1 (.pointer (some ⟨E.gp, 0, none⟩)) (.pointer (some ⟨E.q, 0, none⟩)) (.int .i64 nn) (.pointer (some ⟨g9, 0, none⟩)) (.pointer (some ⟨g10, 0, none⟩)) (.pointer (some ⟨g14, 0, none⟩)) w (AnsP W E W1 m mx Kn K T Fm Fx Fk kv) := by
  apply L55_1_ok
  have hq := S.qlt
  have sW := S.hW.size
  have cd : Chg [] w w.drew := (Chg.refl _ _).drew
  have Sd := S.keep cd
  have kx := pl_x Sd.D
  have kxw := pl_x S.D
  have u0 : (hnC h).toArray[0 + 0]? = some (.int .i64 h.1) := rfl
  have u1 : (hnC h).toArray[0 + 1]? = some (.int .i64 h.2.1) := rfl
  have hmay : mayV mx nn (12, 0, 0, 0, 0, 0) = true := by
    have h1 := S.D.sx.wn.cw
    rw [S.D.sx.mc] at h1
    have h2 : mayO (12, 0, 0, 0, 0, 0) = true := by decide
    rw [mayV, h2, decide_eq_true (show (0 : Int) ≤ nn by omega), decide_eq_true (show (nn : Int) < mx.hands.length by omega)]; rfl
  simp -implicitDefEqProofs only [L55_1, ad, ax, am, aM, aN, aQ, aR, av, ak, aJ, aK, aS, aT, ay, ap, aU, aV, aX, aY, ae, ac, aj, ag, z1z, z2z, z3z, z4z, aH, af, aD, aB, aC, aA, aE, aG, z5z, z6z, ah, z7z, z8z, au, fa_92_2, bX, ld_89, bj, kx, kxw, S.h9, u0]
  refine (c_rObjects Sd.D.X Sd.D.sx.wf Sd.D.sx.wn (by omega) h.1).mono ?_
  rintro v w2 ⟨⟨A, co, rfl, hR⟩, c2, hfr⟩
  have S2 := Sd.keep c2
  have k14 := (cd.trans c2).at h14 (by simp)
  have s2 := (cd.trans c2).size
  by_cases hl : (0 : Int) < (objsV mx h.1).length
  · simp -implicitDefEqProofs only [ad, ax, am, aM, aN, aQ, aR, av, ak, aJ, aK, aS, aT, ay, ap, aU, aV, aX, aY, ae, ac, aj, ag, z1z, z2z, z3z, z4z, aH, af, aD, aB, aC, aA, aE, aG, z5z, z6z, ah, z7z, z8z, au, len_90, aC, gt_iff_lt, hl]
    refine S2.N (by omega) (by decide) (by decide) fun r v3 h3 c3 S3 => ?_
    have j14 := c3.at k14 (by simp; omega)
    by_cases hr : (0 : Int) < r
    · have hol : (objsV mx h.1).length ≤ 1000 := by
        unfold objsV
        split
        · split
          · split
            · rename_i r' hr'
              exact Nat.le_trans (S.D.sx.wf.rg r' (List.mem_of_getElem? hr')).ol (by omega)
            · simp
          · simp
        · simp
      obtain ⟨i, hi⟩ : ∃ i : Nat, ((objsV mx h.1).length : Int) - 1 = i := ⟨(objsV mx h.1).length - 1, by omega⟩
      have hne : ∀ p, A = some p → p.block ≠ E.q := fun p hp => by
        have := hfr p _ _ (by rw [hp])
        have : w.drew.heap.size = w.heap.size := rfl
        omega
      have hR3 := hR.chg c3 fun p hp _ => by simpa using hne p hp
      obtain ⟨bb, oo, q1, q2, _⟩ := hR3.elem (P := Try.prog) (c := co) (n := (objsV mx h.1).length) (i := (i : Int)) (j := .i64) Try.underlying90 sz_51 (by omega) (by rw [flat_len hnC_len]; exact Nat.le_refl _) (by omega) (by omega)
      have hil : i < (objsV mx h.1).length := by omega
      have q22 := q2 2 (by omega)
      have fa5 := flat_at hnC_len (objsV mx h.1) i hil
      have fg := congrArg (fun l : List Value => l[2]?) fa5
      simp only [List.getElem?_take, List.getElem?_drop] at fg
      rw [if_pos (by omega)] at fg
      rw [Int.toNat_natCast, fg] at q22
      have q23 : ldC (hp v3 bb) (oo + 2) = some (.int .i64 ((objsV mx h.1)[i]).2.2.1) := q22
      simp -implicitDefEqProofs only [ad, ax, am, aM, aN, aQ, aR, av, ak, aJ, aK, aS, aT, ay, ap, aU, aV, aX, aY, ae, ac, aj, ag, z1z, z2z, z3z, z4z, aH, af, aD, aB, aC, aA, aE, aG, z5z, z6z, ah, z7z, z8z, au, len_90, aC, gt_iff_lt, hr, bp_sub, hi, bC (n := (i : Int)) (by omega) (by omega), q1, cj, bj, q23]
      rw [st_3 (o := 0 + 2) rfl rfl (by rw [j14]; rfl), j14, getC_some, bM]
      have S4 := S3.put n14 e8 e9 e10 ((hnC x).toArray.setIfInBounds (0 + 2) (.int .i64 ((objsV mx h.1)[i]).2.2.1)) 51
      have i14 : hp (Ev.put v3 g14 ((hnC x).toArray.setIfInBounds (0 + 2) (.int .i64 ((objsV mx h.1)[i]).2.2.1)) 51) g14 = some (.cells (hnC (x.1, x.2.1, ((objsV mx h.1)[i]).2.2.1, x.2.2.2.1, x.2.2.2.2)).toArray 51) := bv (bz j14) _ _
      generalize Ev.put v3 g14 ((hnC x).toArray.setIfInBounds (0 + 2) (.int .i64 ((objsV mx h.1)[i]).2.2.1)) 51 = w4 at *
      have cd4 : Chg [] w4 w4.drew := (Chg.refl _ _).drew
      have S4d := S4.keep cd4
      have k4 := pl_x S4.D
      have k4d := pl_x S4d.D
      have i14d := cd4.at i14 (by simp)
      have S4z := S4d.h9
      have S4y := S4.h9
      simp -implicitDefEqProofs only [ad, ax, am, aM, aN, aQ, aR, av, ak, aJ, aK, aS, aT, ay, ap, aU, aV, aX, aY, ae, ac, aj, ag, z1z, z2z, z3z, z4z, aH, af, aD, aB, aC, aA, aE, aG, z5z, z6z, ah, z7z, z8z, au, fa_92_2, bdo_0, bX, fa_51_1, ld_89, bj, k4, k4d, S4y, S4z, u0, u1, bdh_01, al_53]
      have fin : ∀ w6 r6 b, Chg [] w4.drew w6 → hp w6 b = some (.cells (rsC r6).toArray 53) → P55_2 (.pointer (some ⟨E.q, 0, none⟩)) (.pointer (some ⟨g10, 0, none⟩)) (.pointer (some ⟨g14, 0, none⟩)) (.pointer (some ⟨b, 0, none⟩)) w6 (AnsP W E W1 m mx Kn K T Fm Fx Fk kv) := fun w6 r6 b c6 h6 =>
        l_ans2 (S4d.keep c6) (by omega) (c6.at i14d (by simp)) n14 e8 e9 e10 h6 (by omega)
      repeat' (with_reducible apply And.intro)
      all_goals first
        | (have ca : Chg [] w4.drew (w4.drew.alloc (.cells (rsC noR).toArray 53)) := (Chg.refl _ _).alloc _
           refine (c_rMust (S4d.D.X.keep ca) S4d.D.sx.wf (by omega) hmay (h.1, h.2.1, 0, 0, 0)).mono ?_
           rintro _ w6 ⟨rfl, c6⟩
           have a6 := c6.at (show hp (w4.drew.alloc (.cells (rsC noR).toArray 53)) w4.drew.heap.size = some (.cells (rsC noR).toArray 53) by rw [bc, if_pos rfl]) (by simp)
           simp -implicitDefEqProofs only [tup0, tup1, ad, ax, am, aM, aN, aQ, aR, av, ak, aJ, aK, aS, aT, ay, ap, aU, aV, aX, aY, ae, ac, aj, ag, z1z, z2z, z3z, z4z, aH, af, aD, aB, aC, aA, aE, aG, z5z, z6z, ah, z7z, z8z, au]
           rw [st_res a6 rfl]
           exact fin _ _ _ ((ca.trans c6).put (.inr (Nat.le_refl _)) _ _) (bv (bz a6) _ _))
        | (refine (c_rMust S4d.D.X S4d.D.sx.wf (by omega) hmay (h.1, h.2.1, 0, 0, 0)).mono ?_
           rintro _ w6 ⟨rfl, c6⟩
           simp -implicitDefEqProofs only [tup0, tup1, ad, ax, am, aM, aN, aQ, aR, av, ak, aJ, aK, aS, aT, ay, ap, aU, aV, aX, aY, ae, ac, aj, ag, z1z, z2z, z3z, z4z, aH, af, aD, aB, aC, aA, aE, aG, z5z, z6z, ah, z7z, z8z, au, al_53]
           have a6 : hp (w6.alloc (.cells (rsC noR).toArray 53)) w6.heap.size = some (.cells (rsC noR).toArray 53) := by rw [bc, if_pos rfl]
           have ca : Chg [] w6 (w6.alloc (.cells (rsC noR).toArray 53)) := (Chg.refl _ _).alloc _
           erw [st_res a6 rfl]
           exact fin _ _ _ ((c6.trans ca).put (.inr c6.size) _ _) (bv (bz a6) _ _))
    · simp -implicitDefEqProofs only [ad, ax, am, aM, aN, aQ, aR, av, ak, aJ, aK, aS, aT, ay, ap, aU, aV, aX, aY, ae, ac, aj, ag, z1z, z2z, z3z, z4z, aH, af, aD, aB, aC, aA, aE, aG, z5z, z6z, ah, z7z, z8z, au, len_90, aC, gt_iff_lt, hr]
      exact l_ans3 S3 (by omega) j14 n14 (by omega)
  · simp -implicitDefEqProofs only [ad, ax, am, aM, aN, aQ, aR, av, ak, aJ, aK, aS, aT, ay, ap, aU, aV, aX, aY, ae, ac, aj, ag, z1z, z2z, z3z, z4z, aH, af, aD, aB, aC, aA, aE, aG, z5z, z6z, ah, z7z, z8z, au, len_90, aC, gt_iff_lt, hl]
    exact l_ans3 S2 (by omega) k14 n14 (by omega)
end
end Go.Proofs.Ytgamnncehjcdiaa

namespace Go.Proofs.Ytgamnncehjcdiaa
open Go Ev Go.RowKit

section
variable {W W1 w w' : World} {E : PlE} {m mx : MdV} {Kn : List HnV} {K B : Nat} {Fm Fx Fk : Fp} {kv : Value} {o : OpV} {h x : HnV} {g8 g9 g10 g11 B0 nn : Nat}
set_option maxHeartbeats 8000000 in
theorem l_ans0 (S : AnW W E W1 w m mx Kn K B Fm Fx Fk kv g8 g9 g10 o h) (hm : mayC E.c = true) (hB : B ≤ 700000) (hK : K ≤ 1000) (hn : (nn : Int) < E.c.1) {r : RsV} {t : Bool} (h11 : hp w g11 = some (.cells (rsC r).toArray 53)) {T : Nat} (hT : B + 4 ≤ T) :
    P55_0 (.pointer (some ⟨E.gp, 0, none⟩)) (.pointer (some ⟨E.q, 0, none⟩)) (.int .i64 nn) (.pointer (some ⟨g8, 0, none⟩)) (.pointer (some ⟨g9, 0, none⟩)) (.pointer (some ⟨g10, 0, none⟩)) (.pointer (some ⟨g11, 0, none⟩)) (.bool t) w (AnsP W E W1 m mx Kn K T Fm Fx Fk kv) := by
  apply L55_0_ok
  obtain ⟨m1, m2, m3, m4⟩ := may_cf hm
  have hq := S.qlt
  cases t with
  | true =>
    simp -implicitDefEqProofs only [L55_0, ad, ax, am, aM, aN, aQ, aR, av, ak, aJ, aK, aS, aT, ay, ap, aU, aV, aX, aY, ae, ac, aj, ag, z1z, z2z, z3z, z4z, aH, af, aD, aB, aC, aA, aE, aG, z5z, z6z, ah, z7z, z8z, au, bV h11]
    exact S.ans _ (by omega)
  | false =>
  by_cases k1 : o.1 = 1
  · have e1 : (o.1 == 1) = true := by rw [k1]; rfl
    have c3 : ldC (hp w E.gp) (0 + 0 + 3) = some (.int .i64 E.c.2.2.2.1) := pl_c S.D (by omega)
    simp -implicitDefEqProofs only [L55_0, ad, ax, am, aM, aN, aQ, aR, av, ak, aJ, aK, aS, aT, ay, ap, aU, aV, aX, aY, ae, ac, aj, ag, z1z, z2z, z3z, z4z, aH, af, aD, aB, aC, aA, aE, aG, z5z, z6z, ah, z7z, z8z, au, bq, bj, S.h8, bD, e1, fa_92_0, fa_74_3, c3]
    refine S.N (by omega) (by omega) (by omega) fun s v1 h1 c1 S1 => ?_
    refine S1.N (by omega) (by decide) (by decide) fun t v2 h2 c2 S2 => ?_
    by_cases ht : (t : Int) = 0
    · have e : ((t : Int) == 0) = true := by rw [ht]; rfl
      simp -implicitDefEqProofs only [ad, ax, am, aM, aN, aQ, aR, av, ak, aJ, aK, aS, aT, ay, ap, aU, aV, aX, aY, ae, ac, aj, ag, z1z, z2z, z3z, z4z, aH, af, aD, aB, aC, aA, aE, aG, z5z, z6z, ah, z7z, z8z, au, e, bdr_0]
      exact S2.ans _ (by omega)
    · have kx := pl_x S2.D
      obtain ⟨sv, gn, rv, dd, hh, R⟩ := S2.D.X.rd
      obtain ⟨A, ca, rfl, hR⟩ := ints_sh R.gT
      have cs := S2.D.sx.wn.cs
      rw [S2.D.sx.mc] at cs
      have hl : (toRf mx).gen.length = mx.slots.length := by simp [toRf]
      have hsl : s < mx.slots.length := by omega
      have hgs : (toRf mx).gen[s]? = some (mx.slots[s]).2 := by simp [toRf, hsl]
      obtain ⟨p, p1, p2⟩ := int_at (c := ca) hR hgs
      have hp1 := S2.D.sx.wn.gk _ (List.getElem_mem hsl)
      simp -implicitDefEqProofs only [ad, ax, am, aM, aN, aQ, aR, av, ak, aJ, aK, aS, aT, ay, ap, aU, aV, aX, aY, ae, ac, aj, ag, z1z, z2z, z3z, z4z, aH, af, aD, aB, aC, aA, aE, aG, z5z, z6z, ah, z7z, z8z, au, eqf ht, fa_92_2, ld_89, kx, fa_154_3, ce, R.gl, p1]
      rw [← bj] at *
      simp -implicitDefEqProofs only [p2, ad]
      refine (c_rLater _ (by omega) v2 (by omega)).step ?_
      simp -implicitDefEqProofs only [bdh_01, bdr_1, ad]
      exact S2.ans _ (by omega)
  · have cd : Chg [] w w.drew := (Chg.refl _ _).drew
    have Sd := S.keep cd
    have c1 : ldC (hp w E.gp) (0 + 0 + 1) = some (.int .i64 E.c.2.1) := pl_c S.D (by omega)
    have u0 : (hnC h).toArray[0 + 0]? = some (.int .i64 h.1) := rfl
    have u1 : (hnC h).toArray[0 + 1]? = some (.int .i64 h.2.1) := rfl
    have b8 := bz S.h8
    have b9 := bz S.h9
    have b10 := bz S.h10
    have sW := S.hW.size
    have hbd : ∀ a b c d : Int, pureRun Try.prog (Instr.build 51 #[(0, .int .i64 a), (1, .int .i64 b), (2, .int .i64 c), (4, .int .i64 d)]) = some (.agg (hnC (a, b, c, 0, d)).toArray) := fun a b c d => bd_51_0_1_2_4
    simp -implicitDefEqProofs only [L55_0, ad, ax, am, aM, aN, aQ, aR, av, ak, aJ, aK, aS, aT, ay, ap, aU, aV, aX, aY, ae, ac, aj, ag, z1z, z2z, z3z, z4z, aH, af, aD, aB, aC, aA, aE, aG, z5z, z6z, ah, z7z, z8z, au, bq, bj, S.h8, bD, eqf k1, fa_92_0, fa_74_1, c1, bX, fa_51_1, S.h9, u0, u1, bT, op_3, al_51]
    repeat' (with_reducible apply And.intro)
    all_goals first
      | (have ca : Chg [] w.drew (w.drew.alloc (.cells (hnC noH).toArray 51)) := (Chg.refl _ _).alloc _
         have aa : hp (w.drew.alloc (.cells (hnC noH).toArray 51)) w.drew.heap.size = some (.cells (hnC noH).toArray 51) := by rw [bc, if_pos rfl]
         have szd : w.drew.heap.size = w.heap.size := rfl
         refine (Sd.keep ca).N (by omega) (by omega) (by omega) fun r2 v1 h1 k1 S1 => ?_
         have a1 := k1.at aa (by simp; omega)
         simp -implicitDefEqProofs only [ad, ax, am, aM, aN, aQ, aR, av, ak, aJ, aK, aS, aT, ay, ap, aU, aV, aX, aY, ae, ac, aj, ag, z1z, z2z, z3z, z4z, aH, af, aD, aB, aC, aA, aE, aG, z5z, z6z, ah, z7z, z8z, au, bT, bj, S1.h8, op_3, bX, fa_51_1, S1.h9, u0, u1, hbd]
         rw [st_hn a1 rfl]
         exact l_ans1 (S1.put (by omega) (by omega) (by omega) (by omega) _ _) (by omega) hK hn (bv (bz a1) _ _) (by omega) (by omega) (by omega) (by omega) (by omega))
      | (refine Sd.N (by omega) (by omega) (by omega) fun r2 v1 h1 k1 S1 => ?_
         simp -implicitDefEqProofs only [ad, ax, am, aM, aN, aQ, aR, av, ak, aJ, aK, aS, aT, ay, ap, aU, aV, aX, aY, ae, ac, aj, ag, z1z, z2z, z3z, z4z, aH, af, aD, aB, aC, aA, aE, aG, z5z, z6z, ah, z7z, z8z, au, bT, bj, S1.h8, op_3, bX, fa_51_1, S1.h9, u0, u1, hbd]
         have szd : w.drew.heap.size = w.heap.size := rfl
         have sz1 := k1.size
         have ca : Chg [] v1 (v1.alloc (.cells (hnC noH).toArray 51)) := (Chg.refl _ _).alloc _
         have aa : hp (v1.alloc (.cells (hnC noH).toArray 51)) v1.heap.size = some (.cells (hnC noH).toArray 51) := by rw [bc, if_pos rfl]
         have S2 := S1.keep ca
         erw [st_hn aa rfl]
         exact l_ans1 (S2.put (by omega) (by omega) (by omega) (by omega) _ _) (by omega) hK hn (bv (bz aa) _ _) (by omega) (by omega) (by omega) (by omega) (by omega))
def codesL : List Int := [0, 3, 4, 7, 6, 2]
theorem br {b r : Nat} (hr : r < 6) : pureRun Try.prog (Instr.indexAt 161 (.slice (some ⟨b, 0, none⟩) 6 6) (.int .i64 (r : Int))) = some (.pointer (some ⟨b, 0 + r * 1, none⟩)) ∧ ∀ {e : TypeId}, ldC (some (.cells (ints codesL).toArray e)) (0 + r * 1) = some (.int .i64 (codesL.getD r 0)) := by
  constructor
  · have := ia_161 (b := b) (p := 0) (n := 6) (c := 6) (j := .i64) (i := (r : Int)) (by omega) (by omega)
    rw [Int.toNat_natCast] at this
    exact this
  · intro e
    have : r = 0 ∨ r = 1 ∨ r = 2 ∨ r = 3 ∨ r = 4 ∨ r = 5 := by omega
    rcases this with rfl | rfl | rfl | rfl | rfl | rfl <;> rfl
set_option maxHeartbeats 8000000 in
theorem c_answer (D : PlF W E w m mx Kn K B Fm Fx Fk kv) (hm : mayC E.c = true) (hB : B ≤ 500000) (hK : K ≤ 1000) (n : Int) (o : OpV) (h : HnV) :
    CallR Try.prog 55 [.pointer (some ⟨E.gp, 0, none⟩), .pointer (some ⟨E.q, 0, none⟩), .int .i64 n, .agg (opC o).toArray, .agg (hnC h).toArray] w (AnsP W E w m mx Kn K (B + 6) Fm Fx Fk kv) := by
  apply F55_ok
  have hq := D.qlt
  simp -implicitDefEqProofs only [F55, bE, bA, al_53, bf]
  generalize hw : ((w.alloc (.cells (opC o).toArray 40)).alloc _).alloc _ = w1
  have c1 : Chg [] w w1 := by rw [← hw]; exact (((Chg.refl _ _).alloc _).alloc _).alloc _
  have b8 : hp w1 w.heap.size = some (.cells (opC o).toArray 40) := by rw [← hw, bc, bf, bf, if_neg (by omega), bc, bf, if_neg (by omega), bc, if_pos rfl]
  have b9 : hp w1 (w.heap.size + 1) = some (.cells (hnC h).toArray 51) := by rw [← hw, bc, bf, bf, if_neg (by omega), bc, bf, if_pos rfl]
  have b10 : hp w1 (w.heap.size + 1 + 1) = some (.cells (rsC noR).toArray 53) := by rw [← hw, bc, bf, bf, if_pos rfl]; rfl
  clear hw
  have S : AnW W E w w1 m mx Kn K B Fm Fx Fk kv w.heap.size (w.heap.size + 1) (w.heap.size + 1 + 1) o h := ⟨⟨B, D⟩, D.keep c1, c1.mono (by simp), b8, b9, b10, Nat.le_refl _, by omega, by omega⟩
  clear b8 b9 b10 c1
  generalize w.heap.size + 1 + 1 = g10 at *
  generalize w.heap.size + 1 = g9 at *
  generalize hg8 : w.heap.size = g8 at *
  refine S.N (by omega) (by decide) (by decide) fun r0 v0 h0 k0 S0 => ?_
  have hbd : ∀ a b c : Int, pureRun Try.prog (Instr.build 53 #[(0, .int .i64 a), (2, .int .i64 b), (3, .int .u64 c)]) = some (.agg (rsC (a, noH, b, c)).toArray) := fun a b c => bd_53_0_2_3
  by_cases hr : (r0 : Int) = 0
  · have e0 : ((r0 : Int) == 0) = true := by rw [hr]; rfl
    have hqv := S0.D.qlt
    have Sd := S0.keep (Chg.refl [] v0).drew
    simp -implicitDefEqProofs only [ad, ax, am, aM, aN, aQ, aR, av, ak, aJ, aK, aS, aT, ay, ap, aU, aV, aX, aY, ae, ac, aj, ag, z1z, z2z, z3z, z4z, aH, af, aD, aB, aC, aA, aE, aG, z5z, z6z, ah, z7z, z8z, au, e0]
    refine ⟨⟨?_, ?_, ?_⟩, ⟨?_, ?_, ?_⟩, ⟨?_, ?_⟩, ?_⟩
    · rw [bs_161_6]
      have cb : Chg [] v0.drew (v0.drew.alloc (.cells (ints codesL).toArray 29)) := (Chg.refl _ _).alloc _
      have hb : hp (v0.drew.alloc (.cells (ints codesL).toArray 29)) v0.drew.heap.size = some (.cells (ints codesL).toArray 29) := by rw [bc, if_pos rfl]
      have Sb := Sd.keep cb
      have qb := Sd.D.qlt
      have ea : (v0.drew.alloc (.cells #[.int .i64 0, .int .i64 3, .int .i64 4, .int .i64 7, .int .i64 6, .int .i64 2] 29)) = v0.drew.alloc (.cells (ints codesL).toArray 29) := rfl
      rw [ea]
      refine Sb.N (by omega) (by decide) (by decide) fun r6 v1 h6 k1 S1 => ?_
      have hb1 := k1.at hb (by simp; omega)
      try simp -implicitDefEqProofs only [(br (r := r6) (by omega)).1, bU, hb1, (br (r := r6) (b := 0) (by omega)).2, ad]
      try simp -implicitDefEqProofs only [(br (r := r6) (by omega)).1, bU, hb1, (br (r := r6) (b := 0) (by omega)).2, ad]
      refine S1.N (by omega) (by decide) (by decide) fun r2 v2 h2 k2 S2 => ?_
      have hb2 := k2.at hb1 (by simp; omega)
      try simp -implicitDefEqProofs only [(br (r := r6) (by omega)).1, bU, hb2, (br (r := r6) (b := 0) (by omega)).2, ad]
      refine S2.N (by omega) (by decide) (by decide) fun r3 v3 h3 k3 S3 => ?_
      have hb3 := k3.at hb2 (by simp; omega)
      try simp -implicitDefEqProofs only [cv_3_38, ad]
      try simp -implicitDefEqProofs only [(br (r := r6) (by omega)).1, bU, hb3, (br (r := r6) (b := 0) (by omega)).2, ad]
      simp -implicitDefEqProofs only [(br (r := r6) (by omega)).1, bU, hb3, (br (r := r6) (b := 0) (by omega)).2, cv_3_38, hbd, ad]
      exact AnW.ans S3 _ (by omega)
    · rw [bs_161_6]
      have cb : Chg [] v0.drew (v0.drew.alloc (.cells (ints codesL).toArray 29)) := (Chg.refl _ _).alloc _
      have hb : hp (v0.drew.alloc (.cells (ints codesL).toArray 29)) v0.drew.heap.size = some (.cells (ints codesL).toArray 29) := by rw [bc, if_pos rfl]
      have Sb := Sd.keep cb
      have qb := Sd.D.qlt
      have ea : (v0.drew.alloc (.cells #[.int .i64 0, .int .i64 3, .int .i64 4, .int .i64 7, .int .i64 6, .int .i64 2] 29)) = v0.drew.alloc (.cells (ints codesL).toArray 29) := rfl
      rw [ea]
      refine Sb.N (by omega) (by decide) (by decide) fun r6 v1 h6 k1 S1 => ?_
      have hb1 := k1.at hb (by simp; omega)
      try simp -implicitDefEqProofs only [(br (r := r6) (by omega)).1, bU, hb1, (br (r := r6) (b := 0) (by omega)).2, ad]
      refine S1.N (by omega) (by decide) (by decide) fun r2 v2 h2 k2 S2 => ?_
      have hb2 := k2.at hb1 (by simp; omega)
      try simp -implicitDefEqProofs only [(br (r := r6) (by omega)).1, bU, hb2, (br (r := r6) (b := 0) (by omega)).2, ad]
      try simp -implicitDefEqProofs only [(br (r := r6) (by omega)).1, bU, hb2, (br (r := r6) (b := 0) (by omega)).2, ad]
      refine S2.N (by omega) (by decide) (by decide) fun r3 v3 h3 k3 S3 => ?_
      have hb3 := k3.at hb2 (by simp; omega)
      try simp -implicitDefEqProofs only [cv_3_38, ad]
      try simp -implicitDefEqProofs only [(br (r := r6) (by omega)).1, bU, hb3, (br (r := r6) (b := 0) (by omega)).2, ad]
      simp -implicitDefEqProofs only [(br (r := r6) (by omega)).1, bU, hb3, (br (r := r6) (b := 0) (by omega)).2, cv_3_38, hbd, ad]
      exact AnW.ans S3 _ (by omega)
    · rw [bs_161_6]
      have cb : Chg [] v0.drew (v0.drew.alloc (.cells (ints codesL).toArray 29)) := (Chg.refl _ _).alloc _
      have hb : hp (v0.drew.alloc (.cells (ints codesL).toArray 29)) v0.drew.heap.size = some (.cells (ints codesL).toArray 29) := by rw [bc, if_pos rfl]
      have Sb := Sd.keep cb
      have qb := Sd.D.qlt
      have ea : (v0.drew.alloc (.cells #[.int .i64 0, .int .i64 3, .int .i64 4, .int .i64 7, .int .i64 6, .int .i64 2] 29)) = v0.drew.alloc (.cells (ints codesL).toArray 29) := rfl
      rw [ea]
      refine Sb.N (by omega) (by decide) (by decide) fun r6 v1 h6 k1 S1 => ?_
      have hb1 := k1.at hb (by simp; omega)
      try simp -implicitDefEqProofs only [(br (r := r6) (by omega)).1, bU, hb1, (br (r := r6) (b := 0) (by omega)).2, ad]
      refine S1.N (by omega) (by decide) (by decide) fun r2 v2 h2 k2 S2 => ?_
      have hb2 := k2.at hb1 (by simp; omega)
      try simp -implicitDefEqProofs only [(br (r := r6) (by omega)).1, bU, hb2, (br (r := r6) (b := 0) (by omega)).2, ad]
      refine S2.N (by omega) (by decide) (by decide) fun r3 v3 h3 k3 S3 => ?_
      have hb3 := k3.at hb2 (by simp; omega)
      try simp -implicitDefEqProofs only [cv_3_38, ad]
      try simp -implicitDefEqProofs only [(br (r := r6) (by omega)).1, bU, hb3, (br (r := r6) (b := 0) (by omega)).2, ad]
      try simp -implicitDefEqProofs only [(br (r := r6) (by omega)).1, bU, hb3, (br (r := r6) (b := 0) (by omega)).2, ad]
      simp -implicitDefEqProofs only [(br (r := r6) (by omega)).1, bU, hb3, (br (r := r6) (b := 0) (by omega)).2, cv_3_38, hbd, ad]
      exact AnW.ans S3 _ (by omega)
    · refine Sd.N (by omega) (by decide) (by decide) fun r6 v1 h6 k1 S1 => ?_
      rw [bs_161_6]
      have cb : Chg [] v1 (v1.alloc (.cells (ints codesL).toArray 29)) := (Chg.refl _ _).alloc _
      have hb : hp (v1.alloc (.cells (ints codesL).toArray 29)) v1.heap.size = some (.cells (ints codesL).toArray 29) := by rw [bc, if_pos rfl]
      have Sb := S1.keep cb
      have qb := S1.D.qlt
      have ea : (v1.alloc (.cells #[.int .i64 0, .int .i64 3, .int .i64 4, .int .i64 7, .int .i64 6, .int .i64 2] 29)) = v1.alloc (.cells (ints codesL).toArray 29) := rfl
      rw [ea]
      try simp -implicitDefEqProofs only [(br (r := r6) (by omega)).1, bU, hb, (br (r := r6) (b := 0) (by omega)).2, ad]
      try simp -implicitDefEqProofs only [(br (r := r6) (by omega)).1, bU, hb, (br (r := r6) (b := 0) (by omega)).2, ad]
      refine Sb.N (by omega) (by decide) (by decide) fun r2 v2 h2 k2 S2 => ?_
      have hb2 := k2.at hb (by simp; omega)
      try simp -implicitDefEqProofs only [(br (r := r6) (by omega)).1, bU, hb2, (br (r := r6) (b := 0) (by omega)).2, ad]
      refine S2.N (by omega) (by decide) (by decide) fun r3 v3 h3 k3 S3 => ?_
      have hb3 := k3.at hb2 (by simp; omega)
      try simp -implicitDefEqProofs only [cv_3_38, ad]
      try simp -implicitDefEqProofs only [(br (r := r6) (by omega)).1, bU, hb3, (br (r := r6) (b := 0) (by omega)).2, ad]
      simp -implicitDefEqProofs only [(br (r := r6) (by omega)).1, bU, hb3, (br (r := r6) (b := 0) (by omega)).2, cv_3_38, hbd, ad]
      exact AnW.ans S3 _ (by omega)
    · refine Sd.N (by omega) (by decide) (by decide) fun r6 v1 h6 k1 S1 => ?_
      rw [bs_161_6]
      have cb : Chg [] v1 (v1.alloc (.cells (ints codesL).toArray 29)) := (Chg.refl _ _).alloc _
      have hb : hp (v1.alloc (.cells (ints codesL).toArray 29)) v1.heap.size = some (.cells (ints codesL).toArray 29) := by rw [bc, if_pos rfl]
      have Sb := S1.keep cb
      have qb := S1.D.qlt
      have ea : (v1.alloc (.cells #[.int .i64 0, .int .i64 3, .int .i64 4, .int .i64 7, .int .i64 6, .int .i64 2] 29)) = v1.alloc (.cells (ints codesL).toArray 29) := rfl
      rw [ea]
      try simp -implicitDefEqProofs only [(br (r := r6) (by omega)).1, bU, hb, (br (r := r6) (b := 0) (by omega)).2, ad]
      refine Sb.N (by omega) (by decide) (by decide) fun r2 v2 h2 k2 S2 => ?_
      have hb2 := k2.at hb (by simp; omega)
      try simp -implicitDefEqProofs only [(br (r := r6) (by omega)).1, bU, hb2, (br (r := r6) (b := 0) (by omega)).2, ad]
      try simp -implicitDefEqProofs only [(br (r := r6) (by omega)).1, bU, hb2, (br (r := r6) (b := 0) (by omega)).2, ad]
      refine S2.N (by omega) (by decide) (by decide) fun r3 v3 h3 k3 S3 => ?_
      have hb3 := k3.at hb2 (by simp; omega)
      try simp -implicitDefEqProofs only [cv_3_38, ad]
      try simp -implicitDefEqProofs only [(br (r := r6) (by omega)).1, bU, hb3, (br (r := r6) (b := 0) (by omega)).2, ad]
      simp -implicitDefEqProofs only [(br (r := r6) (by omega)).1, bU, hb3, (br (r := r6) (b := 0) (by omega)).2, cv_3_38, hbd, ad]
      exact AnW.ans S3 _ (by omega)
    · refine Sd.N (by omega) (by decide) (by decide) fun r6 v1 h6 k1 S1 => ?_
      rw [bs_161_6]
      have cb : Chg [] v1 (v1.alloc (.cells (ints codesL).toArray 29)) := (Chg.refl _ _).alloc _
      have hb : hp (v1.alloc (.cells (ints codesL).toArray 29)) v1.heap.size = some (.cells (ints codesL).toArray 29) := by rw [bc, if_pos rfl]
      have Sb := S1.keep cb
      have qb := S1.D.qlt
      have ea : (v1.alloc (.cells #[.int .i64 0, .int .i64 3, .int .i64 4, .int .i64 7, .int .i64 6, .int .i64 2] 29)) = v1.alloc (.cells (ints codesL).toArray 29) := rfl
      rw [ea]
      try simp -implicitDefEqProofs only [(br (r := r6) (by omega)).1, bU, hb, (br (r := r6) (b := 0) (by omega)).2, ad]
      refine Sb.N (by omega) (by decide) (by decide) fun r2 v2 h2 k2 S2 => ?_
      have hb2 := k2.at hb (by simp; omega)
      try simp -implicitDefEqProofs only [(br (r := r6) (by omega)).1, bU, hb2, (br (r := r6) (b := 0) (by omega)).2, ad]
      refine S2.N (by omega) (by decide) (by decide) fun r3 v3 h3 k3 S3 => ?_
      have hb3 := k3.at hb2 (by simp; omega)
      try simp -implicitDefEqProofs only [cv_3_38, ad]
      try simp -implicitDefEqProofs only [(br (r := r6) (by omega)).1, bU, hb3, (br (r := r6) (b := 0) (by omega)).2, ad]
      try simp -implicitDefEqProofs only [(br (r := r6) (by omega)).1, bU, hb3, (br (r := r6) (b := 0) (by omega)).2, ad]
      simp -implicitDefEqProofs only [(br (r := r6) (by omega)).1, bU, hb3, (br (r := r6) (b := 0) (by omega)).2, cv_3_38, hbd, ad]
      exact AnW.ans S3 _ (by omega)
    · refine Sd.N (by omega) (by decide) (by decide) fun r6 v1 h6 k1 S1 => ?_
      refine S1.N (by omega) (by decide) (by decide) fun r2 v2 h2 k2 S2 => ?_
      rw [bs_161_6]
      have cb : Chg [] v2 (v2.alloc (.cells (ints codesL).toArray 29)) := (Chg.refl _ _).alloc _
      have hb : hp (v2.alloc (.cells (ints codesL).toArray 29)) v2.heap.size = some (.cells (ints codesL).toArray 29) := by rw [bc, if_pos rfl]
      have Sb := S2.keep cb
      have qb := S2.D.qlt
      have ea : (v2.alloc (.cells #[.int .i64 0, .int .i64 3, .int .i64 4, .int .i64 7, .int .i64 6, .int .i64 2] 29)) = v2.alloc (.cells (ints codesL).toArray 29) := rfl
      rw [ea]
      try simp -implicitDefEqProofs only [(br (r := r6) (by omega)).1, bU, hb, (br (r := r6) (b := 0) (by omega)).2, ad]
      try simp -implicitDefEqProofs only [(br (r := r6) (by omega)).1, bU, hb, (br (r := r6) (b := 0) (by omega)).2, ad]
      refine Sb.N (by omega) (by decide) (by decide) fun r3 v3 h3 k3 S3 => ?_
      have hb3 := k3.at hb (by simp; omega)
      try simp -implicitDefEqProofs only [cv_3_38, ad]
      try simp -implicitDefEqProofs only [(br (r := r6) (by omega)).1, bU, hb3, (br (r := r6) (b := 0) (by omega)).2, ad]
      simp -implicitDefEqProofs only [(br (r := r6) (by omega)).1, bU, hb3, (br (r := r6) (b := 0) (by omega)).2, cv_3_38, hbd, ad]
      exact AnW.ans S3 _ (by omega)
    · refine Sd.N (by omega) (by decide) (by decide) fun r6 v1 h6 k1 S1 => ?_
      refine S1.N (by omega) (by decide) (by decide) fun r2 v2 h2 k2 S2 => ?_
      rw [bs_161_6]
      have cb : Chg [] v2 (v2.alloc (.cells (ints codesL).toArray 29)) := (Chg.refl _ _).alloc _
      have hb : hp (v2.alloc (.cells (ints codesL).toArray 29)) v2.heap.size = some (.cells (ints codesL).toArray 29) := by rw [bc, if_pos rfl]
      have Sb := S2.keep cb
      have qb := S2.D.qlt
      have ea : (v2.alloc (.cells #[.int .i64 0, .int .i64 3, .int .i64 4, .int .i64 7, .int .i64 6, .int .i64 2] 29)) = v2.alloc (.cells (ints codesL).toArray 29) := rfl
      rw [ea]
      try simp -implicitDefEqProofs only [(br (r := r6) (by omega)).1, bU, hb, (br (r := r6) (b := 0) (by omega)).2, ad]
      refine Sb.N (by omega) (by decide) (by decide) fun r3 v3 h3 k3 S3 => ?_
      have hb3 := k3.at hb (by simp; omega)
      try simp -implicitDefEqProofs only [cv_3_38, ad]
      try simp -implicitDefEqProofs only [(br (r := r6) (by omega)).1, bU, hb3, (br (r := r6) (b := 0) (by omega)).2, ad]
      try simp -implicitDefEqProofs only [(br (r := r6) (by omega)).1, bU, hb3, (br (r := r6) (b := 0) (by omega)).2, ad]
      simp -implicitDefEqProofs only [(br (r := r6) (by omega)).1, bU, hb3, (br (r := r6) (b := 0) (by omega)).2, cv_3_38, hbd, ad]
      exact AnW.ans S3 _ (by omega)
    · refine Sd.N (by omega) (by decide) (by decide) fun r6 v1 h6 k1 S1 => ?_
      refine S1.N (by omega) (by decide) (by decide) fun r2 v2 h2 k2 S2 => ?_
      refine S2.N (by omega) (by decide) (by decide) fun r3 v3 h3 k3 S3 => ?_
      try simp -implicitDefEqProofs only [cv_3_38, ad]
      rw [bs_161_6]
      have cb : Chg [] v3 (v3.alloc (.cells (ints codesL).toArray 29)) := (Chg.refl _ _).alloc _
      have hb : hp (v3.alloc (.cells (ints codesL).toArray 29)) v3.heap.size = some (.cells (ints codesL).toArray 29) := by rw [bc, if_pos rfl]
      have Sb := S3.keep cb
      have qb := S3.D.qlt
      have ea : (v3.alloc (.cells #[.int .i64 0, .int .i64 3, .int .i64 4, .int .i64 7, .int .i64 6, .int .i64 2] 29)) = v3.alloc (.cells (ints codesL).toArray 29) := rfl
      rw [ea]
      try simp -implicitDefEqProofs only [(br (r := r6) (by omega)).1, bU, hb, (br (r := r6) (b := 0) (by omega)).2, ad]
      try simp -implicitDefEqProofs only [(br (r := r6) (by omega)).1, bU, hb, (br (r := r6) (b := 0) (by omega)).2, ad]
      simp -implicitDefEqProofs only [(br (r := r6) (by omega)).1, bU, hb, (br (r := r6) (b := 0) (by omega)).2, cv_3_38, hbd, ad]
      exact AnW.ans Sb _ (by omega)
  · have c0 : ldC (hp v0 E.gp) (0 + 0 + 0) = some (.int .i64 E.c.1) := pl_c S0.D (by omega)
    by_cases n0 : n < 0
    · simp -implicitDefEqProofs only [ad, ax, am, aM, aN, aQ, aR, av, ak, aJ, aK, aS, aT, ay, ap, aU, aV, aX, aY, ae, ac, aj, ag, z1z, z2z, z3z, z4z, aH, af, aD, aB, aC, aA, aE, aG, z5z, z6z, ah, z7z, z8z, au, eqf hr, n0, bdr_]
      exact S0.ans _ (by omega)
    by_cases n1 : E.c.1 ≤ n
    · simp -implicitDefEqProofs only [ad, ax, am, aM, aN, aQ, aR, av, ak, aJ, aK, aS, aT, ay, ap, aU, aV, aX, aY, ae, ac, aj, ag, z1z, z2z, z3z, z4z, aH, af, aD, aB, aC, aA, aE, aG, z5z, z6z, ah, z7z, z8z, au, eqf hr, n0, fa_92_0, fa_74_0, bj, c0, aA, ge_iff_le, n1, bdr_]
      exact S0.ans _ (by omega)
    have ldo : ∀ {w' : World} {b : Nat}, hp w' b = some (.cells (opC o).toArray 40) → ldv Try.prog 40 (.pointer (some ⟨b, 0, none⟩)) w' = some (.agg (opC o).toArray) := fun hw => bJ (t := 40) (c := (opC o).toArray) ag_40 (show (Try.prog.info? 40).map (·.size) = some (opC o).toArray.size from sz_40) hw
    simp -implicitDefEqProofs only [ad, ax, am, aM, aN, aQ, aR, av, ak, aJ, aK, aS, aT, ay, ap, aU, aV, aX, aY, ae, ac, aj, ag, z1z, z2z, z3z, z4z, aH, af, aD, aB, aC, aA, aE, aG, z5z, z6z, ah, z7z, z8z, au, eqf hr, n0, fa_92_0, fa_74_0, bj, c0, aA, ge_iff_le, n1, ldo S0.h8]
    refine (c_refMay o v0).mono ?_
    rintro _ v1 ⟨rfl, k1⟩
    have S1 := S0.keep k1
    cases hmo : mayO o with
    | false =>
      simp -implicitDefEqProofs only [ad, ax, am, aM, aN, aQ, aR, av, ak, aJ, aK, aS, aT, ay, ap, aU, aV, aX, aY, ae, ac, aj, ag, z1z, z2z, z3z, z4z, aH, af, aD, aB, aC, aA, aE, aG, z5z, z6z, ah, z7z, z8z, au, bdr_]
      exact S1.ans _ (by omega)
    | true =>
    obtain ⟨nn, rfl⟩ := Int.eq_ofNat_of_zero_le (show 0 ≤ n by omega)
    have hmay : mayV mx nn o = true := by
      have h1 := S.D.sx.wn.cw
      rw [S.D.sx.mc] at h1
      rw [mayV, hmo, decide_eq_true (show (0 : Int) ≤ nn by omega), decide_eq_true (show (nn : Int) < mx.hands.length by omega)]; rfl
    have cd : Chg [] v1 v1.drew := (Chg.refl _ _).drew
    have Sd := S1.keep cd
    have kx := pl_x S1.D
    have kxd := pl_x Sd.D
    simp -implicitDefEqProofs only [ad, ax, am, aM, aN, aQ, aR, av, ak, aJ, aK, aS, aT, ay, ap, aU, aV, aX, aY, ae, ac, aj, ag, z1z, z2z, z3z, z4z, aH, af, aD, aB, aC, aA, aE, aG, z5z, z6z, ah, z7z, z8z, au, fa_92_2, ld_89, kx, kxd, ldo S1.h8, ldo Sd.h8, ld_hn S1.h9, ld_hn Sd.h9, al_53]
    have ca : Chg [] v1.drew (v1.drew.alloc (.cells (rsC noR).toArray 53)) := (Chg.refl _ _).alloc _
    repeat' (with_reducible apply And.intro)
    all_goals first
      | (refine (c_rMust (Sd.D.X.keep ca) Sd.D.sx.wf (by omega) hmay h).mono ?_
         rintro _ w6 ⟨rfl, c6⟩
         have a6 := c6.at (show hp (v1.drew.alloc (.cells (rsC noR).toArray 53)) v1.drew.heap.size = some (.cells (rsC noR).toArray 53) by rw [bc, if_pos rfl]) (by simp)
         simp -implicitDefEqProofs only [tup0, tup1, ad, ax, am, aM, aN, aQ, aR, av, ak, aJ, aK, aS, aT, ay, ap, aU, aV, aX, aY, ae, ac, aj, ag, z1z, z2z, z3z, z4z, aH, af, aD, aB, aC, aA, aE, aG, z5z, z6z, ah, z7z, z8z, au]
         rw [st_res a6 rfl]
         have cq : Chg [] v1.drew (Ev.put w6 v1.drew.heap.size (rsC (mustV mx nn o h).1).toArray 53) := (ca.trans c6).put (.inr (Nat.le_refl _)) _ _
         exact l_ans0 (Sd.keep cq) hm (by omega) hK (by omega) (bv (bz a6) _ _) (by omega))
      | (refine (c_rMust Sd.D.X Sd.D.sx.wf (by omega) hmay h).mono ?_
         rintro _ w6 ⟨rfl, c6⟩
         simp -implicitDefEqProofs only [tup0, tup1, ad, ax, am, aM, aN, aQ, aR, av, ak, aJ, aK, aS, aT, ay, ap, aU, aV, aX, aY, ae, ac, aj, ag, z1z, z2z, z3z, z4z, aH, af, aD, aB, aC, aA, aE, aG, z5z, z6z, ah, z7z, z8z, au, al_53]
         have a6 : hp (w6.alloc (.cells (rsC noR).toArray 53)) w6.heap.size = some (.cells (rsC noR).toArray 53) := by rw [bc, if_pos rfl]
         have ca6 : Chg [] w6 (w6.alloc (.cells (rsC noR).toArray 53)) := (Chg.refl _ _).alloc _
         erw [st_res a6 rfl]
         have cq := (c6.trans ca6).put (.inr c6.size) (rsC (mustV mx nn o h).1).toArray 53
         exact l_ans0 (Sd.keep cq) hm (by omega) hK (by omega) (bv (bz a6) _ _) (by omega))
end
end Go.Proofs.Ytgamnncehjcdiaa

namespace Go.Proofs.Ytgamnncehjcdiaa
open Go Ev Go.RowKit

section
variable {W W1 w w' : World} {E : PlE} {m : MdV} {Kn : List HnV} {K B : Nat} {Fm Fx Fk : Fp} {kv : Value} {h : HnV} {g4 : Nat} {n : Int}
theorem objs_len (s : St m E.c K) (hK : K ≤ 1000) (n : Int) : (objsV m n).length ≤ 1000 := by
  unfold objsV
  split
  · split
    · split
      · rename_i r' hr'
        exact Nat.le_trans (s.wf.rg r' (List.mem_of_getElem? hr')).ol (by omega)
      · simp
    · simp
  · simp
structure SmW (W : World) (E : PlE) (W1 w : World) (m : MdV) (Kn : List HnV) (K B : Nat) (Fm Fx Fk : Fp) (kv : Value) (g4 : Nat) (h : HnV) : Prop where
  D : PlF W E w m m Kn K B Fm Fx Fk kv
  hW : Chg [] W1 w
  h4 : hp w g4 = some (.cells (hnC h).toArray 51)
theorem SmW.keep (S : SmW W E W1 w m Kn K B Fm Fx Fk kv g4 h) (hc : Chg [] w w') : SmW W E W1 w' m Kn K B Fm Fx Fk kv g4 h := ⟨S.D.keep hc, S.hW.trans hc, hc.at S.h4 (by simp)⟩
set_option maxHeartbeats 8000000 in
theorem l_same3 (hm : mayC E.c = true) (hK : K ≤ 1000) (S : SmW W E W1 w m Kn K B Fm Fx Fk kv g4 h) {k : Int} (hk : ¬ (k ≤ h.2.2.2.2 ∧ k < 20)) :
    P58_2 (.pointer (some ⟨E.gp, 0, none⟩)) (.int .i64 n) (.pointer (some ⟨g4, 0, none⟩)) (.int .i64 k) w fun v w' => v = .bool true ∧ Chg [] W1 w' := by
  apply L58_2_ok
  obtain ⟨m1, m2, m3, m4⟩ := may_cf hm
  have u4 : (hnC h).toArray[0 + 4]? = some (.int .i64 h.2.2.2.2) := rfl
  have cd : Chg [] w w.drew := (Chg.refl _ _).drew
  have Sd := S.keep cd
  have km := pl_m S.D
  have kx := pl_x S.D
  have kmd := pl_m Sd.D
  have kxd := pl_x Sd.D
  have cs := S.D.sm.wn.cs
  have cw := S.D.sm.wn.cw
  rw [S.D.sm.mc] at cs cw
  obtain ⟨_, _, _, M⟩ := Sd.D.I.rd
  have sp := c_mSpare M (show m.slots.length ≤ 1000000 by omega)
  have e : (spareN m.slots : Int) == (spareN m.slots : Int) := beq_self_eq_true _
  have fin : ∀ {w2 : World} {n : Int}, Chg [] w.drew w2 → 0 ≤ n → n < E.c.1 → ∃ d : Int, (∃ b c, ldC (hp w2 E.gx) (0 + 10) = some (.slice b m.hands.length c) ∧ ∃ q : Addr, pureRun Try.prog (Instr.indexAt 23 (.slice b m.hands.length c) (.int .i64 n)) = some (.pointer (some q)) ∧ ldv Try.prog 3 (.pointer (some q)) w2 = some (.int .i64 d)) ∧ depthV m n = d := by
    intro w2 n c2 n0 n1
    obtain ⟨nn, rfl⟩ := Int.eq_ofNat_of_zero_le n0
    have hnl : nn < m.hands.length := by omega
    obtain ⟨_, _, _, _, _, R⟩ := (Sd.keep c2).D.X.rd
    obtain ⟨A, ca, rfl, hR⟩ := ints_sh R.dT
    have hy : (toRf m).depth[nn]? = some (m.hands[nn]).depth := by simp [toRf, hnl]
    obtain ⟨q, q1, q2⟩ := int_at (c := ca) hR hy
    have hl : (toRf m).depth.length = m.hands.length := by simp [toRf]
    have dl := R.dl
    rw [hl] at q1 dl
    exact ⟨_, ⟨A, ca, dl, q, q1, q2⟩, by rw [depthV, if_pos (by omega), Int.toNat_natCast, List.getElem?_eq_getElem hnl]⟩
  have hk12 : k ≤ h.2.2.2.2 → ¬ k < 20 := fun h1 h2 => hk ⟨h1, h2⟩
  rcases Classical.em (k ≤ h.2.2.2.2) with hk1 | hk1
  all_goals first
    | (have hk2 := hk12 hk1
       simp -implicitDefEqProofs only [L58_2, ad, ax, am, aM, aN, aQ, aR, av, ak, aJ, aK, aS, aT, ay, ap, aU, aV, aX, aY, ae, ac, aj, ag, z1z, z2z, z3z, z4z, aH, af, aD, aB, aC, aA, aE, aG, z5z, z6z, ah, z7z, z8z, au, fa_51_4, bj, S.h4, u4, aB, hk1, hk2, fa_92_1, fa_92_2, ld_75, ld_89, km, kx, kmd, kxd])
    | simp -implicitDefEqProofs only [L58_2, ad, ax, am, aM, aN, aQ, aR, av, ak, aJ, aK, aS, aT, ay, ap, aU, aV, aX, aY, ae, ac, aj, ag, z1z, z2z, z3z, z4z, aH, af, aD, aB, aC, aA, aE, aG, z5z, z6z, ah, z7z, z8z, au, fa_51_4, bj, S.h4, u4, aB, hk1, fa_92_1, fa_92_2, ld_75, ld_89, km, kx, kmd, kxd]
  all_goals repeat' (with_reducible apply And.intro)
  all_goals
    refine sp.mono ?_
    rintro _ w2 ⟨rfl, c2⟩
    have S2 := Sd.keep c2
    have km2 := pl_m S2.D
    have kx2 := pl_x S2.D
    have c0 : ldC (hp w2 E.gp) (0 + 0 + 0) = some (.int .i64 E.c.1) := pl_c S2.D (by omega)
    obtain ⟨_, _, _, _, _, R2⟩ := S2.D.X.rd
    obtain ⟨_, _, _, M2⟩ := S2.D.I.rd
    try simp -implicitDefEqProofs only [ad, ax, am, aM, aN, aQ, aR, av, ak, aJ, aK, aS, aT, ay, ap, aU, aV, aX, aY, ae, ac, aj, ag, z1z, z2z, z3z, z4z, aH, af, aD, aB, aC, aA, aE, aG, z5z, z6z, ah, z7z, z8z, au, fa_92_2, ld_89, kx2]
    refine (c_rSpare R2 (by simp only [toRf, List.length_map]; omega)).step ?_
    rw [rf_spare]
    by_cases n0 : n < 0
    · simp -implicitDefEqProofs only [ad, ax, am, aM, aN, aQ, aR, av, ak, aJ, aK, aS, aT, ay, ap, aU, aV, aX, aY, ae, ac, aj, ag, z1z, z2z, z3z, z4z, aH, af, aD, aB, aC, aA, aE, aG, z5z, z6z, ah, z7z, z8z, au, z6z, n0]
      exact ⟨by first | rfl | trivial, S2.hW⟩
    by_cases n1 : E.c.1 ≤ n
    · simp -implicitDefEqProofs only [ad, ax, am, aM, aN, aQ, aR, av, ak, aJ, aK, aS, aT, ay, ap, aU, aV, aX, aY, ae, ac, aj, ag, z1z, z2z, z3z, z4z, aH, af, aD, aB, aC, aA, aE, aG, z5z, z6z, ah, z7z, z8z, au, z6z, n0, fa_92_0, fa_74_0, bj, c0, aA, ge_iff_le, n1]
      exact ⟨by first | rfl | trivial, S2.hW⟩
    obtain ⟨d, ⟨b, c, f1, q, f2, f3⟩, f4⟩ := fin c2 (show 0 ≤ n by omega) (by omega)
    simp -implicitDefEqProofs only [ad, ax, am, aM, aN, aQ, aR, av, ak, aJ, aK, aS, aT, ay, ap, aU, aV, aX, aY, ae, ac, aj, ag, z1z, z2z, z3z, z4z, aH, af, aD, aB, aC, aA, aE, aG, z5z, z6z, ah, z7z, z8z, au, z6z, n0, fa_92_0, fa_74_0, bj, c0, aA, ge_iff_le, n1, fa_92_1, fa_92_2, ld_75, ld_89, km2, kx2, fa_154_5, ce, f1, f2]
    first
      | (refine (c_mDepth M2 n).step ?_
         rw [f4]
         try simp -implicitDefEqProofs only [ad, ax, am, aM, aN, aQ, aR, av, ak, aJ, aK, aS, aT, ay, ap, aU, aV, aX, aY, ae, ac, aj, ag, z1z, z2z, z3z, z4z, aH, af, aD, aB, aC, aA, aE, aG, z5z, z6z, ah, z7z, z8z, au, z6z, fa_92_2, ld_89, kx2, fa_154_5, ce, f1, f2, f3]
         exact ⟨by first | rfl | trivial, S2.hW⟩)
      | (simp -implicitDefEqProofs only [f3, ad]
         refine (c_mDepth M2 n).step ?_
         rw [f4]
         simp -implicitDefEqProofs only [ad, ax, am, aM, aN, aQ, aR, av, ak, aJ, aK, aS, aT, ay, ap, aU, aV, aX, aY, ae, ac, aj, ag, z1z, z2z, z3z, z4z, aH, af, aD, aB, aC, aA, aE, aG, z5z, z6z, ah, z7z, z8z, au, z6z]
         exact ⟨by first | rfl | trivial, S2.hW⟩)
end
end Go.Proofs.Ytgamnncehjcdiaa

namespace Go.Proofs.Ytgamnncehjcdiaa
open Go Ev Go.RowKit

section
variable {W W1 w w' : World} {E : PlE} {m : MdV} {Kn : List HnV} {K B : Nat} {Fm Fx Fk : Fp} {kv : Value} {h : HnV} {g4 : Nat} {n : Int}
set_option maxHeartbeats 4000000 in
theorem l_same2 (hm : mayC E.c = true) (hK : K ≤ 1000) : ∀ (t : Nat) (k : Int) (w : World), SmW W E W1 w m Kn K B Fm Fx Fk kv g4 h → -1 ≤ k → k + t = 20 →
    P58_2 (.pointer (some ⟨E.gp, 0, none⟩)) (.int .i64 n) (.pointer (some ⟨g4, 0, none⟩)) (.int .i64 k) w fun v w' => v = .bool true ∧ Chg [] W1 w'
  | 0, k, w, S, hk1, hk => l_same3 hm hK S (by omega)
  | t + 1, k, w, S, hk1, hk => by
    by_cases hc : k ≤ h.2.2.2.2 ∧ k < 20
    · apply L58_2_ok
      have u4 : (hnC h).toArray[0 + 4]? = some (.int .i64 h.2.2.2.2) := rfl
      have cd : Chg [] w w.drew := (Chg.refl _ _).drew
      have Sd := S.keep cd
      have km := pl_m S.D
      have kmd := pl_m Sd.D
      simp -implicitDefEqProofs only [L58_2, ad, ax, am, aM, aN, aQ, aR, av, ak, aJ, aK, aS, aT, ay, ap, aU, aV, aX, aY, ae, ac, aj, ag, z1z, z2z, z3z, z4z, aH, af, aD, aB, aC, aA, aE, aG, z5z, z6z, ah, z7z, z8z, au, fa_51_4, bj, S.h4, u4, aB, hc.1, hc.2, fa_92_1, ld_75, km, kmd, ld_hn Sd.h4, ld_hn S.h4]
      refine (c_mValue Sd.D.I Sd.D.sm.wf (by omega) h k).mono ?_
      rintro _ w2 ⟨rfl, c2⟩
      have S2 := Sd.keep c2
      have S2d := S2.keep (Chg.refl [] w2).drew
      have kx := pl_x S2.D
      have kxd := pl_x S2d.D
      simp -implicitDefEqProofs only [tup0, tup1, ad, ax, am, aM, aN, aQ, aR, av, ak, aJ, aK, aS, aT, ay, ap, aU, aV, aX, aY, ae, ac, aj, ag, z1z, z2z, z3z, z4z, aH, af, aD, aB, aC, aA, aE, aG, z5z, z6z, ah, z7z, z8z, au, fa_92_2, ld_89, kx, kxd, ld_hn S2d.h4, ld_hn S2.h4]
      refine (c_rValue S2d.D.X S2d.D.sx.wf (by omega) h k).mono ?_
      rintro _ w3 ⟨rfl, c3⟩
      have S3 := S2d.keep c3
      simp -implicitDefEqProofs only [tup0, tup1, ad, ax, am, aM, aN, aQ, aR, av, ak, aJ, aK, aS, aT, ay, ap, aU, aV, aX, aY, ae, ac, aj, ag, z1z, z2z, z3z, z4z, aH, af, aD, aB, aC, aA, aE, aG, z5z, z6z, ah, z7z, z8z, au, z5z, be_neqb Try.underlying4, bG, bC (n := k + 1) (by omega) (by omega)]
      exact l_same2 hm hK t (k + 1) w3 S3 (by omega) (by omega)
    · exact l_same3 hm hK S hc
set_option maxHeartbeats 4000000 in
theorem l_same0 (hm : mayC E.c = true) (hK : K ≤ 1000) : ∀ (t : Nat) (k : Int) (w : World), SmW W E W1 w m Kn K B Fm Fx Fk kv g4 h → -1 ≤ k → k + t = E.c.2.2.2.1 + 1 →
    P58_0 (.pointer (some ⟨E.gp, 0, none⟩)) (.int .i64 n) (.pointer (some ⟨g4, 0, none⟩)) (.int .i64 k) w fun v w' => v = .bool true ∧ Chg [] W1 w'
  | 0, k, w, S, hk1, hk => by
    apply L58_0_ok
    have c3 : ldC (hp w E.gp) (0 + 0 + 3) = some (.int .i64 E.c.2.2.2.1) := pl_c S.D (by omega)
    have : ¬ k ≤ E.c.2.2.2.1 := by omega
    simp -implicitDefEqProofs only [L58_0, ad, ax, am, aM, aN, aQ, aR, av, ak, aJ, aK, aS, aT, ay, ap, aU, aV, aX, aY, ae, ac, aj, ag, z1z, z2z, z3z, z4z, aH, af, aD, aB, aC, aA, aE, aG, z5z, z6z, ah, z7z, z8z, au, fa_92_0, fa_74_3, bj, c3, aB, this]
    exact l_same2 hm hK 21 (-1) w S (by omega) (by omega)
  | t + 1, k, w, S, hk1, hk => by
    apply L58_0_ok
    obtain ⟨m1, m2, m3, m4⟩ := may_cf hm
    have c3 : ldC (hp w E.gp) (0 + 0 + 3) = some (.int .i64 E.c.2.2.2.1) := pl_c S.D (by omega)
    have hle : k ≤ E.c.2.2.2.1 := by omega
    have km := pl_m S.D
    have kx := pl_x S.D
    have cd : Chg [] w w.drew := (Chg.refl _ _).drew
    have Sd := S.keep cd
    have kmd := pl_m Sd.D
    have kxd := pl_x Sd.D
    have cs := S.D.sm.wn.cs
    rw [S.D.sm.mc] at cs
    obtain ⟨_, _, _, M⟩ := S.D.I.rd
    obtain ⟨_, _, _, _, _, R⟩ := S.D.X.rd
    have hx1 : (((toRf m).state.length : Nat) : Int) = (toRf m).c.2.2.2.1 := by
      show _ = m.c.2.2.2.1
      simp only [toRf, List.length_map, S.D.sm.mc]; omega
    simp -implicitDefEqProofs only [L58_0, ad, ax, am, aM, aN, aQ, aR, av, ak, aJ, aK, aS, aT, ay, ap, aU, aV, aX, aY, ae, ac, aj, ag, z1z, z2z, z3z, z4z, aH, af, aD, aB, aC, aA, aE, aG, z5z, z6z, ah, z7z, z8z, au, fa_92_0, fa_74_3, bj, c3, aB, hle, fa_92_1, ld_75, km]
    refine (c_mLive M k).step ?_
    simp -implicitDefEqProofs only [tup0, tup1, ad, ax, am, aM, aN, aQ, aR, av, ak, aJ, aK, aS, aT, ay, ap, aU, aV, aX, aY, ae, ac, aj, ag, z1z, z2z, z3z, z4z, aH, af, aD, aB, aC, aA, aE, aG, z5z, z6z, ah, z7z, z8z, au, fa_92_2, ld_89, kx]
    refine (c_rLive R hx1 (by simp [toRf]) k).step ?_
    rw [rf_live]
    simp -implicitDefEqProofs only [tup0, tup1, ad, ax, am, aM, aN, aQ, aR, av, ak, aJ, aK, aS, aT, ay, ap, aU, aV, aX, aY, ae, ac, aj, ag, z1z, z2z, z3z, z4z, aH, af, aD, aB, aC, aA, aE, aG, z5z, z6z, ah, z7z, z8z, au, z5z, be_neqb Try.underlying4, fa_92_1, ld_75, km, kmd, fa_92_2, ld_89, kx, kxd]
    repeat' (with_reducible apply And.intro)
    all_goals
      refine (c_mObjects Sd.D.I Sd.D.sm.wf Sd.D.sm.wn (by omega) k).mono ?_
      rintro v2 w2 ⟨ho2, c2⟩
      have S2 := Sd.keep c2
      have kx2 := pl_x S2.D
      try simp -implicitDefEqProofs only [ad, ax, am, aM, aN, aQ, aR, av, ak, aJ, aK, aS, aT, ay, ap, aU, aV, aX, aY, ae, ac, aj, ag, z1z, z2z, z3z, z4z, aH, af, aD, aB, aC, aA, aE, aG, z5z, z6z, ah, z7z, z8z, au, fa_92_2, ld_89, kx2]
      refine (c_rObjects S2.D.X S2.D.sx.wf S2.D.sx.wn (by omega) k).mono ?_
      rintro v3 w3 ⟨ho3, c3', _⟩
      have S3 := S2.keep c3'
      refine (c_sameHandles (ho2.keep c3') ho3 (Nat.le_trans (objs_len S.D.sm hK k) (by omega))).mono ?_
      rintro _ w4 ⟨rfl, c4⟩
      have S4 := S3.keep c4
      simp -implicitDefEqProofs only [ad, ax, am, aM, aN, aQ, aR, av, ak, aJ, aK, aS, aT, ay, ap, aU, aV, aX, aY, ae, ac, aj, ag, z1z, z2z, z3z, z4z, aH, af, aD, aB, aC, aA, aE, aG, z5z, z6z, ah, z7z, z8z, au, z1z]
      apply L58_1_ok
      simp -implicitDefEqProofs only [L58_1, ad, ax, am, aM, aN, aQ, aR, av, ak, aJ, aK, aS, aT, ay, ap, aU, aV, aX, aY, ae, ac, aj, ag, z1z, z2z, z3z, z4z, aH, af, aD, aB, aC, aA, aE, aG, z5z, z6z, ah, z7z, z8z, au, bG, bC (n := k + 1) (by omega) (by omega)]
      exact l_same0 hm hK t (k + 1) w4 S4 (by omega) (by omega)
theorem c_same (D : PlF W E w m m Kn K B Fm Fx Fk kv) (hm : mayC E.c = true) (hK : K ≤ 1000) (h : HnV) (n : Int) :
    CallR Try.prog 58 [.pointer (some ⟨E.gp, 0, none⟩), .agg (hnC h).toArray, .int .i64 n] w fun v w' => v = .bool true ∧ Chg [] w w' := by
  apply F58_ok
  have b4 : hp (w.alloc (.cells (hnC h).toArray 51)) w.heap.size = some (.cells (hnC h).toArray 51) := by rw [bc, if_pos rfl]
  have c0 : Chg [] w (w.alloc (.cells (hnC h).toArray 51)) := (Chg.refl _ _).alloc _
  obtain ⟨m1, m2, m3, m4⟩ := may_cf hm
  simp -implicitDefEqProofs only [F58, bE, bA]
  exact l_same0 hm hK (E.c.2.2.2.1 + 2).toNat (-1) _ ⟨D.keep c0, c0, b4⟩ (by omega) (by omega)
end
end Go.Proofs.Ytgamnncehjcdiaa

namespace Go.Proofs.Ytgamnncehjcdiaa
open Go Ev Go.RowKit

section
variable {W W1 w w' w2 : World} {E : PlE} {m mx m' : MdV} {Kn Kn' : List HnV} {K K' B : Nat} {Fm Fx Fk F' : Fp} {kv kv' : Value} {h : HnV} {o : OpV} {g13 g14 g19 : Nat} {n : Int} {x2 : Value} {i : Nat}
theorem setWord_c (m : MdV) (h : HnV) (n y : Int) : (setWordV m h n y).c = m.c := by
  unfold setWordV
  repeat' split
  all_goals rfl
theorem does_c (m : MdV) (w : Int) (o : OpV) (h : HnV) : (doesV m w o h).c = m.c := by
  unfold doesV
  repeat' split
  all_goals first | rfl | exact setWord_c _ _ _ _
theorem creates_c (m : MdV) (x : Int) (r : RsV) : (createsV m x r).2.c = m.c := by
  unfold createsV
  repeat' split
  all_goals rfl
theorem gives_c (m : MdV) (x : Int) (h : HnV) (r : RsV) : (givesV m x h r).2.c = m.c := by
  unfold givesV
  split
  · rfl
  split
  · rfl
  · dsimp only
    split
    · rfl
    split
    · rfl
    split
    · rfl
    · rfl
theorem do_c (m : MdV) (w : Int) (o : OpV) (h : HnV) (r : RsV) : (doV m w o h r).2.c = m.c := by
  unfold doV
  split
  · rfl
  split
  · split
    · dsimp only
      split
      · exact does_c _ _ _ _
      · rfl
    · rfl
  split
  · exact creates_c _ _ _
  · exact gives_c _ _ _ _
theorem back_c (m : MdV) (s : Int) : (backV m s).2.c = m.c := by
  unfold backV
  repeat' split
  all_goals rfl
theorem St.doV (s : St m E.c K) (hK : K ≤ 1000) (w : Int) (o : OpV) (h : HnV) (r : RsV) : St (doV m w o h r).2 E.c (K + 1) := ⟨s.wf.doV w o h r, s.wn.doV (by omega) w o h r, (do_c m w o h r).trans s.mc⟩
theorem St.back (s : St m E.c K) (n : Int) : St (backV m n).2 E.c K := ⟨s.wf.back n, s.wn.back n, (back_c m n).trans s.mc⟩
theorem PlF.updK (D : PlF W E w m mx Kn K B Fm Fx Fk kv) (i : objsT Kn' w2 F' kv') (u : UpdP Fk F' w w2) (hk : K ≤ K') (hl : Kn'.length ≤ K') : PlF W E (Ev.put w2 E.gp (pairA E.c E.g E.gx kv') 92) m mx Kn' K' B Fm Fx F' kv' := by
  obtain ⟨at', h1, h2⟩ := D.sq
  have sz := D.chg.size
  have kp := u.keep D.hp D.pk
  have kq := u.keep h1 D.qk
  have cp : ChgP (fun k => Fk k ∨ k = E.gp) w (Ev.put w2 E.gp (pairA E.c E.g E.gx kv') 92) := by
    have a := u.chg
    refine ⟨a.os, a.tape, a.output, by simpa using a.size, fun k hk hn => ?_⟩
    rw [bS (fun e => hn (.inr e))]
    exact a.block k hk fun h => hn (.inl h)
  exact ⟨chgW D.chg cp (fun x hx => by rcases hx with h | h; exact D.nk x h; rw [h]; exact D.np), bv (bz kp.1) _ _,
    isAt.frame D.I (bY _) cp (fun k h1 h2 => by rcases h2 with h | h; exact D.dmk k h1 h; exact D.pm (h ▸ h1)),
    isAt.frame D.X (cf _) cp (fun k h1 h2 => by rcases h2 with h | h; exact D.dxk k h1 h; exact D.px (h ▸ h1)),
    (cm _).frame i (chgP_put _ _ _ _) (fun k h1 h2 => kp.2 (h2 ▸ h1)), ⟨at', (bS D.pq.symm _ _).trans kq.1, h2⟩, D.rd, D.ne, D.dmx,
    fun k h1 h2 => u.dis (fun k a b => D.dmk k b a) (isAt.lt D.I (bY _)) k h2 h1, fun k h1 h2 => u.dis (fun k a b => D.dxk k b a) (isAt.lt D.X (cf _)) k h2 h1,
    D.pm, D.px, kp.2, D.qm, D.qx, kq.2, D.pq, D.nm, D.nx, fun k hk => by rcases u.sub k hk with h | h; exact D.nk k h; omega, D.np, D.nq, D.sm.mono hk, D.sx.mono hk, hl⟩
def NxP (W : World) (E : PlE) (x2 : Value) (i : Nat) : Prop :=
  ∀ w m Kn Fm Fx Fk kv, PlF W E w m m Kn (i + 1) (50 * (i + 1)) Fm Fx Fk kv → P13_4 x2 (.bool true) (.pointer (some ⟨E.gp, 0, none⟩)) (.pointer (some ⟨E.q, 0, none⟩)) (.int .i64 i) w fun v w' => v = .bool true ∧ Chg [] W w'
set_option maxHeartbeats 8000000 in
theorem l_plays3 (hm : mayC E.c = true) (N : NxP W E x2 i) (hi : i ≤ 60) (D : PlF W E w m m Kn i B Fm Fx Fk kv) (hB : B + 10 ≤ 50 * (i + 1)) (h13 : hp w g13 = some (.cells (opC o).toArray 40)) (h14 : hp w g14 = some (.cells (hnC h).toArray 51))
    (f13 : ¬ Fm g13 ∧ ¬ Fx g13 ∧ g13 ≠ E.q) (f14 : ¬ Fm g14 ∧ ¬ Fx g14 ∧ g14 ≠ E.q) :
    P13_3 x2 (.bool true) (.pointer (some ⟨E.gp, 0, none⟩)) (.pointer (some ⟨E.q, 0, none⟩)) (.int .i64 i) (.int .i64 n) (.pointer (some ⟨g13, 0, none⟩)) (.pointer (some ⟨g14, 0, none⟩)) w fun v w' => v = .bool true ∧ Chg [] W w' := by
  apply L13_3_ok
  have ldo : ∀ {w' : World} {b : Nat}, hp w' b = some (.cells (opC o).toArray 40) → ldv Try.prog 40 (.pointer (some ⟨b, 0, none⟩)) w' = some (.agg (opC o).toArray) := fun hw => bJ (t := 40) (c := (opC o).toArray) ag_40 (show (Try.prog.info? 40).map (·.size) = some (opC o).toArray.size from sz_40) hw
  simp -implicitDefEqProofs only [L13_3, ldo h13, ld_hn h14, ad]
  refine (c_answer D hm (by omega) (by omega) n o h).mono ?_
  rintro _ w1 ⟨r, rfl, D1, k1⟩
  have a13 := k1.at h13 (by simp; exact f13.2.2)
  have a14 := k1.at h14 (by simp; exact f14.2.2)
  simp -implicitDefEqProofs only [al_53]
  rw [st_res (c := (rsC noR).toArray) (e := 53) (by rw [bc, if_pos rfl]; rfl) rfl]
  generalize hw2 : Ev.put (w1.alloc _) w1.heap.size _ _ = w2
  have k2 : Chg [] w1 w2 := by rw [← hw2]; exact ((Chg.refl _ _).alloc _).put (.inr (Nat.le_refl _)) _ _
  have a19 : hp w2 w1.heap.size = some (.cells (rsC r).toArray 53) := by rw [← hw2]; exact bv (by simp) _ _
  clear hw2
  have n19m : ¬ Fm w1.heap.size := fun h => by have := isAt.lt D1.I (bY _) _ h; omega
  have n19x : ¬ Fx w1.heap.size := fun h => by have := isAt.lt D1.X (cf _) _ h; omega
  generalize w1.heap.size = g19 at *
  have D2 := D1.keep (k2.trans (Chg.refl [] w2).drew)
  have b13 := (k2.trans (Chg.refl [] w2).drew).at a13 (by simp)
  have b14 := (k2.trans (Chg.refl [] w2).drew).at a14 (by simp)
  have b19 := (Chg.refl [] w2).drew.at a19 (by simp)
  have kx := pl_x D2
  rw [au] at kx
  simp -implicitDefEqProofs only [ad, ax, am, aM, aN, aQ, aR, av, ak, aJ, aK, aS, aT, ay, ap, aU, aV, aX, aY, ae, ac, aj, ag, z1z, z2z, z3z, z4z, aH, af, aD, aB, aC, aA, aE, aG, z5z, z6z, ah, z7z, z8z, au, fa_92_2, ld_89, kx, ldo b13, ld_hn b14, bV b19]
  refine (c_rDo D2.X D2.sx.wf D2.sx.wn (by omega) n o h r).mono ?_
  rintro _ w3 ⟨rfl, Fx3, X3, u3⟩
  have D3 := D2.updX (K' := i + 1) X3 u3 (by omega) (D2.sx.doV (by omega) n o h r)
  have d13 := u3.keep b13 f13.2.1
  have d14 := u3.keep b14 f14.2.1
  have d19 := u3.keep b19 n19x
  have D3d := D3.keep (Chg.refl [] w3).drew
  have e13 := (Chg.refl [] w3).drew.at d13.1 (by simp)
  have e14 := (Chg.refl [] w3).drew.at d14.1 (by simp)
  have e19 := (Chg.refl [] w3).drew.at d19.1 (by simp)
  have km := pl_m D3
  simp -implicitDefEqProofs only [ad, ax, am, aM, aN, aQ, aR, av, ak, aJ, aK, aS, aT, ay, ap, aU, aV, aX, aY, ae, ac, aj, ag, z1z, z2z, z3z, z4z, aH, af, aD, aB, aC, aA, aE, aG, z5z, z6z, ah, z7z, z8z, au, fa_92_1, ld_75, km, ldo e13, ld_hn e14, bV e19]
  refine (c_mDo D3d.I (D2.sm.wf) (by omega) n o h r).mono ?_
  rintro _ w4 ⟨rfl, Fm4, I4, u4⟩
  have D4 := D3d.updM (K' := i + 1) I4 u4 (by omega) (D2.sm.doV (by omega) n o h r)
  have j14 := u4.keep e14 f14.1
  have j19 := u4.keep e19 n19m
  simp -implicitDefEqProofs only [ad, ax, am, aM, aN, aQ, aR, av, ak, aJ, aK, aS, aT, ay, ap, aU, aV, aX, aY, ae, ac, aj, ag, z1z, z2z, z3z, z4z, aH, af, aD, aB, aC, aA, aE, aG, z5z, z6z, ah, z7z, z8z, au, be_neqb Try.underlying4, z5z, ld_hn j14.1]
  refine (c_same D4 hm (by omega) h n).mono ?_
  rintro _ w5 ⟨rfl, k5⟩
  have D5 := D4.keep k5
  have l19 := k5.at j19.1 (by simp)
  have r2 : (rsC r).toArray[0 + 1 + 1]? = some (.int .i64 r.2.1.2.1) := rfl
  cases hd : (doV m n o h r).1 with
  | false =>
    rw [hd] at *
    simp -implicitDefEqProofs only [ad, ax, am, aM, aN, aQ, aR, av, ak, aJ, aK, aS, aT, ay, ap, aU, aV, aX, aY, ae, ac, aj, ag, z1z, z2z, z3z, z4z, aH, af, aD, aB, aC, aA, aE, aG, z5z, z6z, ah, z7z, z8z, au]
    exact N _ _ _ _ _ _ _ (D5.more (by omega))
  | true =>
    rw [hd] at *
    by_cases hg : 0 < r.2.1.2.1
    · have D5d := D5.keep (Chg.refl [] w5).drew
      have l19d := (Chg.refl [] w5).drew.at l19 (by simp)
      have lh : ldv Try.prog 51 (.pointer (some ⟨g19, 0 + 1, none⟩)) w5.drew = some (.agg (hnC r.2.1).toArray) := by rw [ld_51, l19d, rs_h]; rfl
      have kk := pl_k D5
      simp -implicitDefEqProofs only [ad, ax, am, aM, aN, aQ, aR, av, ak, aJ, aK, aS, aT, ay, ap, aU, aV, aX, aY, ae, ac, aj, ag, z1z, z2z, z3z, z4z, aH, af, aD, aB, aC, aA, aE, aG, z5z, z6z, ah, z7z, z8z, au, fa_53_1, fa_51_1, bj, l19, r2, aC, gt_iff_lt, hg, fa_92_3, ld_90, kk, lh]
      obtain ⟨hown, _⟩ := flat_own D5d.kn
      have hkl := D5d.kl
      refine ps_90 (fun u hu => by simp only [List.mem_cons, List.not_mem_nil, or_false] at hu; rcases hu with rfl | rfl | rfl | rfl | rfl <;> rfl) hown (by omega) (Nat.zero_le _) fun x' w6 ho hgr hnb => ?_
      obtain ⟨F2, hr2, hu2⟩ := flat_grown (vs := hnC r.2.1) D5d.kn ho hgr hnb
      have hr2' : objsT (Kn ++ [r.2.1]) w6 F2 x' := by
        rw [objsT, List.length_append]
        have e : (Kn ++ [r.2.1]).flatMap hnC = Kn.flatMap hnC ++ hnC r.2.1 := by simp
        rw [e]; exact hr2
      have one := (cm _).one hr2'
      have kp := hu2.keep D5d.hp D5d.pk
      have D6 := D5d.updK (K' := i + 1) hr2' hu2 (Nat.le_refl _) (by have := D.kl; simp only [List.length_append, List.length_singleton]; omega)
      rw [st_90 (o := 0 + 8) one.1 one.2 (by rw [kp.1]; rfl), kp.1, getC_some, bM]
      exact N _ _ _ _ _ _ _ (D6.more (by omega))
    · simp -implicitDefEqProofs only [ad, ax, am, aM, aN, aQ, aR, av, ak, aJ, aK, aS, aT, ay, ap, aU, aV, aX, aY, ae, ac, aj, ag, z1z, z2z, z3z, z4z, aH, af, aD, aB, aC, aA, aE, aG, z5z, z6z, ah, z7z, z8z, au, fa_53_1, fa_51_1, bj, l19, r2, aC, gt_iff_lt, hg]
      exact N _ _ _ _ _ _ _ (D5.more (by omega))
end
end Go.Proofs.Ytgamnncehjcdiaa

namespace Go.Proofs.Ytgamnncehjcdiaa
open Go Ev Go.RowKit

section
variable {W W1 w w' w2 : World} {E : PlE} {m mx m' : MdV} {Kn Kn' : List HnV} {K K' B : Nat} {Fm Fx Fk F' : Fp} {kv kv' : Value} {h : HnV} {o : OpV} {g13 g14 g15 g17 : Nat} {n : Int} {i nn : Nat}
theorem tup3_0 (a b c : Value) : pureRun Try.prog (Instr.extract (.tuple #[a, b, c]) 0) = some a := by rw [pr_extract]; rfl
theorem tup3_1 (a b c : Value) : pureRun Try.prog (Instr.extract (.tuple #[a, b, c]) 1) = some b := by rw [pr_extract]; rfl
theorem tup3_2 (a b c : Value) : pureRun Try.prog (Instr.extract (.tuple #[a, b, c]) 2) = some c := by rw [pr_extract]; rfl
set_option maxHeartbeats 4000000 in
theorem l_plays2 {x2 : Value} (hm : mayC E.c = true) (N : NxP W E x2 i) (hi : i ≤ 60) (D : PlF W E w m m Kn i B Fm Fx Fk kv) (hB : B + 10 ≤ 50 * (i + 1)) (h13 : hp w g13 = some (.cells (opC o).toArray 40)) (h14 : hp w g14 = some (.cells (hnC h).toArray 51))
    (f13 : ¬ Fm g13 ∧ ¬ Fx g13 ∧ g13 ≠ E.q) (f14 : ¬ Fm g14 ∧ ¬ Fx g14 ∧ g14 ≠ E.q) (hmay : mayV m nn o = true) (h15 : hp w g15 = some (.cells (rsC (mustV m nn o h).1).toArray 53)) :
    P13_2 x2 (.bool true) (.pointer (some ⟨E.gp, 0, none⟩)) (.pointer (some ⟨E.q, 0, none⟩)) (.int .i64 i) (.int .i64 nn) (.pointer (some ⟨g13, 0, none⟩)) (.pointer (some ⟨g14, 0, none⟩)) (.pointer (some ⟨g15, 0, none⟩)) (.bool (mustV m nn o h).2) w fun v w' => v = .bool true ∧ Chg [] W w' := by
  apply L13_2_ok
  have ldo : ∀ {w' : World} {b : Nat}, hp w' b = some (.cells (opC o).toArray 40) → ldv Try.prog 40 (.pointer (some ⟨b, 0, none⟩)) w' = some (.agg (opC o).toArray) := fun hw => bJ (t := 40) (c := (opC o).toArray) ag_40 (show (Try.prog.info? 40).map (·.size) = some (opC o).toArray.size from sz_40) hw
  have cd : Chg [] w w.drew := (Chg.refl _ _).drew
  have Dd := D.keep cd
  have d13 := cd.at h13 (by simp)
  have d14 := cd.at h14 (by simp)
  have kx := pl_x D
  have ca : Chg [] w.drew (w.drew.alloc (.cells (rsC noR).toArray 53)) := (Chg.refl _ _).alloc _
  have fin : ∀ w3 b, Chg [] w.drew w3 → hp w3 b = some (.cells (rsC (mustV m nn o h).1).toArray 53) → P13_5 x2 (.bool true) (.pointer (some ⟨E.gp, 0, none⟩)) (.pointer (some ⟨E.q, 0, none⟩)) (.int .i64 i) (.int .i64 nn) (.pointer (some ⟨g13, 0, none⟩)) (.pointer (some ⟨g14, 0, none⟩)) (.pointer (some ⟨g15, 0, none⟩)) (.bool (mustV m nn o h).2) (.pointer (some ⟨b, 0, none⟩)) (.bool (mustV m nn o h).2) w3 fun v w' => v = .bool true ∧ Chg [] W w' := by
    intro w3 b c3 h17
    apply L13_5_ok
    have c03 := cd.trans c3
    have hbe : be Try.prog .neq 53 (.tmp 119) (.tmp 120) (.agg (rsC (mustV m nn o h).1).toArray) (.agg (rsC (mustV m nn o h).1).toArray) = some (.bool (!decide ((mustV m nn o h).1 = (mustV m nn o h).1))) := be_nrs _ _
    simp -implicitDefEqProofs only [L13_5, ad, ax, am, aM, aN, aQ, aR, av, ak, aJ, aK, aS, aT, ay, ap, aU, aV, aX, aY, ae, ac, aj, ag, z1z, z2z, z3z, z4z, aH, af, aD, aB, aC, aA, aE, aG, z5z, z6z, ah, z7z, z8z, au, bV (c03.at h15 (by simp)), bV h17, hbe, z1z, be_neqb Try.underlying4, z5z]
    exact l_plays3 hm N hi (D.keep c03) hB (c03.at h13 (by simp)) (c03.at h14 (by simp)) f13 f14
  simp -implicitDefEqProofs only [L13_2, ad, ax, am, aM, aN, aQ, aR, av, ak, aJ, aK, aS, aT, ay, ap, aU, aV, aX, aY, ae, ac, aj, ag, z1z, z2z, z3z, z4z, aH, af, aD, aB, aC, aA, aE, aG, z5z, z6z, ah, z7z, z8z, au, fa_92_2, ld_89, kx, ldo d13, ld_hn d14, al_53]
  repeat' (with_reducible apply And.intro)
  all_goals first
    | (refine (c_rMust (Dd.X.keep ca) Dd.sx.wf (by omega) hmay h).mono ?_
       rintro _ w6 ⟨rfl, c6⟩
       have a6 := c6.at (show hp (w.drew.alloc (.cells (rsC noR).toArray 53)) w.drew.heap.size = some (.cells (rsC noR).toArray 53) by rw [bc, if_pos rfl]) (by simp)
       simp -implicitDefEqProofs only [tup0, tup1, ad, ax, am, aM, aN, aQ, aR, av, ak, aJ, aK, aS, aT, ay, ap, aU, aV, aX, aY, ae, ac, aj, ag, z1z, z2z, z3z, z4z, aH, af, aD, aB, aC, aA, aE, aG, z5z, z6z, ah, z7z, z8z, au]
       rw [st_res a6 rfl]
       exact fin _ _ ((ca.trans c6).put (.inr (Nat.le_refl _)) _ _) (bv (bz a6) _ _))
    | (refine (c_rMust Dd.X Dd.sx.wf (by omega) hmay h).mono ?_
       rintro _ w6 ⟨rfl, c6⟩
       simp -implicitDefEqProofs only [tup0, tup1, ad, ax, am, aM, aN, aQ, aR, av, ak, aJ, aK, aS, aT, ay, ap, aU, aV, aX, aY, ae, ac, aj, ag, z1z, z2z, z3z, z4z, aH, af, aD, aB, aC, aA, aE, aG, z5z, z6z, ah, z7z, z8z, au, al_53]
       have a6 : hp (w6.alloc (.cells (rsC noR).toArray 53)) w6.heap.size = some (.cells (rsC noR).toArray 53) := by rw [bc, if_pos rfl]
       have ca6 : Chg [] w6 (w6.alloc (.cells (rsC noR).toArray 53)) := (Chg.refl _ _).alloc _
       erw [st_res a6 rfl]
       exact fin _ _ ((c6.trans ca6).put (.inr c6.size) _ _) (bv (bz a6) _ _))
set_option maxHeartbeats 8000000 in
theorem l_plays0 (hm : mayC E.c = true) : ∀ (d i : Nat) (w : World) (m : MdV) (Kn : List HnV) (Fm Fx Fk : Fp) (kv : Value), i + d = 60 → PlF W E w m m Kn i (50 * i) Fm Fx Fk kv →
    P13_0 (.slice E.A E.xs.length E.cc) (.bool true) (.pointer (some ⟨E.gp, 0, none⟩)) (.pointer (some ⟨E.q, 0, none⟩)) (.int .i64 i) w fun v w' => v = .bool true ∧ Chg [] W w'
  | 0, i, w, m, Kn, Fm, Fx, Fk, kv, hi, D => by
    apply L13_0_ok
    have : ¬ (i : Int) < 60 := by omega
    simp -implicitDefEqProofs only [L13_0, ad, ax, am, aM, aN, aQ, aR, av, ak, aJ, aK, aS, aT, ay, ap, aU, aV, aX, aY, ae, ac, aj, ag, z1z, z2z, z3z, z4z, aH, af, aD, aB, aC, aA, aE, aG, z5z, z6z, ah, z7z, z8z, au, this]
    exact ⟨by first | rfl | trivial, D.chg⟩
  | d + 1, i, w, m, Kn, Fm, Fx, Fk, kv, hi, D => by
    apply L13_0_ok
    obtain ⟨m1, m2, m3, m4⟩ := may_cf hm
    have N : NxP W E (.slice E.A E.xs.length E.cc) i := fun w m Kn Fm Fx Fk kv D => by
      apply L13_4_ok
      simp -implicitDefEqProofs only [L13_4, ad, ax, am, aM, aN, aQ, aR, av, ak, aJ, aK, aS, aT, ay, ap, aU, aV, aX, aY, ae, ac, aj, ag, z1z, z2z, z3z, z4z, aH, af, aD, aB, aC, aA, aE, aG, z5z, z6z, ah, z7z, z8z, au, bG, bC (n := (i : Int) + 1) (by omega) (by omega)]
      have := l_plays0 hm d (i + 1) w m Kn Fm Fx Fk kv (by omega) D
      rw [Int.natCast_add i 1] at this
      exact this
    have hlt : (i : Int) < 60 := by omega
    obtain ⟨at', sq, hat⟩ := D.sq
    by_cases hal : (at' : Int) < E.xs.length
    · simp -implicitDefEqProofs only [L13_0, ad, ax, am, aM, aN, aQ, aR, av, ak, aJ, aK, aS, aT, ay, ap, aU, aV, aX, aY, ae, ac, aj, ag, z1z, z2z, z3z, z4z, aH, af, aD, aB, aC, aA, aE, aG, z5z, z6z, ah, z7z, z8z, au, hlt, fa_100_1, bj, sq, t2_1, len_23, hal]
      refine D.N (by omega) (by decide) (by decide) fun r w1 h1 k1 D1 => ?_
      by_cases hr : (r : Int) = 0
      · have e : ((r : Int) == 0) = true := by rw [hr]; rfl
        have c3 : ldC (hp w1 E.gp) (0 + 0 + 3) = some (.int .i64 E.c.2.2.2.1) := pl_c D1 (by omega)
        simp -implicitDefEqProofs only [ad, ax, am, aM, aN, aQ, aR, av, ak, aJ, aK, aS, aT, ay, ap, aU, aV, aX, aY, ae, ac, aj, ag, z1z, z2z, z3z, z4z, aH, af, aD, aB, aC, aA, aE, aG, z5z, z6z, ah, z7z, z8z, au, e, fa_92_0, fa_74_3, bj, c3, bG, bC (n := E.c.2.2.2.1 + 2) (by omega) (by omega)]
        refine D1.N (by omega) (by omega) (by omega) fun r2 w2 h2 k2 D2 => ?_
        have D2d := D2.keep (Chg.refl [] w2).drew
        have km := pl_m D2
        have kx := pl_x D2
        have cs := D2.sx.wn.cs
        have hx1 : (((toRf m).state.length : Nat) : Int) = (toRf m).c.2.2.2.1 := by
          show _ = m.c.2.2.2.1
          simp only [toRf, List.length_map]; omega
        simp -implicitDefEqProofs only [ad, ax, am, aM, aN, aQ, aR, av, ak, aJ, aK, aS, aT, ay, ap, aU, aV, aX, aY, ae, ac, aj, ag, z1z, z2z, z3z, z4z, aH, af, aD, aB, aC, aA, aE, aG, z5z, z6z, ah, z7z, z8z, au, bp_sub, bC (n := (r2 : Int) - 1) (by omega) (by omega), fa_92_1, fa_92_2, ld_75, ld_89, km, kx]
        repeat' (with_reducible apply And.intro)
        all_goals
          refine (c_mBack D2d.I ((r2 : Int) - 1)).mono ?_
          rintro _ w3 ⟨rfl, F3, I3, u3⟩
          have D3 := D2d.updM (K' := i + 1) I3 u3 (by omega) ((D2.sm.back _).mono (by omega))
          have kx3 := pl_x D3
          try simp -implicitDefEqProofs only [ad, ax, am, aM, aN, aQ, aR, av, ak, aJ, aK, aS, aT, ay, ap, aU, aV, aX, aY, ae, ac, aj, ag, z1z, z2z, z3z, z4z, aH, af, aD, aB, aC, aA, aE, aG, z5z, z6z, ah, z7z, z8z, au, fa_92_2, ld_89, kx3]
          refine (c_rBack D3.X hx1 ((r2 : Int) - 1)).mono ?_
          rintro _ w4 ⟨rfl, F4, I4, u4⟩
          rw [rf_back] at I4 ⊢
          have D4 := D3.updX (K' := i + 1) I4 u4 (Nat.le_refl _) ((D2.sm.back _).mono (by omega))
          simp -implicitDefEqProofs only [ad, ax, am, aM, aN, aQ, aR, av, ak, aJ, aK, aS, aT, ay, ap, aU, aV, aX, aY, ae, ac, aj, ag, z1z, z2z, z3z, z4z, aH, af, aD, aB, aC, aA, aE, aG, z5z, z6z, ah, z7z, z8z, au, be_neqb Try.underlying4, z5z]
          apply L13_1_ok
          simp -implicitDefEqProofs only [L13_1, ad, ax, am, aM, aN, aQ, aR, av, ak, aJ, aK, aS, aT, ay, ap, aU, aV, aX, aY, ae, ac, aj, ag, z1z, z2z, z3z, z4z, aH, af, aD, aB, aC, aA, aE, aG, z5z, z6z, ah, z7z, z8z, au]
          exact N _ _ _ _ _ _ _ (D4.more (by omega))
      · simp -implicitDefEqProofs only [ad, ax, am, aM, aN, aQ, aR, av, ak, aJ, aK, aS, aT, ay, ap, aU, aV, aX, aY, ae, ac, aj, ag, z1z, z2z, z3z, z4z, aH, af, aD, aB, aC, aA, aE, aG, z5z, z6z, ah, z7z, z8z, au, eqf hr]
        refine (c_asks D1 hm (by omega) (by omega)).mono ?_
        rintro _ w2 ⟨n, o, h, rfl, D2, k2⟩
        have ldo : ∀ {w' : World} {b : Nat}, hp w' b = some (.cells (opC o).toArray 40) → ldv Try.prog 40 (.pointer (some ⟨b, 0, none⟩)) w' = some (.agg (opC o).toArray) := fun hw => bJ (t := 40) (c := (opC o).toArray) ag_40 (show (Try.prog.info? 40).map (·.size) = some (opC o).toArray.size from sz_40) hw
        simp -implicitDefEqProofs only [tup3_0, tup3_1, tup3_2, ad, al_40, al_51, bf]
        rw [st_40 (b := w2.heap.size) rfl rfl (by rw [bc, bf, if_neg (by omega), bc, if_pos rfl]; rfl) (by rw [bc, bf, if_neg (by omega), bc, if_pos rfl]; rfl)]
        rw [bc, bf, if_neg (by omega), bc, if_pos rfl, bM]
        rw [st_hn (b := w2.heap.size + 1) (c := (hnC noH).toArray) (e := 51) (by rw [bS (by omega), bc, bf, if_pos rfl]; rfl) rfl]
        generalize hw3 : Ev.put (Ev.put ((w2.alloc _).alloc _) _ _ _) _ _ _ = w3
        have k3 : Chg [] w2 w3 := by rw [← hw3]; exact ((((Chg.refl _ _).alloc _).alloc _).put (.inr (Nat.le_refl _)) _ _).put (.inr (by omega)) _ _
        have a13 : hp w3 w2.heap.size = some (.cells (opC o).toArray 40) := by
          rw [← hw3, bS (by omega)]
          exact bv (by simp only [bf]; omega) _ _
        have a14 : hp w3 (w2.heap.size + 1) = some (.cells (hnC h).toArray 51) := by
          rw [← hw3]
          exact bv (by simp) _ _
        clear hw3
        have lm := isAt.lt D2.I (bY _)
        have lx := isAt.lt D2.X (cf _)
        have lq := D2.qlt
        have f13 : ¬ Fm w2.heap.size ∧ ¬ Fx w2.heap.size ∧ w2.heap.size ≠ E.q := ⟨fun h => by have := lm _ h; omega, fun h => by have := lx _ h; omega, by omega⟩
        have f14 : ¬ Fm (w2.heap.size + 1) ∧ ¬ Fx (w2.heap.size + 1) ∧ w2.heap.size + 1 ≠ E.q := ⟨fun h => by have := lm _ h; omega, fun h => by have := lx _ h; omega, by omega⟩
        have D3 := D2.keep k3
        generalize w2.heap.size + 1 = g14 at *
        generalize w2.heap.size = g13 at *
        have c0 : ldC (hp w3 E.gp) (0 + 0 + 0) = some (.int .i64 E.c.1) := pl_c D3 (by omega)
        by_cases n0 : 0 ≤ n
        · by_cases n1 : n < E.c.1
          · simp -implicitDefEqProofs only [ad, ax, am, aM, aN, aQ, aR, av, ak, aJ, aK, aS, aT, ay, ap, aU, aV, aX, aY, ae, ac, aj, ag, z1z, z2z, z3z, z4z, aH, af, aD, aB, aC, aA, aE, aG, z5z, z6z, ah, z7z, z8z, au, aA, ge_iff_le, n0, n1, fa_92_0, fa_74_0, bj, c0, ldo a13]
            refine (c_refMay o w3).mono ?_
            rintro _ w4 ⟨rfl, k4⟩
            have D4 := D3.keep k4
            have b13 := k4.at a13 (by simp)
            have b14 := k4.at a14 (by simp)
            cases hmo : mayO o with
            | false =>
              simp -implicitDefEqProofs only [ad, ax, am, aM, aN, aQ, aR, av, ak, aJ, aK, aS, aT, ay, ap, aU, aV, aX, aY, ae, ac, aj, ag, z1z, z2z, z3z, z4z, aH, af, aD, aB, aC, aA, aE, aG, z5z, z6z, ah, z7z, z8z, au]
              exact l_plays3 hm N (by omega) D4 (by omega) b13 b14 f13 f14
            | true =>
              obtain ⟨nn, rfl⟩ := Int.eq_ofNat_of_zero_le n0
              have hmay : mayV m nn o = true := by
                have h1 := D4.sx.wn.cw
                rw [D4.sx.mc] at h1
                rw [mayV, hmo, decide_eq_true (show (0 : Int) ≤ nn by omega), decide_eq_true (show (nn : Int) < m.hands.length by omega)]; rfl
              have cd : Chg [] w4 w4.drew := (Chg.refl _ _).drew
              have Dd := D4.keep cd
              have d13 := cd.at b13 (by simp)
              have d14 := cd.at b14 (by simp)
              have km := pl_m D4
              have ca : Chg [] w4.drew (w4.drew.alloc (.cells (rsC noR).toArray 53)) := (Chg.refl _ _).alloc _
              simp -implicitDefEqProofs only [ad, ax, am, aM, aN, aQ, aR, av, ak, aJ, aK, aS, aT, ay, ap, aU, aV, aX, aY, ae, ac, aj, ag, z1z, z2z, z3z, z4z, aH, af, aD, aB, aC, aA, aE, aG, z5z, z6z, ah, z7z, z8z, au, fa_92_1, ld_75, km, ldo d13, ld_hn d14, al_53]
              repeat' (with_reducible apply And.intro)
              all_goals first
                | (refine (c_mMust (Dd.I.keep ca) Dd.sm.wf (by omega) nn o h).mono ?_
                   rintro _ w6 ⟨rfl, c6⟩
                   have a6 := c6.at (show hp (w4.drew.alloc (.cells (rsC noR).toArray 53)) w4.drew.heap.size = some (.cells (rsC noR).toArray 53) by rw [bc, if_pos rfl]) (by simp)
                   simp -implicitDefEqProofs only [tup0, tup1, ad, ax, am, aM, aN, aQ, aR, av, ak, aJ, aK, aS, aT, ay, ap, aU, aV, aX, aY, ae, ac, aj, ag, z1z, z2z, z3z, z4z, aH, af, aD, aB, aC, aA, aE, aG, z5z, z6z, ah, z7z, z8z, au]
                   rw [st_res a6 rfl]
                   have cq : Chg [] w4.drew (Ev.put w6 w4.drew.heap.size (rsC (mustV m nn o h).1).toArray 53) := (ca.trans c6).put (.inr (Nat.le_refl _)) _ _
                   exact l_plays2 hm N (by omega) (Dd.keep cq) (by omega) (cq.at d13 (by simp)) (cq.at d14 (by simp)) f13 f14 hmay (bv (bz a6) _ _))
                | (refine (c_mMust Dd.I Dd.sm.wf (by omega) nn o h).mono ?_
                   rintro _ w6 ⟨rfl, c6⟩
                   simp -implicitDefEqProofs only [tup0, tup1, ad, ax, am, aM, aN, aQ, aR, av, ak, aJ, aK, aS, aT, ay, ap, aU, aV, aX, aY, ae, ac, aj, ag, z1z, z2z, z3z, z4z, aH, af, aD, aB, aC, aA, aE, aG, z5z, z6z, ah, z7z, z8z, au, al_53]
                   have a6 : hp (w6.alloc (.cells (rsC noR).toArray 53)) w6.heap.size = some (.cells (rsC noR).toArray 53) := by rw [bc, if_pos rfl]
                   have ca6 : Chg [] w6 (w6.alloc (.cells (rsC noR).toArray 53)) := (Chg.refl _ _).alloc _
                   erw [st_res a6 rfl]
                   have cq := (c6.trans ca6).put (.inr c6.size) (rsC (mustV m nn o h).1).toArray 53
                   exact l_plays2 hm N (by omega) (Dd.keep cq) (by omega) (cq.at d13 (by simp)) (cq.at d14 (by simp)) f13 f14 hmay (bv (bz a6) _ _))
                | exact l_plays3 hm N (by omega) D4 (by omega) b13 b14 f13 f14
          · simp -implicitDefEqProofs only [ad, ax, am, aM, aN, aQ, aR, av, ak, aJ, aK, aS, aT, ay, ap, aU, aV, aX, aY, ae, ac, aj, ag, z1z, z2z, z3z, z4z, aH, af, aD, aB, aC, aA, aE, aG, z5z, z6z, ah, z7z, z8z, au, aA, ge_iff_le, n0, n1, fa_92_0, fa_74_0, bj, c0]
            exact l_plays3 hm N (by omega) D3 (by omega) a13 a14 f13 f14
        · simp -implicitDefEqProofs only [ad, ax, am, aM, aN, aQ, aR, av, ak, aJ, aK, aS, aT, ay, ap, aU, aV, aX, aY, ae, ac, aj, ag, z1z, z2z, z3z, z4z, aH, af, aD, aB, aC, aA, aE, aG, z5z, z6z, ah, z7z, z8z, au, aA, ge_iff_le, n0]
          exact l_plays3 hm N (by omega) D3 (by omega) a13 a14 f13 f14
    · simp -implicitDefEqProofs only [L13_0, ad, ax, am, aM, aN, aQ, aR, av, ak, aJ, aK, aS, aT, ay, ap, aU, aV, aX, aY, ae, ac, aj, ag, z1z, z2z, z3z, z4z, aH, af, aD, aB, aC, aA, aE, aG, z5z, z6z, ah, z7z, z8z, au, hlt, fa_100_1, bj, sq, t2_1, len_23, hal]
      exact ⟨by first | rfl | trivial, D.chg⟩
set_option maxHeartbeats 2000000 in
theorem c_plays (a0 : Int) (loose : Bool) {A : Option Addr} {cc : Nat} {xs : List Int} (hR : RdI .i64 w A xs) : CallR Try.prog 13 [.int .i64 a0, .bool loose, .slice A xs.length cc] w fun v w' => v = .bool true ∧ Chg [] w w' := by
  apply F13_ok
  simp -implicitDefEqProofs only [F13]
  refine (c_mFirst w).mono ?_
  rintro _ w1 ⟨rfl, c1⟩
  by_cases hl : (400 : Int) < xs.length
  · simp -implicitDefEqProofs only [ad, ax, am, aM, aN, aQ, aR, av, ak, aJ, aK, aS, aT, ay, ap, aU, aV, aX, aY, ae, ac, aj, ag, z1z, z2z, z3z, z4z, aH, af, aD, aB, aC, aA, aE, aG, z5z, z6z, ah, z7z, z8z, au, len_23, hl, gt_iff_lt]
    exact ⟨by first | rfl | trivial, c1⟩
  simp -implicitDefEqProofs only [ad, ax, am, aM, aN, aQ, aR, av, ak, aJ, aK, aS, aT, ay, ap, aU, aV, aX, aY, ae, ac, aj, ag, z1z, z2z, z3z, z4z, aH, af, aD, aB, aC, aA, aE, aG, z5z, z6z, ah, z7z, z8z, au, len_23, hl, gt_iff_lt]
  refine (c_mConfig a0 w1).mono ?_
  rintro _ w2 ⟨c, rfl, hmay, c2⟩
  refine (c_made24 (loose := loose) hmay w2).mono ?_
  rintro _ w3 ⟨gp, g, gx, Fm, Fx, rfl, P⟩
  simp -implicitDefEqProofs only [ad, ax, am, aM, aN, aQ, aR, av, ak, aJ, aK, aS, aT, ay, ap, aU, aV, aX, aY, ae, ac, aj, ag, z1z, z2z, z3z, z4z, aH, af, aD, aB, aC, aA, aE, aG, z5z, z6z, ah, z7z, z8z, au, be_eqlp Try.underlying87, z8z, bd_100_0, bE, bA]
  generalize hw4 : w3.alloc _ = w4
  have c4 : Chg [] w3 w4 := by rw [← hw4]; exact (Chg.refl _ _).alloc _
  have aq : hp w4 w3.heap.size = some (.cells #[.slice A xs.length cc, .int .i64 ((0 : Nat) : Int)] 100) := by rw [← hw4, bc, if_pos rfl]; rfl
  clear hw4
  have c12 := c1.trans c2
  have s3 := P.chg.size
  have hgp := bz P.hp
  have call : Chg [] w w4 := c12.trans (P.chg.trans c4)
  by_cases hx : xs = []
  · subst hx
    apply L13_0_ok
    have hlt : (0 : Int) < 60 := by omega
    have hal : ¬ ((0 : Nat) : Int) < ([] : List Int).length := by simp
    simp -implicitDefEqProofs only [L13_0, ad, ax, am, aM, aN, aQ, aR, av, ak, aJ, aK, aS, aT, ay, ap, aU, aV, aX, aY, ae, ac, aj, ag, z1z, z2z, z3z, z4z, aH, af, aD, aB, aC, aA, aE, aG, z5z, z6z, ah, z7z, z8z, au, hlt, fa_100_1, bj, aq, t2_1, len_23, hal]
    exact ⟨by first | rfl | trivial, call⟩
  · have R2 := hR.keep c12.below
    have ne : ∀ p, A = some p → p.block < w2.heap.size := fun p hp => by
      obtain ⟨q, hq, hc⟩ := R2 0 (List.length_pos_iff.2 hx)
      rw [hp] at hq; cases hq
      have := cell_lt hc
      rwa [blk_add] at this
    have D : PlF w2 ⟨gp, g, gx, w3.heap.size, c, A, cc, xs⟩ w4 (newM c loose) (newM c loose) [] 0 (50 * 0) Fm Fx none' (.slice none 0 0) :=
      ⟨P.chg.trans c4, c4.at P.hp (by simp), P.I.keep c4, P.X.keep c4, isRow.nil, ⟨0, aq, Nat.le_refl _⟩, R2, ne, P.dis, fun k h1 h2 => h2.elim, fun k h1 h2 => h2.elim, P.pm, P.px, fun h => h.elim,
        fun h => by have := isAt.lt P.I (bY _) _ h; simp only at this; omega, fun h => by have := isAt.lt P.X (cf _) _ h; simp only at this; omega, fun h => h.elim, by simp only; omega, P.nm, P.nx, fun k h => h.elim, P.np, s3,
        ⟨wf_new hmay loose, wn_new hmay loose, rfl⟩, ⟨wf_new hmay loose, wn_new hmay loose, rfl⟩, Nat.le_refl _⟩
    refine (l_plays0 hmay 60 0 w4 (newM c loose) [] Fm Fx none' (.slice none 0 0) rfl D).mono ?_
    rintro _ w5 ⟨rfl, c5⟩
    exact ⟨rfl, c12.trans c5⟩
theorem lawModelPlays {W : World} (a0 : Int) (_ : (Lit.int .i64 a0).wf = true) (loose : Bool) (A : Option Addr) (n c : Nat) (zs : List Int) (h : InInts .i64 W A n c zs) : CallR Try.prog 13 [.int .i64 a0, .bool loose, .slice A n c] W fun v w' => v = .bool true ∧ Below W.heap.size W w' := by
  obtain ⟨h1, h2, h3, _, _⟩ := h.rd
  generalize zs.take n = xs at h1 h2
  subst h2
  exact (c_plays a0 loose h1).mono fun _ _ h => ⟨h.1, h.2.below⟩
end
end Go.Proofs.Ytgamnncehjcdiaa

