/- The call of RecordBent answers true: the calls. -/
import Derived.Test.YtkploakfdlnbbaaRq
import Derived.Test.YtkploakfdlnbbaaCa
namespace Go.Proofs.Ytkploakfdlnbbaa
open Go Ev Go.RowKit
set_option linter.unusedSimpArgs false
set_option linter.unusedVariables false
set_option maxRecDepth 10000

theorem tup0 (a b : Value) : pureRun Try.prog (Instr.extract (.tuple #[a, b]) 0) = some a := by rw [pr_extract]; rfl
theorem tup1 (a b : Value) : pureRun Try.prog (Instr.extract (.tuple #[a, b]) 1) = some b := by rw [pr_extract]; rfl
/-- what is left once the numbers were turned -/
theorem l_Bent1 {W w : World} {base n : Nat} {v : Value} {S : List SpV} (h : w.ownsRow base 59 20 v n (S.flatMap spC)) (hn : n = S.length) (hl : S.length ≤ 100) (hno : mayC S = false) (hW : Chg [] W w) :
    P13_1 (.bool true) v w fun v w' => v = .bool true ∧ Below W.heap.size W w' := by
  apply L13_1_ok
  simp -implicitDefEqProofs only [L13_1, gE_true, gv_true]
  refine (c_RMay (l := S) (by omega) (slP_own h hn)).mono ?_
  rintro v w2 ⟨rfl, hc2⟩
  rw [mayB_C, hno]
  simp -implicitDefEqProofs only [pr_not, Bool.not_false, gd_true, wpB_some', pickv_true]
  exact ⟨trivial, (hW.trans hc2).below⟩
/-- a number of a span of an own slice: its place; what is written there -/
theorem sp_wr {w : World} {base n : Nat} {v : Value} {S : List SpV} (h : w.ownsRow base 59 20 v n (S.flatMap spC)) (hn : n = S.length) {id : Int} (h0 : 0 ≤ id) (hl : id < n) :
    ∃ g, v.ownBlock = some g ∧ (∀ j, pureRun Try.prog (Instr.indexAt 48 v (.int j id)) = some (.pointer (some ⟨g, id.toNat * 20, none⟩))) ∧ (∀ k, k < 20 → ldC (hp w g) (id.toNat * 20 + k) = (spA (spAt S id))[k]?) ∧
      ∀ (s' : SpV) (k : Nat) (x : Int), k < 20 → spC s' = (spC (spAt S id)).take k ++ [.int .i64 x] ++ (spC (spAt S id)).drop (k + 1) →
        ∃ w', (∀ L, effu Try.prog (Instr.storeAt 3 (.pointer (some ⟨g, id.toNat * 20 + k, none⟩)) (.int .i64 x)) w L = L w') ∧ w'.ownsRow base 59 20 v n ((S.set id.toNat s').flatMap spC) ∧ ∀ W, Chg [] W w → W.heap.size ≤ base → Chg [] W w' := by
  obtain ⟨g, c, e, hg, q1, q2, q3⟩ := sp_own h hn h0 hl
  refine ⟨g, hg, q1, q2, fun s' k x hk he => ?_⟩
  obtain ⟨p1, p2⟩ := sp_put h hn h0 hl hg s' k x hk he
  exact ⟨_, fun L => st_3 (v := .int .i64 x) rfl rfl p2, p1, fun W hW hb => hW.put (.inr (Nat.le_trans hb (h.lt g hg).1)) _ _⟩
theorem spAt_set {S : List SpV} {i : Nat} (s : SpV) (hi : i < S.length) : spAt (S.set i s) (i : Int) = s := by
  unfold spAt; simp [List.getD_eq_getElem?_getD, hi]
theorem spAt_ne {S : List SpV} {i j : Nat} (s : SpV) (h : i ≠ j) : spAt (S.set i s) (j : Int) = spAt S (j : Int) := by
  unfold spAt; simp [List.getD_eq_getElem?_getD, h]
set_option maxHeartbeats 4000000 in
theorem l_Bent0 {W : World} {k : Nat} (hk2 : 2 ≤ k) (hk6 : k < 7) (a1 a2 : Int) : ∀ (d i : Nat) (w : World) (r : Nat) (F : List Nat), RecI w r F (bentSt i).1 (bentSt i).2.1 (bentSt i).2.2 → (∀ j ∈ F, W.heap.size ≤ j) → Chg [] W w → i + d = k →
    P13_0 (.int .i64 a1) (.int .i64 a2) (.bool true) (.pointer (some ⟨r, 0, none⟩)) (.int .i64 k) (.int .i64 i) w fun v w' => v = .bool true ∧ Below W.heap.size W w' := by
  intro d
  induction d with
  | zero =>
    intro i w r F hR hF hW hi
    obtain rfl : i = k := by omega
    apply L13_0_ok
    simp -implicitDefEqProofs only [L13_0, bp_lss, Int.lt_irrefl, decide_false, wpB_some', cnd_false]
    have hlen := (bent_len i hk6).1
    refine (c_List hR (by omega)).mono ?_
    rintro v w1 ⟨hv, hc1⟩
    rw [hlen] at hv
    have hW1 := hW.trans hc1
    have hv := ownsRow_mono hv hW.size
    clear hc1 hR hF
    have hlp := slP_own hv hlen.symm
    obtain ⟨A, c, rfl, _⟩ := hlp
    rw [hlen] at hv ⊢
    simp -implicitDefEqProofs only [len_48, be_neq, bne_self_eq_false, wpB_some', gE_false, gv_false]
    refine (c_RMay (l := (bentSt i).1) (by omega) (slP_own hv hlen.symm)).mono ?_
    rintro _ w2 ⟨rfl, hc2⟩
    rw [mayB_C, bent_may i hk6]
    simp -implicitDefEqProofs only [pr_not, Bool.not_true, gd_false, wpB_some', pickv_false, cnd_false]
    have hW2 := hW1.trans hc2
    have hv2 := ownsRow_chg hv hc2 (by simp)
    clear hv hW1 hc2
    refine (c23 a1 i w2 (by omega) (by omega)).step ?_
    refine (c23 a2 8 w2 (by omega) (by omega)).step ?_
    obtain ⟨wn, hwn, hwk⟩ : ∃ wn : Nat, a1 % (i : Int) = wn ∧ wn < i := ⟨(a1 % (i : Int)).toNat, by have := Int.emod_nonneg a1 (show (i : Int) ≠ 0 by omega); omega, by have := Int.emod_lt_of_pos a1 (show (0 : Int) < i by omega); have := Int.emod_nonneg a1 (show (i : Int) ≠ 0 by omega); omega⟩
    rw [hwn]
    obtain ⟨b1, b2, b3⟩ := bent_num i hk6 wn hwk
    obtain ⟨g, hg, q1, q2, q3⟩ := sp_wr hv2 hlen.symm (id := (wn : Int)) (by omega) (by omega)
    have q8 := q2 8 (by omega)
    have q9 := q2 9 (by omega)
    rw [sp8] at q8
    rw [sp9] at q9
    have fin : ∀ (how m : Nat) (S' : List SpV) (w' : World), w'.ownsRow W.heap.size 59 20 (.slice A i c) i (S'.flatMap spC) → S'.length = i → Chg [] W w' → mayC S' = false → P13_1 (.bool true) (.slice A i c) w' fun v w' => v = .bool true ∧ Below W.heap.size W w' :=
      fun how m S' w' h1 h2 h3 h4 => l_Bent1 h1 h2.symm (by omega) h4 h3
    rcases (show a2 % 8 = 0 ∨ a2 % 8 = 1 ∨ a2 % 8 = 2 ∨ a2 % 8 = 3 ∨ a2 % 8 = 4 ∨ a2 % 8 = 5 ∨ a2 % 8 = 6 ∨ a2 % 8 = 7 by omega) with h | h | h | h | h | h | h | h
    · obtain ⟨w', e1, e2, e3⟩ := q3 { spAt (bentSt i).1 wn with pt := (spAt (bentSt i).1 wn).iv - 1 } 9 ((spAt (bentSt i).1 wn).iv - 1) (by omega) rfl
      simp -implicitDefEqProofs only [h, be_eql, show ((0 : Int) == 0) = true from rfl, wpB_some', cnd_true, q1, fa_59_3, fa_59_4, ld_3, q8, bp_sub, wrapi (n := (spAt (bentSt i).1 wn).iv - 1) (by omega) (by omega), e1]
      exact fin 0 0 _ _ e2 (by simp [hlen]) (e3 W hW2 (Nat.le_refl _)) (bent_no i hk6 hk2 wn hwk 0 (by omega))
    · obtain ⟨w', e1, e2, e3⟩ := q3 { spAt (bentSt i).1 wn with pt := -1 } 9 (-1) (by omega) rfl
      simp -implicitDefEqProofs only [h, be_eql, show ((1 : Int) == 0) = false from rfl, show ((1 : Int) == 1) = true from rfl, wpB_some', cnd_true, cnd_false, q1, fa_59_4, e1]
      exact fin 1 0 _ _ e2 (by simp [hlen]) (e3 W hW2 (Nat.le_refl _)) (bent_no i hk6 hk2 wn hwk 1 (by omega))
    · obtain ⟨w', e1, e2, e3⟩ := q3 { spAt (bentSt i).1 wn with rs := (spAt (bentSt i).1 wn).pt - 1 } 11 ((spAt (bentSt i).1 wn).pt - 1) (by omega) rfl
      simp -implicitDefEqProofs only [h, be_eql, show ((2 : Int) == 0) = false from rfl, show ((2 : Int) == 1) = false from rfl, show ((2 : Int) == 2) = true from rfl, wpB_some', cnd_true, cnd_false, q1, fa_59_4, fa_59_6, ld_3, q9, bp_sub, wrapi (n := (spAt (bentSt i).1 wn).pt - 1) (by omega) (by omega), e1]
      exact fin 2 0 _ _ e2 (by simp [hlen]) (e3 W hW2 (Nat.le_refl _)) (bent_no i hk6 hk2 wn hwk 2 (by omega))
    · obtain ⟨w', e1, e2, e3⟩ := q3 { spAt (bentSt i).1 wn with bk := (spAt (bentSt i).1 wn).pt } 10 ((spAt (bentSt i).1 wn).pt) (by omega) rfl
      simp -implicitDefEqProofs only [h, be_eql, show ((3 : Int) == 0) = false from rfl, show ((3 : Int) == 1) = false from rfl, show ((3 : Int) == 2) = false from rfl, show ((3 : Int) == 3) = true from rfl, wpB_some', cnd_true, cnd_false, q1, fa_59_4, fa_59_5, ld_3, q9, e1]
      exact fin 3 0 _ _ e2 (by simp [hlen]) (e3 W hW2 (Nat.le_refl _)) (bent_no i hk6 hk2 wn hwk 3 (by omega))
    · obtain ⟨m, hm, hm9⟩ : ∃ m : Nat, a2 % 9 = m ∧ m < 9 := ⟨(a2 % 9).toNat, by omega, by omega⟩
      obtain ⟨w', e1, e2, e3⟩ := q3 { spAt (bentSt i).1 wn with wk := -1 - (m : Int) } 0 (-1 - (m : Int)) (by omega) rfl
      simp -implicitDefEqProofs only [h, be_eql, show ((4 : Int) == 0) = false from rfl, show ((4 : Int) == 1) = false from rfl, show ((4 : Int) == 2) = false from rfl, show ((4 : Int) == 3) = false from rfl, show ((4 : Int) == 4) = true from rfl, wpB_some', cnd_true, cnd_false]
      refine (c23 a2 9 w2 (by omega) (by omega)).step ?_
      simp -implicitDefEqProofs only [hm, bp_sub, wrapi (n := -1 - (m : Int)) (by omega) (by omega), wpB_some', q1, fa_59_0, e1]
      exact fin 4 m _ _ e2 (by simp [hlen]) (e3 W hW2 (Nat.le_refl _)) (bent_no4 i hk6 hk2 wn hwk m hm9)
    · have hid : ((wn : Int) + 1).tmod i = (((wn + 1) % i : Nat) : Int) := rfl
      have hlt : (wn + 1) % i < i := Nat.mod_lt _ (by omega)
      obtain ⟨g', _, y1, y2, y3⟩ := sp_wr (ownsRow_drew hv2) hlen.symm (id := (((wn + 1) % i : Nat) : Int)) (by omega) (by omega)
      obtain ⟨w', e1, e2, e3⟩ := y3 { spAt (bentSt i).1 (((wn + 1) % i : Nat) : Int) with pt := (spAt (bentSt i).1 wn).pt } 9 (spAt (bentSt i).1 wn).pt (by omega) rfl
      simp -implicitDefEqProofs only [h, be_eql, show ((5 : Int) == 0) = false from rfl, show ((5 : Int) == 1) = false from rfl, show ((5 : Int) == 2) = false from rfl, show ((5 : Int) == 3) = false from rfl, show ((5 : Int) == 4) = false from rfl, show ((5 : Int) == 5) = true from rfl, wpB_some', cnd_true, cnd_false, bp_add, wrapi (n := (wn : Int) + 1) (by omega) (by omega), bp_rem (show ((i : Int)) ≠ 0 by omega), hid, q1, fa_59_4, ld_3, hp_drew, q9, y1, e1]
      exact fin 5 0 _ _ e2 (by simp [hlen]) (e3 W hW2.drew (Nat.le_refl _)) (bent_no i hk6 hk2 wn hwk 5 (by omega))
    · obtain ⟨g0, hg0, u1, u2, u3⟩ := sp_wr hv2 hlen.symm (id := (0 : Int)) (by omega) (by omega)
      obtain ⟨w3, e1, e2, e3⟩ := u3 { spAt (bentSt i).1 0 with rs := -1 } 11 (-1) (by omega) rfl
      have len1 : i = ((bentSt i).1.set (0 : Int).toNat { spAt (bentSt i).1 0 with rs := -1 }).length := by simp [hlen]
      obtain ⟨g1, hg1, v1, v2, v3⟩ := sp_wr e2 len1 (id := (0 : Int)) (by omega) (by omega)
      obtain rfl : g1 = g0 := Option.some.inj (hg1.symm.trans hg0)
      obtain ⟨g2, hg2, x1, x2, x3⟩ := sp_wr e2 len1 (id := (1 : Int)) (by omega) (by omega)
      obtain rfl : g2 = g1 := Option.some.inj (hg2.symm.trans hg1)
      have v0 := v2 0 (by omega)
      rw [sp0] at v0
      obtain ⟨w4, f1, f2, f3⟩ := x3 { spAt ((bentSt i).1.set (0 : Int).toNat { spAt (bentSt i).1 0 with rs := -1 }) 1 with wk := (spAt ((bentSt i).1.set (0 : Int).toNat { spAt (bentSt i).1 0 with rs := -1 }) 0).wk } 0 _ (by omega) rfl
      have hM : ((bentSt i).1.set (0 : Int).toNat { spAt (bentSt i).1 0 with rs := -1 }).set (1 : Int).toNat { spAt ((bentSt i).1.set (0 : Int).toNat { spAt (bentSt i).1 0 with rs := -1 }) 1 with wk := (spAt ((bentSt i).1.set (0 : Int).toNat { spAt (bentSt i).1 0 with rs := -1 }) 0).wk } = bentM i := rfl
      rw [hM] at f2
      have len2 : i = (bentM i).length := by rw [← hM]; simp [hlen]
      obtain ⟨g3, hg3, p1, p2, p3⟩ := sp_wr f2 len2 (id := (0 : Int)) (by omega) (by omega)
      obtain rfl : g3 = g2 := Option.some.inj (hg3.symm.trans hg2)
      obtain ⟨g4, hg4, r1, r2, r3⟩ := sp_wr f2 len2 (id := (1 : Int)) (by omega) (by omega)
      obtain rfl : g4 = g3 := Option.some.inj (hg4.symm.trans hg3)
      have p2' := p2 1 (by omega)
      rw [sp1] at p2'
      obtain ⟨w5, k1, k2, k3⟩ := r3 { spAt (bentM i) 1 with ix := (spAt (bentM i) 0).ix + 1 } 1 _ (by omega) rfl
      have hbx := bent_ix i hk6 hk2
      simp -implicitDefEqProofs only [h, be_eql, show ((6 : Int) == 0) = false from rfl, show ((6 : Int) == 1) = false from rfl, show ((6 : Int) == 2) = false from rfl, show ((6 : Int) == 3) = false from rfl, show ((6 : Int) == 4) = false from rfl, show ((6 : Int) == 5) = false from rfl, show ((6 : Int) == 6) = true from rfl, wpB_some', cnd_true, cnd_false, u1, fa_59_6, e1, v1, fa_59_0, ld_3, v0, x1, f1, p1, fa_59_1, p2', bp_add, wrapi (n := (spAt (bentM i) 0).ix + 1) (by omega) (by omega), r1, k1]
      exact fin 6 0 _ _ k2 (by simp [← len2]) (k3 W (f3 W (e3 W hW2 (Nat.le_refl _)) (Nat.le_refl _)) (Nat.le_refl _)) (bent_no i hk6 hk2 wn hwk 6 (by omega))
    · obtain ⟨w', e1, e2, e3⟩ := q3 { spAt (bentSt i).1 wn with iv := -1 } 8 (-1) (by omega) rfl
      simp -implicitDefEqProofs only [h, be_eql, show ((7 : Int) == 0) = false from rfl, show ((7 : Int) == 1) = false from rfl, show ((7 : Int) == 2) = false from rfl, show ((7 : Int) == 3) = false from rfl, show ((7 : Int) == 4) = false from rfl, show ((7 : Int) == 5) = false from rfl, show ((7 : Int) == 6) = false from rfl, wpB_some', cnd_false, q1, fa_59_3, e1]
      exact fin 7 0 _ _ e2 (by simp [hlen]) (e3 W hW2 (Nat.le_refl _)) (bent_no i hk6 hk2 wn hwk 7 (by omega))
  | succ d ih =>
    intro i w r F hR hF hW hi
    apply L13_0_ok
    have hlt : (i : Int) < k := by omega
    obtain ⟨s1, s2, s3, s4, s5, s6, s7⟩ := bent_step i (by omega)
    have b1 : pureRun Try.prog (Instr.build 52 #[(0, .int .i64 11)]) = some (.agg (opC opColl).toArray) := bd_52_0
    have b2 : pureRun Try.prog (Instr.build 57 #[]) = some (.agg (resA resO)) := bd_57_
    simp -implicitDefEqProofs only [L13_0, bp_lss, hlt, decide_true, wpB_some', cnd_true, bp_rem (show (2 : Int) ≠ 0 by omega), bp_quo (show (2 : Int) ≠ 0 by omega), s7, b1, bp_mul, wrapi (n := 10 * (i : Int)) (by omega) (by omega)]
    refine (c_Begin hR (by omega) (by omega) _ _ opColl _).mono ?_
    rintro v w2 ⟨rfl, F2, R2, u2⟩
    have e0 : ∀ a b o t, pBegin ((bentSt i).1, (bentSt i).2.1, (bentSt i).2.2) a b o t = pBegin (bentSt i) a b o t := fun _ _ _ _ => rfl
    rw [e0] at R2 ⊢
    rw [s1]
    simp -implicitDefEqProofs only [tup0, tup1, wpB_some', be_neq, bne_self_eq_false, gd_false, gv_false, gE_false, bp_mul, wrapi (n := 10 * (i : Int)) (by omega) (by omega), bp_add, wrapi (n := 10 * (i : Int) + 3) (by omega) (by omega), b2]
    refine (c_Point R2 _ _ resO).mono ?_
    rintro v w3 ⟨rfl, F3, R3, u3⟩
    have e1 : ∀ st : RecS, ∀ a t re, pPoint (st.1, st.2.1, st.2.2) a t re = pPoint st a t re := fun _ _ _ _ => rfl
    rw [e1] at R3 ⊢
    rw [s2]
    simp -implicitDefEqProofs only [wpB_some', be_neq, bne_self_eq_false, gd_false, gv_false, gE_false, pickv_false, bp_mul, wrapi (n := 10 * (i : Int)) (by omega) (by omega), bp_add, wrapi (n := 10 * (i : Int) + 5) (by omega) (by omega), b2]
    refine (c_End R3 _ _ resO (fun _ => s4)).mono ?_
    rintro v w4 ⟨rfl, F4, R4, u4⟩
    have e2 : ∀ st : RecS, ∀ a t re, pEnd (st.1, st.2.1, st.2.2) a t re = pEnd st a t re := fun _ _ _ _ => rfl
    rw [e2] at R4 ⊢
    rw [s3]
    simp -implicitDefEqProofs only [wpB_some', be_neq, bne_self_eq_false, gd_false, gv_false, pickv_false, cnd_false, bp_add, wrapi (n := (i : Int) + 1) (by omega) (by omega)]
    have u := (u2.trans u3).trans u4
    have h := ih (i + 1) w4 r F4 R4 (u.news hW.size hF) (hW.upd u fun k hk => .inr (hF k hk)) (by omega)
    rw [Int.natCast_add i 1] at h
    exact h
theorem lawBent {W : World} (a0 : Int) (_ : (Lit.int .i64 a0).wf = true) (a1 : Int) (_ : (Lit.int .i64 a1).wf = true) (a2 : Int) (_ : (Lit.int .i64 a2).wf = true) :
    CallR Try.prog 13 [.int .i64 a0, .int .i64 a1, .int .i64 a2] W fun v w' => v = .bool true ∧ Below W.heap.size W w' := by
  apply F13_ok
  refine (c_firstR W).mono ?_
  rintro v w ⟨rfl, hc0⟩
  simp -implicitDefEqProofs only [F13, pr_not, Bool.not_true, wpB_some', cnd_false]
  refine (c_New 2 w).mono ?_
  rintro v w1 ⟨r, F1, rfl, R1, n1, c1⟩
  simp -implicitDefEqProofs only [be_eqlp Try.underlying60, Option.isNone_some, wpB_some', cnd_false]
  refine (c23 a0 5 w1 (by omega) (by omega)).step ?_
  obtain ⟨k, hk⟩ : ∃ k : Nat, 2 + a0 % 5 = (k : Int) := ⟨(2 + a0 % 5).toNat, by omega⟩
  simp -implicitDefEqProofs only [bp_add, hk, wrapi (n := (k : Int)) (by omega) (by omega), wpB_some']
  exact l_Bent0 (W := W) (k := k) (by omega) (by omega) a1 a2 k 0 w1 r F1 R1 (fun j hj => Nat.le_trans hc0.size (n1 j hj)) (hc0.trans c1) (by omega)
end Go.Proofs.Ytkploakfdlnbbaa
