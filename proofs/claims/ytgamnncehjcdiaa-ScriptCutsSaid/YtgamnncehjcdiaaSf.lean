/- Scripts as bytes: the reference's MayScript, PutScript. -/
import Derived.Test.YtgamnncehjcdiaaSe
namespace Go.Proofs.Ytgamnncehjcdiaa
open Go Ev Go.RowKit
set_option linter.unusedSimpArgs false
set_option linter.unusedVariables false
set_option maxRecDepth 10000

theorem l_RMay18 {s : ScV} (hs : s.1.length ≤ 4611686018427387904) {w : World} {A : Option Addr} {c : Nat} {vp : Value} {g1 : Nat} {vs : List Value} (h1 : hp w g1 = some (.cells #[.slice A s.1.length c, vp] 25)) (h2 : RdV w A vs) (h3 : vs.length = s.1.length)
    (h4 : ∀ (j : Nat) (x : Value) (ops : List OpV), vs[j]? = some x → s.1[j]? = some ops → SlO w x ops) (hp1 : s.1.length ≤ 64) (hp2 : s.2.length ≤ 1048576) : ∀ (d i : Nat), (∀ l ∈ s.1.take i, l.length ≤ 1000) → i + d = s.1.length →
    P18_0 (.pointer (some ⟨g1, 0, none⟩)) (.int .i64 i) w fun v w' => v = .bool (mayS s) ∧ w' = w := by
  intro d
  induction d with
  | zero =>
    intro i hok hi
    obtain rfl : i = s.1.length := by omega
    rw [List.take_length] at hok
    apply L18_0_ok
    have : mayS s = true := by
      simp only [mayS, Bool.and_eq_true, List.all_eq_true, decide_eq_true_eq]
      exact ⟨hok, hp1, hp2⟩
    simp -implicitDefEqProofs only [L18_0, wpB_some', gd_true, gd_false, gd_tf, gd_ft, gd_ut, gd_uf, gv_true, gv_false, gv_tf, gv_ft, gv_ut, gv_uf, gE_true, gE_false, gE_tf, gE_ft, gE_ut, gE_uf, gU_true, gU_false, gU_tf, gU_ft, pickv_true, pickv_false, cnd_true, cnd_false, decide_true, decide_false, Bool.not_true, Bool.not_false, pr_not, nilv_some, bp_lss, bp_leq, bp_gtr, bp_geq, be_eql, be_neq, bne_self_eq_false, beq_self_eq_true, ldC_some, Option.isNone_none, Option.isNone_some, hp_drew, fa_25_0, ld_22, h1, t2_0, len_22, Int.lt_irrefl, this, and_self]
  | succ d ih =>
    intro i hok hi
    apply L18_0_ok
    have hlt : (i : Int) < s.1.length := by omega
    have hil : i < s.1.length := by omega
    obtain ⟨A', c', hx, hO⟩ := IsS.list (A := A) (c := c) (vp := vp) h3 h4 hil
    obtain ⟨b, o, q1, q2⟩ := val_at (c := c) (j := .i64) h2 h3 hx
    by_cases hl : (1000 : Int) < (s.1[i]).length
    · have : mayS s = false := by
        rw [Bool.eq_false_iff]
        intro h
        simp only [mayS, Bool.and_eq_true, List.all_eq_true, decide_eq_true_eq] at h
        have := h.1 _ (List.getElem_mem hil)
        omega
      simp -implicitDefEqProofs only [L18_0, wpB_some', gd_true, gd_false, gd_tf, gd_ft, gd_ut, gd_uf, gv_true, gv_false, gv_tf, gv_ft, gv_ut, gv_uf, gE_true, gE_false, gE_tf, gE_ft, gE_ut, gE_uf, gU_true, gU_false, gU_tf, gU_ft, pickv_true, pickv_false, cnd_true, cnd_false, decide_true, decide_false, Bool.not_true, Bool.not_false, pr_not, nilv_some, bp_lss, bp_leq, bp_gtr, bp_geq, be_eql, be_neq, bne_self_eq_false, beq_self_eq_true, ldC_some, Option.isNone_none, Option.isNone_some, hp_drew, fa_25_0, ld_22, ld_27, h1, t2_0, len_22, hlt, q1, q2, len_27, hl, this, and_self]
    · simp -implicitDefEqProofs only [L18_0, wpB_some', gd_true, gd_false, gd_tf, gd_ft, gd_ut, gd_uf, gv_true, gv_false, gv_tf, gv_ft, gv_ut, gv_uf, gE_true, gE_false, gE_tf, gE_ft, gE_ut, gE_uf, gU_true, gU_false, gU_tf, gU_ft, pickv_true, pickv_false, cnd_true, cnd_false, decide_true, decide_false, Bool.not_true, Bool.not_false, pr_not, nilv_some, bp_lss, bp_leq, bp_gtr, bp_geq, be_eql, be_neq, bne_self_eq_false, beq_self_eq_true, ldC_some, Option.isNone_none, Option.isNone_some, hp_drew, fa_25_0, ld_22, ld_27, h1, t2_0, len_22, hlt, q1, q2, len_27, hl, bp_add, wrapi (n := (i : Int) + 1) (by omega) (by omega)]
      have := ih (i + 1) (fun l h => by
        rw [take_snoc hil] at h
        rcases List.mem_append.1 h with h1 | h1
        · exact hok l h1
        · simp at h1; subst h1; omega) (by omega)
      rw [Int.natCast_add i 1] at this
      exact this
theorem c_RMay18 {s : ScV} (hs : s.1.length ≤ 4611686018427387904) (hps : s.2.length ≤ 4611686018427387904) {v : Value} {w : World} (hv : IsS w v s) : CallR Try.prog 18 [v] w fun r w' => r = .bool (mayS s) ∧ Chg [] w w' := by
  obtain ⟨A, c, vs, vp, rfl, h2, h3, h4, h5⟩ := hv.ex
  obtain ⟨B, e, rfl, hB⟩ := h5
  apply F18_ok
  have hc1 : Chg [] w (w.alloc (.cells #[.slice A s.1.length c, .slice B s.2.length e] 25)) := (Chg.refl _ _).alloc _
  have h1 : hp (w.alloc (.cells #[.slice A s.1.length c, .slice B s.2.length e] 25)) w.heap.size = some (.cells #[.slice A s.1.length c, .slice B s.2.length e] 25) := by rw [alloc_heap, if_pos rfl]
  simp -implicitDefEqProofs only [F18, effv_box, cells_agg]
  by_cases k1 : (64 : Int) < s.1.length
  · have : mayS s = false := by simp [mayS]; omega
    simp -implicitDefEqProofs only [wpB_some', gd_true, gd_false, gd_tf, gd_ft, gd_ut, gd_uf, gv_true, gv_false, gv_tf, gv_ft, gv_ut, gv_uf, gE_true, gE_false, gE_tf, gE_ft, gE_ut, gE_uf, gU_true, gU_false, gU_tf, gU_ft, pickv_true, pickv_false, cnd_true, cnd_false, decide_true, decide_false, Bool.not_true, Bool.not_false, pr_not, nilv_some, bp_lss, bp_leq, bp_gtr, bp_geq, be_eql, be_neq, bne_self_eq_false, beq_self_eq_true, ldC_some, Option.isNone_none, Option.isNone_some, hp_drew, fa_25_0, ld_22, h1, t2_0, len_22, k1, this]
    exact ⟨trivial, hc1⟩
  by_cases k2 : (1048576 : Int) < s.2.length
  · have : mayS s = false := by simp [mayS]; omega
    simp -implicitDefEqProofs only [wpB_some', gd_true, gd_false, gd_tf, gd_ft, gd_ut, gd_uf, gv_true, gv_false, gv_tf, gv_ft, gv_ut, gv_uf, gE_true, gE_false, gE_tf, gE_ft, gE_ut, gE_uf, gU_true, gU_false, gU_tf, gU_ft, pickv_true, pickv_false, cnd_true, cnd_false, decide_true, decide_false, Bool.not_true, Bool.not_false, pr_not, nilv_some, bp_lss, bp_leq, bp_gtr, bp_geq, be_eql, be_neq, bne_self_eq_false, beq_self_eq_true, ldC_some, Option.isNone_none, Option.isNone_some, hp_drew, fa_25_0, fa_25_1, ld_22, ld_23, h1, t2_0, t2_1, len_22, len_23, k1, k2, this]
    exact ⟨trivial, hc1⟩
  simp -implicitDefEqProofs only [wpB_some', gd_true, gd_false, gd_tf, gd_ft, gd_ut, gd_uf, gv_true, gv_false, gv_tf, gv_ft, gv_ut, gv_uf, gE_true, gE_false, gE_tf, gE_ft, gE_ut, gE_uf, gU_true, gU_false, gU_tf, gU_ft, pickv_true, pickv_false, cnd_true, cnd_false, decide_true, decide_false, Bool.not_true, Bool.not_false, pr_not, nilv_some, bp_lss, bp_leq, bp_gtr, bp_geq, be_eql, be_neq, bne_self_eq_false, beq_self_eq_true, ldC_some, Option.isNone_none, Option.isNone_some, hp_drew, fa_25_0, fa_25_1, ld_22, ld_23, h1, t2_0, t2_1, len_22, len_23, k1, k2]
  have := l_RMay18 hs h1 (h2.keep hc1.below) h3 (fun j x ops a b => (h4 j x ops a b).keep hc1.below) (by omega) (by omega) s.1.length 0 (by simp) (by omega)
  exact Part.mono this fun v w' ⟨e1, e2⟩ => ⟨e1, by rw [e2]; exact hc1⟩
/-- whole bytes behind the others -/
theorem Out.app {W w : World} {x : Value} {bs : List Int} (h : Out W w x bs) {A : Option Addr} {c : Nat} {ys : List Int} (hl : bs.length + ys.length ≤ 1000000) (hA : RdV w A (u8s ys)) {K : Value → World → Prop} (hk : ∀ x' w', Out W w' x' (bs ++ ys) → Chg (blk x) w w' → K x' w') :
    effv Try.prog (Builtin.append_ #[28, 28] 28 #[x, .slice A ys.length c]) w K := by
  obtain ⟨i, hi, hz, hs, hb⟩ := inf_5
  refine eff_append (base := W.heap.size) (news := u8s ys) (m := ys.length) Try.underlying28 hi hz hs rfl (by omega) h.own (by simp) hA (fun u hu => ?_) (by unfold maxLen; omega) (by rw [hb]; omega) h.ch.size fun x' w' ho hg => ?_
  · simp only [u8s, List.mem_map] at hu
    obtain ⟨b, _, rfl⟩ := hu
    rfl
  · have hc : Chg (blk x) w w' := (Chg.refl _ _).grown hg fun k hk => .inl (mem_blk.2 hk)
    refine hk x' w' ⟨by rw [List.length_append, u8s_append]; exact ho, Chg.into h.ch hc fun k hk => .inr (h.own.lt k (mem_blk.1 hk)).1⟩ hc
theorem own_blk {w : World} {base : Nat} {e : TypeId} {z : Nat} {v : Value} {n : Nat} {xs : List Value} (h : w.ownsRow base e z v n xs) {g : Nat} (hg : v.ownBlock = some g) : ∃ c, hp w g = some (.cells c e) := by
  rcases h.2 with ⟨rfl, h0⟩ | ⟨g', cap, cur, rfl, hbg, hg', _⟩
  · cases hg
  · have : g' = g := by simpa [Value.ownBlock] using hg
    subst this
    exact ⟨cur, hg'⟩
theorem Out.stay {W w w' : World} {x : Value} {bs : List Int} (h : Out W w x bs) (hc : Chg (blk x) w w') {g : Nat} {c : Array Value} (hg : hp w g = some (.cells c 40)) : hp w' g = some (.cells c 40) :=
  hc.at hg fun hm => by
    obtain ⟨c', h'⟩ := own_blk h.own (mem_blk.1 hm)
    rw [hg] at h'; simp at h'
/-- a number's bytes, behind the others -/
theorem Out.lowR {W w : World} {x : Value} {bs : List Int} (h : Out W w x bs) {v : Int} (h0 : 0 ≤ v) {n : Nat} (hn : n ≤ 8) (hl : bs.length ≤ 900000) {K : Value → World → Prop} (hk : ∀ x' w', Out W w' x' (bs ++ lowB v n) → (∀ (g : Nat) (c : Array Value), hp w g = some (.cells c 40) → hp w' g = some (.cells c 40)) → K x' w') :
    CallR Try.prog 62 [.int .u64 v, .int .i64 n] w fun y w1 => effv Try.prog (Builtin.append_ #[28, 28] 28 #[x, y]) w1 K := by
  refine (c_lowR h0 hn w).mono ?_
  rintro y w1 ⟨hy, hc⟩
  obtain ⟨A, c, rfl, hA, _⟩ := rdV_of_own hy
  have h1 := h.grow hc
  have e : n = (lowB v n).length := (lowB_len v n).symm
  have := h1.app (A := A) (c := c) (ys := lowB v n) (by rw [lowB_len]; omega) hA (K := K) fun x' w' h' hc' => hk x' w' h' fun g c' hg => h1.stay hc' (hc.at hg (by simp))
  rw [← e] at this
  exact this
theorem Out.pushR {W w : World} {x : Value} {bs : List Int} (h : Out W w x bs) (hl : bs.length ≤ 1000000) (b : Int) {K : Value → World → Prop} (hk : ∀ x' w', Out W w' x' (bs ++ [b]) → (∀ (g : Nat) (c : Array Value), hp w g = some (.cells c 40) → hp w' g = some (.cells c 40)) → K x' w') :
    effv Try.prog (Instr.buildSlice 28 1 #[(0, .int .u8 b)]) w fun y w1 => effv Try.prog (Builtin.append_ #[28, 28] 28 #[x, y]) w1 K :=
  h.push hl b fun x' w' h' u => hk x' w' h' fun g c hg => h.stay u.chg hg
/-- the rest of an operation -/
theorem l_PutR3 {W : World} {o : OpV} (hm : mayO o = true) (hwf : WfO o) {x1 x5 x6 : Value} {Q : Value → World → Prop} {w : World} {x : Value} {bs : List Int} {g7 : Nat} (hl : bs.length ≤ 800000) (h : Out W w x bs) (h8 : hp w g7 = some (.cells (opC o).toArray 40))
    (next : ∀ w' x', Out W w' x' (bs ++ nE o ++ vE o ++ wE o) → P16_6 x1 x' x5 x6 w' Q) :
    P16_3 x1 x x5 x6 (.pointer (some ⟨g7, 0, none⟩)) w Q := by
  have hb := mayO_bounds hm
  have five : ∀ (w : World) (x : Value), Out W w x (bs ++ nE o ++ vE o) → hp w g7 = some (.cells (opC o).toArray 40) → P16_5 x1 x x5 x6 (.pointer (some ⟨g7, 0, none⟩)) w Q := by
    intro w x h h8
    have hl5 : (bs ++ nE o ++ vE o).length ≤ 900000 := by
      have e1 : (nE o).length ≤ 2 := by unfold nE; split <;> simp [lowB_len]
      have e2 : (vE o).length ≤ 8 := by unfold vE; split <;> simp [lowB_len]
      simp only [List.length_append]; omega
    apply L16_5_ok
    by_cases k9 : o.1 = 9
    · have k9' : (o.1 == 9) = true := by rw [k9]; rfl
      simp -implicitDefEqProofs only [L16_5, wpB_some', gd_true, gd_false, gd_tf, gd_ft, gd_ut, gd_uf, gv_true, gv_false, gv_tf, gv_ft, gv_ut, gv_uf, gE_true, gE_false, gE_tf, gE_ft, gE_ut, gE_uf, gU_true, gU_false, gU_tf, gU_ft, pickv_true, pickv_false, cnd_true, cnd_false, decide_true, decide_false, Bool.not_true, Bool.not_false, pr_not, nilv_some, bp_lss, bp_leq, bp_gtr, bp_geq, be_eql, be_neq, bne_self_eq_false, beq_self_eq_true, ldC_some, Option.isNone_none, Option.isNone_some, hp_drew, fa_40_0, fa_40_5, ld_3, ld_38, h8, op_0, op_5, k9']
      refine h.lowR hwf.2.1 (n := 8) (by omega) hl5 fun x' w' h' st => ?_
      have e : wE o = lowB o.2.2.2.2.2 8 := by simp [wE, wB, k9]
      rw [e] at next
      exact next w' x' h'
    · simp -implicitDefEqProofs only [L16_5, wpB_some', gd_true, gd_false, gd_tf, gd_ft, gd_ut, gd_uf, gv_true, gv_false, gv_tf, gv_ft, gv_ut, gv_uf, gE_true, gE_false, gE_tf, gE_ft, gE_ut, gE_uf, gU_true, gU_false, gU_tf, gU_ft, pickv_true, pickv_false, cnd_true, cnd_false, decide_true, decide_false, Bool.not_true, Bool.not_false, pr_not, nilv_some, bp_lss, bp_leq, bp_gtr, bp_geq, be_eql, be_neq, bne_self_eq_false, beq_self_eq_true, ldC_some, Option.isNone_none, Option.isNone_some, hp_drew, fa_40_0, ld_3, h8, op_0, eqf k9]
      have e : wE o = [] := by simp [wE, wB, k9]
      rw [e, List.append_nil] at next
      exact next w x h
  have four : ∀ (w : World) (x : Value), Out W w x (bs ++ nE o) → hp w g7 = some (.cells (opC o).toArray 40) → P16_4 x1 x x5 x6 (.pointer (some ⟨g7, 0, none⟩)) w Q := by
    intro w x h h8
    have hl4 : (bs ++ nE o).length ≤ 900000 := by
      have e1 : (nE o).length ≤ 2 := by unfold nE; split <;> simp [lowB_len]
      simp only [List.length_append]; omega
    apply L16_4_ok
    simp -implicitDefEqProofs only [L16_4, wpB_some', gd_true, gd_false, gd_tf, gd_ft, gd_ut, gd_uf, gv_true, gv_false, gv_tf, gv_ft, gv_ut, gv_uf, gE_true, gE_false, gE_tf, gE_ft, gE_ut, gE_uf, gU_true, gU_false, gU_tf, gU_ft, pickv_true, pickv_false, cnd_true, cnd_false, decide_true, decide_false, Bool.not_true, Bool.not_false, pr_not, nilv_some, bp_lss, bp_leq, bp_gtr, bp_geq, be_eql, be_neq, bne_self_eq_false, beq_self_eq_true, ldC_some, Option.isNone_none, Option.isNone_some, hp_drew, fa_40_0, ld_3, h8, op_0]
    refine (c_HasV _ _).step ?_
    cases hv : vB o.1 with
    | true =>
      simp -implicitDefEqProofs only [wpB_some', gd_true, gd_false, gd_tf, gd_ft, gd_ut, gd_uf, gv_true, gv_false, gv_tf, gv_ft, gv_ut, gv_uf, gE_true, gE_false, gE_tf, gE_ft, gE_ut, gE_uf, gU_true, gU_false, gU_tf, gU_ft, pickv_true, pickv_false, cnd_true, cnd_false, decide_true, decide_false, Bool.not_true, Bool.not_false, pr_not, nilv_some, bp_lss, bp_leq, bp_gtr, bp_geq, be_eql, be_neq, bne_self_eq_false, beq_self_eq_true, ldC_some, Option.isNone_none, Option.isNone_some, hp_drew, fa_40_4, ld_38, h8, op_4]
      refine h.lowR hwf.1.1 (n := 8) (by omega) hl4 fun x' w' h' st => ?_
      have e : vE o = lowB o.2.2.2.2.1 8 := by simp [vE, hv]
      rw [e] at five
      exact five w' x' h' (st _ _ h8)
    | false =>
      simp -implicitDefEqProofs only [wpB_some', gd_true, gd_false, gd_tf, gd_ft, gd_ut, gd_uf, gv_true, gv_false, gv_tf, gv_ft, gv_ut, gv_uf, gE_true, gE_false, gE_tf, gE_ft, gE_ut, gE_uf, gU_true, gU_false, gU_tf, gU_ft, pickv_true, pickv_false, cnd_true, cnd_false, decide_true, decide_false, Bool.not_true, Bool.not_false, pr_not, nilv_some, bp_lss, bp_leq, bp_gtr, bp_geq, be_eql, be_neq, bne_self_eq_false, beq_self_eq_true, ldC_some, Option.isNone_none, Option.isNone_some, hp_drew]
      have e : vE o = [] := by simp [vE, hv]
      rw [e, List.append_nil] at five
      exact five w x h h8
  apply L16_3_ok
  simp -implicitDefEqProofs only [L16_3, wpB_some', gd_true, gd_false, gd_tf, gd_ft, gd_ut, gd_uf, gv_true, gv_false, gv_tf, gv_ft, gv_ut, gv_uf, gE_true, gE_false, gE_tf, gE_ft, gE_ut, gE_uf, gU_true, gU_false, gU_tf, gU_ft, pickv_true, pickv_false, cnd_true, cnd_false, decide_true, decide_false, Bool.not_true, Bool.not_false, pr_not, nilv_some, bp_lss, bp_leq, bp_gtr, bp_geq, be_eql, be_neq, bne_self_eq_false, beq_self_eq_true, ldC_some, Option.isNone_none, Option.isNone_some, hp_drew, fa_40_0, ld_3, h8, op_0]
  refine (c_HasN _ _).step ?_
  cases hn : nB o.1 with
  | true =>
    simp -implicitDefEqProofs only [wpB_some', gd_true, gd_false, gd_tf, gd_ft, gd_ut, gd_uf, gv_true, gv_false, gv_tf, gv_ft, gv_ut, gv_uf, gE_true, gE_false, gE_tf, gE_ft, gE_ut, gE_uf, gU_true, gU_false, gU_tf, gU_ft, pickv_true, pickv_false, cnd_true, cnd_false, decide_true, decide_false, Bool.not_true, Bool.not_false, pr_not, nilv_some, bp_lss, bp_leq, bp_gtr, bp_geq, be_eql, be_neq, bne_self_eq_false, beq_self_eq_true, ldC_some, Option.isNone_none, Option.isNone_some, hp_drew, fa_40_3, ld_3, h8, op_3, cv_3_38, wrapu (n := o.2.2.2.1) (by omega) (by omega)]
    refine h.lowR (by omega) (n := 2) (by omega) (by omega) fun x' w' h' st => ?_
    have e : nE o = lowB o.2.2.2.1 2 := by simp [nE, hn]
    rw [e] at four
    exact four w' x' h' (st _ _ h8)
  | false =>
    simp -implicitDefEqProofs only [wpB_some', gd_true, gd_false, gd_tf, gd_ft, gd_ut, gd_uf, gv_true, gv_false, gv_tf, gv_ft, gv_ut, gv_uf, gE_true, gE_false, gE_tf, gE_ft, gE_ut, gE_uf, gU_true, gU_false, gU_tf, gU_ft, pickv_true, pickv_false, cnd_true, cnd_false, decide_true, decide_false, Bool.not_true, Bool.not_false, pr_not, nilv_some, bp_lss, bp_leq, bp_gtr, bp_geq, be_eql, be_neq, bne_self_eq_false, beq_self_eq_true, ldC_some, Option.isNone_none, Option.isNone_some, hp_drew]
    have e : nE o = [] := by simp [nE, hn]
    rw [e, List.append_nil] at four
    exact four w x h h8
set_option maxHeartbeats 2000000 in
theorem l_PutR1 {W : World} {s : ScV} {A : Option Addr} {c : Nat} {vs : List Value} {vp : Value} {g1 : Nat} (h1 : hp W g1 = some (.cells #[.slice A s.1.length c, vp] 25)) (h2 : RdV W A vs) (h3 : vs.length = s.1.length) {i : Nat} (hi : i < s.1.length) (hi2 : i ≤ 1000000)
    {l : List OpV} (hwf : ∀ o ∈ l, WfO o) (hll : l.length ≤ 1000000) {A' : Option Addr} {c' : Nat} (hx : vs[i]? = some (.slice A' l.length c')) (hA : RdV W A' (l.flatMap opC)) {bs : List Int} (hB : bs.length + (l.flatMap encO).length ≤ 700000) {Q : Value → World → Prop}
    (bad : (∃ o ∈ l, mayO o = false) → ∀ w', Chg [] W w' → Q (.tuple #[.slice none 0 0, .int .i64 10]) w')
    (next : (∀ o ∈ l, mayO o = true) → ∀ w' x', Out W w' x' (bs ++ l.flatMap encO) → P16_0 (.pointer (some ⟨g1, 0, none⟩)) x' (.int .i64 ((i : Int) + 1)) w' Q) :
    ∀ (d j : Nat) (w : World) (x : Value), Out W w x (bs ++ (l.take j).flatMap encO) → (∀ o ∈ l.take j, mayO o = true) → j + d = l.length →
      P16_1 (.pointer (some ⟨g1, 0, none⟩)) x (.int .i64 i) (.int .i64 j) w Q := by
  intro d
  induction d with
  | zero =>
    intro j w x h hok hj
    obtain rfl : j = l.length := by omega
    rw [List.take_length] at h hok
    apply L16_1_ok
    have h1w := h.ch.at h1 (by simp)
    obtain ⟨b0, o0, p1, p2⟩ := val_at (c := c) (j := .i64) (h2.keep h.ch.below) h3 hx
    simp -implicitDefEqProofs only [L16_1, wpB_some', gd_true, gd_false, gd_tf, gd_ft, gd_ut, gd_uf, gv_true, gv_false, gv_tf, gv_ft, gv_ut, gv_uf, gE_true, gE_false, gE_tf, gE_ft, gE_ut, gE_uf, gU_true, gU_false, gU_tf, gU_ft, pickv_true, pickv_false, cnd_true, cnd_false, decide_true, decide_false, Bool.not_true, Bool.not_false, pr_not, nilv_some, bp_lss, bp_leq, bp_gtr, bp_geq, be_eql, be_neq, bne_self_eq_false, beq_self_eq_true, ldC_some, Option.isNone_none, Option.isNone_some, hp_drew, fa_25_0, ld_22, h1w, t2_0, p1, ld_27, p2, len_27, Int.lt_irrefl, bp_add, wrapi (n := (i : Int) + 1) (by omega) (by omega)]
    exact next hok w x h
  | succ d ih =>
    intro j w x h hok hj
    apply L16_1_ok
    have hlt : (j : Int) < l.length := by omega
    have hjl : j < l.length := by omega
    have hAw := hA.keep h.ch.below
    have h1w := h.ch.at h1 (by simp)
    obtain ⟨b0, o0, p1, p2⟩ := val_at (c := c) (j := .i64) (h2.keep h.ch.below) h3 hx
    obtain ⟨b, o, q1, q2⟩ := op_at (c := c') (j := .i64) (i := j) hAw hjl
    have hmem : l[j] ∈ l := List.getElem_mem hjl
    have htk := flat_take_le encO l j
    have htk1 := flat_take_le encO l (j + 1)
    rw [take_snoc hjl, List.flatMap_append] at htk1
    simp only [List.flatMap_cons, List.flatMap_nil, List.append_nil, List.length_append] at htk1
    have stepOk : mayO l[j] = true → ∀ o ∈ l.take (j + 1), mayO o = true := fun hm o ho => by
      rw [take_snoc hjl] at ho
      rcases List.mem_append.1 ho with h1 | h1
      · exact hok o h1
      · simp at h1; subst h1; exact hm
    have hbe : bs ++ (l.take (j + 1)).flatMap encO = (bs ++ (l.take j).flatMap encO) ++ encO l[j] := by rw [take_snoc hjl, List.flatMap_append]; simp
    have go : mayO l[j] = true → ∀ w' x', Out W w' x' ((bs ++ (l.take j).flatMap encO) ++ encO l[j]) → P16_6 (.pointer (some ⟨g1, 0, none⟩)) x' (.int .i64 i) (.int .i64 j) w' Q := fun hm w' x' h' => by
      apply L16_6_ok
      simp -implicitDefEqProofs only [L16_6, wpB_some', gd_true, gd_false, gd_tf, gd_ft, gd_ut, gd_uf, gv_true, gv_false, gv_tf, gv_ft, gv_ut, gv_uf, gE_true, gE_false, gE_tf, gE_ft, gE_ut, gE_uf, gU_true, gU_false, gU_tf, gU_ft, pickv_true, pickv_false, cnd_true, cnd_false, decide_true, decide_false, Bool.not_true, Bool.not_false, pr_not, nilv_some, bp_lss, bp_leq, bp_gtr, bp_geq, be_eql, be_neq, bne_self_eq_false, beq_self_eq_true, ldC_some, Option.isNone_none, Option.isNone_some, hp_drew, bp_add, wrapi (n := (j : Int) + 1) (by omega) (by omega)]
      have := ih (j + 1) w' x' (by rw [hbe]; exact h') (stepOk hm) (by omega)
      rw [Int.natCast_add j 1] at this
      exact this
    have hwfj := hwf _ hmem
    have badj : mayO l[j] = false → ∀ w', Chg [] W w' → Q (.tuple #[.slice none 0 0, .int .i64 10]) w' := fun hm => bad ⟨_, hmem, hm⟩
    have hlen : (bs ++ (l.take j).flatMap encO).length ≤ 700000 := by rw [List.length_append]; omega
    generalize bs ++ (l.take j).flatMap encO = bj at *
    clear hbe stepOk htk htk1 ih hok hmem
    generalize l[j] = e at *
    simp -implicitDefEqProofs only [L16_1, wpB_some', gd_true, gd_false, gd_tf, gd_ft, gd_ut, gd_uf, gv_true, gv_false, gv_tf, gv_ft, gv_ut, gv_uf, gE_true, gE_false, gE_tf, gE_ft, gE_ut, gE_uf, gU_true, gU_false, gU_tf, gU_ft, pickv_true, pickv_false, cnd_true, cnd_false, decide_true, decide_false, Bool.not_true, Bool.not_false, pr_not, nilv_some, bp_lss, bp_leq, bp_gtr, bp_geq, be_eql, be_neq, bne_self_eq_false, beq_self_eq_true, ldC_some, Option.isNone_none, Option.isNone_some, hp_drew, fa_25_0, ld_22, h1w, t2_0, p1, ld_27, p2, len_27, hlt, q1, q2, al_40]
    rw [st_40 (by rfl) (by rfl) (by rw [alloc_heap, if_pos rfl]; rfl) (by rw [alloc_heap, if_pos rfl]; rfl), alloc_heap, if_pos rfl]
    simp -implicitDefEqProofs only [getE_some]
    generalize hz : w.alloc _ = wa
    have hca : Chg [] w wa := by rw [← hz]; exact (Chg.refl _ _).alloc _
    have hza : wa.heap.size = w.heap.size + 1 := by rw [← hz]; simp
    have hcp : Chg [] w (put wa w.heap.size (opC e).toArray 40) := hca.put (.inr (Nat.le_refl _)) _ _
    have h8 : hp (put wa w.heap.size (opC e).toArray 40) w.heap.size = some (.cells (opC e).toArray 40) := by rw [put_heap, if_pos rfl, if_pos (by omega)]
    have h1 := h.grow hcp
    clear hz hca hza hcp h
    generalize put wa w.heap.size (opC e).toArray 40 = w1 at *
    generalize w.heap.size = g8 at *
    simp -implicitDefEqProofs only [ldv_whole ag_40 (show (Try.prog.info? 40).map (·.size) = some (opC e).toArray.size from sz_40) h8, wpB_some']
    refine (c_refMay e w1).mono ?_
    rintro v w2 ⟨rfl, c2⟩
    have h2 := h1.grow c2
    have h82 := c2.at h8 (by simp)
    cases hm : mayO e with
    | false =>
      simp -implicitDefEqProofs only [wpB_some', gd_true, gd_false, gd_tf, gd_ft, gd_ut, gd_uf, gv_true, gv_false, gv_tf, gv_ft, gv_ut, gv_uf, gE_true, gE_false, gE_tf, gE_ft, gE_ut, gE_uf, gU_true, gU_false, gU_tf, gU_ft, pickv_true, pickv_false, cnd_true, cnd_false, decide_true, decide_false, Bool.not_true, Bool.not_false, pr_not, nilv_some, bp_lss, bp_leq, bp_gtr, bp_geq, be_eql, be_neq, bne_self_eq_false, beq_self_eq_true, ldC_some, Option.isNone_none, Option.isNone_some, hp_drew]
      exact badj hm w2 h2.ch
    | true =>
      have hb := mayO_bounds hm
      have ek : IntKind.u8.wrap e.1 = e.1 := by rw [wrap8]; omega
      simp -implicitDefEqProofs only [wpB_some', gd_true, gd_false, gd_tf, gd_ft, gd_ut, gd_uf, gv_true, gv_false, gv_tf, gv_ft, gv_ut, gv_uf, gE_true, gE_false, gE_tf, gE_ft, gE_ut, gE_uf, gU_true, gU_false, gU_tf, gU_ft, pickv_true, pickv_false, cnd_true, cnd_false, decide_true, decide_false, Bool.not_true, Bool.not_false, pr_not, nilv_some, bp_lss, bp_leq, bp_gtr, bp_geq, be_eql, be_neq, bne_self_eq_false, beq_self_eq_true, ldC_some, Option.isNone_none, Option.isNone_some, hp_drew, fa_40_0, ld_3, h82, op_0, cv_3_5, ek]
      refine h2.pushR (by omega) e.1 fun x4 w4 h4 st4 => ?_
      have h84 := st4 _ _ h82
      simp -implicitDefEqProofs only [wpB_some', gd_true, gd_false, gd_tf, gd_ft, gd_ut, gd_uf, gv_true, gv_false, gv_tf, gv_ft, gv_ut, gv_uf, gE_true, gE_false, gE_tf, gE_ft, gE_ut, gE_uf, gU_true, gU_false, gU_tf, gU_ft, pickv_true, pickv_false, cnd_true, cnd_false, decide_true, decide_false, Bool.not_true, Bool.not_false, pr_not, nilv_some, bp_lss, bp_leq, bp_gtr, bp_geq, be_eql, be_neq, bne_self_eq_false, beq_self_eq_true, ldC_some, Option.isNone_none, Option.isNone_some, hp_drew, fa_40_0, ld_3, h84, op_0]
      refine (c_Of _ _).step ?_
      by_cases hk : ofK e.1 = 0
      · have hfe : fE e = [] := by simp [fE, hk]
        have hk' : (ofK e.1 != 0) = false := by rw [hk]; rfl
        simp -implicitDefEqProofs only [hk', wpB_some', gd_true, gd_false, gd_tf, gd_ft, gd_ut, gd_uf, gv_true, gv_false, gv_tf, gv_ft, gv_ut, gv_uf, gE_true, gE_false, gE_tf, gE_ft, gE_ut, gE_uf, gU_true, gU_false, gU_tf, gU_ft, pickv_true, pickv_false, cnd_true, cnd_false, decide_true, decide_false, Bool.not_true, Bool.not_false, pr_not, nilv_some, bp_lss, bp_leq, bp_gtr, bp_geq, be_eql, be_neq, bne_self_eq_false, beq_self_eq_true, ldC_some, Option.isNone_none, Option.isNone_some, hp_drew]
        refine l_PutR3 hm hwfj (by rw [List.length_append, List.length_singleton]; omega) h4 h84 fun w' x' h' => go hm w' x' ?_
        have e5 : bj ++ [e.1] ++ nE e ++ vE e ++ wE e = bj ++ encO e := by simp [encO, hfe]
        rw [← e5]; exact h'
      · have hfe : fE e = [e.2.1] ++ lowB e.2.2.1 2 := by simp [fE, hk]
        have ef : IntKind.u8.wrap e.2.1 = e.2.1 := by rw [wrap8]; omega
        have tail : ∀ w' x', Out W w' x' (bj ++ [e.1] ++ [e.2.1] ++ lowB e.2.2.1 2) → hp w' g8 = some (.cells (opC e).toArray 40) → P16_3 (.pointer (some ⟨g1, 0, none⟩)) x' (.int .i64 i) (.int .i64 j) (.pointer (some ⟨g8, 0, none⟩)) w' Q := fun w' x' h' k1 => by
          refine l_PutR3 hm hwfj (by simp only [List.length_append, List.length_singleton, lowB_len]; omega) h' k1 fun w'' x'' h'' => go hm w'' x'' ?_
          have e5 : bj ++ [e.1] ++ [e.2.1] ++ lowB e.2.2.1 2 ++ nE e ++ vE e ++ wE e = bj ++ encO e := by simp [encO, hfe]
          rw [← e5]; exact h''
        have hd : Chg [] w4 w4.drew := (Chg.refl _ _).drew
        have h4d := h4.grow hd
        have h84d : hp w4.drew g8 = some (.cells (opC e).toArray 40) := h84
        simp -implicitDefEqProofs only [bne_iff_ne.2 hk, fa_40_1, fa_40_2, wpB_some', gd_true, gd_false, gd_tf, gd_ft, gd_ut, gd_uf, gv_true, gv_false, gv_tf, gv_ft, gv_ut, gv_uf, gE_true, gE_false, gE_tf, gE_ft, gE_ut, gE_uf, gU_true, gU_false, gU_tf, gU_ft, pickv_true, pickv_false, cnd_true, cnd_false, decide_true, decide_false, Bool.not_true, Bool.not_false, pr_not, nilv_some, bp_lss, bp_leq, bp_gtr, bp_geq, be_eql, be_neq, bne_self_eq_false, beq_self_eq_true, ldC_some, Option.isNone_none, Option.isNone_some, hp_drew, ld_3, h84, op_1, op_2, cv_3_5, ef, cv_3_38, wrapu (n := e.2.2.1) (by omega) (by omega)]
        constructor
        · refine h4d.pushR (by simp only [List.length_append, List.length_singleton]; omega) e.2.1 fun x5 w5 h5 st5 => ?_
          have h85 := st5 _ _ h84d
          refine h5.lowR hb.2.2.1.1 (n := 2) (by omega) (by simp only [List.length_append, List.length_singleton]; omega) fun x6 w6 h6 st6 => ?_
          exact tail w6 x6 h6 (st6 _ _ h85)
        · refine h4d.pushR (by simp only [List.length_append, List.length_singleton]; omega) e.2.1 fun x5 w5 h5 st5 => ?_
          have h85 := st5 _ _ h84d
          simp -implicitDefEqProofs only [wpB_some', gd_true, gd_false, gd_tf, gd_ft, gd_ut, gd_uf, gv_true, gv_false, gv_tf, gv_ft, gv_ut, gv_uf, gE_true, gE_false, gE_tf, gE_ft, gE_ut, gE_uf, gU_true, gU_false, gU_tf, gU_ft, pickv_true, pickv_false, cnd_true, cnd_false, decide_true, decide_false, Bool.not_true, Bool.not_false, pr_not, nilv_some, bp_lss, bp_leq, bp_gtr, bp_geq, be_eql, be_neq, bne_self_eq_false, beq_self_eq_true, ldC_some, Option.isNone_none, Option.isNone_some, hp_drew, ld_3, h85, op_2, cv_3_38, wrapu (n := e.2.2.1) (by omega) (by omega)]
          refine h5.lowR hb.2.2.1.1 (n := 2) (by omega) (by simp only [List.length_append, List.length_singleton]; omega) fun x6 w6 h6 st6 => ?_
          exact tail w6 x6 h6 (st6 _ _ h85)
end Go.Proofs.Ytgamnncehjcdiaa
