/- The call of RecordRight answers true: the run, the call. -/
import Derived.Test.YtgamnncehjcdiaaTh
namespace Go.Proofs.Ytgamnncehjcdiaa
open Go Ev Go.RowKit
set_option linter.unusedSimpArgs false
set_option linter.unusedVariables false
set_option maxRecDepth 10000

theorem arr_st {w : World} {g k : Nat} {xs : List Int} {e : TypeId} (h : hp w g = some (.cells (ints xs).toArray e)) (hk : k < xs.length) (x : Int) :
    (∀ L, effu Try.prog (Instr.storeAt 3 (.pointer (some ⟨g, 0 + k * 1, none⟩)) (.int .i64 x)) w L = L (put w g (ints (xs.set k x)).toArray e)) ∧ hp (put w g (ints (xs.set k x)).toArray e) g = some (.cells (ints (xs.set k x)).toArray e) ∧ Chg [g] w (put w g (ints (xs.set k x)).toArray e) := by
  refine ⟨fun L => ?_, put_same (blk_lt h) _ _, (Chg.refl _ _).put (.inl (by simp)) _ _⟩
  rw [st_3 (v := .int .i64 x) rfl rfl (ints_ok h hk), ints_st h]
theorem arr_ix {g k : Nat} (hk : k < 3) : pureRun Try.prog (Instr.indexAt 45 (.pointer (some ⟨g, 0, none⟩)) (.int .i64 k)) = some (.pointer (some ⟨g, 0 + k * 1, none⟩)) := by
  have := pr_indexA (P := Try.prog) (b := g) (o := 0) (k := .i64) (i := (k : Int)) Try.underlying45 sz_3 (by omega) (by omega)
  rw [Int.toNat_natCast] at this
  exact this
/-- the three rows of numbers, and the record -/
structure Run3 (W w : World) (r g5 g6 g7 : Nat) (F : List Nat) (S : List SpV) (op : List Int) (last : Int) (id at' nx : List Int) : Prop where
  R : RecI w r F S op last
  nF : ∀ k ∈ F, W.heap.size ≤ k
  ch : Chg [] W w
  h5 : hp w g5 = some (.cells (ints id).toArray 45)
  h6 : hp w g6 = some (.cells (ints at').toArray 45)
  h7 : hp w g7 = some (.cells (ints nx).toArray 45)
  f5 : g5 ∉ F ∧ W.heap.size ≤ g5
  f6 : g6 ∉ F ∧ W.heap.size ≤ g6
  f7 : g7 ∉ F ∧ W.heap.size ≤ g7
  ne : g5 ≠ g6 ∧ g5 ≠ g7 ∧ g6 ≠ g7
theorem Run3.step {W w w' : World} {r g5 g6 g7 : Nat} {F F' : List Nat} {S S' : List SpV} {op op' : List Int} {last last' : Int} {id at' nx : List Int} (h : Run3 W w r g5 g6 g7 F S op last id at' nx) (hR : RecI w' r F' S' op' last') (u : Upd F F' w w') : Run3 W w' r g5 g6 g7 F' S' op' last' id at' nx := by
  have nin : ∀ {g : Nat} {o : Obj}, hp w g = some o → g ∉ F → g ∉ F' := fun ho hn hm => by
    rcases u.sub _ hm with h1 | h1
    · exact hn h1
    · have := blk_lt ho; omega
  exact ⟨hR, u.news h.ch.size h.nF, h.ch.upd u fun k hk => .inr (h.nF k hk), u.chg.at h.h5 h.f5.1, u.chg.at h.h6 h.f6.1, u.chg.at h.h7 h.f7.1, ⟨nin h.h5 h.f5.1, h.f5.2⟩, ⟨nin h.h6 h.f6.1, h.f6.2⟩, ⟨nin h.h7 h.f7.1, h.f7.2⟩, h.ne⟩
theorem Run3.set5 {W w : World} {r g5 g6 g7 : Nat} {F : List Nat} {S : List SpV} {op : List Int} {last : Int} {id at' nx : List Int} (h : Run3 W w r g5 g6 g7 F S op last id at' nx) {k : Nat} (hk : k < id.length) (x : Int) :
    (∀ L, effu Try.prog (Instr.storeAt 3 (.pointer (some ⟨g5, 0 + k * 1, none⟩)) (.int .i64 x)) w L = L (put w g5 (ints (id.set k x)).toArray 45)) ∧ Run3 W (put w g5 (ints (id.set k x)).toArray 45) r g5 g6 g7 F S op last (id.set k x) at' nx := by
  obtain ⟨e1, e2, e3⟩ := arr_st h.h5 hk x
  refine ⟨e1, ⟨h.R.keep e3 fun j h1 h2 => ?_, h.nF, h.ch.upd (F' := []) ⟨e3, fun k hk => by simp at hk⟩ fun j hj => .inr ?_, e2, e3.at h.h6 (by have := h.ne; simp; omega), e3.at h.h7 (by have := h.ne; simp; omega), h.f5, h.f6, h.f7, h.ne⟩⟩
  · simp at h2; subst h2; exact h.f5.1 h1
  · simp at hj; subst hj; exact h.f5.2
theorem Run3.set6 {W w : World} {r g5 g6 g7 : Nat} {F : List Nat} {S : List SpV} {op : List Int} {last : Int} {id at' nx : List Int} (h : Run3 W w r g5 g6 g7 F S op last id at' nx) {k : Nat} (hk : k < at'.length) (x : Int) :
    (∀ L, effu Try.prog (Instr.storeAt 3 (.pointer (some ⟨g6, 0 + k * 1, none⟩)) (.int .i64 x)) w L = L (put w g6 (ints (at'.set k x)).toArray 45)) ∧ Run3 W (put w g6 (ints (at'.set k x)).toArray 45) r g5 g6 g7 F S op last id (at'.set k x) nx := by
  obtain ⟨e1, e2, e3⟩ := arr_st h.h6 hk x
  refine ⟨e1, ⟨h.R.keep e3 fun j h1 h2 => ?_, h.nF, h.ch.upd (F' := []) ⟨e3, fun k hk => by simp at hk⟩ fun j hj => .inr ?_, e3.at h.h5 (by have := h.ne; simp; omega), e2, e3.at h.h7 (by have := h.ne; simp; omega), h.f5, h.f6, h.f7, h.ne⟩⟩
  · simp at h2; subst h2; exact h.f6.1 h1
  · simp at hj; subst hj; exact h.f6.2
theorem Run3.set7 {W w : World} {r g5 g6 g7 : Nat} {F : List Nat} {S : List SpV} {op : List Int} {last : Int} {id at' nx : List Int} (h : Run3 W w r g5 g6 g7 F S op last id at' nx) {k : Nat} (hk : k < nx.length) (x : Int) :
    (∀ L, effu Try.prog (Instr.storeAt 3 (.pointer (some ⟨g7, 0 + k * 1, none⟩)) (.int .i64 x)) w L = L (put w g7 (ints (nx.set k x)).toArray 45)) ∧ Run3 W (put w g7 (ints (nx.set k x)).toArray 45) r g5 g6 g7 F S op last id at' (nx.set k x) := by
  obtain ⟨e1, e2, e3⟩ := arr_st h.h7 hk x
  refine ⟨e1, ⟨h.R.keep e3 fun j h1 h2 => ?_, h.nF, h.ch.upd (F' := []) ⟨e3, fun k hk => by simp at hk⟩ fun j hj => .inr ?_, e3.at h.h5 (by have := h.ne; simp; omega), e3.at h.h6 (by have := h.ne; simp; omega), e2, h.f5, h.f6, h.f7, h.ne⟩⟩
  · simp at h2; subst h2; exact h.f7.1 h1
  · simp at hj; subst hj; exact h.f7.2
set_option maxHeartbeats 2000000 in
theorem l_Right0 {W : World} {r g5 g6 g7 : Nat} {xs : List Int} (hx : xs.length ≤ 60) {A : Option Addr} {c : Nat} (hA : RdI .i64 W A xs) : ∀ (d i : Nat) (w : World) (F : List Nat) (S : List SpV) (op : List Int) (last : Int) (id at' nx : List Int),
    Run3 W w r g5 g6 g7 F S op last id at' nx → RunI i S op last id at' nx → i + d = xs.length →
    P7_0 (.slice A xs.length c) (.bool true) (.pointer (some ⟨r, 0, none⟩)) (.pointer (some ⟨g5, 0, none⟩)) (.pointer (some ⟨g6, 0, none⟩)) (.pointer (some ⟨g7, 0, none⟩)) (.int .i64 i) w (OkT W) := by
  intro d
  induction d with
  | zero =>
    intro i w F S op last id at' nx h hI hi
    apply L7_0_ok
    have : ¬ (i : Int) < xs.length := by omega
    have hSl := hI.len
    simp -implicitDefEqProofs only [L7_0, wpB_some', gd_true, gd_false, gd_tf, gd_ft, gd_ut, gd_uf, gv_true, gv_false, gv_tf, gv_ft, gv_ut, gv_uf, gE_true, gE_false, gE_tf, gE_ft, gE_ut, gE_uf, gU_true, gU_false, gU_tf, gU_ft, pickv_true, pickv_false, cnd_true, cnd_false, decide_true, decide_false, Bool.not_true, Bool.not_false, pr_not, nilv_some, bp_lss, bp_leq, bp_gtr, bp_geq, be_eql, be_neq, bne_self_eq_false, beq_self_eq_true, ldC_some, Option.isNone_none, Option.isNone_some, hp_drew, len_23, this]
    refine (c_List h.R (by omega)).mono ?_
    rintro v w1 ⟨hv, c1⟩
    obtain ⟨A', c', rfl, hA', _⟩ := rdV_of_own hv
    refine (c_RMay (l := S) (by omega) (slP_own hv rfl)).mono ?_
    rintro _ w2 ⟨rfl, c2⟩
    rw [mayB_t (mayL_of hI.may)]
    simp -implicitDefEqProofs only [wpB_some', gd_true, gd_false, gd_tf, gd_ft, gd_ut, gd_uf, gv_true, gv_false, gv_tf, gv_ft, gv_ut, gv_uf, gE_true, gE_false, gE_tf, gE_ft, gE_ut, gE_uf, gU_true, gU_false, gU_tf, gU_ft, pickv_true, pickv_false, cnd_true, cnd_false, decide_true, decide_false, Bool.not_true, Bool.not_false, pr_not, nilv_some, bp_lss, bp_leq, bp_gtr, bp_geq, be_eql, be_neq, bne_self_eq_false, beq_self_eq_true, ldC_some, Option.isNone_none, Option.isNone_some, hp_drew]
    exact l_Right2 hI.may (by omega) S.length 0 w2 (hA'.keep c2.below) ((h.ch.trans c1).trans c2) (by omega)
  | succ d ih =>
    intro i w F S op last id at' nx h hI hi
    apply L7_0_ok
    have hlt : (i : Int) < xs.length := by omega
    have hSl := hI.len
    have hlo := hI.lo
    obtain ⟨q, q1, q2⟩ := (hA.keep h.ch.below).at (P := Try.prog) (c := c) (j := .i64) (i := (i : Int)) Try.underlying23 Try.underlying3 sz_3 (by omega) hlt
    obtain ⟨k, hk, hk3⟩ : ∃ k : Nat, xs.getD (i : Int).toNat 0 % 3 = k ∧ k < 3 := ⟨(xs.getD (i : Int).toNat 0 % 3).toNat, by omega, by omega⟩
    simp -implicitDefEqProofs only [L7_0, wpB_some', gd_true, gd_false, gd_tf, gd_ft, gd_ut, gd_uf, gv_true, gv_false, gv_tf, gv_ft, gv_ut, gv_uf, gE_true, gE_false, gE_tf, gE_ft, gE_ut, gE_uf, gU_true, gU_false, gU_tf, gU_ft, pickv_true, pickv_false, cnd_true, cnd_false, decide_true, decide_false, Bool.not_true, Bool.not_false, pr_not, nilv_some, bp_lss, bp_leq, bp_gtr, bp_geq, be_eql, be_neq, bne_self_eq_false, beq_self_eq_true, ldC_some, Option.isNone_none, Option.isNone_some, hp_drew, len_23, hlt, q1, q2]
    refine (c_Number _ 3 w (by omega) (by omega)).step ?_
    rw [hk]
    refine (c_Open h.R _).step ?_
    have hO : pOpen op k = op.getD k 0 := by unfold pOpen; rw [if_pos (by omega), Int.toNat_natCast]
    rw [hO]
    have one : ∀ (w' : World) (F' : List Nat) (S' : List SpV) (op' : List Int) (last' : Int) (id' at'' nx' : List Int), Run3 W w' r g5 g6 g7 F' S' op' last' id' at'' nx' → RunI (i + 1) S' op' last' id' at'' nx' →
        P7_1 (.slice A xs.length c) (.bool true) (.pointer (some ⟨r, 0, none⟩)) (.pointer (some ⟨g5, 0, none⟩)) (.pointer (some ⟨g6, 0, none⟩)) (.pointer (some ⟨g7, 0, none⟩)) (.int .i64 i) w' (OkT W) := fun w' F' S' op' last' id' at'' nx' h' hI' => by
      apply L7_1_ok
      simp -implicitDefEqProofs only [L7_1, wpB_some', gd_true, gd_false, gd_tf, gd_ft, gd_ut, gd_uf, gv_true, gv_false, gv_tf, gv_ft, gv_ut, gv_uf, gE_true, gE_false, gE_tf, gE_ft, gE_ut, gE_uf, gU_true, gU_false, gU_tf, gU_ft, pickv_true, pickv_false, cnd_true, cnd_false, decide_true, decide_false, Bool.not_true, Bool.not_false, pr_not, nilv_some, bp_lss, bp_leq, bp_gtr, bp_geq, be_eql, be_neq, bne_self_eq_false, beq_self_eq_true, ldC_some, Option.isNone_none, Option.isNone_some, hp_drew, bp_add, wrapi (n := (i : Int) + 1) (by omega) (by omega)]
      have := ih (i + 1) w' F' S' op' last' id' at'' nx' h' hI' (by omega)
      rw [Int.natCast_add i 1] at this
      exact this
    have c11 : pureRun Try.prog (Instr.build 40 #[(0, .int .i64 11)]) = some (.agg (opC (11, 0, 0, 0, 0, 0)).toArray) := bd_40_0
    have b0 : pureRun Try.prog (Instr.build 53 #[]) = some (.agg (resA resO)) := bd_53_
    have kid : k < id.length := by have := hI.li; omega
    have kat : k < at'.length := by have := hI.la; omega
    have knx : k < nx.length := by have := hI.ln; omega
    by_cases h0 : op.getD k 0 < 0
    · obtain ⟨e1, e2⟩ := hI.begin hk3 h0 (11, 0, 0, 0, 0, 0)
      simp -implicitDefEqProofs only [wpB_some', gd_true, gd_false, gd_tf, gd_ft, gd_ut, gd_uf, gv_true, gv_false, gv_tf, gv_ft, gv_ut, gv_uf, gE_true, gE_false, gE_tf, gE_ft, gE_ut, gE_uf, gU_true, gU_false, gU_tf, gU_ft, pickv_true, pickv_false, cnd_true, cnd_false, decide_true, decide_false, Bool.not_true, Bool.not_false, pr_not, nilv_some, bp_lss, bp_leq, bp_gtr, bp_geq, be_eql, be_neq, bne_self_eq_false, beq_self_eq_true, ldC_some, Option.isNone_none, Option.isNone_some, hp_drew, h0, arr_ix hk3, ld_3, ints_ld h.h7 knx, c11]
      refine (c_Begin h.R (by omega) (by omega) _ _ (11, 0, 0, 0, 0, 0) _).mono ?_
      rintro v w2 ⟨rfl, F2, R2, u2⟩
      have h2 := h.step R2 u2
      rw [e1]
      obtain ⟨s1, h3⟩ := h2.set5 kid S.length
      obtain ⟨s2, h4⟩ := h3.set6 kat 0
      obtain ⟨s3, h5⟩ := h4.set7 knx (nx.getD k 0 + 1)
      have hn := hI.nn k hk3
      simp -implicitDefEqProofs only [tup0, tup1, wpB_some', gd_true, gd_false, gd_tf, gd_ft, gd_ut, gd_uf, gv_true, gv_false, gv_tf, gv_ft, gv_ut, gv_uf, gE_true, gE_false, gE_tf, gE_ft, gE_ut, gE_uf, gU_true, gU_false, gU_tf, gU_ft, pickv_true, pickv_false, cnd_true, cnd_false, decide_true, decide_false, Bool.not_true, Bool.not_false, pr_not, nilv_some, bp_lss, bp_leq, bp_gtr, bp_geq, be_eql, be_neq, bne_self_eq_false, beq_self_eq_true, ldC_some, Option.isNone_none, Option.isNone_some, hp_drew, s1, arr_ix hk3, s2, ld_3, ints_ld h4.h7 knx, bp_add, wrapi (n := nx.getD k 0 + 1) (by omega) (by omega), s3]
      exact one _ _ _ _ _ _ _ _ h5 e2
    · obtain ⟨m, hm, ho, hid, hw, hr, hc⟩ := hI.open_ hk3 (by omega)
      rcases hc with ⟨ha, hp⟩ | ⟨ha, hp⟩
      · obtain ⟨e1, e2⟩ := hI.point hk3 hm ho hw hr hp resO
        have ha' : (at'.getD k 0 == 0) = true := by rw [ha]; rfl
        simp -implicitDefEqProofs only [wpB_some', gd_true, gd_false, gd_tf, gd_ft, gd_ut, gd_uf, gv_true, gv_false, gv_tf, gv_ft, gv_ut, gv_uf, gE_true, gE_false, gE_tf, gE_ft, gE_ut, gE_uf, gU_true, gU_false, gU_tf, gU_ft, pickv_true, pickv_false, cnd_true, cnd_false, decide_true, decide_false, Bool.not_true, Bool.not_false, pr_not, nilv_some, bp_lss, bp_leq, bp_gtr, bp_geq, be_eql, be_neq, bne_self_eq_false, beq_self_eq_true, ldC_some, Option.isNone_none, Option.isNone_some, hp_drew, h0, arr_ix hk3, ld_3, ints_ld h.h6 kat, ints_ld h.h5 kid, hid, ha', b0]
        refine (c_Point h.R _ _ resO).mono ?_
        rintro v w2 ⟨rfl, F2, R2, u2⟩
        have h2 := h.step R2 u2
        rw [e1]
        obtain ⟨s2, h4⟩ := h2.set6 kat 1
        simp -implicitDefEqProofs only [wpB_some', gd_true, gd_false, gd_tf, gd_ft, gd_ut, gd_uf, gv_true, gv_false, gv_tf, gv_ft, gv_ut, gv_uf, gE_true, gE_false, gE_tf, gE_ft, gE_ut, gE_uf, gU_true, gU_false, gU_tf, gU_ft, pickv_true, pickv_false, cnd_true, cnd_false, decide_true, decide_false, Bool.not_true, Bool.not_false, pr_not, nilv_some, bp_lss, bp_leq, bp_gtr, bp_geq, be_eql, be_neq, bne_self_eq_false, beq_self_eq_true, ldC_some, Option.isNone_none, Option.isNone_some, hp_drew, arr_ix hk3, s2]
        exact one _ _ _ _ _ _ _ _ h4 e2
      · obtain ⟨e1, e2⟩ := hI.ende hk3 hm ho hw hr hp resO
        have ha' : (at'.getD k 0 == 0) = false := by rw [ha]; rfl
        simp -implicitDefEqProofs only [wpB_some', gd_true, gd_false, gd_tf, gd_ft, gd_ut, gd_uf, gv_true, gv_false, gv_tf, gv_ft, gv_ut, gv_uf, gE_true, gE_false, gE_tf, gE_ft, gE_ut, gE_uf, gU_true, gU_false, gU_tf, gU_ft, pickv_true, pickv_false, cnd_true, cnd_false, decide_true, decide_false, Bool.not_true, Bool.not_false, pr_not, nilv_some, bp_lss, bp_leq, bp_gtr, bp_geq, be_eql, be_neq, bne_self_eq_false, beq_self_eq_true, ldC_some, Option.isNone_none, Option.isNone_some, hp_drew, h0, arr_ix hk3, ld_3, ints_ld h.h6 kat, ints_ld h.h5 kid, hid, ha', b0]
        refine (c_End h.R _ _ resO fun _ => ?_).mono ?_
        · have h1 := hI.wk m hm
          rw [hlo]; exact h1
        rintro v w2 ⟨rfl, F2, R2, u2⟩
        have h2 := h.step R2 u2
        rw [e1]
        simp -implicitDefEqProofs only [wpB_some', gd_true, gd_false, gd_tf, gd_ft, gd_ut, gd_uf, gv_true, gv_false, gv_tf, gv_ft, gv_ut, gv_uf, gE_true, gE_false, gE_tf, gE_ft, gE_ut, gE_uf, gU_true, gU_false, gU_tf, gU_ft, pickv_true, pickv_false, cnd_true, cnd_false, decide_true, decide_false, Bool.not_true, Bool.not_false, pr_not, nilv_some, bp_lss, bp_leq, bp_gtr, bp_geq, be_eql, be_neq, bne_self_eq_false, beq_self_eq_true, ldC_some, Option.isNone_none, Option.isNone_some, hp_drew]
        exact one _ _ _ _ _ _ _ _ h2 e2
theorem lawRight {W : World} (A : Option Addr) (n c : Nat) (zs : List Int) (h : InInts .i64 W A n c zs) :
    CallR Try.prog 7 [.slice A n c] W fun v w' => v = .bool true ∧ Below W.heap.size W w' := by
  obtain ⟨h1, h2, h3, _, _⟩ := h.rd
  generalize zs.take n = xs at h1 h2
  subst h2
  apply F7_ok
  refine (c_firstR W).mono ?_
  rintro v w ⟨rfl, hc0⟩
  simp -implicitDefEqProofs only [F7, wpB_some', gd_true, gd_false, gd_tf, gd_ft, gd_ut, gd_uf, gv_true, gv_false, gv_tf, gv_ft, gv_ut, gv_uf, gE_true, gE_false, gE_tf, gE_ft, gE_ut, gE_uf, gU_true, gU_false, gU_tf, gU_ft, pickv_true, pickv_false, cnd_true, cnd_false, decide_true, decide_false, Bool.not_true, Bool.not_false, pr_not, nilv_some, bp_lss, bp_leq, bp_gtr, bp_geq, be_eql, be_neq, bne_self_eq_false, beq_self_eq_true, ldC_some, Option.isNone_none, Option.isNone_some, hp_drew, len_23]
  by_cases hl : (60 : Int) < xs.length
  · simp -implicitDefEqProofs only [wpB_some', gd_true, gd_false, gd_tf, gd_ft, gd_ut, gd_uf, gv_true, gv_false, gv_tf, gv_ft, gv_ut, gv_uf, gE_true, gE_false, gE_tf, gE_ft, gE_ut, gE_uf, gU_true, gU_false, gU_tf, gU_ft, pickv_true, pickv_false, cnd_true, cnd_false, decide_true, decide_false, Bool.not_true, Bool.not_false, pr_not, nilv_some, bp_lss, bp_leq, bp_gtr, bp_geq, be_eql, be_neq, bne_self_eq_false, beq_self_eq_true, ldC_some, Option.isNone_none, Option.isNone_some, hp_drew, hl]
    exact ⟨trivial, hc0.below⟩
  simp -implicitDefEqProofs only [wpB_some', gd_true, gd_false, gd_tf, gd_ft, gd_ut, gd_uf, gv_true, gv_false, gv_tf, gv_ft, gv_ut, gv_uf, gE_true, gE_false, gE_tf, gE_ft, gE_ut, gE_uf, gU_true, gU_false, gU_tf, gU_ft, pickv_true, pickv_false, cnd_true, cnd_false, decide_true, decide_false, Bool.not_true, Bool.not_false, pr_not, nilv_some, bp_lss, bp_leq, bp_gtr, bp_geq, be_eql, be_neq, bne_self_eq_false, beq_self_eq_true, ldC_some, Option.isNone_none, Option.isNone_some, hp_drew, hl]
  refine (c_New 3 w).mono ?_
  rintro v w1 ⟨r, F, rfl, R1, n1, c1⟩
  have e1 : neg1s (min (max (3 : Int) 1) 64).toNat = neg1s 3 := by decide
  rw [e1] at R1
  simp -implicitDefEqProofs only [be_eqlp Try.underlying43, wpB_some', gd_true, gd_false, gd_tf, gd_ft, gd_ut, gd_uf, gv_true, gv_false, gv_tf, gv_ft, gv_ut, gv_uf, gE_true, gE_false, gE_tf, gE_ft, gE_ut, gE_uf, gU_true, gU_false, gU_tf, gU_ft, pickv_true, pickv_false, cnd_true, cnd_false, decide_true, decide_false, Bool.not_true, Bool.not_false, pr_not, nilv_some, bp_lss, bp_leq, bp_gtr, bp_geq, be_eql, be_neq, bne_self_eq_false, beq_self_eq_true, ldC_some, Option.isNone_none, Option.isNone_some, hp_drew, al_45, alloc_size]
  have ca : ∀ z : Array Value, Chg [] w1 (((w1.alloc (.cells z 45)).alloc (.cells z 45)).alloc (.cells z 45)) := fun z => (((Chg.refl _ _).alloc _).alloc _).alloc _
  have nf : ∀ j, w1.heap.size ≤ j → j ∉ F := fun j hj hm => by have := R1.lt j hm; omega
  have hsz : W.heap.size ≤ w1.heap.size := Nat.le_trans hc0.size c1.size
  exact l_Right0 (by omega) h1 xs.length 0 _ F [] _ 0 [0, 0, 0] [0, 0, 0] [0, 0, 0] ⟨R1.keep (ca _) (Dis.nil _), fun k hk => Nat.le_trans hc0.size (n1 k hk), (hc0.trans c1).trans (ca _), by simp [ints], by simp [ints], by simp [ints], ⟨nf _ (by omega), by omega⟩, ⟨nf _ (by omega), by omega⟩, ⟨nf _ (by omega), by omega⟩, by omega⟩ RunI.new (by omega)
end Go.Proofs.Ytgamnncehjcdiaa
