/- Operations out of numbers (rundalemake): one more. -/
import Derived.Test.YtgamnncehjcdiaaVa
namespace Go.Proofs.Ytgamnncehjcdiaa
open Go Ev Go.RowKit
set_option linter.unusedSimpArgs false
set_option linter.unusedVariables false
set_option maxRecDepth 10000

def oZero : OpV := (0, 0, 0, 0, 0, 0)
/-- the words of an operation are words -/
def WfO' (o : OpV) : Prop := (0 ≤ o.2.2.2.2.1 ∧ o.2.2.2.2.1 < 18446744073709551616) ∧ (0 ≤ o.2.2.2.2.2 ∧ o.2.2.2.2.2 < 18446744073709551616)
/-- what is made: none, or one that may be -/
def GenO (o : OpV) : Prop := (o = oZero ∨ mayO o = true) ∧ WfO' o
theorem mayO_of {k f a n v w : Int} (h1 : 1 ≤ k) (h2 : k ≤ 12) (hf : 0 ≤ f ∧ f ≤ frM k) (ha : 0 ≤ a ∧ a ≤ atM k) (hn : 0 ≤ n ∧ n ≤ nM k) (hv : vB k = true ∨ v = 0) (hw : wB k = true ∨ w = 0) : mayO (k, f, a, n, v, w) = true :=
  decide_eq_true ⟨⟨h1, h2⟩, hf, ha, hn, hv, hw⟩
/-- an operation that still lacks what it names -/
def Half (o : OpV) : Prop := (1 ≤ o.1 ∧ o.1 ≤ 12) ∧ frM o.1 = 63 ∧ atM o.1 = 999 ∧ (0 ≤ o.2.2.2.1 ∧ o.2.2.2.1 ≤ nM o.1) ∧ (vB o.1 = true ∨ o.2.2.2.2.1 = 0) ∧ (wB o.1 = true ∨ o.2.2.2.2.2 = 0) ∧ WfO' o
/-- where the numbers and the lists stand, while Op runs -/
structure Env (W : World) (q : Nat) (A : Option Addr) (xs : List Int) (x1 : Value) (L : List (List OpV)) : Prop where
  hA : RdI .i64 W A xs
  hne : ∀ p, A = some p → p.block ≠ q
  il : IsL W q x1 L
  qW : q < W.heap.size
  hL : L.length ≤ 64
  hll : ∀ l ∈ L, l.length ≤ 1000
  hT : tot L ≤ 100000
/-- the variables of Op -/
structure Gen (W w : World) (q g4 g6 : Nat) (A : Option Addr) (c : Nat) (xs : List Int) (a0 at' : Nat) (o : OpV) : Prop where
  sq : hp w q = some (.cells #[.slice A xs.length c, .int .i64 at'] 100)
  h4 : hp w g4 = some (.cells (opC oZero).toArray 40)
  h6 : hp w g6 = some (.cells (opC o).toArray 40)
  ne : g4 ≠ g6
  g4W : W.heap.size ≤ g4
  g6W : W.heap.size ≤ g6
  ch : Chg [q] W w
  at1 : a0 ≤ at'
  at2 : at' ≤ 900000000
def GenP (W : World) (q : Nat) (A : Option Addr) (c : Nat) (xs : List Int) (a0 m : Nat) (v : Value) (w' : World) : Prop := ∃ o at', v = .agg (opC o).toArray ∧ GenO o ∧ hp w' q = some (.cells #[.slice A xs.length c, .int .i64 ((at' : Nat) : Int)] 100) ∧ a0 ≤ at' ∧ at' ≤ a0 + m ∧ Chg [q] W w'
section
variable {W w : World} {q g4 g6 : Nat} {A : Option Addr} {c : Nat} {xs : List Int} {a0 at' : Nat} {o : OpV} {x1 : Value} {L : List (List OpV)}
/-- a number more is taken -/
theorem Gen.next (E : Env W q A xs x1 L) (h : Gen W w q g4 g6 A c xs a0 at' o) (hat : at' + 1 ≤ 900000000) {m : Int} (h0 : 0 < m) (h1 : m ≤ 1000000) {K : Value → World → Prop} (hk : ∀ (r : Nat) w', (r : Int) < m → Gen W w' q g4 g6 A c xs a0 (at' + 1) o → Chg [q] w w' → K (.int .i64 r) w') :
    CallR Try.prog 50 [.pointer (some ⟨q, 0, none⟩), .int .i64 m] w K := by
  refine (c_SeqN h.sq (RdI.chg E.hA h.ch fun p hp => by simpa using E.hne p hp) E.hne (by have := h.at2; omega) h0 h1).mono ?_
  rintro v w' ⟨⟨r, rfl, hr⟩, hs, hc⟩
  have n4 : g4 ≠ q := by have := h.g4W; have := E.qW; omega
  have n6 : g6 ≠ q := by have := h.g6W; have := E.qW; omega
  exact hk r w' hr ⟨hs, hc.at h.h4 (by simpa using n4), hc.at h.h6 (by simpa using n6), h.ne, h.g4W, h.g6W, h.ch.trans hc, by have := h.at1; omega, hat⟩ hc
theorem Gen.grow (h : Gen W w q g4 g6 A c xs a0 at' o) {w' : World} (hc : Chg [] w w') : Gen W w' q g4 g6 A c xs a0 at' o :=
  ⟨hc.at h.sq (by simp), hc.at h.h4 (by simp), hc.at h.h6 (by simp), h.ne, h.g4W, h.g6W, h.ch.trans (hc.mono (by simp)), h.at1, h.at2⟩
/-- a field of the operation is written -/
theorem Gen.set (E : Env W q A xs x1 L) (h : Gen W w q g4 g6 A c xs a0 at' o) (o' : OpV) : Gen W (put w g6 (opC o').toArray 40) q g4 g6 A c xs a0 at' o' :=
  ⟨by rw [put_other (by have := h.g6W; have := E.qW; omega)]; exact h.sq, by rw [put_other h.ne]; exact h.h4, put_same (blk_lt h.h6) _ _, h.ne, h.g4W, h.g6W, h.ch.put (.inr h.g6W) _ _, h.at1, h.at2⟩
/-- the operation is answered -/
theorem Gen.ans (E : Env W q A xs x1 L) (h : Gen W w q g4 g6 A c xs a0 at' o) (ho : GenO o) {m : Nat} (hm : at' ≤ a0 + m) : wpB (ldv Try.prog 40 (.pointer (some ⟨g6, 0, none⟩)) w) fun t21 =>
    effu Try.prog (Instr.storeAt 40 (.pointer (some ⟨g4, 0, none⟩)) t21) w fun w =>
    wpB (ldv Try.prog 40 (.pointer (some ⟨g4, 0, none⟩)) w) fun r4 => GenP W q A c xs a0 m r4 w := by
  have hld := ldv_whole ag_40 (show (Try.prog.info? 40).map (·.size) = some (opC o).toArray.size from sz_40) h.h6
  rw [hld, wpB_some', st_40 (by rfl) (by rfl) (by rw [h.h4]; rfl) (by rw [h.h4]; rfl), h.h4, getE_some]
  have h4 : hp (put w g4 (opC o).toArray 40) g4 = some (.cells (opC o).toArray 40) := put_same (blk_lt h.h4) _ _
  rw [ldv_whole ag_40 (show (Try.prog.info? 40).map (·.size) = some (opC o).toArray.size from sz_40) h4, wpB_some']
  exact ⟨o, at', rfl, ho, by rw [put_other (by have := h.g4W; have := E.qW; omega)]; exact h.sq, h.at1, hm, h.ch.put (.inr h.g4W) _ _⟩
theorem Gen.five (E : Env W q A xs x1 L) (h : Gen W w q g4 g6 A c xs a0 at' o) (ho : GenO o) {m : Nat} (hm : at' ≤ a0 + m) : P90_5 (.pointer (some ⟨g4, 0, none⟩)) (.pointer (some ⟨g6, 0, none⟩)) w (GenP W q A c xs a0 m) := by
  apply L90_5_ok
  exact h.ans E ho hm
/-- what is written into a field -/
theorem Gen.st (h : Gen W w q g4 g6 A c xs a0 at' o) {i : Nat} (hi : i < 3) (x : Int) {K : World → Prop} :
    effu Try.prog (Instr.storeAt 3 (.pointer (some ⟨g6, 0 + (i + 1), none⟩)) (.int .i64 x)) w K = K (put w g6 ((opC o).toArray.setIfInBounds (0 + (i + 1)) (.int .i64 x)) 40) := by
  rw [st_3 (w := w) (b := g6) (o := 0 + (i + 1)) (v := .int .i64 x) rfl rfl (by rw [h.h6]; rcases i with _ | _ | _ | i <;> first | rfl | omega), h.h6, getE_some, getC_some]
theorem Gen.stu (h : Gen W w q g4 g6 A c xs a0 at' o) {i : Nat} (hi : i < 2) (x : Int) {K : World → Prop} :
    effu Try.prog (Instr.storeAt 38 (.pointer (some ⟨g6, 0 + (i + 4), none⟩)) (.int .u64 x)) w K = K (put w g6 ((opC o).toArray.setIfInBounds (0 + (i + 4)) (.int .u64 x)) 40) := by
  rw [st_38 (w := w) (b := g6) (o := 0 + (i + 4)) (v := .int .u64 x) rfl rfl (by rw [h.h6]; rcases i with _ | _ | i <;> first | rfl | omega), h.h6, getE_some, getC_some]
theorem set_1 (k f a n v u x : Int) : ((opC (k, f, a, n, v, u)).toArray.setIfInBounds (0 + 1) (.int .i64 x)) = (opC (k, x, a, n, v, u)).toArray := rfl
theorem set_2 (k f a n v u x : Int) : ((opC (k, f, a, n, v, u)).toArray.setIfInBounds (0 + 2) (.int .i64 x)) = (opC (k, f, x, n, v, u)).toArray := rfl
theorem set_3 (k f a n v u x : Int) : ((opC (k, f, a, n, v, u)).toArray.setIfInBounds (0 + 3) (.int .i64 x)) = (opC (k, f, a, x, v, u)).toArray := rfl
theorem set_4 (k f a n v u x : Int) : ((opC (k, f, a, n, v, u)).toArray.setIfInBounds (0 + 4) (.int .u64 x)) = (opC (k, f, a, n, x, u)).toArray := rfl
theorem set_5 (k f a n v u x : Int) : ((opC (k, f, a, n, v, u)).toArray.setIfInBounds (0 + 5) (.int .u64 x)) = (opC (k, f, a, n, v, x)).toArray := rfl
theorem half_done {k f a n v u : Int} (h : Half (k, f, a, n, v, u)) {f' a' : Int} (hf : 0 ≤ f' ∧ f' ≤ 63) (ha : 0 ≤ a' ∧ a' ≤ 999) : GenO (k, f', a', n, v, u) := by
  obtain ⟨h1, h2, h3, h4, h5, h6, h7⟩ := h
  simp only at h1 h2 h3 h4 h5 h6 h7
  exact ⟨.inr (mayO_of h1.1 h1.2 (by rw [h2]; exact hf) (by rw [h3]; exact ha) h4 h5 h6), h7⟩
set_option maxHeartbeats 4000000 in
theorem Gen.four (E : Env W q A xs x1 L) (h : Gen W w q g4 g6 A c xs a0 at' o) (ho : Half o) (hat : at' + 4 ≤ 900000000) {m : Nat} (hm : at' + 4 ≤ a0 + m) (want : Int) : P90_4 (.pointer (some ⟨q, 0, none⟩)) x1 (.pointer (some ⟨g4, 0, none⟩)) (.pointer (some ⟨g6, 0, none⟩)) (.int .i64 want) w (GenP W q A c xs a0 m) := by
  apply L90_4_ok
  simp -implicitDefEqProofs only [L90_4, wpB_some', gd_true, gd_false, gd_tf, gd_ft, gd_ut, gd_uf, gv_true, gv_false, gv_tf, gv_ft, gv_ut, gv_uf, gE_true, gE_false, gE_tf, gE_ft, gE_ut, gE_uf, gU_true, gU_false, gU_tf, gU_ft, pickv_true, pickv_false, cnd_true, cnd_false, decide_true, decide_false, Bool.not_true, Bool.not_false, pr_not, nilv_some, bp_lss, bp_leq, bp_gtr, bp_geq, be_eql, be_neq, bne_self_eq_false, beq_self_eq_true, ldC_some, Option.isNone_none, Option.isNone_some, hp_drew]
  refine (c_at (E.il.keep h.ch) E.hL E.hll E.hT want).mono ?_
  rintro r w1 ⟨R, hR, hRl⟩
  obtain ⟨B, cB, rfl, hB⟩ := rdV_of_own hR.own
  have h1 := h.grow hR.ch
  obtain ⟨k, f, a, n, v, u⟩ := o
  have dflt : ∀ w2 at2, Gen W w2 q g4 g6 A c xs a0 at2 (k, f, a, n, v, u) → at2 ≤ at' + 2 → CallR Try.prog 50 [.pointer (some ⟨q, 0, none⟩), .int .i64 5] w2 fun t90 w =>
      CallR Try.prog 50 [.pointer (some ⟨q, 0, none⟩), .int .i64 9] w fun t92 w =>
      effu Try.prog (Instr.storeAt 3 (.pointer (some ⟨g6, 0 + 1, none⟩)) t90) w fun w =>
      effu Try.prog (Instr.storeAt 3 (.pointer (some ⟨g6, 0 + 2, none⟩)) t92) w fun w =>
      wpB (ldv Try.prog 40 (.pointer (some ⟨g6, 0, none⟩)) w) fun t95 =>
      effu Try.prog (Instr.storeAt 40 (.pointer (some ⟨g4, 0, none⟩)) t95) w fun w =>
      wpB (ldv Try.prog 40 (.pointer (some ⟨g4, 0, none⟩)) w) fun r4 => GenP W q A c xs a0 m r4 w := by
    intro w2 at2 h2 hat2
    refine h2.next E (by omega) (by decide) (by decide) fun r3 w3 hr3 h3 _ => ?_
    refine h3.next E (by omega) (by decide) (by decide) fun r4 w4 hr4 h4 _ => ?_
    rw [h4.st (i := 0) (by omega), set_1]
    have h5 := h4.set E (k, r3, a, n, v, u)
    rw [h5.st (i := 1) (by omega), set_2]
    exact (h5.set E (k, r3, r4, n, v, u)).ans E (half_done ho (by omega) (by omega)) (by omega)
  by_cases hz : R.length = 0
  · have hz' : ((R.length : Int) == 0) = true := by rw [hz]; rfl
    simp -implicitDefEqProofs only [wpB_some', gd_true, gd_false, gd_tf, gd_ft, gd_ut, gd_uf, gv_true, gv_false, gv_tf, gv_ft, gv_ut, gv_uf, gE_true, gE_false, gE_tf, gE_ft, gE_ut, gE_uf, gU_true, gU_false, gU_tf, gU_ft, pickv_true, pickv_false, cnd_true, cnd_false, decide_true, decide_false, Bool.not_true, Bool.not_false, pr_not, nilv_some, bp_lss, bp_leq, bp_gtr, bp_geq, be_eql, be_neq, bne_self_eq_false, beq_self_eq_true, ldC_some, Option.isNone_none, Option.isNone_some, hp_drew, len_27, hz', fa_40_1, fa_40_2]
    exact dflt w1 _ h1 (by omega)
  have hz' : ((R.length : Int) == 0) = false := by simp; simpa using hz
  simp -implicitDefEqProofs only [wpB_some', gd_true, gd_false, gd_tf, gd_ft, gd_ut, gd_uf, gv_true, gv_false, gv_tf, gv_ft, gv_ut, gv_uf, gE_true, gE_false, gE_tf, gE_ft, gE_ut, gE_uf, gU_true, gU_false, gU_tf, gU_ft, pickv_true, pickv_false, cnd_true, cnd_false, decide_true, decide_false, Bool.not_true, Bool.not_false, pr_not, nilv_some, bp_lss, bp_leq, bp_gtr, bp_geq, be_eql, be_neq, bne_self_eq_false, beq_self_eq_true, ldC_some, Option.isNone_none, Option.isNone_some, hp_drew, len_27, hz']
  refine h1.next E (by omega) (by decide) (by decide) fun r2 w2 hr2 h2 c2 => ?_
  simp -implicitDefEqProofs only [wpB_some', gd_true, gd_false, gd_tf, gd_ft, gd_ut, gd_uf, gv_true, gv_false, gv_tf, gv_ft, gv_ut, gv_uf, gE_true, gE_false, gE_tf, gE_ft, gE_ut, gE_uf, gU_true, gU_false, gU_tf, gU_ft, pickv_true, pickv_false, cnd_true, cnd_false, decide_true, decide_false, Bool.not_true, Bool.not_false, pr_not, nilv_some, bp_lss, bp_leq, bp_gtr, bp_geq, be_eql, be_neq, bne_self_eq_false, beq_self_eq_true, ldC_some, Option.isNone_none, Option.isNone_some, hp_drew, fa_40_1, fa_40_2]
  by_cases hr0 : (r2 : Int) = 0
  · have e : ((r2 : Int) == 0) = true := by rw [hr0]; rfl
    simp -implicitDefEqProofs only [wpB_some', gd_true, gd_false, gd_tf, gd_ft, gd_ut, gd_uf, gv_true, gv_false, gv_tf, gv_ft, gv_ut, gv_uf, gE_true, gE_false, gE_tf, gE_ft, gE_ut, gE_uf, gU_true, gU_false, gU_tf, gU_ft, pickv_true, pickv_false, cnd_true, cnd_false, decide_true, decide_false, Bool.not_true, Bool.not_false, pr_not, nilv_some, bp_lss, bp_leq, bp_gtr, bp_geq, be_eql, be_neq, bne_self_eq_false, beq_self_eq_true, ldC_some, Option.isNone_none, Option.isNone_some, hp_drew, e]
    exact dflt w2 _ h2 (by omega)
  simp -implicitDefEqProofs only [wpB_some', gd_true, gd_false, gd_tf, gd_ft, gd_ut, gd_uf, gv_true, gv_false, gv_tf, gv_ft, gv_ut, gv_uf, gE_true, gE_false, gE_tf, gE_ft, gE_ut, gE_uf, gU_true, gU_false, gU_tf, gU_ft, pickv_true, pickv_false, cnd_true, cnd_false, decide_true, decide_false, Bool.not_true, Bool.not_false, pr_not, nilv_some, bp_lss, bp_leq, bp_gtr, bp_geq, be_eql, be_neq, bne_self_eq_false, beq_self_eq_true, ldC_some, Option.isNone_none, Option.isNone_some, hp_drew, eqf hr0, len_27]
  refine h2.next E (by omega) (by omega) (by omega) fun r3 w3 hr3 h3 c3 => ?_
  have c13 : Chg [q] w1 w3 := c2.trans c3
  have hq : q < w1.heap.size := Nat.lt_of_lt_of_le E.qW (by have := h.ch.size; have := hR.ch.size; omega)
  have hB3 : RdV w3 B (R.flatMap opC) := hB.1.chg c13 fun p hp _ => by
    have := (hR.own.lt p.block (by rw [hp]; rfl)).1
    have := E.qW
    have := h.ch.size
    simp; omega
  have hrl : r3 < R.length := by omega
  obtain ⟨b, o', q1, q2⟩ := op_at (c := cB) (j := .i64) (i := r3) hB3 hrl
  have hN := hR.ok _ (List.getElem_mem hrl)
  generalize R[r3] = e at *
  simp -implicitDefEqProofs only [wpB_some', gd_true, gd_false, gd_tf, gd_ft, gd_ut, gd_uf, gv_true, gv_false, gv_tf, gv_ft, gv_ut, gv_uf, gE_true, gE_false, gE_tf, gE_ft, gE_ut, gE_uf, gU_true, gU_false, gU_tf, gU_ft, pickv_true, pickv_false, cnd_true, cnd_false, decide_true, decide_false, Bool.not_true, Bool.not_false, pr_not, nilv_some, bp_lss, bp_leq, bp_gtr, bp_geq, be_eql, be_neq, bne_self_eq_false, beq_self_eq_true, ldC_some, Option.isNone_none, Option.isNone_some, hp_drew, q1, q2, al_40]
  rw [st_40 (by rfl) (by rfl) (by rw [alloc_heap, if_pos rfl]; rfl) (by rw [alloc_heap, if_pos rfl]; rfl), alloc_heap, if_pos rfl]
  simp -implicitDefEqProofs only [getE_some]
  generalize hzz : w3.alloc _ = wa
  have hca : Chg [] w3 wa := by rw [← hzz]; exact (Chg.refl _ _).alloc _
  have hza : wa.heap.size = w3.heap.size + 1 := by rw [← hzz]; simp
  have hcp : Chg [] w3 (put wa w3.heap.size (opC e).toArray 40) := hca.put (.inr (Nat.le_refl _)) _ _
  have h8 : hp (put wa w3.heap.size (opC e).toArray 40) w3.heap.size = some (.cells (opC e).toArray 40) := by rw [put_heap, if_pos rfl, if_pos (by omega)]
  have h5 := h3.grow hcp
  have n6 : w3.heap.size ≠ g6 := by have := blk_lt h3.h6; omega
  clear hzz hca hza hcp h3 q1 q2
  generalize put wa w3.heap.size (opC e).toArray 40 = w5 at *
  generalize w3.heap.size = g8 at *
  have h8d : hp w5.drew g8 = some (.cells (opC e).toArray 40) := h8
  have h5d : Gen W w5.drew q g4 g6 A c xs a0 (at' + 1 + 1) (k, f, a, n, v, u) := h5.grow (Chg.refl _ _).drew
  have h6 := h5d.set E (k, e.2.1, a, n, v, u)
  have h8p : hp (put w5.drew g6 (opC (k, e.2.1, a, n, v, u)).toArray 40) g8 = some (.cells (opC e).toArray 40) := by rw [put_other n6]; exact h8d
  have h7 := h6.set E (k, e.2.1, e.2.2.1, n, v, u)
  have fin := h7.five E (half_done ho (f' := e.2.1) (a' := e.2.2.1) ⟨hN.1, hN.2.1⟩ ⟨hN.2.2.1, hN.2.2.2⟩) (m := m) (by omega)
  simp -implicitDefEqProofs only [fa_40_1, fa_40_2, ld_3, h8d, op_1, op_2, wpB_some', gd_true, gd_false, gd_tf, gd_ft, gd_ut, gd_uf, gv_true, gv_false, gv_tf, gv_ft, gv_ut, gv_uf, gE_true, gE_false, gE_tf, gE_ft, gE_ut, gE_uf, gU_true, gU_false, gU_tf, gU_ft, pickv_true, pickv_false, cnd_true, cnd_false, decide_true, decide_false, Bool.not_true, Bool.not_false, pr_not, nilv_some, bp_lss, bp_leq, bp_gtr, bp_geq, be_eql, be_neq, bne_self_eq_false, beq_self_eq_true, ldC_some, Option.isNone_none, Option.isNone_some, hp_drew, h5d.st (i := 0) (by omega), set_1, h6.st (i := 1) (by omega), set_2, h8p]
  exact ⟨fin, fin⟩
end
end Go.Proofs.Ytgamnncehjcdiaa
