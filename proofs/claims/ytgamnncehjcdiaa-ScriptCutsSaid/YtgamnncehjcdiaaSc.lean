/- Scripts as bytes: the program's Put. -/
import Derived.Test.YtgamnncehjcdiaaSb
import Derived.Test.YtgamnncehjcdiaaDl
namespace Go.Proofs.Ytgamnncehjcdiaa
open Go Ev Go.RowKit
set_option linter.unusedSimpArgs false
set_option linter.unusedVariables false
set_option maxRecDepth 10000

def nE (o : OpV) : List Int := if nB o.1 then lowB o.2.2.2.1 2 else []
def vE (o : OpV) : List Int := if vB o.1 then lowB o.2.2.2.2.1 8 else []
def wE (o : OpV) : List Int := if wB o.1 then lowB o.2.2.2.2.2 8 else []
def fE (o : OpV) : List Int := if ofK o.1 = 0 then [] else [o.2.1] ++ lowB o.2.2.1 2
def encO (o : OpV) : List Int := [o.1] ++ fE o ++ nE o ++ vE o ++ wE o
def encL (l : List OpV) : List Int := lowB l.length 2 ++ l.flatMap encO
def encS (s : ScV) : List Int := [(s.1.length : Int)] ++ s.1.flatMap encL ++ s.2
def okP (k : Int) : Bool := decide (0 ≤ k ∧ k ≤ 255)
def okS (s : ScV) : Bool := s.1.all (fun l => l.all mayO) && s.2.all okP
def pPut (s : ScV) : List Int × Int := if mayS s then (if okS s then (encS s, 0) else ([], 10)) else ([], 11)
/-- the words of an operation are words -/
def WfO (o : OpV) : Prop := (0 ≤ o.2.2.2.2.1 ∧ o.2.2.2.2.1 < 18446744073709551616) ∧ (0 ≤ o.2.2.2.2.2 ∧ o.2.2.2.2.2 < 18446744073709551616)
def WfS (s : ScV) : Prop := ∀ l ∈ s.1, ∀ o ∈ l, WfO o
def PutP (W : World) (s : ScV) (v : Value) (w' : World) : Prop := ∃ x, v = .tuple #[x, .int .i64 (pPut s).2] ∧ w'.ownsRow W.heap.size 5 1 x (pPut s).1.length (u8s (pPut s).1) ∧ Chg [] W w'
/-- bytes on the way out -/
structure Out (W w : World) (x : Value) (bs : List Int) : Prop where
  own : w.ownsRow W.heap.size 5 1 x bs.length (u8s bs)
  ch : Chg [] W w
theorem Out.upd {W w w' : World} {x x' : Value} {bs bs' : List Int} (h : Out W w x bs) (ho : w'.ownsRow W.heap.size 5 1 x' bs'.length (u8s bs')) (u : Upd (blk x) (blk x') w w') : Out W w' x' bs' :=
  ⟨ho, h.ch.upd u fun k hk => .inr (h.own.lt k (mem_blk.1 hk)).1⟩
theorem Out.grow {W w w' : World} {x : Value} {bs : List Int} (h : Out W w x bs) (hc : Chg [] w w') : Out W w' x bs := ⟨ownsRow_chg h.own hc (by simp), h.ch.trans hc⟩
theorem Out.push {W w : World} {x : Value} {bs : List Int} (h : Out W w x bs) (hl : bs.length ≤ 1000000) (b : Int) {K : Value → World → Prop} (hk : ∀ x' w', Out W w' x' (bs ++ [b]) → Upd (blk x) (blk x') w w' → K x' w') :
    effv Try.prog (Instr.buildSlice 28 1 #[(0, .int .u8 b)]) w fun y w1 => effv Try.prog (Builtin.append_ #[28, 28] 28 #[x, y]) w1 K := by
  refine ps_28 (u8_one _) h.own (by omega) h.ch.size fun x' w' ho hg hnb => ?_
  have ho' : w'.ownsRow W.heap.size 5 1 x' (bs ++ [b]).length (u8s (bs ++ [b])) := by
    rw [List.length_append, u8s_append]; exact ho
  exact hk x' w' (h.upd ho' (push_upd hg hnb)) (push_upd hg hnb)
theorem Out.low {W w : World} {x : Value} {bs : List Int} (h : Out W w x bs) (hl : bs.length ≤ 1000000) {v : Int} (h0 : 0 ≤ v) {n : Nat} (hn : n ≤ 8) {K : Value → World → Prop} (hk : ∀ x' w', Out W w' x' (bs ++ lowB v n) → Upd (blk x) (blk x') w w' → K x' w') :
    CallR Try.prog 59 [x, .int .u64 v, .int .i64 n] w K :=
  (c_lowP h0 hn hl h.own h.ch.size).mono fun r w' ⟨ho, u⟩ => hk r w' (h.upd ho u) u
theorem Out.keepB {W w w' : World} {x x' : Value} {bs : List Int} (h : Out W w x bs) (u : Upd (blk x) (blk x') w w') {g : Nat} {o : Obj} (hg : hp w g = some o) (hn : g ∉ blk x) : hp w' g = some o ∧ g ∉ blk x' := by
  refine ⟨u.chg.at hg hn, fun hm => ?_⟩
  rcases u.sub g hm with h1 | h1
  · exact hn h1
  · have := blk_lt hg; omega
theorem u64_of {v : Int} (h0 : 0 ≤ v) (h1 : v ≤ 18446744073709551615) : IntKind.u64.wrap v = v := wrapu h0 h1
/-- the rest of an operation: n, v, w -/
theorem l_Put3 {W : World} {o : OpV} (hm : mayO o = true) (hwf : WfO o) {x1 x24 x25 x26 x35 x36 x37 : Value} {Q : Value → World → Prop} {w : World} {x : Value} {bs : List Int} {g8 : Nat} (hl : bs.length ≤ 900000) (h : Out W w x bs) (h8 : hp w g8 = some (.cells (opC o).toArray 40)) (n8 : g8 ∉ blk x)
    (next : ∀ w' x', Out W w' x' (bs ++ nE o ++ vE o ++ wE o) → P15_6 x1 x' x24 x25 x26 x35 x36 x37 w' Q) :
    P15_3 x1 x (.pointer (some ⟨g8, 0, none⟩)) (.bool (nB o.1)) (.bool (vB o.1)) (.bool (wB o.1)) x24 x25 x26 x35 x36 x37 w Q := by
  have hmm := of_decide_eq_true hm
  have n0 := hmm.2.2.2.1.1
  have n1 : o.2.2.2.1 ≤ 65535 := by
    have h1 := hmm.2.2.2.1.2
    unfold nM at h1
    split at h1
    · omega
    · split at h1 <;> omega
  have five : ∀ (w : World) (x : Value), Out W w x (bs ++ nE o ++ vE o) → hp w g8 = some (.cells (opC o).toArray 40) → P15_5 x1 x (.pointer (some ⟨g8, 0, none⟩)) (.bool (wB o.1)) x24 x25 x26 x35 x36 x37 w Q := by
    intro w x h h8
    have hl5 : (bs ++ nE o ++ vE o).length ≤ 1000000 := by
      have e1 : (nE o).length ≤ 2 := by unfold nE; split <;> simp [lowB_len]
      have e2 : (vE o).length ≤ 8 := by unfold vE; split <;> simp [lowB_len]
      simp only [List.length_append]; omega
    apply L15_5_ok
    cases hw : wB o.1 with
    | true =>
      simp -implicitDefEqProofs only [L15_5, wpB_some', gd_true, gd_false, gd_tf, gd_ft, gd_ut, gd_uf, gv_true, gv_false, gv_tf, gv_ft, gv_ut, gv_uf, gE_true, gE_false, gE_tf, gE_ft, gE_ut, gE_uf, gU_true, gU_false, gU_tf, gU_ft, pickv_true, pickv_false, cnd_true, cnd_false, decide_true, decide_false, Bool.not_true, Bool.not_false, pr_not, nilv_some, bp_lss, bp_leq, bp_gtr, bp_geq, be_eql, be_neq, bne_self_eq_false, beq_self_eq_true, ldC_some, Option.isNone_none, Option.isNone_some, hp_drew, fa_40_5, ld_38, h8, op_5]
      refine h.low hl5 hwf.2.1 (n := 8) (by omega) fun x' w' h' u => ?_
      have e : wE o = lowB o.2.2.2.2.2 8 := by simp [wE, hw]
      rw [e] at next
      exact next w' x' h'
    | false =>
      simp -implicitDefEqProofs only [L15_5, wpB_some', gd_true, gd_false, gd_tf, gd_ft, gd_ut, gd_uf, gv_true, gv_false, gv_tf, gv_ft, gv_ut, gv_uf, gE_true, gE_false, gE_tf, gE_ft, gE_ut, gE_uf, gU_true, gU_false, gU_tf, gU_ft, pickv_true, pickv_false, cnd_true, cnd_false, decide_true, decide_false, Bool.not_true, Bool.not_false, pr_not, nilv_some, bp_lss, bp_leq, bp_gtr, bp_geq, be_eql, be_neq, bne_self_eq_false, beq_self_eq_true, ldC_some, Option.isNone_none, Option.isNone_some, hp_drew]
      have e : wE o = [] := by simp [wE, hw]
      rw [e, List.append_nil] at next
      exact next w x h
  have four : ∀ (w : World) (x : Value), Out W w x (bs ++ nE o) → hp w g8 = some (.cells (opC o).toArray 40) → g8 ∉ blk x → P15_4 x1 x (.pointer (some ⟨g8, 0, none⟩)) (.bool (vB o.1)) (.bool (wB o.1)) x24 x25 x26 x35 x36 x37 w Q := by
    intro w x h h8 n8
    have hl4 : (bs ++ nE o).length ≤ 1000000 := by
      have e1 : (nE o).length ≤ 2 := by unfold nE; split <;> simp [lowB_len]
      simp only [List.length_append]; omega
    apply L15_4_ok
    cases hv : vB o.1 with
    | true =>
      simp -implicitDefEqProofs only [L15_4, wpB_some', gd_true, gd_false, gd_tf, gd_ft, gd_ut, gd_uf, gv_true, gv_false, gv_tf, gv_ft, gv_ut, gv_uf, gE_true, gE_false, gE_tf, gE_ft, gE_ut, gE_uf, gU_true, gU_false, gU_tf, gU_ft, pickv_true, pickv_false, cnd_true, cnd_false, decide_true, decide_false, Bool.not_true, Bool.not_false, pr_not, nilv_some, bp_lss, bp_leq, bp_gtr, bp_geq, be_eql, be_neq, bne_self_eq_false, beq_self_eq_true, ldC_some, Option.isNone_none, Option.isNone_some, hp_drew, fa_40_4, ld_38, h8, op_4]
      refine h.low hl4 hwf.1.1 (n := 8) (by omega) fun x' w' h' u => ?_
      have e : vE o = lowB o.2.2.2.2.1 8 := by simp [vE, hv]
      rw [e] at five
      exact five w' x' h' (h.keepB u h8 n8).1
    | false =>
      simp -implicitDefEqProofs only [L15_4, wpB_some', gd_true, gd_false, gd_tf, gd_ft, gd_ut, gd_uf, gv_true, gv_false, gv_tf, gv_ft, gv_ut, gv_uf, gE_true, gE_false, gE_tf, gE_ft, gE_ut, gE_uf, gU_true, gU_false, gU_tf, gU_ft, pickv_true, pickv_false, cnd_true, cnd_false, decide_true, decide_false, Bool.not_true, Bool.not_false, pr_not, nilv_some, bp_lss, bp_leq, bp_gtr, bp_geq, be_eql, be_neq, bne_self_eq_false, beq_self_eq_true, ldC_some, Option.isNone_none, Option.isNone_some, hp_drew]
      have e : vE o = [] := by simp [vE, hv]
      rw [e, List.append_nil] at five
      exact five w x h h8
  apply L15_3_ok
  cases hn : nB o.1 with
  | true =>
    simp -implicitDefEqProofs only [L15_3, wpB_some', gd_true, gd_false, gd_tf, gd_ft, gd_ut, gd_uf, gv_true, gv_false, gv_tf, gv_ft, gv_ut, gv_uf, gE_true, gE_false, gE_tf, gE_ft, gE_ut, gE_uf, gU_true, gU_false, gU_tf, gU_ft, pickv_true, pickv_false, cnd_true, cnd_false, decide_true, decide_false, Bool.not_true, Bool.not_false, pr_not, nilv_some, bp_lss, bp_leq, bp_gtr, bp_geq, be_eql, be_neq, bne_self_eq_false, beq_self_eq_true, ldC_some, Option.isNone_none, Option.isNone_some, hp_drew, fa_40_3, ld_3, h8, op_3, cv_3_38, wrapu (n := o.2.2.2.1) (by omega) (by omega)]
    refine h.low (by omega) n0 (n := 2) (by omega) fun x' w' h' u => ?_
    have e : nE o = lowB o.2.2.2.1 2 := by simp [nE, hn]
    rw [e] at four
    obtain ⟨k1, k2⟩ := h.keepB u h8 n8
    exact four w' x' h' k1 k2
  | false =>
    simp -implicitDefEqProofs only [L15_3, wpB_some', gd_true, gd_false, gd_tf, gd_ft, gd_ut, gd_uf, gv_true, gv_false, gv_tf, gv_ft, gv_ut, gv_uf, gE_true, gE_false, gE_tf, gE_ft, gE_ut, gE_uf, gU_true, gU_false, gU_tf, gU_ft, pickv_true, pickv_false, cnd_true, cnd_false, decide_true, decide_false, Bool.not_true, Bool.not_false, pr_not, nilv_some, bp_lss, bp_leq, bp_gtr, bp_geq, be_eql, be_neq, bne_self_eq_false, beq_self_eq_true, ldC_some, Option.isNone_none, Option.isNone_some, hp_drew]
    have e : nE o = [] := by simp [nE, hn]
    rw [e, List.append_nil] at four
    exact four w x h h8 n8
end Go.Proofs.Ytgamnncehjcdiaa
