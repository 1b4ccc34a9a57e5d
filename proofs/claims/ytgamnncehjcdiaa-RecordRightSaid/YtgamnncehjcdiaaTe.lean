/- The call of RecordPlays answers true. -/
import Derived.Test.YtgamnncehjcdiaaTd
import Derived.Test.YtgamnncehjcdiaaNa
namespace Go.Proofs.Ytgamnncehjcdiaa
open Go Ev Go.RowKit
set_option linter.unusedSimpArgs false
set_option linter.unusedVariables false
set_option maxRecDepth 10000

/-- what is told -/
structure DoV where
  kd : Int
  wk : Int
  ix : Int
  id : Int
  lt : Int
  op : OpV
  re : ResV
def doC (d : DoV) : List Value := [.int .i64 d.kd, .int .i64 d.wk, .int .i64 d.ix, .int .i64 d.id, .int .i64 d.lt] ++ opC d.op ++ resC d.re
def doA (d : DoV) : Array Value := (doC d).toArray
theorem doC_len (d : DoV) : (doC d).length = 19 := rfl
theorem doDec (ns : List Int) (h : ns.length = 19) : ∃ s : DoV, doC s = List.zipWith Value.int [.i64, .i64, .i64, .i64, .i64, .i64, .i64, .i64, .i64, .u64, .u64, .i64, .i64, .i64, .i64, .i64, .i64, .i64, .u64] ns := by
  match ns, h with
  | [a, b, c, d, e, f, g, h, i, j, k, l, m, n, o, p, q, r, s], _ => exact ⟨⟨a, b, c, d, e, (f, g, h, i, j, k), (l, (m, n, o, p, q), r, s)⟩, rfl⟩
theorem open_dos {H : Type} {enc : TypeId × Value → H} {w : World} {base : Nat} {spare : Nat → Bool} {held : Bool} {fuel : Nat} {a : Option Addr} {len cap : Nat} {x : DataW H × List MemPlace}
    (h : DataW.trod enc Try.prog w base spare held fuel 61 [.slice a len cap] = some x) : ∃ S : List DoV, S.length = len ∧ RdV w a (S.flatMap doC) ∧ len ≤ cap ∧ cap ≤ maxLen :=
  open_flat (d := 6) (z := 19) (ks := [.i64, .i64, .i64, .i64, .i64, .i64, .i64, .i64, .i64, .u64, .u64, .i64, .i64, .i64, .i64, .i64, .i64, .i64, .u64]) Try.underlying61 (by kernel_rfl) (by kernel_rfl) (fun ns h _ => doDec ns h) doC_len h
theorem do_0 (d : DoV) : (doA d)[0 + 0]? = some (.int .i64 d.kd) := rfl
theorem do_1 (d : DoV) : (doA d)[0 + 1]? = some (.int .i64 d.wk) := rfl
theorem do_2 (d : DoV) : (doA d)[0 + 2]? = some (.int .i64 d.ix) := rfl
theorem do_3 (d : DoV) : (doA d)[0 + 3]? = some (.int .i64 d.id) := rfl
theorem do_4 (d : DoV) : (doA d)[0 + 4]? = some (.int .i64 d.lt) := rfl
theorem do_op {w : World} {g : Nat} {d : DoV} (h : hp w g = some (.cells (doA d) 65)) : ldv Try.prog 40 (.pointer (some ⟨g, 0 + 5, none⟩)) w = some (.agg (opC d.op).toArray) := by
  rw [ld_40, h, ldL_some (show 0 + 5 + 6 ≤ (doA d).size from (by omega : 0 + 5 + 6 ≤ 19))]; rfl
theorem do_re {w : World} {g : Nat} {d : DoV} (h : hp w g = some (.cells (doA d) 65)) : ldv Try.prog 53 (.pointer (some ⟨g, 0 + 11, none⟩)) w = some (.agg (resA d.re)) := by
  rw [ld_53, h, ldL_some (show 0 + 11 + 8 ≤ (doA d).size from (by omega : 0 + 11 + 8 ≤ 19))]; rfl
/-- both records -/
structure Two (W w : World) (r x : Nat) (F G : List Nat) (n : Int) (S : List SpV) (op : List Int) (last : Int) : Prop where
  R : RecI w r F S op last
  X : RefI w x G n S last
  dis : Dis F G
  nF : ∀ k ∈ F, W.heap.size ≤ k
  nG : ∀ k ∈ G, W.heap.size ≤ k
  ch : Chg [] W w
  inv : RInv (S, op, last)
  hn : n = op.length
theorem Two.grow {W w w' : World} {r x : Nat} {F G : List Nat} {n : Int} {S : List SpV} {op : List Int} {last : Int} (h : Two W w r x F G n S op last) (hc : Chg [] w w') : Two W w' r x F G n S op last :=
  ⟨h.R.keep hc (Dis.nil _), h.X.keep hc (Dis.nil _), h.dis, h.nF, h.nG, h.ch.trans hc, h.inv, h.hn⟩
theorem Two.step {W w w1 w2 : World} {r x : Nat} {F G F' G' : List Nat} {n : Int} {S S' : List SpV} {op op' : List Int} {last last' : Int} (h : Two W w r x F G n S op last) (hR : RecI w1 r F' S' op' last') (u1 : Upd F F' w w1) (hX : RefI w2 x G' n S' last') (u2 : Upd G G' w1 w2) (hi : RInv (S', op', last')) (hl : op'.length = op.length) :
    Two W w2 r x F' G' n S' op' last' := by
  have d1 : Dis F' G := h.dis.upd u1 h.X.lt
  have d2 : Dis G' F' := d1.symm.upd u2 hR.lt
  refine ⟨hR.keep u2.chg d1, hX, d2.symm, u1.news h.ch.size h.nF, u2.news (Nat.le_trans h.ch.size u1.chg.size) h.nG, ?_, hi, by rw [h.hn, hl]⟩
  exact (h.ch.upd u1 fun k hk => .inr (h.nF k hk)).upd u2 fun k hk => .inr (h.nG k hk)
theorem Two.mid {W w w1 : World} {r x : Nat} {F G F' : List Nat} {n : Int} {S : List SpV} {op : List Int} {last : Int} (h : Two W w r x F G n S op last) (u1 : Upd F F' w w1) : RefI w1 x G n S last := h.X.keep u1.chg h.dis.symm
def OkT (W : World) (v : Value) (w' : World) : Prop := v = .bool true ∧ Below W.heap.size W w'
set_option maxHeartbeats 1000000 in
theorem l_Plays3 {W w : World} {r x : Nat} {F G : List Nat} {n : Int} {S : List SpV} {op : List Int} {last step : Int} {x1 : Value} {i : Nat} (hi : i < 60) (h : Two W w r x F G n S op last) (hS : S.length ≤ 1000)
    (next : ∀ w', Two W w' r x F G n S op last → P8_0 x1 (.bool true) (.pointer (some ⟨r, 0, none⟩)) (.pointer (some ⟨x, 0, none⟩)) (.int .i64 step) (.int .i64 ((i : Int) + 1)) w' (OkT W)) :
    P8_3 x1 (.bool true) (.pointer (some ⟨r, 0, none⟩)) (.pointer (some ⟨x, 0, none⟩)) (.int .i64 step) (.int .i64 i) w (OkT W) := by
  apply L8_3_ok
  simp -implicitDefEqProofs only [L8_3]
  refine (c_Number i 8 w (by omega) (by omega)).step ?_
  simp -implicitDefEqProofs only [wpB_some', gd_true, gd_false, gd_tf, gd_ft, gd_ut, gd_uf, gv_true, gv_false, gv_tf, gv_ft, gv_ut, gv_uf, gE_true, gE_false, gE_tf, gE_ft, gE_ut, gE_uf, gU_true, gU_false, gU_tf, gU_ft, pickv_true, pickv_false, cnd_true, cnd_false, decide_true, decide_false, Bool.not_true, Bool.not_false, pr_not, nilv_some, bp_lss, bp_leq, bp_gtr, bp_geq, be_eql, be_neq, bne_self_eq_false, beq_self_eq_true, ldC_some, Option.isNone_none, Option.isNone_some, hp_drew, bp_sub, wrapi (n := (i : Int) % 8 - 2) (by omega) (by omega)]
  have hd := h.grow (Chg.refl [] w).drew
  have hw : h.inv.open_eq ((i : Int) % 8 - 2) = h.inv.open_eq ((i : Int) % 8 - 2) := rfl
  have eqO := h.inv.open_eq ((i : Int) % 8 - 2)
  simp only at eqO
  have six : ∀ w', Two W w' r x F G n S op last → P8_6 x1 (.bool true) (.pointer (some ⟨r, 0, none⟩)) (.pointer (some ⟨x, 0, none⟩)) (.int .i64 step) (.int .i64 i) (.bool false) w' (OkT W) := fun w' h' => by
    apply L8_6_ok
    simp -implicitDefEqProofs only [L8_6, wpB_some', gd_true, gd_false, gd_tf, gd_ft, gd_ut, gd_uf, gv_true, gv_false, gv_tf, gv_ft, gv_ut, gv_uf, gE_true, gE_false, gE_tf, gE_ft, gE_ut, gE_uf, gU_true, gU_false, gU_tf, gU_ft, pickv_true, pickv_false, cnd_true, cnd_false, decide_true, decide_false, Bool.not_true, Bool.not_false, pr_not, nilv_some, bp_lss, bp_leq, bp_gtr, bp_geq, be_eql, be_neq, bne_self_eq_false, beq_self_eq_true, ldC_some, Option.isNone_none, Option.isNone_some, hp_drew, bp_add, wrapi (n := (i : Int) + 1) (by omega) (by omega)]
    exact next w' h'
  constructor
  · refine (c_Open hd.R _).step ?_
    refine (c_refOpen hd.X hS _).step ?_
    rw [eqO]
    obtain ⟨lv, h1, h2, hF⟩ := hd.X.ex
    simp -implicitDefEqProofs only [wpB_some', gd_true, gd_false, gd_tf, gd_ft, gd_ut, gd_uf, gv_true, gv_false, gv_tf, gv_ft, gv_ut, gv_uf, gE_true, gE_false, gE_tf, gE_ft, gE_ut, gE_uf, gU_true, gU_false, gU_tf, gU_ft, pickv_true, pickv_false, cnd_true, cnd_false, decide_true, decide_false, Bool.not_true, Bool.not_false, pr_not, nilv_some, bp_lss, bp_leq, bp_gtr, bp_geq, be_eql, be_neq, bne_self_eq_false, beq_self_eq_true, ldC_some, Option.isNone_none, Option.isNone_some, hp_drew, fa_67_2, ld_54, (show hp w x = _ from h1), a3_2]
    refine (c_List hd.R hS).mono ?_
    rintro v w1 ⟨hv, hc⟩
    have h1 := hd.grow hc
    refine (c_same hS (slP_own hv rfl) (slP_own (ownsRow_chg h2 hc (by simp)) rfl)).mono ?_
    rintro v w2 ⟨rfl, hc2⟩
    simp -implicitDefEqProofs only [wpB_some', gd_true, gd_false, gd_tf, gd_ft, gd_ut, gd_uf, gv_true, gv_false, gv_tf, gv_ft, gv_ut, gv_uf, gE_true, gE_false, gE_tf, gE_ft, gE_ut, gE_uf, gU_true, gU_false, gU_tf, gU_ft, pickv_true, pickv_false, cnd_true, cnd_false, decide_true, decide_false, Bool.not_true, Bool.not_false, pr_not, nilv_some, bp_lss, bp_leq, bp_gtr, bp_geq, be_eql, be_neq, bne_self_eq_false, beq_self_eq_true, ldC_some, Option.isNone_none, Option.isNone_some, hp_drew]
    exact six w2 (h1.grow hc2)
  · refine (c_Open hd.R _).step ?_
    refine (c_refOpen hd.X hS _).step ?_
    rw [eqO]
    simp -implicitDefEqProofs only [wpB_some', gd_true, gd_false, gd_tf, gd_ft, gd_ut, gd_uf, gv_true, gv_false, gv_tf, gv_ft, gv_ut, gv_uf, gE_true, gE_false, gE_tf, gE_ft, gE_ut, gE_uf, gU_true, gU_false, gU_tf, gU_ft, pickv_true, pickv_false, cnd_true, cnd_false, decide_true, decide_false, Bool.not_true, Bool.not_false, pr_not, nilv_some, bp_lss, bp_leq, bp_gtr, bp_geq, be_eql, be_neq, bne_self_eq_false, beq_self_eq_true, ldC_some, Option.isNone_none, Option.isNone_some, hp_drew]
    refine (c_List hd.R hS).mono ?_
    rintro v w1 ⟨hv, hc⟩
    have h1 := hd.grow hc
    obtain ⟨lv, h3, h4, hF⟩ := h1.X.ex
    simp -implicitDefEqProofs only [wpB_some', gd_true, gd_false, gd_tf, gd_ft, gd_ut, gd_uf, gv_true, gv_false, gv_tf, gv_ft, gv_ut, gv_uf, gE_true, gE_false, gE_tf, gE_ft, gE_ut, gE_uf, gU_true, gU_false, gU_tf, gU_ft, pickv_true, pickv_false, cnd_true, cnd_false, decide_true, decide_false, Bool.not_true, Bool.not_false, pr_not, nilv_some, bp_lss, bp_leq, bp_gtr, bp_geq, be_eql, be_neq, bne_self_eq_false, beq_self_eq_true, ldC_some, Option.isNone_none, Option.isNone_some, hp_drew, fa_67_2, ld_54, h3, a3_2]
    refine (c_same hS (slP_own hv rfl) (slP_own h4 rfl)).mono ?_
    rintro v w2 ⟨rfl, hc2⟩
    simp -implicitDefEqProofs only [wpB_some', gd_true, gd_false, gd_tf, gd_ft, gd_ut, gd_uf, gv_true, gv_false, gv_tf, gv_ft, gv_ut, gv_uf, gE_true, gE_false, gE_tf, gE_ft, gE_ut, gE_uf, gU_true, gU_false, gU_tf, gU_ft, pickv_true, pickv_false, cnd_true, cnd_false, decide_true, decide_false, Bool.not_true, Bool.not_false, pr_not, nilv_some, bp_lss, bp_leq, bp_gtr, bp_geq, be_eql, be_neq, bne_self_eq_false, beq_self_eq_true, ldC_some, Option.isNone_none, Option.isNone_some, hp_drew]
    exact six w2 (h1.grow hc2)
set_option maxHeartbeats 2000000 in
theorem l_Plays0 {W : World} {r x : Nat} {n : Int} (hn64 : n ≤ 64) {l : List DoV} (hl : l.length ≤ 60) {A : Option Addr} {c : Nat} (hA : RdV W A (l.flatMap doC)) : ∀ (d i : Nat) (w : World) (F G : List Nat) (S : List SpV) (op : List Int) (last step : Int),
    Two W w r x F G n S op last → S.length ≤ i → -1000 + (d : Int) * 10 ≤ step → step ≤ 1000 - (d : Int) * 10 → i + d = l.length →
    P8_0 (.slice A l.length c) (.bool true) (.pointer (some ⟨r, 0, none⟩)) (.pointer (some ⟨x, 0, none⟩)) (.int .i64 step) (.int .i64 i) w (OkT W) := by
  intro d
  induction d with
  | zero =>
    intro i w F G S op last step h hS hs1 hs2 hi
    apply L8_0_ok
    have : ¬ (i : Int) < l.length := by omega
    simp -implicitDefEqProofs only [L8_0, wpB_some', gd_true, gd_false, gd_tf, gd_ft, gd_ut, gd_uf, gv_true, gv_false, gv_tf, gv_ft, gv_ut, gv_uf, gE_true, gE_false, gE_tf, gE_ft, gE_ut, gE_uf, gU_true, gU_false, gU_tf, gU_ft, pickv_true, pickv_false, cnd_true, cnd_false, decide_true, decide_false, Bool.not_true, Bool.not_false, pr_not, nilv_some, bp_lss, bp_leq, bp_gtr, bp_geq, be_eql, be_neq, bne_self_eq_false, beq_self_eq_true, ldC_some, Option.isNone_none, Option.isNone_some, hp_drew, len_61, this]
    exact ⟨rfl, h.ch.below⟩
  | succ d ih =>
    intro i w F G S op last step h hS hs1 hs2 hi
    apply L8_0_ok
    have hlt : (i : Int) < l.length := by omega
    have hil : i < l.length := by omega
    have hAw := hA.keep h.ch.below
    obtain ⟨b, o, q1, q2, q3, _⟩ := hAw.elem (P := Try.prog) (c := c) (n := l.length) (i := (i : Int)) (j := .i64) Try.underlying61 sz_65 (by omega) (by rw [flat_len doC_len]; exact Nat.le_refl _) (by omega) hlt
    rw [Int.toNat_natCast, flat_at doC_len l i hil] at q3
    generalize hdo : l[i] = e at *
    have hld : ldv Try.prog 65 (.pointer (some ⟨b, o, none⟩)) w = some (.agg (doA e)) := by rw [ld_65, q3]; rfl
    simp -implicitDefEqProofs only [L8_0, wpB_some', gd_true, gd_false, gd_tf, gd_ft, gd_ut, gd_uf, gv_true, gv_false, gv_tf, gv_ft, gv_ut, gv_uf, gE_true, gE_false, gE_tf, gE_ft, gE_ut, gE_uf, gU_true, gU_false, gU_tf, gU_ft, pickv_true, pickv_false, cnd_true, cnd_false, decide_true, decide_false, Bool.not_true, Bool.not_false, pr_not, nilv_some, bp_lss, bp_leq, bp_gtr, bp_geq, be_eql, be_neq, bne_self_eq_false, beq_self_eq_true, ldC_some, Option.isNone_none, Option.isNone_some, hp_drew, len_61, hlt, q1, hld, al_65]
    rw [st_65 (by rfl) (by rfl) (by rw [alloc_heap, if_pos rfl]; rfl) (by rw [alloc_heap, if_pos rfl]; rfl), alloc_heap, if_pos rfl]
    simp -implicitDefEqProofs only [getE_some]
    generalize hz : w.alloc _ = wa
    have hca : Chg [] w wa := by rw [← hz]; exact (Chg.refl _ _).alloc _
    have hza : wa.heap.size = w.heap.size + 1 := by rw [← hz]; simp
    have hcp : Chg [] w (put wa w.heap.size (doA e) 65) := hca.put (.inr (Nat.le_refl _)) _ _
    have hg : hp (put wa w.heap.size (doA e) 65) w.heap.size = some (.cells (doA e) 65) := by rw [put_heap, if_pos rfl, if_pos (by omega)]
    have h1 := h.grow hcp
    have hgF : w.heap.size ∉ F := fun hm => by have := h.R.lt _ hm; omega
    have hgG : w.heap.size ∉ G := fun hm => by have := h.X.lt _ hm; omega
    clear hz hca hza hcp h
    generalize put wa w.heap.size (doA e) 65 = w1 at *
    generalize w.heap.size = g at *
    clear q1 q2 q3 hld hAw
    simp -implicitDefEqProofs only [fa_65_4, wpB_some', gd_true, gd_false, gd_tf, gd_ft, gd_ut, gd_uf, gv_true, gv_false, gv_tf, gv_ft, gv_ut, gv_uf, gE_true, gE_false, gE_tf, gE_ft, gE_ut, gE_uf, gU_true, gU_false, gU_tf, gU_ft, pickv_true, pickv_false, cnd_true, cnd_false, decide_true, decide_false, Bool.not_true, Bool.not_false, pr_not, nilv_some, bp_lss, bp_leq, bp_gtr, bp_geq, be_eql, be_neq, bne_self_eq_false, beq_self_eq_true, ldC_some, Option.isNone_none, Option.isNone_some, hp_drew, ld_3, hg, do_4]
    refine (c_Number e.lt 6 w1 (by omega) (by omega)).step ?_
    simp -implicitDefEqProofs only [bp_add, wpB_some', gd_true, gd_false, gd_tf, gd_ft, gd_ut, gd_uf, gv_true, gv_false, gv_tf, gv_ft, gv_ut, gv_uf, gE_true, gE_false, gE_tf, gE_ft, gE_ut, gE_uf, gU_true, gU_false, gU_tf, gU_ft, pickv_true, pickv_false, cnd_true, cnd_false, decide_true, decide_false, Bool.not_true, Bool.not_false, pr_not, nilv_some, bp_lss, bp_leq, bp_gtr, bp_geq, be_eql, be_neq, bne_self_eq_false, beq_self_eq_true, ldC_some, Option.isNone_none, Option.isNone_some, hp_drew, bp_sub, wrapi (n := step + e.lt % 6) (by omega) (by omega), wrapi (n := step + e.lt % 6 - 1) (by omega) (by omega), fa_65_3, ld_3, hg, do_3]
    refine (c_Number e.id 12 w1 (by omega) (by omega)).step ?_
    obtain ⟨s, hs⟩ : ∃ s, step + e.lt % 6 - 1 = s := ⟨_, rfl⟩
    rw [hs]
    simp -implicitDefEqProofs only [bp_sub, wpB_some', gd_true, gd_false, gd_tf, gd_ft, gd_ut, gd_uf, gv_true, gv_false, gv_tf, gv_ft, gv_ut, gv_uf, gE_true, gE_false, gE_tf, gE_ft, gE_ut, gE_uf, gU_true, gU_false, gU_tf, gU_ft, pickv_true, pickv_false, cnd_true, cnd_false, decide_true, decide_false, Bool.not_true, Bool.not_false, pr_not, nilv_some, bp_lss, bp_leq, bp_gtr, bp_geq, be_eql, be_neq, bne_self_eq_false, beq_self_eq_true, ldC_some, Option.isNone_none, Option.isNone_some, hp_drew, wrapi (n := e.id % 12 - 1) (by omega) (by omega), fa_65_1, ld_3, hg, do_1]
    -- what is left, whatever the number
    have tell : ∀ id : Int, P8_1 (.slice A l.length c) (.bool true) (.pointer (some ⟨r, 0, none⟩)) (.pointer (some ⟨x, 0, none⟩)) (.int .i64 s) (.int .i64 i) (.pointer (some ⟨g, 0, none⟩)) (.int .i64 id) w1 (OkT W) := by
      intro id
      have fin : ∀ (w' : World) (F' G' : List Nat) (S' : List SpV) (op' : List Int) (last' : Int), Two W w' r x F' G' n S' op' last' → S'.length ≤ S.length + 1 → P8_3 (.slice A l.length c) (.bool true) (.pointer (some ⟨r, 0, none⟩)) (.pointer (some ⟨x, 0, none⟩)) (.int .i64 s) (.int .i64 i) w' (OkT W) := fun w' F' G' S' op' last' h' hS' => by
        refine l_Plays3 (by omega) h' (by omega) fun w2 h2 => ?_
        have := ih (i + 1) w2 F' G' S' op' last' s h2 (by omega) (by omega) (by omega) (by omega)
        rw [Int.natCast_add i 1] at this
        exact this
      have four : ∀ (w' : World) (F' G' : List Nat) (S' : List SpV) (op' : List Int) (last' : Int), Two W w' r x F' G' n S' op' last' → S'.length ≤ S.length + 1 → P8_4 (.slice A l.length c) (.bool true) (.pointer (some ⟨r, 0, none⟩)) (.pointer (some ⟨x, 0, none⟩)) (.int .i64 s) (.int .i64 i) (.bool false) w' (OkT W) := fun w' F' G' S' op' last' h' hS' => by
        apply L8_4_ok
        simp -implicitDefEqProofs only [L8_4, wpB_some', gd_true, gd_false, gd_tf, gd_ft, gd_ut, gd_uf, gv_true, gv_false, gv_tf, gv_ft, gv_ut, gv_uf, gE_true, gE_false, gE_tf, gE_ft, gE_ut, gE_uf, gU_true, gU_false, gU_tf, gU_ft, pickv_true, pickv_false, cnd_true, cnd_false, decide_true, decide_false, Bool.not_true, Bool.not_false, pr_not, nilv_some, bp_lss, bp_leq, bp_gtr, bp_geq, be_eql, be_neq, bne_self_eq_false, beq_self_eq_true, ldC_some, Option.isNone_none, Option.isNone_some, hp_drew]
        exact fin _ _ _ _ _ _ h' hS'
      have five : ∀ (w' : World) (F' G' : List Nat) (S' : List SpV) (op' : List Int) (last' : Int), Two W w' r x F' G' n S' op' last' → S'.length ≤ S.length + 1 → P8_5 (.slice A l.length c) (.bool true) (.pointer (some ⟨r, 0, none⟩)) (.pointer (some ⟨x, 0, none⟩)) (.int .i64 s) (.int .i64 i) (.bool false) w' (OkT W) := fun w' F' G' S' op' last' h' hS' => by
        apply L8_5_ok
        simp -implicitDefEqProofs only [L8_5, wpB_some', gd_true, gd_false, gd_tf, gd_ft, gd_ut, gd_uf, gv_true, gv_false, gv_tf, gv_ft, gv_ut, gv_uf, gE_true, gE_false, gE_tf, gE_ft, gE_ut, gE_uf, gU_true, gU_false, gU_tf, gU_ft, pickv_true, pickv_false, cnd_true, cnd_false, decide_true, decide_false, Bool.not_true, Bool.not_false, pr_not, nilv_some, bp_lss, bp_leq, bp_gtr, bp_geq, be_eql, be_neq, bne_self_eq_false, beq_self_eq_true, ldC_some, Option.isNone_none, Option.isNone_some, hp_drew]
        exact fin _ _ _ _ _ _ h' hS'
      have hgk : ∀ {w2 : World} {F' : List Nat}, Upd F F' w1 w2 → hp w2 g = some (.cells (doA e) 65) := fun u => u.chg.at hg hgF
      -- the calls that begin
      have two : P8_2 (.slice A l.length c) (.bool true) (.pointer (some ⟨r, 0, none⟩)) (.pointer (some ⟨x, 0, none⟩)) (.int .i64 s) (.int .i64 i) (.pointer (some ⟨g, 0, none⟩)) (.int .i64 id) (.int .i64 (e.kd % 5)) (.bool true) w1 (OkT W) := by
        apply L8_2_ok
        simp -implicitDefEqProofs only [L8_2, wpB_some', gd_true, gd_false, gd_tf, gd_ft, gd_ut, gd_uf, gv_true, gv_false, gv_tf, gv_ft, gv_ut, gv_uf, gE_true, gE_false, gE_tf, gE_ft, gE_ut, gE_uf, gU_true, gU_false, gU_tf, gU_ft, pickv_true, pickv_false, cnd_true, cnd_false, decide_true, decide_false, Bool.not_true, Bool.not_false, pr_not, nilv_some, bp_lss, bp_leq, bp_gtr, bp_geq, be_eql, be_neq, bne_self_eq_false, beq_self_eq_true, ldC_some, Option.isNone_none, Option.isNone_some, hp_drew, fa_65_1, ld_3, hg, do_1]
        refine (c_Number e.wk 6 w1 (by omega) (by omega)).step ?_
        simp -implicitDefEqProofs only [wpB_some', gd_true, gd_false, gd_tf, gd_ft, gd_ut, gd_uf, gv_true, gv_false, gv_tf, gv_ft, gv_ut, gv_uf, gE_true, gE_false, gE_tf, gE_ft, gE_ut, gE_uf, gU_true, gU_false, gU_tf, gU_ft, pickv_true, pickv_false, cnd_true, cnd_false, decide_true, decide_false, Bool.not_true, Bool.not_false, pr_not, nilv_some, bp_lss, bp_leq, bp_gtr, bp_geq, be_eql, be_neq, bne_self_eq_false, beq_self_eq_true, ldC_some, Option.isNone_none, Option.isNone_some, hp_drew, bp_sub, wrapi (n := e.wk % 6 - 1) (by omega) (by omega), fa_65_2, fa_65_5, ld_3, hg, do_2, do_op hg]
        refine (c_Begin h1.R (by omega) (by have := h1.hn; omega) _ _ e.op _).mono ?_
        rintro v w2 ⟨rfl, F2, R2, u2⟩
        have hg2 := hgk u2
        have X2 := h1.mid u2
        simp -implicitDefEqProofs only [tup0, tup1, wpB_some', gd_true, gd_false, gd_tf, gd_ft, gd_ut, gd_uf, gv_true, gv_false, gv_tf, gv_ft, gv_ut, gv_uf, gE_true, gE_false, gE_tf, gE_ft, gE_ut, gE_uf, gU_true, gU_false, gU_tf, gU_ft, pickv_true, pickv_false, cnd_true, cnd_false, decide_true, decide_false, Bool.not_true, Bool.not_false, pr_not, nilv_some, bp_lss, bp_leq, bp_gtr, bp_geq, be_eql, be_neq, bne_self_eq_false, beq_self_eq_true, ldC_some, Option.isNone_none, Option.isNone_some, hp_drew, fa_65_2, fa_65_5, ld_3, hg2, do_2, do_op hg2]
        refine (c_refBegin X2 (by omega) _ _ e.op _).mono ?_
        rintro v w3 ⟨rfl, G3, X3, u3⟩
        obtain ⟨b1, b2, b3, b4, b5⟩ := h1.inv.begin (e.wk % 6 - 1) e.ix e.op s n h1.hn
        simp only at b1 b2 b4 b5
        rw [← b2] at X3
        rw [← b1]
        simp -implicitDefEqProofs only [tup0, tup1, wpB_some', gd_true, gd_false, gd_tf, gd_ft, gd_ut, gd_uf, gv_true, gv_false, gv_tf, gv_ft, gv_ut, gv_uf, gE_true, gE_false, gE_tf, gE_ft, gE_ut, gE_uf, gU_true, gU_false, gU_tf, gU_ft, pickv_true, pickv_false, cnd_true, cnd_false, decide_true, decide_false, Bool.not_true, Bool.not_false, pr_not, nilv_some, bp_lss, bp_leq, bp_gtr, bp_geq, be_eql, be_neq, bne_self_eq_false, beq_self_eq_true, ldC_some, Option.isNone_none, Option.isNone_some, hp_drew]
        exact fin _ _ _ _ _ _ (h1.step R2 u2 X3 u3 b3 b4) b5
      apply L8_1_ok
      simp -implicitDefEqProofs only [L8_1, wpB_some', gd_true, gd_false, gd_tf, gd_ft, gd_ut, gd_uf, gv_true, gv_false, gv_tf, gv_ft, gv_ut, gv_uf, gE_true, gE_false, gE_tf, gE_ft, gE_ut, gE_uf, gU_true, gU_false, gU_tf, gU_ft, pickv_true, pickv_false, cnd_true, cnd_false, decide_true, decide_false, Bool.not_true, Bool.not_false, pr_not, nilv_some, bp_lss, bp_leq, bp_gtr, bp_geq, be_eql, be_neq, bne_self_eq_false, beq_self_eq_true, ldC_some, Option.isNone_none, Option.isNone_some, hp_drew, fa_65_0, ld_3, hg, do_0]
      refine (c_Number e.kd 5 w1 (by omega) (by omega)).step ?_
      by_cases z0 : e.kd % 5 = 0
      · have z0' : (e.kd % 5 == 0) = true := by rw [z0]; rfl
        simp -implicitDefEqProofs only [wpB_some', gd_true, gd_false, gd_tf, gd_ft, gd_ut, gd_uf, gv_true, gv_false, gv_tf, gv_ft, gv_ut, gv_uf, gE_true, gE_false, gE_tf, gE_ft, gE_ut, gE_uf, gU_true, gU_false, gU_tf, gU_ft, pickv_true, pickv_false, cnd_true, cnd_false, decide_true, decide_false, Bool.not_true, Bool.not_false, pr_not, nilv_some, bp_lss, bp_leq, bp_gtr, bp_geq, be_eql, be_neq, bne_self_eq_false, beq_self_eq_true, ldC_some, Option.isNone_none, Option.isNone_some, hp_drew, z0']
        exact two
      by_cases z1 : e.kd % 5 = 1
      · have z1' : (e.kd % 5 == 1) = true := by rw [z1]; rfl
        simp -implicitDefEqProofs only [wpB_some', gd_true, gd_false, gd_tf, gd_ft, gd_ut, gd_uf, gv_true, gv_false, gv_tf, gv_ft, gv_ut, gv_uf, gE_true, gE_false, gE_tf, gE_ft, gE_ut, gE_uf, gU_true, gU_false, gU_tf, gU_ft, pickv_true, pickv_false, cnd_true, cnd_false, decide_true, decide_false, Bool.not_true, Bool.not_false, pr_not, nilv_some, bp_lss, bp_leq, bp_gtr, bp_geq, be_eql, be_neq, bne_self_eq_false, beq_self_eq_true, ldC_some, Option.isNone_none, Option.isNone_some, hp_drew, eqf z0, z1']
        exact two
      simp -implicitDefEqProofs only [wpB_some', gd_true, gd_false, gd_tf, gd_ft, gd_ut, gd_uf, gv_true, gv_false, gv_tf, gv_ft, gv_ut, gv_uf, gE_true, gE_false, gE_tf, gE_ft, gE_ut, gE_uf, gU_true, gU_false, gU_tf, gU_ft, pickv_true, pickv_false, cnd_true, cnd_false, decide_true, decide_false, Bool.not_true, Bool.not_false, pr_not, nilv_some, bp_lss, bp_leq, bp_gtr, bp_geq, be_eql, be_neq, bne_self_eq_false, beq_self_eq_true, ldC_some, Option.isNone_none, Option.isNone_some, hp_drew, eqf z0, eqf z1]
      apply L8_2_ok
      by_cases z2 : e.kd % 5 = 2
      · have z2' : (e.kd % 5 == 2) = true := by rw [z2]; rfl
        obtain ⟨b1, b2, b3, b4, b5⟩ := h1.inv.point id s e.re
        simp only at b1 b2 b4 b5
        simp -implicitDefEqProofs only [L8_2, wpB_some', gd_true, gd_false, gd_tf, gd_ft, gd_ut, gd_uf, gv_true, gv_false, gv_tf, gv_ft, gv_ut, gv_uf, gE_true, gE_false, gE_tf, gE_ft, gE_ut, gE_uf, gU_true, gU_false, gU_tf, gU_ft, pickv_true, pickv_false, cnd_true, cnd_false, decide_true, decide_false, Bool.not_true, Bool.not_false, pr_not, nilv_some, bp_lss, bp_leq, bp_gtr, bp_geq, be_eql, be_neq, bne_self_eq_false, beq_self_eq_true, ldC_some, Option.isNone_none, Option.isNone_some, hp_drew, z2', fa_65_6, do_re (w := w1.drew) (by rw [hp_drew]; exact hg)]
        have hd := h1.grow (Chg.refl [] w1).drew
        have hgd : hp w1.drew g = some (.cells (doA e) 65) := hg
        constructor
        all_goals
          refine (c_Point hd.R id s e.re).mono ?_
          rintro v w2 ⟨rfl, F2, R2, u2⟩
          have hg2 : hp w2 g = some (.cells (doA e) 65) := u2.chg.at hgd hgF
          have X2 := hd.mid u2
          try simp -implicitDefEqProofs only [fa_65_6, wpB_some', gd_true, gd_false, gd_tf, gd_ft, gd_ut, gd_uf, gv_true, gv_false, gv_tf, gv_ft, gv_ut, gv_uf, gE_true, gE_false, gE_tf, gE_ft, gE_ut, gE_uf, gU_true, gU_false, gU_tf, gU_ft, pickv_true, pickv_false, cnd_true, cnd_false, decide_true, decide_false, Bool.not_true, Bool.not_false, pr_not, nilv_some, bp_lss, bp_leq, bp_gtr, bp_geq, be_eql, be_neq, bne_self_eq_false, beq_self_eq_true, ldC_some, Option.isNone_none, Option.isNone_some, hp_drew, do_re hg2]
          refine (c_refPoint X2 id s e.re).mono ?_
          rintro v w3 ⟨rfl, G3, X3, u3⟩
          rw [← b2] at X3
          rw [← b1]
          simp -implicitDefEqProofs only [wpB_some', gd_true, gd_false, gd_tf, gd_ft, gd_ut, gd_uf, gv_true, gv_false, gv_tf, gv_ft, gv_ut, gv_uf, gE_true, gE_false, gE_tf, gE_ft, gE_ut, gE_uf, gU_true, gU_false, gU_tf, gU_ft, pickv_true, pickv_false, cnd_true, cnd_false, decide_true, decide_false, Bool.not_true, Bool.not_false, pr_not, nilv_some, bp_lss, bp_leq, bp_gtr, bp_geq, be_eql, be_neq, bne_self_eq_false, beq_self_eq_true, ldC_some, Option.isNone_none, Option.isNone_some, hp_drew]
          exact four _ _ _ _ _ _ (hd.step R2 u2 X3 u3 b3 b4) b5
      by_cases z3 : e.kd % 5 = 3
      · have z3' : (e.kd % 5 == 3) = true := by rw [z3]; rfl
        obtain ⟨b1, b2, b3, b4, b5⟩ := h1.inv.back id s
        simp only at b1 b2 b4 b5
        simp -implicitDefEqProofs only [L8_2, wpB_some', gd_true, gd_false, gd_tf, gd_ft, gd_ut, gd_uf, gv_true, gv_false, gv_tf, gv_ft, gv_ut, gv_uf, gE_true, gE_false, gE_tf, gE_ft, gE_ut, gE_uf, gU_true, gU_false, gU_tf, gU_ft, pickv_true, pickv_false, cnd_true, cnd_false, decide_true, decide_false, Bool.not_true, Bool.not_false, pr_not, nilv_some, bp_lss, bp_leq, bp_gtr, bp_geq, be_eql, be_neq, bne_self_eq_false, beq_self_eq_true, ldC_some, Option.isNone_none, Option.isNone_some, hp_drew, eqf z2, z3']
        refine (c_Back h1.R id s).mono ?_
        rintro v w2 ⟨rfl, F2, R2, u2⟩
        have X2 := h1.mid u2
        refine (c_refBack X2 id s).mono ?_
        rintro v w3 ⟨rfl, G3, X3, u3⟩
        rw [← b2] at X3
        rw [← b1]
        simp -implicitDefEqProofs only [wpB_some', gd_true, gd_false, gd_tf, gd_ft, gd_ut, gd_uf, gv_true, gv_false, gv_tf, gv_ft, gv_ut, gv_uf, gE_true, gE_false, gE_tf, gE_ft, gE_ut, gE_uf, gU_true, gU_false, gU_tf, gU_ft, pickv_true, pickv_false, cnd_true, cnd_false, decide_true, decide_false, Bool.not_true, Bool.not_false, pr_not, nilv_some, bp_lss, bp_leq, bp_gtr, bp_geq, be_eql, be_neq, bne_self_eq_false, beq_self_eq_true, ldC_some, Option.isNone_none, Option.isNone_some, hp_drew]
        exact fin _ _ _ _ _ _ (h1.step R2 u2 X3 u3 b3 b4) b5
      · obtain ⟨b1, b2, b3, b4, b5⟩ := h1.inv.ende id s e.re
        simp only at b1 b2 b4 b5
        simp -implicitDefEqProofs only [L8_2, wpB_some', gd_true, gd_false, gd_tf, gd_ft, gd_ut, gd_uf, gv_true, gv_false, gv_tf, gv_ft, gv_ut, gv_uf, gE_true, gE_false, gE_tf, gE_ft, gE_ut, gE_uf, gU_true, gU_false, gU_tf, gU_ft, pickv_true, pickv_false, cnd_true, cnd_false, decide_true, decide_false, Bool.not_true, Bool.not_false, pr_not, nilv_some, bp_lss, bp_leq, bp_gtr, bp_geq, be_eql, be_neq, bne_self_eq_false, beq_self_eq_true, ldC_some, Option.isNone_none, Option.isNone_some, hp_drew, eqf z2, eqf z3, fa_65_6, do_re (w := w1.drew) (by rw [hp_drew]; exact hg)]
        have hd := h1.grow (Chg.refl [] w1).drew
        have hgd : hp w1.drew g = some (.cells (doA e) 65) := hg
        constructor
        all_goals
          refine (c_End hd.R id s e.re (fun hs => ⟨(hd.inv.wk hs).1, (hd.inv.wk hs).2.1⟩)).mono ?_
          rintro v w2 ⟨rfl, F2, R2, u2⟩
          have hg2 : hp w2 g = some (.cells (doA e) 65) := u2.chg.at hgd hgF
          have X2 := hd.mid u2
          try simp -implicitDefEqProofs only [fa_65_6, wpB_some', gd_true, gd_false, gd_tf, gd_ft, gd_ut, gd_uf, gv_true, gv_false, gv_tf, gv_ft, gv_ut, gv_uf, gE_true, gE_false, gE_tf, gE_ft, gE_ut, gE_uf, gU_true, gU_false, gU_tf, gU_ft, pickv_true, pickv_false, cnd_true, cnd_false, decide_true, decide_false, Bool.not_true, Bool.not_false, pr_not, nilv_some, bp_lss, bp_leq, bp_gtr, bp_geq, be_eql, be_neq, bne_self_eq_false, beq_self_eq_true, ldC_some, Option.isNone_none, Option.isNone_some, hp_drew, do_re hg2]
          refine (c_refEnd X2 id s e.re).mono ?_
          rintro v w3 ⟨rfl, G3, X3, u3⟩
          rw [← b2] at X3
          rw [← b1]
          simp -implicitDefEqProofs only [wpB_some', gd_true, gd_false, gd_tf, gd_ft, gd_ut, gd_uf, gv_true, gv_false, gv_tf, gv_ft, gv_ut, gv_uf, gE_true, gE_false, gE_tf, gE_ft, gE_ut, gE_uf, gU_true, gU_false, gU_tf, gU_ft, pickv_true, pickv_false, cnd_true, cnd_false, decide_true, decide_false, Bool.not_true, Bool.not_false, pr_not, nilv_some, bp_lss, bp_leq, bp_gtr, bp_geq, be_eql, be_neq, bne_self_eq_false, beq_self_eq_true, ldC_some, Option.isNone_none, Option.isNone_some, hp_drew]
          exact five _ _ _ _ _ _ (hd.step R2 u2 X3 u3 b3 b4) b5
    by_cases hneg : e.wk < 0
    · obtain ⟨lv, h2, h3, hF⟩ := h1.X.ex
      obtain ⟨B, cB, rfl, _⟩ := rdV_of_own h3
      simp -implicitDefEqProofs only [wpB_some', gd_true, gd_false, gd_tf, gd_ft, gd_ut, gd_uf, gv_true, gv_false, gv_tf, gv_ft, gv_ut, gv_uf, gE_true, gE_false, gE_tf, gE_ft, gE_ut, gE_uf, gU_true, gU_false, gU_tf, gU_ft, pickv_true, pickv_false, cnd_true, cnd_false, decide_true, decide_false, Bool.not_true, Bool.not_false, pr_not, nilv_some, bp_lss, bp_leq, bp_gtr, bp_geq, be_eql, be_neq, bne_self_eq_false, beq_self_eq_true, ldC_some, Option.isNone_none, Option.isNone_some, hp_drew, hneg, fa_67_2, ld_54, h2, a3_2, len_54, bp_sub, wrapi (n := (S.length : Int) - 1) (by omega) (by omega)]
      exact tell _
    · simp -implicitDefEqProofs only [wpB_some', gd_true, gd_false, gd_tf, gd_ft, gd_ut, gd_uf, gv_true, gv_false, gv_tf, gv_ft, gv_ut, gv_uf, gE_true, gE_false, gE_tf, gE_ft, gE_ut, gE_uf, gU_true, gU_false, gU_tf, gU_ft, pickv_true, pickv_false, cnd_true, cnd_false, decide_true, decide_false, Bool.not_true, Bool.not_false, pr_not, nilv_some, bp_lss, bp_leq, bp_gtr, bp_geq, be_eql, be_neq, bne_self_eq_false, beq_self_eq_true, ldC_some, Option.isNone_none, Option.isNone_some, hp_drew, hneg]
      exact tell _
theorem lawPlays {W : World} (a0 : Int) (_ : (Lit.int .i64 a0).wf = true) (A : Option Addr) (n c : Nat) (l : List DoV) (hl : l.length = n) (hA : RdV W A (l.flatMap doC)) (hc : n ≤ c) (hm : c ≤ maxLen) :
    CallR Try.prog 8 [.int .i64 a0, .slice A n c] W fun v w' => v = .bool true ∧ Below W.heap.size W w' := by
  subst hl
  apply F8_ok
  refine (c_firstR W).mono ?_
  rintro v w ⟨rfl, hc0⟩
  simp -implicitDefEqProofs only [F8, wpB_some', gd_true, gd_false, gd_tf, gd_ft, gd_ut, gd_uf, gv_true, gv_false, gv_tf, gv_ft, gv_ut, gv_uf, gE_true, gE_false, gE_tf, gE_ft, gE_ut, gE_uf, gU_true, gU_false, gU_tf, gU_ft, pickv_true, pickv_false, cnd_true, cnd_false, decide_true, decide_false, Bool.not_true, Bool.not_false, pr_not, nilv_some, bp_lss, bp_leq, bp_gtr, bp_geq, be_eql, be_neq, bne_self_eq_false, beq_self_eq_true, ldC_some, Option.isNone_none, Option.isNone_some, hp_drew, len_61]
  by_cases hl : (60 : Int) < l.length
  · simp -implicitDefEqProofs only [wpB_some', gd_true, gd_false, gd_tf, gd_ft, gd_ut, gd_uf, gv_true, gv_false, gv_tf, gv_ft, gv_ut, gv_uf, gE_true, gE_false, gE_tf, gE_ft, gE_ut, gE_uf, gU_true, gU_false, gU_tf, gU_ft, pickv_true, pickv_false, cnd_true, cnd_false, decide_true, decide_false, Bool.not_true, Bool.not_false, pr_not, nilv_some, bp_lss, bp_leq, bp_gtr, bp_geq, be_eql, be_neq, bne_self_eq_false, beq_self_eq_true, ldC_some, Option.isNone_none, Option.isNone_some, hp_drew, hl]
    exact ⟨trivial, hc0.below⟩
  simp -implicitDefEqProofs only [wpB_some', gd_true, gd_false, gd_tf, gd_ft, gd_ut, gd_uf, gv_true, gv_false, gv_tf, gv_ft, gv_ut, gv_uf, gE_true, gE_false, gE_tf, gE_ft, gE_ut, gE_uf, gU_true, gU_false, gU_tf, gU_ft, pickv_true, pickv_false, cnd_true, cnd_false, decide_true, decide_false, Bool.not_true, Bool.not_false, pr_not, nilv_some, bp_lss, bp_leq, bp_gtr, bp_geq, be_eql, be_neq, bne_self_eq_false, beq_self_eq_true, ldC_some, Option.isNone_none, Option.isNone_some, hp_drew, hl]
  refine (c_New a0 w).mono ?_
  rintro v w1 ⟨r, F, rfl, R1, n1, c1⟩
  refine (c_refNew a0 w1).mono ?_
  rintro v w2 ⟨x, G, rfl, X2, n2, c2⟩
  simp -implicitDefEqProofs only [be_eqlp Try.underlying43, wpB_some', gd_true, gd_false, gd_tf, gd_ft, gd_ut, gd_uf, gv_true, gv_false, gv_tf, gv_ft, gv_ut, gv_uf, gE_true, gE_false, gE_tf, gE_ft, gE_ut, gE_uf, gU_true, gU_false, gU_tf, gU_ft, pickv_true, pickv_false, cnd_true, cnd_false, decide_true, decide_false, Bool.not_true, Bool.not_false, pr_not, nilv_some, bp_lss, bp_leq, bp_gtr, bp_geq, be_eql, be_neq, bne_self_eq_false, beq_self_eq_true, ldC_some, Option.isNone_none, Option.isNone_some, hp_drew]
  have hn : min (max a0 1) 64 = ((neg1s (min (max a0 1) 64).toNat).length : Int) := by simp only [neg1s, List.length_replicate]; omega
  refine l_Plays0 (by omega) (by omega) hA l.length 0 w2 F G [] _ 0 0 ⟨R1.keep c2 (Dis.nil _), X2, fun k h1 h2 => ?_, fun k hk => Nat.le_trans hc0.size (n1 k hk), fun k hk => Nat.le_trans (Nat.le_trans hc0.size c1.size) (n2 k hk), (hc0.trans c1).trans c2, RInv.new _, hn⟩ (Nat.le_refl _) (by omega) (by omega) (by omega)
  have := R1.lt k h1
  have := n2 k h2
  omega
end Go.Proofs.Ytgamnncehjcdiaa
