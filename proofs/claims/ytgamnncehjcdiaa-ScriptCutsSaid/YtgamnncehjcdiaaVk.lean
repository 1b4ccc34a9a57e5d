/- The call of ScriptCuts answers true: the whole. -/
import Derived.Test.YtgamnncehjcdiaaVj
namespace Go.Proofs.Ytgamnncehjcdiaa
open Go Ev Go.RowKit Go.ChangeShapes
set_option linter.unusedSimpArgs false
set_option linter.unusedVariables false
set_option maxRecDepth 10000

/-- a script in a block of its own, as it stands there -/
theorem box_hp {W : World} {A B : Option Addr} {n c m d : Nat} {L : Value → World → Prop}
    (next : ∀ w' g, Chg [] W w' → hp w' g = some (.cells #[.slice A n c, .slice B m d] 25) → L (.pointer (some ⟨g, 0, none⟩)) w') :
    effv Try.prog (Instr.alloc 25 true (.tuple #[])) W fun t w => effu Try.prog (Instr.storeAt 25 t (.agg #[.slice A n c, .slice B m d])) w (L t) := by
  simp -implicitDefEqProofs only [al_25]
  rw [st_25 (by rfl) (by rfl) (by rw [alloc_heap, if_pos rfl]; rfl) (by rw [alloc_heap, if_pos rfl]; rfl), alloc_heap, if_pos rfl]
  simp -implicitDefEqProofs only [getE_some]
  have h : hp (put (W.alloc (.cells #[.slice none 0 0, .slice none 0 0] 25)) W.heap.size #[.slice A n c, .slice B m d] 25) W.heap.size = some (.cells #[.slice A n c, .slice B m d] 25) := by rw [put_heap, if_pos rfl, if_pos (by simp)]
  exact next _ _ (((Chg.refl _ _).alloc _).put (.inr (Nat.le_refl _)) _ _) h
theorem isS_box {w : World} {v : Value} {s : ScV} (h : IsS w v s) : ∃ A c vs B d, v = .agg #[.slice A s.1.length c, .slice B s.2.length d] ∧ ∀ w' g, Chg [] w w' → hp w' g = some (.cells #[.slice A s.1.length c, .slice B s.2.length d] 25) → ScB w' g s A c vs B d := by
  obtain ⟨A, c, vs, vp, rfl, h2, h3, h4, B, d, rfl, h5⟩ := h.ex
  exact ⟨A, c, vs, B, d, rfl, fun w' g hc hg => ⟨hg, h2.keep hc.below, h3, fun j x ops a b => (h4 j x ops a b).keep hc.below, h5.keep hc.below⟩⟩
theorem ScB.isS {w : World} {g : Nat} {s : ScV} {A : Option Addr} {c : Nat} {vs : List Value} {B : Option Addr} {d : Nat} (h : ScB w g s A c vs B d) : IsS w (.agg #[.slice A s.1.length c, .slice B s.2.length d]) s :=
  ⟨A, c, vs, .slice B s.2.length d, rfl, h.rd, h.len, h.el, B, d, rfl, h.num⟩
theorem encS_pos (s : ScV) : 1 ≤ (encS s).length := by simp [encS]
set_option maxHeartbeats 4000000 in
theorem l_cuts {W : World} {A0 A1 : Option Addr} {c0 c1 : Nat} {x0 x1 : List Int} (h0 : RdI .i64 W A0 x0) (h1 : RdI .i64 W A1 x1) (m : Int) :
    CallR Try.prog 5 [.slice A0 x0.length c0, .slice A1 x1.length c1, .int .i64 m] W (OkS W) := by
  apply F5_ok
  simp -implicitDefEqProofs only [F5]
  refine (c_first20 W).mono ?_
  rintro _ w1 ⟨rfl, d1⟩
  by_cases k0 : (200 : Int) < x0.length
  · simp -implicitDefEqProofs only [wpB_some', gd_true, gd_false, gd_tf, gd_ft, gd_ut, gd_uf, gv_true, gv_false, gv_tf, gv_ft, gv_ut, gv_uf, gE_true, gE_false, gE_tf, gE_ft, gE_ut, gE_uf, gU_true, gU_false, gU_tf, gU_ft, pickv_true, pickv_false, cnd_true, cnd_false, decide_true, decide_false, Bool.not_true, Bool.not_false, pr_not, nilv_some, bp_lss, bp_leq, bp_gtr, bp_geq, be_eql, be_neq, bne_self_eq_false, beq_self_eq_true, ldC_some, Option.isNone_none, Option.isNone_some, hp_drew, len_23, k0]
    exact ⟨rfl, d1.below⟩
  by_cases k1 : (200 : Int) < x1.length
  · simp -implicitDefEqProofs only [wpB_some', gd_true, gd_false, gd_tf, gd_ft, gd_ut, gd_uf, gv_true, gv_false, gv_tf, gv_ft, gv_ut, gv_uf, gE_true, gE_false, gE_tf, gE_ft, gE_ut, gE_uf, gU_true, gU_false, gU_tf, gU_ft, pickv_true, pickv_false, cnd_true, cnd_false, decide_true, decide_false, Bool.not_true, Bool.not_false, pr_not, nilv_some, bp_lss, bp_leq, bp_gtr, bp_geq, be_eql, be_neq, bne_self_eq_false, beq_self_eq_true, ldC_some, Option.isNone_none, Option.isNone_some, hp_drew, len_23, k0, k1]
    exact ⟨rfl, d1.below⟩
  simp -implicitDefEqProofs only [wpB_some', gd_true, gd_false, gd_tf, gd_ft, gd_ut, gd_uf, gv_true, gv_false, gv_tf, gv_ft, gv_ut, gv_uf, gE_true, gE_false, gE_tf, gE_ft, gE_ut, gE_uf, gU_true, gU_false, gU_tf, gU_ft, pickv_true, pickv_false, cnd_true, cnd_false, decide_true, decide_false, Bool.not_true, Bool.not_false, pr_not, nilv_some, bp_lss, bp_leq, bp_gtr, bp_geq, be_eql, be_neq, bne_self_eq_false, beq_self_eq_true, ldC_some, Option.isNone_none, Option.isNone_some, hp_drew, len_23, k0, k1]
  refine (c_made20 (h0.keep d1.below) (h1.keep d1.below) (by omega) 3).mono ?_
  intro v1 w2 hm1
  obtain ⟨s, f1, i1, d2⟩ := made_fine (by decide) (by omega) hm1
  have d12 := d1.trans d2
  obtain ⟨A, c, vs, B, d, rfl, hbx⟩ := isS_box i1
  refine box_hp ?_
  intro w3 g8 d3 hg8
  have h8 := hbx w3 g8 d3 hg8
  have d13 := d12.trans d3
  have ldw := ldv_whole (t := 25) (c := #[.slice A s.1.length c, .slice B s.2.length d]) ag_25 sz_25 hg8
  simp -implicitDefEqProofs only [wpB_some', gd_true, gd_false, gd_tf, gd_ft, gd_ut, gd_uf, gv_true, gv_false, gv_tf, gv_ft, gv_ut, gv_uf, gE_true, gE_false, gE_tf, gE_ft, gE_ut, gE_uf, gU_true, gU_false, gU_tf, gU_ft, pickv_true, pickv_false, cnd_true, cnd_false, decide_true, decide_false, Bool.not_true, Bool.not_false, pr_not, nilv_some, bp_lss, bp_leq, bp_gtr, bp_geq, be_eql, be_neq, bne_self_eq_false, beq_self_eq_true, ldC_some, Option.isNone_none, Option.isNone_some, hp_drew, ldw]
  refine put_fine f1 h8.isS ?_
  intro E ec w4 p1 d4
  have d14 := d13.trans d4
  have h8 := h8.keep d4
  have z0 : ((0 : Int) != 0) = false := rfl
  have hsz := f1.size
  have hpos := encS_pos s
  have en : ((encS s).length : Int) + 1 = (((encS s).length + 1 : Nat) : Int) := by omega
  simp -implicitDefEqProofs only [wpB_some', gd_true, gd_false, gd_tf, gd_ft, gd_ut, gd_uf, gv_true, gv_false, gv_tf, gv_ft, gv_ut, gv_uf, gE_true, gE_false, gE_tf, gE_ft, gE_ut, gE_uf, gU_true, gU_false, gU_tf, gU_ft, pickv_true, pickv_false, cnd_true, cnd_false, decide_true, decide_false, Bool.not_true, Bool.not_false, pr_not, nilv_some, bp_lss, bp_leq, bp_gtr, bp_geq, be_eql, be_neq, bne_self_eq_false, beq_self_eq_true, ldC_some, Option.isNone_none, Option.isNone_some, hp_drew, tup0, tup1, z0, len_28, bp_add, wrapi (n := ((encS s).length : Int) + 1) (by omega) (by omega)]
  refine (c_Number m (((encS s).length : Int) + 1) _ (by omega) (by omega)).step ?_
  have r0 := Int.emod_nonneg m (b := ((encS s).length : Int) + 1) (by omega)
  have r1 := Int.emod_lt_of_pos m (b := ((encS s).length : Int) + 1) (by omega)
  obtain ⟨k, hk⟩ : ∃ k : Nat, m % (((encS s).length : Int) + 1) = (k : Int) := ⟨(m % (((encS s).length : Int) + 1)).toNat, by omega⟩
  rw [hk] at r1 ⊢
  have hkn : k ≤ (encS s).length := by omega
  obtain ⟨E', ec', e1, e2, e3, e4⟩ := p1
  cases e1
  have hps := pr_slice_h (P := Try.prog) (n := (encS s).length) (c := ec) (A := E) (k := .i64) (l := (k : Int)) Try.underlying28 sz_5 (by omega) (by omega)
  rw [Int.toNat_natCast] at hps
  simp -implicitDefEqProofs only [wpB_some', gd_true, gd_false, gd_tf, gd_ft, gd_ut, gd_uf, gv_true, gv_false, gv_tf, gv_ft, gv_ut, gv_uf, gE_true, gE_false, gE_tf, gE_ft, gE_ut, gE_uf, gU_true, gU_false, gU_tf, gU_ft, pickv_true, pickv_false, cnd_true, cnd_false, decide_true, decide_false, Bool.not_true, Bool.not_false, pr_not, nilv_some, bp_lss, bp_leq, bp_gtr, bp_geq, be_eql, be_neq, bne_self_eq_false, beq_self_eq_true, ldC_some, Option.isNone_none, Option.isNone_some, hp_drew, hps]
  have hlen : ((encS s).take k).length = k := by simp; omega
  have p2 : SlB w4 (.slice E k ec) ((encS s).take k) := by
    refine ⟨E, ec, by rw [hlen], ?_, by omega, fun p hp hne => e4 p hp (fun e => by rw [e] at hpos; simp at hpos)⟩
    rw [u8s, List.map_take]
    exact e2.take k
  refine (c_Read p2 (IsBytes.take (encS_bytes f1.m f1.o) k)).mono ?_
  rintro t w5 ⟨hs5, d5⟩
  have d15 := d14.trans d5
  have h8 := h8.keep d5
  have hcut := @read_cut s f1 k
  have hnone := @read_none (encS s)
  generalize hr : pRead ((encS s).take k) = r at *
  obtain ⟨A2, c2, vs2, B2, dd2, rfl, hbx2⟩ := isS_box hs5
  refine box_hp ?_
  intro w6 g12 d6 hg12
  have h12 := hbx2 w6 g12 d6 hg12
  have d16 := d15.trans d6
  have h8 := h8.keep d6
  by_cases hk0 : k = 0
  · subst hk0
    have hre : r = ([], []) := by rw [← hr, hnone]
    subst hre
    have zz : (((0 : Nat) : Int) == 0) = true := rfl
    have l0 : ((([] : List (List OpV)).length : Int) == 0) = true := rfl
    have l1 : ((([] : List Int).length : Int) == 0) = true := rfl
    simp -implicitDefEqProofs only [wpB_some', gd_true, gd_false, gd_tf, gd_ft, gd_ut, gd_uf, gv_true, gv_false, gv_tf, gv_ft, gv_ut, gv_uf, gE_true, gE_false, gE_tf, gE_ft, gE_ut, gE_uf, gU_true, gU_false, gU_tf, gU_ft, pickv_true, pickv_false, cnd_true, cnd_false, decide_true, decide_false, Bool.not_true, Bool.not_false, pr_not, nilv_some, bp_lss, bp_leq, bp_gtr, bp_geq, be_eql, be_neq, bne_self_eq_false, beq_self_eq_true, ldC_some, Option.isNone_none, Option.isNone_some, hp_drew, zz, fa_25_0, fa_25_1, ld_22, ld_23, h12.hb, t2_0, t2_1, len_22, len_23, l0, l1]
    exact ⟨rfl, d16.below⟩
  have hkp : ¬ (k : Int) = 0 := by omega
  obtain ⟨hc1, hc2, hc3, hc4⟩ := hcut (by omega) hkn
  have H : CutI s r (encS s).length k := ⟨f1.l, f1.p, f1.c, hc1, hc2, hc3, hc4, hkn, hsz⟩
  have ll : ((r.1.length : Int) != (s.1.length : Int)) = false := by rw [hc1.1]; simp
  have hgt : ¬ (s.2.length : Int) < r.2.length := by have := hc2.length_le; omega
  simp -implicitDefEqProofs only [wpB_some', gd_true, gd_false, gd_tf, gd_ft, gd_ut, gd_uf, gv_true, gv_false, gv_tf, gv_ft, gv_ut, gv_uf, gE_true, gE_false, gE_tf, gE_ft, gE_ut, gE_uf, gU_true, gU_false, gU_tf, gU_ft, pickv_true, pickv_false, cnd_true, cnd_false, decide_true, decide_false, Bool.not_true, Bool.not_false, pr_not, nilv_some, bp_lss, bp_leq, bp_gtr, bp_geq, be_eql, be_neq, bne_self_eq_false, beq_self_eq_true, ldC_some, Option.isNone_none, Option.isNone_some, hp_drew, eqf hkp, fa_25_0, fa_25_1, ld_22, ld_23, h8.hb, h12.hb, t2_0, t2_1, len_22, len_23, ll, hgt]
  exact l_cut0 H s.1.length 0 false w6 h8 h12 d16 (fun h => by cases h) (by omega)
/-- the call answers true -/
theorem lawCuts {W : World} (A0 : Option Addr) (n0 c0 : Nat) (z0 : List Int) (h0 : InInts .i64 W A0 n0 c0 z0) (A1 : Option Addr) (n1 c1 : Nat) (z1 : List Int) (h1 : InInts .i64 W A1 n1 c1 z1) (m : Int) (hm : (Lit.int .i64 m).wf = true) :
    CallR Try.prog 5 [.slice A0 n0 c0, .slice A1 n1 c1, .int .i64 m] W fun v w' => v = .bool true ∧ Below W.heap.size W w' := by
  obtain ⟨r0, l0, _⟩ := h0.rd
  obtain ⟨r1, l1, _⟩ := h1.rd
  clear h0 h1
  generalize z0.take n0 = x0 at *
  generalize z1.take n1 = x1 at *
  subst l0; subst l1
  exact l_cuts r0 r1 m
end Go.Proofs.Ytgamnncehjcdiaa
