/- Operations out of numbers (rundalemake): the numbers, the kinds, which there are. -/
import Derived.Test.YtgamnncehjcdiaaSa
import Derived.Test.YtgamnncehjcdiaaNa
import Derived.Test.YtgamnncehjcdiaaDl
namespace Go.Proofs.Ytgamnncehjcdiaa
open Go Ev Go.RowKit
set_option linter.unusedSimpArgs false
set_option linter.unusedVariables false
set_option maxRecDepth 10000

theorem blk_add (p : Addr) (i : Nat) : (p.add i).block = p.block := by unfold Addr.add; split <;> rfl
theorem RdI.chg {k : IntKind} {w w' : World} {S : List Nat} {A : Option Addr} {xs : List Int} (h : RdI k w A xs) (hc : Chg S w w') (hn : ∀ p, A = some p → p.block ∉ S) : RdI k w' A xs := fun i hi => by
  obtain ⟨p, hp, h1⟩ := h i hi
  exact ⟨p, hp, hc.cell h1 (by rw [blk_add]; exact hn p hp)⟩
set_option maxHeartbeats 1000000 in
theorem c_SeqN {w : World} {g : Nat} {A : Option Addr} {c : Nat} {xs : List Int} {at' : Nat} (hb : hp w g = some (.cells #[.slice A xs.length c, .int .i64 at'] 100)) (hA : RdI .i64 w A xs) (hne : ∀ p, A = some p → p.block ≠ g) (hat : at' ≤ 1000000000) {m : Int} (h0 : 0 < m) (h1 : m ≤ 1000000) :
    CallR Try.prog 50 [.pointer (some ⟨g, 0, none⟩), .int .i64 m] w fun v w' => (∃ r : Nat, v = .int .i64 r ∧ (r : Int) < m) ∧ hp w' g = some (.cells #[.slice A xs.length c, .int .i64 ((at' + 1 : Nat) : Int)] 100) ∧ Chg [g] w w' := by
  apply F50_ok
  have fin : ∀ (w0 : World), Chg [] w w0 → ∀ x : Int, P50_0 (.pointer (some ⟨g, 0, none⟩)) (.int .i64 m) (.int .i64 x) w0 fun v w' => (∃ r : Nat, v = .int .i64 r ∧ (r : Int) < m) ∧ hp w' g = some (.cells #[.slice A xs.length c, .int .i64 ((at' + 1 : Nat) : Int)] 100) ∧ Chg [g] w w' := by
    intro w0 hc0 x
    apply L50_0_ok
    have hb0 := hc0.at hb (by simp)
    have ok : okC (hp w0 g) (0 + 1 + 1) = true := by rw [hb0]; rfl
    have e1 : (#[Value.slice A xs.length c, .int .i64 at'].setIfInBounds (0 + 1) (.int .i64 ((at' : Int) + 1))) = #[.slice A xs.length c, .int .i64 ((at' + 1 : Nat) : Int)] := by rw [Int.natCast_add at' 1]; rfl
    simp -implicitDefEqProofs only [L50_0, wpB_some', gd_true, gd_false, gd_tf, gd_ft, gd_ut, gd_uf, gv_true, gv_false, gv_tf, gv_ft, gv_ut, gv_uf, gE_true, gE_false, gE_tf, gE_ft, gE_ut, gE_uf, gU_true, gU_false, gU_tf, gU_ft, pickv_true, pickv_false, cnd_true, cnd_false, decide_true, decide_false, Bool.not_true, Bool.not_false, pr_not, nilv_some, bp_lss, bp_leq, bp_gtr, bp_geq, be_eql, be_neq, bne_self_eq_false, beq_self_eq_true, ldC_some, Option.isNone_none, Option.isNone_some, hp_drew, fa_100_1, ld_3, hb0, t2_1, bp_add, wrapi (n := (at' : Int) + 1) (by omega) (by omega), st_3 (w := w0) (b := g) (o := 0 + 1) (v := .int .i64 ((at' : Int) + 1)) rfl rfl ok, getC_some, getE_some, e1]
    refine (c_Number x m _ h0 (by omega)).step ?_
    have hp1 : Chg [g] w0 (put w0 g #[.slice A xs.length c, .int .i64 ((at' + 1 : Nat) : Int)] 100) := (Chg.refl _ _).put (.inl (by simp)) _ _
    have hr := Int.emod_nonneg x (b := m) (by omega)
    have hr2 := Int.emod_lt_of_pos x h0
    refine ⟨⟨(x % m).toNat, by rw [Int.toNat_of_nonneg hr], by omega⟩, put_same (blk_lt hb0) _ _, (hc0.mono (by simp)).trans hp1⟩
  have hd : Chg [] w w.drew := (Chg.refl _ _).drew
  by_cases hlt : (at' : Int) < xs.length
  · obtain ⟨q, q1, q2⟩ := (hA.drew.drew).at (P := Try.prog) (c := c) (j := .i64) Try.underlying23 Try.underlying3 sz_3 (i := (at' : Int)) (by omega) hlt
    simp -implicitDefEqProofs only [F50, wpB_some', gd_true, gd_false, gd_tf, gd_ft, gd_ut, gd_uf, gv_true, gv_false, gv_tf, gv_ft, gv_ut, gv_uf, gE_true, gE_false, gE_tf, gE_ft, gE_ut, gE_uf, gU_true, gU_false, gU_tf, gU_ft, pickv_true, pickv_false, cnd_true, cnd_false, decide_true, decide_false, Bool.not_true, Bool.not_false, pr_not, nilv_some, bp_lss, bp_leq, bp_gtr, bp_geq, be_eql, be_neq, bne_self_eq_false, beq_self_eq_true, ldC_some, Option.isNone_none, Option.isNone_some, hp_drew, fa_100_0, fa_100_1, ld_3, ld_23, hb, t2_0, t2_1, len_23, hlt, q1, q2]
    exact fin _ hd.drew _
  · simp -implicitDefEqProofs only [F50, wpB_some', gd_true, gd_false, gd_tf, gd_ft, gd_ut, gd_uf, gv_true, gv_false, gv_tf, gv_ft, gv_ut, gv_uf, gE_true, gE_false, gE_tf, gE_ft, gE_ut, gE_uf, gU_true, gU_false, gU_tf, gU_ft, pickv_true, pickv_false, cnd_true, cnd_false, decide_true, decide_false, Bool.not_true, Bool.not_false, pr_not, nilv_some, bp_lss, bp_leq, bp_gtr, bp_geq, be_eql, be_neq, bne_self_eq_false, beq_self_eq_true, ldC_some, Option.isNone_none, Option.isNone_some, hp_drew, fa_100_0, fa_100_1, ld_3, ld_23, hb, t2_0, t2_1, len_23, hlt]
    exact fin _ hd _
def kindsL : List Int := [1, 1, 2, 2, 2, 3, 3, 5, 5, 5, 6, 7, 7, 8, 9, 6, 4, 10, 10, 11, 11, 12, 0]
theorem c_kinds (w : World) : CallR Try.prog 118 [] w fun v w' => v = .slice (some ⟨w.heap.size, 0, none⟩) 23 23 ∧ hp w' w.heap.size = some (.cells (ints kindsL).toArray 3) ∧ Chg [] w w' := by
  apply F118_ok
  simp -implicitDefEqProofs only [F118, bs_23_23]
  exact ⟨trivial, by rw [alloc_heap, if_pos rfl]; rfl, (Chg.refl _ _).alloc _⟩
theorem kinds_at : ∀ r : Nat, r < 23 → kindsL.getD r 0 = 0 ∨ kindsL.getD r 0 = 1 ∨ kindsL.getD r 0 = 2 ∨ kindsL.getD r 0 = 3 ∨ kindsL.getD r 0 = 4 ∨ kindsL.getD r 0 = 5 ∨ kindsL.getD r 0 = 6 ∨ kindsL.getD r 0 = 7 ∨ kindsL.getD r 0 = 8 ∨ kindsL.getD r 0 = 9 ∨ kindsL.getD r 0 = 10 ∨ kindsL.getD r 0 = 11 ∨ kindsL.getD r 0 = 12 := by decide
/-- a number of a literal slice -/
theorem lit_at {w : World} {g n : Nat} {xs : List Int} (h : hp w g = some (.cells (ints xs).toArray 3)) (hn : n = xs.length) {r : Nat} (hr : r < n) :
    pureRun Try.prog (Instr.indexAt 23 (.slice (some ⟨g, 0, none⟩) n n) (.int .i64 r)) = some (.pointer (some ⟨g, 0 + r * 1, none⟩)) ∧ ldC (hp w g) (0 + r * 1) = some (.int .i64 (xs.getD r 0)) := by
  subst hn
  have := ia_23 (b := g) (p := 0) (c := xs.length) (j := .i64) (i := (r : Int)) (n := xs.length) (by omega) (by omega)
  rw [Int.toNat_natCast] at this
  exact ⟨this, ints_ld h hr⟩
/-- lists of operations, none of them where a number is written -/
def IsL (w : World) (g : Nat) (v : Value) (L : List (List OpV)) : Prop :=
  ∃ A c vs, v = .slice A L.length c ∧ RdV w A vs ∧ vs.length = L.length ∧ (∀ (j : Nat) (x : Value) (ops : List OpV), vs[j]? = some x → L[j]? = some ops → ∃ A' c', x = .slice A' ops.length c' ∧ RdV w A' (ops.flatMap opC) ∧ ∀ p, A' = some p → p.block ≠ g) ∧ ∀ p, A = some p → p.block ≠ g
theorem IsL.keep {w w' : World} {g : Nat} {v : Value} {L : List (List OpV)} (h : IsL w g v L) (hc : Chg [g] w w') : IsL w' g v L := by
  obtain ⟨A, c, vs, rfl, h2, h3, h4, h5⟩ := h
  refine ⟨A, c, vs, rfl, h2.chg hc fun p hp _ => by simpa using h5 p hp, h3, fun j x ops hx ho => ?_, h5⟩
  obtain ⟨A', c', e, h6, h7⟩ := h4 j x ops hx ho
  exact ⟨A', c', e, h6.chg hc fun p hp _ => by simpa using h7 p hp, h7⟩
theorem IsL.list {w : World} {g : Nat} {A : Option Addr} {c : Nat} {L : List (List OpV)} {vs : List Value} (h3 : vs.length = L.length) (h4 : ∀ (j : Nat) (x : Value) (ops : List OpV), vs[j]? = some x → L[j]? = some ops → ∃ A' c', x = .slice A' ops.length c' ∧ RdV w A' (ops.flatMap opC) ∧ ∀ p, A' = some p → p.block ≠ g) {i : Nat} (hi : i < L.length) :
    ∃ A' c', vs[i]? = some (.slice A' (L[i]).length c') ∧ RdV w A' ((L[i]).flatMap opC) := by
  obtain ⟨x, hx⟩ : ∃ x, vs[i]? = some x := ⟨_, List.getElem?_eq_getElem (by omega)⟩
  obtain ⟨A', c', e, hO, _⟩ := h4 i x L[i] hx (List.getElem?_eq_getElem hi)
  exact ⟨A', c', by rw [hx, e], hO⟩
/-- operations that only name others -/
def NameO (o : OpV) : Prop := 0 ≤ o.2.1 ∧ o.2.1 ≤ 63 ∧ 0 ≤ o.2.2.1 ∧ o.2.2.1 ≤ 999
def tot : List (List OpV) → Nat
  | [] => 0
  | l :: L => l.length + tot L
theorem tot_take_succ {L : List (List OpV)} {i : Nat} (h : i < L.length) : tot (L.take (i + 1)) = tot (L.take i) + (L[i]).length := by
  induction L generalizing i with
  | nil => simp at h
  | cons x xs ih =>
    cases i with
    | zero => simp [tot]
    | succ i =>
      have := ih (i := i) (by simpa using h)
      simp [tot, this]; omega
theorem tot_take_le (L : List (List OpV)) (i : Nat) : tot (L.take i) ≤ tot L := by
  induction L generalizing i with
  | nil => simp [tot]
  | cons x xs ih =>
    cases i with
    | zero => simp [tot]
    | succ i => have := ih i; simp [tot]; omega
/-- the answers so far -/
structure AtI (W w : World) (x : Value) (R : List OpV) : Prop where
  own : w.ownsRow W.heap.size 40 6 x R.length (R.flatMap opC)
  ok : ∀ o ∈ R, NameO o
  ch : Chg [] W w
set_option maxHeartbeats 1000000 in
theorem l_at1 {W : World} {A : Option Addr} {c : Nat} {vs : List Value} {L : List (List OpV)} (hL : L.length ≤ 64) (hll : ∀ l ∈ L, l.length ≤ 1000) (hT : tot L ≤ 100000) (h2 : RdV W A vs) (h3 : vs.length = L.length) {i : Nat} (hi : i < L.length) {A' : Option Addr} {c' : Nat} (hx : vs[i]? = some (.slice A' (L[i]).length c')) (hA' : RdV W A' ((L[i]).flatMap opC)) {kd : Int} {Q : Value → World → Prop}
    (next : ∀ w x R, AtI W w x R → R.length ≤ tot (L.take (i + 1)) → P119_0 (.slice A L.length c) (.int .i64 kd) x (.int .i64 ((i : Int) + 1)) w Q) :
    ∀ (d j : Nat) (w : World) (x : Value) (R : List OpV), AtI W w x R → R.length ≤ tot (L.take i) + j → j + d = (L[i]).length →
      P119_1 (.slice A L.length c) (.int .i64 kd) x (.int .i64 i) (.int .i64 j) w Q := by
  have hmem : L[i] ∈ L := List.getElem_mem hi
  have hl := hll _ hmem
  have ht := tot_take_le L (i + 1)
  rw [tot_take_succ hi] at ht
  intro d
  induction d with
  | zero =>
    intro j w x R h hR hj
    apply L119_1_ok
    obtain ⟨b, o, q1, q2⟩ := val_at (c := c) (j := .i64) (h2.keep h.ch.below) h3 hx
    have : ¬ (j : Int) < (L[i]).length := by omega
    simp -implicitDefEqProofs only [L119_1, wpB_some', gd_true, gd_false, gd_tf, gd_ft, gd_ut, gd_uf, gv_true, gv_false, gv_tf, gv_ft, gv_ut, gv_uf, gE_true, gE_false, gE_tf, gE_ft, gE_ut, gE_uf, gU_true, gU_false, gU_tf, gU_ft, pickv_true, pickv_false, cnd_true, cnd_false, decide_true, decide_false, Bool.not_true, Bool.not_false, pr_not, nilv_some, bp_lss, bp_leq, bp_gtr, bp_geq, be_eql, be_neq, bne_self_eq_false, beq_self_eq_true, ldC_some, Option.isNone_none, Option.isNone_some, hp_drew, q1, ld_27, q2, len_27, this, bp_add, wrapi (n := (i : Int) + 1) (by omega) (by omega)]
    exact next w x R h (by rw [tot_take_succ hi]; omega)
  | succ d ih =>
    intro j w x R h hR hj
    apply L119_1_ok
    obtain ⟨b, o, q1, q2⟩ := val_at (c := c) (j := .i64) (h2.keep h.ch.below) h3 hx
    have hlt : (j : Int) < (L[i]).length := by omega
    have hjl : j < (L[i]).length := by omega
    obtain ⟨b2, o2, r1, r2, r3, _⟩ := (hA'.keep h.ch.below).elem (P := Try.prog) (c := c') (n := (L[i]).length) (i := (j : Int)) (j := .i64) Try.underlying27 sz_40 (by omega) (by rw [flat_len opC_len]; exact Nat.le_refl _) (by omega) hlt
    have r0 := r2 0 (by omega)
    rw [Int.toNat_natCast, flat_get opC_len (L[i]) j hjl 0 (by omega)] at r0
    have r0 : ldC (hp w b2) (o2 + 0) = some (.int .i64 (L[i])[j].1) := r0
    have two : ∀ w' x' R', AtI W w' x' R' → R'.length ≤ R.length + 1 → P119_2 (.slice A L.length c) (.int .i64 kd) x' (.int .i64 i) (.int .i64 j) w' Q := fun w' x' R' h' hR' => by
      apply L119_2_ok
      simp -implicitDefEqProofs only [L119_2, wpB_some', gd_true, gd_false, gd_tf, gd_ft, gd_ut, gd_uf, gv_true, gv_false, gv_tf, gv_ft, gv_ut, gv_uf, gE_true, gE_false, gE_tf, gE_ft, gE_ut, gE_uf, gU_true, gU_false, gU_tf, gU_ft, pickv_true, pickv_false, cnd_true, cnd_false, decide_true, decide_false, Bool.not_true, Bool.not_false, pr_not, nilv_some, bp_lss, bp_leq, bp_gtr, bp_geq, be_eql, be_neq, bne_self_eq_false, beq_self_eq_true, ldC_some, Option.isNone_none, Option.isNone_some, hp_drew, bp_add, wrapi (n := (j : Int) + 1) (by omega) (by omega)]
      have := ih (j + 1) w' x' R' h' (by omega) (by omega)
      rw [Int.natCast_add j 1] at this
      exact this
    by_cases hk : (L[i])[j].1 = kd
    · have hk' : ((L[i])[j].1 == kd) = true := by rw [hk]; simp
      have hbd : pureRun Try.prog (Instr.build 40 #[(1, .int .i64 i), (2, .int .i64 j)]) = some (.agg (opC (0, (i : Int), (j : Int), 0, 0, 0)).toArray) := bd_40_1_2
      simp -implicitDefEqProofs only [L119_1, wpB_some', gd_true, gd_false, gd_tf, gd_ft, gd_ut, gd_uf, gv_true, gv_false, gv_tf, gv_ft, gv_ut, gv_uf, gE_true, gE_false, gE_tf, gE_ft, gE_ut, gE_uf, gU_true, gU_false, gU_tf, gU_ft, pickv_true, pickv_false, cnd_true, cnd_false, decide_true, decide_false, Bool.not_true, Bool.not_false, pr_not, nilv_some, bp_lss, bp_leq, bp_gtr, bp_geq, be_eql, be_neq, bne_self_eq_false, beq_self_eq_true, ldC_some, Option.isNone_none, Option.isNone_some, hp_drew, q1, ld_27, q2, len_27, hlt, r1, fa_40_0, ld_3, r0, hk', hbd]
      refine ps_27 (fun u hu => List.all_eq_true.1 (show (opC (0, (i : Int), (j : Int), 0, 0, 0)).all (·.oneCell') = true from rfl) u hu) h.own (by omega) h.ch.size fun x' w' ho hg hnb => ?_
      refine two w' x' (R ++ [(0, (i : Int), (j : Int), 0, 0, 0)]) ⟨by rw [List.length_append, flat_snoc]; exact ho, fun o ho => ?_, h.ch.grown hg fun k hk => .inr (h.own.lt k hk).1⟩ (by simp)
      rcases List.mem_append.1 ho with h1 | h1
      · exact h.ok o h1
      · simp at h1; subst h1
        exact ⟨by simp only; omega, by simp only; omega, by simp only; omega, by simp only; omega⟩
    · simp -implicitDefEqProofs only [L119_1, wpB_some', gd_true, gd_false, gd_tf, gd_ft, gd_ut, gd_uf, gv_true, gv_false, gv_tf, gv_ft, gv_ut, gv_uf, gE_true, gE_false, gE_tf, gE_ft, gE_ut, gE_uf, gU_true, gU_false, gU_tf, gU_ft, pickv_true, pickv_false, cnd_true, cnd_false, decide_true, decide_false, Bool.not_true, Bool.not_false, pr_not, nilv_some, bp_lss, bp_leq, bp_gtr, bp_geq, be_eql, be_neq, bne_self_eq_false, beq_self_eq_true, ldC_some, Option.isNone_none, Option.isNone_some, hp_drew, q1, ld_27, q2, len_27, hlt, r1, fa_40_0, ld_3, r0, eqf hk]
      exact two w x R h (by omega)
theorem c_at {w : World} {g : Nat} {v : Value} {L : List (List OpV)} (h : IsL w g v L) (hL : L.length ≤ 64) (hll : ∀ l ∈ L, l.length ≤ 1000) (hT : tot L ≤ 100000) (kd : Int) :
    CallR Try.prog 119 [v, .int .i64 kd] w fun r w' => ∃ R, AtI w w' r R ∧ R.length ≤ 100000 := by
  obtain ⟨A, c, vs, rfl, h2, h3, h4, h5⟩ := h
  apply F119_ok
  simp -implicitDefEqProofs only [F119]
  have main : ∀ (d i : Nat) (w1 : World) (x : Value) (R : List OpV), AtI w w1 x R → R.length ≤ tot (L.take i) → i + d = L.length →
      P119_0 (.slice A L.length c) (.int .i64 kd) x (.int .i64 i) w1 fun r w' => ∃ R, AtI w w' r R ∧ R.length ≤ 100000 := by
    intro d
    induction d with
    | zero =>
      intro i w1 x R h1 hR hi
      apply L119_0_ok
      have : ¬ (i : Int) < L.length := by omega
      simp -implicitDefEqProofs only [L119_0, wpB_some', gd_true, gd_false, gd_tf, gd_ft, gd_ut, gd_uf, gv_true, gv_false, gv_tf, gv_ft, gv_ut, gv_uf, gE_true, gE_false, gE_tf, gE_ft, gE_ut, gE_uf, gU_true, gU_false, gU_tf, gU_ft, pickv_true, pickv_false, cnd_true, cnd_false, decide_true, decide_false, Bool.not_true, Bool.not_false, pr_not, nilv_some, bp_lss, bp_leq, bp_gtr, bp_geq, be_eql, be_neq, bne_self_eq_false, beq_self_eq_true, ldC_some, Option.isNone_none, Option.isNone_some, hp_drew, len_22, this]
      exact ⟨R, h1, by have := tot_take_le L i; omega⟩
    | succ d ih =>
      intro i w1 x R h1 hR hi
      apply L119_0_ok
      have hlt : (i : Int) < L.length := by omega
      have hil : i < L.length := by omega
      obtain ⟨A', c', hx, hO⟩ := IsL.list (A := A) (c := c) h3 h4 hil
      simp -implicitDefEqProofs only [L119_0, wpB_some', gd_true, gd_false, gd_tf, gd_ft, gd_ut, gd_uf, gv_true, gv_false, gv_tf, gv_ft, gv_ut, gv_uf, gE_true, gE_false, gE_tf, gE_ft, gE_ut, gE_uf, gU_true, gU_false, gU_tf, gU_ft, pickv_true, pickv_false, cnd_true, cnd_false, decide_true, decide_false, Bool.not_true, Bool.not_false, pr_not, nilv_some, bp_lss, bp_leq, bp_gtr, bp_geq, be_eql, be_neq, bne_self_eq_false, beq_self_eq_true, ldC_some, Option.isNone_none, Option.isNone_some, hp_drew, len_22, hlt]
      refine l_at1 (c := c) hL hll hT h2 h3 hil hx hO (fun w2 x2 R2 h2' hR2 => ?_) (L[i]).length 0 w1 x R h1 (by omega) (by omega)
      have := ih (i + 1) w2 x2 R2 h2' hR2 (by omega)
      rw [Int.natCast_add i 1] at this
      exact this
  exact main L.length 0 w _ [] ⟨World.ownsRow_nil _ _ _ _, fun o ho => by simp at ho, Chg.refl _ _⟩ (by simp) (by omega)
end Go.Proofs.Ytgamnncehjcdiaa
