/- Scripts made of numbers (rundalemake): what is written into them. -/
import Derived.Test.YtgamnncehjcdiaaVd
namespace Go.Proofs.Ytgamnncehjcdiaa
open Go Ev Go.RowKit
set_option linter.unusedSimpArgs false
set_option linter.unusedVariables false
set_option maxRecDepth 10000

/-- all the lists' blocks lie below -/
def LLt (hi B : Nat) (vs : List Value) : Prop := B < hi ∧ ∀ (j : Nat) (x : Value) (k : Nat), vs[j]? = some x → x.ownBlock = some k → k < hi
theorem LL.lt {w : World} {B : Nat} {vs : List Value} {L : List (List OpV)} (h : LL w B vs L) : LLt w.heap.size B vs :=
  ⟨blk_lt h.hb, fun j x k hx hk => by
    obtain ⟨os, hos⟩ : ∃ os, L[j]? = some os := ⟨_, List.getElem?_eq_getElem (by have := (List.getElem?_eq_some_iff.1 hx).1; have := h.len; omega)⟩
    exact ((h.own j x os hx hos).lt k hk).2⟩
theorem LL.keepT {w w' : World} {B hi : Nat} {vs : List Value} {L : List (List OpV)} (h : LL w B vs L) (ht : LLt hi B vs) {S : List Nat} (hc : Chg S w w') (hS : ∀ k ∈ S, k < B ∨ hi ≤ k) : LL w' B vs L :=
  ⟨hc.at h.hb (fun hm => by have := hS _ hm; have := ht.1; omega), h.len, fun j x ops hx ho => ownsRow_chg (h.own j x ops hx ho) hc fun k hk hm => by have := ((h.own j x ops hx ho).lt k hk).1; have := hS _ hm; have := ht.2 j x k hx hk; omega, h.dis⟩
theorem LL.sls {w : World} {B : Nat} {vs : List Value} {L : List (List OpV)} (h : LL w B vs L) : ∀ (j : Nat) (x : Value) (ops : List OpV), vs[j]? = some x → L[j]? = some ops → SlO w x ops := fun j x ops hx ho => by
  obtain ⟨A, c, h1, h2, _⟩ := rdV_of_own (h.own j x ops hx ho)
  exact ⟨A, c, h1, h2⟩
/-- an operation is written in place -/
theorem LL.putO {w : World} {B : Nat} {vs : List Value} {L : List (List OpV)} (h : LL w B vs L) {i : Nat} {x : Value} {ops : List OpV} (hx : vs[i]? = some x) (ho : L[i]? = some ops) {j : Nat} (hj : j < ops.length) (o' : OpV) :
    ∃ g, x.ownBlock = some g ∧ B < g ∧ pureRun Try.prog (Instr.indexAt 27 x (.int .i64 (j : Int))) = some (.pointer (some ⟨g, j * 6, none⟩)) ∧ ldC (hp w g) (j * 6 + 0) = some (.int .i64 ops[j].1) ∧ okC (hp w g) (j * 6 + 6) = true ∧
      LL (put w g (setL (getC (hp w g)) (j * 6) (opC o')) (getE (hp w g))) B vs (L.set i (ops.set j o')) := by
  have hown := h.own i x ops hx ho
  obtain ⟨g, c, e, hg, q1, q2, q3, q4⟩ := own_elem (P := Try.prog) (i := (j : Int)) (j := .i64) hown Try.underlying27 sz_40 (by omega) (by omega)
  rw [Int.toNat_natCast] at q1 q2 q3 q4
  have hgB := (hown.lt g hg).1
  obtain ⟨p1, p2⟩ := ownsRow_put (vs := opC o') hown hg (o := j * 6) (by simpa [opC] using q4)
  have hf := flat_part opC_len o' 0 (opC o') (by simp [opC]) ops j hj (by simp [opC])
  rw [Nat.add_zero] at hf
  rw [hf] at p1
  have hgB0 : (opC o').length = 6 := rfl
  rw [hgB0] at p2
  have q20 := q2 0 (by omega)
  rw [flat_get opC_len ops j hj 0 (by omega)] at q20
  have cp : Chg [g] w (put w g (setL (getC (hp w g)) (j * 6) (opC o')) (getE (hp w g))) := (Chg.refl _ _).put (.inl (by simp)) _ _
  refine ⟨g, hg, by omega, q1, q20, p2, ⟨cp.at h.hb (by simp; omega), by simp [h.len], fun a y os hy hos => ?_, h.dis⟩⟩
  rcases getElem?_set' hos with ⟨rfl, rfl⟩ | ⟨hne, hos⟩
  · rw [hx] at hy; cases hy
    rw [List.length_set]; exact p1
  · exact ownsRow_chg (h.own a y os hy hos) cp fun k hk hm => h.dis a i y x k (Ne.symm hne) hy hx hk (by simp at hm; subst hm; exact hg)
theorem tot_setO {L : List (List OpV)} {i : Nat} {ops : List OpV} (h : L[i]? = some ops) (j : Nat) (o : OpV) : tot (L.set i (ops.set j o)) = tot L := by
  induction L generalizing i with
  | nil => simp at h
  | cons x xs ih =>
    cases i with
    | zero => simp at h; subst h; simp [tot]
    | succ i => have := ih (i := i) (by simpa using h); simp [tot, this]
def m256 (ys : List Int) : List Int := ys.map (· % 256)
/-- the variables of the making -/
structure MI (W w : World) (g6 g8 B n : Nat) (vs : List Value) (L : List (List OpV)) (x : Value) (zs : List Int) : Prop where
  h6 : hp w g6 = some (.cells #[nilS, nilS] 25)
  h8 : hp w g8 = some (.cells #[.slice (some ⟨B, 0, none⟩) n n, x] 25)
  ll : LL w B vs L
  lt : LLt g8 B vs
  own : w.ownsRow (g8 + 1) 3 1 x zs.length (ints zs)
  gen : ∀ ops ∈ L, ∀ o ∈ ops, GenO o
  n : L.length = n
  g6B : g6 < B
  g6W : W.heap.size ≤ g6
  tt : tot L ≤ 40
  ch : Chg [] W w
/-- what is made may be -/
def MadeP (W : World) (n : Nat) (zs : List Int) (v : Value) (w' : World) : Prop := ∃ L, IsS w' v (L, zs) ∧ (∀ ops ∈ L, ∀ o ∈ ops, mayO o = true ∧ WfO' o) ∧ L.length = n ∧ tot L ≤ 40 ∧ Chg [] W w'
def o11 : OpV := (11, 0, 0, 0, 0, 0)
theorem o11_ok : mayO o11 = true ∧ WfO' o11 := ⟨by decide, ⟨⟨Int.le_refl 0, by show (0 : Int) < _; omega⟩, Int.le_refl 0, by show (0 : Int) < _; omega⟩⟩
section
variable {W : World} {g6 g8 B n : Nat} {vs : List Value} {x : Value} {zs : List Int}
set_option maxHeartbeats 4000000 in
theorem l_fix1 {i : Nat} (hn : n ≤ 64) (hi : i < n)
    (next : ∀ w L, MI W w g6 g8 B n vs L x zs → (∀ a, a < i + 1 → ∀ ops, L[a]? = some ops → ∀ o ∈ ops, mayO o = true ∧ WfO' o) → P21_2 (.pointer (some ⟨g6, 0, none⟩)) (.pointer (some ⟨g8, 0, none⟩)) (.int .i64 ((i : Int) + 1)) w (MadeP W n zs)) :
    ∀ (d j : Nat) (w : World) (L : List (List OpV)) (ops : List OpV), MI W w g6 g8 B n vs L x zs → (∀ a, a < i → ∀ ops, L[a]? = some ops → ∀ o ∈ ops, mayO o = true ∧ WfO' o) → L[i]? = some ops → (∀ b, b < j → ∀ o, ops[b]? = some o → mayO o = true ∧ WfO' o) → j + d = ops.length →
      P21_3 (.pointer (some ⟨g6, 0, none⟩)) (.pointer (some ⟨g8, 0, none⟩)) (.int .i64 i) (.int .i64 j) w (MadeP W n zs) := by
  intro d
  induction d with
  | zero =>
    intro j w L ops h hd hops hj1 hj
    apply L21_3_ok
    have hvl := h.ll.len
    have hLn := h.n
    obtain ⟨y, hy⟩ : ∃ y, vs[i]? = some y := ⟨_, List.getElem?_eq_getElem (by omega)⟩
    have ia := ia_22 (b := B) (p := 0) (n := n) (c := n) (j := .i64) (i := (i : Int)) (by omega) (by omega)
    rw [Int.toNat_natCast] at ia
    have ldy : ldC (hp w B) (0 + i * 1) = some y := by rw [h.ll.hb, ldC_some, Nat.mul_one, Nat.zero_add]; simpa using hy
    obtain ⟨A', c', rfl, _⟩ := rdV_of_own (h.ll.own i y ops hy hops)
    have : ¬ (j : Int) < ops.length := by omega
    simp -implicitDefEqProofs only [L21_3, wpB_some', gd_true, gd_false, gd_tf, gd_ft, gd_ut, gd_uf, gv_true, gv_false, gv_tf, gv_ft, gv_ut, gv_uf, gE_true, gE_false, gE_tf, gE_ft, gE_ut, gE_uf, gU_true, gU_false, gU_tf, gU_ft, pickv_true, pickv_false, cnd_true, cnd_false, decide_true, decide_false, Bool.not_true, Bool.not_false, pr_not, nilv_some, bp_lss, bp_leq, bp_gtr, bp_geq, be_eql, be_neq, bne_self_eq_false, beq_self_eq_true, ldC_some, Option.isNone_none, Option.isNone_some, hp_drew, fa_25_0, ld_22, h.h8, t2_0, ia, ld_27, ldy, len_27, this, bp_add, wrapi (n := (i : Int) + 1) (by omega) (by omega)]
    refine next w L h fun a ha os hos o ho => ?_
    rcases Nat.lt_or_ge a i with h1 | h1
    · exact hd a h1 os hos o ho
    · have : a = i := by omega
      subst this
      rw [hops] at hos; cases hos
      obtain ⟨b, hb⟩ := List.getElem?_of_mem ho
      exact hj1 b (by have := (List.getElem?_eq_some_iff.1 hb).1; omega) o hb
  | succ d ih =>
    intro j w L ops h hd hops hj1 hj
    apply L21_3_ok
    have hvl := h.ll.len
    have hLn := h.n
    have hmem : ops ∈ L := List.mem_of_getElem? hops
    have htg := tot_ge hmem
    have htt := h.tt
    obtain ⟨y, hy⟩ : ∃ y, vs[i]? = some y := ⟨_, List.getElem?_eq_getElem (by omega)⟩
    have ia := ia_22 (b := B) (p := 0) (n := n) (c := n) (j := .i64) (i := (i : Int)) (by omega) (by omega)
    rw [Int.toNat_natCast] at ia
    have ldy : ldC (hp w B) (0 + i * 1) = some y := by rw [h.ll.hb, ldC_some, Nat.mul_one, Nat.zero_add]; simpa using hy
    have hjl : j < ops.length := by omega
    obtain ⟨g, hg, hgB, q1, q2, q3, q4⟩ := h.ll.putO hy hops hjl o11
    obtain ⟨A', c', rfl, _⟩ := rdV_of_own (h.ll.own i y ops hy hops)
    have hlt : (j : Int) < ops.length := by omega
    have four : ∀ w' L' ops', MI W w' g6 g8 B n vs L' x zs → (∀ a, a < i → ∀ ops, L'[a]? = some ops → ∀ o ∈ ops, mayO o = true ∧ WfO' o) → L'[i]? = some ops' → (∀ b, b < j + 1 → ∀ o, ops'[b]? = some o → mayO o = true ∧ WfO' o) → ops'.length = ops.length →
        P21_4 (.pointer (some ⟨g6, 0, none⟩)) (.pointer (some ⟨g8, 0, none⟩)) (.int .i64 i) (.int .i64 j) w' (MadeP W n zs) := fun w' L' ops' h' hd' ho' hj' hl' => by
      apply L21_4_ok
      simp -implicitDefEqProofs only [L21_4, wpB_some', gd_true, gd_false, gd_tf, gd_ft, gd_ut, gd_uf, gv_true, gv_false, gv_tf, gv_ft, gv_ut, gv_uf, gE_true, gE_false, gE_tf, gE_ft, gE_ut, gE_uf, gU_true, gU_false, gU_tf, gU_ft, pickv_true, pickv_false, cnd_true, cnd_false, decide_true, decide_false, Bool.not_true, Bool.not_false, pr_not, nilv_some, bp_lss, bp_leq, bp_gtr, bp_geq, be_eql, be_neq, bne_self_eq_false, beq_self_eq_true, ldC_some, Option.isNone_none, Option.isNone_some, hp_drew, bp_add, wrapi (n := (j : Int) + 1) (by omega) (by omega)]
      have := ih (j + 1) w' L' ops' h' hd' ho' hj' (by omega)
      rw [Int.natCast_add j 1] at this
      exact this
    by_cases hk : ops[j].1 = 0
    · have hk' : (ops[j].1 == 0) = true := by rw [hk]; rfl
      have hbd : pureRun Try.prog (Instr.build 40 #[(0, .int .i64 11)]) = some (.agg (opC o11).toArray) := bd_40_0
      simp -implicitDefEqProofs only [L21_3, wpB_some', gd_true, gd_false, gd_tf, gd_ft, gd_ut, gd_uf, gv_true, gv_false, gv_tf, gv_ft, gv_ut, gv_uf, gE_true, gE_false, gE_tf, gE_ft, gE_ut, gE_uf, gU_true, gU_false, gU_tf, gU_ft, pickv_true, pickv_false, cnd_true, cnd_false, decide_true, decide_false, Bool.not_true, Bool.not_false, pr_not, nilv_some, bp_lss, bp_leq, bp_gtr, bp_geq, be_eql, be_neq, bne_self_eq_false, beq_self_eq_true, ldC_some, Option.isNone_none, Option.isNone_some, hp_drew, fa_25_0, ld_22, h.h8, t2_0, ia, ld_27, ldy, len_27, hlt, q1, fa_40_0, ld_3, q2, hk', hbd]
      rw [effu_store (v := .agg (opC o11).toArray) sz_40 rfl rfl (by decide) q3]
      have n6 := h.g6B
      have n8 : g < g8 := h.lt.2 i _ g hy hg
      have cp : Chg [g] w (put w g (setL (getC (hp w g)) (j * 6) (opC o11)) (getE (hp w g))) := (Chg.refl _ _).put (.inl (by simp)) _ _
      refine four _ (L.set i (ops.set j o11)) (ops.set j o11) ⟨cp.at h.h6 (by simp; omega), cp.at h.h8 (by simp; omega), q4, h.lt, ownsRow_chg h.own cp fun k hk => by have := (h.own.lt k hk).1; simp; omega, fun os hos o ho => ?_, by simpa using h.n, h.g6B, h.g6W, by rw [tot_setO hops]; exact h.tt, h.ch.put (.inr (by have := h.g6W; omega)) _ _⟩ (fun a ha os hos => ?_) (by rw [List.getElem?_set_self (by omega)]) (fun b hb o ho => ?_) (by simp)
      · rcases List.mem_or_eq_of_mem_set hos with h1 | h1
        · exact h.gen os h1 o ho
        · subst h1
          rcases List.mem_or_eq_of_mem_set ho with h2 | h2
          · exact h.gen ops hmem o h2
          · subst h2; exact ⟨.inr o11_ok.1, o11_ok.2⟩
      · rw [List.getElem?_set_ne (by omega)] at hos
        exact hd a ha os hos
      · rcases getElem?_set' ho with ⟨_, rfl⟩ | ⟨hne, ho⟩
        · exact o11_ok
        · exact hj1 b (by omega) o ho
    · simp -implicitDefEqProofs only [L21_3, wpB_some', gd_true, gd_false, gd_tf, gd_ft, gd_ut, gd_uf, gv_true, gv_false, gv_tf, gv_ft, gv_ut, gv_uf, gE_true, gE_false, gE_tf, gE_ft, gE_ut, gE_uf, gU_true, gU_false, gU_tf, gU_ft, pickv_true, pickv_false, cnd_true, cnd_false, decide_true, decide_false, Bool.not_true, Bool.not_false, pr_not, nilv_some, bp_lss, bp_leq, bp_gtr, bp_geq, be_eql, be_neq, bne_self_eq_false, beq_self_eq_true, ldC_some, Option.isNone_none, Option.isNone_some, hp_drew, fa_25_0, ld_22, h.h8, t2_0, ia, ld_27, ldy, len_27, hlt, q1, fa_40_0, ld_3, q2, eqf hk]
      refine four w L ops h hd hops (fun b hb o ho => ?_) rfl
      rcases Nat.lt_or_ge b j with h1 | h1
      · exact hj1 b h1 o ho
      · have : b = j := by omega
        subst this
        rw [List.getElem?_eq_getElem hjl] at ho; cases ho
        have := h.gen ops hmem ops[b] (List.getElem_mem _)
        rcases this.1 with e | e
        · rw [e] at hk; exact absurd rfl hk
        · exact ⟨e, this.2⟩
set_option maxHeartbeats 4000000 in
theorem l_fix (hn : n ≤ 64) : ∀ (d i : Nat) (w : World) (L : List (List OpV)), MI W w g6 g8 B n vs L x zs → (∀ a, a < i → ∀ ops, L[a]? = some ops → ∀ o ∈ ops, mayO o = true ∧ WfO' o) → i + d = n →
      P21_2 (.pointer (some ⟨g6, 0, none⟩)) (.pointer (some ⟨g8, 0, none⟩)) (.int .i64 i) w (MadeP W n zs) := by
  intro d
  induction d with
  | zero =>
    intro i w L h hd hi
    apply L21_2_ok
    have : ¬ (i : Int) < n := by omega
    simp -implicitDefEqProofs only [L21_2, wpB_some', gd_true, gd_false, gd_tf, gd_ft, gd_ut, gd_uf, gv_true, gv_false, gv_tf, gv_ft, gv_ut, gv_uf, gE_true, gE_false, gE_tf, gE_ft, gE_ut, gE_uf, gU_true, gU_false, gU_tf, gU_ft, pickv_true, pickv_false, cnd_true, cnd_false, decide_true, decide_false, Bool.not_true, Bool.not_false, pr_not, nilv_some, bp_lss, bp_leq, bp_gtr, bp_geq, be_eql, be_neq, bne_self_eq_false, beq_self_eq_true, ldC_some, Option.isNone_none, Option.isNone_some, hp_drew, fa_25_0, ld_22, h.h8, t2_0, len_22, this, ldv_whole (t := 25) (c := #[.slice (some ⟨B, 0, none⟩) n n, x]) ag_25 sz_25 h.h8]
    have hLn := h.n
    obtain ⟨A', c', rfl, hr, _⟩ := rdV_of_own h.own
    rw [st_25 (by rfl) (by rfl) (by rw [h.h6]; rfl) (by rw [h.h6]; rfl), h.h6, getE_some]
    have h66 : hp (put w g6 #[.slice (some ⟨B, 0, none⟩) n n, .slice A' zs.length c'] 25) g6 = some (.cells #[.slice (some ⟨B, 0, none⟩) n n, .slice A' zs.length c'] 25) := put_same (blk_lt h.h6) _ _
    rw [ldv_whole (t := 25) (c := #[.slice (some ⟨B, 0, none⟩) n n, .slice A' zs.length c']) ag_25 sz_25 h66, wpB_some']
    have cp : Chg [g6] w (put w g6 #[.slice (some ⟨B, 0, none⟩) n n, .slice A' zs.length c'] 25) := (Chg.refl _ _).put (.inl (by simp)) _ _
    have n6 := h.g6B
    have nB := h.lt.1
    have l2 := h.ll.keep cp (fun k hk => by simp at hk; omega)
    have il := l2.il (q := g6) n6 h.n.symm
    refine ⟨L, ⟨some ⟨B, 0, none⟩, n, vs, .slice A' zs.length c', by rw [h.n], ?_, h.ll.len, l2.sls, A', c', rfl, ?_⟩, fun ops hops o ho => ?_, h.n, h.tt, h.ch.put (.inr h.g6W) _ _⟩
    · obtain ⟨A1, c1, vs1, e1, r1, r2, _⟩ := il
      intro a u hu
      refine ⟨_, rfl, ?_⟩
      have hj' := (List.getElem?_eq_some_iff.1 hu).1
      rw [addr_add, cell_ldC, l2.hb, ldC_some]
      simp [← hu]
    · have := rd_of_own h.own
      obtain ⟨_, A2, c2, e2, r2, _⟩ := this
      cases e2
      exact RdI.chg r2 cp fun p hp => by
        have := (h.own.lt p.block (by rw [hp]; rfl)).1
        simp; omega
    · obtain ⟨a, ha⟩ := List.getElem?_of_mem hops
      exact hd a (by have := (List.getElem?_eq_some_iff.1 ha).1; omega) ops ha o ho
  | succ d ih =>
    intro i w L h hd hi
    apply L21_2_ok
    have hlt : (i : Int) < n := by omega
    simp -implicitDefEqProofs only [L21_2, wpB_some', gd_true, gd_false, gd_tf, gd_ft, gd_ut, gd_uf, gv_true, gv_false, gv_tf, gv_ft, gv_ut, gv_uf, gE_true, gE_false, gE_tf, gE_ft, gE_ut, gE_uf, gU_true, gU_false, gU_tf, gU_ft, pickv_true, pickv_false, cnd_true, cnd_false, decide_true, decide_false, Bool.not_true, Bool.not_false, pr_not, nilv_some, bp_lss, bp_leq, bp_gtr, bp_geq, be_eql, be_neq, bne_self_eq_false, beq_self_eq_true, ldC_some, Option.isNone_none, Option.isNone_some, hp_drew, fa_25_0, ld_22, h.h8, t2_0, len_22, hlt]
    have hLn := h.n
    refine l_fix1 hn (by omega) (fun w' L' h' hd' => ?_) L[i].length 0 w L L[i] h hd (List.getElem?_eq_getElem (by omega)) (fun b hb => by omega) (by omega)
    have := ih (i + 1) w' L' h' hd' (by omega)
    rw [Int.natCast_add i 1] at this
    exact this
end
end Go.Proofs.Ytgamnncehjcdiaa
