/- Operations out of numbers (rundalemake): the lists. -/
import Derived.Test.YtgamnncehjcdiaaVc
import Derived.Test.YtgamnncehjcdiaaDg
namespace Go.Proofs.Ytgamnncehjcdiaa
open Go Ev Go.RowKit
set_option linter.unusedSimpArgs false
set_option linter.unusedVariables false
set_option maxRecDepth 10000

/-- the lists, made so far -/
structure LL (w : World) (B : Nat) (vs : List Value) (L : List (List OpV)) : Prop where
  hb : hp w B = some (.cells vs.toArray 27)
  len : vs.length = L.length
  own : ∀ (j : Nat) (x : Value) (ops : List OpV), vs[j]? = some x → L[j]? = some ops → w.ownsRow (B + 1) 40 6 x ops.length (ops.flatMap opC)
  dis : ∀ (i j : Nat) (x y : Value) (k : Nat), i ≠ j → vs[i]? = some x → vs[j]? = some y → x.ownBlock = some k → y.ownBlock = some k → False
theorem LL.keep {w w' : World} {B : Nat} {vs : List Value} {L : List (List OpV)} (h : LL w B vs L) {S : List Nat} (hc : Chg S w w') (hS : ∀ k ∈ S, k < B) : LL w' B vs L :=
  ⟨hc.at h.hb (fun hm => by have := hS _ hm; omega), h.len, fun j x ops hx ho => ownsRow_chg (h.own j x ops hx ho) hc fun k hk hm => by have := ((h.own j x ops hx ho).lt k hk).1; have := hS _ hm; omega, h.dis⟩
theorem LL.il {w : World} {B : Nat} {vs : List Value} {L : List (List OpV)} (h : LL w B vs L) {q n : Nat} (hq : q < B) (hn : n = L.length) : IsL w q (.slice (some ⟨B, 0, none⟩) n n) L := by
  subst hn
  refine ⟨_, _, vs, rfl, fun j u hj => ⟨_, rfl, ?_⟩, h.len, fun j x ops hx ho => ?_, fun p hp => by cases hp; simp; omega⟩
  · have hj' := (List.getElem?_eq_some_iff.1 hj).1
    rw [← hj, addr_add]
    show w.cell? ⟨B, 0 + j, none⟩ = _
    rw [cell_ldC, h.hb, ldC_some]
    simp
  · obtain ⟨A', c', e1, e2, e3, _⟩ := rdV_of_own (h.own j x ops hx ho)
    exact ⟨A', c', e1, e2, fun p hp => by have := (e3 p hp).1; omega⟩
theorem getElem?_set' {α : Type} {l : List α} {i j : Nat} {a b : α} (h : (l.set i a)[j]? = some b) : (i = j ∧ a = b) ∨ (i ≠ j ∧ l[j]? = some b) := by
  rw [List.getElem?_set] at h
  split at h
  · split at h
    · rename_i e _; cases h; exact .inl ⟨e, rfl⟩
    · cases h
  · rename_i e; exact .inr ⟨e, h⟩
theorem LL.push {w w' : World} {B : Nat} {vs : List Value} {L : List (List OpV)} (h : LL w B vs L) {i : Nat} {x x' : Value} {ops : List OpV} (hx : vs[i]? = some x) (ho : L[i]? = some ops) (o : OpV) (hx' : w'.ownsRow (B + 1) 40 6 x' (ops.length + 1) (ops.flatMap opC ++ opC o)) (hg : w.grownBy w' x.ownBlock) (hn : NewB w x x') :
    LL (put w' B (vs.set i x').toArray 27) B (vs.set i x') (L.set i (ops ++ [o])) := by
  have c1 := chg_own hg
  have hB' : hp w' B = some (.cells vs.toArray 27) := c1.at h.hb (fun hm => by have := ((h.own i x ops hx ho).lt B (by simpa using hm)).1; omega)
  have c2 : Chg [B] w' (put w' B (vs.set i x').toArray 27) := (Chg.refl _ _).put (.inl (by simp)) _ _
  have ob : ∀ {w0 : World} {y : Value} {n : Nat} {zs : List Value}, w0.ownsRow (B + 1) 40 6 y n zs → ∀ k, y.ownBlock = some k → k ∉ [B] := fun hy k hk => by have := (hy.lt k hk).1; simp; omega
  refine ⟨put_same (blk_lt hB') _ _, by simp [h.len], fun j y os hy hos => ?_, ?_⟩
  · rcases getElem?_set' hy with ⟨rfl, rfl⟩ | ⟨hne, hy⟩
    · have : os = ops ++ [o] := by
        rcases getElem?_set' hos with ⟨_, e⟩ | ⟨hne, _⟩
        · exact e.symm
        · exact absurd rfl hne
      subst this
      rw [List.length_append, flat_snoc]
      exact ownsRow_chg hx' c2 (ob hx')
    · rcases getElem?_set' hos with ⟨e, _⟩ | ⟨_, hos⟩
      · exact absurd e hne
      · have h1 := h.own j y os hy hos
        have h2 := ownsRow_chg h1 c1 fun k hk hm => h.dis i j x y k hne hx hy (by simpa using hm) hk
        exact ownsRow_chg h2 c2 (ob h2)
  · intro a b y z k hab hy hz hyk hzk
    have old : ∀ {j : Nat} {y : Value}, i ≠ j → vs[j]? = some y → y.ownBlock = some k → k < w.heap.size := fun {j y} hij hy hyk => by
      obtain ⟨os, hos⟩ : ∃ os, L[j]? = some os := ⟨_, List.getElem?_eq_getElem (by have := (List.getElem?_eq_some_iff.1 hy).1; have := h.len; omega)⟩
      exact ((h.own j y os hy hos).lt k hyk).2
    rcases getElem?_set' hy with ⟨rfl, rfl⟩ | ⟨ha, hy⟩
    · rcases getElem?_set' hz with ⟨e, _⟩ | ⟨hb, hz⟩
      · exact hab e
      · rcases hn k hyk with h1 | h1
        · exact h.dis i b x z k hb hx hz h1 hzk
        · have := old hb hz hzk; omega
    · rcases getElem?_set' hz with ⟨rfl, rfl⟩ | ⟨hb, hz⟩
      · rcases hn k hzk with h1 | h1
        · exact h.dis i a x y k ha hx hy h1 hyk
        · have := old ha hy hyk; omega
      · exact h.dis a b y z k hab hy hz hyk hzk
theorem tot_set {L : List (List OpV)} {i : Nat} {ops : List OpV} (h : L[i]? = some ops) (o : OpV) : tot (L.set i (ops ++ [o])) = tot L + 1 := by
  induction L generalizing i with
  | nil => simp at h
  | cons x xs ih =>
    cases i with
    | zero => simp at h; subst h; simp [tot]; omega
    | succ i => have := ih (i := i) (by simpa using h); simp [tot, this]; omega
theorem tot_ge {L : List (List OpV)} {ops : List OpV} (h : ops ∈ L) : ops.length ≤ tot L := by
  induction L with
  | nil => simp at h
  | cons x xs ih =>
    rcases List.mem_cons.1 h with rfl | h
    · simp [tot]
    · have := ih h; simp [tot]; omega
theorem LL.nils {w : World} {B n : Nat} (h : hp w B = some (.cells (List.replicate n nilS).toArray 27)) : LL w B (List.replicate n nilS) (List.replicate n []) := by
  refine ⟨h, by simp, fun j x ops hx ho => ?_, fun i j x y k hij hx hy hxk hyk => ?_⟩
  · have h1 := List.eq_of_mem_replicate (List.mem_of_getElem? hx)
    have h2 := List.eq_of_mem_replicate (List.mem_of_getElem? ho)
    subst h1; subst h2
    exact World.ownsRow_nil _ _ _ _
  · have h1 := List.eq_of_mem_replicate (List.mem_of_getElem? hx)
    subst h1; cases hxk
theorem tot_nils (n : Nat) : tot (List.replicate n []) = 0 := by
  induction n with
  | zero => rfl
  | succ n ih => rw [List.replicate_succ]; simp [tot, ih]
theorem chgT {S T : List Nat} {a b c : World} (h : Chg S a b) (k : Chg T b c) (hT : ∀ t ∈ T, t ∈ S ∨ a.heap.size ≤ t) : Chg S a c :=
  ⟨k.os.trans h.os, k.tape.trans h.tape, k.output.trans h.output, Nat.le_trans h.size k.size, fun i hi hn => (k.block i (Nat.lt_of_lt_of_le hi h.size) fun hm => by rcases hT i hm with h1 | h1; exact hn h1; omega).trans (h.block i hi hn)⟩
/-- the variables of the making loop -/
structure GI (W w : World) (q B n : Nat) (A : Option Addr) (c : Nat) (xs : List Int) (i at' : Nat) (vs : List Value) (L : List (List OpV)) : Prop where
  sq : hp w q = some (.cells #[.slice A xs.length c, .int .i64 at'] 100)
  ll : LL w B vs L
  gen : ∀ ops ∈ L, ∀ o ∈ ops, GenO o
  n : L.length = n
  qB : q < B
  qW : W.heap.size ≤ q
  at1 : at' ≤ 13 * i
  tt : tot L ≤ i
  ch : Chg [] W w
def OpsP (W : World) (n : Nat) (v : Value) (w' : World) : Prop := ∃ B vs L, v = .slice (some ⟨B, 0, none⟩) n n ∧ LL w' B vs L ∧ (∀ ops ∈ L, ∀ o ∈ ops, GenO o) ∧ L.length = n ∧ tot L ≤ 40 ∧ W.heap.size ≤ B ∧ Chg [] W w'
set_option maxHeartbeats 8000000 in
theorem c_genOps {W : World} {A : Option Addr} {c : Nat} {xs : List Int} (hA : RdI .i64 W A xs) {n : Nat} (n0 : 0 < n) (n8 : n ≤ 64) :
    CallR Try.prog 71 [.slice A xs.length c, .int .i64 n, .int .i64 40] W (OpsP W n) := by
  apply F71_ok
  obtain ⟨inf, hi, hz, hs, hbt⟩ := inf_27
  simp -implicitDefEqProofs only [F71, wpB_some', gd_true, gd_false, gd_tf, gd_ft, gd_ut, gd_uf, gv_true, gv_false, gv_tf, gv_ft, gv_ut, gv_uf, gE_true, gE_false, gE_tf, gE_ft, gE_ut, gE_uf, gU_true, gU_false, gU_tf, gU_ft, pickv_true, pickv_false, cnd_true, cnd_false, decide_true, decide_false, Bool.not_true, Bool.not_false, pr_not, nilv_some, bp_lss, bp_leq, bp_gtr, bp_geq, be_eql, be_neq, bne_self_eq_false, beq_self_eq_true, ldC_some, Option.isNone_none, Option.isNone_some, hp_drew, bd_100_0, effv_box, effv_make (kl := .i64) (kc := .i64) (n := n) Try.underlying22 hi hz (by rw [hs]; omega) (by rw [hbt]; omega) (by omega), alloc_size]
  have hm : ∀ m : Nat, madeCells (Go.Value.slice none 0 0).cells (m * inf.size) = (List.replicate m nilS).toArray := fun m => by
    apply Array.toList_inj.1
    have := toList_madeCells_one (Go.Value.slice none 0 0) (m * inf.size)
    rw [hs, Nat.mul_one] at this ⊢
    exact this
  simp -implicitDefEqProofs only [hm]
  have main : ∀ (d i at' : Nat) (w : World) (vs : List Value) (L : List (List OpV)), GI W w W.heap.size (W.heap.size + 1) n A c xs i at' vs L → i + d = 40 →
      P71_0 (.slice A xs.length c) (.int .i64 n) (.int .i64 40) (.pointer (some ⟨W.heap.size, 0, none⟩)) (.slice (some ⟨W.heap.size + 1, 0, none⟩) n n) (.int .i64 i) w (OpsP W n) := by
    intro d
    induction d with
    | zero =>
      intro i at' w vs L h hi
      apply L71_0_ok
      have : ¬ (i : Int) < 40 := by omega
      simp -implicitDefEqProofs only [L71_0, wpB_some', gd_true, gd_false, gd_tf, gd_ft, gd_ut, gd_uf, gv_true, gv_false, gv_tf, gv_ft, gv_ut, gv_uf, gE_true, gE_false, gE_tf, gE_ft, gE_ut, gE_uf, gU_true, gU_false, gU_tf, gU_ft, pickv_true, pickv_false, cnd_true, cnd_false, decide_true, decide_false, Bool.not_true, Bool.not_false, pr_not, nilv_some, bp_lss, bp_leq, bp_gtr, bp_geq, be_eql, be_neq, bne_self_eq_false, beq_self_eq_true, ldC_some, Option.isNone_none, Option.isNone_some, hp_drew, this]
      exact ⟨_, vs, L, rfl, h.ll, h.gen, h.n, by have := h.tt; omega, by omega, h.ch⟩
    | succ d ih =>
      intro i at' w vs L h hi
      apply L71_0_ok
      have hlt : (i : Int) < 40 := by omega
      by_cases hx : (at' : Int) < xs.length
      · simp -implicitDefEqProofs only [L71_0, wpB_some', gd_true, gd_false, gd_tf, gd_ft, gd_ut, gd_uf, gv_true, gv_false, gv_tf, gv_ft, gv_ut, gv_uf, gE_true, gE_false, gE_tf, gE_ft, gE_ut, gE_uf, gU_true, gU_false, gU_tf, gU_ft, pickv_true, pickv_false, cnd_true, cnd_false, decide_true, decide_false, Bool.not_true, Bool.not_false, pr_not, nilv_some, bp_lss, bp_leq, bp_gtr, bp_geq, be_eql, be_neq, bne_self_eq_false, beq_self_eq_true, ldC_some, Option.isNone_none, Option.isNone_some, hp_drew, hlt, fa_100_1, ld_3, h.sq, t2_1, len_23, hx]
        have hAb : ∀ p, A = some p → p.block ≠ W.heap.size := fun p hp => by
          obtain ⟨p', e1, e2⟩ := hA 0 (by omega)
          rw [e1] at hp; cases hp
          have := cell_lt e2
          rw [blk_add] at this
          omega
        have at2 := h.at1
        refine (c_SeqN h.sq (hA.keep h.ch.below) hAb (by omega) (m := n) (by omega) (by omega)).mono ?_
        rintro _ w1 ⟨⟨r, rfl, hr⟩, hs1, c1⟩
        have hr' : r < n := by omega
        have l1 : LL w1.drew (W.heap.size + 1) vs L := (h.ll.keep c1 (fun k hk => by simp at hk; omega)).keep (Chg.refl [] _).drew (fun k hk => by simp at hk)
        have ch1 : Chg [] W w1.drew := by
          refine Chg.drew (chgT h.ch c1 fun k hk => .inr ?_)
          simp at hk; subst hk; exact Nat.le_refl _
        have hs1 : hp w1.drew W.heap.size = some (.cells #[.slice A xs.length c, .int .i64 ((at' + 1 : Nat) : Int)] 100) := hs1
        generalize w1.drew = w2 at *
        have hln := h.n
        have hvl := l1.len
        obtain ⟨x, hx⟩ : ∃ x, vs[r]? = some x := ⟨_, List.getElem?_eq_getElem (by omega)⟩
        obtain ⟨ops, ho⟩ : ∃ ops, L[r]? = some ops := ⟨_, List.getElem?_eq_getElem (by omega)⟩
        have hops : ops ∈ L := List.mem_of_getElem? ho
        have htt := h.tt
        have htg := tot_ge hops
        have E : Env w2 W.heap.size A xs (.slice (some ⟨W.heap.size + 1, 0, none⟩) n n) L := ⟨hA.keep ch1.below, hAb, l1.il (by omega) h.n.symm, by have := blk_lt hs1; exact this, by omega, fun l hl => by have := tot_ge hl; omega, by omega⟩
        have ia : pureRun Try.prog (Instr.indexAt 22 (.slice (some ⟨W.heap.size + 1, 0, none⟩) n n) (.int .i64 (r : Int))) = some (.pointer (some ⟨W.heap.size + 1, 0 + r * 1, none⟩)) := by
          have := ia_22 (b := W.heap.size + 1) (p := 0) (n := n) (c := n) (j := .i64) (i := (r : Int)) (by omega) (by omega)
          rw [Int.toNat_natCast] at this; exact this
        have ldx : ∀ w', LL w' (W.heap.size + 1) vs L → ldC (hp w' (W.heap.size + 1)) (0 + r * 1) = some x := fun w' h' => by
          rw [h'.hb, ldC_some, Nat.mul_one, Nat.zero_add]; simpa using hx
        have fin : ∀ v w3, GenP w2 W.heap.size A c xs (at' + 1) 12 v w3 → LL w3 (W.heap.size + 1) vs L ∧ (effv Try.prog (Instr.buildSlice 27 1 #[(0, v)]) w3 fun t42 w =>
            effv Try.prog (Builtin.append_ #[27, 27] 27 #[x, t42]) w fun t43 w =>
            effu Try.prog (Instr.storeAt 27 (.pointer (some ⟨W.heap.size + 1, 0 + r * 1, none⟩)) t43) w fun w =>
            P71_1 (.slice A xs.length c) (.int .i64 n) (.int .i64 40) (.pointer (some ⟨W.heap.size, 0, none⟩)) (.slice (some ⟨W.heap.size + 1, 0, none⟩) n n) (.int .i64 i) w (OpsP W n)) := by
          rintro v w3 ⟨o, at3, rfl, hO, hs3, ha1, ha2, c3⟩
          have l3 := l1.keep c3 (fun k hk => by simp at hk; omega)
          have ch3 : Chg [] W w3 := chgT ch1 c3 fun k hk => .inr (by simp at hk; subst hk; exact Nat.le_refl _)
          refine ⟨l3, ?_⟩
          have hw3 := blk_lt l3.hb
          refine ps_27 (fun u hu => List.all_eq_true.1 (show (opC o).all (·.oneCell') = true from rfl) u hu) (l3.own r x ops hx ho) (by omega) (by omega) fun x' w4 ho4 hg hnb => ?_
          have hB4 : hp w4 (W.heap.size + 1) = some (.cells vs.toArray 27) := (chg_own hg).at l3.hb (fun hm => by have := ((l3.own r x ops hx ho).lt _ (by simpa using hm)).1; omega)
          have hq4 : hp w4 W.heap.size = some (.cells #[.slice A xs.length c, .int .i64 at3] 100) := (chg_own hg).at hs3 (fun hm => by have := ((l3.own r x ops hx ho).lt _ (by simpa using hm)).1; omega)
          have ok4 : okC (hp w4 (W.heap.size + 1)) (0 + r * 1 + 1) = true := by rw [hB4]; simp; omega
          obtain ⟨A', c', rfl, _, _, _⟩ := rdV_of_own ho4
          rw [st_27 rfl rfl ok4, hB4, getC_some, getE_some]
          have e5 : vs.toArray.setIfInBounds (0 + r * 1) (.slice A' (ops.length + 1) c') = (vs.set r (.slice A' (ops.length + 1) c')).toArray := by rw [Nat.mul_one, Nat.zero_add]; simp
          rw [e5]
          have l5 := l3.push hx ho o ho4 hg hnb
          have ch5 : Chg [] W (put w4 (W.heap.size + 1) (vs.set r (.slice A' (ops.length + 1) c')).toArray 27) := by
            refine Chg.put (ch3.grown hg fun k hk => .inr ?_) (.inr (by omega)) _ _
            have := ((l3.own r x ops hx ho).lt k hk).1; omega
          have hq5 : hp (put w4 (W.heap.size + 1) (vs.set r (.slice A' (ops.length + 1) c')).toArray 27) W.heap.size = some (.cells #[.slice A xs.length c, .int .i64 at3] 100) := by rw [put_other (by omega)]; exact hq4
          apply L71_1_ok
          simp -implicitDefEqProofs only [L71_1, wpB_some', gd_true, gd_false, gd_tf, gd_ft, gd_ut, gd_uf, gv_true, gv_false, gv_tf, gv_ft, gv_ut, gv_uf, gE_true, gE_false, gE_tf, gE_ft, gE_ut, gE_uf, gU_true, gU_false, gU_tf, gU_ft, pickv_true, pickv_false, cnd_true, cnd_false, decide_true, decide_false, Bool.not_true, Bool.not_false, pr_not, nilv_some, bp_lss, bp_leq, bp_gtr, bp_geq, be_eql, be_neq, bne_self_eq_false, beq_self_eq_true, ldC_some, Option.isNone_none, Option.isNone_some, hp_drew, bp_add, wrapi (n := (i : Int) + 1) (by omega) (by omega)]
          have := ih (i + 1) at3 _ _ _ ⟨hq5, l5, fun os hos o' ho' => ?_, by simpa using h.n, by omega, by omega, by omega, by rw [tot_set ho]; omega, ch5⟩ (by omega)
          · rw [Int.natCast_add i 1] at this
            exact this
          · rcases List.mem_or_eq_of_mem_set hos with h1 | h1
            · exact h.gen os h1 o' ho'
            · subst h1
              rcases List.mem_append.1 ho' with h2 | h2
              · exact h.gen ops hops o' h2
              · simp at h2; subst h2; exact hO
        simp -implicitDefEqProofs only [wpB_some', gd_true, gd_false, gd_tf, gd_ft, gd_ut, gd_uf, gv_true, gv_false, gv_tf, gv_ft, gv_ut, gv_uf, gE_true, gE_false, gE_tf, gE_ft, gE_ut, gE_uf, gU_true, gU_false, gU_tf, gU_ft, pickv_true, pickv_false, cnd_true, cnd_false, decide_true, decide_false, Bool.not_true, Bool.not_false, pr_not, nilv_some, bp_lss, bp_leq, bp_gtr, bp_geq, be_eql, be_neq, bne_self_eq_false, beq_self_eq_true, ldC_some, Option.isNone_none, Option.isNone_some, hp_drew, ia, ld_27, ldx w2 l1]
        refine ⟨?_, ?_⟩
        · refine (c_genOp E hs1 (by omega)).mono fun v w3 hv => ?_
          exact (fin v w3 hv).2
        · refine (c_genOp E hs1 (by omega)).mono fun v w3 hv => ?_
          obtain ⟨l3, k3⟩ := fin v w3 hv
          simp -implicitDefEqProofs only [wpB_some', gd_true, gd_false, gd_tf, gd_ft, gd_ut, gd_uf, gv_true, gv_false, gv_tf, gv_ft, gv_ut, gv_uf, gE_true, gE_false, gE_tf, gE_ft, gE_ut, gE_uf, gU_true, gU_false, gU_tf, gU_ft, pickv_true, pickv_false, cnd_true, cnd_false, decide_true, decide_false, Bool.not_true, Bool.not_false, pr_not, nilv_some, bp_lss, bp_leq, bp_gtr, bp_geq, be_eql, be_neq, bne_self_eq_false, beq_self_eq_true, ldC_some, Option.isNone_none, Option.isNone_some, hp_drew, ld_27, ldx w3 l3]
          exact k3
      · simp -implicitDefEqProofs only [L71_0, wpB_some', gd_true, gd_false, gd_tf, gd_ft, gd_ut, gd_uf, gv_true, gv_false, gv_tf, gv_ft, gv_ut, gv_uf, gE_true, gE_false, gE_tf, gE_ft, gE_ut, gE_uf, gU_true, gU_false, gU_tf, gU_ft, pickv_true, pickv_false, cnd_true, cnd_false, decide_true, decide_false, Bool.not_true, Bool.not_false, pr_not, nilv_some, bp_lss, bp_leq, bp_gtr, bp_geq, be_eql, be_neq, bne_self_eq_false, beq_self_eq_true, ldC_some, Option.isNone_none, Option.isNone_some, hp_drew, hlt, fa_100_1, ld_3, h.sq, t2_1, len_23, hx]
        exact ⟨_, vs, L, rfl, h.ll, h.gen, h.n, by have := h.tt; omega, by omega, h.ch⟩
  refine main 40 0 0 _ _ (List.replicate n []) ⟨?_, LL.nils ?_, fun ops h o ho => ?_, by simp, by omega, Nat.le_refl _, by omega, by rw [tot_nils]; omega, ((Chg.refl _ _).alloc _).alloc _⟩ (by omega)
  · rw [alloc_heap, alloc_size, if_neg (by omega), alloc_heap, if_pos rfl]; rfl
  · rw [alloc_heap, alloc_size, if_pos rfl]
  · have := List.eq_of_mem_replicate h; subst this; cases ho
end Go.Proofs.Ytgamnncehjcdiaa
