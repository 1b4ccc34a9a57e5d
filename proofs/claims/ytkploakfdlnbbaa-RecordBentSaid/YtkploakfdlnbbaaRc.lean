/- Spans: what two share, in the reference. -/
import Derived.Test.YtkploakfdlnbbaaRb
namespace Go.Proofs.Ytkploakfdlnbbaa
open Go Ev Go.RowKit
set_option linter.unusedSimpArgs false
set_option linter.unusedVariables false
set_option maxRecDepth 10000

theorem Chg.putN {S : List Nat} {a w : World} {b : Nat} {c : Array Value} {e : TypeId} (h : Chg S a w) (hb : a.heap.size ≤ b) : Chg S a (put w b c e) := h.put (.inr hb) _ _
theorem callTo {P : Program} {f : FuncId} {args : List Value} {w w0 : World} {v0 : Value} (h : CallR P f args w fun v w' => v = v0 ∧ w' = w0) {K : Value → World → Prop} (hk : K v0 w0) : CallR P f args w K :=
  h.mono fun v w' ⟨h1, h2⟩ => by subst h1; subst h2; exact hk
theorem pr_indexArr {P : Program} {t e : TypeId} {z n b o : Nat} {j : IntKind} {i : Int} (h : P.underlying t = some (.array n e)) (hi : (P.info? e).map (·.size) = some z) (h0 : 0 ≤ i) (h1 : i < n) :
    pureRun P (Instr.indexAt t (.pointer (some ⟨b, o, none⟩)) (.int j i)) = some (.pointer (some ⟨b, o + i.toNat * z, none⟩)) := pureRun_of fun w => by
  obtain ⟨f, hf, hz⟩ := Option.map_eq_some_iff.1 hi
  have h2 : 0 ≤ i ∧ i < (n : Int) := ⟨h0, h1⟩
  simp [Instr.indexAt, asIntOf, run_underlying h, Instr.sureAddr, h2, sizeOf, typeInfo, hf, hz, addr_add]
def stC (s : SpV) : Array Value := #[.int .i64 s.iv, .int .i64 s.pt, .int .i64 s.bk, .int .i64 s.rs]
theorem c_steps (s : SpV) (w : World) : CallR Try.prog 73 [.agg (spA s)] w fun v w' => v = .agg (stC s) ∧ w' = put ((w.alloc (.cells (spA s) 59)).alloc (.cells #[.int .i64 0, .int .i64 0, .int .i64 0, .int .i64 0] 87)) (w.heap.size + 1) (stC s) 87 := by
  apply F73_ok
  simp -implicitDefEqProofs [F73, effv_box, sp8, sp9, sp10, sp11, st_87, ld_87, stC]
theorem stC_get (s : SpV) (i : Nat) (h : i < 4) : (stC s)[i]? = some (.int .i64 ((stps s).getD i 0)) := by
  rcases (by omega : i = 0 ∨ i = 1 ∨ i = 2 ∨ i = 3) with rfl | rfl | rfl | rfl <;> rfl
def shar (a b : SpV) : Bool := (stps a).any fun x => (stps b).any fun y => decide (0 ≤ x) && (x == y)
theorem drop_getD (b : List Int) (i : Nat) (h : i < b.length) : b.drop i = b.getD i 0 :: b.drop (i + 1) := by
  rw [List.drop_eq_getElem_cons h, List.getD_eq_getElem?_getD, List.getElem?_eq_getElem h]; rfl
theorem l_share2 {a b : SpV} {g k : Nat} (w0 : World) {i : Nat} (hi4 : i < 4) (w : World) (hg : hp w g = some (.cells (stC a) 87)) (hk : hp w k = some (.cells (stC b) 87)) (r : Bool)
    (next : ∀ w' : World, hp w' g = some (.cells (stC a) 87) → hp w' k = some (.cells (stC b) 87) → Chg [] w w' → P63_1 (.pointer (some ⟨g, 0, none⟩)) (.pointer (some ⟨k, 0, none⟩)) (.int .i64 ((i : Int) + 1)) w' fun v w' => v = .bool r ∧ Chg [] w w') :
    ∀ (d j : Nat) (w' : World), hp w' g = some (.cells (stC a) 87) → hp w' k = some (.cells (stC b) 87) → Chg [] w w' → j + d = 4 →
      P63_2 (.pointer (some ⟨g, 0, none⟩)) (.pointer (some ⟨k, 0, none⟩)) (.int .i64 i) (.int .i64 j) w' fun v w' => v = .bool (((stps b).drop j).any (fun y => decide (0 ≤ (stps a).getD i 0) && ((stps a).getD i 0 == y)) || r) ∧ Chg [] w w' := by
  intro d
  induction d with
  | zero =>
    intro j w' hg hk hc hj
    apply L63_2_ok
    have : ¬ ((j : Int) < 4) := by omega
    simp -implicitDefEqProofs only [L63_2, wpB_some', bp_lss, this, decide_false, cnd_false, bp_add, wrapi (n := (i : Int) + 1) (by omega) (by omega)]
    have e : (stps b).drop j = [] := List.drop_of_length_le (by simp [stps]; omega)
    rw [e, List.any_nil, Bool.false_or]
    exact next w' hg hk hc
  | succ d ih =>
    intro j w' hg hk hc hj
    apply L63_2_ok
    have hlt : (j : Int) < 4 := by omega
    have ja : j < 4 := by omega
    have i1 := pr_indexArr (P := Try.prog) (b := g) (o := 0) (j := .i64) (i := (i : Int)) Try.underlying87 sz_3 (by omega) (by omega)
    have i2 := pr_indexArr (P := Try.prog) (b := k) (o := 0) (j := .i64) (i := (j : Int)) Try.underlying87 sz_3 (by omega) (by omega)
    have e1 : 0 + (i : Int).toNat * 1 = i := by omega
    have e2 : 0 + (j : Int).toNat * 1 = j := by omega
    rw [e1] at i1
    rw [e2] at i2
    have nx := ih (j + 1) w'.drew hg hk hc.drew (by omega)
    rw [Int.natCast_add j 1] at nx
    have hd := drop_getD (stps b) j (by simp [stps]; omega)
    generalize hx : (stps a).getD i 0 = x at *
    generalize hy : (stps b).getD j 0 = y at *
    have ga := stC_get a i hi4
    have gb := stC_get b j ja
    rw [hx] at ga
    rw [hy] at gb
    simp -implicitDefEqProofs only [L63_2, wpB_some', bp_lss, hlt, decide_true, cnd_true, i1, i2, ld_3, hp_drew, hg, hk, ldC_some, ga, gb, bp_geq, hd, List.any_cons]
    by_cases h0 : 0 ≤ x
    · simp -implicitDefEqProofs only [h0, decide_true, gd_true, gv_true, i1, i2, ld_3, hp_drew, hg, hk, ldC_some, ga, gb, wpB_some', be_eql, pickv_true, Bool.true_and]
      by_cases hxy : x = y
      · have : (x == y) = true := by rw [hxy]; simp
        simp -implicitDefEqProofs only [this, cnd_true, Bool.true_or]
        exact ⟨trivial, hc.drew⟩
      · simp -implicitDefEqProofs only [eqf hxy, cnd_false, bp_add, wpB_some', wrapi (n := (j : Int) + 1) (by omega) (by omega), Bool.false_or]
        simp only [h0, decide_true, Bool.true_and] at nx ⊢
        exact nx
    · simp -implicitDefEqProofs only [h0, decide_false, gd_ft, gv_ft, wpB_some', pickv_false, cnd_false, bp_add, wrapi (n := (j : Int) + 1) (by omega) (by omega), Bool.false_and, Bool.false_or]
      simp only [h0, decide_false, Bool.false_and] at nx ⊢
      exact nx
theorem l_share1 {a b : SpV} {g k : Nat} : ∀ (d i : Nat) (w : World), hp w g = some (.cells (stC a) 87) → hp w k = some (.cells (stC b) 87) → i + d = 4 →
    P63_1 (.pointer (some ⟨g, 0, none⟩)) (.pointer (some ⟨k, 0, none⟩)) (.int .i64 i) w fun v w' => v = .bool (((stps a).drop i).any fun x => (stps b).any fun y => decide (0 ≤ x) && (x == y)) ∧ Chg [] w w' := by
  intro d
  induction d with
  | zero =>
    intro i w hg hk hi
    apply L63_1_ok
    have : ¬ ((i : Int) < 4) := by omega
    simp -implicitDefEqProofs only [L63_1, wpB_some', bp_lss, this, decide_false, cnd_false]
    exact ⟨by rw [List.drop_of_length_le (by simp [stps]; omega)]; rfl, Chg.refl _ _⟩
  | succ d ih =>
    intro i w hg hk hi
    apply L63_1_ok
    have hlt : (i : Int) < 4 := by omega
    simp -implicitDefEqProofs only [L63_1, wpB_some', bp_lss, hlt, decide_true, cnd_true]
    have := l_share2 (a := a) (b := b) w (i := i) (by omega) w hg hk (((stps a).drop (i + 1)).any fun x => (stps b).any fun y => decide (0 ≤ x) && (x == y)) (fun w' hg' hk' hc => by
      have h := ih (i + 1) w' hg' hk' (by omega)
      rw [Int.natCast_add i 1] at h
      refine Part.mono h ?_
      rintro v w'' ⟨hv, hc'⟩
      exact ⟨hv, hc.trans hc'⟩) 4 0 w hg hk (Chg.refl _ _) (by omega)
    rw [drop_getD (stps a) i (by simp [stps]; omega), List.any_cons]
    exact this
set_option maxHeartbeats 4000000 in
theorem c_share (a b : SpV) (w : World) : CallR Try.prog 63 [.agg (spA a), .agg (spA b)] w fun v w' => v = .bool (shar a b) ∧ Chg [] w w' := by
  have fin : ∀ (g k : Nat) (w' : World), hp w' g = some (.cells (stC a) 87) → hp w' k = some (.cells (stC b) 87) → Chg [] w w' → P63_0 (.pointer (some ⟨g, 0, none⟩)) (.pointer (some ⟨k, 0, none⟩)) w' fun v w' => v = .bool (shar a b) ∧ Chg [] w w' := by
    intro g k w' hg hk hc
    apply L63_0_ok
    refine Part.mono (l_share1 (a := a) (b := b) 4 0 w' hg hk (by omega)) ?_
    rintro v w'' ⟨hv, hc'⟩
    exact ⟨hv, hc.trans hc'⟩
  have l20 : ∀ (s : SpV) (e : TypeId) (f : Nat × Nat), ldL (some (.cells (spA s) e f)) 0 20 = some (spC s) := fun s e f => ldL_some (c := spA s) (Nat.le_refl _)
  have fold : ∀ s : SpV, (spC s).toArray = spA s := fun s => rfl
  have sz4 : ∀ s : SpV, (stC s).size = 4 := fun s => rfl
  have on4 : ∀ s : SpV, (stC s).toList.all (·.oneCell') = true := fun s => rfl
  apply F63_ok
  simp -implicitDefEqProofs only [F63, effv_box, cells_agg, alloc_size]
  repeat' apply And.intro
  all_goals
    simp -implicitDefEqProofs [ld_59, l20, fold]
    refine callTo (c_steps _ _) ?_
    try simp -implicitDefEqProofs [ld_59, l20, fold]
    refine callTo (c_steps _ _) ?_
    try simp -implicitDefEqProofs [st_87, sz4, on4]
    refine fin _ _ _ (by simp) (by simp) ?_
    repeat' first
      | with_reducible apply Chg.alloc
      | with_reducible apply Chg.putN
      | with_reducible apply Chg.drew
      | with_reducible exact Chg.refl _ _
      | omega
end Go.Proofs.Ytkploakfdlnbbaa
