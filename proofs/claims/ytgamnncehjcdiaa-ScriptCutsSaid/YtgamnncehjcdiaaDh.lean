/- Scripts out of bytes: the program's Read, its loops. -/
import Derived.Test.YtgamnncehjcdiaaDg
namespace Go.Proofs.Ytgamnncehjcdiaa
open Go Ev Go.RowKit
set_option linter.unusedSimpArgs false
set_option linter.unusedVariables false
set_option maxRecDepth 10000

/-- what an early end answers -/
theorem RI.early {W w : World} {r g2 gv g4 : Nat} {s : Rst} {n : Nat} {ds : List Value} {x : Value} {m : Nat} {done : List (List OpV)} {acc : List OpV} {hi : Nat} (h : RI W w r g2 gv g4 s n (ds ++ x :: List.replicate m nilS)) (hL : LOs w g4 hi ds done) (hhi : g4 < hi) (hn : ds.length + 1 + m = n)
    (ho : w.ownsRow hi 40 6 x acc.length (acc.flatMap opC)) (hsz : hi ≤ w.heap.size) :
    wpB (ldv Try.prog 25 (.pointer (some ⟨g4, 0, none⟩)) w) fun t => effu Try.prog (Instr.storeAt 25 (.pointer (some ⟨g2, 0, none⟩)) t) w fun w => wpB (ldv Try.prog 25 (.pointer (some ⟨g2, 0, none⟩)) w) fun r2 => RP W (done ++ acc :: List.replicate m [], []) r2 w := by
  have hL' := (hL.snoc hsz (LO.of_own ho hhi)).nils m
  simp only [List.append_assoc, List.singleton_append] at hL'
  have o2 := h.o2; have o3 := h.o3
  exact retN h.b2 h.b4 rfl (RI.ret (s := s) (r := r) (K := fun _ _ => True) h.b2 h.b4 h.bv (by simp; omega) hL' ⟨none, 0, rfl, fun i hi => by simp at hi⟩ rfl h.o1 (by omega) h.o4 h.ch (fun A n c hA p hp => by cases hA; cases hp))
theorem l_inner {W : World} {r g2 gv g4 n : Nat} {ds : List Value} {m : Nat} {done : List (List OpV)} {hi : Nat} (hhi : g4 < hi) (hn : ds.length + 1 + m = n) (hn64 : n ≤ 64) {many : Nat} (hmany : many ≤ 1000)
    (next : ∀ (w : World) (s : Rst) (x : Value) (acc : List OpV), RI W w r g2 gv g4 s n (ds ++ x :: List.replicate m nilS) → LOs w g4 hi ds done → w.ownsRow hi 40 6 x acc.length (acc.flatMap opC) → hi ≤ w.heap.size → s.2 = false →
      P20_0 (.pointer (some ⟨g2, 0, none⟩)) (.pointer (some ⟨r, 0, none⟩)) (.pointer (some ⟨g4, 0, none⟩)) (.int .i64 n) (.int .i64 ((ds.length : Int) + 1)) w (RP W (done ++ acc :: (pLists m s).1, fin (pLists m s).2))) :
    ∀ (e j : Nat) (w : World) (s : Rst) (x : Value) (acc : List OpV), RI W w r g2 gv g4 s n (ds ++ x :: List.replicate m nilS) → LOs w g4 hi ds done → w.ownsRow hi 40 6 x acc.length (acc.flatMap opC) → hi ≤ w.heap.size → acc.length = j → j + e = many →
      P20_1 (.pointer (some ⟨g2, 0, none⟩)) (.pointer (some ⟨r, 0, none⟩)) (.pointer (some ⟨g4, 0, none⟩)) (.int .i64 ds.length) (.int .i64 n) (.int .i64 ds.length) (.int .u64 many) (.int .u64 j) w
        (RP W (done ++ (acc ++ (pOps e s).1) :: (pLists m (pOps e s).2).1, fin (pLists m (pOps e s).2).2)) := by
  intro e
  induction e with
  | zero =>
    intro j w s x acc hI hL ho hsz hacc hj
    apply L20_1_ok
    have : ¬ ((j : Int) < many) := by omega
    obtain ⟨A, c, hb, _⟩ := hI.rs
    simp -implicitDefEqProofs only [L20_1, wpB_some', bp_lss, this, decide_false, cnd_false, nilv_some, fa_115_1, ld_4, hb, ldC_some, show (#[Value.slice A s.1.length c, Value.bool s.2] : Array Value)[0 + 1]? = some (.bool s.2) from rfl, pOps, List.append_nil]
    cases hs2 : s.2 with
    | true =>
      have e1 : s = (s.1, true) := by rw [← hs2]
      rw [e1, pLists_end, cnd_true]
      exact hI.early hL hhi hn ho hsz
    | false =>
      simp -implicitDefEqProofs only [cnd_false, bp_add, wpB_some', wrapi (n := (ds.length : Int) + 1) (by omega) (by omega)]
      exact next w s x acc hI hL ho hsz hs2
  | succ e ih =>
    intro j w s x acc hI hL ho hsz hacc hj
    apply L20_1_ok
    have hlt : (j : Int) < many := by omega
    have o1 := hI.o1; have o2 := hI.o2; have o3 := hI.o3; have o4 := hI.o4
    simp -implicitDefEqProofs only [L20_1, wpB_some', bp_lss, hlt, decide_true, cnd_true]
    refine (c_rop hI.by_ hI.rs).mono ?_
    rintro v w1 ⟨rfl, hR1, hc1⟩
    have hI1 := hI.step hc1 (by simp) hR1 (pOp_bytes hI.by_)
    have hlt4 := blk_lt hI1.b4
    have hc1s := hc1.size
    simp -implicitDefEqProofs only [al_40]
    rw [st_40 (by rfl) (by rfl) (by rw [alloc_heap, if_pos rfl]; rfl) (by rw [alloc_heap, if_pos rfl]; rfl), alloc_heap, if_pos rfl]
    simp -implicitDefEqProofs only [getE_some]
    have hc2 : Chg [] w1 (put (w1.alloc (.cells #[.int .i64 0, .int .i64 0, .int .i64 0, .int .i64 0, .int .u64 0, .int .u64 0] 40)) w1.heap.size (opC (pOp s).1).toArray 40) := ((Chg.refl _ _).alloc _).put (.inr (Nat.le_refl _)) _ _
    have h7 : hp (put (w1.alloc (.cells #[.int .i64 0, .int .i64 0, .int .i64 0, .int .i64 0, .int .u64 0, .int .u64 0] 40)) w1.heap.size (opC (pOp s).1).toArray 40) w1.heap.size = some (.cells (opC (pOp s).1).toArray 40) := by rw [put_heap, if_pos rfl, if_pos (by simp)]
    have hsz2 : (put (w1.alloc (.cells #[.int .i64 0, .int .i64 0, .int .i64 0, .int .i64 0, .int .u64 0, .int .u64 0] 40)) w1.heap.size (opC (pOp s).1).toArray 40).heap.size = w1.heap.size + 1 := by simp
    generalize put (w1.alloc (.cells #[.int .i64 0, .int .i64 0, .int .i64 0, .int .i64 0, .int .u64 0, .int .u64 0] 40)) w1.heap.size (opC (pOp s).1).toArray 40 = w2 at *
    have hI2 := hI1.step hc2 (by simp) (hR1.chg hc2 (by simp)) (pOp_bytes hI.by_)
    have ho2 := ownsRow_chg (ownsRow_chg ho hc1 fun k hk hm => by have := own_ge ho k (by simp [hk]); simp at hm; omega) hc2 (by simp)
    have hL2 := (hL.chg hc1 (by simp; omega)).chg hc2 (by simp)
    obtain ⟨A, c, hb, _⟩ := hI2.rs
    simp -implicitDefEqProofs only [wpB_some', nilv_some, fa_115_1, ld_4, hb, ldC_some, show (#[Value.slice A (pOp s).2.1.length c, Value.bool (pOp s).2.2] : Array Value)[0 + 1]? = some (.bool (pOp s).2.2) from rfl]
    cases hs2 : (pOp s).2.2 with
    | true =>
      have e1 : (pOp s).2 = ((pOp s).2.1, true) := by rw [← hs2]
      rw [pOps, if_pos hs2, e1, pLists_end, cnd_true]
      simp only [List.append_nil]
      exact hI2.early hL2 hhi hn ho2 (by omega)
    | false =>
      have hpo : pOps (e + 1) s = ((pOp s).1 :: (pOps e (pOp s).2).1, (pOps e (pOp s).2).2) := by rw [pOps, if_neg (by simp [hs2])]
      rw [hpo, cnd_false]
      have e2 : acc ++ ((pOp s).1 :: (pOps e (pOp s).2).1) = (acc ++ [(pOp s).1]) ++ (pOps e (pOp s).2).1 := by simp
      simp only [e2]
      have hx : ldC (hp w2 gv) (0 + (ds.length : Int).toNat * 1) = some x := by
        rw [hI2.bv, ldC_some]; simp
      have hv : ldC (hp w2 g4) 0 = some (.slice (some ⟨gv, 0, none⟩) n n) := by rw [hI2.b4]; rfl
      have hop : ldv Try.prog 40 (.pointer (some ⟨w1.heap.size, 0, none⟩)) w2.drew = some (.agg (opC (pOp s).1).toArray) := by
        rw [ld_40, hp_drew, h7]; rfl
      have hia := ia_22 (b := gv) (p := 0) (n := n) (c := n) (j := .i64) (i := (ds.length : Int)) (by omega) (by omega)
      -- what is pushed, and put back
      have key : ∀ (x' : Value) (w3 : World), w3.ownsRow hi 40 6 x' (acc.length + 1) (acc.flatMap opC ++ opC (pOp s).1) → w2.drew.grownBy w3 x.ownBlock →
          effu Try.prog (Instr.storeAt 27 (.pointer (some ⟨gv, 0 + (ds.length : Int).toNat * 1, none⟩)) x') w3 fun w => P20_3 (.pointer (some ⟨g2, 0, none⟩)) (.pointer (some ⟨r, 0, none⟩)) (.pointer (some ⟨g4, 0, none⟩)) (.int .i64 ds.length) (.int .i64 n) (.int .i64 ds.length) (.int .u64 many) (.int .u64 j) w
            (RP W (done ++ (acc ++ [(pOp s).1] ++ (pOps e (pOp s).2).1) :: (pLists m (pOps e (pOp s).2).2).1, fin (pLists m (pOps e (pOp s).2).2).2)) := by
        intro x' w3 ho3 hg
        have hc3 : Chg x.ownBlock.toList w2 w3 := (Chg.refl _ w2).drew.trans (chg_own hg)
        have hge := own_ge ho
        have hI3 := hI2.step hc3 (fun k hk => .inr (by have := hge k hk; omega)) (hI2.rs.chg hc3 fun k hk => by have := hge k hk; omega) hI2.by_
        have hL3 := hL2.chg hc3 fun k hk => .inr (hge k hk)
        have hone : x'.cells = #[x'] ∧ x'.oneCell' = true := by
          obtain ⟨A', c', hx', _⟩ := rdV_of_own ho3
          rw [hx']; exact ⟨rfl, rfl⟩
        have hcs := hc3.size
        rw [st_27 hone.1 hone.2 (by rw [hI3.bv]; simp), hI3.bv, getC_some, getE_some]
        have hset : (ds ++ x :: List.replicate m nilS).toArray.setIfInBounds (0 + (ds.length : Int).toNat * 1) x' = (ds ++ x' :: List.replicate m nilS).toArray := by
          rw [show 0 + (ds.length : Int).toNat * 1 = ds.length by omega, setMid]
        rw [hset]
        apply L20_3_ok
        simp -implicitDefEqProofs only [L20_3, bp_add, wpB_some', wrapu (n := (j : Int) + 1) (by omega) (by omega)]
        have hput : Chg [gv] w3 (put w3 gv (ds ++ x' :: List.replicate m nilS).toArray 27) := (Chg.refl _ _).put (.inl (by simp)) _ _
        have ho4 : (put w3 gv (ds ++ x' :: List.replicate m nilS).toArray 27).ownsRow hi 40 6 x' (acc ++ [(pOp s).1]).length ((acc ++ [(pOp s).1]).flatMap opC) := by
          rw [flat_snoc, List.length_append]
          exact ownsRow_chg ho3 hput fun k hk hm => by have := own_ge ho3 k (by simp [hk]); simp at hm; omega
        have h := ih (j + 1) _ (pOp s).2 x' (acc ++ [(pOp s).1]) hI3.setv (hL3.chg hput (by simp; omega)) ho4 (by simp; omega) (by simp [hacc]) (by omega)
        rw [Int.natCast_add j 1] at h
        exact h
      have push : ∀ K : Value → World → Prop, (∀ x' w', w'.ownsRow hi 40 6 x' (acc.length + 1) (acc.flatMap opC ++ opC (pOp s).1) → w2.drew.grownBy w' x.ownBlock → K x' w') →
          effv Try.prog (Instr.buildSlice 27 1 #[(0, .agg (opC (pOp s).1).toArray)]) w2.drew fun y w1 => effv Try.prog (Builtin.append_ #[27, 27] 27 #[x, y]) w1 K := fun K hk =>
        ps_27 (by simp) (ownsRow_drew ho2) (by omega) (by show hi ≤ w2.heap.size; omega) fun x' w' h1 h2 _ => hk x' w' h1 h2
      constructor
      · simp -implicitDefEqProofs only [fa_25_0, wpB_some', ld_22, ld_27, hp_drew, Nat.add_zero, hv, hia, hx, hop]
        exact push _ key
      · simp -implicitDefEqProofs only [fa_25_0, wpB_some', ld_22, ld_27, hp_drew, Nat.add_zero, hv, hia, hx, hop]
        refine push _ fun x' w3 ho3 hg => ?_
        have hc3 : Chg x.ownBlock.toList w2 w3 := (Chg.refl _ w2).drew.trans (chg_own hg)
        have hge := own_ge ho
        have hv3 : ldC (hp w3 g4) 0 = some (.slice (some ⟨gv, 0, none⟩) n n) := by
          rw [hc3.at hI2.b4 (fun hm => by have := hge _ hm; omega)]; rfl
        simp -implicitDefEqProofs only [hv3, wpB_some', hia]
        exact key x' w3 ho3 hg
end Go.Proofs.Ytgamnncehjcdiaa
