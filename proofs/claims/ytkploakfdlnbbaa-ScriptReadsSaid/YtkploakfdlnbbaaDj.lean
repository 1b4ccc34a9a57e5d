/- Scripts out of bytes: the reference's ReadScript is the plain answer. -/
import Derived.Test.YtkploakfdlnbbaaDi
namespace Go.Proofs.Ytkploakfdlnbbaa
open Go Ev Go.RowKit
set_option linter.unusedSimpArgs false
set_option linter.unusedVariables false
set_option maxRecDepth 10000

theorem t3_2 {a b c : Value} : (#[a, b, c] : Array Value)[0 + 2]? = some c := (rfl)
theorem t3_1 {a b c : Value} : (#[a, b, c] : Array Value)[0 + 1]? = some b := (rfl)
theorem t2_1 {a b : Value} : (#[a, b] : Array Value)[0 + 1]? = some b := (rfl)
theorem t2_0 {a b : Value} : (#[a, b] : Array Value)[0 + 0]? = some a := (rfl)
theorem pOp_end (bs : List Int) : (pOp (bs, true)).2 = (bs, true) := by
  simp only [pOp, pNum_end, pIf]
  repeat' split
  all_goals simp_all [pNum_end]
theorem pOps_end (bs : List Int) : ∀ e, pOps e (bs, true) = ([], (bs, true))
  | 0 => rfl
  | e + 1 => by rw [pOps, pOp_end, if_pos rfl]
theorem LO.chgB {w w' : World} {S : List Nat} {lo hi : Nat} {x : Value} {ops : List OpV} (h : LO w lo hi x ops) (hc : Chg S w w') (hn : ∀ k, x.ownBlock = some k → k ∉ S) : LO w' lo hi x ops := by
  obtain ⟨A, c, rfl, h2, h3⟩ := h
  refine ⟨A, c, rfl, h2.chg hc fun p hp _ hm => ?_, h3⟩
  subst hp
  exact hn p.block rfl hm
/-- the lists' blocks are none of the row's -/
def Apart (vo : Value) (ds : List Value) : Prop := ∀ x ∈ ds, ∀ k, x.ownBlock = some k → vo.ownBlock ≠ some k
/-- the world of ReadScript, in the midst -/
structure RJ (B : List Int) (W w : World) (r g2 g4 : Nat) (s : Rst) (vo xp : Value) (ds : List Value) : Prop where
  rq : RQ B w r s
  b2 : hp w g2 = some (.cells #[nilS, nilS] 43)
  b4 : hp w g4 = some (.cells #[vo, xp] 43)
  own : w.ownsRow (g4 + 1) 67 1 vo ds.length ds
  o1 : W.heap.size ≤ g2
  o2 : g2 < r
  o4 : r < g4
  ch : Chg [] W w
theorem RJ.step {B : List Int} {W w w' : World} {r g2 g4 : Nat} {s s' : Rst} {vo xp : Value} {ds : List Value} (h : RJ B W w r g2 g4 s vo xp ds) {S : List Nat} (hc : Chg S w w') (hS : ∀ k ∈ S, k = r ∨ (g4 < k ∧ vo.ownBlock ≠ some k)) (hr : RQ B w' r s') : RJ B W w' r g2 g4 s' vo xp ds := by
  have o1 := h.o1; have o2 := h.o2; have o4 := h.o4
  exact ⟨hr, hc.at h.b2 (fun hm => by have := hS _ hm; omega), hc.at h.b4 (fun hm => by have := hS _ hm; omega), ownsRow_chg h.own hc (fun k hk hm => by
    have h1 := (h.own.lt k hk).1
    rcases hS k hm with h2 | h2
    · omega
    · exact h2.2 hk), o1, o2, o4, Chg.into h.ch hc fun k hk => .inr (by have := hS k hk; omega)⟩
theorem rq_bytes {B : List Int} (hB : IsBytes B) {w : World} {r : Nat} {s : Rst} (h : RQ B w r s) : IsBytes s.1 := by
  obtain ⟨a, _, h1, _⟩ := h
  rw [h1]; exact hB.drop a
theorem retG {w : World} {g2 g4 : Nat} {vo xp : Value} {K : Value → World → Prop} (b2 : hp w g2 = some (.cells #[nilS, nilS] 43)) (b4 : hp w g4 = some (.cells #[vo, xp] 43)) (hv1 : vo.oneCell' = true) (hx1 : xp.oneCell' = true)
    (hk : K (.agg #[vo, xp]) (put w g2 #[vo, xp] 43)) :
    wpB (ldv Try.prog 43 (.pointer (some ⟨g4, 0, none⟩)) w) fun t => effu Try.prog (Instr.storeAt 43 (.pointer (some ⟨g2, 0, none⟩)) t) w fun w => wpB (ldv Try.prog 43 (.pointer (some ⟨g2, 0, none⟩)) w) fun r2 => K r2 w := by
  have hlt := blk_lt b2
  simp -implicitDefEqProofs [ld_43, b4, st_43, b2, hv1, hx1, hlt]
  exact hk
theorem RJ.ret {B : List Int} {W w : World} {r g2 g4 hi : Nat} {s : Rst} {vo xp : Value} {ds : List Value} {done : List (List OpV)} {ps : List Int} (h : RJ B W w r g2 g4 s vo xp ds) (hL : LOs w g4 hi ds done) (hhi : g4 < hi) (hx : w.ownsRow hi 3 1 xp ps.length (ints ps)) :
    wpB (ldv Try.prog 43 (.pointer (some ⟨g4, 0, none⟩)) w) fun t => effu Try.prog (Instr.storeAt 43 (.pointer (some ⟨g2, 0, none⟩)) t) w fun w => wpB (ldv Try.prog 43 (.pointer (some ⟨g2, 0, none⟩)) w) fun r2 => RP W (done, ps) r2 w := by
  have o1 := h.o1; have o2 := h.o2; have o4 := h.o4
  obtain ⟨A, c, rfl, hA, hAb, _⟩ := rdV_of_own h.own
  obtain ⟨A', c', rfl, hA', hAb', _⟩ := rdV_of_own hx
  have hc : Chg [g2] w (put w g2 #[.slice A ds.length c, .slice A' ps.length c'] 43) := (Chg.refl _ _).put (.inl (by simp)) _ _
  refine retG h.b2 h.b4 rfl rfl ⟨⟨⟨A, c, ds, .slice A' ps.length c', by rw [hL.1], hA.chg hc fun p hp _ hm => ?_, hL.1, fun j x ops h1 h2 => ((hL.chg hc (by simp; omega)).2 j x ops h1 h2).sl, ?_⟩⟩, Chg.into h.ch hc (by simp; omega)⟩
  · have := hAb p hp; simp at hm; omega
  · exact .of_own (ownsRow_chg hx hc fun k hk hm => by have := (hx.lt k hk).1; simp at hm; omega)
/-! ### the picks -/
def finK (s : Rst) (k : Nat) : List Int := if s.2 = true then [] else s.1.take (1048576 - k)
theorem l_rpicks {B : List Int} (hB : B.length ≤ 1000000) (hBb : IsBytes B) {W : World} {r g2 g4 hi : Nat} {ds : List Value} {done : List (List OpV)} {vo : Value} {A0 : Option Addr} {c0 : Nat} (hhi : g4 < hi) (hvo : ∀ k, vo.ownBlock = some k → k < hi) :
    ∀ (e : Nat) (w : World) (s : Rst) (xp : Value) (ps : List Int), RJ B W w r g2 g4 s vo xp ds → LOs w g4 hi ds done → hi ≤ w.heap.size → w.ownsRow hi 3 1 xp ps.length (ints ps) → s.1.length = e →
    P39_2 (.slice A0 B.length c0) (.pointer (some ⟨g2, 0, none⟩)) (.pointer (some ⟨r, 0, none⟩)) (.pointer (some ⟨g4, 0, none⟩)) w (RP W (done, ps ++ finK s ps.length)) := by
  intro e
  induction e with
  | zero =>
    intro w s xp ps hJ hL hsz hx hl
    apply L39_2_ok
    obtain ⟨a, ⟨A, c, hb, _⟩, h1, h2⟩ := hJ.rq
    have hae : ¬ ((a : Int) < B.length) := by
      have := congrArg List.length h1
      simp at this; omega
    have hfin : finK s ps.length = [] := by
      have : s.1 = [] := by simpa using hl
      unfold finK; split
      · rfl
      · rw [this]; simp
    rw [hfin, List.append_nil]
    cases hs2 : s.2 <;> simp -implicitDefEqProofs only [L39_2, nilv_some, wpB_some', fa_76_2, fa_76_1, ld_4, ld_3, hb, ldC_some, t3_2, t3_1, hs2, pr_not, Bool.not_false, Bool.not_true, gd_true, gd_ft, gv_true, gv_ft, len_40, bp_lss, hae, decide_false, pickv_true, pickv_false, cnd_false] <;> exact hJ.ret hL hhi hx
  | succ e ih =>
    intro w s xp ps hJ hL hsz hx hl
    apply L39_2_ok
    obtain ⟨a, hRR, h1, h2⟩ := hJ.rq
    obtain ⟨A, c, hb, _⟩ := hRR
    have hal : a + (e + 1) = B.length := by
      have := congrArg List.length h1
      simp at this; omega
    have hae : (a : Int) < B.length := by omega
    have o1 := hJ.o1; have o2 := hJ.o2; have o4 := hJ.o4
    cases hs2 : s.2 with
    | true =>
      have hfin : finK s ps.length = [] := by simp [finK, hs2]
      rw [hfin, List.append_nil]
      simp -implicitDefEqProofs only [L39_2, nilv_some, wpB_some', fa_76_2, ld_4, hb, ldC_some, t3_2, hs2, pr_not, Bool.not_true, gd_ft, gv_ft, pickv_false, cnd_false]
      exact hJ.ret hL hhi hx
    | false =>
      obtain ⟨A', c', rfl, _⟩ := rdV_of_own hx
      by_cases hk : (ps.length : Int) < 1048576
      · have hcond : ∀ (X Y : Prop), cnd (.bool true) X Y = X := fun _ _ => rfl
        simp -implicitDefEqProofs only [L39_2, nilv_some, wpB_some', fa_76_2, fa_76_1, fa_43_1, ld_4, ld_3, ld_28, hb, hJ.b4, ldC_some, t3_2, t3_1, t2_1, hs2, pr_not, Bool.not_false, gd_true, gv_true, len_40, len_28, bp_lss, hae, hk, decide_true, pickv_true, cnd_true, hp_drew]
        have hBy := rq_bytes hBb hJ.rq
        have hn1 : pNum 1 s = (s.1.getD 0 0, (s.1.drop 1, false)) := by
          unfold pNum
          rw [if_neg (fun h => by
            rcases h with h | h
            · rw [hs2] at h; cases h
            · omega)]
          cases h : s.1 with
          | nil => rw [h] at hl; simp at hl
          | cons b bs => simp [leV]
        have hx0 := hBy (s.1.getD 0 0) (getD_mem _ _ (by omega))
        have hfin : finK s ps.length = s.1.getD 0 0 :: finK (s.1.drop 1, false) (ps.length + 1) := by
          unfold finK
          rw [if_neg (by simp [hs2]), if_neg (by simp)]
          cases h : s.1 with
          | nil => rw [h] at hl; simp at hl
          | cons b bs =>
            rw [show 1048576 - ps.length = (1048576 - (ps.length + 1)) + 1 by omega]
            simp
        have body : ∀ (w1 : World), RQ B w1 r (s.1.drop 1, false) → Chg [r] w w1 →
            effv Try.prog (Instr.buildSlice 28 1 #[(0, .int .i64 (s.1.getD 0 0))]) w1 fun y w2 => effv Try.prog (Builtin.append_ #[28, 28] 28 #[.slice A' ps.length c', y]) w2 fun t w3 =>
              effu Try.prog (Instr.storeAt 28 (.pointer (some ⟨g4, 0 + 1, none⟩)) t) w3 fun w => P39_2 (.slice A0 B.length c0) (.pointer (some ⟨g2, 0, none⟩)) (.pointer (some ⟨r, 0, none⟩)) (.pointer (some ⟨g4, 0, none⟩)) w (RP W (done, ps ++ finK s ps.length)) := by
          intro w1 hR1 hc1
          have hc1s := hc1.size
          have hx1 := ownsRow_chg hx hc1 fun k hk hm => by have := (hx.lt k hk).1; simp at hm; omega
          refine ps_28 (by simp) hx1 (by omega) (by omega) fun x' w3 ho3 hg hnb => ?_
          have hc3 := chg_own hg
          have hge := own_ge hx1
          have hJ1 := hJ.step hc1 (by simp) hR1
          have hJ3 := hJ1.step hc3 (fun k hk => .inr ⟨by have := hge k hk; omega, fun h => by have := hvo k h; have := hge k hk; omega⟩) (hR1.chg hc3 fun k hk => by have := hge k hk; omega)
          have hL3 := (hL.chg hc1 (by simp; omega)).chg hc3 fun k hk => .inr (hge k hk)
          have hone : x'.cells = #[x'] ∧ x'.oneCell' = true := by
            obtain ⟨B', d', hx', _⟩ := rdV_of_own ho3
            rw [hx']; exact ⟨rfl, rfl⟩
          have hlt4 := blk_lt hJ3.b4
          have hcs := hc3.size
          rw [st_28 hone.1 hone.2 (by rw [hJ3.b4]; rfl), hJ3.b4]
          have hput : Chg [g4] w3 (put w3 g4 #[vo, x'] 43) := (Chg.refl _ _).put (.inl (by simp)) _ _
          have hJ4 : RJ B W (put w3 g4 #[vo, x'] 43) r g2 g4 (s.1.drop 1, false) vo x' ds :=
            ⟨hJ3.rq.chg hput (by simp; omega), hput.at hJ3.b2 (by simp; omega), by rw [put_heap, if_pos rfl, if_pos hlt4], ownsRow_chg hJ3.own hput fun k hk hm => by have := (hJ3.own.lt k hk).1; simp at hm; omega, o1, o2, o4, Chg.into hJ3.ch hput (by simp; omega)⟩
          have ho4 : (put w3 g4 #[vo, x'] 43).ownsRow hi 3 1 x' (ps ++ [s.1.getD 0 0]).length (ints (ps ++ [s.1.getD 0 0])) := by
            rw [List.length_append, ints_append]
            exact ownsRow_chg ho3 hput fun k hk hm => by have := (ho3.lt k hk).1; simp at hm; omega
          have h := ih (put w3 g4 #[vo, x'] 43) (s.1.drop 1, false) x' (ps ++ [s.1.getD 0 0]) hJ4 (hL3.chg hput (by simp)) (by simp; omega) ho4 (by simp; omega)
          rw [hfin]
          simp only [List.length_append, List.length_singleton, List.append_assoc, List.singleton_append] at h
          exact h
        have call : ∀ K : Value → World → Prop, (∀ w1, RQ B w1 r (s.1.drop 1, false) → Chg [r] w w1 → K (.int .u64 (s.1.getD 0 0)) w1) → CallR Try.prog 58 [.pointer (some ⟨r, 0, none⟩), .int .i64 1] w.drew K := by
          intro K hK
          have hq : RQ B w.drew r s := hJ.rq
          refine (c_lowQ (n := 1) (by omega) hBb hq (by omega)).mono ?_
          rintro v w1 ⟨rfl, hR1, hc1⟩
          rw [hn1] at hR1 ⊢
          exact hK w1 hR1 ((Chg.refl _ _).drew.trans hc1)
        constructor
        · refine call _ fun w1 hR1 hc1 => ?_
          simp -implicitDefEqProofs only [cv_33_3, wpB_some', wrapi (n := s.1.getD 0 0) (by omega) (by omega)]
          exact body w1 hR1 hc1
        · refine call _ fun w1 hR1 hc1 => ?_
          have hb41 := hc1.at hJ.b4 (by simp; omega)
          simp -implicitDefEqProofs only [cv_33_3, wpB_some', wrapi (n := s.1.getD 0 0) (by omega) (by omega), hb41, ldC_some, t2_1]
          exact body w1 hR1 hc1
      · have hfin : finK s ps.length = [] := by
          unfold finK
          rw [if_neg (by simp [hs2]), show 1048576 - ps.length = 0 by omega]; rfl
        rw [hfin, List.append_nil]
        simp -implicitDefEqProofs only [L39_2, nilv_some, wpB_some', fa_76_2, fa_76_1, fa_43_1, ld_4, ld_3, ld_28, hb, hJ.b4, ldC_some, t3_2, t3_1, t2_1, hs2, pr_not, Bool.not_false, gd_true, gv_true, len_40, len_28, bp_lss, hae, hk, decide_true, decide_false, pickv_true, cnd_false, hp_drew]
        exact hJ.ret hL hhi hx
/-! ### the lists -/
theorem l_rin {B : List Int} (hB : B.length ≤ 1000000) (hBb : IsBytes B) {W : World} {r g2 g4 hi n : Nat} {ds : List Value} {m : Nat} {done : List (List OpV)} {vo : Value} {x0 : Value} (hhi : g4 < hi) (hvo : ∀ k, vo.ownBlock = some k → k < hi) {many : Nat} (hmany : many ≤ 1000)
    (next : ∀ (w : World) (s : Rst) (x : Value) (acc : List OpV), RJ B W w r g2 g4 s vo nilS ds → LOs w g4 hi ds done → w.ownsRow hi 52 6 x acc.length (acc.flatMap opC) → hi ≤ w.heap.size →
      effv Try.prog (Instr.buildSlice 41 1 #[(0, x)]) w fun y w2 => effv Try.prog (Builtin.append_ #[41, 41] 41 #[vo, y]) w2 fun t w3 => effu Try.prog (Instr.storeAt 41 (.pointer (some ⟨g4, 0 + 0, none⟩)) t) w3 fun w =>
        P39_0 x0 (.pointer (some ⟨g2, 0, none⟩)) (.pointer (some ⟨r, 0, none⟩)) (.pointer (some ⟨g4, 0, none⟩)) (.int .i64 n) (.int .i64 ((ds.length : Int) + 1)) w (RP W (done ++ acc :: (pLists m s).1, fin (pLists m s).2)))
    (hds : ds.length ≤ 64) :
    ∀ (e j : Nat) (w : World) (s : Rst) (x : Value) (acc : List OpV), RJ B W w r g2 g4 s vo nilS ds → LOs w g4 hi ds done → w.ownsRow hi 52 6 x acc.length (acc.flatMap opC) → hi ≤ w.heap.size → acc.length ≤ j → j + e = many →
      P39_1 x0 (.pointer (some ⟨g2, 0, none⟩)) (.pointer (some ⟨r, 0, none⟩)) (.pointer (some ⟨g4, 0, none⟩)) (.int .i64 n) (.int .i64 ds.length) x (.int .i64 many) (.int .i64 j) w
        (RP W (done ++ (acc ++ (pOps e s).1) :: (pLists m (pOps e s).2).1, fin (pLists m (pOps e s).2).2)) := by
  intro e
  induction e with
  | zero =>
    intro j w s x acc hJ hL ho hsz hacc hj
    apply L39_1_ok
    have : ¬ ((j : Int) < many) := by omega
    simp -implicitDefEqProofs only [L39_1, wpB_some', bp_lss, this, decide_false, gd_ft, gv_ft, pickv_false, cnd_false, fa_43_0, ld_41, hJ.b4, ldC_some, t2_0, bp_add, wrapi (n := (ds.length : Int) + 1) (by omega) (by omega), pOps, List.append_nil]
    exact next w s x acc hJ hL ho hsz
  | succ e ih =>
    intro j w s x acc hJ hL ho hsz hacc hj
    apply L39_1_ok
    have hlt : (j : Int) < many := by omega
    obtain ⟨a, ⟨A, c, hb, _⟩, _⟩ := hJ.rq
    have o1 := hJ.o1; have o2 := hJ.o2; have o4 := hJ.o4
    cases hs2 : s.2 with
    | true =>
      have e1 : s = (s.1, true) := by rw [← hs2]
      have e2 : pOps (e + 1) s = ([], s) := by rw [e1]; exact pOps_end _ _
      simp -implicitDefEqProofs only [L39_1, wpB_some', bp_lss, hlt, decide_true, gd_true, gv_true, nilv_some, fa_76_2, ld_4, hb, ldC_some, t3_2, hs2, pr_not, Bool.not_true, pickv_true, cnd_false, fa_43_0, ld_41, hJ.b4, t2_0, bp_add, wrapi (n := (ds.length : Int) + 1) (by omega) (by omega), e2, List.append_nil]
      exact next w s x acc hJ hL ho hsz
    | false =>
      simp -implicitDefEqProofs only [L39_1, wpB_some', bp_lss, hlt, decide_true, gd_true, gv_true, nilv_some, fa_76_2, ld_4, hb, ldC_some, t3_2, hs2, pr_not, Bool.not_false, pickv_true, cnd_true]
      have hsb := rq_bytes hBb hJ.rq
      refine (c_Rop (by omega) hBb hsb hJ.rq).mono ?_
      rintro v w1 ⟨rfl, hR1, hc1⟩
      have hJ1 := hJ.step hc1 (by simp) hR1
      have hc1s := hc1.size
      simp -implicitDefEqProofs only [al_52]
      rw [st_52 (by rfl) (by rfl) (by rw [alloc_heap, if_pos rfl]; rfl) (by rw [alloc_heap, if_pos rfl]; rfl), alloc_heap, if_pos rfl]
      simp -implicitDefEqProofs only [getE_some]
      have hc2 : Chg [] w1 (put (w1.alloc (.cells #[.int .i64 0, .int .i64 0, .int .i64 0, .int .i64 0, .int .u64 0, .int .u64 0] 52)) w1.heap.size (opC (pOp s).1).toArray 52) := ((Chg.refl _ _).alloc _).put (.inr (Nat.le_refl _)) _ _
      have h7 : hp (put (w1.alloc (.cells #[.int .i64 0, .int .i64 0, .int .i64 0, .int .i64 0, .int .u64 0, .int .u64 0] 52)) w1.heap.size (opC (pOp s).1).toArray 52) w1.heap.size = some (.cells (opC (pOp s).1).toArray 52) := by rw [put_heap, if_pos rfl, if_pos (by simp)]
      have hsz2 : (put (w1.alloc (.cells #[.int .i64 0, .int .i64 0, .int .i64 0, .int .i64 0, .int .u64 0, .int .u64 0] 52)) w1.heap.size (opC (pOp s).1).toArray 52).heap.size = w1.heap.size + 1 := by simp
      generalize put (w1.alloc (.cells #[.int .i64 0, .int .i64 0, .int .i64 0, .int .i64 0, .int .u64 0, .int .u64 0] 52)) w1.heap.size (opC (pOp s).1).toArray 52 = w2 at *
      have hJ2 := hJ1.step hc2 (by simp) (hR1.chg hc2 (by simp))
      have ho2 := ownsRow_chg (ownsRow_chg ho hc1 fun k hk hm => by have := (ho.lt k hk).1; simp at hm; omega) hc2 (by simp)
      have hL2 := (hL.chg hc1 (by simp; omega)).chg hc2 (by simp)
      obtain ⟨a', ⟨A', c', hb', _⟩, _⟩ := hJ2.rq
      have after : ∀ (w : World) (x : Value) (acc' : List OpV), RJ B W w r g2 g4 (pOp s).2 vo nilS ds → LOs w g4 hi ds done → w.ownsRow hi 52 6 x acc'.length (acc'.flatMap opC) → hi ≤ w.heap.size → acc'.length ≤ j + 1 →
          acc' ++ (pOps e (pOp s).2).1 = acc ++ (pOps (e + 1) s).1 → (pOps e (pOp s).2).2 = (pOps (e + 1) s).2 →
          P39_3 x0 (.pointer (some ⟨g2, 0, none⟩)) (.pointer (some ⟨r, 0, none⟩)) (.pointer (some ⟨g4, 0, none⟩)) (.int .i64 n) (.int .i64 ds.length) x (.int .i64 many) (.int .i64 j) w
            (RP W (done ++ (acc ++ (pOps (e + 1) s).1) :: (pLists m (pOps (e + 1) s).2).1, fin (pLists m (pOps (e + 1) s).2).2)) := by
        intro w x acc' hJ hL ho hsz hl e1 e2
        apply L39_3_ok
        simp -implicitDefEqProofs only [L39_3, bp_add, wpB_some', wrapi (n := (j : Int) + 1) (by omega) (by omega)]
        have h := ih (j + 1) w (pOp s).2 x acc' hJ hL ho hsz hl (by omega)
        rw [e1, e2, Int.natCast_add j 1] at h
        exact h
      simp -implicitDefEqProofs only [wpB_some', nilv_some, fa_76_2, ld_4, hb', ldC_some, t3_2, pr_not]
      cases hs3 : (pOp s).2.2 with
      | true =>
        have e1 : (pOp s).2 = ((pOp s).2.1, true) := by rw [← hs3]
        have e3 : pOps (e + 1) s = ([], (pOp s).2) := by rw [pOps, if_pos hs3]
        have e4 : pOps e (pOp s).2 = ([], (pOp s).2) := by rw [e1]; exact pOps_end _ _
        simp -implicitDefEqProofs only [Bool.not_true, cnd_false]
        exact after w2 x acc hJ2 hL2 ho2 (by omega) (by omega) (by rw [e3, e4]) (by rw [e3, e4])
      | false =>
        have e3 : pOps (e + 1) s = ((pOp s).1 :: (pOps e (pOp s).2).1, (pOps e (pOp s).2).2) := by rw [pOps, if_neg (by simp [hs3])]
        have hop : ldv Try.prog 52 (.pointer (some ⟨w1.heap.size, 0, none⟩)) w2 = some (.agg (opC (pOp s).1).toArray) := by
          rw [ld_52, h7]; rfl
        simp -implicitDefEqProofs only [Bool.not_false, cnd_true, hop, wpB_some']
        refine ps_67 (by simp) ho2 (by omega) (by omega) fun x' w3 ho3 hg _ => ?_
        have hc3 := chg_own hg
        have hge := own_ge ho2
        have hcs := hc3.size
        have ho3' : w3.ownsRow hi 52 6 x' (acc ++ [(pOp s).1]).length ((acc ++ [(pOp s).1]).flatMap opC) := by
          rw [flat_snoc, List.length_append]; exact ho3
        exact after w3 x' (acc ++ [(pOp s).1]) (hJ2.step hc3 (fun k hk => .inr ⟨by have := hge k hk; omega, fun h => by have := hvo k h; have := hge k hk; omega⟩) (hJ2.rq.chg hc3 fun k hk => by have := hge k hk; omega))
          (hL2.chg hc3 fun k hk => .inr (hge k hk)) ho3' (by omega) (by simp; omega) (by rw [e3]; simp) (by rw [e3])
end Go.Proofs.Ytkploakfdlnbbaa
