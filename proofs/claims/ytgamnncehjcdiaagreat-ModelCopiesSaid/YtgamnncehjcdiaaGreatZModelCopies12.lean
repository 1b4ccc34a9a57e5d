/- Parts of the proof of ModelCopies, one behind the other. Conditions: none. -/
import Derived.Test.YtgamnncehjcdiaaGreatZModelCopies11
set_option linter.unusedSimpArgs false
set_option linter.unusedVariables false
set_option maxRecDepth 10000
namespace Go.Proofs.YtgamnncehjcdiaaGreat
open Go Ev Go.RowKit

section
variable {w : World} {g : Nat} {x : RfV} {s gn r d h : Value}
def liveX (x : RfV) (n : Int) : Int × Bool := if 0 ≤ n ∧ n < x.state.length then (if x.state.getD n.toNat 0 = 1 then (x.gen.getD n.toNat 0, true) else (0, false)) else (0, false)
set_option maxHeartbeats 1000000 in
theorem c_rLive (R : RfR w g x s gn r d h) (hs : (x.state.length : Int) = x.c.2.2.2.1) (hg : x.gen.length = x.state.length) (n : Int) : CallR Tryz.prog 82 [.pointer (some ⟨g, 0, none⟩), .int .i64 n] w fun v w' => v = .tuple #[.int .i64 (liveX x n).1, .bool (liveX x n).2] ∧ w' = w := by
  apply F82_ok
  obtain ⟨A, c, rfl, hR⟩ := ints_sh R.sT
  obtain ⟨A2, c2, rfl, hR2⟩ := ints_sh R.gT
  have hc3 : ldC (hp w g) (0 + 0 + 3) = some (.int .i64 x.state.length) := by rw [hs]; exact R.c 3 (by omega)
  by_cases h0 : n < 0
  · simp -implicitDefEqProofs only [F82, zS, h0]
    rw [liveX, if_neg (by omega)]
    exact ⟨by first | rfl | trivial, trivial⟩
  by_cases h1 : (x.state.length : Int) ≤ n
  · simp -implicitDefEqProofs only [F82, zS, h0, fa_108_0, fa_33_3, af, hc3, aH, ge_iff_le, h1]
    rw [liveX, if_neg (by omega)]
    exact ⟨by first | rfl | trivial, trivial⟩
  obtain ⟨i, rfl⟩ : ∃ i : Nat, n = i := ⟨n.toNat, by omega⟩
  have hil : i < x.state.length := by omega
  obtain ⟨q, q1, q2⟩ := int_at (c := c) hR (List.getElem?_eq_getElem hil)
  obtain ⟨p, p1, p2⟩ := int_at (c := c2) hR2 (List.getElem?_eq_getElem (show i < x.gen.length by omega))
  have e1 : x.state.getD i 0 = x.state[i] := by rw [List.getD_eq_getElem?_getD, List.getElem?_eq_getElem hil]; rfl
  have e2 : x.gen.getD i 0 = x.gen[i] := by rw [List.getD_eq_getElem?_getD, List.getElem?_eq_getElem (show i < x.gen.length by omega)]; rfl
  have lv : liveX x (i : Int) = if x.state[i] = 1 then (x.gen[i], true) else (0, false) := by rw [liveX, if_pos (by omega), Int.toNat_natCast, e1, e2]
  by_cases hz : x.state[i] = 1
  · have e3 : (x.state[i] != 1) = false := by rw [hz]; rfl
    simp -implicitDefEqProofs only [F82, zS, h0, fa_108_0, fa_108_2, fa_108_3, fa_33_3, af, hc3, aH, ge_iff_le, h1, aY, R.sl, R.gl, q1]
    rw [← af] at *
    simp -implicitDefEqProofs only [q2, e3, zS, p1, p2]
    rw [lv, if_pos hz]
    exact ⟨by first | rfl | trivial, trivial⟩
  · have e3 : (x.state[i] != 1) = true := bne_iff_ne.2 hz
    simp -implicitDefEqProofs only [F82, zS, h0, fa_108_0, fa_108_2, fa_33_3, af, hc3, aH, ge_iff_le, h1, aY, R.sl, q1]
    simp -implicitDefEqProofs only [q2, e3, zS]
    rw [lv, if_neg hz]
    exact ⟨by first | rfl | trivial, trivial⟩
def rgA (p : RgV × Bool) (cv wv ov : Value) : Array Value := #[.int .i64 p.1.nm.1, .int .i64 p.1.nm.2, .int .i64 p.1.cls, .int .i64 p.1.off, .bool p.2, cv, wv, ov]
theorem ld_rg {b o : Nat} {p : RgV × Bool} {cv wv ov : Value} (Q : RrR w b o p cv wv ov) : ldv Tryz.prog 130 (.pointer (some ⟨b, o, none⟩)) w = some (.agg (rgA p cv wv ov)) := by
  rw [ld_130, ldL_take 8 o [.int .i64 p.1.nm.1, .int .i64 p.1.nm.2, .int .i64 p.1.cls, .int .i64 p.1.off, .bool p.2, cv, wv, ov] rfl fun j u hj => by
    have hj' := (List.getElem?_eq_some_iff.1 hj).1
    simp at hj'
    have h7 : j = 0 ∨ j = 1 ∨ j = 2 ∨ j = 3 ∨ j = 4 ∨ j = 5 ∨ j = 6 ∨ j = 7 := by omega
    rcases h7 with rfl | rfl | rfl | rfl | rfl | rfl | rfl | rfl <;> cases hj
    · exact Q.c0
    · exact Q.c1
    · exact Q.c2
    · exact Q.c3
    · exact Q.c4
    · exact Q.c5
    · exact Q.c6
    · exact Q.c7]
  rfl
set_option maxHeartbeats 1000000 in
theorem c_rAt {p : RgV × Bool} {A : Option Addr} {c : Nat} {wv ov : Value} (hR : RdI .i64 w A p.1.chunks) (hl : p.1.chunks.length ≤ 1000000) (y : Int) : CallR Tryz.prog 83 [.agg (rgA p (.slice A p.1.chunks.length c) wv ov), .int .i64 y] w fun v w' => v = .int .i64 (ixOf p.1.chunks y) ∧ Chg [] w w' := by
  apply F83_ok
  have b2 : hp (w.alloc (.cells (rgA p (.slice A p.1.chunks.length c) wv ov) 130)) w.heap.size = some (.cells (rgA p (.slice A p.1.chunks.length c) wv ov) 130) := by rw [ac, if_pos rfl]
  have c0 : Chg [] w (w.alloc (.cells (rgA p (.slice A p.1.chunks.length c) wv ov) 130)) := (Chg.refl _ _).alloc _
  simp -implicitDefEqProofs only [F83, aE, aB]
  generalize w.alloc (.cells (rgA p (.slice A p.1.chunks.length c) wv ov) 130) = w0 at *
  generalize w.heap.size = g2 at *
  have hR0 := hR.keep c0.below
  have e5 : (rgA p (.slice A p.1.chunks.length c) wv ov)[0 + 5]? = some (.slice A p.1.chunks.length c) := rfl
  have main : ∀ (d i : Nat), (∀ (j : Nat) (z : Int), j < i → p.1.chunks[j]? = some z → z ≠ y) → i + d = p.1.chunks.length →
      P83_0 (.int .i64 y) (.pointer (some ⟨g2, 0, none⟩)) (.int .i64 i) w0 fun v w' => v = .int .i64 (ixOf p.1.chunks y) ∧ Chg [] w w' := by
    intro d
    induction d with
    | zero =>
      intro i hn hi
      apply L83_0_ok
      have : ¬ (i : Int) < p.1.chunks.length := by omega
      simp -implicitDefEqProofs only [L83_0, zS, fa_130_5, aY, b2, e5, len_22, this]
      rw [ixOf_none fun j z hj => hn j z (by have := (List.getElem?_eq_some_iff.1 hj).1; omega) hj]
      exact ⟨rfl, c0⟩
    | succ d ih =>
      intro i hn hi
      apply L83_0_ok
      have hlt : (i : Int) < p.1.chunks.length := by omega
      have hil : i < p.1.chunks.length := by omega
      obtain ⟨z, hz⟩ : ∃ z, p.1.chunks[i]? = some z := ⟨_, List.getElem?_eq_getElem hil⟩
      obtain ⟨q, q1, q2⟩ := int_at (c := c) hR0 hz
      by_cases hzy : z = y
      · have e : (z == y) = true := by rw [hzy]; exact beq_self_eq_true _
        simp -implicitDefEqProofs only [L83_0, zS, fa_130_5, aY, b2, e5, len_22, hlt, q1, q2, e]
        rw [ixOf_some hz hzy hn]
        exact ⟨rfl, c0⟩
      · simp -implicitDefEqProofs only [L83_0, zS, fa_130_5, aY, b2, e5, len_22, hlt, q1, q2, eqf hzy, aA, az (n := (i : Int) + 1) (by omega) (by omega)]
        have := ih (i + 1) (fun j u hj hu => by
          rcases Nat.lt_or_ge j i with h1 | h1
          · exact hn j u h1 hu
          · have : j = i := by omega
            subst this
            rw [hz] at hu; cases hu; exact hzy) (by omega)
        rw [Int.natCast_add i 1] at this
        exact this
  exact main p.1.chunks.length 0 (fun j r hj => by omega) (by omega)
def knownX (x : RfV) (a : HnV) : Bool × Bool := match findX x.rgs (nmOf a) with
  | none => (false, false)
  | some i => (decide (a.2.2.1 = 0 ∧ a.2.2.2.1 = 0 ∧ a.2.2.2.2 = 0), match x.rgs[i]? with | some p => decide (a ∈ p.1.objs) | none => false)
theorem findX_at {L : List (RgV × Bool)} {n : NmV} {i : Nat} (h : findX L n = some i) : ∃ p, L[i]? = some p ∧ p.1.nm = n := by
  obtain ⟨r, h1, h2⟩ := findR_at h
  rw [List.getElem?_map] at h1
  cases hq : L[i]? with
  | none => rw [hq] at h1; cases h1
  | some p => rw [hq] at h1; cases h1; exact ⟨p, rfl, h2⟩
set_option maxHeartbeats 2000000 in
theorem c_rKnown (R : RfR w g x s gn r d h) (hl : x.rgs.length ≤ 1000000) (ho : ∀ p ∈ x.rgs, p.1.objs.length ≤ 1000000) (a : HnV) : CallR Tryz.prog 105 [.pointer (some ⟨g, 0, none⟩), .agg (hnC a).toArray] w fun v w' => v = .tuple #[.bool (knownX x a).1, .bool (knownX x a).2] ∧ Chg [] w w' := by
  apply F105_ok
  have b3 : hp (w.alloc (.cells (hnC a).toArray 25)) w.heap.size = some (.cells (hnC a).toArray 25) := by rw [ac, if_pos rfl]
  have c0 : Chg [] w (w.alloc (.cells (hnC a).toArray 25)) := (Chg.refl _ _).alloc _
  simp -implicitDefEqProofs only [F105, aE, aB]
  generalize w.alloc (.cells (hnC a).toArray 25) = w0 at *
  generalize w.heap.size = g3 at *
  have R0 := R.keep c0
  have e0 : (hnC a).toArray[0 + 0]? = some (.int .i64 a.1) := rfl
  have e1 : (hnC a).toArray[0 + 1]? = some (.int .i64 a.2.1) := rfl
  have e2 : (hnC a).toArray[0 + 2]? = some (.int .i64 a.2.2.1) := rfl
  have e3 : (hnC a).toArray[0 + 3]? = some (.int .i64 a.2.2.2.1) := rfl
  have e4 : (hnC a).toArray[0 + 4]? = some (.int .i64 a.2.2.2.2) := rfl
  simp -implicitDefEqProofs only [zS, ba, fa_25_1, af, b3, e0, e1]
  refine (c_rFind R0 (nmOf a) hl).step ?_
  cases hf : findX x.rgs (nmOf a) with
  | none =>
    have kv : knownX x a = (false, false) := by rw [knownX, hf]
    have hneg : (-1 : Int) < 0 := by omega
    simp -implicitDefEqProofs only [ixR, zS, hneg]
    rw [kv]
    exact ⟨by first | rfl | trivial, c0⟩
  | some i =>
    obtain ⟨p, hp', hnm⟩ := findX_at hf
    have kv : knownX x a = (decide (a.2.2.1 = 0 ∧ a.2.2.2.1 = 0 ∧ a.2.2.2.2 = 0), decide (a ∈ p.1.objs)) := by rw [knownX, hf]; simp only [hp']
    have hol := ho p (List.mem_of_getElem? hp')
    have hnn : ¬ (i : Int) < 0 := by omega
    obtain ⟨Fr, hFr⟩ := R0.rT
    obtain ⟨b, c, rfl, cv, wv, ov, Q⟩ := rr_at hFr hp'
    obtain ⟨A, co, rfl, hR⟩ := objs_sh Q.oT
    have hi := (List.getElem?_eq_some_iff.1 hp').1
    have ia := ia_105 (b := b) (p := 0) (n := x.rgs.length) (c := c) (j := .i64) (i := (i : Int)) (by omega) (by omega)
    rw [Int.toNat_natCast, Nat.zero_add] at ia
    have main : ∀ (t : Bool) (d k : Nat) (w1 : World), Chg [] w0 w1 → (∀ (j : Nat) (y : HnV), j < k → p.1.objs[j]? = some y → y ≠ a) → k + d = p.1.objs.length →
        P105_0 (.pointer (some ⟨g, 0, none⟩)) (.pointer (some ⟨g3, 0, none⟩)) (.int .i64 i) (.bool t) (.int .i64 k) w1 fun v w' => v = .tuple #[.bool t, .bool (decide (a ∈ p.1.objs))] ∧ Chg [] w w' := by
      intro t d
      induction d with
      | zero =>
        intro k w1 c1 hn hk
        apply L105_0_ok
        have : ¬ (k : Int) < p.1.objs.length := by omega
        have R1 := R0.keep c1
        have Q1 := Q.keep c1
        simp -implicitDefEqProofs only [L105_0, zS, aJ, aM, R1.rl, ia, fa_130_7, ld_44, Q1.c7, len_44, this]
        refine ⟨?_, c0.trans c1⟩
        rw [decide_eq_false (fun hm => by
          obtain ⟨j, hj⟩ := List.getElem?_of_mem hm
          exact hn j a (by have := (List.getElem?_eq_some_iff.1 hj).1; omega) hj rfl)]
      | succ d ih =>
        intro k w1 c1 hn hk
        apply L105_0_ok
        have hlt : (k : Int) < p.1.objs.length := by omega
        have hkl : k < p.1.objs.length := by omega
        have cd1 : Chg [] w0 w1.drew := c1.drew
        have R1 := R0.keep c1
        have Q1 := Q.keep c1
        have R1d := R0.keep cd1
        have Q1d := Q.keep cd1
        obtain ⟨y, hy⟩ : ∃ y, p.1.objs[k]? = some y := ⟨_, List.getElem?_eq_getElem hkl⟩
        obtain ⟨bb, oo, q1, _, q3, _⟩ := (hR.keep cd1.below).elem (P := Tryz.prog) (c := co) (n := p.1.objs.length) (i := (k : Int)) (j := .i64) Tryz.underlying44 sz_25 (by omega) (by rw [bf hnC_len]; exact Nat.le_refl _) (by omega) (by omega)
        have hyl : p.1.objs[k] = y := by rw [List.getElem?_eq_getElem hkl] at hy; exact Option.some.inj hy
        rw [Int.toNat_natCast, flat_at hnC_len p.1.objs k hkl, hyl] at q3
        have ly : ldv Tryz.prog 25 (.pointer (some ⟨bb, oo, none⟩)) w1.drew = some (.agg (hnC y).toArray) := by rw [ld_25, q3]; rfl
        have lx := ld_hn (show hp w1.drew g3 = _ from c1.at b3 (by simp))
        have hbe : be Tryz.prog .eql 25 (.tmp 53) (.tmp 54) (.agg (hnC y).toArray) (.agg (hnC a).toArray) = some (.bool (decide (y = a))) := by
          rw [← hn_beq]; exact be_eql_25
        simp -implicitDefEqProofs only [L105_0, zS, aJ, aM, R1.rl, R1d.rl, ia, fa_130_7, ld_44, Q1.c7, Q1d.c7, len_44, hlt, q1, ly, lx, hbe]
        by_cases hya : y = a
        · simp -implicitDefEqProofs only [decide_eq_true hya, zS]
          refine ⟨?_, c0.trans cd1⟩
          rw [decide_eq_true (by rw [← hya]; exact List.mem_of_getElem? hy)]
        · simp -implicitDefEqProofs only [decide_eq_false hya, zS, aA, az (n := (k : Int) + 1) (by omega) (by omega)]
          have := ih (k + 1) w1.drew cd1 (fun j z hj hz => by
            rcases Nat.lt_or_ge j k with h1 | h1
            · exact hn j z h1 hz
            · have : j = k := by omega
              subst this
              rw [hy] at hz; cases hz; exact hya) (by omega)
          rw [Int.natCast_add k 1] at this
          exact this
    have fin := fun t => main t p.1.objs.length 0 w0 (Chg.refl _ _) (fun j y hj => by omega) (by omega)
    rw [kv]
    by_cases h2 : a.2.2.1 = 0
    · have k2 : (a.2.2.1 == 0) = true := by rw [h2]; rfl
      by_cases h3 : a.2.2.2.1 = 0
      · have k3 : (a.2.2.2.1 == 0) = true := by rw [h3]; rfl
        by_cases h4 : a.2.2.2.2 = 0
        · have k4 : (a.2.2.2.2 == 0) = true := by rw [h4]; rfl
          simp -implicitDefEqProofs only [ixR, zS, hnn, bm, fa_25_3, fa_25_4, af, b3, e2, e3, e4, k2, k3, k4]
          rw [decide_eq_true ⟨h2, h3, h4⟩]
          exact fin true
        · simp -implicitDefEqProofs only [ixR, zS, hnn, bm, fa_25_3, fa_25_4, af, b3, e2, e3, e4, k2, k3, eqf h4]
          rw [decide_eq_false (show ¬ (a.2.2.1 = 0 ∧ a.2.2.2.1 = 0 ∧ a.2.2.2.2 = 0) from fun h => h4 h.2.2)]
          exact fin false
      · simp -implicitDefEqProofs only [ixR, zS, hnn, bm, fa_25_3, af, b3, e2, e3, k2, eqf h3]
        rw [decide_eq_false (show ¬ (a.2.2.1 = 0 ∧ a.2.2.2.1 = 0 ∧ a.2.2.2.2 = 0) from fun h => h3 h.2.1)]
        exact fin false
    · simp -implicitDefEqProofs only [ixR, zS, hnn, bm, af, b3, e2, eqf h2]
      rw [decide_eq_false (show ¬ (a.2.2.1 = 0 ∧ a.2.2.2.1 = 0 ∧ a.2.2.2.2 = 0) from fun h => h2 h.1)]
      exact fin false
def goodX (x : RfV) (k : Int) (a : HnV) : Bool := if ofK k = 1 then (knownX x a).1 else if ofK k = 2 then (knownX x a).2 else if ofK k = 3 then (knownX x a).1 || (knownX x a).2 else true
set_option maxHeartbeats 1000000 in
theorem c_rGood (R : RfR w g x s gn r d h) (hl : x.rgs.length ≤ 1000000) (ho : ∀ p ∈ x.rgs, p.1.objs.length ≤ 1000000) (o : OpV) (a : HnV) : CallR Tryz.prog 78 [.pointer (some ⟨g, 0, none⟩), .agg (opC o).toArray, .agg (hnC a).toArray] w fun v w' => v = .bool (goodX x o.1 a) ∧ Chg [] w w' := by
  apply F78_ok
  simp -implicitDefEqProofs only [F78, aE, aB, ae]
  generalize hw : (w.alloc (.cells (opC o).toArray 39)).alloc _ = w1
  have c1 : Chg [] w w1 := by rw [← hw]; exact ((Chg.refl _ _).alloc _).alloc _
  have a4 : hp w1 w.heap.size = some (.cells (opC o).toArray 39) := by rw [← hw, ac, ae, if_neg (by omega), ac, if_pos rfl]
  have a5 : hp w1 (w.heap.size + 1) = some (.cells (hnC a).toArray 25) := by rw [← hw, ac, ae, if_pos rfl]
  clear hw
  simp -implicitDefEqProofs only [ld_hn a5, ad]
  refine (c_rKnown (R.keep c1) hl ho a).mono ?_
  rintro _ w2 ⟨rfl, c2⟩
  have c02 := c1.trans c2
  have a42 := c2.at a4 (by simp)
  simp -implicitDefEqProofs only [tup0, tup1, zS, aj, af, a42, aC]
  refine (c_Of o.1 w2).step ?_
  have gx : goodX x o.1 a = if ofK o.1 = 1 then (knownX x a).1 else if ofK o.1 = 2 then (knownX x a).2 else if ofK o.1 = 3 then (knownX x a).1 || (knownX x a).2 else true := rfl
  rw [gx]
  by_cases k1 : ofK o.1 = 1
  · have q : (ofK o.1 == 1) = true := by rw [k1]; rfl
    simp -implicitDefEqProofs only [zS, q]
    rw [if_pos k1]; exact ⟨by first | rfl | trivial, c02⟩
  by_cases k2 : ofK o.1 = 2
  · have q : (ofK o.1 == 2) = true := by rw [k2]; rfl
    simp -implicitDefEqProofs only [zS, eqf k1, q]
    rw [if_neg k1, if_pos k2]; exact ⟨by first | rfl | trivial, c02⟩
  by_cases k3 : ofK o.1 = 3
  · have q : (ofK o.1 == 3) = true := by rw [k3]; rfl
    cases hk : (knownX x a).1 with
    | true =>
      simp -implicitDefEqProofs only [zS, eqf k1, eqf k2, q]
      rw [if_neg k1, if_neg k2, if_pos k3]; exact ⟨by first | rfl | trivial | simp, c02⟩
    | false =>
      simp -implicitDefEqProofs only [zS, eqf k1, eqf k2, q]
      rw [if_neg k1, if_neg k2, if_pos k3]; exact ⟨by first | rfl | trivial | simp, c02⟩
  · simp -implicitDefEqProofs only [zS, eqf k1, eqf k2, eqf k3]
    rw [if_neg k1, if_neg k2, if_neg k3]; exact ⟨by first | rfl | trivial, c02⟩
end
end Go.Proofs.YtgamnncehjcdiaaGreat

namespace Go.Proofs.YtgamnncehjcdiaaGreat
open Go Ev Go.RowKit

section
variable {w : World} {g : Nat} {x : RfV} {s gn r d h : Value} {F : Fp}
theorem hold_at {L : List (List NmV)} {F : Fp} {y : Value} (hh : holdsT L w F y) {i : Nat} {l : List NmV} (hi : L[i]? = some l) : ∃ b c v, y = .slice (some ⟨b, 0, none⟩) L.length c ∧ ldC (hp w b) i = some v ∧ ∃ F, keysT l w F v := by
  obtain ⟨b, c, v, Fk, hx, _, _, _, hld, hv, _⟩ := isRow.cell hh (good_holdsL L) (k := i) (P := keysT l) (by rw [List.getElem?_map, hi]; rfl)
  exact ⟨b, c, v, hx, hld, Fk, hv⟩
theorem keys_sh {L : List NmV} {v : Value} (hh : ∃ F, keysT L w F v) : ∃ A c, v = .slice A L.length c ∧ RdV w A (L.flatMap nmC) := by
  obtain ⟨F, hh⟩ := hh
  obtain ⟨h1, _⟩ := flat_own hh
  obtain ⟨A, c, e, r, _⟩ := rdV_of_own h1
  exact ⟨A, c, e, r⟩
set_option maxHeartbeats 1000000 in
theorem c_rHas (R : RfR w g x s gn r d h) {n : Int} (n0 : 0 ≤ n) {l : List NmV} (hl : x.holds[n.toNat]? = some l) (hll : l.length ≤ 1000000) (nm : NmV) : CallR Tryz.prog 80 [.pointer (some ⟨g, 0, none⟩), .int .i64 n, .int .i64 nm.1, .int .i64 nm.2] w fun v w' => v = .bool (decide (nm ∈ l)) ∧ w' = w := by
  apply F80_ok
  simp -implicitDefEqProofs only [F80]
  obtain ⟨Fh, hFh⟩ := R.hT
  obtain ⟨b, c, v, rfl, hv, hk⟩ := hold_at hFh hl
  obtain ⟨A, co, rfl, hR⟩ := keys_sh hk
  have hn := (List.getElem?_eq_some_iff.1 hl).1
  have ia := ia_106 (b := b) (p := 0) (n := x.holds.length) (c := c) (j := .i64) (i := n) (by omega) (by omega)
  rw [Nat.zero_add, Nat.mul_one] at ia
  have main : ∀ (d i : Nat), (∀ (j : Nat) (y : NmV), j < i → l[j]? = some y → y ≠ nm) → i + d = l.length →
      P80_0 (.pointer (some ⟨g, 0, none⟩)) (.int .i64 n) (.int .i64 nm.1) (.int .i64 nm.2) (.int .i64 i) w fun v w' => v = .bool (decide (nm ∈ l)) ∧ w' = w := by
    intro d
    induction d with
    | zero =>
      intro i hne hi
      apply L80_0_ok
      have : ¬ (i : Int) < l.length := by omega
      simp -implicitDefEqProofs only [L80_0, zS, fa_108_6, ld_106, R.hl, ia, ld_131, hv, len_131, this]
      rw [decide_eq_false (fun hm => by
        obtain ⟨j, hj⟩ := List.getElem?_of_mem hm
        exact hne j nm (by have := (List.getElem?_eq_some_iff.1 hj).1; omega) hj rfl)]
      exact ⟨by first | rfl | trivial, trivial⟩
    | succ d ih =>
      intro i hne hi
      apply L80_0_ok
      have hlt : (i : Int) < l.length := by omega
      have hil : i < l.length := by omega
      obtain ⟨y, hy⟩ : ∃ y, l[i]? = some y := ⟨_, List.getElem?_eq_getElem hil⟩
      obtain ⟨bb, oo, q1, _, q3, _⟩ := hR.elem (P := Tryz.prog) (c := co) (n := l.length) (i := (i : Int)) (j := .i64) Tryz.underlying131 sz_136 (by omega) (by rw [bf nmC_len]; exact Nat.le_refl _) (by omega) (by omega)
      have hyl : l[i] = y := by rw [List.getElem?_eq_getElem hil] at hy; exact Option.some.inj hy
      rw [Int.toNat_natCast, flat_at nmC_len l i hil, hyl] at q3
      have ly : ldv Tryz.prog 136 (.pointer (some ⟨bb, oo, none⟩)) w = some (.agg (nmC y).toArray) := by rw [ld_136, q3]; rfl
      have hbe : be Tryz.prog .eql 136 (.tmp 31) (.tmp 34) (.agg (nmC y).toArray) (.agg #[.int .i64 nm.1, .int .i64 nm.2]) = some (.bool (decide (y = nm))) := by
        rw [← nm_beq]; exact be_eql_136
      simp -implicitDefEqProofs only [L80_0, zS, fa_108_6, ld_106, R.hl, ia, ld_131, hv, len_131, hlt, q1, ly, bd_136_0_1, hbe]
      by_cases hyn : y = nm
      · simp -implicitDefEqProofs only [decide_eq_true hyn, zS]
        rw [decide_eq_true (by rw [← hyn]; exact List.mem_of_getElem? hy)]
        exact ⟨by first | rfl | trivial, trivial⟩
      · simp -implicitDefEqProofs only [decide_eq_false hyn, zS, aA, az (n := (i : Int) + 1) (by omega) (by omega)]
        have := ih (i + 1) (fun j z hj hz => by
          rcases Nat.lt_or_ge j i with h1 | h1
          · exact hne j z h1 hz
          · have : j = i := by omega
            subst this
            rw [hy] at hz; cases hz; exact hyn) (by omega)
        rw [Int.natCast_add i 1] at this
        exact this
  exact main l.length 0 (fun j y hj => by omega) (by omega)
set_option maxHeartbeats 2000000 in
theorem c_rFits (R : RfR w g x s gn r d h) {i : Nat} {p : RgV × Bool} (hp' : x.rgs[i]? = some p) (hl : x.rgs.length ≤ 1000000) (n : Int) : CallR Tryz.prog 85 [.pointer (some ⟨g, 0, none⟩), .int .i64 i, .int .i64 n] w fun v w' => v = .bool (rfitsV p.1 x.c.2.2.1 (roundV p.1.cls n)) ∧ Chg [] w w' := by
  apply F85_ok
  simp -implicitDefEqProofs only [F85]
  obtain ⟨Fr, hFr⟩ := R.rT
  obtain ⟨b, c, rfl, cv, wv, ov, Q⟩ := rr_at hFr hp'
  obtain ⟨A, cc, rfl, hRc⟩ := ints_sh Q.cT
  have hi := (List.getElem?_eq_some_iff.1 hp').1
  have ia := ia_105 (b := b) (p := 0) (n := x.rgs.length) (c := c) (j := .i64) (i := (i : Int)) (by omega) (by omega)
  rw [Int.toNat_natCast, Nat.zero_add] at ia
  obtain ⟨Fw, hFw⟩ := Q.wT
  obtain ⟨Fo, hFo⟩ := Q.oT
  have one2 := ((good_words _).one hFw).2
  have one3 := ((aS _).one hFo).2
  simp -implicitDefEqProofs only [zS, aJ, aM, R.rl, ia, ld_rg Q, al_130]
  rw [st_130 (by rfl) (by
    have oi : ∀ (k : IntKind) (x : Int), (Value.int k x).oneCell' = true := fun _ _ => rfl
    have ob : ∀ b, (Value.bool b).oneCell' = true := fun _ => rfl
    have os : ∀ a n c, (Value.slice a n c).oneCell' = true := fun _ _ _ => rfl
    show (List.all [_, _, _, _, _, _, wv, ov] _) = true; simp [one2, one3, oi, ob, os]) (by rw [ac, if_pos rfl]; rfl) (by rw [ac, if_pos rfl]; rfl), ac, if_pos rfl, aD]
  generalize hw1 : put (w.alloc _) w.heap.size _ _ = w1
  have c1 : Chg [] w w1 := by rw [← hw1]; exact ((Chg.refl _ _).alloc _).put (.inr (Nat.le_refl _)) _ _
  have a7 : hp w1 w.heap.size = some (.cells (rgA p (.slice A p.1.chunks.length cc) wv ov) 130) := by rw [← hw1]; exact ap (by simp) _ _
  clear hw1
  have R1 := R.keep c1
  have cd : Chg [] w w1.drew := c1.drew
  have e2 : (rgA p (.slice A p.1.chunks.length cc) wv ov)[0 + 2]? = some (.int .i64 p.1.cls) := rfl
  have e3 : (rgA p (.slice A p.1.chunks.length cc) wv ov)[0 + 3]? = some (.int .i64 p.1.off) := rfl
  have e5 : (rgA p (.slice A p.1.chunks.length cc) wv ov)[0 + 5]? = some (.slice A p.1.chunks.length cc) := rfl
  have hc2 : ldC (hp w1 g) (0 + 0 + 2) = some (.int .i64 x.c.2.2.1) := R1.c 2 (by omega)
  by_cases h0 : (0 : Int) < p.1.chunks.length
  · have h1 : 0 < p.1.chunks.length := by omega
    have rf : rfitsV p.1 x.c.2.2.1 (roundV p.1.cls n) = fitsV x.c.2.2.1 p.1.off (roundV p.1.cls n) := by rw [rfitsV, decide_eq_true h1, Bool.true_and]
    simp -implicitDefEqProofs only [zS, fa_130_5, fa_130_3, fa_130_2, fa_108_0, fa_33_2, aY, af, a7, e2, e3, e5, len_22, h0, hc2, gt_iff_lt]
    rw [rf]
    repeat' (with_reducible apply And.intro)
    all_goals
      refine (c_rRound p.1.cls n w1.drew).step ?_
      try simp -implicitDefEqProofs only [zS, af, show hp w1.drew w.heap.size = _ from a7, e3, show ldC (hp w1.drew g) (0 + 0 + 2) = _ from hc2, a7, hc2]
      refine (c_rFits2 x.c.2.2.1 p.1.off (roundV p.1.cls n) w1.drew).step ?_
      try simp -implicitDefEqProofs only [zS]
      exact ⟨by first | rfl | trivial, cd⟩
  · have h1 : ¬ 0 < p.1.chunks.length := by omega
    have rf : rfitsV p.1 x.c.2.2.1 (roundV p.1.cls n) = false := by rw [rfitsV, decide_eq_false h1]; rfl
    simp -implicitDefEqProofs only [zS, fa_130_5, fa_130_3, fa_130_2, fa_108_0, fa_33_2, aY, af, a7, e2, e3, e5, len_22, h0, hc2, gt_iff_lt]
    rw [rf]
    first | exact ⟨by first | rfl | trivial, cd⟩ | (repeat' (with_reducible apply And.intro)) <;> first | exact cd | rfl | trivial
def takenX (L : List (RgV × Bool)) (ch : Int) : Bool := L.any fun p => p.2 && decide (ch ∈ p.1.chunks)
set_option maxHeartbeats 1000000 in
theorem c_rTaken (R : RfR w g x s gn r d h) (hl : x.rgs.length ≤ 1000000) (hcl : ∀ p ∈ x.rgs, p.1.chunks.length ≤ 1000000) (y : Int) : CallR Tryz.prog 87 [.pointer (some ⟨g, 0, none⟩), .int .i64 y] w fun v w' => v = .bool (takenX x.rgs y) ∧ Chg [] w w' := by
  apply F87_ok
  simp -implicitDefEqProofs only [F87]
  have main : ∀ (d i : Nat) (w1 : World), Chg [] w w1 → (∀ (j : Nat) (p : RgV × Bool), j < i → x.rgs[j]? = some p → (p.2 && decide (y ∈ p.1.chunks)) = false) → i + d = x.rgs.length →
      P87_0 (.pointer (some ⟨g, 0, none⟩)) (.int .i64 y) (.int .i64 i) w1 fun v w' => v = .bool (takenX x.rgs y) ∧ Chg [] w w' := by
    intro d
    induction d with
    | zero =>
      intro i w1 hc hn hi
      apply L87_0_ok
      obtain ⟨Fr, hFr⟩ := (R.keep hc).rT
      obtain ⟨A, c, _, _, e, _⟩ := isRow.rd hFr
      have hrl := (R.keep hc).rl
      rw [e] at hrl
      have : ¬ (i : Int) < x.rgs.length := by omega
      simp -implicitDefEqProofs only [L87_0, zS, aJ, aM, hrl, len_105, this]
      refine ⟨?_, hc⟩
      have : takenX x.rgs y = false := by
        rw [takenX, List.any_eq_false]
        intro p hp'
        obtain ⟨j, hj⟩ := List.getElem?_of_mem hp'
        rw [hn j p (by have := (List.getElem?_eq_some_iff.1 hj).1; omega) hj]; simp
      rw [this]
    | succ d ih =>
      intro i w1 hc hn hi
      apply L87_0_ok
      have hlt : (i : Int) < x.rgs.length := by omega
      obtain ⟨p, hp'⟩ : ∃ p, x.rgs[i]? = some p := ⟨_, List.getElem?_eq_getElem (by omega)⟩
      have R1 := R.keep hc
      obtain ⟨Fr, hFr⟩ := R1.rT
      obtain ⟨b, c, hx, cv, wv, ov, Q⟩ := rr_at hFr hp'
      have hrl := R1.rl
      rw [hx] at hrl
      obtain ⟨A, cc, rfl, hRc⟩ := ints_sh Q.cT
      have ia := ia_105 (b := b) (p := 0) (n := x.rgs.length) (c := c) (j := .i64) (i := (i : Int)) (by omega) (by omega)
      rw [Int.toNat_natCast, Nat.zero_add] at ia
      have next : ∀ w3, Chg [] w w3 → (p.2 && decide (y ∈ p.1.chunks)) = false → P87_0 (.pointer (some ⟨g, 0, none⟩)) (.int .i64 y) (.int .i64 ((i : Int) + 1)) w3 fun v w' => v = .bool (takenX x.rgs y) ∧ Chg [] w w' := by
        intro w3 c3 hf
        have := ih (i + 1) w3 c3 (fun j r hj hr => by
          rcases Nat.lt_or_ge j i with h1 | h1
          · exact hn j r h1 hr
          · have : j = i := by omega
            subst this
            rw [hp'] at hr; cases hr; exact hf) (by omega)
        rw [Int.natCast_add i 1] at this
        exact this
      cases hp2 : p.2 with
      | false =>
        have c4 : ldC (hp w1 b) (i * 8 + 4) = some (.bool false) := by rw [Q.c4, hp2]
        simp -implicitDefEqProofs only [L87_0, zS, aJ, aM, hrl, len_105, hlt, ia, fa_130_4, ld_4, c4, aA, az (n := (i : Int) + 1) (by omega) (by omega)]
        exact next w1 hc (by rw [hp2]; rfl)
      | true =>
        have c4 : ldC (hp w1 b) (i * 8 + 4) = some (.bool true) := by rw [Q.c4, hp2]
        simp -implicitDefEqProofs only [L87_0, zS, aJ, aM, hrl, len_105, hlt, ia, fa_130_4, ld_4, c4, ld_rg Q]
        refine (c_rAt (p := p) (c := cc) hRc (hcl p (List.mem_of_getElem? hp')) y).mono ?_
        rintro _ w3 ⟨rfl, c3⟩
        have hge : decide (ixOf p.1.chunks y ≥ 0) = decide (y ∈ p.1.chunks) := ixOf_mem _ _
        by_cases hm : y ∈ p.1.chunks
        · rw [decide_eq_true hm] at hge
          have hge' := of_decide_eq_true hge
          simp -implicitDefEqProofs only [zS, aH, hge']
          refine ⟨?_, hc.trans c3⟩
          have : takenX x.rgs y = true := by
            rw [takenX, List.any_eq_true]
            exact ⟨p, List.mem_of_getElem? hp', by rw [hp2, decide_eq_true hm]; rfl⟩
          rw [this]
        · rw [decide_eq_false hm] at hge
          have hge' := of_decide_eq_false hge
          simp -implicitDefEqProofs only [zS, aH, hge', aA, az (n := (i : Int) + 1) (by omega) (by omega)]
          exact next w3 (hc.trans c3) (by rw [decide_eq_false hm]; simp)
  exact main x.rgs.length 0 w (Chg.refl _ _) (fun j r hj => by omega) (by omega)
theorem RfI.intPut {k : Nat} {L : List Int} (I : RfI w g x F) (hk : (rfT x)[k]? = some (intsT L)) {i : Nat} {y : Int} (hy : L[i]? = some y) :
    ∃ b c, ldC (hp w g) k = some (.slice (some ⟨b, 0, none⟩) L.length c) ∧ b ≠ g ∧ F b ∧ ldC (hp w b) i = some (.int .i64 y) ∧
      ∀ z, okC (hp w b) (i + 1) = true ∧ ∃ F1, isAt 108 g ((rfT x).set k (intsT (L.set i z))) (put w b ((getC (hp w b)).setIfInBounds i (.int .i64 z)) (getE (hp w b))) F1 ∧ UpdP F F1 w (put w b ((getC (hp w b)).setIfInBounds i (.int .i64 z)) (getE (hp w b))) := by
  have hj : ((ints L).map isV)[i]? = some (isV (.int .i64 y)) := by rw [ints, List.map_map, List.getElem?_map, hy]; rfl
  obtain ⟨b, c, v, Fk, hl, hbg, hFb, _, _, _, hld, hv, _, hput⟩ := isAt.row I (bc x) hk (good_ints (ints_int L)) hj
  refine ⟨b, c, hl, hbg, hFb, by rw [hld, hv.1], fun z => ?_⟩
  obtain ⟨ok, _, _, _, F1, h1, h2⟩ := hput w none' (isV (.int .i64 z)) (.int .i64 z) (UpdP.none hv.2 w) (bj _ _) ⟨rfl, fun _ h => h⟩
  have hset : ((ints L).map isV).set i (isV (.int .i64 z)) = (ints (L.set i z)).map isV := by rw [← List.map_set, flat_set1]
  rw [hset] at h1
  have e : intsT (L.set i z) = isRow 3 1 L.length ((ints (L.set i z)).map isV) := by rw [intsT, List.length_set]
  rw [e]
  exact ⟨ok, F1, h1, h2⟩
end
end Go.Proofs.YtgamnncehjcdiaaGreat

namespace Go.Proofs.YtgamnncehjcdiaaGreat
open Go Ev Go.RowKit

section
variable {w : World} {g : Nat} {x : RfV} {F : Fp}
theorem ints_row {n : Nat} (hn : n ≤ maxLen) {b : Nat} (hb : hp w b = some (.cells (ints (List.replicate n 0)).toArray 3)) : intsT (List.replicate n 0) w (fun k => k = b) (.slice (some ⟨b, 0, none⟩) n n) := by
  have h : w.ownsRow 0 3 1 (.slice (some ⟨b, 0, none⟩) n n) n (ints (List.replicate n 0)) :=
    ⟨by simp [ints], .inr ⟨b, n, _, rfl, Nat.zero_le _, hb, Nat.le_refl _, hn, by simp [ints], by simp [ints]⟩⟩
  have h2 := own_flat h
  have e : (fun k => (Value.slice (some ⟨b, 0, none⟩) n n).ownBlock = some k) = (fun k => k = b) := by
    funext k
    simp [Value.ownBlock, eq_comm]
  rw [e] at h2
  rw [intsT, List.length_replicate]
  exact h2
theorem holds_row {n : Nat} (hn : n ≤ maxLen) {b : Nat} (hb : hp w b = some (.cells (List.replicate n (Value.slice none 0 0)).toArray 131)) : holdsT (List.replicate n []) w (fun k => k = b) (.slice (some ⟨b, 0, none⟩) n n) := by
  have h : w.ownsRow 0 131 1 (.slice (some ⟨b, 0, none⟩) n n) n (List.replicate n (Value.slice none 0 0)) :=
    ⟨by simp, .inr ⟨b, n, _, rfl, Nat.zero_le _, hb, Nat.le_refl _, hn, by simp, by simp⟩⟩
  refine ⟨_, fun _ => none', by rw [List.length_replicate]; exact h, ⟨by simp, fun k P v hP hv => ?_, fun _ _ _ _ _ b hb _ => hb⟩, fun b ⟨_, _, hb⟩ => hb.elim, fun k => ⟨fun hk => .inl (by rw [hk]; rfl), fun hk => ?_⟩⟩
  · rw [List.getElem?_map, List.getElem?_replicate] at hP
    rw [List.getElem?_replicate] at hv
    split at hP
    · rename_i hk
      rw [if_pos hk] at hv
      cases hP; cases hv
      exact isRow.nil
    · cases hP
  · rcases hk with hk | ⟨_, _, hk⟩
    · simp [Value.ownBlock] at hk; exact hk.symm
    · exact hk.elim
theorem rf_parts {x : RfV} {sv gv rv dv hv : Value} {Fs Fg Fr Fd Fh : Fp} (hs : intsT x.state w Fs sv) (hg : intsT x.gen w Fg gv) (hr : rrsT x.rgs w Fr rv) (hd : intsT x.depth w Fd dv) (hh : holdsT x.holds w Fh hv)
    (dis : ∀ i j : Nat, i < 5 → j < 5 → i ≠ j → FDis ((fun k : Nat => if k = 0 then Fs else if k = 1 then Fg else if k = 2 then Fr else if k = 3 then Fd else Fh) i) ((fun k : Nat => if k = 0 then Fs else if k = 1 then Fg else if k = 2 then Fr else if k = 3 then Fd else Fh) j)) :
    Parts w (rfT x) (cfC x.c ++ [.bool x.loose, sv, gv, rv, dv, hv]) (fun k => if k < 7 then none' else (fun k : Nat => if k = 0 then Fs else if k = 1 then Fg else if k = 2 then Fr else if k = 3 then Fd else Fh) (k - 7)) := by
  refine ⟨rfl, fun k P v hP hv' => ?_, fun j k hj hk hjk => ?_⟩
  · have hk := (List.getElem?_eq_some_iff.1 hP).1
    have hk' : (rfT x).length = 12 := rfl
    rw [hk'] at hk
    have h12 : k = 0 ∨ k = 1 ∨ k = 2 ∨ k = 3 ∨ k = 4 ∨ k = 5 ∨ k = 6 ∨ k = 7 ∨ k = 8 ∨ k = 9 ∨ k = 10 ∨ k = 11 := by omega
    rcases h12 with rfl | rfl | rfl | rfl | rfl | rfl | rfl | rfl | rfl | rfl | rfl | rfl <;> cases hP <;> cases hv'
    · exact ⟨rfl, fun _ h => h⟩
    · exact ⟨rfl, fun _ h => h⟩
    · exact ⟨rfl, fun _ h => h⟩
    · exact ⟨rfl, fun _ h => h⟩
    · exact ⟨rfl, fun _ h => h⟩
    · exact ⟨rfl, fun _ h => h⟩
    · exact ⟨rfl, fun _ h => h⟩
    · exact hs
    · exact hg
    · exact hr
    · exact hd
    · exact hh
  · have hl : (rfT x).length = 12 := rfl
    rw [hl] at hj hk
    by_cases h1 : j < 7
    · simp only [if_pos h1]; exact fun _ h _ => h
    · by_cases h2 : k < 7
      · simp only [if_pos h2]; exact fun _ _ h => h
      · simp only [if_neg h1, if_neg h2]
        exact dis (j - 7) (k - 7) (by omega) (by omega) (by omega)
set_option maxHeartbeats 4000000 in
theorem c_rNew (c : CfV) (loose : Bool) (hm : mayC c = true) (w : World) : CallR Tryz.prog 22 [.agg (cfC c).toArray, .bool loose] w fun v w' => ∃ g F, v = .pointer (some ⟨g, 0, none⟩) ∧ Chg [] w w' ∧ RfI w' g (toRf (newM c loose)) F ∧ ∀ k, F k → w.heap.size ≤ k := by
  apply F22_ok
  have b2 : hp (w.alloc (.cells (cfC c).toArray 33)) w.heap.size = some (.cells (cfC c).toArray 33) := by rw [ac, if_pos rfl]
  have c0 : Chg [] w (w.alloc (.cells (cfC c).toArray 33)) := (Chg.refl _ _).alloc _
  simp -implicitDefEqProofs only [F22, aE, aB]
  generalize w.alloc (.cells (cfC c).toArray 33) = w0 at *
  obtain ⟨h1, h2, h3, h4⟩ := may_cf hm
  have e3 : (cfC c).toArray[0 + 3]? = some (.int .i64 ((c.2.2.2.1.toNat : Nat) : Int)) := by rw [cf_3]; congr; omega
  have e0 : (cfC c).toArray[0 + 0]? = some (.int .i64 ((c.1.toNat : Nat) : Int)) := by rw [cf_0]; congr; omega
  have nm : toRf (newM c loose) = ⟨c, loose, List.replicate c.2.2.2.1.toNat 0, List.replicate c.2.2.2.1.toNat 0, [], List.replicate c.1.toNat 0, List.replicate c.1.toNat []⟩ := by simp [toRf, newM]
  have l1 : c.2.2.2.1.toNat ≤ 4096 := by omega
  have l2 : c.1.toNat ≤ 64 := by omega
  generalize c.2.2.2.1.toNat = ns at *
  generalize c.1.toNat = nh at *
  obtain ⟨ii, hii, hzi, hsi, hbi⟩ := inf_3
  obtain ⟨ik, hik, hzk, hsk, hbk⟩ := inf_131
  have mk1 : ∀ n, madeCells (Value.int .i64 0).cells (n * ii.size) = (ints (List.replicate n 0)).toArray := fun n => by
    apply Array.toList_inj.1
    rw [hsi, Nat.mul_one]
    have := toList_madeCells_one (Value.int .i64 0) n
    rw [ints, List.map_replicate]
    exact this
  have mk2 : madeCells (Value.slice none 0 0).cells (nh * ik.size) = (List.replicate nh (Value.slice none 0 0)).toArray := by
    apply Array.toList_inj.1
    rw [hsk, Nat.mul_one]
    exact toList_madeCells_one (Value.slice none 0 0) nh
  have hml : ns ≤ maxLen ∧ nh ≤ maxLen := by unfold maxLen; omega
  have fin : ∀ (w4 : World) (bs bg bd bh : Nat), Chg [] w w4 → hp w4 bs = some (.cells (ints (List.replicate ns 0)).toArray 3) → hp w4 bg = some (.cells (ints (List.replicate ns 0)).toArray 3) → hp w4 bd = some (.cells (ints (List.replicate nh 0)).toArray 3) → hp w4 bh = some (.cells (List.replicate nh (Value.slice none 0 0)).toArray 131) →
      w.heap.size ≤ bs ∧ w.heap.size ≤ bg ∧ w.heap.size ≤ bd ∧ w.heap.size ≤ bh ∧ bs ≠ bg ∧ bs ≠ bd ∧ bs ≠ bh ∧ bg ≠ bd ∧ bg ≠ bh ∧ bd ≠ bh →
      ∃ g F, Value.pointer (some ⟨w4.heap.size, 0, none⟩) = .pointer (some ⟨g, 0, none⟩) ∧ Chg [] w (w4.alloc (.cells (cfC c ++ [Value.bool loose, Value.slice (some ⟨bs, 0, none⟩) ns ns, Value.slice (some ⟨bg, 0, none⟩) ns ns, Value.slice none 0 0, Value.slice (some ⟨bd, 0, none⟩) nh nh, Value.slice (some ⟨bh, 0, none⟩) nh nh]).toArray 108)) ∧
        RfI (w4.alloc (.cells (cfC c ++ [Value.bool loose, Value.slice (some ⟨bs, 0, none⟩) ns ns, Value.slice (some ⟨bg, 0, none⟩) ns ns, Value.slice none 0 0, Value.slice (some ⟨bd, 0, none⟩) nh nh, Value.slice (some ⟨bh, 0, none⟩) nh nh]).toArray 108)) g (toRf (newM c loose)) F ∧ ∀ k, F k → w.heap.size ≤ k := by
    intro w4 bs bg bd bh c4 hs hg hd hh ⟨n1, n2, n3, n4, d1, d2, d3, d4, d5, d6⟩
    rw [nm]
    have hp' := rf_parts (w := w4) (x := ⟨c, loose, List.replicate ns 0, List.replicate ns 0, [], List.replicate nh 0, List.replicate nh []⟩) (ints_row hml.1 hs) (ints_row hml.1 hg) (Fr := none') (rv := .slice none 0 0) isRow.nil (ints_row hml.2 hd) (holds_row hml.2 hh) (by
      intro i j hi hj hij b hb1 hb2
      have hi' : i = 0 ∨ i = 1 ∨ i = 2 ∨ i = 3 ∨ i = 4 := by omega
      have hj' : j = 0 ∨ j = 1 ∨ j = 2 ∨ j = 3 ∨ j = 4 := by omega
      rcases hi' with rfl | rfl | rfl | rfl | rfl <;> rcases hj' with rfl | rfl | rfl | rfl | rfl <;> first
        | omega
        | (simp only [if_true, if_false, Nat.reduceEqDiff, none'] at hb1 hb2; omega)
        | (simp [none'] at hb1 hb2; omega)
        | (simp [none'] at hb1 hb2))
    refine ⟨w4.heap.size, _, rfl, c4.alloc _, isAt.new hp' (bc _), fun k hk => ?_⟩
    have sz := c4.size
    rcases hk with hk | ⟨j, _, hk⟩
    · omega
    · split at hk
      · exact hk.elim
      · repeat' split at hk
        · have : k = bs := hk; omega
        · have : k = bg := hk; omega
        · exact hk.elim
        · have : k = bd := hk; omega
        · have : k = bh := hk; omega
  have hbd : ∀ a b e f, pureRun Tryz.prog (Instr.build 108 #[(0, .agg (cfC c).toArray), (1, .bool loose), (2, .slice (some ⟨a, 0, none⟩) ns ns), (3, .slice (some ⟨b, 0, none⟩) ns ns), (5, .slice (some ⟨e, 0, none⟩) nh nh), (6, .slice (some ⟨f, 0, none⟩) nh nh)]) = some (.agg (cfC c ++ [Value.bool loose, Value.slice (some ⟨a, 0, none⟩) ns ns, Value.slice (some ⟨b, 0, none⟩) ns ns, Value.slice none 0 0, Value.slice (some ⟨e, 0, none⟩) nh nh, Value.slice (some ⟨f, 0, none⟩) nh nh]).toArray) := fun a b e f => bd_108_0_1_2_3_5_6
  have b2d : hp w0.drew w.heap.size = some (.cells (cfC c).toArray 33) := b2
  have cd := c0.drew
  have sz : w.heap.size ≤ w0.drew.heap.size := cd.size
  have ea : ∀ {P : Program} {w : World} {K : Value → World → Prop}, True := fun {P w K} => trivial
  simp -implicitDefEqProofs only [zS, fa_33_3, fa_33_0, af, ld_cf b2d, b2, e3, e0, effv_make (P := Tryz.prog) (kl := .i64) (kc := .i64) (n := ns) Tryz.underlying22 hii hzi (by rw [hsi]; omega) (by rw [hbi]; omega) (by omega), effv_make (P := Tryz.prog) (kl := .i64) (kc := .i64) (n := nh) Tryz.underlying22 hii hzi (by rw [hsi]; omega) (by rw [hbi]; omega) (by omega),
    effv_make (P := Tryz.prog) (kl := .i64) (kc := .i64) (n := nh) Tryz.underlying106 hik hzk (by rw [hsk]; omega) (by rw [hbk]; omega) (by omega), mk1, mk2, hbd, aE, aB]
  repeat' (with_reducible apply And.intro)
  all_goals
    refine fin _ _ _ _ _ ((((cd.alloc _).alloc _).alloc _).alloc _) ?_ ?_ ?_ ?_ ⟨?_, ?_, ?_, ?_, ?_, ?_, ?_, ?_, ?_, ?_⟩
    all_goals first
      | (simp only [ac, ae, if_true]; done)
      | ((try simp only [ac, ae, if_true]); (repeat' split) <;> first | rfl | omega)
      | ((try simp only [ae]); omega)
end
end Go.Proofs.YtgamnncehjcdiaaGreat

namespace Go.Proofs.YtgamnncehjcdiaaGreat
open Go Ev Go.RowKit

section
variable {W w : World} {g : Nat} {m : MdV} {F : Fp} {K : Nat}
structure MdW (W w : World) (g : Nat) (m : MdV) (K : Nat) (F : Fp) : Prop where
  chg : Chg [] W w
  I : MdI w g m F
  new : ∀ k, F k → W.heap.size ≤ k
  wf : Wf m K
theorem MdW.keep {w' : World} (h : MdW W w g m K F) (hc : Chg [] w w') : MdW W w' g m K F := ⟨h.chg.trans hc, h.I.keep hc, h.new, h.wf⟩
theorem MdW.upd {w' : World} {m' : MdV} {K' : Nat} {F' : Fp} (h : MdW W w g m K F) (I : MdI w' g m' F') (u : UpdP F F' w w') (wf : Wf m' K') : MdW W w' g m' K' F' := by
  have hs := h.chg.size
  refine ⟨⟨u.chg.os.trans h.chg.os, u.chg.tape.trans h.chg.tape, u.chg.output.trans h.chg.output, Nat.le_trans hs u.chg.size, fun k hk _ => ?_⟩, I, fun k hk => ?_, wf⟩
  · rw [u.chg.block k (Nat.lt_of_lt_of_le hk hs) fun hf => by have := h.new k hf; omega]
    exact h.chg.block k hk (by simp)
  · rcases u.sub k hk with h1 | h1
    · exact h.new k h1
    · omega


theorem bdo_0 (k : Int) : pureRun Tryz.prog (Instr.build 39 #[(0, .int .i64 k)]) = some (.agg (opC (k, 0, 0, 0, 0, 0)).toArray) := bd_39_0
theorem bdh_ : pureRun Tryz.prog (Instr.build 25 #[]) = some (.agg (hnC noH).toArray) := bd_25_
theorem bdh_1 (x : Int) : pureRun Tryz.prog (Instr.build 25 #[(1, .int .i64 x)]) = some (.agg (hnC (0, x, 0, 0, 0)).toArray) := bd_25_1
theorem bdh_01 (x y : Int) : pureRun Tryz.prog (Instr.build 25 #[(0, .int .i64 x), (1, .int .i64 y)]) = some (.agg (hnC (x, y, 0, 0, 0)).toArray) := bd_25_0_1
theorem bdr_ : pureRun Tryz.prog (Instr.build 28 #[]) = some (.agg (rsC noR).toArray) := bd_28_
theorem bdr_0 (x : Int) : pureRun Tryz.prog (Instr.build 28 #[(0, .int .i64 x)]) = some (.agg (rsC (codeR x)).toArray) := bd_28_0
theorem bdr_1 (h : HnV) : pureRun Tryz.prog (Instr.build 28 #[(1, .agg (hnC h).toArray)]) = some (.agg (rsC (0, h, 0, 0)).toArray) := bd_28_1
theorem st_hn {r : HnV} {b : Nat} {c : Array Value} {e : TypeId} (hb : hp w b = some (.cells c e)) (hs : c.size = 5) {L : World → Prop} : effu Tryz.prog (Instr.storeAt 25 (.pointer (some ⟨b, 0, none⟩)) (.agg (hnC r).toArray)) w L = L (put w b (hnC r).toArray e) := by
  rw [st_25 rfl rfl (by rw [hb, okC_some]; exact decide_eq_true (by omega)) (by rw [hb]; exact hs), hb]; rfl
def m0F : MdV := newM (1, 1, 8, 1, 0, 1) false
def m1F : MdV := (doV m0F 0 (1, 0, 0, 0, 0, 0) noH (0, (0, 1, 0, 0, 0), 0, 0)).2
def m2F : MdV := (doV m1F 0 (10, 0, 0, 0, 0, 0) (0, 1, 0, 0, 0) noR).2
theorem m0_must : mustV m0F 0 (10, 0, 0, 0, 0, 0) noH = (codeR 2, true) := by kernel_rfl
theorem m0_do : (doV m0F 0 (1, 0, 0, 0, 0, 0) noH (0, (0, 1, 0, 0, 0), 0, 0)).1 = true := by decide +kernel
theorem m1_do : (doV m1F 0 (10, 0, 0, 0, 0, 0) (0, 1, 0, 0, 0) noR).1 = true := by decide +kernel
theorem m2_spare : spareN m2F.slots = 0 := by decide +kernel
theorem m2_back : (backV m2F 0).1 = true := by decide +kernel
theorem m3_spare : spareN (backV m2F 0).2.slots = 1 := by decide +kernel
set_option maxHeartbeats 1000000 in
theorem c_mFirst (w : World) : CallR Tryz.prog 5 [] w fun v w' => v = .bool true ∧ Chg [] w w' := by
  apply F5_ok
  have hbc : pureRun Tryz.prog (Instr.build 33 #[(0, .int .i64 1), (1, .int .i64 1), (2, .int .i64 8), (3, .int .i64 1), (5, .int .i64 1)]) = some (.agg (cfC (1, 1, 8, 1, 0, 1)).toArray) := bd_33_0_1_2_3_5
  simp -implicitDefEqProofs only [F5, hbc, ad]
  refine (c_mNew (1, 1, 8, 1, 0, 1) w).mono ?_
  rintro v w1 ⟨c1, hv⟩
  rcases hv with ⟨hm, _⟩ | ⟨hm, g, F, rfl, I, hF⟩
  · exact absurd hm (by decide)
  have M0 : MdW w w1 g m0F 0 F := ⟨c1, I, hF, wf_new hm false⟩
  have en : ((0 : Int) != 0) = false := rfl
  simp -implicitDefEqProofs only [tup0, tup1, zS, be_eqlp Tryz.underlying42, z8z, en, bdo_0, bdh_]
  refine (c_mMust M0.I M0.wf (by omega) 0 (10, 0, 0, 0, 0, 0) noH).mono ?_
  rintro _ w2 ⟨rfl, c2⟩
  have M1 := M0.keep c2
  rw [m0_must]
  simp -implicitDefEqProofs only [tup0, tup1, zS, al_28]
  rw [st_res (c := (rsC noR).toArray) (e := 28) (by rw [ac, if_pos rfl]; rfl) rfl]
  generalize hw3 : put (w2.alloc _) w2.heap.size _ _ = w3
  have c3 : Chg [] w2 w3 := by rw [← hw3]; exact ((Chg.refl _ _).alloc _).put (.inr (Nat.le_refl _)) _ _
  have a3 : hp w3 w2.heap.size = some (.cells (rsC (codeR 2)).toArray 28) := by rw [← hw3]; exact ap (by simp) _ _
  clear hw3
  have M2 := M1.keep c3
  have n3 : ¬ F w2.heap.size := fun h => by have := isAt.lt M1.I (aT _) _ h; omega
  generalize w2.heap.size = g3 at *
  simp -implicitDefEqProofs only [bdh_1, ad, al_25]
  rw [st_hn (c := (hnC noH).toArray) (e := 25) (by rw [ac, if_pos rfl]; rfl) rfl]
  generalize hw4 : put (w3.alloc _) w3.heap.size _ _ = w4
  have c4 : Chg [] w3 w4 := by rw [← hw4]; exact ((Chg.refl _ _).alloc _).put (.inr (Nat.le_refl _)) _ _
  have a5 : hp w4 w3.heap.size = some (.cells (hnC (0, 1, 0, 0, 0)).toArray 25) := by rw [← hw4]; exact ap (by simp) _ _
  clear hw4
  have M3 := M2.keep c4
  have n5 : ¬ F w3.heap.size := fun h => by have := isAt.lt M2.I (aT _) _ h; omega
  have a34 := c4.at a3 (by simp)
  generalize w3.heap.size = g5 at *
  simp -implicitDefEqProofs only [bdo_0, bdh_, ld_hn a5, bdr_1, ad]
  refine (c_mDo M3.I M3.wf (by omega) 0 (1, 0, 0, 0, 0, 0) noH (0, (0, 1, 0, 0, 0), 0, 0)).mono ?_
  rintro _ w5 ⟨rfl, F5, i5, u5⟩
  have M5 := M3.upd i5 u5 (M3.wf.doV _ _ _ _)
  have a55 := u5.keep a5 n5
  have a35 := u5.keep a34 n3
  rw [m0_do]
  simp -implicitDefEqProofs only [bdo_0, bdr_, ld_hn a55.1, ad]
  refine (c_mDo M5.I M5.wf (by omega) 0 (10, 0, 0, 0, 0, 0) (0, 1, 0, 0, 0) noR).mono ?_
  rintro _ w6 ⟨rfl, F6, i6, u6⟩
  have M6 : MdW w w6 g m2F 2 F6 := M5.upd i6 u6 (M5.wf.doV _ _ _ _)
  have a36 := u6.keep a35.1 a35.2
  have e1 : (doV (doV m0F 0 (1, 0, 0, 0, 0, 0) noH (0, (0, 1, 0, 0, 0), 0, 0)).2 0 (10, 0, 0, 0, 0, 0) (0, 1, 0, 0, 0) noR).1 = true := m1_do
  have hbe : be Tryz.prog .eql 28 (.tmp 40) (.tmp 41) (.agg (rsC (codeR 2)).toArray) (.agg (rsC (codeR 2)).toArray) = some (.bool true) := by rw [be_rs, decide_eq_true rfl]
  obtain ⟨_, _, _, R6⟩ := M6.I.rd
  rw [e1]
  simp -implicitDefEqProofs only [zS, aZ a36.1, bdr_0, hbe]
  refine (c_mSpare R6 M6.wf.sl).mono ?_
  rintro _ w7 ⟨rfl, c7⟩
  have M7 := M6.keep c7
  have e2 : (((spareN m2F.slots : Nat) : Int) == 0) = true := by rw [m2_spare]; rfl
  simp -implicitDefEqProofs only [zS, e2]
  refine (c_mBack M7.I 0).mono ?_
  rintro _ w8 ⟨rfl, F8, i8, u8⟩
  have M8 := M7.upd i8 u8 (M7.wf.back 0)
  rw [m2_back]
  obtain ⟨_, _, _, R8⟩ := M8.I.rd
  simp -implicitDefEqProofs only [zS]
  refine (c_mSpare R8 M8.wf.sl).mono ?_
  rintro _ w9 ⟨rfl, c9⟩
  have e3 : (((spareN (backV m2F 0).2.slots : Nat) : Int) == 1) = true := by rw [m3_spare]; rfl
  simp -implicitDefEqProofs only [zS, e3]
  exact ⟨by first | rfl | trivial, (M8.keep c9).chg⟩
end
end Go.Proofs.YtgamnncehjcdiaaGreat

namespace Go.Proofs.YtgamnncehjcdiaaGreat
open Go Ev Go.RowKit

section
variable {W w : World} {c : CfV} {loose : Bool}
def pairA (c : CfV) (g gx : Nat) (kn : Value) : Array Value := (cfC c ++ [Value.pointer (some ⟨g, 0, none⟩), Value.pointer (some ⟨gx, 0, none⟩), kn]).toArray
structure PairN (W w : World) (gp g gx : Nat) (c : CfV) (m : MdV) (Fm Fx : Fp) : Prop where
  chg : Chg [] W w
  hp : hp w gp = some (.cells (pairA c g gx (.slice none 0 0)) 46)
  I : MdI w g m Fm
  X : RfI w gx (toRf m) Fx
  dis : FDis Fm Fx
  pm : ¬ Fm gp
  px : ¬ Fx gp
  nm : ∀ k, Fm k → W.heap.size ≤ k
  nx : ∀ k, Fx k → W.heap.size ≤ k
  np : W.heap.size ≤ gp
set_option maxHeartbeats 2000000 in
theorem c_made24 (hm : mayC c = true) (w : World) : CallR Tryz.prog 6 [.agg (cfC c).toArray, .bool loose] w fun v w' => ∃ gp g gx Fm Fx, v = .pointer (some ⟨gp, 0, none⟩) ∧ PairN w w' gp g gx c (newM c loose) Fm Fx := by
  apply F6_ok
  have b2 : Ev.hp (w.alloc (.cells (cfC c).toArray 33)) w.heap.size = some (.cells (cfC c).toArray 33) := by rw [ac, if_pos rfl]
  have c0 : Chg [] w (w.alloc (.cells (cfC c).toArray 33)) := (Chg.refl _ _).alloc _
  simp -implicitDefEqProofs only [F6, aE, aB]
  generalize w.alloc (.cells (cfC c).toArray 33) = w0 at *
  simp -implicitDefEqProofs only [ld_cf b2, ad]
  have z0 : ((0 : Int) != 0) = false := rfl
  have rest : ∀ (w1 : World) (g : Nat) (F : Fp), Chg [] w w1 → Ev.hp w1 w.heap.size = some (.cells (cfC c).toArray 33) → MdI w1 g (newM c loose) F → (∀ k, F k → w.heap.size ≤ k) →
      P6_0 (.bool loose) (.pointer (some ⟨w.heap.size, 0, none⟩)) (.pointer (some ⟨g, 0, none⟩)) (.int .i64 0) w1 fun v w' => ∃ gp g gx Fm Fx, v = .pointer (some ⟨gp, 0, none⟩) ∧ PairN w w' gp g gx c (newM c loose) Fm Fx := by
    intro w1 g F c1 hb I hF
    apply L6_0_ok
    have hbd : Ev.hp w1.drew w.heap.size = some (.cells (cfC c).toArray 33) := hb
    have cd : Chg [] w1 w1.drew := (Chg.refl _ _).drew
    have fin : ∀ (w2 : World) (gx : Nat) (Fx : Fp), Chg [] w1 w2 → RfI w2 gx (toRf (newM c loose)) Fx → (∀ k, Fx k → w1.drew.heap.size ≤ k) →
        ∃ gp g' gx' Fm Fx, Value.pointer (some ⟨w2.heap.size, 0, none⟩) = .pointer (some ⟨gp, 0, none⟩) ∧ PairN w (w2.alloc (.cells (pairA c g gx (.slice none 0 0)) 46)) gp g' gx' c (newM c loose) Fm Fx := by
      intro w2 gx Fx c2 X hX
      have ca : Chg [] w2 (w2.alloc (.cells (pairA c g gx (.slice none 0 0)) 46)) := (Chg.refl _ _).alloc _
      have I2 := I.keep c2
      refine ⟨w2.heap.size, g, gx, F, Fx, rfl, c1.trans (c2.trans ca), by rw [ac, if_pos rfl], I2.keep ca, X.keep ca, fun k h1 h2 => ?_, fun h => ?_, fun h => ?_, hF, fun k hk => ?_, (c1.trans c2).size⟩
      · have a1 := isAt.lt I (aT _) k h1
        have a2 := hX k h2
        have : w1.drew.heap.size = w1.heap.size := rfl
        omega
      · have := isAt.lt I2 (aT _) _ h; omega
      · have := isAt.lt X (bc _) _ h; omega
      · have a2 := hX k hk
        have : w1.drew.heap.size = w1.heap.size := rfl
        have := c1.size
        omega
    have hbd2 : ∀ gx, pureRun Tryz.prog (Instr.build 46 #[(0, .agg (cfC c).toArray), (1, .pointer (some ⟨g, 0, none⟩)), (2, .pointer (some ⟨gx, 0, none⟩))]) = some (.agg (pairA c g gx (.slice none 0 0))) := fun gx => bd_46_0_1_2
    simp -implicitDefEqProofs only [L6_0, zS, be_eqlp Tryz.underlying42, z8z, z0, ld_cf hbd]
    constructor
    · refine (c_rNew c loose hm w1.drew).mono ?_
      rintro _ w2 ⟨gx, Fx, rfl, c2, X, hX⟩
      simp -implicitDefEqProofs only [hbd2, ad, aE, aB]
      exact fin w2 gx Fx (cd.trans c2) X hX
    · refine (c_rNew c loose hm w1.drew).mono ?_
      rintro _ w2 ⟨gx, Fx, rfl, c2, X, hX⟩
      have hb2 := (cd.trans c2).at hb (by simp)
      simp -implicitDefEqProofs only [ld_cf hb2, hbd2, ad, aE, aB]
      exact fin w2 gx Fx (cd.trans c2) X hX
  refine (c_mNew c w0).mono ?_
  rintro v w1 ⟨c1, hv⟩
  have b21 := c1.at b2 (by simp)
  have s0 := c0.size
  have s1 := c1.size
  rcases hv with ⟨hm', _⟩ | ⟨_, g, F, rfl, I, hF⟩
  · rw [hm] at hm'; cases hm'
  cases loose with
  | false =>
    simp -implicitDefEqProofs only [tup0, tup1, zS]
    exact rest w1 g F (c0.trans c1) b21 I fun k hk => by have := hF k hk; omega
  | true =>
    simp -implicitDefEqProofs only [tup0, tup1, zS, ld_cf b21]
    refine (c_mLoose c w1).mono ?_
    rintro v w2 ⟨c2, hv⟩
    rcases hv with ⟨hm', _⟩ | ⟨_, g2, F2, rfl, I2, hF2⟩
    · rw [hm] at hm'; cases hm'
    simp -implicitDefEqProofs only [tup0, tup1, zS]
    exact rest w2 g2 F2 (c0.trans (c1.trans c2)) (c2.at b21 (by simp)) I2 fun k hk => by have := hF2 k hk; omega
end
end Go.Proofs.YtgamnncehjcdiaaGreat

namespace Go.Proofs.YtgamnncehjcdiaaGreat
open Go Ev Go.RowKit

structure Wn (m : MdV) (K : Nat) : Prop where
  gk : ∀ p ∈ m.slots, 0 ≤ p.2 ∧ p.2 ≤ K
  gn : ∀ r ∈ m.rgs, 0 ≤ r.nm.1 ∧ r.nm.1 < m.slots.length ∧ 1 ≤ r.nm.2 ∧ ∀ p, m.slots[r.nm.1.toNat]? = some p → r.nm.2 ≤ p.2
  nd : (m.rgs.map (·.nm)).Nodup
  lv : ∀ (i : Nat) (p : NmV), m.slots[i]? = some p → p.1 = 1 → ∃ k, findR m.rgs ((i : Int), p.2) = some k
  cw : m.c.1 = m.hands.length
  cs : m.c.2.2.2.1 = m.slots.length
theorem Wn.mono {m : MdV} {K K' : Nat} (h : Wn m K) (hk : K ≤ K') : Wn m K' := ⟨fun p hp => by have := h.gk p hp; omega, h.gn, h.nd, h.lv, h.cw, h.cs⟩
theorem wn_new {c : CfV} (h : mayC c = true) (l : Bool) : Wn (newM c l) 0 := by
  obtain ⟨h1, h2, h3, h4⟩ := may_cf h
  refine ⟨fun p hp => ?_, (fun r hr => by cases hr), List.nodup_nil, fun i p hp h1 => ?_, by simp only [newM, List.length_replicate]; omega, by simp only [newM, List.length_replicate]; omega⟩
  · rw [List.eq_of_mem_replicate hp]; exact ⟨Int.le_refl _, Int.le_refl _⟩
  · have := List.eq_of_mem_replicate (List.mem_of_getElem? hp)
    rw [this] at h1; cases h1
theorem findR_set {L : List RgV} {i : Nat} {r r' : RgV} (hi : L[i]? = some r) (hn : r'.nm = r.nm) (n : NmV) : findR (L.set i r') n = findR L n := by
  unfold findR
  have : ∀ (M : List RgV) (i : Nat), M[i]? = some r → (M.set i r').findIdx? (fun x => decide (x.nm = n)) = M.findIdx? (fun x => decide (x.nm = n)) := by
    intro M
    induction M with
    | nil => intro i h; simp at h
    | cons x M ih =>
      intro i h
      cases i with
      | zero =>
        simp at h; subst h
        rw [List.set_cons_zero, List.findIdx?_cons, List.findIdx?_cons, hn]
      | succ i =>
        rw [List.set_cons_succ, List.findIdx?_cons, List.findIdx?_cons, ih i (by simpa using h)]
  exact this L i hi
theorem Wn.setRg {m : MdV} {K : Nat} (h : Wn m K) {i : Nat} {r r' : RgV} (hi : m.rgs[i]? = some r) (hn : r'.nm = r.nm) : Wn { m with rgs := m.rgs.set i r' } K := by
  refine ⟨h.gk, fun x hx => ?_, ?_, fun j p hp h1 => ?_, h.cw, h.cs⟩
  · rcases List.mem_or_eq_of_mem_set hx with h1 | h1
    · exact h.gn x h1
    · rw [h1, hn]; exact h.gn r (List.mem_of_getElem? hi)
  · have : (m.rgs.set i r').map (·.nm) = m.rgs.map (·.nm) := by
      rw [List.map_set, hn]
      exact set_same (by rw [List.getElem?_map, hi]; rfl)
    rw [this]; exact h.nd
  · obtain ⟨k, hk⟩ := h.lv j p hp h1
    exact ⟨k, by rw [findR_set hi hn]; exact hk⟩
theorem Wn.setHd {m : MdV} {K : Nat} (h : Wn m K) (w : Int) (d : HdV) : Wn (setHd m w d) K := ⟨h.gk, h.gn, h.nd, h.lv, by simp only [Go.Proofs.YtgamnncehjcdiaaGreat.setHd, List.length_set]; exact h.cw, h.cs⟩
theorem Wn.setSl {m : MdV} {K : Nat} (h : Wn m K) {i : Nat} {p : NmV} (hp : m.slots[i]? = some p) {v : Int} (hv : v ≠ 1) : Wn { m with slots := m.slots.set i (v, p.2) } K := by
  have hpm := h.gk p (List.mem_of_getElem? hp)
  refine ⟨mem_set h.gk hpm, fun r hr => ?_, h.nd, fun j q hq h1 => ?_, h.cw, by simp only [List.length_set]; exact h.cs⟩
  · obtain ⟨a, b, c, d⟩ := h.gn r hr
    refine ⟨a, by simp only [List.length_set]; exact b, c, fun q hq => ?_⟩
    simp only at hq
    rw [List.getElem?_set] at hq
    split at hq
    · rename_i e
      split at hq
      · cases hq; exact d p (by rw [← e]; exact hp)
      · cases hq
    · exact d q hq
  · simp only at hq
    rw [List.getElem?_set] at hq
    split at hq
    · split at hq
      · cases hq; exact absurd h1 hv
      · cases hq
    · exact h.lv j q hq h1
theorem Wn.setWord {m : MdV} {K : Nat} (h : Wn m K) (a : HnV) (n x : Int) : Wn (setWordV m a n x) K := by
  unfold setWordV
  split
  · split
    · rename_i r hr
      exact h.setRg hr rfl
    · exact h
  · exact h
theorem Wn.back {m : MdV} {K : Nat} (h : Wn m K) (n : Int) : Wn (backV m n).2 K := by
  unfold backV
  split
  · split
    · rename_i p hp
      split
      · exact h.setSl hp (by decide)
      · exact h
    · exact h
  · exact h
theorem Wn.does {m : MdV} {K : Nat} (h : Wn m K) (w : Int) (o : OpV) (a : HnV) : Wn (doesV m w o a) K := by
  unfold doesV
  split
  · exact h
  · split
    · exact h.setHd _ _
    split
    · exact h.setHd _ _
    split
    · split
      · exact h
      · exact h.setHd _ _
    split
    · exact h.setWord _ _ _
    split
    · exact h.setWord _ _ _
    split
    · split
      · exact h.setWord _ _ _
      · exact h
    split
    · split
      · rename_i p hp
        refine h.setSl hp ?_
        split <;> decide
      · exact h
    · exact h
theorem findR_app_left {L : List RgV} {x : RgV} {n : NmV} {k : Nat} (h : findR L n = some k) : findR (L ++ [x]) n = some k := by
  unfold findR at h ⊢
  rw [List.findIdx?_append, h]; rfl
theorem findR_app_new {L : List RgV} {x : RgV} (h : findR L x.nm = none) : findR (L ++ [x]) x.nm = some L.length := by
  unfold findR at h ⊢
  rw [List.findIdx?_append, h]
  simp [List.findIdx?_cons]
theorem Wn.fresh {m : MdV} {K : Nat} (h : Wn m K) {i : Nat} {p : NmV} (hp : m.slots[i]? = some p) (r : RgV) (hr : r ∈ m.rgs) : r.nm ≠ ((i : Int), p.2 + 1) := fun e => by
  obtain ⟨a, b, c, d⟩ := h.gn r hr
  rw [e] at d
  have := d p (by rw [Int.toNat_natCast]; exact hp)
  simp only at this; omega
theorem Wn.creates {m : MdV} {K : Nat} (h : Wn m K) (hK : K ≤ 1000000) (cls : Int) (r : RsV) : Wn (createsV m cls r).2 (K + 1) := by
  have h1 := h.mono (Nat.le_succ K)
  unfold createsV
  split
  · exact h1
  split
  · rename_i hs
    split
    · rename_i p hp
      split
      · exact h1
      split
      · have hpm := h.gk p (List.mem_of_getElem? hp)
        have hl : laterV p.2 = p.2 + 1 := by rw [laterV, if_pos (by omega)]
        have hnn : ((r.2.1.1.toNat : Nat) : Int) = r.2.1.1 := by omega
        have hfr : findR m.rgs (r.2.1.1, p.2 + 1) = none := findR_none fun j x hx => by
          have := h.fresh hp x (List.mem_of_getElem? hx)
          rw [hnn] at this; exact this
        rw [hl]
        refine ⟨mem_set h1.gk (by simp only; omega), fun x hx => ?_, ?_, fun j q hq hq1 => ?_, h.cw, by simp only [List.length_set]; exact h.cs⟩
        · simp only [List.length_set]
          rcases List.mem_append.1 hx with hx | hx
          · obtain ⟨a, b, c, d⟩ := h.gn x hx
            refine ⟨a, b, c, fun q hq => ?_⟩
            rw [List.getElem?_set] at hq
            split at hq
            · rename_i e
              split at hq
              · cases hq
                have := d p (by rw [← e]; exact hp)
                simp only; omega
              · cases hq
            · exact d q hq
          · rw [List.mem_singleton.1 hx]
            refine ⟨hs.1, hs.2, by simp only; omega, fun q hq => ?_⟩
            simp only at hq
            rw [List.getElem?_set, if_pos rfl] at hq
            split at hq
            · cases hq; exact Int.le_refl _
            · cases hq
        · rw [List.map_append, List.nodup_append]
          refine ⟨h.nd, by simp, fun a ha b hb => ?_⟩
          obtain ⟨x, hx, rfl⟩ := List.mem_map.1 ha
          rw [List.map_cons, List.map_nil, List.mem_singleton] at hb
          rw [hb]
          have := h.fresh hp x hx
          rw [hnn] at this; exact this
        · simp only at hq
          rw [List.getElem?_set] at hq
          split at hq
          · rename_i e
            split at hq
            · cases hq
              rw [← e, hnn]
              exact ⟨_, findR_app_new (x := ⟨(r.2.1.1, p.2 + 1), cls, 0, [], [], []⟩) hfr⟩
            · cases hq
          · obtain ⟨k, hk⟩ := h.lv j q hq hq1
            exact ⟨k, findR_app_left hk⟩
      · exact h1
    · exact h1
  · exact h1
theorem Wn.gives {m : MdV} {K : Nat} (h : Wn m K) (n : Int) (a : HnV) (r : RsV) : Wn (givesV m n a r).2 (K + 1) := by
  have h1 := h.mono (Nat.le_succ K)
  unfold givesV
  split
  · exact h1
  · split
    · exact h1
    · rename_i i _ x hx
      simp only
      split
      · exact h1
      split
      · exact h1
      split
      · refine h1.setRg hx ?_
        unfold growV
        split <;> rfl
      · exact h1
theorem Wn.doV {m : MdV} {K : Nat} (h : Wn m K) (hK : K ≤ 1000000) (w : Int) (o : OpV) (a : HnV) (r : RsV) : Wn (doV m w o a r).2 (K + 1) := by
  have h1 := h.mono (Nat.le_succ K)
  unfold Go.Proofs.YtgamnncehjcdiaaGreat.doV
  split
  · exact h1
  split
  · split
    · simp only
      split
      · exact (h.does _ _ _).mono (Nat.le_succ K)
      · exact h1
    · exact h1
  split
  · exact h.creates hK _ _
  · exact h.gives _ _ _
section
variable {m : MdV} {K : Nat}
theorem findX_rf (m : MdV) (n : NmV) : findX (toRf m).rgs n = findR m.rgs n := by
  unfold findX toRf
  simp only [List.map_map]
  rw [show (Prod.fst ∘ fun r : RgV => (r, isLv m r.nm)) = id from rfl, List.map_id]
theorem rgs_rf (m : MdV) (i : Nat) : (toRf m).rgs[i]? = (m.rgs[i]?).map fun r => (r, isLv m r.nm) := by
  simp [toRf, List.getElem?_map]
theorem good_rfv (W : Wf m K) (k : Int) (a : HnV) : goodX (toRf m) k a = (if ofK k = 0 then true else knownV m a (ofK k)) := by
  have hcase : ofK k = 0 ∨ ofK k = 1 ∨ ofK k = 2 ∨ ofK k = 3 := by
    unfold ofK; repeat' split
    all_goals omega
  have kx : knownX (toRf m) a = match findR m.rgs (nmOf a) with
    | none => (false, false)
    | some i => (decide (a.2.2.1 = 0 ∧ a.2.2.2.1 = 0 ∧ a.2.2.2.2 = 0), match m.rgs[i]? with | some r => decide (a ∈ r.objs) | none => false) := by
    unfold knownX
    rw [findX_rf]
    cases findR m.rgs (nmOf a) with
    | none => rfl
    | some i =>
      simp only [rgs_rf]
      cases m.rgs[i]? <;> rfl
  have kv : ∀ of, knownV m a of = match findR m.rgs (nmOf a) with
    | none => false
    | some i => if a.2.2.2.2 = 0 then decide (a.2.2.1 = 0) && (decide (a.2.2.2.1 = 0) && decide (of ≠ 2)) else decide (of ≠ 1) && (match m.rgs[i]? with | some r => decide (a ∈ r.objs) | none => false) := fun of => rfl
  unfold goodX
  rw [kx]
  cases hf : findR m.rgs (nmOf a) with
  | none =>
    rcases hcase with h | h | h | h <;> rw [h] <;> simp [kv, hf]
  | some i =>
    obtain ⟨r, hr, _⟩ := findR_at hf
    have hob : a.2.2.2.2 = 0 → a ∉ r.objs := fun h0 hm => by
      have := ((W.rg r (List.mem_of_getElem? hr)).ob a hm).2.2.1
      omega
    simp only [hr]
    rcases hcase with h | h | h | h <;> rw [h]
    · simp
    · simp only [if_true, kv, hf, hr]
      by_cases h0 : a.2.2.2.2 = 0
      · simp [h0]
      · simp [h0]
    · simp only [show ¬ (2 : Int) = 1 by decide, show ¬ (2 : Int) = 0 by decide, if_true, if_false, kv, hf, hr]
      by_cases h0 : a.2.2.2.2 = 0
      · rw [if_pos h0, decide_eq_false (hob h0)]; simp
      · rw [if_neg h0]; simp
    · simp only [show ¬ (3 : Int) = 1 by decide, show ¬ (3 : Int) = 2 by decide, show ¬ (3 : Int) = 0 by decide, if_true, if_false, kv, hf, hr]
      by_cases h0 : a.2.2.2.2 = 0
      · rw [if_pos h0, decide_eq_false (hob h0)]; simp [h0]
      · rw [if_neg h0]; simp [h0]
theorem rf_live (m : MdV) (n : Int) : liveX (toRf m) n = liveV m n := by
  unfold liveX liveV
  have hl : (toRf m).state.length = m.slots.length := by simp [toRf]
  rw [hl]
  by_cases h : 0 ≤ n ∧ n < m.slots.length
  · rw [if_pos h, if_pos h]
    obtain ⟨p, hp⟩ : ∃ p, m.slots[n.toNat]? = some p := ⟨_, List.getElem?_eq_getElem (by omega)⟩
    have e1 : (toRf m).state.getD n.toNat 0 = p.1 := by rw [List.getD_eq_getElem?_getD]; simp [toRf, hp]
    have e2 : (toRf m).gen.getD n.toNat 0 = p.2 := by rw [List.getD_eq_getElem?_getD]; simp [toRf, hp]
    rw [e1, e2, hp]
  · rw [if_neg h, if_neg h]
theorem rf_spare (m : MdV) : spareI (toRf m).state = spareN m.slots := by
  rw [spareI, spareN]
  show ((m.slots.map (·.1)).filter _).length = _
  rw [List.filter_map, List.length_map]; rfl
theorem rf_taken (m : MdV) (ch : Int) : takenX (toRf m).rgs ch = takenV m ch := by
  unfold takenX takenV
  show ((m.rgs.map _).any _) = _
  rw [List.any_map]; rfl
end
end Go.Proofs.YtgamnncehjcdiaaGreat

namespace Go.Proofs.YtgamnncehjcdiaaGreat
open Go Ev Go.RowKit

section
variable {W w : World} {g g6 g7 g8 g10 : Nat} {x : RfV} {m : MdV} {F : Fp} {K : Nat} {o : OpV} {h : HnV} {d : HdV}
theorem RfI.word (I : RfI w g x F) {i : Nat} {p : RgV × Bool} (hi : x.rgs[i]? = some p) {k : Nat} {L : List Int} (hL : p.1.words[k]? = some L) {j : Nat} {y : Int} (hj : L[j]? = some y) :
    ∃ b c bw cw g2 c2, ldC (hp w g) (0 + 9) = some (.slice (some ⟨b, 0, none⟩) x.rgs.length c) ∧ ldC (hp w b) (i * 8 + 6) = some (.slice (some ⟨bw, 0, none⟩) p.1.words.length cw) ∧ ldC (hp w bw) k = some (.slice (some ⟨g2, 0, none⟩) L.length c2) ∧ ldC (hp w g2) j = some (.int .u64 y) ∧
      ∀ z, okC (hp w g2) (j + 1) = true ∧ ∃ F', RfI (put w g2 ((getC (hp w g2)).setIfInBounds j (.int .u64 z)) (getE (hp w g2))) g { x with rgs := x.rgs.set i ({ p.1 with words := p.1.words.set k (L.set j z) }, p.2) } F' ∧ UpdP F F' w (put w g2 ((getC (hp w g2)).setIfInBounds j (.int .u64 z)) (getE (hp w g2))) := by
  have hP0 : (x.rgs.flatMap rrT)[i * 8 + 6]? = some (wordsT p.1.words) := aR rrT_len x.rgs i p hi 6 (by omega)
  obtain ⟨b, c, v, Fk, hl, hbg, hFb, hsub, _, _, hld, hP, hres, _⟩ := isAt.row I (bc x) (k := 9) (e' := 130) (z := 8) (n := x.rgs.length) (Qs := x.rgs.flatMap rrT) rfl (good_rrL x.rgs) hP0
  have hPw : (p.1.words.map wordT)[k]? = some (wordT L) := by rw [List.getElem?_map, hL]; rfl
  obtain ⟨bw, cw, v2, Fk2, hx2, _, _, _, hld2, hP2, hres2, _⟩ := isRow.cell hP (fun P hP => by obtain ⟨l, _, rfl⟩ := List.mem_map.1 hP; exact good_word l) hPw
  have hPu : ((u64s L).map isV)[j]? = some (isV (.int .u64 y)) := by rw [u64s, List.map_map, List.getElem?_map, hj]; rfl
  obtain ⟨g2, c2, v3, Fk3, hx3, _, _, _, hld3, hv3, _, hst⟩ := isRow.cell hP2 (good_ints (u64s_int L)) hPu
  refine ⟨b, c, bw, cw, g2, c2, hl, by rw [← hx2]; exact hld, by rw [← hx3]; exact hld2, by rw [hld3, hv3.1], fun z => ?_⟩
  obtain ⟨ok, F1, hrow, hupd⟩ := hst w none' (isV (.int .u64 z)) (.int .u64 z) (UpdP.none hv3.2 w) (bj _ _) ⟨rfl, fun _ h => h⟩
  have hset : ((u64s L).map isV).set j (isV (.int .u64 z)) = (u64s (L.set j z)).map isV := by simp [u64s, List.map_set]
  rw [hset] at hrow
  have hrow' : wordT (L.set j z) (put w g2 ((getC (hp w g2)).setIfInBounds j (.int .u64 z)) (getE (hp w g2))) F1 v2 := by rw [wordT, List.length_set]; exact hrow
  obtain ⟨F2, hrow2, hupd2⟩ := hres2 _ F1 (wordT (L.set j z)) hupd hrow'
  rw [← List.map_set] at hrow2
  have hrow2' : wordsT (p.1.words.set k (L.set j z)) (put w g2 ((getC (hp w g2)).setIfInBounds j (.int .u64 z)) (getE (hp w g2))) F2 v := by rw [wordsT, List.length_set]; exact hrow2
  obtain ⟨F3, h1, h2⟩ := hres _ F2 (wordsT (p.1.words.set k (L.set j z))) hupd2 hrow2'
  rw [flatM_setP rrT_len (x' := ({ p.1 with words := p.1.words.set k (L.set j z) }, p.2)) (by omega) rfl hi] at h1
  have e : rrsT (x.rgs.set i ({ p.1 with words := p.1.words.set k (L.set j z) }, p.2)) = isRow 130 8 x.rgs.length ((x.rgs.set i ({ p.1 with words := p.1.words.set k (L.set j z) }, p.2)).flatMap rrT) := by rw [rrsT, List.length_set]
  rw [← e] at h1
  exact ⟨ok, F3, h1, h2⟩
theorem ObjAt.rf {i : Nat} {r : RgV} {k : Nat} {L : List Int} {j : Nat} {n : Int} (O : ObjAt m h n i r k L j) : (toRf m).rgs[i]? = some (r, isLv m r.nm) := by rw [rgs_rf, O.ri]; rfl
theorem hands_rf {n : Int} (hd : m.hands[n.toNat]? = some d) : (toRf m).holds[n.toNat]? = some d.holds ∧ (toRf m).depth[n.toNat]? = some d.depth := by simp [toRf, hd]
theorem l_rTouch2 {L : World → Prop} (hc : Chg [] W w) {c8 : Array Value} (h10 : hp w g10 = some (.cells c8 28)) (hs : c8.size = 8) (n10 : W.heap.size ≤ g10) :
    P81_2 (.pointer (some ⟨g10, 0, none⟩)) w fun v w' => v = .agg (rsC noR).toArray ∧ Chg [] W w' := by
  apply L81_2_ok
  simp -implicitDefEqProofs only [L81_2, bdr_, ad]
  rw [st_res h10 hs, aZ (ap (av h10) _ _), ad]
  exact ⟨rfl, hc.put (.inr n10) _ _⟩
set_option maxHeartbeats 1000000 in
theorem l_rTouch0 (hc : Chg [] W w) {c8 : Array Value} (h10 : hp w g10 = some (.cells c8 28)) (hs : c8.size = 8) (n10 : W.heap.size ≤ g10) (h8 : hp w g8 = some (.cells (opC o).toArray 39)) (h6 : 6 ≤ o.1) (h9 : o.1 ≤ 9) :
    P81_0 (.pointer (some ⟨g8, 0, none⟩)) (.pointer (some ⟨g10, 0, none⟩)) (.int .u64 (wordV m h o.2.2.2.1)) w fun v w' => v = .agg (rsC (mustB m o h)).toArray ∧ Chg [] W w' := by
  apply L81_0_ok
  have one : ∀ t : Bool, t = decide (o.1 = 6 ∨ o.1 = 8) → P81_1 (.pointer (some ⟨g8, 0, none⟩)) (.pointer (some ⟨g10, 0, none⟩)) (.int .u64 (wordV m h o.2.2.2.1)) (.int .i64 o.1) (.bool t) w fun v w' => v = .agg (rsC (mustB m o h)).toArray ∧ Chg [] W w' := by
    intro t ht
    apply L81_1_ok
    by_cases k68 : o.1 = 6 ∨ o.1 = 8
    · have ht' : t = true := by rw [ht]; exact decide_eq_true k68
      subst ht'
      have e : mustB m o h = (0, noH, 0, wordV m h o.2.2.2.1) := by rw [mustB, if_pos k68]
      have hb : pureRun Tryz.prog (Instr.build 28 #[(3, .int .u64 (wordV m h o.2.2.2.1))]) = some (.agg (rsC (0, noH, 0, wordV m h o.2.2.2.1)).toArray) := bd_28_3
      simp -implicitDefEqProofs only [L81_1, zS, hb]
      rw [st_res h10 hs, aZ (ap (av h10) _ _), ad, e]
      exact ⟨rfl, hc.put (.inr n10) _ _⟩
    have ht' : t = false := by rw [ht]; exact decide_eq_false k68
    subst ht'
    by_cases k9 : o.1 = 9
    · have q9 : (o.1 == 9) = true := by rw [k9]; rfl
      by_cases hv : wordV m h o.2.2.2.1 = o.2.2.2.2.1
      · have ev : (wordV m h o.2.2.2.1 == o.2.2.2.2.1) = true := by rw [hv]; exact beq_self_eq_true _
        have e : mustB m o h = (0, noH, 1, 0) := by rw [mustB, if_neg k68, if_pos k9, if_pos hv]
        have hb : pureRun Tryz.prog (Instr.build 28 #[(2, .int .i64 1)]) = some (.agg (rsC (0, noH, 1, 0)).toArray) := bd_28_2
        simp -implicitDefEqProofs only [L81_1, zS, q9, bn, ld_26, h8, op_4, ev, hb]
        rw [st_res h10 hs, aZ (ap (av h10) _ _), ad, e]
        exact ⟨rfl, hc.put (.inr n10) _ _⟩
      · have e : mustB m o h = noR := by rw [mustB, if_neg k68, if_pos k9, if_neg hv]; rfl
        simp -implicitDefEqProofs only [L81_1, zS, q9, bn, ld_26, h8, op_4, eqf hv]
        rw [e]
        exact l_rTouch2 (L := fun _ => True) hc h10 hs n10
    · have e : mustB m o h = noR := by rw [mustB, if_neg k68, if_neg k9, if_neg (by omega)]
      simp -implicitDefEqProofs only [L81_1, zS, eqf k9]
      rw [e]
      exact l_rTouch2 (L := fun _ => True) hc h10 hs n10
  by_cases k6 : o.1 = 6
  · have q : (o.1 == 6) = true := by rw [k6]; rfl
    have f := one true (by rw [k6]; rfl)
    simp -implicitDefEqProofs only [L81_0, zS, aj, af, h8, aC, q]
    exact f
  · have f := one (o.1 == 8) (by
      by_cases k8 : o.1 = 8
      · rw [k8]; rfl
      · rw [eqf k8]; exact (decide_eq_false (by omega)).symm)
    simp -implicitDefEqProofs only [L81_0, zS, aj, af, h8, aC, eqf k6]
    exact f
def touchV (m : MdV) (d : HdV) (o : OpV) (h : HnV) : RsV := if holdsV d h = false then codeR 4 else if h.2.2.2.2 ≤ o.2.2.2.1 then codeR 5 else mustB m o h
set_option maxHeartbeats 4000000 in
theorem c_rTouch (I : RfI w g (toRf m) F) (Wm : Wf m K) (hK : K ≤ 1000000) {n : Int} (n0 : 0 ≤ n) (hd : m.hands[n.toNat]? = some d) (hk : knownV m h 2 = true) (o0 : 0 ≤ o.2.2.2.1) (o6 : 6 ≤ o.1) (o9 : o.1 ≤ 9) {i : Nat} (hf : findR m.rgs (nmOf h) = some i) :
    CallR Tryz.prog 81 [.pointer (some ⟨g, 0, none⟩), .int .i64 n, .int .i64 i, .agg (opC o).toArray, .agg (hnC h).toArray] w fun v w' => v = .agg (rsC (touchV m d o h)).toArray ∧ Chg [] w w' := by
  apply F81_ok
  simp -implicitDefEqProofs only [F81, aE, aB, al_28, ae]
  generalize hw : ((w.alloc (.cells (opC o).toArray 39)).alloc _).alloc _ = w1
  have c1 : Chg [] w w1 := by rw [← hw]; exact (((Chg.refl _ _).alloc _).alloc _).alloc _
  have b8 : hp w1 w.heap.size = some (.cells (opC o).toArray 39) := by rw [← hw, ac, ae, ae, if_neg (by omega), ac, ae, if_neg (by omega), ac, if_pos rfl]
  have b9 : hp w1 (w.heap.size + 1) = some (.cells (hnC h).toArray 25) := by rw [← hw, ac, ae, ae, if_neg (by omega), ac, ae, if_pos rfl]
  have b10 : hp w1 (w.heap.size + 1 + 1) = some (.cells (rsC noR).toArray 28) := by rw [← hw, ac, ae, ae, if_pos rfl]; rfl
  clear hw
  obtain ⟨s, gn, r, dd, hh, R⟩ := (I.keep c1).rd
  have e0 : (hnC h).toArray[0 + 0]? = some (.int .i64 h.1) := rfl
  have e1 : (hnC h).toArray[0 + 1]? = some (.int .i64 h.2.1) := rfl
  have e2 : (hnC h).toArray[0 + 2]? = some (.int .i64 h.2.2.1) := rfl
  have e3 : (hnC h).toArray[0 + 3]? = some (.int .i64 h.2.2.2.1) := rfl
  have e4 : (hnC h).toArray[0 + 4]? = some (.int .i64 h.2.2.2.2) := rfl
  have hD := Wm.hd d (List.mem_of_getElem? hd)
  simp -implicitDefEqProofs only [zS, ba, fa_25_1, af, b9, e0, e1]
  refine (c_rHas R n0 (hands_rf hd).1 (by omega) (nmOf h)).step ?_
  have ht : decide (nmOf h ∈ d.holds) = holdsV d h := rfl
  rw [ht]
  cases hh2 : holdsV d h with
  | false =>
    have tv : touchV m d o h = codeR 4 := by rw [touchV, if_pos hh2]
    simp -implicitDefEqProofs only [zS, bdr_0]
    rw [st_res b10 rfl, aZ (ap (av b10) _ _), ad, tv]
    exact ⟨rfl, c1.put (.inr (by omega)) _ _⟩
  | true =>
    by_cases n1 : h.2.2.2.2 ≤ o.2.2.2.1
    · have tv : touchV m d o h = codeR 5 := by rw [touchV, if_neg (by rw [hh2]; simp), if_pos n1]
      simp -implicitDefEqProofs only [zS, aN, fa_25_4, af, b8, b9, op_3, e4, aH, ge_iff_le, n1, bdr_0]
      rw [st_res b10 rfl, aZ (ap (av b10) _ _), ad, tv]
      exact ⟨rfl, c1.put (.inr (by omega)) _ _⟩
    have tv : touchV m d o h = mustB m o h := by rw [touchV, if_neg (by rw [hh2]; simp), if_neg n1]
    rw [tv]
    obtain ⟨i', rg, k, L, j, O⟩ := obj_at Wm hk o0 (by omega)
    have hii : i' = i := by have := O.fi; rw [hf] at this; exact (Option.some.inj this).symm
    subst hii
    have cd : Chg [] w1 w1.drew := (Chg.refl _ _).drew
    have W1 := Wm.w1
    have W2 := Wm.w2
    have all : ∀ w2, Chg [] w1 w2 → ∃ b c bw cw g2 c2, ldC (hp w2 g) (0 + 9) = some (.slice (some ⟨b, 0, none⟩) (toRf m).rgs.length c) ∧ ldC (hp w2 b) (i' * 8 + 6) = some (.slice (some ⟨bw, 0, none⟩) rg.words.length cw) ∧ ldC (hp w2 bw) k = some (.slice (some ⟨g2, 0, none⟩) L.length c2) ∧ ldC (hp w2 g2) j = some (.int .u64 (wordV m h o.2.2.2.1)) := fun w2 c2 => by
      obtain ⟨b, c, bw, cw, g2, c2', p1, p2, p3, p4, _⟩ := (I.keep (c1.trans c2)).word O.rf O.wk O.val
      exact ⟨b, c, bw, cw, g2, c2', p1, p2, p3, p4⟩
    obtain ⟨b, c, bw, cw, g2, c2, p1, p2, p3, p4⟩ := all w1 (Chg.refl _ _)
    obtain ⟨Fr, hFr⟩ := (R.keep cd).rT
    obtain ⟨b', c', hx, cv, wv, ov, Q⟩ := rr_at hFr O.rf
    have hrl := R.rl
    rw [p1, hx] at hrl
    cases hrl
    obtain ⟨A, cc, rfl, hRc⟩ := ints_sh Q.cT
    have hil : i' < (toRf m).rgs.length := (List.getElem?_eq_some_iff.1 O.rf).1
    have ia := ia_105 (b := b) (p := 0) (n := (toRf m).rgs.length) (c := c) (j := .i64) (i := (i' : Int)) (by omega) (by omega)
    rw [Int.toNat_natCast, Nat.zero_add] at ia
    have hlw := (List.getElem?_eq_some_iff.1 O.wk).1
    have iaw := ia_86 (b := bw) (p := 0) (n := rg.words.length) (c := cw) (j := .i64) (i := (k : Int)) (by omega) (by omega)
    rw [Int.toNat_natCast, Nat.zero_add, Nat.mul_one] at iaw
    have hjl := O.jl
    have hwl := O.wl
    have iau := ia_93 (b := g2) (p := 0) (n := L.length) (c := c2) (j := .i64) (i := (j : Int)) (by omega) (by omega)
    rw [Int.toNat_natCast, Nat.zero_add, Nat.mul_one] at iau
    have hcl : rg.chunks.length ≤ 1000000 := Nat.le_trans (Wm.rg rg (List.mem_of_getElem? O.ri)).cl hK
    have cat := c_rAt (w := w1.drew) (p := (rg, isLv m rg.nm)) (c := cc) (wv := wv) (ov := ov) hRc hcl h.2.2.1
    rw [show ixOf (rg, isLv m rg.nm).1.chunks h.2.2.1 = (k : Int) from O.ix] at cat
    have sz := c1.size
    simp -implicitDefEqProofs only [zS, aN, bm, fa_25_3, fa_25_4, aJ, fa_130_6, aM, ld_86, af, b8, b9, op_3, e2, e3, e4, aH, ge_iff_le, n1, p1, p2, ia, ld_rg Q, aA, O.jn, az (n := (j : Int)) (by omega) (by omega)]
    repeat' (with_reducible apply And.intro)
    all_goals
      refine cat.mono ?_
      rintro _ w3 ⟨rfl, c3⟩
      have c13 := cd.trans c3
      have t1 := aV c13 p1
      have t2 := aV c13 p2
      have t3 := aV c13 p3
      have t4 := aV c13 p4
      have t8 := c13.at b8 (by simp)
      have t9 := c13.at b9 (by simp)
      have t10 := c13.at b10 (by simp)
      simp -implicitDefEqProofs only [zS, fa_130_6, aM, ld_86, ld_93, ld_26, af, t1, t2, t3, t4, t8, t9, op_3, e3, ia, iaw, aA, O.jn, az (n := (j : Int)) (by omega) (by omega), iau]
      exact l_rTouch0 (c1.trans c13) t10 rfl (by omega) t8 o6 o9
end
end Go.Proofs.YtgamnncehjcdiaaGreat

namespace Go.Proofs.YtgamnncehjcdiaaGreat
open Go Ev Go.RowKit

section
variable {W w : World} {g g6 g7 g8 g10 : Nat} {m : MdV} {F : Fp} {K : Nat} {o : OpV} {h : HnV} {d : HdV} {n : Int}
theorem l_rMust1 (x : Int) (hc : Chg [] W w) {c8 : Array Value} (h8 : hp w g8 = some (.cells c8 28)) (hs : c8.size = 8) (n8 : W.heap.size ≤ g8) :
    P50_1 (.pointer (some ⟨g8, 0, none⟩)) (.int .i64 x) w fun v w' => v = .tuple #[.agg (rsC (codeR x)).toArray, .bool true] ∧ Chg [] W w' := by
  apply L50_1_ok
  simp -implicitDefEqProofs only [L50_1, bdr_0, ad]
  rw [st_res h8 hs, aZ (ap (av h8) _ _), ad]
  exact ⟨rfl, hc.put (.inr n8) _ _⟩
theorem refuses_eq (hk : ofK o.1 = 0 ∨ knownV m h (ofK o.1) = true) : refusesV m d o h = codeV m.c.2.2.1 d (holdsV d h) (staleV m h) o h.2.2.2.2 := by
  rw [refusesV, if_neg]
  rintro ⟨h1, h2⟩
  rcases hk with hk | hk
  · exact h1 hk
  · rw [hk] at h2; cases h2
theorem must_eq (hm : mayV m n o = true) (hd : m.hands[n.toNat]? = some d) : mustV m n o h = if refusesV m d o h ≠ 0 then (codeR (refusesV m d o h), true) else if o.1 = 1 ∨ o.1 = 2 then (noR, false) else (mustB m o h, true) := by
  rw [mustV, if_neg (by rw [hm]; simp), hd]
theorem rf_flag (I : RfI w g (toRf m) F) {i : Nat} {r : RgV} (hi : m.rgs[i]? = some r) : ∃ b c, ldC (hp w g) (0 + 9) = some (.slice (some ⟨b, 0, none⟩) (toRf m).rgs.length c) ∧ (∃ cv wv ov, RrR w b (i * 8) (r, isLv m r.nm) cv wv ov) ∧ i < (toRf m).rgs.length := by
  obtain ⟨s, gn, rv, dd, hh, R⟩ := I.rd
  obtain ⟨Fr, hFr⟩ := R.rT
  have hx : (toRf m).rgs[i]? = some (r, isLv m r.nm) := by rw [rgs_rf, hi]; rfl
  obtain ⟨b, c, rfl, Q⟩ := rr_at hFr hx
  exact ⟨b, c, R.rl, Q, (List.getElem?_eq_some_iff.1 hx).1⟩
theorem out_res (r : RsV) (b : Bool) {w2 : World} {P : RsV × Bool} {c8 : Array Value} (hc : Chg [] W w2) (h82 : hp w2 g8 = some (.cells c8 28)) (hs : c8.size = 8) (n8 : W.heap.size ≤ g8) (e : P = (r, b)) :
    effu Tryz.prog (Instr.storeAt 28 (.pointer (some ⟨g8, 0, none⟩)) (.agg (rsC r).toArray)) w2 fun w => wpB (ldv Tryz.prog 28 (.pointer (some ⟨g8, 0, none⟩)) w) fun r8 => Value.tuple #[r8, .bool b] = .tuple #[.agg (rsC P.1).toArray, .bool P.2] ∧ Chg [] W w := by
  rw [st_res h82 hs, aZ (ap (av h82) _ _), ad, e]
  exact ⟨rfl, hc.put (.inr n8) _ _⟩
set_option maxHeartbeats 4000000 in
theorem l_rMust0 {nn : Nat} (hc : Chg [] W w) (I : RfI w g (toRf m) F) (Wm : Wf m K) (hK : K ≤ 1000000) (h6 : hp w g6 = some (.cells (opC o).toArray 39)) (h7 : hp w g7 = some (.cells (hnC h).toArray 25)) {c8 : Array Value} (h8 : hp w g8 = some (.cells c8 28)) (hs : c8.size = 8) (n8 : W.heap.size ≤ g8)
    (hm : mayV m nn o = true) (hd : m.hands[nn]? = some d) (hk : ofK o.1 = 0 ∨ knownV m h (ofK o.1) = true) {ix : Int} (hix : ofK o.1 ≠ 0 → ∃ i, findR m.rgs (nmOf h) = some i ∧ ix = i) :
    P50_0 (.pointer (some ⟨g, 0, none⟩)) (.int .i64 nn) (.pointer (some ⟨g6, 0, none⟩)) (.pointer (some ⟨g7, 0, none⟩)) (.pointer (some ⟨g8, 0, none⟩)) (.int .i64 ix) w fun v w' => v = .tuple #[.agg (rsC (mustV m nn o h).1).toArray, .bool (mustV m nn o h).2] ∧ Chg [] W w' := by
  apply L50_0_ok
  obtain ⟨n0, n1, o0⟩ := may_n hm
  obtain ⟨k1', k12'⟩ := may_k hm
  obtain ⟨s, gn, rv, dd, hh, R⟩ := I.rd
  have cd : Chg [] w w.drew := (Chg.refl _ _).drew
  have hd' : m.hands[(nn : Int).toNat]? = some d := hd
  have me := must_eq (h := h) hm hd'
  rw [refuses_eq hk] at me
  have hD := Wm.hd d (List.mem_of_getElem? hd)
  have h6d : hp w.drew g6 = some (.cells (opC o).toArray 39) := h6
  have h8d : hp w.drew g8 = some (.cells c8 28) := h8
  have hw2 : ldC (hp w g) (0 + 0 + 2) = some (.int .i64 m.c.2.2.1) := R.c 2 (by omega)
  obtain ⟨Ad, cd', hdv, hRd⟩ := ints_sh R.dT
  have hdl := R.dl
  rw [hdv] at hdl
  have hdd := (hands_rf hd').2
  rw [Int.toNat_natCast] at hdd
  obtain ⟨qd, qd1, qd2⟩ := int_at (c := cd') hRd hdd
  have cb : ∀ x, x ≠ 0 → codeV m.c.2.2.1 d (holdsV d h) (staleV m h) o h.2.2.2.2 = x → mustV m nn o h = (codeR x, true) := fun x hx e => by rw [me, e, if_pos hx]
  have op : codeV m.c.2.2.1 d (holdsV d h) (staleV m h) o h.2.2.2.2 = 0 → o.1 = 1 ∨ o.1 = 2 → mustV m nn o h = (noR, false) := fun e hx => by rw [me, e, if_neg (by simp), if_pos hx]
  have nb : ∀ r, mustB m o h = r → codeV m.c.2.2.1 d (holdsV d h) (staleV m h) o h.2.2.2.2 = 0 → ¬ (o.1 = 1 ∨ o.1 = 2) → mustV m nn o h = (r, true) := fun r e1 e2 hx => by
    rw [me, e2, if_neg (by simp), if_neg hx, e1]
  have fin : ∀ (x : Int), mustV m nn o h = (codeR x, true) → P50_1 (.pointer (some ⟨g8, 0, none⟩)) (.int .i64 x) w fun v w' => v = .tuple #[.agg (rsC (mustV m nn o h).1).toArray, .bool (mustV m nn o h).2] ∧ Chg [] W w' := fun x e => by
    rw [e]; exact l_rMust1 x hc h8 hs n8
  by_cases k1 : o.1 = 1
  · have q : (o.1 == 1) = true := by rw [k1]; rfl
    have e := op (by rw [codeV, if_neg (by omega), if_neg (by omega), if_neg (by omega), if_neg (by omega), if_neg (by omega), if_neg (by omega)]) (.inl k1)
    simp -implicitDefEqProofs only [L50_0, zS, aj, af, h6, aC, q, bdr_]
    exact out_res noR false hc h8 hs n8 e
  have flag : ofK o.1 ≠ 0 → ∃ i r b c, findR m.rgs (nmOf h) = some i ∧ ix = (i : Int) ∧ ldC (hp w g) (0 + 9) = some (.slice (some ⟨b, 0, none⟩) (toRf m).rgs.length c) ∧ pureRun Tryz.prog (Instr.indexAt 105 (.slice (some ⟨b, 0, none⟩) (toRf m).rgs.length c) (.int .i64 ix)) = some (.pointer (some ⟨b, i * 8, none⟩)) ∧
      m.rgs[i]? = some r ∧ ldC (hp w b) (i * 8 + 4) = some (.bool (isLv m (nmOf h))) ∧ ldC (hp w b) (i * 8 + 3) = some (.int .i64 r.off) := fun hof => by
    obtain ⟨i, hfi, rfl⟩ := hix hof
    obtain ⟨r, hri, hrn⟩ := findR_at hfi
    obtain ⟨b, c, hb, ⟨cv, wv, ov, Q⟩, hil⟩ := rf_flag I hri
    have ia := ia_105 (b := b) (p := 0) (n := (toRf m).rgs.length) (c := c) (j := .i64) (i := (i : Int)) (by omega) (by omega)
    rw [Int.toNat_natCast, Nat.zero_add] at ia
    exact ⟨i, r, b, c, hfi, rfl, hb, ia, hri, by rw [← hrn]; exact Q.c4, Q.c3⟩
  have stT : isLv m (nmOf h) = true → staleV m h = 0 := fun hl => by unfold staleV; exact if_pos hl
  have stF : isLv m (nmOf h) = false → staleV m h = 3 := fun hl => by rw [staleV, if_neg (by show ¬ isLv m (nmOf h) = true; rw [hl]; simp)]
  by_cases k2 : o.1 = 2
  · have q : (o.1 == 2) = true := by rw [k2]; rfl
    obtain ⟨i, r, b, c, hfi, rfl, hb, ia, hri, hfl, _⟩ := flag (by rw [show ofK o.1 = 1 by rw [k2]; rfl]; decide)
    have cvv : codeV m.c.2.2.1 d (holdsV d h) (staleV m h) o h.2.2.2.2 = if o.2.2.2.1 < 1 ∨ m.c.2.2.1 < o.2.2.2.1 then 5 else staleV m h := by rw [codeV, if_pos k2]
    by_cases a1 : o.2.2.2.1 < 1
    · have e := cb 5 (by decide) (by rw [cvv, if_pos (.inl a1)])
      simp -implicitDefEqProofs only [L50_0, zS, aj, aN, af, h6, aC, op_3, eqf k1, q, a1, bdr_0]
      exact out_res (codeR 5) true hc.drew h8d hs n8 e
    by_cases a2 : m.c.2.2.1 < o.2.2.2.1
    · have e := cb 5 (by decide) (by rw [cvv, if_pos (.inr a2)])
      simp -implicitDefEqProofs only [L50_0, zS, aj, aN, af, h6, aC, op_3, eqf k1, q, a1, fa_108_0, fa_33_2, hw2, gt_iff_lt, a2, bdr_0]
      exact out_res (codeR 5) true hc.drew h8d hs n8 e
    have cv2 : codeV m.c.2.2.1 d (holdsV d h) (staleV m h) o h.2.2.2.2 = staleV m h := by rw [cvv, if_neg (by omega)]
    cases hl : isLv m (nmOf h) with
    | true =>
      have e := op (by rw [cv2, stT hl]) (.inr k2)
      rw [hl] at hfl
      simp -implicitDefEqProofs only [L50_0, zS, aj, aN, af, h6, aC, op_3, eqf k1, q, a1, fa_108_0, aJ, fa_33_2, hw2, gt_iff_lt, a2, aM, hb, ia, fa_130_4, ld_4, hfl, bdr_]
      exact out_res noR false hc.drew h8d hs n8 e
    | false =>
      have e := cb 3 (by decide) (by rw [cv2, stF hl])
      rw [hl] at hfl
      simp -implicitDefEqProofs only [L50_0, zS, aj, aN, af, h6, aC, op_3, eqf k1, q, a1, fa_108_0, aJ, fa_33_2, hw2, gt_iff_lt, a2, aM, hb, ia, fa_130_4, ld_4, hfl, bdr_0]
      exact out_res (codeR 3) true hc.drew h8d hs n8 e
  have k12 : ¬ (o.1 = 1 ∨ o.1 = 2) := by omega
  have cno : (noR : RsV) = codeR 0 := rfl
  by_cases k3 : o.1 = 3
  · have q : (o.1 == 3) = true := by rw [k3]; rfl
    have mb : mustB m o h = codeR 0 := by rw [mustB, if_neg (by omega), if_neg (by omega), if_neg (by omega)]; rfl
    have cvv : codeV m.c.2.2.1 d (holdsV d h) (staleV m h) o h.2.2.2.2 = if d.depth = 15 then 8 else 0 := by rw [codeV, if_neg k2, if_pos k3]
    by_cases a1 : d.depth = 15
    · have e : (d.depth == 15) = true := by rw [a1]; rfl
      have f := fin 8 (cb 8 (by decide) (by rw [cvv, if_pos a1]))
      simp -implicitDefEqProofs only [L50_0, zS, aj, af, h6, aC, eqf k1, eqf k2, q, fa_108_5, aY, hdl, qd1, qd2, e]
      exact f
    · have f := fin 0 (nb _ mb (by rw [cvv, if_neg a1]) k12)
      simp -implicitDefEqProofs only [L50_0, zS, aj, af, h6, aC, eqf k1, eqf k2, q, fa_108_5, aY, hdl, qd1, qd2, eqf a1]
      exact f
  by_cases k4 : o.1 = 4
  · have q : (o.1 == 4) = true := by rw [k4]; rfl
    have mb : mustB m o h = codeR 0 := by rw [mustB, if_neg (by omega), if_neg (by omega), if_neg (by omega)]; rfl
    have cvv : codeV m.c.2.2.1 d (holdsV d h) (staleV m h) o h.2.2.2.2 = if d.depth = 0 then 4 else 0 := by rw [codeV, if_neg k2, if_neg k3, if_pos k4]
    by_cases a1 : d.depth = 0
    · have e : (d.depth == 0) = true := by rw [a1]; rfl
      have f := fin 4 (cb 4 (by decide) (by rw [cvv, if_pos a1]))
      simp -implicitDefEqProofs only [L50_0, zS, aj, af, h6, aC, eqf k1, eqf k2, eqf k3, q, fa_108_5, aY, hdl, qd1, qd2, e]
      exact f
    · have f := fin 0 (nb _ mb (by rw [cvv, if_neg a1]) k12)
      simp -implicitDefEqProofs only [L50_0, zS, aj, af, h6, aC, eqf k1, eqf k2, eqf k3, q, fa_108_5, aY, hdl, qd1, qd2, eqf a1]
      exact f
  by_cases k5 : o.1 = 5
  · have q : (o.1 == 5) = true := by rw [k5]; rfl
    have mb : mustB m o h = codeR 0 := by rw [mustB, if_neg (by omega), if_neg (by omega), if_neg (by omega)]; rfl
    have cvv : codeV m.c.2.2.1 d (holdsV d h) (staleV m h) o h.2.2.2.2 = if d.depth = 0 then 4 else if holdsV d h then 0 else if d.holds.length = 8 then 8 else staleV m h := by rw [codeV, if_neg k2, if_neg k3, if_neg k4, if_pos k5]
    obtain ⟨i, r, b, c, hfi, rfl, hb, ia, hri, hfl, _⟩ := flag (by rw [show ofK o.1 = 3 by rw [k5]; rfl]; decide)
    have e0 : (hnC h).toArray[0 + 0]? = some (.int .i64 h.1) := rfl
    have e1 : (hnC h).toArray[0 + 1]? = some (.int .i64 h.2.1) := rfl
    by_cases a1 : d.depth = 0
    · have e : (d.depth == 0) = true := by rw [a1]; rfl
      have f := fin 4 (cb 4 (by decide) (by rw [cvv, if_pos a1]))
      simp -implicitDefEqProofs only [L50_0, zS, aj, af, h6, aC, eqf k1, eqf k2, eqf k3, eqf k4, q, fa_108_5, aY, hdl, qd1, qd2, e]
      exact f
    rw [if_neg a1] at cvv
    simp -implicitDefEqProofs only [L50_0, zS, aj, af, h6, aC, eqf k1, eqf k2, eqf k3, eqf k4, q, fa_108_5, aY, hdl, qd1, qd2, eqf a1, ba, fa_25_1, h7, e0, e1]
    refine (c_rHas R n0 (hands_rf hd').1 (by omega) (nmOf h)).step ?_
    rw [show decide (nmOf h ∈ d.holds) = holdsV d h from rfl]
    cases hv : holdsV d h with
    | true =>
      have f := fin 0 (nb _ mb (by rw [cvv, hv]; rfl) k12)
      simp -implicitDefEqProofs only [zS]
      exact f
    | false =>
      rw [if_neg (by rw [hv]; simp)] at cvv
      obtain ⟨Fh, hFh⟩ := R.hT
      obtain ⟨bh, ch, vh, rfl, hvh, hkh⟩ := hold_at hFh (hands_rf hd').1
      obtain ⟨Ah, cch, rfl, _⟩ := keys_sh hkh
      have hnl := (List.getElem?_eq_some_iff.1 (hands_rf hd').1).1
      have iah := ia_106 (b := bh) (p := 0) (n := (toRf m).holds.length) (c := ch) (j := .i64) (i := (nn : Int)) (by omega) (by omega)
      rw [Nat.zero_add, Nat.mul_one] at iah
      by_cases a8 : d.holds.length = 8
      · have e : ((d.holds.length : Int) == 8) = true := by rw [a8]; rfl
        have f := fin 8 (cb 8 (by decide) (by rw [cvv, if_pos a8]))
        simp -implicitDefEqProofs only [zS, fa_108_6, ld_106, R.hl, iah, ld_131, hvh, len_131, e]
        exact f
      · have e : ((d.holds.length : Int) == 8) = false := beq_eq_false_iff_ne.2 (by omega)
        rw [if_neg a8] at cvv
        cases hl : isLv m (nmOf h) with
        | true =>
          have f := fin 0 (nb _ mb (by rw [cvv, stT hl]) k12)
          rw [hl] at hfl
          simp -implicitDefEqProofs only [zS, fa_108_6, aJ, ld_106, R.hl, iah, ld_131, hvh, len_131, e, aM, hb, ia, fa_130_4, ld_4, hfl]
          exact f
        | false =>
          have f := fin 3 (cb 3 (by decide) (by rw [cvv, stF hl]))
          rw [hl] at hfl
          simp -implicitDefEqProofs only [zS, fa_108_6, aJ, ld_106, R.hl, iah, ld_131, hvh, len_131, e, aM, hb, ia, fa_130_4, ld_4, hfl]
          exact f
  by_cases k10 : o.1 = 10
  · have q : (o.1 == 10) = true := by rw [k10]; rfl
    have mb : mustB m o h = codeR 0 := by rw [mustB, if_neg (by omega), if_neg (by omega), if_neg (by omega)]; rfl
    have cvv : codeV m.c.2.2.1 d (holdsV d h) (staleV m h) o h.2.2.2.2 = staleV m h := by rw [codeV, if_neg k2, if_neg k3, if_neg k4, if_neg k5, if_neg (by omega), if_pos (.inl k10)]
    obtain ⟨i, r, b, c, hfi, rfl, hb, ia, hri, hfl, _⟩ := flag (by rw [show ofK o.1 = 1 by rw [k10]; rfl]; decide)
    cases hl : isLv m (nmOf h) with
    | true =>
      have f := fin 0 (nb _ mb (by rw [cvv, stT hl]) k12)
      rw [hl] at hfl
      simp -implicitDefEqProofs only [L50_0, zS, aj, af, h6, aC, eqf k1, eqf k2, eqf k3, eqf k4, eqf k5, q, aJ, aM, hb, ia, fa_130_4, ld_4, hfl]
      exact f
    | false =>
      have f := fin 3 (cb 3 (by decide) (by rw [cvv, stF hl]))
      rw [hl] at hfl
      simp -implicitDefEqProofs only [L50_0, zS, aj, af, h6, aC, eqf k1, eqf k2, eqf k3, eqf k4, eqf k5, q, aJ, aM, hb, ia, fa_130_4, ld_4, hfl]
      exact f
  by_cases k12 : o.1 = 12
  · have q : (o.1 == 12) = true := by rw [k12]; rfl
    have cvv : codeV m.c.2.2.1 d (holdsV d h) (staleV m h) o h.2.2.2.2 = staleV m h := by rw [codeV, if_neg k2, if_neg k3, if_neg k4, if_neg k5, if_neg (by omega), if_pos (.inr k12)]
    obtain ⟨i, r, b, c, hfi, rfl, hb, ia, hri, hfl, hof⟩ := flag (by rw [show ofK o.1 = 1 by rw [k12]; rfl]; decide)
    have mb : mustB m o h = (0, noH, r.off, 0) := by
      rw [mustB, if_neg (by omega), if_neg (by omega), if_pos k12, rgOf, hfi]
      simp only [Option.bind_some, hri]
    have hb2 : pureRun Tryz.prog (Instr.build 28 #[(2, .int .i64 r.off)]) = some (.agg (rsC (0, noH, r.off, 0)).toArray) := bd_28_2
    cases hl : isLv m (nmOf h) with
    | true =>
      have e := nb _ mb (by rw [cvv, stT hl]) (by omega)
      rw [hl] at hfl
      simp -implicitDefEqProofs only [L50_0, zS, aj, af, h6, aC, eqf k1, eqf k2, eqf k3, eqf k4, eqf k5, eqf k10, q, aJ, aM, hb, ia, fa_130_4, fa_130_3, ld_4, hfl, hof, hb2]
      exact out_res (0, noH, r.off, 0) true hc h8 hs n8 e
    | false =>
      have e := cb 3 (by decide) (by rw [cvv, stF hl])
      rw [hl] at hfl
      simp -implicitDefEqProofs only [L50_0, zS, aj, af, h6, aC, eqf k1, eqf k2, eqf k3, eqf k4, eqf k5, eqf k10, q, aJ, aM, hb, ia, fa_130_4, ld_4, hfl, bdr_0]
      exact out_res (codeR 3) true hc h8 hs n8 e
  by_cases k11 : o.1 = 11
  · have q : (o.1 == 11) = true := by rw [k11]; rfl
    have mb : mustB m o h = codeR 0 := by rw [mustB, if_neg (by omega), if_neg (by omega), if_neg (by omega)]; rfl
    have f := fin 0 (nb _ mb (by rw [codeV, if_neg k2, if_neg k3, if_neg k4, if_neg k5, if_neg (by omega), if_neg (by omega)]) (by omega))
    simp -implicitDefEqProofs only [L50_0, zS, aj, af, h6, aC, eqf k1, eqf k2, eqf k3, eqf k4, eqf k5, eqf k10, eqf k12, q]
    exact f
  · have k6 : 6 ≤ o.1 := by omega
    have k9 : o.1 ≤ 9 := by omega
    have eo : ofK o.1 = 2 := by rw [ofK, if_neg (by omega), if_pos ⟨k6, k9⟩]
    obtain ⟨i, r, b, c, hfi, rfl, hb, ia, hri, hfl, hof⟩ := flag (by rw [eo]; decide)
    have hkn : knownV m h 2 = true := by
      rcases hk with hk | hk
      · rw [eo] at hk; omega
      · rw [eo] at hk; exact hk
    have cvv : codeV m.c.2.2.1 d (holdsV d h) (staleV m h) o h.2.2.2.2 = if holdsV d h = false then 4 else if h.2.2.2.2 ≤ o.2.2.2.1 then 5 else 0 := by rw [codeV, if_neg k2, if_neg k3, if_neg k4, if_neg k5, if_pos ⟨k6, k9⟩]
    have e : mustV m nn o h = (touchV m d o h, true) := by
      unfold touchV
      by_cases b1 : holdsV d h = false
      · rw [if_pos b1]; exact cb 4 (by decide) (by rw [cvv, if_pos b1])
      · rw [if_neg b1]
        by_cases b2 : h.2.2.2.2 ≤ o.2.2.2.1
        · rw [if_pos b2]; exact cb 5 (by decide) (by rw [cvv, if_neg b1, if_pos b2])
        · rw [if_neg b2]; exact nb _ rfl (by rw [cvv, if_neg b1, if_neg b2]) (by omega)
    have ldo := aG (t := 39) (c := (opC o).toArray) ag_39 (show (Tryz.prog.info? 39).map (·.size) = some (opC o).toArray.size from sz_39) h6
    simp -implicitDefEqProofs only [L50_0, zS, aj, af, h6, aC, eqf k1, eqf k2, eqf k3, eqf k4, eqf k5, eqf k10, eqf k12, eqf k11, ldo, ld_hn h7]
    refine (c_rTouch I Wm hK n0 hd' hkn o0 k6 k9 hfi).mono ?_
    rintro _ w2 ⟨rfl, c2⟩
    exact out_res (touchV m d o h) true (hc.trans c2) (c2.at h8 (by simp)) hs n8 e
set_option maxHeartbeats 1000000 in
theorem c_rMust (I : RfI w g (toRf m) F) (Wm : Wf m K) (hK : K ≤ 1000000) {nn : Nat} (hm : mayV m nn o = true) (h : HnV) :
    CallR Tryz.prog 50 [.pointer (some ⟨g, 0, none⟩), .int .i64 nn, .agg (opC o).toArray, .agg (hnC h).toArray] w fun v w' => v = .tuple #[.agg (rsC (mustV m nn o h).1).toArray, .bool (mustV m nn o h).2] ∧ Chg [] w w' := by
  apply F50_ok
  obtain ⟨d, hd⟩ := may_hd hm
  simp -implicitDefEqProofs only [F50, aE, aB, al_28, ae]
  generalize hw : ((w.alloc (.cells (opC o).toArray 39)).alloc _).alloc _ = w1
  have c1 : Chg [] w w1 := by rw [← hw]; exact (((Chg.refl _ _).alloc _).alloc _).alloc _
  have b6 : hp w1 w.heap.size = some (.cells (opC o).toArray 39) := by rw [← hw, ac, ae, ae, if_neg (by omega), ac, ae, if_neg (by omega), ac, if_pos rfl]
  have b7 : hp w1 (w.heap.size + 1) = some (.cells (hnC h).toArray 25) := by rw [← hw, ac, ae, ae, if_neg (by omega), ac, ae, if_pos rfl]
  have b8 : hp w1 (w.heap.size + 1 + 1) = some (.cells (rsC noR).toArray 28) := by rw [← hw, ac, ae, ae, if_pos rfl]; rfl
  clear hw
  have ldo := aG (t := 39) (c := (opC o).toArray) ag_39 (show (Tryz.prog.info? 39).map (·.size) = some (opC o).toArray.size from sz_39) b6
  obtain ⟨s, gn, rv, dd, hh, R⟩ := (I.keep c1).rd
  have sm := Wm.small hK
  have hl : (toRf m).rgs.length ≤ 1000000 := by show (m.rgs.map _).length ≤ _; rw [List.length_map]; exact sm.r
  have ho : ∀ p ∈ (toRf m).rgs, p.1.objs.length ≤ 1000000 := fun p hp => by
    obtain ⟨r, hr, rfl⟩ := List.mem_map.1 hp; exact sm.o r hr
  simp -implicitDefEqProofs only [ldo, ld_hn b7, ad]
  refine (c_rGood R hl ho o h).mono ?_
  rintro _ w2 ⟨rfl, c2⟩
  rw [good_rfv Wm o.1 h]
  have c02 := c1.trans c2
  have d6 := c2.at b6 (by simp)
  have d7 := c2.at b7 (by simp)
  have d8 := c2.at b8 (by simp)
  have me := must_eq (h := h) hm hd
  have e0 : (hnC h).toArray[0 + 0]? = some (.int .i64 h.1) := rfl
  have e1 : (hnC h).toArray[0 + 1]? = some (.int .i64 h.2.1) := rfl
  by_cases k0 : ofK o.1 = 0
  · rw [if_pos k0]
    simp -implicitDefEqProofs only [zS, aj, af, d6, aC]
    refine (c_Of o.1 w2).step ?_
    have ez : (ofK o.1 != 0) = false := by rw [k0]; rfl
    simp -implicitDefEqProofs only [zS, ez]
    exact l_rMust0 c02 (I.keep c02) Wm hK d6 d7 d8 rfl (by omega) hm hd (.inl k0) (fun h => absurd k0 h)
  · rw [if_neg k0]
    cases hk : knownV m h (ofK o.1) with
    | false =>
      have hr : refusesV m d o h = 2 := by rw [refusesV, if_pos ⟨k0, hk⟩]
      have e : mustV m nn o h = (codeR 2, true) := by rw [me, hr, if_pos (by decide)]
      simp -implicitDefEqProofs only [zS, bdr_0]
      exact out_res (codeR 2) true c02 d8 rfl (by omega) e
    | true =>
      simp -implicitDefEqProofs only [zS, aj, af, d6, aC]
      refine (c_Of o.1 w2).step ?_
      have ez : (ofK o.1 != 0) = true := bne_iff_ne.2 k0
      obtain ⟨s2, gn2, rv2, dd2, hh2, R2⟩ := (I.keep c02).rd
      simp -implicitDefEqProofs only [zS, ez, ba, fa_25_1, af, d7, e0, e1]
      refine (c_rFind R2 (nmOf h) hl).step ?_
      rw [findX_rf]
      obtain ⟨i, hi⟩ : ∃ i, findR m.rgs (nmOf h) = some i := by
        unfold knownV at hk
        split at hk
        · cases hk
        · rename_i i hi; exact ⟨i, hi⟩
      rw [hi]
      exact l_rMust0 c02 (I.keep c02) Wm hK d6 d7 d8 rfl (by omega) hm hd (.inr hk) (fun _ => ⟨i, hi, rfl⟩)
end
end Go.Proofs.YtgamnncehjcdiaaGreat

namespace Go.Proofs.YtgamnncehjcdiaaGreat
open Go Ev Go.RowKit

section
variable {W w : World} {g g6 g7 : Nat} {m : MdV} {x : RfV} {F : Fp} {K : Nat} {o : OpV} {h : HnV} {d : HdV} {nn : Nat}
theorem RfI.rgPut (I : RfI w g x F) {i : Nat} {p : RgV × Bool} (hi : x.rgs[i]? = some p) {k : Nat} (hk : k < 8) {P : Th} (hP : (rrT p)[k]? = some P) :
    ∃ b c v Fk, ldC (hp w g) (0 + 9) = some (.slice (some ⟨b, 0, none⟩) x.rgs.length c) ∧ b ≠ g ∧ F b ∧ (∀ y, Fk y → F y) ∧ ldC (hp w b) (i * 8 + k) = some v ∧ P w Fk v ∧
      ∀ w1 F' P' v' p', UpdP Fk F' w w1 → OwnT P' → P' w1 F' v' → rrT p' = (rrT p).set k P' → okC (hp w1 b) (i * 8 + k + 1) = true ∧ v'.cells = #[v'] ∧ v'.oneCell' = true ∧ hp w1 g = hp w g ∧
        ∃ F1, RfI (put w1 b ((getC (hp w1 b)).setIfInBounds (i * 8 + k) v') (getE (hp w1 b))) g { x with rgs := x.rgs.set i p' } F1 ∧ UpdP F F1 w (put w1 b ((getC (hp w1 b)).setIfInBounds (i * 8 + k) v') (getE (hp w1 b))) := by
  have hP0 : (x.rgs.flatMap rrT)[i * 8 + k]? = some P := (aR rrT_len x.rgs i p hi k hk).trans hP
  obtain ⟨b, c, v, Fk, hl, hbg, hFb, hsub, _, _, hld, hv, _, hput⟩ := isAt.row I (bc x) (k := 9) (e' := 130) (z := 8) (n := x.rgs.length) (Qs := x.rgs.flatMap rrT) rfl (good_rrL x.rgs) hP0
  refine ⟨b, c, v, Fk, hl, hbg, hFb, hsub, hld, hv, fun w1 F' P' v' p' u hg' hp' hr => ?_⟩
  obtain ⟨ok, o1, o2, hgg, F1, h1, h2⟩ := hput w1 F' P' v' u hg' hp'
  rw [flatM_setP rrT_len hk hr hi] at h1
  have e : rrsT (x.rgs.set i p') = isRow 130 8 x.rgs.length ((x.rgs.set i p').flatMap rrT) := by rw [rrsT, List.length_set]
  rw [← e] at h1
  exact ⟨ok, o1, o2, hgg, F1, h1, h2⟩
theorem RfI.holdPut (I : RfI w g x F) {l : List NmV} (hi : x.holds[nn]? = some l) :
    ∃ b c v Fk, ldC (hp w g) (0 + 11) = some (.slice (some ⟨b, 0, none⟩) x.holds.length c) ∧ b ≠ g ∧ F b ∧ (∀ y, Fk y → F y) ∧ ldC (hp w b) nn = some v ∧ keysT l w Fk v ∧
      ∀ w1 F' l' v', UpdP Fk F' w w1 → keysT l' w1 F' v' → okC (hp w1 b) (nn + 1) = true ∧ v'.cells = #[v'] ∧ v'.oneCell' = true ∧ hp w1 g = hp w g ∧
        ∃ F1, RfI (put w1 b ((getC (hp w1 b)).setIfInBounds nn v') (getE (hp w1 b))) g { x with holds := x.holds.set nn l' } F1 ∧ UpdP F F1 w (put w1 b ((getC (hp w1 b)).setIfInBounds nn v') (getE (hp w1 b))) := by
  have hP0 : (x.holds.map keysT)[nn]? = some (keysT l) := by rw [List.getElem?_map, hi]; rfl
  obtain ⟨b, c, v, Fk, hl, hbg, hFb, hsub, _, _, hld, hv, _, hput⟩ := isAt.row I (bc x) (k := 11) (e' := 131) (z := 1) (n := x.holds.length) (Qs := x.holds.map keysT) rfl (good_holdsL x.holds) hP0
  refine ⟨b, c, v, Fk, hl, hbg, hFb, hsub, hld, hv, fun w1 F' l' v' u hp' => ?_⟩
  obtain ⟨ok, o1, o2, hgg, F1, h1, h2⟩ := hput w1 F' (keysT l') v' u (good_keys l') hp'
  rw [← List.map_set] at h1
  have e : holdsT (x.holds.set nn l') = isRow 131 1 x.holds.length ((x.holds.set nn l').map keysT) := by rw [holdsT, List.length_set]
  rw [← e] at h1
  exact ⟨ok, o1, o2, hgg, F1, h1, h2⟩
theorem rf_setHd (m : MdV) (d' : HdV) : toRf (setHd m nn d') = { toRf m with depth := (toRf m).depth.set nn d'.depth, holds := (toRf m).holds.set nn d'.holds } := by
  simp only [toRf, setHd, Int.toNat_natCast, List.map_set]
  rfl
theorem rf_setRg (m : MdV) {i : Nat} {r r' : RgV} (hi : m.rgs[i]? = some r) (hn : r'.nm = r.nm) : toRf { m with rgs := m.rgs.set i r' } = { toRf m with rgs := (toRf m).rgs.set i (r', isLv m r.nm) } := by
  simp only [toRf, List.map_set, ← hn]
  rfl
theorem nd_unique {L : List RgV} (h : (L.map (·.nm)).Nodup) {i j : Nat} {r s : RgV} (hi : L[i]? = some r) (hj : L[j]? = some s) (e : r.nm = s.nm) : i = j := by
  have h1 : (L.map (·.nm))[i]? = some r.nm := by rw [List.getElem?_map, hi]; rfl
  have h2 : (L.map (·.nm))[j]? = some r.nm := by rw [List.getElem?_map, hj, e]; rfl
  obtain ⟨a1, a2⟩ := List.getElem?_eq_some_iff.1 h1
  obtain ⟨b1, b2⟩ := List.getElem?_eq_some_iff.1 h2
  have hp := List.pairwise_iff_getElem.1 h
  rcases Nat.lt_trichotomy i j with hlt | heq | hlt
  · exact absurd (a2.trans b2.symm) (hp i j a1 b1 hlt)
  · exact heq
  · exact absurd (b2.trans a2.symm) (hp j i b1 a1 hlt)
theorem rf_free (Wn' : Wn m K) {i : Nat} {r : RgV} {q : NmV} (hi : m.rgs[i]? = some r) (hq : m.slots[r.nm.1.toNat]? = some (1, q.2)) (hr : r.nm.2 = q.2) {v : Int} (hv : v ≠ 1) :
    toRf { m with slots := m.slots.set r.nm.1.toNat (v, q.2) } = { toRf m with state := (toRf m).state.set r.nm.1.toNat v, rgs := (toRf m).rgs.set i (r, false) } := by
  have lvE : ∀ (j : Nat) (x : RgV), m.rgs[j]? = some x → isLv { m with slots := m.slots.set r.nm.1.toNat (v, q.2) } x.nm = if j = i then false else isLv m x.nm := fun j x hx => by
    unfold isLv
    simp only [List.length_set]
    obtain ⟨a, b, c, dd⟩ := Wn'.gn x (List.mem_of_getElem? hx)
    rw [decide_eq_true (show 0 ≤ x.nm.1 ∧ x.nm.1 < m.slots.length from ⟨a, b⟩), Bool.true_and, Bool.true_and]
    by_cases hs : r.nm.1.toNat = x.nm.1.toNat
    · have a2 : (m.slots.set r.nm.1.toNat (v, q.2))[x.nm.1.toNat]? = some (v, q.2) := by rw [← hs, List.getElem?_set, if_pos rfl, if_pos (List.getElem?_eq_some_iff.1 hq).1]
      rw [decide_eq_false (by rw [a2]; intro e; exact hv (congrArg Prod.fst (Option.some.inj e)))]
      by_cases hj : j = i
      · rw [if_pos hj]
      · rw [if_neg hj]
        refine (decide_eq_false ?_).symm
        rw [← hs, hq]
        intro e
        have e2 : q.2 = x.nm.2 := (Prod.mk.inj (Option.some.inj e)).2
        obtain ⟨a', _⟩ := Wn'.gn r (List.mem_of_getElem? hi)
        exact hj (nd_unique Wn'.nd hx hi (Prod.ext (by omega) (by rw [← e2, hr])))
    · have hj : j ≠ i := fun e => by
        subst e
        rw [hi] at hx
        cases hx
        exact hs rfl
      rw [if_neg hj]
      have : (m.slots.set r.nm.1.toNat (v, q.2))[x.nm.1.toNat]? = m.slots[x.nm.1.toNat]? := by rw [List.getElem?_set, if_neg hs]
      rw [this]
  unfold toRf
  simp only [List.map_set]
  congr 1
  · exact set_same (by rw [List.getElem?_map, hq]; rfl)
  · apply List.ext_getElem?
    intro j
    rw [List.getElem?_map, List.getElem?_set, List.getElem?_map]
    by_cases hj : i = j
    · subst hj
      rw [if_pos rfl, hi]
      simp only [Option.map_some, lvE i r hi, if_true]
      rw [if_pos (by rw [List.length_map]; exact (List.getElem?_eq_some_iff.1 hi).1)]
    · rw [if_neg hj]
      cases hx : m.rgs[j]? with
      | none => rfl
      | some x => simp only [Option.map_some, lvE j x hx, if_neg (Ne.symm hj)]
set_option maxHeartbeats 4000000 in
theorem l_rDoes2 (hc : Chg [] W w) (I : RfI w g (toRf m) F) (Wm : Wf m K) (h6 : hp w g6 = some (.cells (opC o).toArray 39)) {i : Nat} {r : RgV} {k : Nat} {L : List Int} {j : Nat} (O : ObjAt m h o.2.2.2.1 i r k L j) (hd : m.hands[nn]? = some d) (k6 : o.1 = 7 ∨ o.1 = 8 ∨ o.1 = 9) :
    P53_2 (.pointer (some ⟨g, 0, none⟩)) (.pointer (some ⟨g6, 0, none⟩)) (.int .i64 i) (.int .i64 k) (.int .i64 j) w fun v w' => v = .tuple #[] ∧ ∃ F', RfI w' g (toRf (doesV m nn o h)) F' ∧ UpdP F F' W w' := by
  apply L53_2_ok
  have cd : Chg [] w w.drew := (Chg.refl _ _).drew
  obtain ⟨b, c, bw, cw, g2, c2, p1, p2, p3, p4, _⟩ := I.word O.rf O.wk O.val
  obtain ⟨b', c', bw', cw', g2', c2', q1, q2, q3, q4, hput⟩ := (I.keep cd).word O.rf O.wk O.val
  rw [show ldC (hp w.drew g) (0 + 9) = _ from p1] at q1; cases q1
  rw [show ldC (hp w.drew b) (i * 8 + 6) = _ from p2] at q2; cases q2
  rw [show ldC (hp w.drew bw) k = _ from p3] at q3; cases q3
  have W1 := Wm.w1
  have W2 := Wm.w2
  have hil : i < (toRf m).rgs.length := (List.getElem?_eq_some_iff.1 O.rf).1
  have ia := ia_105 (b := b) (p := 0) (n := (toRf m).rgs.length) (c := c) (j := .i64) (i := (i : Int)) (by omega) (by omega)
  rw [Int.toNat_natCast, Nat.zero_add] at ia
  have hlw := (List.getElem?_eq_some_iff.1 O.wk).1
  have iaw := ia_86 (b := bw) (p := 0) (n := r.words.length) (c := cw) (j := .i64) (i := (k : Int)) (by omega) (by omega)
  rw [Int.toNat_natCast, Nat.zero_add, Nat.mul_one] at iaw
  have hjl := O.jl
  have iau := ia_93 (b := g2) (p := 0) (n := L.length) (c := c2) (j := .i64) (i := (j : Int)) (by omega) (by omega)
  rw [Int.toNat_natCast, Nat.zero_add, Nat.mul_one] at iau
  have rd : ∀ y, toRf (setWordV m h o.2.2.2.1 y) = { toRf m with rgs := (toRf m).rgs.set i ({ r with words := r.words.set k (L.set j y) }, isLv m r.nm) } := fun y => by rw [O.put y]; exact rf_setRg m O.ri rfl
  have hd' : m.hands[((nn : Int)).toNat]? = some d := hd
  have fin : ∀ y, doesV m nn o h = setWordV m h o.2.2.2.1 y → effu Tryz.prog (Instr.storeAt 26 (.pointer (some ⟨g2, j, none⟩)) (.int .u64 y)) w.drew fun w' => ∃ F', RfI w' g (toRf (doesV m nn o h)) F' ∧ UpdP F F' W w' := fun y e => by
    obtain ⟨ok, F1, t1, t2⟩ := hput y
    rw [st_26 rfl rfl ok, e, rd y]
    exact ⟨F1, t1, t2.pre (hc.trans cd)⟩
  have fin2 : ∀ y, doesV m nn o h = setWordV m h o.2.2.2.1 y → effu Tryz.prog (Instr.storeAt 26 (.pointer (some ⟨g2, j, none⟩)) (.int .u64 y)) w.drew fun w' => True ∧ ∃ F', RfI w' g (toRf (doesV m nn o h)) F' ∧ UpdP F F' W w' := fun y e => by
    obtain ⟨ok, F1, t1, t2⟩ := hput y
    rw [st_26 rfl rfl ok, e, rd y]
    exact ⟨trivial, F1, t1, t2.pre (hc.trans cd)⟩
  by_cases k7 : o.1 = 7
  · have q : (o.1 == 7) = true := by rw [k7]; rfl
    have e : doesV m nn o h = setWordV m h o.2.2.2.1 o.2.2.2.2.1 := by
      rw [doesV, hd']; simp only
      rw [if_neg (by omega), if_neg (by omega), if_neg (by omega), if_pos k7]
    simp -implicitDefEqProofs only [L53_2, zS, aJ, fa_130_6, aj, bn, aM, ld_86, ld_93, ld_26, af, p1, p2, p3, p4, ia, iaw, iau, h6, aC, op_4, q]
    first | exact fin2 _ e | exact fin _ e
  by_cases k8 : o.1 = 8
  · have q : (o.1 == 8) = true := by rw [k8]; rfl
    have e : doesV m nn o h = setWordV m h o.2.2.2.1 (IntKind.u64.wrap (wordV m h o.2.2.2.1 + o.2.2.2.2.1)) := by
      rw [doesV, hd']; simp only
      rw [if_neg (by omega), if_neg (by omega), if_neg (by omega), if_neg k7, if_pos k8]
    simp -implicitDefEqProofs only [L53_2, zS, aJ, fa_130_6, aj, bn, aM, ld_86, ld_93, ld_26, af, p1, p2, p3, p4, ia, iaw, iau, h6, aC, op_4, eqf k7, q, aA]
    first | exact fin2 _ e | exact fin _ e
  · have k9 : o.1 = 9 := by omega
    by_cases hv : wordV m h o.2.2.2.1 = o.2.2.2.2.1
    · have ev : (wordV m h o.2.2.2.1 == o.2.2.2.2.1) = true := by rw [hv]; exact beq_self_eq_true _
      have e : doesV m nn o h = setWordV m h o.2.2.2.1 o.2.2.2.2.2 := by
        rw [doesV, hd']; simp only
        rw [if_neg (by omega), if_neg (by omega), if_neg (by omega), if_neg k7, if_neg k8, if_pos k9, if_pos hv]
      simp -implicitDefEqProofs only [L53_2, zS, aJ, fa_130_6, aj, bn, fa_39_5, aM, ld_86, ld_93, ld_26, af, p1, p2, p3, p4, ia, iaw, iau, h6, aC, op_4, op_5, eqf k7, eqf k8, ev]
      first | exact fin2 _ e | exact fin _ e
    · have e : doesV m nn o h = m := by
        rw [doesV, hd']; simp only
        rw [if_neg (by omega), if_neg (by omega), if_neg (by omega), if_neg k7, if_neg k8, if_pos k9, if_neg hv]
      simp -implicitDefEqProofs only [L53_2, zS, aJ, fa_130_6, aj, bn, aM, ld_86, ld_93, ld_26, af, p1, p2, p3, p4, ia, iaw, iau, h6, aC, op_4, eqf k7, eqf k8, eqf hv]
      rw [e]
      exact ⟨by first | rfl | trivial, F, I, UpdP.of0 hc⟩
end
end Go.Proofs.YtgamnncehjcdiaaGreat

namespace Go.Proofs.YtgamnncehjcdiaaGreat
open Go Ev Go.RowKit

section
variable {W w : World} {g g6 g7 : Nat} {m : MdV} {x : RfV} {F : Fp} {K : Nat} {o : OpV} {h : HnV} {d : HdV} {nn : Nat}
set_option maxHeartbeats 4000000 in
theorem l_rDoes1 (hc : Chg [] W w) (I : RfI w g (toRf m) F) (Wm : Wf m K) (hK : K ≤ 1000000) (h6 : hp w g6 = some (.cells (opC o).toArray 39)) (h7 : hp w g7 = some (.cells (hnC h).toArray 25)) {i : Nat} {r : RgV} {k : Nat} {L : List Int} {j : Nat} (O : ObjAt m h o.2.2.2.1 i r k L j) (hd : m.hands[nn]? = some d) (k6 : o.1 = 7 ∨ o.1 = 8 ∨ o.1 = 9) :
    P53_1 (.pointer (some ⟨g, 0, none⟩)) (.pointer (some ⟨g6, 0, none⟩)) (.pointer (some ⟨g7, 0, none⟩)) (.int .i64 i) (.bool true) w fun v w' => v = .tuple #[] ∧ ∃ F', RfI w' g (toRf (doesV m nn o h)) F' ∧ UpdP F F' W w' := by
  apply L53_1_ok
  have cd : Chg [] w w.drew := (Chg.refl _ _).drew
  obtain ⟨s, gn, rv, dd, hh, R⟩ := (I.keep cd).rd
  obtain ⟨Fr, hFr⟩ := R.rT
  obtain ⟨b, c, rfl, cv, wv, ov, Q⟩ := rr_at hFr O.rf
  obtain ⟨A, cc, rfl, hRc⟩ := ints_sh Q.cT
  have hil : i < (toRf m).rgs.length := (List.getElem?_eq_some_iff.1 O.rf).1
  have ia := ia_105 (b := b) (p := 0) (n := (toRf m).rgs.length) (c := c) (j := .i64) (i := (i : Int)) (by omega) (by omega)
  rw [Int.toNat_natCast, Nat.zero_add] at ia
  have hrl : ldC (hp w g) (0 + 9) = some (.slice (some ⟨b, 0, none⟩) (toRf m).rgs.length c) := R.rl
  have hjl := O.jl
  have hwl := O.wl
  have W2 := Wm.w2
  have hcl : r.chunks.length ≤ 1000000 := Nat.le_trans (Wm.rg r (List.mem_of_getElem? O.ri)).cl hK
  have cat := c_rAt (w := w.drew) (p := (r, isLv m r.nm)) (c := cc) (wv := wv) (ov := ov) hRc hcl h.2.2.1
  rw [show ixOf (r, isLv m r.nm).1.chunks h.2.2.1 = (k : Int) from O.ix] at cat
  have e2 : (hnC h).toArray[0 + 2]? = some (.int .i64 h.2.2.1) := rfl
  have e3 : (hnC h).toArray[0 + 3]? = some (.int .i64 h.2.2.2.1) := rfl
  simp -implicitDefEqProofs only [L53_1, zS, aN, bm, fa_25_3, aJ, aM, af, h6, h7, op_3, e2, e3, hrl, ia, ld_rg Q, aA, O.jn, az (n := (j : Int)) (by omega) (by omega)]
  repeat' (with_reducible apply And.intro)
  all_goals
    refine cat.mono ?_
    rintro _ w3 ⟨rfl, c3⟩
    have c13 := cd.trans c3
    have t6 := c13.at h6 (by simp)
    have t7 := c13.at h7 (by simp)
    try simp -implicitDefEqProofs only [zS, aN, fa_25_3, af, t6, t7, op_3, e3, aA, O.jn, az (n := (j : Int)) (by omega) (by omega)]
    exact l_rDoes2 (hc.trans c13) (I.keep c13) Wm t6 O hd k6
theorem ia_ints {b n c : Nat} {i : Int} (h0 : 0 ≤ i) (h1 : i < n) : pureRun Tryz.prog (Instr.indexAt 22 (.slice (some ⟨b, 0, none⟩) n c) (.int .i64 i)) = some (.pointer (some ⟨b, i.toNat, none⟩)) := by
  have := ia_22 (b := b) (p := 0) (n := n) (c := c) (j := .i64) (i := i) h0 h1
  rw [Nat.zero_add, Nat.mul_one] at this
  exact this
set_option maxHeartbeats 4000000 in
theorem l_rDoes0 (hc : Chg [] W w) (I : RfI w g (toRf m) F) (Wm : Wf m K) (hK : K ≤ 1000000) (Wn' : Wn m K) (h6 : hp w g6 = some (.cells (opC o).toArray 39)) (h7 : hp w g7 = some (.cells (hnC h).toArray 25)) (f7 : ¬ F g7) (hm : mayV m nn o = true) (hd : m.hands[nn]? = some d) (hr : refusesV m d o h = 0) {ix : Int} (hix : ofK o.1 ≠ 0 → ∃ i, findR m.rgs (nmOf h) = some i ∧ ix = i) :
    P53_0 (.pointer (some ⟨g, 0, none⟩)) (.int .i64 nn) (.pointer (some ⟨g6, 0, none⟩)) (.pointer (some ⟨g7, 0, none⟩)) (.int .i64 ix) w fun v w' => v = .tuple #[] ∧ ∃ F', RfI w' g (toRf (doesV m nn o h)) F' ∧ UpdP F F' W w' := by
  apply L53_0_ok
  obtain ⟨n0, n1, o0⟩ := may_n hm
  obtain ⟨ka, kb⟩ := may_k hm
  have hco := (refuses_code hr).2
  have hD := Wm.hd d (List.mem_of_getElem? hd)
  have hd' : m.hands[(nn : Int).toNat]? = some d := hd
  have dv : doesV m nn o h = if o.1 = 3 then setHd m nn { d with depth := d.depth + 1 }
    else if o.1 = 4 then setHd m nn (if d.depth - 1 = 0 then { depth := 0, holds := [] } else { d with depth := d.depth - 1 })
    else if o.1 = 5 then (if holdsV d h then m else setHd m nn { d with holds := d.holds ++ [nmOf h] })
    else if o.1 = 7 then setWordV m h o.2.2.2.1 o.2.2.2.2.1
    else if o.1 = 8 then setWordV m h o.2.2.2.1 (IntKind.u64.wrap (wordV m h o.2.2.2.1 + o.2.2.2.2.1))
    else if o.1 = 9 then (if wordV m h o.2.2.2.1 = o.2.2.2.2.1 then setWordV m h o.2.2.2.1 o.2.2.2.2.2 else m)
    else if o.1 = 10 then (match m.slots[h.1.toNat]? with | some p => { m with slots := m.slots.set h.1.toNat (if m.loose then 0 else 2, p.2) } | none => m)
    else m := by rw [doesV, hd'] <;> rfl
  have hdd := (hands_rf hd').2
  have hhd := (hands_rf hd').1
  rw [Int.toNat_natCast] at hdd hhd
  have dl : (toRf m).depth.length = m.hands.length := by simp [toRf]
  have hln : (toRf m).holds.length = m.hands.length := by simp [toRf]
  have cd : Chg [] w w.drew := (Chg.refl _ _).drew
  have h7d : hp w.drew g7 = some (.cells (hnC h).toArray 25) := h7
  have e0 : (hnC h).toArray[0 + 0]? = some (.int .i64 h.1) := rfl
  have e1 : (hnC h).toArray[0 + 1]? = some (.int .i64 h.2.1) := rfl
  by_cases k3 : o.1 = 3
  · have q : (o.1 == 3) = true := by rw [k3]; rfl
    rw [if_pos k3] at dv
    obtain ⟨b, c, hl, hbg, hFb, hld, hput⟩ := I.intPut (k := 10) (L := (toRf m).depth) rfl hdd
    obtain ⟨ok, F1, t1, t2⟩ := hput (d.depth + 1)
    have ia := ia_ints (b := b) (n := (toRf m).depth.length) (c := c) (i := (nn : Int)) n0 (by rw [dl]; exact n1)
    rw [Int.toNat_natCast] at ia
    have hl10 : ldC (hp w g) (0 + 10) = some (.slice (some ⟨b, 0, none⟩) (toRf m).depth.length c) := hl
    simp -implicitDefEqProofs only [L53_0, zS, aj, af, h6, aC, q, fa_108_5, aY, hl10, ia, hld, aA, az (n := d.depth + 1) (by rw [codeV, if_neg (by omega), if_pos k3] at hco; omega) (by rw [codeV, if_neg (by omega), if_pos k3] at hco; omega)]
    rw [st_3 rfl rfl ok, dv, rf_setHd]
    have hs : (toRf m).holds.set nn d.holds = (toRf m).holds := set_same hhd
    simp only [hs]
    exact ⟨by first | rfl | trivial, F1, t1, t2.pre hc⟩
  by_cases k4 : o.1 = 4
  · have q : (o.1 == 4) = true := by rw [k4]; rfl
    rw [if_neg k3, if_pos k4] at dv
    obtain ⟨b, c, hl, hbg, hFb, hld, hput⟩ := I.intPut (k := 10) (L := (toRf m).depth) rfl hdd
    obtain ⟨ok, F1, t1, t2⟩ := hput (d.depth - 1)
    have ia := ia_ints (b := b) (n := (toRf m).depth.length) (c := c) (i := (nn : Int)) n0 (by rw [dl]; exact n1)
    rw [Int.toNat_natCast] at ia
    have hl10 : ldC (hp w g) (0 + 10) = some (.slice (some ⟨b, 0, none⟩) (toRf m).depth.length c) := hl
    have I1 : RfI (put w b ((getC (hp w b)).setIfInBounds nn (.int .i64 (d.depth - 1))) (getE (hp w b))) g { toRf m with depth := (toRf m).depth.set nn (d.depth - 1) } F1 := t1
    have hdd1 : ((toRf m).depth.set nn (d.depth - 1))[nn]? = some (d.depth - 1) := by rw [List.getElem?_set, if_pos rfl, if_pos (List.getElem?_eq_some_iff.1 hdd).1]
    simp -implicitDefEqProofs only [L53_0, zS, aj, af, h6, aC, eqf k3, q, fa_108_5, aY, hl10, ia, hld, bp_sub, az (n := d.depth - 1) (by rw [codeV, if_neg (by omega), if_neg k3, if_pos k4] at hco; omega) (by rw [codeV, if_neg (by omega), if_neg k3, if_pos k4] at hco; omega)]
    rw [st_3 rfl rfl ok, dv]
    generalize put w b ((getC (hp w b)).setIfInBounds nn (.int .i64 (d.depth - 1))) (getE (hp w b)) = w1 at *
    obtain ⟨b1, c1, hl1, hbg1, _, hld1, _⟩ := I1.intPut (k := 10) (L := (toRf m).depth.set nn (d.depth - 1)) rfl hdd1
    have hl11 : ldC (hp w1 g) (0 + 10) = some (.slice (some ⟨b1, 0, none⟩) (toRf m).depth.length c1) := by have := hl1; rw [List.length_set] at this; exact this
    have ia1 := ia_ints (b := b1) (n := (toRf m).depth.length) (c := c1) (i := (nn : Int)) n0 (by rw [dl]; exact n1)
    rw [Int.toNat_natCast] at ia1
    by_cases hz : d.depth - 1 = 0
    · have e : (d.depth - 1 == 0) = true := by rw [hz]; rfl
      obtain ⟨b2, c2, v2, Fk2, hl2, _, _, _, hld2, _, hput2⟩ := I1.holdPut (nn := nn) (l := d.holds) hhd
      have iah := ia_106 (b := b2) (p := 0) (n := (toRf m).holds.length) (c := c2) (j := .i64) (i := (nn : Int)) (by omega) (by omega)
      rw [Int.toNat_natCast, Nat.zero_add, Nat.mul_one] at iah
      obtain ⟨ok2, s1, s2, _, F2, t3, t4⟩ := hput2 w1 none' [] (.slice none 0 0) ⟨ChgP.refl _ _, fun k hk => hk.elim⟩ isRow.nil
      have hl2' : ldC (hp w1 g) (0 + 11) = some (.slice (some ⟨b2, 0, none⟩) (toRf m).holds.length c2) := hl2
      simp -implicitDefEqProofs only [zS, fa_108_5, fa_108_6, aY, af, hl11, ia1, hld1, e, ld_106, hl2', iah]
      rw [st_131 s1 s2 ok2, if_pos hz, rf_setHd]
      have e2 : (d.depth - 1 : Int) = 0 := hz
      rw [e2] at t3
      exact ⟨by first | rfl | trivial, F2, t3, (t2.trans t4).pre hc⟩
    · simp -implicitDefEqProofs only [zS, fa_108_5, aY, af, hl11, ia1, hld1, eqf hz]
      rw [if_neg hz, rf_setHd]
      have hs : (toRf m).holds.set nn d.holds = (toRf m).holds := set_same hhd
      simp only [hs]
      exact ⟨by first | rfl | trivial, F1, I1, t2.pre hc⟩
  by_cases k5 : o.1 = 5
  · have q : (o.1 == 5) = true := by rw [k5]; rfl
    rw [if_neg k3, if_neg k4, if_pos k5] at dv
    obtain ⟨s, gn, rv, dd, hh, R⟩ := I.rd
    simp -implicitDefEqProofs only [L53_0, zS, aj, af, h6, aC, eqf k3, eqf k4, q, ba, fa_25_1, h7, e0, e1]
    refine (c_rHas R n0 (by rw [Int.toNat_natCast]; exact hhd) (by omega) (nmOf h)).step ?_
    rw [show decide (nmOf h ∈ d.holds) = holdsV d h from rfl]
    cases hv : holdsV d h with
    | true =>
      simp -implicitDefEqProofs only [zS]
      rw [dv, if_pos hv]
      exact ⟨by first | rfl | trivial, F, I, UpdP.of0 hc⟩
    | false =>
      rw [if_neg (by rw [hv]; simp)] at dv
      obtain ⟨b2, c2, v2, Fk2, hl2, hbg2, _, _, hld2, hk2, hput2⟩ := (I.keep cd).holdPut (nn := nn) (l := d.holds) hhd
      have iah := ia_106 (b := b2) (p := 0) (n := (toRf m).holds.length) (c := c2) (j := .i64) (i := (nn : Int)) (by omega) (by omega)
      rw [Int.toNat_natCast, Nat.zero_add, Nat.mul_one] at iah
      have hl2' : ldC (hp w g) (0 + 11) = some (.slice (some ⟨b2, 0, none⟩) (toRf m).holds.length c2) := hl2
      have hld2' : ldC (hp w b2) nn = some v2 := hld2
      obtain ⟨hown, _⟩ := flat_own hk2
      simp -implicitDefEqProofs only [zS, fa_108_6, ba, fa_25_1, ld_106, ld_131, af, hl2', iah, hld2', h7, e0, e1, bd_136_0_1]
      have fin : ∀ (x' : Value) (w2 : World), w2.ownsRow 0 136 2 x' (d.holds.length + 1) (d.holds.flatMap nmC ++ [.int .i64 h.1, .int .i64 h.2.1]) → w.drew.grownBy w2 v2.ownBlock → NewB w.drew v2 x' →
          ldC (hp w2 g) (0 + 11) = some (.slice (some ⟨b2, 0, none⟩) (toRf m).holds.length c2) ∧ effu Tryz.prog (Instr.storeAt 131 (.pointer (some ⟨b2, nn, none⟩)) x') w2 fun w' => ∃ F', RfI w' g (toRf (doesV m nn o h)) F' ∧ UpdP F F' W w' := by
        intro x' w2 ho hg hnb
        have hk2' : isRow 136 2 d.holds.length ((d.holds.flatMap nmC).map isV) w.drew Fk2 v2 := hk2
        obtain ⟨F2, hr2, hu2⟩ := flat_grown (vs := nmC (nmOf h)) hk2' ho hg hnb
        have hr2' : keysT (d.holds ++ [nmOf h]) w2 F2 x' := by
          rw [keysT, List.length_append]
          have e : (d.holds ++ [nmOf h]).flatMap nmC = d.holds.flatMap nmC ++ nmC (nmOf h) := by simp
          rw [e]; exact hr2
        obtain ⟨ok2, s1, s2, hgg, F3, t3, t4⟩ := hput2 w2 F2 (d.holds ++ [nmOf h]) x' hu2 hr2'
        refine ⟨by rw [hgg]; exact hl2', ?_⟩
        rw [st_131 s1 s2 ok2, dv, rf_setHd]
        have hs : (toRf m).depth.set nn d.depth = (toRf m).depth := set_same hdd
        simp only [hs]
        exact ⟨F3, t3, t4.pre (hc.trans cd)⟩
      have h63 := fun (x' : Value) (w2 : World) (a : _) (b : _) (c : _) => fin x' w2 a b c
      repeat' (with_reducible apply And.intro)
      all_goals
        refine ps_131 (fun u hu => by simp only [List.mem_cons, List.not_mem_nil, or_false] at hu; rcases hu with rfl | rfl <;> rfl) hown (by omega) (Nat.zero_le _) fun x' w2 ho hg hnb => ?_
        obtain ⟨f1, f2⟩ := fin x' w2 ho hg hnb
        try simp -implicitDefEqProofs only [zS, ld_106, f1, iah]
        first | exact f2 | (refine cast ?_ f2; congr 1; funext w'; simp)
  by_cases k10 : o.1 = 10
  · have q : (o.1 == 10) = true := by rw [k10]; rfl
    obtain ⟨i, r, hf, hri, hnm, hlv⟩ := region_ok hr (by omega)
    obtain ⟨i', hf', hixe⟩ := hix (by rw [show ofK o.1 = 1 by rw [k10]; rfl]; decide)
    rw [hf] at hf'
    cases hf'
    rw [hixe]
    obtain ⟨s0, s1, s2⟩ := slots_at hlv
    have hn1 : r.nm.1 = h.1 := by rw [hnm]; rfl
    have hn2 : r.nm.2 = h.2.1 := by rw [hnm]; rfl
    have s0' : 0 ≤ h.1 := s0
    have s1' : h.1 < m.slots.length := s1
    have s2' : m.slots[r.nm.1.toNat]? = some (1, h.2.1) := by rw [hn1]; exact s2
    have hx : (toRf m).rgs[i]? = some (r, isLv m r.nm) := by rw [rgs_rf, hri]; rfl
    have hil : i < (toRf m).rgs.length := (List.getElem?_eq_some_iff.1 hx).1
    obtain ⟨b, c, v, Fk, hl, hbg, hFb, hsub, hld, hv, hput⟩ := I.rgPut hx (k := 4) (by omega) (P := isV (.bool (isLv m r.nm))) rfl
    obtain ⟨ok, _, _, _, F1, t1, t2⟩ := hput w none' (isV (.bool false)) (.bool false) (r, false) (UpdP.none hv.2 w) (good_isV ⟨rfl, rfl⟩) ⟨rfl, fun _ h => h⟩ rfl
    have ia := ia_105 (b := b) (p := 0) (n := (toRf m).rgs.length) (c := c) (j := .i64) (i := (i : Int)) (by omega) (by omega)
    rw [Int.toNat_natCast, Nat.zero_add] at ia
    simp -implicitDefEqProofs only [L53_0, zS, aj, af, h6, aC, eqf k3, eqf k4, eqf k5, q, aJ, aM, hl, ia, fa_130_4]
    rw [st_4 (o := i * 8 + 4) rfl rfl ok]
    have k7a := t2.keep h7 f7
    generalize put w b ((getC (hp w b)).setIfInBounds (i * 8 + 4) (.bool false)) (getE (hp w b)) = w1 at *
    have cd1 : Chg [] w1 w1.drew := (Chg.refl _ _).drew
    have stl : (toRf m).state.length = m.slots.length := by simp [toRf]
    have hst : (toRf m).state[h.1.toNat]? = some 1 := by rw [← hn1]; simp [toRf, s2']
    have I1 : RfI w1.drew g { toRf m with rgs := (toRf m).rgs.set i (r, false) } F1 := RfI.keep t1 cd1
    obtain ⟨b2, c2, hl2, hbg2, hFb2, hld2, hput2⟩ := I1.intPut (k := 7) (L := (toRf m).state) rfl hst
    obtain ⟨ok2, F2, t3, t4⟩ := hput2 2
    have ia2 := ia_ints (b := b2) (n := (toRf m).state.length) (c := c2) (i := h.1) s0' (by rw [stl]; exact s1')
    have hl27 : ldC (hp w1 g) (0 + 7) = some (.slice (some ⟨b2, 0, none⟩) (toRf m).state.length c2) := hl2
    have k7d : hp w1.drew g7 = some (.cells (hnC h).toArray 25) := k7a.1
    simp -implicitDefEqProofs only [zS, fa_108_2, aY, hl27, ba, af, k7a.1, e0, ia2]
    rw [st_3 (o := h.1.toNat) rfl rfl ok2]
    have k7b := t4.keep k7d k7a.2
    have I2 : RfI (put w1.drew b2 ((getC (hp w1.drew b2)).setIfInBounds h.1.toNat (.int .i64 2)) (getE (hp w1.drew b2))) g { toRf m with rgs := (toRf m).rgs.set i (r, false), state := (toRf m).state.set h.1.toNat 2 } F2 := t3
    have u2 := (t2.trans (t4.pre cd1)).pre hc
    generalize put w1.drew b2 ((getC (hp w1.drew b2)).setIfInBounds h.1.toNat (.int .i64 2)) (getE (hp w1.drew b2)) = w2 at *
    obtain ⟨_, _, _, _, _, R2⟩ := I2.rd
    have ml : ldC (hp w2 g) (0 + 6) = some (.bool m.loose) := R2.l
    have dv' : doesV m nn o h = { m with slots := m.slots.set r.nm.1.toNat (if m.loose then 0 else 2, h.2.1) } := by
      rw [dv, if_neg k3, if_neg k4, if_neg k5, if_neg (by omega), if_neg (by omega), if_neg (by omega), if_pos k10, hn1, ← hn1, s2']
    by_cases hlo : m.loose = true
    · rw [hlo] at ml
      have cd2 : Chg [] w2 w2.drew := (Chg.refl _ _).drew
      have hst2 : ((toRf m).state.set h.1.toNat 2)[h.1.toNat]? = some 2 := by rw [List.getElem?_set, if_pos rfl, if_pos (by rw [stl]; omega)]
      obtain ⟨b3, c3, hl3, _, _, _, hput3⟩ := (I2.keep cd2).intPut (k := 7) (L := (toRf m).state.set h.1.toNat 2) rfl hst2
      obtain ⟨ok3, F3, t5, t6⟩ := hput3 0
      have hl37 : ldC (hp w2 g) (0 + 7) = some (.slice (some ⟨b3, 0, none⟩) (toRf m).state.length c3) := by have := hl3; rw [List.length_set] at this; exact this
      have ia3 := ia_ints (b := b3) (n := (toRf m).state.length) (c := c3) (i := h.1) s0' (by rw [stl]; exact s1')
      simp -implicitDefEqProofs only [zS, fa_108_1, fa_108_2, ld_4, ml, aY, hl37, ba, af, k7b.1, e0, ia3]
      rw [st_3 (o := h.1.toNat) rfl rfl ok3, dv', if_pos hlo]
      have := rf_free (v := 0) (q := (1, h.2.1)) Wn' hri s2' hn2 (by decide)
      simp only at this
      rw [this, hn1]
      rw [List.set_set] at t5
      exact ⟨by first | rfl | trivial, F3, t5, u2.trans (t6.pre cd2)⟩
    · have hlf : m.loose = false := by simpa using hlo
      rw [hlf] at ml
      simp -implicitDefEqProofs only [zS, fa_108_1, ld_4, ml]
      rw [dv', if_neg hlo]
      have := rf_free (v := 2) (q := (1, h.2.1)) Wn' hri s2' hn2 (by decide)
      simp only at this
      rw [this, hn1]
      exact ⟨by first | rfl | trivial, F2, I2, u2⟩
  have touch : o.1 = 7 ∨ o.1 = 8 ∨ o.1 = 9 → P53_1 (.pointer (some ⟨g, 0, none⟩)) (.pointer (some ⟨g6, 0, none⟩)) (.pointer (some ⟨g7, 0, none⟩)) (.int .i64 ix) (.bool true) w fun v w' => v = .tuple #[] ∧ ∃ F', RfI w' g (toRf (doesV m nn o h)) F' ∧ UpdP F F' W w' := by
    intro hk
    obtain ⟨t1, t2⟩ := touch_ok hr (by omega) (by omega)
    obtain ⟨i, hf, rfl⟩ := hix (by rw [ofK, if_neg (by omega), if_pos ⟨by omega, by omega⟩]; decide)
    obtain ⟨i', r, k, L, j, O⟩ := obj_at Wm t1 o0 t2
    have : i' = i := by have := O.fi; rw [hf] at this; exact (Option.some.inj this).symm
    subst this
    exact l_rDoes1 hc I Wm hK h6 h7 O hd hk
  by_cases k7 : o.1 = 7
  · have q : (o.1 == 7) = true := by rw [k7]; rfl
    simp -implicitDefEqProofs only [L53_0, zS, aj, af, h6, aC, eqf k3, eqf k4, eqf k5, eqf k10, q]
    exact touch (.inl k7)
  by_cases k8 : o.1 = 8
  · have q : (o.1 == 8) = true := by rw [k8]; rfl
    simp -implicitDefEqProofs only [L53_0, zS, aj, af, h6, aC, eqf k3, eqf k4, eqf k5, eqf k10, eqf k7, q]
    exact touch (.inr (.inl k8))
  by_cases k9 : o.1 = 9
  · have q : (o.1 == 9) = true := by rw [k9]; rfl
    simp -implicitDefEqProofs only [L53_0, zS, aj, af, h6, aC, eqf k3, eqf k4, eqf k5, eqf k10, eqf k7, eqf k8, q]
    exact touch (.inr (.inr k9))
  · simp -implicitDefEqProofs only [L53_0, zS, aj, af, h6, aC, eqf k3, eqf k4, eqf k5, eqf k10, eqf k7, eqf k8, eqf k9]
    apply L53_1_ok
    simp -implicitDefEqProofs only [L53_1, zS]
    rw [dv, if_neg k3, if_neg k4, if_neg k5, if_neg k7, if_neg k8, if_neg k9, if_neg k10]
    exact ⟨by first | rfl | trivial, F, I, UpdP.of0 hc⟩
end
end Go.Proofs.YtgamnncehjcdiaaGreat

namespace Go.Proofs.YtgamnncehjcdiaaGreat
open Go Ev Go.RowKit

section
variable {W w : World} {g g6 g7 : Nat} {m : MdV} {x : RfV} {F : Fp} {K : Nat} {o : OpV} {h : HnV} {d : HdV} {nn : Nat} {r : RsV}
theorem RfI.notF (I : RfI W g x F) {y : Nat} (h : W.heap.size ≤ y) : ¬ F y := fun hx => by have := isAt.lt I (bc x) y hx; omega
theorem ld_op {g : Nat} {e : TypeId} (hb : hp w g = some (.cells (opC o).toArray e)) : ldv Tryz.prog 39 (.pointer (some ⟨g, 0, none⟩)) w = some (.agg (opC o).toArray) := aG (t := 39) (c := (opC o).toArray) ag_39 (show (Tryz.prog.info? 39).map (·.size) = some (opC o).toArray.size from sz_39) hb
theorem known_find (hk : knownV m h (ofK o.1) = true) : ∃ i, findR m.rgs (nmOf h) = some i := by
  unfold knownV at hk
  split at hk
  · cases hk
  · rename_i i hi; exact ⟨i, hi⟩
theorem rf_len (m : MdV) : (toRf m).rgs.length = m.rgs.length := by simp [toRf]
set_option maxHeartbeats 1000000 in
theorem c_rDoes (I : RfI w g (toRf m) F) (Wm : Wf m K) (hK : K ≤ 1000000) (Wn' : Wn m K) (hm : mayV m nn o = true) (hd : m.hands[nn]? = some d) (hr : refusesV m d o h = 0) :
    CallR Tryz.prog 53 [.pointer (some ⟨g, 0, none⟩), .int .i64 nn, .agg (opC o).toArray, .agg (hnC h).toArray] w fun v w' => v = .tuple #[] ∧ ∃ F', RfI w' g (toRf (doesV m nn o h)) F' ∧ UpdP F F' w w' := by
  apply F53_ok
  simp -implicitDefEqProofs only [F53, aE, aB, ae]
  generalize hw : (w.alloc (.cells (opC o).toArray 39)).alloc _ = w1
  have c1 : Chg [] w w1 := by rw [← hw]; exact ((Chg.refl _ _).alloc _).alloc _
  have a6 : hp w1 w.heap.size = some (.cells (opC o).toArray 39) := by rw [← hw, ac, ae, if_neg (by omega), ac, if_pos rfl]
  have a7 : hp w1 (w.heap.size + 1) = some (.cells (hnC h).toArray 25) := by rw [← hw, ac, ae, if_pos rfl]
  clear hw
  have f7 : ¬ F (w.heap.size + 1) := I.notF (by omega)
  have e0 : (hnC h).toArray[0 + 0]? = some (.int .i64 h.1) := rfl
  have e1 : (hnC h).toArray[0 + 1]? = some (.int .i64 h.2.1) := rfl
  simp -implicitDefEqProofs only [zS, aj, af, a6, aC]
  refine (c_Of o.1 w1).step ?_
  by_cases k0 : ofK o.1 = 0
  · have ez : (ofK o.1 != 0) = false := by rw [k0]; rfl
    simp -implicitDefEqProofs only [zS, ez]
    exact l_rDoes0 c1 (I.keep c1) Wm hK Wn' a6 a7 f7 hm hd hr (fun h => absurd k0 h)
  · have ez : (ofK o.1 != 0) = true := bne_iff_ne.2 k0
    obtain ⟨i, hi⟩ := known_find ((refuses_code hr).1.resolve_left k0)
    obtain ⟨s2, gn2, rv2, dd2, hh2, R2⟩ := (I.keep c1).rd
    simp -implicitDefEqProofs only [zS, ez, ba, fa_25_1, af, a7, e0, e1]
    refine (c_rFind R2 (nmOf h) (by rw [rf_len]; exact Nat.le_trans Wm.rl hK)).step ?_
    rw [findX_rf, hi]
    exact l_rDoes0 c1 (I.keep c1) Wm hK Wn' a6 a7 f7 hm hd hr (fun _ => ⟨i, hi, rfl⟩)
theorem rrs_grown {L : List (RgV × Bool)} {w' : World} {y y' : Value} {xs : List Value} (hh : rrsT L w F y) (hown : w.ownsRow 0 130 8 y L.length xs) (nm : NmV) (cls : Int)
    (ho : w'.ownsRow 0 130 8 y' (L.length + 1) (xs ++ [.int .i64 nm.1, .int .i64 nm.2, .int .i64 cls, .int .i64 0, .bool true, .slice none 0 0, .slice none 0 0, .slice none 0 0])) (hg : w.grownBy w' y.ownBlock) (hnb : NewB w y y') :
    ∃ F', rrsT (L ++ [(⟨nm, cls, 0, [], [], []⟩, true)]) w' F' y' ∧ UpdP F F' w w' := by
  have hy : Parts w (rrT (⟨nm, cls, 0, [], [], []⟩, true)) [.int .i64 nm.1, .int .i64 nm.2, .int .i64 cls, .int .i64 0, .bool true, .slice none 0 0, .slice none 0 0, .slice none 0 0] (fun _ => none') := by
    refine ⟨rfl, fun k P v hP hv => ?_, fun _ _ _ _ _ b hb _ => hb⟩
    have hk := (List.getElem?_eq_some_iff.1 hP).1
    rw [rrT_len] at hk
    have hk' : k = 0 ∨ k = 1 ∨ k = 2 ∨ k = 3 ∨ k = 4 ∨ k = 5 ∨ k = 6 ∨ k = 7 := by omega
    rcases hk' with rfl | rfl | rfl | rfl | rfl | rfl | rfl | rfl <;> cases hP <;> cases hv
    · exact ⟨rfl, fun _ h => h⟩
    · exact ⟨rfl, fun _ h => h⟩
    · exact ⟨rfl, fun _ h => h⟩
    · exact ⟨rfl, fun _ h => h⟩
    · exact ⟨rfl, fun _ h => h⟩
    · exact isRow.nil
    · exact isRow.nil
    · exact isRow.nil
  obtain ⟨F', h1, h2, _⟩ := isRow.grow (G := none') (m := 1) hh (good_rrL L) (good_rr _) hy (fun b => ⟨fun h => h.elim, fun ⟨_, _, h⟩ => h⟩) (fun _ _ h => h) (fun xs' h' => by rw [own_unique h' hown]; exact ho) hg hnb
  refine ⟨F', ?_, ⟨h2.chg.mono fun k hk => hk.resolve_right id, fun k hk => (h2.sub k hk).imp (·.resolve_right id) id⟩⟩
  rw [rrsT, List.length_append, List.flatMap_append]
  simpa using h1
theorem rf_create (Wn' : Wn m K) {s : Nat} {p : NmV} (hp' : m.slots[s]? = some p) (p0 : p.1 = 0) (cls : Int) (hl : laterV p.2 = p.2 + 1) :
    toRf { m with slots := m.slots.set s (1, laterV p.2), rgs := m.rgs ++ [⟨((s : Int), laterV p.2), cls, 0, [], [], []⟩] } =
      { toRf m with state := (toRf m).state.set s 1, gen := (toRf m).gen.set s (laterV p.2), rgs := (toRf m).rgs ++ [(⟨((s : Int), laterV p.2), cls, 0, [], [], []⟩, true)] } := by
  have hsl := (List.getElem?_eq_some_iff.1 hp').1
  have lvN : isLv { m with slots := m.slots.set s (1, laterV p.2), rgs := m.rgs ++ [⟨((s : Int), laterV p.2), cls, 0, [], [], []⟩] } ((s : Int), laterV p.2) = true := by
    unfold isLv
    simp only [List.length_set, Int.toNat_natCast]
    rw [decide_eq_true (by omega), Bool.true_and]
    exact decide_eq_true (by rw [List.getElem?_set, if_pos rfl, if_pos hsl])
  have lvE : ∀ x ∈ m.rgs, isLv { m with slots := m.slots.set s (1, laterV p.2), rgs := m.rgs ++ [⟨((s : Int), laterV p.2), cls, 0, [], [], []⟩] } x.nm = isLv m x.nm := fun x hx => by
    obtain ⟨a, b, c, dd⟩ := Wn'.gn x hx
    unfold isLv
    simp only [List.length_set]
    congr 1
    by_cases hs : s = x.nm.1.toNat
    · have a1 : m.slots[x.nm.1.toNat]? = some p := by rw [← hs]; exact hp'
      have a2 : (m.slots.set s (1, laterV p.2))[x.nm.1.toNat]? = some (1, laterV p.2) := by rw [← hs, List.getElem?_set, if_pos rfl, if_pos hsl]
      have := dd p a1
      rw [decide_eq_false (by rw [a2]; intro e; have := (Prod.mk.inj (Option.some.inj e)).2; omega), decide_eq_false (by rw [a1]; intro e; have := congrArg Prod.fst (Option.some.inj e); simp only at this; omega)]
    · have : (m.slots.set s (1, laterV p.2))[x.nm.1.toNat]? = m.slots[x.nm.1.toNat]? := by rw [List.getElem?_set, if_neg hs]
      rw [this]
  unfold toRf
  simp only [List.map_set, List.map_append, List.map_cons, List.map_nil, lvN]
  congr 1
  congr 1
  exact List.map_congr_left fun x hx => by rw [lvE x hx]
set_option maxHeartbeats 2000000 in
theorem c_rCreate (I : RfI w g (toRf m) F) (Wm : Wf m K) (Wn' : Wn m K) (hK : K + 1 ≤ 1000000) (o : OpV) (r : RsV) :
    CallR Tryz.prog 54 [.pointer (some ⟨g, 0, none⟩), .agg (opC o).toArray, .agg (rsC r).toArray] w fun v w' => v = .bool (createsV m o.2.2.2.1 r).1 ∧ ∃ F', RfI w' g (toRf (createsV m o.2.2.2.1 r).2) F' ∧ UpdP F F' w w' := by
  apply F54_ok
  simp -implicitDefEqProofs only [F54, aE, aB, ae]
  generalize hw : (w.alloc (.cells (opC o).toArray 39)).alloc _ = w1
  have c1 : Chg [] w w1 := by rw [← hw]; exact ((Chg.refl _ _).alloc _).alloc _
  have a4 : hp w1 w.heap.size = some (.cells (opC o).toArray 39) := by rw [← hw, ac, ae, if_neg (by omega), ac, if_pos rfl]
  have a5 : hp w1 (w.heap.size + 1) = some (.cells (rsC r).toArray 28) := by rw [← hw, ac, ae, if_pos rfl]
  clear hw
  have f4 : ¬ F w.heap.size := I.notF (Nat.le_refl _)
  have I1 := I.keep c1
  obtain ⟨s, gn, rv, dd, hh, R⟩ := I1.rd
  have hbe : be Tryz.prog .eql 28 (.tmp 9) (.tmp 10) (.agg (rsC r).toArray) (.agg (rsC (codeR 7)).toArray) = some (.bool (decide (r = codeR 7))) := be_rs r (codeR 7)
  have hl6 : ldC (hp w1 g) (0 + 6) = some (.bool m.loose) := R.l
  simp -implicitDefEqProofs only [aZ a5, ad, bdr_0, hbe]
  by_cases r7 : r = codeR 7
  · have cv : createsV m o.2.2.2.1 r = (m.loose || decide (spareN m.slots = 0), m) := by rw [createsV, if_pos r7]
    simp -implicitDefEqProofs only [decide_eq_true r7, zS, fa_108_1, ld_4, hl6]
    rw [cv]
    by_cases hlo : m.loose = true
    · simp -implicitDefEqProofs only [hlo, zS]
      exact ⟨by simp, F, I1, UpdP.of0 c1⟩
    · have hlf : m.loose = false := by simpa using hlo
      simp -implicitDefEqProofs only [hlf, zS]
      refine (c_rSpare R (by simp only [toRf, List.length_map]; exact Wm.sl)).step ?_
      rw [rf_spare]
      simp -implicitDefEqProofs only [zS]
      refine ⟨?_, F, I1, UpdP.of0 c1⟩
      by_cases hz : spareN m.slots = 0
      · rw [hz]; rfl
      · rw [eqf (show (spareN m.slots : Int) ≠ 0 by omega), decide_eq_false hz]; rfl
  · have cvn : ¬ (0 ≤ r.2.1.1 ∧ r.2.1.1 < m.slots.length) → createsV m o.2.2.2.1 r = (false, m) := fun h => by rw [createsV, if_neg r7, if_neg h]
    have hc3 : ldC (hp w1 g) (0 + 0 + 3) = some (.int .i64 m.slots.length) := by
      rw [← Wn'.cs]; exact R.c 3 (by omega)
    have stl : (toRf m).state.length = m.slots.length := by simp [toRf]
    have gnl : (toRf m).gen.length = m.slots.length := by simp [toRf]
    by_cases s0 : r.2.1.1 < 0
    · simp -implicitDefEqProofs only [decide_eq_false r7, zS, fa_28_1, ba, af, a5, rs_1, s0]
      rw [cvn (by omega)]
      exact ⟨by first | rfl | trivial, F, I1, UpdP.of0 c1⟩
    by_cases s1 : (m.slots.length : Int) ≤ r.2.1.1
    · simp -implicitDefEqProofs only [decide_eq_false r7, zS, fa_28_1, ba, fa_108_0, fa_33_3, af, a5, rs_1, s0, hc3, aH, ge_iff_le, s1]
      rw [cvn (by omega)]
      exact ⟨by first | rfl | trivial, F, I1, UpdP.of0 c1⟩
    obtain ⟨p, hp'⟩ : ∃ p, m.slots[r.2.1.1.toNat]? = some p := ⟨_, List.getElem?_eq_getElem (by omega)⟩
    have hst : (toRf m).state[r.2.1.1.toNat]? = some p.1 := by simp [toRf, hp']
    have hgn : (toRf m).gen[r.2.1.1.toNat]? = some p.2 := by simp [toRf, hp']
    obtain ⟨b, c, hl, hbg, hFb, hld, hput⟩ := I1.intPut (k := 7) (L := (toRf m).state) rfl hst
    obtain ⟨b8, c8, hl8, hbg8, hFb8, hld8, _⟩ := I1.intPut (k := 8) (L := (toRf m).gen) rfl hgn
    have hl7 : ldC (hp w1 g) (0 + 7) = some (.slice (some ⟨b, 0, none⟩) (toRf m).state.length c) := hl
    have hl8' : ldC (hp w1 g) (0 + 8) = some (.slice (some ⟨b8, 0, none⟩) (toRf m).gen.length c8) := hl8
    have ia := ia_ints (b := b) (n := (toRf m).state.length) (c := c) (i := r.2.1.1) (by omega) (by rw [stl]; omega)
    have ia8 := ia_ints (b := b8) (n := (toRf m).gen.length) (c := c8) (i := r.2.1.1) (by omega) (by rw [gnl]; omega)
    by_cases p0 : p.1 = 0
    · have e0 : (p.1 != 0) = false := by rw [p0]; rfl
      have hld' : ldC (hp w1 b) r.2.1.1.toNat = some (.int .i64 p.1) := hld
      have pg := Wm.sg p (List.mem_of_getElem? hp')
      have pk := Wn'.gk p (List.mem_of_getElem? hp')
      have hlat : laterV p.2 = p.2 + 1 := by rw [laterV, if_pos (by omega)]
      have cv : createsV m o.2.2.2.1 r = if r = (0, (r.2.1.1, laterV p.2, 0, 0, 0), 0, 0) then
          (true, { m with slots := m.slots.set r.2.1.1.toNat (1, laterV p.2), rgs := m.rgs ++ [⟨(r.2.1.1, laterV p.2), o.2.2.2.1, 0, [], [], []⟩] }) else (false, m) := by
        rw [createsV, if_neg r7, if_pos (by omega), hp']
        simp only [ne_eq, p0, not_true_eq_false, if_false]
      have hbe2 : be Tryz.prog .neq 28 (.tmp 53) (.tmp 57) (.agg (rsC r).toArray) (.agg (rsC (0, (r.2.1.1, laterV p.2, 0, 0, 0), 0, 0)).toArray) = some (.bool (!decide (r = (0, (r.2.1.1, laterV p.2, 0, 0, 0), 0, 0)))) := be_nrs r (0, (r.2.1.1, laterV p.2, 0, 0, 0), 0, 0)
      simp -implicitDefEqProofs only [decide_eq_false r7, zS, fa_28_1, ba, fa_108_0, fa_108_2, fa_108_3, fa_33_3, af, aY, a5, rs_1, s0, hc3, aH, ge_iff_le, s1, hl7, ia, hld', e0, hl8', ia8, hld8]
      refine (c_rLater p.2 pg.2 w1 pg.1).step ?_
      simp -implicitDefEqProofs only [zS, aZ a5, bdh_01, bdr_1, hbe2]
      by_cases hr : r = (0, (r.2.1.1, laterV p.2, 0, 0, 0), 0, 0)
      · rw [if_pos hr] at cv
        rw [cv]
        have cd : Chg [] w1 w1.drew := (Chg.refl _ _).drew
        have I1d := I1.keep cd
        obtain ⟨bb, cc, hlb, hbgb, hFbb, _, hputb⟩ := I1d.intPut (k := 7) (L := (toRf m).state) rfl hst
        rw [show ldC (hp w1.drew g) 7 = _ from hl] at hlb
        cases hlb
        obtain ⟨ok, F1, t1, t2⟩ := hputb 1
        simp -implicitDefEqProofs only [decide_eq_true hr, zS, fa_108_2, fa_108_3, aY, hl7, hl8', ia, ia8]
        rw [st_3 (o := r.2.1.1.toNat) rfl rfl ok]
        have k4a := t2.keep (show hp w1.drew w.heap.size = _ from a4) f4
        have I2 : RfI (put w1.drew b ((getC (hp w1.drew b)).setIfInBounds r.2.1.1.toNat (.int .i64 1)) (getE (hp w1.drew b))) g { toRf m with state := (toRf m).state.set r.2.1.1.toNat 1 } F1 := t1
        have hl82 : ldC (hp (put w1.drew b ((getC (hp w1.drew b)).setIfInBounds r.2.1.1.toNat (.int .i64 1)) (getE (hp w1.drew b))) g) 8 = some (.slice (some ⟨b8, 0, none⟩) (toRf m).gen.length c8) := by rw [ax (Ne.symm hbg)]; exact hl8
        generalize put w1.drew b ((getC (hp w1.drew b)).setIfInBounds r.2.1.1.toNat (.int .i64 1)) (getE (hp w1.drew b)) = w2 at *
        obtain ⟨bg, cg, hlg, hbgg, _, _, hputg⟩ := I2.intPut (k := 8) (L := (toRf m).gen) rfl hgn
        rw [hl82] at hlg
        cases hlg
        obtain ⟨ok2, F2, t3, t4⟩ := hputg (laterV p.2)
        rw [st_3 (o := r.2.1.1.toNat) rfl rfl ok2]
        have k4b := t4.keep k4a.1 k4a.2
        have I3 : RfI (put w2 b8 ((getC (hp w2 b8)).setIfInBounds r.2.1.1.toNat (.int .i64 (laterV p.2))) (getE (hp w2 b8))) g { toRf m with state := (toRf m).state.set r.2.1.1.toNat 1, gen := (toRf m).gen.set r.2.1.1.toNat (laterV p.2) } F2 := t3
        generalize put w2 b8 ((getC (hp w2 b8)).setIfInBounds r.2.1.1.toNat (.int .i64 (laterV p.2))) (getE (hp w2 b8)) = w3 at *
        have cd3 : Chg [] w3 w3.drew := (Chg.refl _ _).drew
        obtain ⟨v, Fk, hsub, hng, hlr, hRr, hputr⟩ := isAt.repl (I3.keep cd3) (bc _) (k := 9) (P := rrsT (toRf m).rgs) rfl
        have hlr' : ldC (hp w3 g) (0 + 9) = some v := hlr
        obtain ⟨xs, Fs, q1, q2, q3, q4⟩ := hRr
        have hlen : (toRf m).rgs.length = m.rgs.length := rf_len m
        have hrl := Wm.rl
        simp -implicitDefEqProofs only [zS, aJ, aN, aM, af, hlr', k4b.1, op_3, bd_130_0_1_2_4]
        refine ps_105 (fun u hu => by simp only [List.mem_cons, List.not_mem_nil, or_false] at hu; rcases hu with rfl | rfl | rfl | rfl | rfl | rfl | rfl | rfl <;> rfl) q1 (by omega) (Nat.zero_le _) fun y' w4 ho hg hnb => ?_
        obtain ⟨F3, r1, r2⟩ := rrs_grown (nm := (r.2.1.1, laterV p.2)) (cls := o.2.2.2.1) (L := (toRf m).rgs) ⟨xs, Fs, q1, q2, q3, q4⟩ q1 ho hg hnb
        obtain ⟨ok3, z1, z2, _, F4, t5, t6⟩ := hputr w4 F3 (rrsT ((toRf m).rgs ++ [(⟨(r.2.1.1, laterV p.2), o.2.2.2.1, 0, [], [], []⟩, true)])) y' r2 (good_rrs _) r1
        rw [st_105 (o := 0 + 9) z1 z2 ok3]
        have hnat : ((r.2.1.1.toNat : Nat) : Int) = r.2.1.1 := by omega
        have rc := rf_create (s := r.2.1.1.toNat) Wn' hp' p0 o.2.2.2.1 hlat
        rw [hnat] at rc
        rw [rc]
        exact ⟨by first | rfl | trivial, F4, t5, ((t2.trans t4).pre (c1.trans cd)).trans (t6.pre cd3)⟩
      · rw [if_neg hr] at cv
        simp -implicitDefEqProofs only [decide_eq_false hr, zS]
        rw [cv]
        exact ⟨by first | rfl | trivial, F, I1, UpdP.of0 c1⟩
    · have e0 : (p.1 != 0) = true := bne_iff_ne.2 p0
      have cv : createsV m o.2.2.2.1 r = (false, m) := by
        rw [createsV, if_neg r7, if_pos (by omega), hp']
        simp only [ne_eq, p0, not_false_eq_true, if_true]
      simp -implicitDefEqProofs only [decide_eq_false r7, zS, fa_28_1, ba, fa_108_0, fa_108_2, fa_33_3, af, aY, a5, rs_1, s0, hc3, aH, ge_iff_le, s1, hl7, ia, hld, e0]
      rw [cv]
      exact ⟨by first | rfl | trivial, F, I1, UpdP.of0 c1⟩
end
end Go.Proofs.YtgamnncehjcdiaaGreat

namespace Go.Proofs.YtgamnncehjcdiaaGreat
open Go Ev Go.RowKit

section
variable {W w : World} {g g7 g11 : Nat} {m : MdV} {x : RfV} {F F0 : Fp} {K : Nat} {o : OpV} {h : HnV} {i : Nat} {p : RgV × Bool} {want : HnV} {need : Int} {r : RsV}
theorem ia_rgs {b n c : Nat} (h1 : i < n) : pureRun Tryz.prog (Instr.indexAt 105 (.slice (some ⟨b, 0, none⟩) n c) (.int .i64 i)) = some (.pointer (some ⟨b, i * 8, none⟩)) := by
  have := ia_105 (b := b) (p := 0) (n := n) (c := c) (j := .i64) (i := (i : Int)) (by omega) (by omega)
  rw [Int.toNat_natCast, Nat.zero_add] at this
  exact this
theorem set_rr {y z : RgV × Bool} (x : RfV) : { ({ x with rgs := x.rgs.set i y } : RfV) with rgs := ({ x with rgs := x.rgs.set i y } : RfV).rgs.set i z } = { x with rgs := x.rgs.set i z } := by simp [List.set_set]
theorem at_rr {y : RgV × Bool} (hi : x.rgs[i]? = some p) : ({ x with rgs := x.rgs.set i y } : RfV).rgs[i]? = some y := by
  show (x.rgs.set i y)[i]? = _
  rw [List.getElem?_set, if_pos rfl, if_pos (List.getElem?_eq_some_iff.1 hi).1]
set_option maxHeartbeats 2000000 in
theorem l_rAlloc1 (U : UpdP F0 F W w) (I : RfI w g x F) (hi : x.rgs[i]? = some p) (hol : p.1.objs.length ≤ 1000000) (h11 : hp w g11 = some (.cells (hnC want).toArray 25)) :
    P55_1 (.pointer (some ⟨g, 0, none⟩)) (.int .i64 i) (.pointer (some ⟨g11, 0, none⟩)) w fun v w' => v = .bool true ∧ ∃ F', RfI w' g { x with rgs := x.rgs.set i ({ p.1 with objs := p.1.objs ++ [want] }, p.2) } F' ∧ UpdP F0 F' W w' := by
  apply L55_1_ok
  have cd : Chg [] w w.drew := (Chg.refl _ _).drew
  have hil := (List.getElem?_eq_some_iff.1 hi).1
  obtain ⟨b, c, v, Fk, hl, hbg, _, _, hld, hv, hput⟩ := (I.keep cd).rgPut hi (k := 7) (by omega) (P := objsT p.1.objs) rfl
  have hl' : ldC (hp w g) (0 + 9) = some (.slice (some ⟨b, 0, none⟩) x.rgs.length c) := hl
  have hld' : ldC (hp w b) (i * 8 + 7) = some v := hld
  have ia := ia_rgs (b := b) (c := c) hil
  have h11d : hp w.drew g11 = some (.cells (hnC want).toArray 25) := h11
  obtain ⟨hown, _⟩ := flat_own hv
  have fin : ∀ (x' : Value) (w2 : World), w2.ownsRow 0 25 5 x' (p.1.objs.length + 1) (p.1.objs.flatMap hnC ++ hnC want) → w.drew.grownBy w2 v.ownBlock → NewB w.drew v x' →
      ldC (hp w2 g) (0 + 9) = some (.slice (some ⟨b, 0, none⟩) x.rgs.length c) ∧ effu Tryz.prog (Instr.storeAt 44 (.pointer (some ⟨b, i * 8 + 7, none⟩)) x') w2 fun w' => P55_3 w' fun v w' => v = .bool true ∧ ∃ F', RfI w' g { x with rgs := x.rgs.set i ({ p.1 with objs := p.1.objs ++ [want] }, p.2) } F' ∧ UpdP F0 F' W w' := by
    intro x' w2 ho hg hnb
    obtain ⟨F2, hr2, hu2⟩ := flat_grown (vs := hnC want) hv ho hg hnb
    have hr2' : objsT (p.1.objs ++ [want]) w2 F2 x' := by
      rw [objsT, List.length_append]
      have e : (p.1.objs ++ [want]).flatMap hnC = p.1.objs.flatMap hnC ++ hnC want := by simp
      rw [e]; exact hr2
    obtain ⟨ok, s1, s2, hgg, F3, t1, t2⟩ := hput w2 F2 (objsT (p.1.objs ++ [want])) x' ({ p.1 with objs := p.1.objs ++ [want] }, p.2) hu2 (aS _) hr2' rfl
    refine ⟨by rw [hgg]; exact hl, ?_⟩
    rw [st_44 (o := i * 8 + 7) s1 s2 ok]
    apply L55_3_ok
    exact ⟨rfl, F3, t1, U.trans (t2.pre cd)⟩
  simp -implicitDefEqProofs only [L55_1, zS, aJ, fa_130_7, aM, ld_44, hl', ia, hld', ld_hn h11d]
  repeat' (with_reducible apply And.intro)
  all_goals
    refine ps_44 (fun u hu => by simp only [List.mem_cons, List.not_mem_nil, or_false] at hu; rcases hu with rfl | rfl | rfl | rfl | rfl <;> rfl) hown (by omega) (Nat.zero_le _) fun x' w2 ho hg hnb => ?_
    obtain ⟨f1, f2⟩ := fin x' w2 ho hg hnb
    try simp -implicitDefEqProofs only [zS, aM, f1, ia, fa_130_7]
    exact f2
set_option maxHeartbeats 2000000 in
theorem l_rAlloc4 (U : UpdP F0 F W w) (I : RfI w g x F) (hi : x.rgs[i]? = some p) (hol : p.1.objs.length ≤ 1000000) (h11 : hp w g11 = some (.cells (hnC want).toArray 25)) (n11 : ¬ F g11) :
    P55_4 (.pointer (some ⟨g, 0, none⟩)) (.int .i64 i) (.pointer (some ⟨g11, 0, none⟩)) (.int .i64 need) w fun v w' => v = .bool true ∧ ∃ F', RfI w' g { x with rgs := x.rgs.set i ({ p.1 with off := afterV x.c.2.2.1 need, objs := p.1.objs ++ [want] }, p.2) } F' ∧ UpdP F0 F' W w' := by
  apply L55_4_ok
  have cd : Chg [] w w.drew := (Chg.refl _ _).drew
  have hil := (List.getElem?_eq_some_iff.1 hi).1
  obtain ⟨b, c, v, Fk, hl, hbg, _, _, hld, hv, hput⟩ := (I.keep cd).rgPut hi (k := 3) (by omega) (P := iT p.1.off) rfl
  have hl' : ldC (hp w g) (0 + 9) = some (.slice (some ⟨b, 0, none⟩) x.rgs.length c) := hl
  have ia := ia_rgs (b := b) (c := c) hil
  obtain ⟨_, _, _, _, _, R⟩ := I.rd
  have hc2 : ldC (hp w g) (0 + 0 + 2) = some (.int .i64 x.c.2.2.1) := R.c 2 (by omega)
  obtain ⟨ok, _, _, _, F1, t1, t2⟩ := hput w.drew none' (iT (afterV x.c.2.2.1 need)) (.int .i64 (afterV x.c.2.2.1 need)) ({ p.1 with off := afterV x.c.2.2.1 need }, p.2) (UpdP.none hv.2 _) (bj _ _) ⟨rfl, fun _ h => h⟩ rfl
  have k11 := t2.keep (show hp w.drew g11 = _ from h11) n11
  have fin := l_rAlloc1 (want := want) (U.trans (t2.pre cd)) t1 (at_rr hi) hol k11.1
  rw [set_rr] at fin
  simp -implicitDefEqProofs only [L55_4, zS, aJ, fa_108_0, fa_33_2, aM, af, hl', hc2]
  repeat' (with_reducible apply And.intro)
  all_goals
    refine (c_rAfter x.c.2.2.1 need w.drew).step ?_
    simp -implicitDefEqProofs only [zS, aM, hl', ia, fa_130_3]
    rw [st_3 (o := i * 8 + 3) rfl rfl ok]
    exact fin
set_option maxHeartbeats 4000000 in
theorem l_rAlloc2 (U : UpdP F0 F W w) (I : RfI w g x F) (hi : x.rgs[i]? = some p) (hol : p.1.objs.length ≤ 1000000) (hwl : p.1.words.length ≤ 1000000) (w0 : 0 ≤ x.c.2.2.1) (w1 : x.c.2.2.1 ≤ 1024) (h11 : hp w g11 = some (.cells (hnC want).toArray 25)) (n11 : ¬ F g11) :
    P55_2 (.pointer (some ⟨g, 0, none⟩)) (.int .i64 i) (.pointer (some ⟨g11, 0, none⟩)) (.int .i64 need) w fun v w' => v = .bool true ∧ ∃ F', RfI w' g { x with rgs := x.rgs.set i ({ p.1 with words := p.1.words ++ [List.replicate x.c.2.2.1.toNat 0], off := afterV x.c.2.2.1 need, objs := p.1.objs ++ [want] }, p.2) } F' ∧ UpdP F0 F' W w' := by
  apply L55_2_ok
  have cd : Chg [] w w.drew := (Chg.refl _ _).drew
  have hil := (List.getElem?_eq_some_iff.1 hi).1
  obtain ⟨b, c, v5, Fk5, hl, hbg, _, hsub5, hld, hv5, hput5⟩ := (I.keep cd).rgPut hi (k := 6) (by omega) (P := wordsT p.1.words) rfl
  have hl' : ldC (hp w g) (0 + 9) = some (.slice (some ⟨b, 0, none⟩) x.rgs.length c) := hl
  have hld' : ldC (hp w b) (i * 8 + 6) = some v5 := hld
  have ia := ia_rgs (b := b) (c := c) hil
  obtain ⟨_, _, _, _, _, R⟩ := I.rd
  obtain ⟨iu, hiu, hzu, hsu, hbu⟩ := inf_26
  have hc2 : ldC (hp w g) (0 + 0 + 2) = some (.int .i64 ((x.c.2.2.1.toNat : Nat) : Int)) := by
    rw [show ((x.c.2.2.1.toNat : Nat) : Int) = x.c.2.2.1 by omega]; exact R.c 2 (by omega)
  generalize hn : x.c.2.2.1.toNat = n at *
  have hmc : madeCells (Value.int .u64 0).cells (n * iu.size) = (u64s (List.replicate n 0)).toArray := by
    apply Array.toList_inj.1
    rw [hsu, Nat.mul_one]
    have := toList_madeCells_one (Value.int .u64 0) n
    rw [u64s, List.map_replicate]
    exact this
  have ob := own_alloc_u64s (w := w.drew) n (by unfold maxLen; omega)
  have n3 : w.drew.heap.size = w.heap.size := rfl
  simp -implicitDefEqProofs only [L55_2, zS, aJ, fa_108_0, fa_33_2, fa_130_6, aM, ld_86, af, hl', ia, hld', hc2, effv_make (P := Tryz.prog) (kl := .i64) (kc := .i64) (n := n) Tryz.underlying93 hiu hzu (by rw [hsu]; omega) (by rw [hbu]; omega) (by omega), hmc]
  generalize hwA : w.drew.alloc (.cells (u64s (List.replicate n 0)).toArray 26) = wA at *
  have cA : Chg [] w.drew wA := by rw [← hwA]; exact (Chg.refl _ _).alloc _
  have sA : wA.heap.size = w.heap.size + 1 := by rw [← hwA, ae, n3]
  have hv5A := (good_words p.1.words).frame hv5 (ChgP.of0 cA none') (fun _ _ h => h)
  obtain ⟨xs, Fs, q1, q2, q3, q4⟩ := hv5A
  have hlA := aV cA hl
  have fin : ∀ (x2 : Value) (w4 : World), w4.ownsRow 0 93 1 x2 (p.1.words.length + 1) (xs ++ [.slice (some ⟨w.drew.heap.size, 0, none⟩) n n]) → wA.grownBy w4 v5.ownBlock → NewB wA v5 x2 →
      ldC (hp w4 g) (0 + 9) = some (.slice (some ⟨b, 0, none⟩) x.rgs.length c) ∧ effu Tryz.prog (Instr.storeAt 86 (.pointer (some ⟨b, i * 8 + 6, none⟩)) x2) w4 fun w' => P55_4 (.pointer (some ⟨g, 0, none⟩)) (.int .i64 i) (.pointer (some ⟨g11, 0, none⟩)) (.int .i64 need) w' fun v w' => v = .bool true ∧ ∃ F', RfI w' g { x with rgs := x.rgs.set i ({ p.1 with words := p.1.words ++ [List.replicate n 0], off := afterV x.c.2.2.1 need, objs := p.1.objs ++ [want] }, p.2) } F' ∧ UpdP F0 F' W w' := by
    intro x2 w4 ho2 hg2 hnb2
    have hy : Parts wA [wordT (List.replicate n 0)] [.slice (some ⟨w.drew.heap.size, 0, none⟩) n n] (fun _ => fun b => b = w.drew.heap.size) := ⟨rfl, fun k P v hP hv => by
      have hk := (List.getElem?_eq_some_iff.1 hP).1
      have : k = 0 := by simp at hk; omega
      subst this
      cases hP; cases hv
      exact ob, fun j k hj hk hjk => by simp at hj hk; omega⟩
    have hF5 : ∀ k, Fk5 k → k < w.heap.size := fun k hk => isAt.lt (I.keep cd) (bc x) k (hsub5 k hk)
    obtain ⟨F5, g1, g2, _⟩ := isRow.grow (G := fun b => b = w.drew.heap.size) (m := 1) ⟨xs, Fs, q1, q2, q3, q4⟩ (fun P hP => by obtain ⟨l, _, rfl⟩ := List.mem_map.1 hP; exact good_word l) (fun P hP => by rw [List.mem_singleton.1 hP]; exact good_word _) hy
      (fun b => ⟨fun h => ⟨0, by simp, h⟩, fun ⟨_, _, h⟩ => h⟩) (fun k hk hk2 => by have := hF5 k hk; omega) (fun xs' h' => by rw [own_unique h' q1]; exact ho2) hg2 hnb2
    have hu5 : UpdP Fk5 F5 w.drew w4 := by
      refine ⟨⟨g2.chg.os.trans cA.os, g2.chg.tape.trans cA.tape, g2.chg.output.trans cA.output, by have := g2.chg.size; omega, fun k hk hn => ?_⟩, fun k hk => ?_⟩
      · rw [g2.chg.block k (by omega) (fun h => by rcases h with h | h; exact hn h; omega)]
        exact cA.block k hk (by simp)
      · rcases g2.sub k hk with h | h
        · rcases h with h | h
          · exact .inl h
          · exact .inr (by omega)
        · exact .inr (by omega)
    have g1' : wordsT (p.1.words ++ [List.replicate n 0]) w4 F5 x2 := by
      rw [wordsT, List.length_append, List.map_append]; exact g1
    obtain ⟨ok5, s51, s52, hgg, F6, t51, t52⟩ := hput5 w4 F5 (wordsT (p.1.words ++ [List.replicate n 0])) x2 ({ p.1 with words := p.1.words ++ [List.replicate n 0] }, p.2) hu5 (good_words _) g1' rfl
    refine ⟨by rw [hgg]; exact hl, ?_⟩
    rw [st_86 (o := i * 8 + 6) s51 s52 ok5]
    have k11 := t52.keep (show hp w.drew g11 = _ from h11) n11
    have f := l_rAlloc4 (want := want) (need := need) (U.trans (t52.pre cd)) t51 (at_rr hi) hol k11.1 k11.2
    rw [set_rr] at f
    exact f
  repeat' (with_reducible apply And.intro)
  all_goals
    refine ps_86 (fun u hu => by simp only [List.mem_cons, List.not_mem_nil, or_false] at hu; rcases hu with rfl; rfl) q1 (by omega) (Nat.zero_le _) fun x2 w4 ho2 hg2 hnb2 => ?_
    obtain ⟨f1, f2⟩ := fin x2 w4 ho2 hg2 hnb2
    try simp -implicitDefEqProofs only [zS, aM, f1, ia, fa_130_6]
    exact f2
end
end Go.Proofs.YtgamnncehjcdiaaGreat

namespace Go.Proofs.YtgamnncehjcdiaaGreat
open Go Ev Go.RowKit

section
variable {W w : World} {g g7 g11 : Nat} {m : MdV} {F F0 : Fp} {K : Nat} {o : OpV} {h : HnV} {i : Nat} {rg : RgV} {want : HnV} {need : Int} {r : RsV} {nn : Nat}
def badV (m : MdV) (ch : Int) : Prop := ch < 0 ∨ m.c.2.1 ≤ ch ∨ takenV m ch = true
instance (m : MdV) (ch : Int) : Decidable (badV m ch) := by unfold badV; infer_instance
set_option maxHeartbeats 4000000 in
theorem l_rAlloc0 (U : UpdP F0 F W w) (I : RfI w g (toRf m) F) (Wm : Wf m K) (hK : K + 1 ≤ 1000000) (hi : m.rgs[i]? = some rg) (h7 : hp w g7 = some (.cells (rsC r).toArray 28)) (h11 : hp w g11 = some (.cells (hnC want).toArray 25)) (n11 : ¬ F g11) :
    P55_0 (.pointer (some ⟨g, 0, none⟩)) (.pointer (some ⟨g7, 0, none⟩)) (.int .i64 i) (.bool (rfitsV rg m.c.2.2.1 need)) (.pointer (some ⟨g11, 0, none⟩)) (.int .i64 need) w fun v w' =>
      v = .bool (if r = (0, want, 0, 0) ∧ (rfitsV rg m.c.2.2.1 need = true ∨ ¬ badV m want.2.2.1) then true else false) ∧ ∃ F', RfI w' g (toRf (if r = (0, want, 0, 0) ∧ (rfitsV rg m.c.2.2.1 need = true ∨ ¬ badV m want.2.2.1) then { m with rgs := m.rgs.set i (growV m.c.2.2.1 need rg want) } else m)) F' ∧ UpdP F0 F' W w' := by
  apply L55_0_ok
  have hbe : be Tryz.prog .neq 28 (.tmp 81) (.tmp 83) (.agg (rsC r).toArray) (.agg (rsC (0, want, 0, 0)).toArray) = some (.bool (!decide (r = (0, want, 0, 0)))) := be_nrs r (0, want, 0, 0)
  have W1 := Wm.w1
  have W2 := Wm.w2
  have R0 := Wm.rg rg (List.mem_of_getElem? hi)
  have hx : (toRf m).rgs[i]? = some (rg, isLv m rg.nm) := by rw [rgs_rf, hi]; rfl
  have hil := (List.getElem?_eq_some_iff.1 hx).1
  have cd : Chg [] w w.drew := (Chg.refl _ _).drew
  have hol : rg.objs.length ≤ 1000000 := Nat.le_trans R0.ol (by omega)
  simp -implicitDefEqProofs only [L55_0, aZ h7, ld_hn h11, bdr_1, hbe, ad]
  by_cases hr : r = (0, want, 0, 0)
  · cases hf : rfitsV rg m.c.2.2.1 need with
    | true =>
      have ct : r = (0, want, 0, 0) ∧ (true = true ∨ ¬ badV m want.2.2.1) := ⟨hr, .inl rfl⟩
      rw [if_pos ct, if_pos ct]
      obtain ⟨f1, f2, f3, f4⟩ := fits_need hf
      obtain ⟨b, c, v, Fk, hl, hbg, _, _, hld, hv, hput⟩ := (I.keep cd).rgPut hx (k := 3) (by omega) (P := iT rg.off) rfl
      rw [hv.1] at hld
      have hl' : ldC (hp w g) (0 + 9) = some (.slice (some ⟨b, 0, none⟩) (toRf m).rgs.length c) := hl
      have hld' : ldC (hp w b) (i * 8 + 3) = some (.int .i64 rg.off) := hld
      have ia := ia_rgs (b := b) (c := c) hil
      obtain ⟨ok, _, _, _, F1, t1, t2⟩ := hput w.drew none' (iT (rg.off + need)) (.int .i64 (rg.off + need)) ({ rg with off := rg.off + need }, isLv m rg.nm) (UpdP.none hv.2 _) (bj _ _) ⟨rfl, fun _ h => h⟩ rfl
      have k11 := t2.keep (show hp w.drew g11 = _ from h11) n11
      have fin := l_rAlloc1 (want := want) (U.trans (t2.pre cd)) t1 (at_rr hx) hol k11.1
      rw [set_rr] at fin
      simp -implicitDefEqProofs only [decide_eq_true hr, zS, aJ, fa_130_3, aM, af, hl', ia, hld', aA, az (n := rg.off + need) (by omega) (by omega)]
      rw [st_3 (o := i * 8 + 3) rfl rfl ok]
      have eg : growV m.c.2.2.1 need rg want = { rg with off := rg.off + need, objs := rg.objs ++ [want] } := by rw [growV, hf]; rfl
      have er := rf_setRg m hi (r' := { rg with off := rg.off + need, objs := rg.objs ++ [want] }) rfl
      rw [eg, er]
      exact fin
    | false =>
      obtain ⟨s, gn, rv, dd, hh, R⟩ := I.rd
      have hc1 : ldC (hp w g) (0 + 0 + 1) = some (.int .i64 m.c.2.1) := R.c 1 (by omega)
      have e2 : (hnC want).toArray[0 + 2]? = some (.int .i64 want.2.2.1) := rfl
      have bad : badV m want.2.2.1 → ¬ (r = (0, want, 0, 0) ∧ (false = true ∨ ¬ badV m want.2.2.1)) := fun hb ⟨_, h⟩ => by
        rcases h with h | h
        · cases h
        · exact h hb
      by_cases n0 : want.2.2.1 < 0
      · have cn := bad (.inl n0)
        simp -implicitDefEqProofs only [decide_eq_true hr, zS, bm, af, h11, e2, n0]
        rw [if_neg cn, if_neg cn]
        exact ⟨by first | rfl | trivial, F, RfI.keep I cd, U.post cd⟩
      by_cases n1 : m.c.2.1 ≤ want.2.2.1
      · have cn := bad (.inr (.inl n1))
        simp -implicitDefEqProofs only [decide_eq_true hr, zS, bm, af, h11, e2, n0, fa_108_0, fa_33_1, hc1, aH, n1, ge_iff_le]
        rw [if_neg cn, if_neg cn]
        exact ⟨by first | rfl | trivial, F, RfI.keep I cd, U.post cd⟩
      simp -implicitDefEqProofs only [decide_eq_true hr, zS, bm, af, h11, e2, n0, fa_108_0, fa_33_1, hc1, aH, n1, ge_iff_le]
      refine (c_rTaken (R.keep cd) (by rw [rf_len]; exact Nat.le_trans Wm.rl (by omega)) (fun p hp => by
        obtain ⟨y, hy, rfl⟩ := List.mem_map.1 hp
        exact Nat.le_trans (Wm.rg y hy).cl (by omega)) want.2.2.1).mono ?_
      rintro _ w5 ⟨rfl, c5⟩
      rw [rf_taken]
      have c05 := cd.trans c5
      have h115 := c05.at h11 (by simp)
      cases ht : takenV m want.2.2.1 with
      | true =>
        have cn := bad (.inr (.inr ht))
        simp -implicitDefEqProofs only [zS]
        rw [if_neg cn, if_neg cn]
        exact ⟨by first | rfl | trivial, F, RfI.keep I c05, U.post c05⟩
      | false =>
        have nb : ¬ badV m want.2.2.1 := by
          rintro (h1 | h1 | h1)
          · exact n0 h1
          · exact n1 h1
          · rw [ht] at h1; cases h1
        have ct : r = (0, want, 0, 0) ∧ (false = true ∨ ¬ badV m want.2.2.1) := ⟨hr, .inr nb⟩
        have cd5 : Chg [] w5 w5.drew := (Chg.refl _ _).drew
        have c0d := c05.trans cd5
        obtain ⟨b, c, v, Fk, hl, hbg, _, hsub, hld, hv, hput⟩ := (RfI.keep I c0d).rgPut hx (k := 5) (by omega) (P := intsT rg.chunks) rfl
        have hl' : ldC (hp w5 g) (0 + 9) = some (.slice (some ⟨b, 0, none⟩) (toRf m).rgs.length c) := hl
        have hld' : ldC (hp w5 b) (i * 8 + 5) = some v := hld
        have ia := ia_rgs (b := b) (c := c) hil
        obtain ⟨hown, _⟩ := flat_own hv
        have hcl := R0.cl
        simp -implicitDefEqProofs only [zS, aJ, fa_130_5, bm, aM, aY, af, hl', ia, hld', h115, e2]
        rw [if_pos ct, if_pos ct]
        have fin : ∀ (x1 : Value) (w2 : World), w2.ownsRow 0 3 1 x1 (rg.chunks.length + 1) (ints rg.chunks ++ [.int .i64 want.2.2.1]) → w5.drew.grownBy w2 v.ownBlock → NewB w5.drew v x1 →
            ldC (hp w2 g) (0 + 9) = some (.slice (some ⟨b, 0, none⟩) (toRf m).rgs.length c) ∧ effu Tryz.prog (Instr.storeAt 22 (.pointer (some ⟨b, i * 8 + 5, none⟩)) x1) w2 fun w' => P55_2 (.pointer (some ⟨g, 0, none⟩)) (.int .i64 i) (.pointer (some ⟨g11, 0, none⟩)) (.int .i64 need) w' fun v w' => v = .bool true ∧ ∃ F', RfI w' g (toRf { m with rgs := m.rgs.set i (growV m.c.2.2.1 need rg want) }) F' ∧ UpdP F0 F' W w' := by
          intro x1 w2 ho hg hnb
          obtain ⟨F2, hr2, hu2⟩ := flat_grown (vs := [Value.int .i64 want.2.2.1]) hv ho hg hnb
          have hr2' : intsT (rg.chunks ++ [want.2.2.1]) w2 F2 x1 := by
            rw [intsT, List.length_append]
            have e : ints (rg.chunks ++ [want.2.2.1]) = ints rg.chunks ++ [Value.int .i64 want.2.2.1] := by simp [ints]
            rw [e]; exact hr2
          obtain ⟨ok, s1, s2, hgg, F3, t1, t2⟩ := hput w2 F2 (intsT (rg.chunks ++ [want.2.2.1])) x1 ({ rg with chunks := rg.chunks ++ [want.2.2.1] }, isLv m rg.nm) hu2 (good_intsT _) hr2' rfl
          refine ⟨by rw [hgg]; exact hl, ?_⟩
          rw [st_22 (o := i * 8 + 5) s1 s2 ok]
          have k11 := t2.keep (show hp w5.drew g11 = _ from h115) n11
          have f := l_rAlloc2 (want := want) (need := need) (U.trans (t2.pre c0d)) t1 (at_rr hx) hol (by have := R0.wl; simp only; omega) (by show 0 ≤ m.c.2.2.1; omega) W2 k11.1 k11.2
          rw [set_rr] at f
          have eg : growV m.c.2.2.1 need rg want = { rg with chunks := rg.chunks ++ [want.2.2.1], words := rg.words ++ [List.replicate m.c.2.2.1.toNat 0], off := afterV m.c.2.2.1 need, objs := rg.objs ++ [want] } := by rw [growV, hf]; rfl
          have er := rf_setRg m hi (r' := { rg with chunks := rg.chunks ++ [want.2.2.1], words := rg.words ++ [List.replicate m.c.2.2.1.toNat 0], off := afterV m.c.2.2.1 need, objs := rg.objs ++ [want] }) rfl
          rw [eg, er]
          exact f
        repeat' (with_reducible apply And.intro)
        all_goals
          refine ps_22 (fun u hu => by simp only [List.mem_cons, List.not_mem_nil, or_false] at hu; rcases hu with rfl; rfl) hown (by omega) (Nat.zero_le _) fun x1 w2 ho hg hnb => ?_
          obtain ⟨f1, f2⟩ := fin x1 w2 ho hg hnb
          try simp -implicitDefEqProofs only [zS, aM, f1, ia, fa_130_5]
          exact f2
  · have cn : ∀ {P : Prop}, ¬ (r = (0, want, 0, 0) ∧ P) := fun h => hr h.1
    simp -implicitDefEqProofs only [decide_eq_false hr, zS]
    rw [if_neg cn, if_neg cn]
    exact ⟨by first | rfl | trivial, F, I, U⟩
set_option maxHeartbeats 4000000 in
theorem c_rAlloc (I : RfI w g (toRf m) F) (Wm : Wf m K) (hK : K + 1 ≤ 1000000) (o : OpV) (h : HnV) (r : RsV) (hf : findR m.rgs (nmOf h) = some i) :
    CallR Tryz.prog 55 [.pointer (some ⟨g, 0, none⟩), .agg (opC o).toArray, .agg (hnC h).toArray, .agg (rsC r).toArray] w fun v w' => v = .bool (givesV m o.2.2.2.1 h r).1 ∧ ∃ F', RfI w' g (toRf (givesV m o.2.2.2.1 h r).2) F' ∧ UpdP F F' w w' := by
  apply F55_ok
  obtain ⟨x, hi, hnm⟩ := findR_at hf
  have R0 := Wm.rg x (List.mem_of_getElem? hi)
  have W1 := Wm.w1
  have W2 := Wm.w2
  have hx : (toRf m).rgs[i]? = some (x, isLv m x.nm) := by rw [rgs_rf, hi]; rfl
  have hil := (List.getElem?_eq_some_iff.1 hx).1
  have hlen : (toRf m).rgs.length ≤ 1000000 := by rw [rf_len]; exact Nat.le_trans Wm.rl (by omega)
  have gv : givesV m o.2.2.2.1 h r = if rfitsV x m.c.2.2.1 (roundV x.cls o.2.2.2.1) = false ∧ r = codeR 6 then (true, m)
      else if rfitsV x m.c.2.2.1 (roundV x.cls o.2.2.2.1) = false ∧ (r.2.1.2.2.1 < 0 ∨ m.c.2.1 ≤ r.2.1.2.2.1 ∨ takenV m r.2.1.2.2.1 = true) then (false, m)
      else if r = (0, wantV m.c.2.2.1 (roundV x.cls o.2.2.2.1) o.2.2.2.1 x h r.2.1.2.2.1, 0, 0) then (true, { m with rgs := m.rgs.set i (growV m.c.2.2.1 (roundV x.cls o.2.2.2.1) x (wantV m.c.2.2.1 (roundV x.cls o.2.2.2.1) o.2.2.2.1 x h r.2.1.2.2.1)) })
      else (false, m) := by
    rw [givesV, hf]; simp only [hi]
  simp -implicitDefEqProofs only [F55, aE, aB, ae]
  generalize hw : ((w.alloc (.cells (opC o).toArray 39)).alloc _).alloc _ = w1
  have c1 : Chg [] w w1 := by rw [← hw]; exact (((Chg.refl _ _).alloc _).alloc _).alloc _
  have b5 : hp w1 w.heap.size = some (.cells (opC o).toArray 39) := by rw [← hw, ac, ae, ae, if_neg (by omega), ac, ae, if_neg (by omega), ac, if_pos rfl]
  have b6 : hp w1 (w.heap.size + 1) = some (.cells (hnC h).toArray 25) := by rw [← hw, ac, ae, ae, if_neg (by omega), ac, ae, if_pos rfl]
  have b7 : hp w1 (w.heap.size + 1 + 1) = some (.cells (rsC r).toArray 28) := by rw [← hw, ac, ae, ae, if_pos rfl]
  clear hw
  obtain ⟨s, gn, rv, dd, hh, R⟩ := (I.keep c1).rd
  have e0 : (hnC h).toArray[0 + 0]? = some (.int .i64 h.1) := rfl
  have e1 : (hnC h).toArray[0 + 1]? = some (.int .i64 h.2.1) := rfl
  simp -implicitDefEqProofs only [zS, ba, fa_25_1, af, b6, e0, e1]
  refine (c_rFind R (nmOf h) hlen).step ?_
  rw [findX_rf, hf]
  simp -implicitDefEqProofs only [ixR, zS, aN, af, b5, op_3]
  refine (c_rFits R hx hlen o.2.2.2.1).mono ?_
  rintro _ w2 ⟨rfl, c2⟩
  have c02 := c1.trans c2
  have d5 := c2.at b5 (by simp)
  have d6 := c2.at b6 (by simp)
  have d7 := c2.at b7 (by simp)
  have hbe : be Tryz.prog .eql 28 (.tmp 24) (.tmp 25) (.agg (rsC r).toArray) (.agg (rsC (codeR 6)).toArray) = some (.bool (decide (r = codeR 6))) := be_rs r (codeR 6)
  have efit : rfitsV (x, isLv m x.nm).1 (toRf m).c.2.2.1 (roundV (x, isLv m x.nm).1.cls o.2.2.2.1) = rfitsV x m.c.2.2.1 (roundV x.cls o.2.2.2.1) := rfl
  rw [efit]
  simp -implicitDefEqProofs only [aZ d7, bdr_0, hbe, ad]
  by_cases r6 : r = codeR 6
  · simp -implicitDefEqProofs only [decide_eq_true r6, zS]
    cases hfit : rfitsV x m.c.2.2.1 (roundV x.cls o.2.2.2.1) with
    | true =>
      rw [hfit, if_neg (by simp), if_neg (by simp), if_neg (by rw [r6]; intro e; have := congrArg (fun q : RsV => q.1) e; simp [codeR] at this)] at gv
      rw [gv]
      exact ⟨rfl, F, I.keep c02, UpdP.of0 c02⟩
    | false =>
      rw [if_pos ⟨hfit, r6⟩] at gv
      rw [gv]
      exact ⟨rfl, F, I.keep c02, UpdP.of0 c02⟩
  rw [if_neg (fun h => r6 h.2)] at gv
  have bhn : pureRun Tryz.prog (Instr.build 25 #[(0, .int .i64 h.1), (1, .int .i64 h.2.1), (2, .int .i64 r.2.1.2.2.1), (4, .int .i64 o.2.2.2.1)]) = some (.agg (hnC (h.1, h.2.1, r.2.1.2.2.1, 0, o.2.2.2.1)).toArray) := bd_25_0_1_2_4
  simp -implicitDefEqProofs only [decide_eq_false r6, zS, ba, fa_25_1, bm, fa_28_1, aN, af, d5, d6, d7, e0, e1, rs_3, op_3, bhn, al_25]
  rw [st_hn (c := (hnC noH).toArray) (e := 25) (by rw [ac, if_pos rfl]; rfl) rfl]
  generalize hw3 : put (w2.alloc _) w2.heap.size _ _ = w3
  have c3 : Chg [] w2 w3 := by rw [← hw3]; exact ((Chg.refl _ _).alloc _).put (.inr (Nat.le_refl _)) _ _
  have a11 : hp w3 w2.heap.size = some (.cells (hnC (h.1, h.2.1, r.2.1.2.2.1, 0, o.2.2.2.1)).toArray 25) := by rw [← hw3]; exact ap (by simp) _ _
  clear hw3
  have c03 := c02.trans c3
  have f5 := c3.at d5 (by simp)
  have f7 := c3.at d7 (by simp)
  have s2 := c02.size
  have nF : ∀ {y}, w.heap.size ≤ y → ¬ F y := fun hy => I.notF hy
  obtain ⟨b, c, hb9, ⟨cv, wv, ov, Q⟩, _⟩ := rf_flag (I.keep c03) hi
  have ia := ia_rgs (b := b) (c := c) hil
  have cd3 : Chg [] w3 w3.drew := (Chg.refl _ _).drew
  simp -implicitDefEqProofs only [zS, aJ, fa_130_2, aN, aM, af, hb9, ia, Q.c2, f5, op_3]
  refine (c_rRound x.cls o.2.2.2.1 w3.drew).step ?_
  have tail : ∀ (want : HnV) w6, Chg [] w2 w6 → hp w6 w2.heap.size = some (.cells (hnC want).toArray 25) →
      P55_0 (.pointer (some ⟨g, 0, none⟩)) (.pointer (some ⟨w.heap.size + 1 + 1, 0, none⟩)) (.int .i64 i) (.bool (rfitsV x m.c.2.2.1 (roundV x.cls o.2.2.2.1))) (.pointer (some ⟨w2.heap.size, 0, none⟩)) (.int .i64 (roundV x.cls o.2.2.2.1)) w6 fun v w' =>
        v = .bool (if r = (0, want, 0, 0) ∧ (rfitsV x m.c.2.2.1 (roundV x.cls o.2.2.2.1) = true ∨ ¬ badV m want.2.2.1) then true else false) ∧ ∃ F', RfI w' g (toRf (if r = (0, want, 0, 0) ∧ (rfitsV x m.c.2.2.1 (roundV x.cls o.2.2.2.1) = true ∨ ¬ badV m want.2.2.1) then { m with rgs := m.rgs.set i (growV m.c.2.2.1 (roundV x.cls o.2.2.2.1) x want) } else m)) F' ∧ UpdP F F' w w' := by
    intro want w6 c6 h11
    have c06 := c02.trans c6
    exact l_rAlloc0 (UpdP.of0 c06) (I.keep c06) Wm hK hi (c6.at d7 (by simp)) h11 (nF (by omega))
  cases hfit : rfitsV x m.c.2.2.1 (roundV x.cls o.2.2.2.1) with
  | true =>
    rw [hfit] at tail
    obtain ⟨f1, f2, f3, f4⟩ := fits_need hfit
    have ew : wantV m.c.2.2.1 (roundV x.cls o.2.2.2.1) o.2.2.2.1 x h r.2.1.2.2.1 = (h.1, h.2.1, newV x.chunks, x.off, o.2.2.2.1) := by rw [wantV, hfit]; rfl
    rw [hfit, ew] at gv
    simp only [Bool.true_eq_false, false_and, if_false] at gv
    have tl : ∀ w6, Chg [] w2 w6 → hp w6 w2.heap.size = some (.cells (hnC (h.1, h.2.1, newV x.chunks, x.off, o.2.2.2.1)).toArray 25) →
        P55_0 (.pointer (some ⟨g, 0, none⟩)) (.pointer (some ⟨w.heap.size + 1 + 1, 0, none⟩)) (.int .i64 i) (.bool true) (.pointer (some ⟨w2.heap.size, 0, none⟩)) (.int .i64 (roundV x.cls o.2.2.2.1)) w6 fun v w' => v = .bool (givesV m o.2.2.2.1 h r).1 ∧ ∃ F', RfI w' g (toRf (givesV m o.2.2.2.1 h r).2) F' ∧ UpdP F F' w w' := by
      intro w6 c6 h11
      have t := tail _ w6 c6 h11
      rw [gv]
      by_cases hr : r = (0, (h.1, h.2.1, newV x.chunks, x.off, o.2.2.2.1), 0, 0)
      · have ct : r = (0, (h.1, h.2.1, newV x.chunks, x.off, o.2.2.2.1), 0, 0) ∧ (true = true ∨ ¬ badV m (newV x.chunks)) := ⟨hr, .inl rfl⟩
        rw [if_pos ct, if_pos ct] at t; rw [if_pos hr]; exact t
      · have cn : ¬ (r = (0, (h.1, h.2.1, newV x.chunks, x.off, o.2.2.2.1), 0, 0) ∧ (true = true ∨ ¬ badV m (newV x.chunks))) := fun h => hr h.1
        rw [if_neg cn, if_neg cn] at t; rw [if_neg hr]; exact t
    have st2 : ∀ w5 L, hp w5 w2.heap.size = some (.cells (hnC (h.1, h.2.1, r.2.1.2.2.1, 0, o.2.2.2.1)).toArray 25) → effu Tryz.prog (Instr.storeAt 3 (.pointer (some ⟨w2.heap.size, 0 + 2, none⟩)) (.int .i64 (newV x.chunks))) w5 L = L (put w5 w2.heap.size (hnC (h.1, h.2.1, newV x.chunks, 0, o.2.2.2.1)).toArray 25) := by
      intro w5 L h5
      rw [st_3 (o := 0 + 2) rfl rfl (by rw [h5]; rfl), h5]; rfl
    have st3 : ∀ w5 L, hp w5 w2.heap.size = some (.cells (hnC (h.1, h.2.1, newV x.chunks, 0, o.2.2.2.1)).toArray 25) → effu Tryz.prog (Instr.storeAt 3 (.pointer (some ⟨w2.heap.size, 0 + 3, none⟩)) (.int .i64 x.off)) w5 L = L (put w5 w2.heap.size (hnC (h.1, h.2.1, newV x.chunks, x.off, o.2.2.2.1)).toArray 25) := by
      intro w5 L h5
      rw [st_3 (o := 0 + 3) rfl rfl (by rw [h5]; rfl), h5]; rfl
    have Qd : ∀ w5, Chg [] w2 w5 → ∃ A cc, ldC (hp w5 g) (0 + 9) = some (.slice (some ⟨b, 0, none⟩) (toRf m).rgs.length c) ∧ ldC (hp w5 b) (i * 8 + 3) = some (.int .i64 x.off) ∧ ldC (hp w5 b) (i * 8 + 5) = some (.slice A x.chunks.length cc) ∧ RdI .i64 w5 A x.chunks := by
      intro w5 c5
      obtain ⟨b', c', hb', ⟨cv', wv', ov', Q'⟩, _⟩ := rf_flag (I.keep (c02.trans c5)) hi
      obtain ⟨b0, c0, hb0, _, _⟩ := rf_flag (I.keep c02) hi
      have e3 := aV c3 hb0
      rw [hb9] at e3
      cases e3
      rw [aV c5 hb0] at hb'
      cases hb'
      obtain ⟨A, cc, rfl, hRc⟩ := ints_sh Q'.cT
      exact ⟨A, cc, aV c5 hb0, Q'.c3, Q'.c5, hRc⟩
    obtain ⟨A, cc, z1, z2, z3, hRc⟩ := Qd w3.drew (c3.trans cd3)
    have z1' : ldC (hp w3 g) (0 + 9) = some (.slice (some ⟨b, 0, none⟩) (toRf m).rgs.length c) := z1
    have z2' : ldC (hp w3 b) (i * 8 + 3) = some (.int .i64 x.off) := z2
    have z3' : ldC (hp w3 b) (i * 8 + 5) = some (.slice A x.chunks.length cc) := z3
    have hlast : x.chunks[x.chunks.length - 1]? = some (newV x.chunks) := by
      rw [newV, if_neg (by omega), List.getD_eq_getElem?_getD, List.getElem?_eq_getElem (show x.chunks.length - 1 < x.chunks.length by omega)]; rfl
    obtain ⟨q, q1, q2⟩ := int_at (c := cc) hRc hlast
    have hlm : (x.chunks.length : Int) - 1 = ((x.chunks.length - 1 : Nat) : Int) := by omega
    have hcl := R0.cl
    have T : ∀ w5, Chg [] w2 w5 → hp w5 w2.heap.size = some (.cells (hnC (h.1, h.2.1, r.2.1.2.2.1, 0, o.2.2.2.1)).toArray 25) →
        hp (put w5 w2.heap.size (hnC (h.1, h.2.1, newV x.chunks, 0, o.2.2.2.1)).toArray 25) w2.heap.size = some (.cells (hnC (h.1, h.2.1, newV x.chunks, 0, o.2.2.2.1)).toArray 25) ∧
        ldC (hp (put w5 w2.heap.size (hnC (h.1, h.2.1, newV x.chunks, 0, o.2.2.2.1)).toArray 25) g) (0 + 9) = some (.slice (some ⟨b, 0, none⟩) (toRf m).rgs.length c) ∧
        ldC (hp (put w5 w2.heap.size (hnC (h.1, h.2.1, newV x.chunks, 0, o.2.2.2.1)).toArray 25) b) (i * 8 + 3) = some (.int .i64 x.off) ∧
        P55_0 (.pointer (some ⟨g, 0, none⟩)) (.pointer (some ⟨w.heap.size + 1 + 1, 0, none⟩)) (.int .i64 i) (.bool true) (.pointer (some ⟨w2.heap.size, 0, none⟩)) (.int .i64 (roundV x.cls o.2.2.2.1)) (put (put w5 w2.heap.size (hnC (h.1, h.2.1, newV x.chunks, 0, o.2.2.2.1)).toArray 25) w2.heap.size (hnC (h.1, h.2.1, newV x.chunks, x.off, o.2.2.2.1)).toArray 25) fun v w' => v = .bool (givesV m o.2.2.2.1 h r).1 ∧ ∃ F', RfI w' g (toRf (givesV m o.2.2.2.1 h r).2) F' ∧ UpdP F F' w w' := by
      intro w5 c5 h5
      have h6 : hp (put w5 w2.heap.size (hnC (h.1, h.2.1, newV x.chunks, 0, o.2.2.2.1)).toArray 25) w2.heap.size = _ := ap (av h5) _ _
      have c26 : Chg [] w2 (put w5 w2.heap.size (hnC (h.1, h.2.1, newV x.chunks, 0, o.2.2.2.1)).toArray 25) := c5.put (.inr (Nat.le_refl _)) _ _
      obtain ⟨A6, cc6, y1, y2, _, _⟩ := Qd _ c26
      exact ⟨h6, y1, y2, tl _ (c26.put (.inr (Nat.le_refl _)) _ _) (ap (av h6) (hnC (h.1, h.2.1, newV x.chunks, x.off, o.2.2.2.1)).toArray 25)⟩
    have a11d : hp w3.drew w2.heap.size = some (.cells (hnC (h.1, h.2.1, r.2.1.2.2.1, 0, o.2.2.2.1)).toArray 25) := a11
    have a11e : hp w3.drew.drew w2.heap.size = some (.cells (hnC (h.1, h.2.1, r.2.1.2.2.1, 0, o.2.2.2.1)).toArray 25) := a11
    obtain ⟨h6, y1, y2, t⟩ := T w3.drew (c3.trans cd3) a11d
    obtain ⟨h6e, y1e, y2e, te⟩ := T w3.drew.drew (c3.trans cd3).drew a11e
    have z1e : ldC (hp w3.drew.drew g) (0 + 9) = some (.slice (some ⟨b, 0, none⟩) (toRf m).rgs.length c) := z1
    have z2e : ldC (hp w3.drew.drew b) (i * 8 + 3) = some (.int .i64 x.off) := z2
    have z3e : ldC (hp w3.drew.drew b) (i * 8 + 5) = some (.slice A x.chunks.length cc) := z3
    have q2' : ldv Tryz.prog 3 (.pointer (some q)) w3.drew = some (.int .i64 (newV x.chunks)) := q2
    have q2e : ldv Tryz.prog 3 (.pointer (some q)) w3.drew.drew = some (.int .i64 (newV x.chunks)) := q2
    simp -implicitDefEqProofs only [zS, aJ, fa_130_3, fa_130_5, bm, fa_25_3, aM, aY, af, z1', z2', z3', z1e, z2e, z3e, ia, len_22, bp_sub, hlm, az (n := ((x.chunks.length - 1 : Nat) : Int)) (by omega) (by omega), q1, q2', q2e]
    repeat' (with_reducible apply And.intro)
    all_goals first
      | (rw [st2 _ _ a11d]
         try simp -implicitDefEqProofs only [zS, aJ, fa_130_3, aM, af, y1, y2, ia]
         rw [st3 _ _ h6]
         exact t)
      | (rw [st2 _ _ a11e]
         try simp -implicitDefEqProofs only [zS, aJ, fa_130_3, aM, af, y1e, y2e, ia]
         rw [st3 _ _ h6e]
         exact te)
  | false =>
    rw [hfit] at tail
    have ew : wantV m.c.2.2.1 (roundV x.cls o.2.2.2.1) o.2.2.2.1 x h r.2.1.2.2.1 = (h.1, h.2.1, r.2.1.2.2.1, 0, o.2.2.2.1) := by rw [wantV, hfit]; rfl
    rw [hfit, ew] at gv
    simp only [true_and] at gv
    have t := tail _ w3.drew (c3.trans cd3) (show hp w3.drew w2.heap.size = _ from a11)
    simp -implicitDefEqProofs only [zS]
    rw [gv]
    by_cases hb : badV m r.2.1.2.2.1
    · have hb' : r.2.1.2.2.1 < 0 ∨ m.c.2.1 ≤ r.2.1.2.2.1 ∨ takenV m r.2.1.2.2.1 = true := hb
      have cn : ¬ (r = (0, (h.1, h.2.1, r.2.1.2.2.1, 0, o.2.2.2.1), 0, 0) ∧ (false = true ∨ ¬ badV m r.2.1.2.2.1)) := fun ⟨_, h⟩ => by
        rcases h with h | h
        · cases h
        · exact h hb
      rw [if_neg cn, if_neg cn] at t; rw [if_pos hb']; exact t
    · have hb' : ¬ (r.2.1.2.2.1 < 0 ∨ m.c.2.1 ≤ r.2.1.2.2.1 ∨ takenV m r.2.1.2.2.1 = true) := hb
      rw [if_neg hb']
      by_cases hr : r = (0, (h.1, h.2.1, r.2.1.2.2.1, 0, o.2.2.2.1), 0, 0)
      · have ct : r = (0, (h.1, h.2.1, r.2.1.2.2.1, 0, o.2.2.2.1), 0, 0) ∧ (false = true ∨ ¬ badV m r.2.1.2.2.1) := ⟨hr, .inr hb⟩
        rw [if_pos ct, if_pos ct] at t; rw [if_pos hr]; exact t
      · have cn : ¬ (r = (0, (h.1, h.2.1, r.2.1.2.2.1, 0, o.2.2.2.1), 0, 0) ∧ (false = true ∨ ¬ badV m r.2.1.2.2.1)) := fun h => hr h.1
        rw [if_neg cn, if_neg cn] at t; rw [if_neg hr]; exact t
end
end Go.Proofs.YtgamnncehjcdiaaGreat

namespace Go.Proofs.YtgamnncehjcdiaaGreat
open Go Ev Go.RowKit

section
variable {w : World} {g : Nat} {m : MdV} {F : Fp} {K : Nat}
set_option maxHeartbeats 4000000 in
theorem c_rDo (I : RfI w g (toRf m) F) (Wm : Wf m K) (Wn' : Wn m K) (hK : K + 1 ≤ 1000000) (n : Int) (o : OpV) (h : HnV) (r : RsV) :
    CallR Tryz.prog 15 [.pointer (some ⟨g, 0, none⟩), .int .i64 n, .agg (opC o).toArray, .agg (hnC h).toArray, .agg (rsC r).toArray] w fun v w' => v = .bool (doV m n o h r).1 ∧ ∃ F', RfI w' g (toRf (doV m n o h r).2) F' ∧ UpdP F F' w w' := by
  apply F15_ok
  simp -implicitDefEqProofs only [F15, aE, aB, ae]
  generalize hw : ((w.alloc (.cells (opC o).toArray 39)).alloc _).alloc _ = w1
  have c1 : Chg [] w w1 := by rw [← hw]; exact (((Chg.refl _ _).alloc _).alloc _).alloc _
  have a7 : hp w1 w.heap.size = some (.cells (opC o).toArray 39) := by rw [← hw, ac, ae, ae, if_neg (by omega), ac, ae, if_neg (by omega), ac, if_pos rfl]
  have a8 : hp w1 (w.heap.size + 1) = some (.cells (hnC h).toArray 25) := by rw [← hw, ac, ae, ae, if_neg (by omega), ac, ae, if_pos rfl]
  have a9 : hp w1 (w.heap.size + 1 + 1) = some (.cells (rsC r).toArray 28) := by rw [← hw, ac, ae, ae, if_pos rfl]
  clear hw
  have ldo : ∀ w', hp w' w.heap.size = some (.cells (opC o).toArray 39) → ldv Tryz.prog 39 (.pointer (some ⟨w.heap.size, 0, none⟩)) w' = some (.agg (opC o).toArray) := fun w' hw => aG (t := 39) (c := (opC o).toArray) ag_39 (show (Tryz.prog.info? 39).map (·.size) = some (opC o).toArray.size from sz_39) hw
  simp -implicitDefEqProofs only [ad, ldo _ a7]
  refine (c_refMay o w1).mono ?_
  rintro _ w2 ⟨rfl, c2⟩
  have c02 := c1.trans c2
  have b7 := c2.at a7 (by simp)
  have b8 := c2.at a8 (by simp)
  obtain ⟨s, gn, rv, dd, hh, R⟩ := (I.keep c02).rd
  have hc0 : ldC (hp w2 g) (0 + 0 + 0) = some (.int .i64 m.c.1) := R.c 0 (by omega)
  have bad : mayV m n o = false → doV m n o h r = (false, m) := fun e => by rw [doV, if_pos e]
  cases hmo : mayO o with
  | false =>
    simp -implicitDefEqProofs only [zS]
    rw [bad (by simp [mayV, hmo])]
    exact ⟨by first | rfl | trivial, F, I.keep c02, UpdP.of0 c02⟩
  | true =>
  by_cases n0 : n < 0
  · simp -implicitDefEqProofs only [zS, n0]
    rw [bad (by simp only [mayV, Bool.and_eq_false_iff, decide_eq_false_iff_not]; omega)]
    exact ⟨by first | rfl | trivial, F, I.keep c02, UpdP.of0 c02⟩
  by_cases n1 : m.c.1 ≤ n
  · simp -implicitDefEqProofs only [zS, n0, fa_108_0, fa_33_0, af, hc0, aH, n1, ge_iff_le]
    have := Wn'.cw
    rw [bad (by simp only [mayV, Bool.and_eq_false_iff, decide_eq_false_iff_not]; omega)]
    exact ⟨by first | rfl | trivial, F, I.keep c02, UpdP.of0 c02⟩
  obtain ⟨nn, rfl⟩ := Int.eq_ofNat_of_zero_le (show 0 ≤ n by omega)
  have hm : mayV m nn o = true := by
    have := Wn'.cw
    rw [mayV, hmo, decide_eq_true (show (0 : Int) ≤ nn by omega), decide_eq_true (show (nn : Int) < m.hands.length by omega)]; rfl
  obtain ⟨d, hd⟩ := may_hd hm
  have hd' : m.hands[nn]? = some d := hd
  simp -implicitDefEqProofs only [zS, n0, fa_108_0, fa_33_0, af, hc0, aH, n1, ge_iff_le, ldo _ b7, ld_hn b8]
  refine (c_rMust (I.keep c02) Wm (by omega) hm h).mono ?_
  rintro _ w3 ⟨rfl, c3⟩
  have c13 := c2.trans c3
  have c03 := c1.trans c13
  simp -implicitDefEqProofs only [tup0, tup1, zS, al_28]
  rw [st_res (c := (rsC noR).toArray) (e := 28) (by rw [ac, if_pos rfl]; rfl) rfl]
  generalize hw4 : put (w3.alloc _) w3.heap.size _ _ = w4
  have c4 : Chg [] w3 w4 := by rw [← hw4]; exact ((Chg.refl _ _).alloc _).put (.inr (Nat.le_refl _)) _ _
  have a11 : hp w4 w3.heap.size = some (.cells (rsC (mustV m nn o h).1).toArray 28) := by rw [← hw4]; exact ap (by simp) _ _
  clear hw4
  have c14 := c13.trans c4
  have c04 := c1.trans c14
  have d7 := c14.at a7 (by simp)
  have d8 := c14.at a8 (by simp)
  have d9 := c14.at a9 (by simp)
  have hbe : be Tryz.prog .neq 28 (.tmp 39) (.tmp 40) (.agg (rsC r).toArray) (.agg (rsC (mustV m nn o h).1).toArray) = some (.bool (!decide (r = (mustV m nn o h).1))) := be_nrs r _
  cases hi : (mustV m nn o h).2 with
  | true =>
    simp -implicitDefEqProofs only [zS, aZ d9, aZ a11, hbe]
    have ed : doV m nn o h r = if r = (mustV m nn o h).1 then (true, if r.1 = 0 then doesV m nn o h else m) else (false, m) := by rw [doV, if_neg (by rw [hm]; simp), if_pos hi]
    by_cases hr : r = (mustV m nn o h).1
    · rw [if_pos hr] at ed
      simp -implicitDefEqProofs only [decide_eq_true hr, zS, fa_28_0, aU, d9, rs_0]
      by_cases h0 : r.1 = 0
      · rw [if_pos h0] at ed
        have e0 : (r.1 == 0) = true := by rw [h0]; rfl
        have hrf := must_fine hm hd (by rw [← hr]; exact h0)
        simp -implicitDefEqProofs only [e0, zS, ldo _ d7, ld_hn d8]
        refine (c_rDoes (I.keep c04) Wm (by omega) Wn' hm hd' hrf).mono ?_
        rintro _ w5 ⟨rfl, F5, i5, u5⟩
        apply L15_0_ok
        rw [ed]
        exact ⟨rfl, F5, i5, u5.pre c04⟩
      · rw [if_neg h0] at ed
        simp -implicitDefEqProofs only [eqf h0, zS]
        apply L15_0_ok
        rw [ed]
        exact ⟨rfl, F, I.keep c04, UpdP.of0 c04⟩
    · rw [if_neg hr] at ed
      simp -implicitDefEqProofs only [decide_eq_false hr, zS]
      rw [ed]
      exact ⟨by first | rfl | trivial, F, I.keep c04, UpdP.of0 c04⟩
  | false =>
    obtain ⟨hrf, hk⟩ := must_open hm hd hi
    have ed : doV m nn o h r = if o.1 = 1 then createsV m o.2.2.2.1 r else givesV m o.2.2.2.1 h r := by rw [doV, if_neg (by rw [hm]; simp), if_neg (by rw [hi]; simp)]
    by_cases k1 : o.1 = 1
    · rw [if_pos k1] at ed
      have q : (o.1 == 1) = true := by rw [k1]; rfl
      simp -implicitDefEqProofs only [zS, aj, af, d7, aC, q, aZ d9, ldo _ d7]
      refine (c_rCreate (I.keep c04) Wm Wn' hK o r).mono ?_
      rintro _ w5 ⟨rfl, F5, i5, u5⟩
      rw [ed]
      exact ⟨rfl, F5, i5, u5.pre c04⟩
    · rw [if_neg k1] at ed
      obtain ⟨i, x, hf, _, _, _⟩ := region_ok hrf (by omega)
      simp -implicitDefEqProofs only [zS, aj, af, d7, aC, eqf k1, aZ d9, ld_hn d8, ldo _ d7]
      refine (c_rAlloc (I.keep c04) Wm hK o h r hf).mono ?_
      rintro _ w5 ⟨rfl, F5, i5, u5⟩
      rw [ed]
      exact ⟨rfl, F5, i5, u5.pre c04⟩
end
end Go.Proofs.YtgamnncehjcdiaaGreat

namespace Go.Proofs.YtgamnncehjcdiaaGreat
open Go Ev Go.RowKit

section
variable {w : World} {g : Nat} {m : MdV} {F : Fp} {K : Nat}
def objsV (m : MdV) (n : Int) : List HnV := if (liveV m n).2 then (match findR m.rgs (n, (liveV m n).1) with | some i => (match m.rgs[i]? with | some r => r.objs | none => []) | none => []) else []
def RdO (w : World) (v : Value) (L : List HnV) : Prop := ∃ A c, v = .slice A L.length c ∧ RdV w A (L.flatMap hnC)
theorem RdO.keep {w w' : World} {v : Value} {L : List HnV} (h : RdO w v L) (hc : Chg [] w w') : RdO w' v L := by
  obtain ⟨A, c, rfl, h1⟩ := h
  exact ⟨A, c, rfl, h1.keep hc.below⟩
theorem hnC_one (h : HnV) : ∀ u ∈ hnC h, u.oneCell' = true := fun u hu => by
  simp only [hnC, List.mem_cons, List.not_mem_nil, or_false] at hu
  rcases hu with rfl | rfl | rfl | rfl | rfl <;> rfl
theorem live_at {n : Int} (Wn' : Wn m K) (h : (liveV m n).2 = true) : ∃ i r, findR m.rgs (n, (liveV m n).1) = some i ∧ m.rgs[i]? = some r := by
  have hl := h
  unfold liveV at h
  by_cases h0 : 0 ≤ n ∧ n < m.slots.length
  · rw [if_pos h0] at h
    have hlt : n.toNat < m.slots.length := by omega
    rw [List.getElem?_eq_getElem hlt] at h
    simp only at h
    by_cases h1 : (m.slots[n.toNat]).1 = 1
    · obtain ⟨k, hk⟩ := Wn'.lv n.toNat m.slots[n.toNat] (List.getElem?_eq_getElem hlt) h1
      rw [Int.toNat_of_nonneg h0.1] at hk
      obtain ⟨r, hr, _⟩ := findR_at hk
      refine ⟨k, r, ?_, hr⟩
      rw [liveV, if_pos h0, List.getElem?_eq_getElem hlt]
      simp only
      rw [if_pos h1]; exact hk
    · rw [if_neg h1] at h; cases h
  · rw [if_neg h0] at h; cases h
set_option maxHeartbeats 1000000 in
theorem c_rObjects (I : RfI w g (toRf m) F) (Wm : Wf m K) (Wn' : Wn m K) (hK : K ≤ 1000000) (n : Int) : CallR Tryz.prog 52 [.pointer (some ⟨g, 0, none⟩), .int .i64 n] w fun v w' => RdO w' v (objsV m n) ∧ Chg [] w w' ∧ ∀ p k c, v = .slice (some p) k c → w.heap.size ≤ p.block := by
  apply F52_ok
  obtain ⟨s, gn, rv, dd, hh, R⟩ := I.rd
  have cs := Wn'.cs
  simp -implicitDefEqProofs only [F52]
  refine (c_rLive R (by simp only [toRf, List.length_map]; omega) (by simp [toRf]) n).step ?_
  rw [rf_live]
  cases hl : (liveV m n).2 with
  | false =>
    simp -implicitDefEqProofs only [tup0, tup1, zS]
    rw [objsV, hl]
    exact ⟨⟨none, 0, rfl, fun j u hj => by simp at hj⟩, Chg.refl _ _, fun p k c h => by cases h⟩
  | true =>
    obtain ⟨i, r, hf, hr⟩ := live_at Wn' hl
    have hx : (toRf m).rgs[i]? = some (r, isLv m r.nm) := by rw [rgs_rf, hr]; rfl
    have hil := (List.getElem?_eq_some_iff.1 hx).1
    have cd : Chg [] w w.drew := (Chg.refl _ _).drew
    have Rd := R.keep cd
    obtain ⟨Fr, hFr⟩ := R.rT
    obtain ⟨b, c, rfl, cv, wv, ov, Q⟩ := rr_at hFr hx
    have ia := ia_rgs (b := b) (c := c) hil
    obtain ⟨A, co, rfl, hR⟩ := objs_sh Q.oT
    have Qd := Q.keep cd
    have ho := (Wm.rg r (List.mem_of_getElem? hr)).ol
    have hlen : (toRf m).rgs.length ≤ 1000000 := by rw [rf_len]; exact Nat.le_trans Wm.rl hK
    have e : objsV m n = r.objs := by rw [objsV, hl, hf]; simp only [hr, if_true]
    have fin : ∀ {A : Option Addr} {co : Nat}, RdV w A (r.objs.flatMap hnC) → effv Tryz.prog (Builtin.append_ #[44, 44] 44 #[.slice none 0 0, .slice A r.objs.length co]) w.drew fun v w' => RdO w' v (objsV m n) ∧ Chg [] w w' ∧ ∀ p k c, v = .slice (some p) k c → w.heap.size ≤ p.block := by
      intro A co hR
      have hRd := hR.keep cd.below
      obtain ⟨i, hi, hz, hs, hb⟩ := inf_25
      refine eff_append (base := w.drew.heap.size) (xs := []) (n := 0) (news := r.objs.flatMap hnC) (m := r.objs.length) Tryz.underlying44 hi hz hs rfl (by omega) (World.ownsRow_nil _ _ _ _) (bf hnC_len r.objs) (fun j u hj => hRd j u hj) (fun u hu => ?_) (by unfold maxLen; omega) (by rw [hb]; omega) (Nat.le_refl _)
        fun x' w1 ho hg => ?_
      · obtain ⟨s, _, hu⟩ := List.mem_flatMap.1 hu
        exact hnC_one s u hu
      have hc1 : Chg [] w.drew w1 := (Chg.refl _ _).grown hg fun k hk => by simp [Value.ownBlock] at hk
      rw [List.nil_append, Nat.zero_add] at ho
      obtain ⟨A, cA, rfl, hA, hb, _⟩ := rdV_of_own ho
      rw [e]
      exact ⟨⟨A, cA, rfl, hA⟩, cd.trans hc1, fun p k c h => by cases h; exact (hb p rfl).1⟩
    have q7 := Q.c7
    have q7d := Qd.c7
    simp -implicitDefEqProofs only [tup0, tup1, zS, aJ, aM, R.rl, Rd.rl]
    repeat' (with_reducible apply And.intro)
    all_goals
      refine (c_rFind Rd (n, (liveV m n).1) hlen).step ?_
      rw [findX_rf, hf]
      simp -implicitDefEqProofs only [ixR, zS, aM, Rd.rl, R.rl, ia, fa_130_7, ld_44, q7d, q7]
      exact fin hR
end
end Go.Proofs.YtgamnncehjcdiaaGreat

namespace Go.Proofs.YtgamnncehjcdiaaGreat
open Go Ev Go.RowKit

section
variable {W w : World} {g g4 g10 : Nat} {m : MdV} {F : Fp} {K : Nat} {h : HnV}
end
end Go.Proofs.YtgamnncehjcdiaaGreat

namespace Go.Proofs.YtgamnncehjcdiaaGreat
open Go Ev Go.RowKit

theorem t2_1 {a b : Value} : (#[a, b] : Array Value)[0 + 1]? = some b := (rfl)
theorem t2_0 {a b : Value} : (#[a, b] : Array Value)[0 + 0]? = some a := (rfl)
theorem val_at {w : World} {A : Option Addr} {vs : List Value} {n c i : Nat} {x : Value} {j : IntKind} (h : RdV w A vs) (hn : vs.length = n) (hx : vs[i]? = some x) :
    ∃ b o, pureRun Tryz.prog (Instr.indexAt 113 (.slice A n c) (.int j i)) = some (.pointer (some ⟨b, o, none⟩)) ∧ ldC (hp w b) o = some x := by
  have hi := (List.getElem?_eq_some_iff.1 hx).1
  obtain ⟨b, o, h1, h2, _⟩ := h.elem1 (P := Tryz.prog) (c := c) (n := n) (i := (i : Int)) (j := j) Tryz.underlying113 sz_115 (by omega) (by omega) (by omega)
  rw [Int.toNat_natCast, hx] at h2
  exact ⟨b, o, h1, h2⟩
theorem op_at {w : World} {A : Option Addr} {ops : List OpV} {c i : Nat} {j : IntKind} (h : RdV w A (ops.flatMap opC)) (hi : i < ops.length) :
    ∃ b o, pureRun Tryz.prog (Instr.indexAt 115 (.slice A ops.length c) (.int j i)) = some (.pointer (some ⟨b, o, none⟩)) ∧ ldv Tryz.prog 39 (.pointer (some ⟨b, o, none⟩)) w = some (.agg (opC ops[i]).toArray) := by
  obtain ⟨b, o, h1, h2, h3, _⟩ := h.elem (P := Tryz.prog) (c := c) (n := ops.length) (i := (i : Int)) (j := j) Tryz.underlying115 sz_39 (by omega) (by rw [bf opC_len]; exact Nat.le_refl _) (by omega) (by omega)
  rw [Int.toNat_natCast, flat_at opC_len ops i hi] at h3
  exact ⟨b, o, h1, by rw [ld_39, h3]; rfl⟩
theorem blk_add (p : Addr) (i : Nat) : (p.add i).block = p.block := by unfold Addr.add; split <;> rfl
theorem RdI.chg {k : IntKind} {w w' : World} {S : List Nat} {A : Option Addr} {xs : List Int} (h : RdI k w A xs) (hc : Chg S w w') (hn : ∀ p, A = some p → p.block ∉ S) : RdI k w' A xs := fun i hi => by
  obtain ⟨p, hp, h1⟩ := h i hi
  exact ⟨p, hp, hc.cell h1 (by rw [blk_add]; exact hn p hp)⟩
set_option maxHeartbeats 1000000 in
theorem c_SeqN {w : World} {g : Nat} {A : Option Addr} {c : Nat} {xs : List Int} {at' : Nat} (hb : hp w g = some (.cells #[.slice A xs.length c, .int .i64 at'] 37)) (hA : RdI .i64 w A xs) (hne : ∀ p, A = some p → p.block ≠ g) (hat : at' ≤ 1000000000) {m : Int} (h0 : 0 < m) (h1 : m ≤ 1000000) :
    CallR Tryz.prog 24 [.pointer (some ⟨g, 0, none⟩), .int .i64 m] w fun v w' => (∃ r : Nat, v = .int .i64 r ∧ (r : Int) < m) ∧ hp w' g = some (.cells #[.slice A xs.length c, .int .i64 ((at' + 1 : Nat) : Int)] 37) ∧ Chg [g] w w' := by
  apply F24_ok
  have fin : ∀ (w0 : World), Chg [] w w0 → ∀ x : Int, P24_0 (.pointer (some ⟨g, 0, none⟩)) (.int .i64 m) (.int .i64 x) w0 fun v w' => (∃ r : Nat, v = .int .i64 r ∧ (r : Int) < m) ∧ hp w' g = some (.cells #[.slice A xs.length c, .int .i64 ((at' + 1 : Nat) : Int)] 37) ∧ Chg [g] w w' := by
    intro w0 hc0 x
    apply L24_0_ok
    have hb0 := hc0.at hb (by simp)
    have ok : okC (hp w0 g) (0 + 1 + 1) = true := by rw [hb0]; rfl
    have e1 : (#[Value.slice A xs.length c, .int .i64 at'].setIfInBounds (0 + 1) (.int .i64 ((at' : Int) + 1))) = #[.slice A xs.length c, .int .i64 ((at' + 1 : Nat) : Int)] := by rw [Int.natCast_add at' 1]; rfl
    simp -implicitDefEqProofs only [L24_0, zS, fa_37_1, af, hb0, t2_1, aA, az (n := (at' : Int) + 1) (by omega) (by omega), st_3 (w := w0) (b := g) (o := 0 + 1) (v := .int .i64 ((at' : Int) + 1)) rfl rfl ok, br, aD, e1]
    refine (c_Number x m _ h0 (by omega)).step ?_
    have hp1 : Chg [g] w0 (put w0 g #[.slice A xs.length c, .int .i64 ((at' + 1 : Nat) : Int)] 37) := (Chg.refl _ _).put (.inl (by simp)) _ _
    have hr := Int.emod_nonneg x (b := m) (by omega)
    have hr2 := Int.emod_lt_of_pos x h0
    refine ⟨⟨(x % m).toNat, by rw [Int.toNat_of_nonneg hr], by omega⟩, ap (av hb0) _ _, (hc0.mono (by simp)).trans hp1⟩
  have hd : Chg [] w w.drew := (Chg.refl _ _).drew
  by_cases hlt : (at' : Int) < xs.length
  · obtain ⟨q, q1, q2⟩ := (hA.drew.drew).at (P := Tryz.prog) (c := c) (j := .i64) Tryz.underlying22 Tryz.underlying3 sz_3 (i := (at' : Int)) (by omega) hlt
    simp -implicitDefEqProofs only [F24, zS, fa_37_0, fa_37_1, af, aY, hb, t2_0, t2_1, len_22, hlt, q1, q2]
    exact fin _ hd.drew _
  · simp -implicitDefEqProofs only [F24, zS, fa_37_0, fa_37_1, af, aY, hb, t2_0, t2_1, len_22, hlt]
    exact fin _ hd _
def kindsL : List Int := [1, 1, 2, 2, 2, 3, 3, 5, 5, 5, 6, 7, 7, 8, 9, 6, 4, 10, 10, 11, 11, 12, 0]
theorem c_kinds (w : World) : CallR Tryz.prog 58 [] w fun v w' => v = .slice (some ⟨w.heap.size, 0, none⟩) 23 23 ∧ hp w' w.heap.size = some (.cells (ints kindsL).toArray 3) ∧ Chg [] w w' := by
  apply F58_ok
  simp -implicitDefEqProofs only [F58, bs_22_23]
  exact ⟨trivial, by rw [ac, if_pos rfl]; rfl, (Chg.refl _ _).alloc _⟩
theorem kinds_at : ∀ r : Nat, r < 23 → kindsL.getD r 0 = 0 ∨ kindsL.getD r 0 = 1 ∨ kindsL.getD r 0 = 2 ∨ kindsL.getD r 0 = 3 ∨ kindsL.getD r 0 = 4 ∨ kindsL.getD r 0 = 5 ∨ kindsL.getD r 0 = 6 ∨ kindsL.getD r 0 = 7 ∨ kindsL.getD r 0 = 8 ∨ kindsL.getD r 0 = 9 ∨ kindsL.getD r 0 = 10 ∨ kindsL.getD r 0 = 11 ∨ kindsL.getD r 0 = 12 := by decide
theorem lit_at {w : World} {g n : Nat} {xs : List Int} (h : hp w g = some (.cells (ints xs).toArray 3)) (hn : n = xs.length) {r : Nat} (hr : r < n) :
    pureRun Tryz.prog (Instr.indexAt 22 (.slice (some ⟨g, 0, none⟩) n n) (.int .i64 r)) = some (.pointer (some ⟨g, 0 + r * 1, none⟩)) ∧ ldC (hp w g) (0 + r * 1) = some (.int .i64 (xs.getD r 0)) := by
  subst hn
  have := ia_22 (b := g) (p := 0) (c := xs.length) (j := .i64) (i := (r : Int)) (n := xs.length) (by omega) (by omega)
  rw [Int.toNat_natCast] at this
  exact ⟨this, ints_ld h hr⟩
def IsL (w : World) (g : Nat) (v : Value) (L : List (List OpV)) : Prop :=
  ∃ A c vs, v = .slice A L.length c ∧ RdV w A vs ∧ vs.length = L.length ∧ (∀ (j : Nat) (x : Value) (ops : List OpV), vs[j]? = some x → L[j]? = some ops → ∃ A' c', x = .slice A' ops.length c' ∧ RdV w A' (ops.flatMap opC) ∧ ∀ p, A' = some p → p.block ≠ g) ∧ ∀ p, A = some p → p.block ≠ g
theorem IsL.keep {w w' : World} {g : Nat} {v : Value} {L : List (List OpV)} (h : IsL w g v L) (hc : Chg [g] w w') : IsL w' g v L := by
  obtain ⟨A, c, vs, rfl, h2, h3, h4, h5⟩ := h
  refine ⟨A, c, vs, rfl, h2.chg hc fun p hp _ => by simpa using h5 p hp, h3, fun j x ops hx ho => ?_, h5⟩
  obtain ⟨A', c', e, h6, h7⟩ := h4 j x ops hx ho
  exact ⟨A', c', e, h6.chg hc fun p hp _ => by simpa using h7 p hp, h7⟩
theorem IsL.list {w : World} {g : Nat} {A : Option Addr} {c : Nat} {L : List (List OpV)} {vs : List Value} (h3 : vs.length = L.length) (h4 : ∀ (j : Nat) (x : Value) (ops : List OpV), vs[j]? = some x → L[j]? = some ops → ∃ A' c', x = .slice A' ops.length c' ∧ RdV w A' (ops.flatMap opC) ∧ ∀ p, A' = some p → p.block ≠ g) {i : Nat} (hi : i < L.length) :
    ∃ A' c', vs[i]? = some (.slice A' (L[i]).length c') ∧ RdV w A' ((L[i]).flatMap opC) := by
  obtain ⟨x, hx⟩ : ∃ x, vs[i]? = some x := ⟨_, List.getElem?_eq_getElem (by omega)⟩
  obtain ⟨A', c', e, hO, _⟩ := h4 i x L[i] hx (List.getElem?_eq_getElem hi)
  exact ⟨A', c', by rw [hx, e], hO⟩
def NameO (o : OpV) : Prop := 0 ≤ o.2.1 ∧ o.2.1 ≤ 63 ∧ 0 ≤ o.2.2.1 ∧ o.2.2.1 ≤ 999
def tot : List (List OpV) → Nat
  | [] => 0
  | l :: L => l.length + tot L
theorem tot_take_succ {L : List (List OpV)} {i : Nat} (h : i < L.length) : tot (L.take (i + 1)) = tot (L.take i) + (L[i]).length := by
  induction L generalizing i with
  | nil => simp at h
  | cons x xs ih =>
    cases i with
    | zero => simp [tot]
    | succ i =>
      have := ih (i := i) (by simpa using h)
      simp [tot, this]; omega
theorem tot_take_le (L : List (List OpV)) (i : Nat) : tot (L.take i) ≤ tot L := by
  induction L generalizing i with
  | nil => simp [tot]
  | cons x xs ih =>
    cases i with
    | zero => simp [tot]
    | succ i => have := ih i; simp [tot]; omega
structure AtI (W w : World) (x : Value) (R : List OpV) : Prop where
  own : w.ownsRow W.heap.size 39 6 x R.length (R.flatMap opC)
  ok : ∀ o ∈ R, NameO o
  ch : Chg [] W w
set_option maxHeartbeats 1000000 in
theorem l_at1 {W : World} {A : Option Addr} {c : Nat} {vs : List Value} {L : List (List OpV)} (hL : L.length ≤ 64) (hll : ∀ l ∈ L, l.length ≤ 1000) (hT : tot L ≤ 100000) (h2 : RdV W A vs) (h3 : vs.length = L.length) {i : Nat} (hi : i < L.length) {A' : Option Addr} {c' : Nat} (hx : vs[i]? = some (.slice A' (L[i]).length c')) (hA' : RdV W A' ((L[i]).flatMap opC)) {kd : Int} {Q : Value → World → Prop}
    (next : ∀ w x R, AtI W w x R → R.length ≤ tot (L.take (i + 1)) → P59_0 (.slice A L.length c) (.int .i64 kd) x (.int .i64 ((i : Int) + 1)) w Q) :
    ∀ (d j : Nat) (w : World) (x : Value) (R : List OpV), AtI W w x R → R.length ≤ tot (L.take i) + j → j + d = (L[i]).length →
      P59_1 (.slice A L.length c) (.int .i64 kd) x (.int .i64 i) (.int .i64 j) w Q := by
  have hmem : L[i] ∈ L := List.getElem_mem hi
  have hl := hll _ hmem
  have ht := tot_take_le L (i + 1)
  rw [tot_take_succ hi] at ht
  intro d
  induction d with
  | zero =>
    intro j w x R h hR hj
    apply L59_1_ok
    obtain ⟨b, o, q1, q2⟩ := val_at (c := c) (j := .i64) (h2.keep h.ch.below) h3 hx
    have : ¬ (j : Int) < (L[i]).length := by omega
    simp -implicitDefEqProofs only [L59_1, zS, q1, ld_115, q2, len_115, this, aA, az (n := (i : Int) + 1) (by omega) (by omega)]
    exact next w x R h (by rw [tot_take_succ hi]; omega)
  | succ d ih =>
    intro j w x R h hR hj
    apply L59_1_ok
    obtain ⟨b, o, q1, q2⟩ := val_at (c := c) (j := .i64) (h2.keep h.ch.below) h3 hx
    have hlt : (j : Int) < (L[i]).length := by omega
    have hjl : j < (L[i]).length := by omega
    obtain ⟨b2, o2, r1, r2, r3, _⟩ := (hA'.keep h.ch.below).elem (P := Tryz.prog) (c := c') (n := (L[i]).length) (i := (j : Int)) (j := .i64) Tryz.underlying115 sz_39 (by omega) (by rw [bf opC_len]; exact Nat.le_refl _) (by omega) hlt
    have r0 := r2 0 (by omega)
    rw [Int.toNat_natCast, flat_get opC_len (L[i]) j hjl 0 (by omega)] at r0
    have r0 : ldC (hp w b2) (o2 + 0) = some (.int .i64 (L[i])[j].1) := r0
    have two : ∀ w' x' R', AtI W w' x' R' → R'.length ≤ R.length + 1 → P59_2 (.slice A L.length c) (.int .i64 kd) x' (.int .i64 i) (.int .i64 j) w' Q := fun w' x' R' h' hR' => by
      apply L59_2_ok
      simp -implicitDefEqProofs only [L59_2, zS, aA, az (n := (j : Int) + 1) (by omega) (by omega)]
      have := ih (j + 1) w' x' R' h' (by omega) (by omega)
      rw [Int.natCast_add j 1] at this
      exact this
    by_cases hk : (L[i])[j].1 = kd
    · have hk' : ((L[i])[j].1 == kd) = true := by rw [hk]; simp
      have hbd : pureRun Tryz.prog (Instr.build 39 #[(1, .int .i64 i), (2, .int .i64 j)]) = some (.agg (opC (0, (i : Int), (j : Int), 0, 0, 0)).toArray) := bd_39_1_2
      simp -implicitDefEqProofs only [L59_1, zS, q1, ld_115, q2, len_115, hlt, r1, aj, af, r0, hk', hbd]
      refine ps_115 (fun u hu => List.all_eq_true.1 (show (opC (0, (i : Int), (j : Int), 0, 0, 0)).all (·.oneCell') = true from rfl) u hu) h.own (by omega) h.ch.size fun x' w' ho hg hnb => ?_
      refine two w' x' (R ++ [(0, (i : Int), (j : Int), 0, 0, 0)]) ⟨by rw [List.length_append, flat_snoc]; exact ho, fun o ho => ?_, h.ch.grown hg fun k hk => .inr (h.own.lt k hk).1⟩ (by simp)
      rcases List.mem_append.1 ho with h1 | h1
      · exact h.ok o h1
      · simp at h1; subst h1
        exact ⟨by simp only; omega, by simp only; omega, by simp only; omega, by simp only; omega⟩
    · simp -implicitDefEqProofs only [L59_1, zS, q1, ld_115, q2, len_115, hlt, r1, aj, af, r0, eqf hk]
      exact two w x R h (by omega)
theorem c_at {w : World} {g : Nat} {v : Value} {L : List (List OpV)} (h : IsL w g v L) (hL : L.length ≤ 64) (hll : ∀ l ∈ L, l.length ≤ 1000) (hT : tot L ≤ 100000) (kd : Int) :
    CallR Tryz.prog 59 [v, .int .i64 kd] w fun r w' => ∃ R, AtI w w' r R ∧ R.length ≤ 100000 := by
  obtain ⟨A, c, vs, rfl, h2, h3, h4, h5⟩ := h
  apply F59_ok
  simp -implicitDefEqProofs only [F59]
  have main : ∀ (d i : Nat) (w1 : World) (x : Value) (R : List OpV), AtI w w1 x R → R.length ≤ tot (L.take i) → i + d = L.length →
      P59_0 (.slice A L.length c) (.int .i64 kd) x (.int .i64 i) w1 fun r w' => ∃ R, AtI w w' r R ∧ R.length ≤ 100000 := by
    intro d
    induction d with
    | zero =>
      intro i w1 x R h1 hR hi
      apply L59_0_ok
      have : ¬ (i : Int) < L.length := by omega
      simp -implicitDefEqProofs only [L59_0, zS, len_113, this]
      exact ⟨R, h1, by have := tot_take_le L i; omega⟩
    | succ d ih =>
      intro i w1 x R h1 hR hi
      apply L59_0_ok
      have hlt : (i : Int) < L.length := by omega
      have hil : i < L.length := by omega
      obtain ⟨A', c', hx, hO⟩ := IsL.list (A := A) (c := c) h3 h4 hil
      simp -implicitDefEqProofs only [L59_0, zS, len_113, hlt]
      refine l_at1 (c := c) hL hll hT h2 h3 hil hx hO (fun w2 x2 R2 h2' hR2 => ?_) (L[i]).length 0 w1 x R h1 (by omega) (by omega)
      have := ih (i + 1) w2 x2 R2 h2' hR2 (by omega)
      rw [Int.natCast_add i 1] at this
      exact this
  exact main L.length 0 w _ [] ⟨World.ownsRow_nil _ _ _ _, fun o ho => by simp at ho, Chg.refl _ _⟩ (by simp) (by omega)
end Go.Proofs.YtgamnncehjcdiaaGreat

namespace Go.Proofs.YtgamnncehjcdiaaGreat
open Go Ev Go.RowKit

def oZero : OpV := (0, 0, 0, 0, 0, 0)
def WfO' (o : OpV) : Prop := (0 ≤ o.2.2.2.2.1 ∧ o.2.2.2.2.1 < 18446744073709551616) ∧ (0 ≤ o.2.2.2.2.2 ∧ o.2.2.2.2.2 < 18446744073709551616)
def GenO (o : OpV) : Prop := (o = oZero ∨ mayO o = true) ∧ WfO' o
theorem mayO_of {k f a n v w : Int} (h1 : 1 ≤ k) (h2 : k ≤ 12) (hf : 0 ≤ f ∧ f ≤ frM k) (ha : 0 ≤ a ∧ a ≤ atM k) (hn : 0 ≤ n ∧ n ≤ nM k) (hv : vB k = true ∨ v = 0) (hw : wB k = true ∨ w = 0) : mayO (k, f, a, n, v, w) = true :=
  decide_eq_true ⟨⟨h1, h2⟩, hf, ha, hn, hv, hw⟩
def Half (o : OpV) : Prop := (1 ≤ o.1 ∧ o.1 ≤ 12) ∧ frM o.1 = 63 ∧ atM o.1 = 999 ∧ (0 ≤ o.2.2.2.1 ∧ o.2.2.2.1 ≤ nM o.1) ∧ (vB o.1 = true ∨ o.2.2.2.2.1 = 0) ∧ (wB o.1 = true ∨ o.2.2.2.2.2 = 0) ∧ WfO' o
structure Env (W : World) (q : Nat) (A : Option Addr) (xs : List Int) (x1 : Value) (L : List (List OpV)) : Prop where
  hA : RdI .i64 W A xs
  hne : ∀ p, A = some p → p.block ≠ q
  il : IsL W q x1 L
  qW : q < W.heap.size
  hL : L.length ≤ 64
  hll : ∀ l ∈ L, l.length ≤ 1000
  hT : tot L ≤ 100000
structure Gen (W w : World) (q g4 g6 : Nat) (A : Option Addr) (c : Nat) (xs : List Int) (a0 at' : Nat) (o : OpV) : Prop where
  sq : hp w q = some (.cells #[.slice A xs.length c, .int .i64 at'] 37)
  h4 : hp w g4 = some (.cells (opC oZero).toArray 39)
  h6 : hp w g6 = some (.cells (opC o).toArray 39)
  ne : g4 ≠ g6
  g4W : W.heap.size ≤ g4
  g6W : W.heap.size ≤ g6
  ch : Chg [q] W w
  at1 : a0 ≤ at'
  at2 : at' ≤ 900000000
def GenP (W : World) (q : Nat) (A : Option Addr) (c : Nat) (xs : List Int) (a0 m : Nat) (v : Value) (w' : World) : Prop := ∃ o at', v = .agg (opC o).toArray ∧ GenO o ∧ hp w' q = some (.cells #[.slice A xs.length c, .int .i64 ((at' : Nat) : Int)] 37) ∧ a0 ≤ at' ∧ at' ≤ a0 + m ∧ Chg [q] W w'
section
variable {W w : World} {q g4 g6 : Nat} {A : Option Addr} {c : Nat} {xs : List Int} {a0 at' : Nat} {o : OpV} {x1 : Value} {L : List (List OpV)}
theorem Gen.next (E : Env W q A xs x1 L) (h : Gen W w q g4 g6 A c xs a0 at' o) (hat : at' + 1 ≤ 900000000) {m : Int} (h0 : 0 < m) (h1 : m ≤ 1000000) {K : Value → World → Prop} (hk : ∀ (r : Nat) w', (r : Int) < m → Gen W w' q g4 g6 A c xs a0 (at' + 1) o → Chg [q] w w' → K (.int .i64 r) w') :
    CallR Tryz.prog 24 [.pointer (some ⟨q, 0, none⟩), .int .i64 m] w K := by
  refine (c_SeqN h.sq (RdI.chg E.hA h.ch fun p hp => by simpa using E.hne p hp) E.hne (by have := h.at2; omega) h0 h1).mono ?_
  rintro v w' ⟨⟨r, rfl, hr⟩, hs, hc⟩
  have n4 : g4 ≠ q := by have := h.g4W; have := E.qW; omega
  have n6 : g6 ≠ q := by have := h.g6W; have := E.qW; omega
  exact hk r w' hr ⟨hs, hc.at h.h4 (by simpa using n4), hc.at h.h6 (by simpa using n6), h.ne, h.g4W, h.g6W, h.ch.trans hc, by have := h.at1; omega, hat⟩ hc
theorem Gen.grow (h : Gen W w q g4 g6 A c xs a0 at' o) {w' : World} (hc : Chg [] w w') : Gen W w' q g4 g6 A c xs a0 at' o :=
  ⟨hc.at h.sq (by simp), hc.at h.h4 (by simp), hc.at h.h6 (by simp), h.ne, h.g4W, h.g6W, h.ch.trans (hc.mono (by simp)), h.at1, h.at2⟩
theorem Gen.set (E : Env W q A xs x1 L) (h : Gen W w q g4 g6 A c xs a0 at' o) (o' : OpV) : Gen W (put w g6 (opC o').toArray 39) q g4 g6 A c xs a0 at' o' :=
  ⟨by rw [ax (by have := h.g6W; have := E.qW; omega)]; exact h.sq, by rw [ax h.ne]; exact h.h4, ap (av h.h6) _ _, h.ne, h.g4W, h.g6W, h.ch.put (.inr h.g6W) _ _, h.at1, h.at2⟩
theorem Gen.ans (E : Env W q A xs x1 L) (h : Gen W w q g4 g6 A c xs a0 at' o) (ho : GenO o) {m : Nat} (hm : at' ≤ a0 + m) : wpB (ldv Tryz.prog 39 (.pointer (some ⟨g6, 0, none⟩)) w) fun t21 =>
    effu Tryz.prog (Instr.storeAt 39 (.pointer (some ⟨g4, 0, none⟩)) t21) w fun w =>
    wpB (ldv Tryz.prog 39 (.pointer (some ⟨g4, 0, none⟩)) w) fun r4 => GenP W q A c xs a0 m r4 w := by
  have hld := aG ag_39 (show (Tryz.prog.info? 39).map (·.size) = some (opC o).toArray.size from sz_39) h.h6
  rw [hld, ad, st_39 (by rfl) (by rfl) (by rw [h.h4]; rfl) (by rw [h.h4]; rfl), h.h4, aD]
  have h4 : hp (put w g4 (opC o).toArray 39) g4 = some (.cells (opC o).toArray 39) := ap (av h.h4) _ _
  rw [aG ag_39 (show (Tryz.prog.info? 39).map (·.size) = some (opC o).toArray.size from sz_39) h4, ad]
  exact ⟨o, at', rfl, ho, by rw [ax (by have := h.g4W; have := E.qW; omega)]; exact h.sq, h.at1, hm, h.ch.put (.inr h.g4W) _ _⟩
theorem Gen.five (E : Env W q A xs x1 L) (h : Gen W w q g4 g6 A c xs a0 at' o) (ho : GenO o) {m : Nat} (hm : at' ≤ a0 + m) : P25_5 (.pointer (some ⟨g4, 0, none⟩)) (.pointer (some ⟨g6, 0, none⟩)) w (GenP W q A c xs a0 m) := by
  apply L25_5_ok
  exact h.ans E ho hm
theorem Gen.st (h : Gen W w q g4 g6 A c xs a0 at' o) {i : Nat} (hi : i < 3) (x : Int) {K : World → Prop} :
    effu Tryz.prog (Instr.storeAt 3 (.pointer (some ⟨g6, 0 + (i + 1), none⟩)) (.int .i64 x)) w K = K (put w g6 ((opC o).toArray.setIfInBounds (0 + (i + 1)) (.int .i64 x)) 39) := by
  rw [st_3 (w := w) (b := g6) (o := 0 + (i + 1)) (v := .int .i64 x) rfl rfl (by rw [h.h6]; rcases i with _ | _ | _ | i <;> first | rfl | omega), h.h6, aD, br]
theorem Gen.stu (h : Gen W w q g4 g6 A c xs a0 at' o) {i : Nat} (hi : i < 2) (x : Int) {K : World → Prop} :
    effu Tryz.prog (Instr.storeAt 26 (.pointer (some ⟨g6, 0 + (i + 4), none⟩)) (.int .u64 x)) w K = K (put w g6 ((opC o).toArray.setIfInBounds (0 + (i + 4)) (.int .u64 x)) 39) := by
  rw [st_26 (w := w) (b := g6) (o := 0 + (i + 4)) (v := .int .u64 x) rfl rfl (by rw [h.h6]; rcases i with _ | _ | i <;> first | rfl | omega), h.h6, aD, br]
theorem set_1 (k f a n v u x : Int) : ((opC (k, f, a, n, v, u)).toArray.setIfInBounds (0 + 1) (.int .i64 x)) = (opC (k, x, a, n, v, u)).toArray := rfl
theorem set_2 (k f a n v u x : Int) : ((opC (k, f, a, n, v, u)).toArray.setIfInBounds (0 + 2) (.int .i64 x)) = (opC (k, f, x, n, v, u)).toArray := rfl
theorem set_3 (k f a n v u x : Int) : ((opC (k, f, a, n, v, u)).toArray.setIfInBounds (0 + 3) (.int .i64 x)) = (opC (k, f, a, x, v, u)).toArray := rfl
theorem set_4 (k f a n v u x : Int) : ((opC (k, f, a, n, v, u)).toArray.setIfInBounds (0 + 4) (.int .u64 x)) = (opC (k, f, a, n, x, u)).toArray := rfl
theorem set_5 (k f a n v u x : Int) : ((opC (k, f, a, n, v, u)).toArray.setIfInBounds (0 + 5) (.int .u64 x)) = (opC (k, f, a, n, v, x)).toArray := rfl
theorem half_done {k f a n v u : Int} (h : Half (k, f, a, n, v, u)) {f' a' : Int} (hf : 0 ≤ f' ∧ f' ≤ 63) (ha : 0 ≤ a' ∧ a' ≤ 999) : GenO (k, f', a', n, v, u) := by
  obtain ⟨h1, h2, h3, h4, h5, h6, h7⟩ := h
  simp only at h1 h2 h3 h4 h5 h6 h7
  exact ⟨.inr (mayO_of h1.1 h1.2 (by rw [h2]; exact hf) (by rw [h3]; exact ha) h4 h5 h6), h7⟩
set_option maxHeartbeats 4000000 in
theorem Gen.four (E : Env W q A xs x1 L) (h : Gen W w q g4 g6 A c xs a0 at' o) (ho : Half o) (hat : at' + 4 ≤ 900000000) {m : Nat} (hm : at' + 4 ≤ a0 + m) (want : Int) : P25_4 (.pointer (some ⟨q, 0, none⟩)) x1 (.pointer (some ⟨g4, 0, none⟩)) (.pointer (some ⟨g6, 0, none⟩)) (.int .i64 want) w (GenP W q A c xs a0 m) := by
  apply L25_4_ok
  simp -implicitDefEqProofs only [L25_4, zS]
  refine (c_at (E.il.keep h.ch) E.hL E.hll E.hT want).mono ?_
  rintro r w1 ⟨R, hR, hRl⟩
  obtain ⟨B, cB, rfl, hB⟩ := rdV_of_own hR.own
  have h1 := h.grow hR.ch
  obtain ⟨k, f, a, n, v, u⟩ := o
  have dflt : ∀ w2 at2, Gen W w2 q g4 g6 A c xs a0 at2 (k, f, a, n, v, u) → at2 ≤ at' + 2 → CallR Tryz.prog 24 [.pointer (some ⟨q, 0, none⟩), .int .i64 5] w2 fun t90 w =>
      CallR Tryz.prog 24 [.pointer (some ⟨q, 0, none⟩), .int .i64 9] w fun t92 w =>
      effu Tryz.prog (Instr.storeAt 3 (.pointer (some ⟨g6, 0 + 1, none⟩)) t90) w fun w =>
      effu Tryz.prog (Instr.storeAt 3 (.pointer (some ⟨g6, 0 + 2, none⟩)) t92) w fun w =>
      wpB (ldv Tryz.prog 39 (.pointer (some ⟨g6, 0, none⟩)) w) fun t95 =>
      effu Tryz.prog (Instr.storeAt 39 (.pointer (some ⟨g4, 0, none⟩)) t95) w fun w =>
      wpB (ldv Tryz.prog 39 (.pointer (some ⟨g4, 0, none⟩)) w) fun r4 => GenP W q A c xs a0 m r4 w := by
    intro w2 at2 h2 hat2
    refine h2.next E (by omega) (by decide) (by decide) fun r3 w3 hr3 h3 _ => ?_
    refine h3.next E (by omega) (by decide) (by decide) fun r4 w4 hr4 h4 _ => ?_
    rw [h4.st (i := 0) (by omega), set_1]
    have h5 := h4.set E (k, r3, a, n, v, u)
    rw [h5.st (i := 1) (by omega), set_2]
    exact (h5.set E (k, r3, r4, n, v, u)).ans E (half_done ho (by omega) (by omega)) (by omega)
  by_cases hz : R.length = 0
  · have hz' : ((R.length : Int) == 0) = true := by rw [hz]; rfl
    simp -implicitDefEqProofs only [zS, len_115, hz', fa_39_1, fa_39_2]
    exact dflt w1 _ h1 (by omega)
  have hz' : ((R.length : Int) == 0) = false := by simp; simpa using hz
  simp -implicitDefEqProofs only [zS, len_115, hz']
  refine h1.next E (by omega) (by decide) (by decide) fun r2 w2 hr2 h2 c2 => ?_
  simp -implicitDefEqProofs only [zS, fa_39_1, fa_39_2]
  by_cases hr0 : (r2 : Int) = 0
  · have e : ((r2 : Int) == 0) = true := by rw [hr0]; rfl
    simp -implicitDefEqProofs only [zS, e]
    exact dflt w2 _ h2 (by omega)
  simp -implicitDefEqProofs only [zS, eqf hr0, len_115]
  refine h2.next E (by omega) (by omega) (by omega) fun r3 w3 hr3 h3 c3 => ?_
  have c13 : Chg [q] w1 w3 := c2.trans c3
  have hq : q < w1.heap.size := Nat.lt_of_lt_of_le E.qW (by have := h.ch.size; have := hR.ch.size; omega)
  have hB3 : RdV w3 B (R.flatMap opC) := hB.1.chg c13 fun p hp _ => by
    have := (hR.own.lt p.block (by rw [hp]; rfl)).1
    have := E.qW
    have := h.ch.size
    simp; omega
  have hrl : r3 < R.length := by omega
  obtain ⟨b, o', q1, q2⟩ := op_at (c := cB) (j := .i64) (i := r3) hB3 hrl
  have hN := hR.ok _ (List.getElem_mem hrl)
  generalize R[r3] = e at *
  simp -implicitDefEqProofs only [zS, q1, q2, al_39]
  rw [st_39 (by rfl) (by rfl) (by rw [ac, if_pos rfl]; rfl) (by rw [ac, if_pos rfl]; rfl), ac, if_pos rfl]
  simp -implicitDefEqProofs only [aD]
  generalize hzz : w3.alloc _ = wa
  have hca : Chg [] w3 wa := by rw [← hzz]; exact (Chg.refl _ _).alloc _
  have hza : wa.heap.size = w3.heap.size + 1 := by rw [← hzz]; simp
  have hcp : Chg [] w3 (put wa w3.heap.size (opC e).toArray 39) := hca.put (.inr (Nat.le_refl _)) _ _
  have h8 : hp (put wa w3.heap.size (opC e).toArray 39) w3.heap.size = some (.cells (opC e).toArray 39) := by rw [put_heap, if_pos rfl, if_pos (by omega)]
  have h5 := h3.grow hcp
  have n6 : w3.heap.size ≠ g6 := by have := av h3.h6; omega
  clear hzz hca hza hcp h3 q1 q2
  generalize put wa w3.heap.size (opC e).toArray 39 = w5 at *
  generalize w3.heap.size = g8 at *
  have h8d : hp w5.drew g8 = some (.cells (opC e).toArray 39) := h8
  have h5d : Gen W w5.drew q g4 g6 A c xs a0 (at' + 1 + 1) (k, f, a, n, v, u) := h5.grow (Chg.refl _ _).drew
  have h6 := h5d.set E (k, e.2.1, a, n, v, u)
  have h8p : hp (put w5.drew g6 (opC (k, e.2.1, a, n, v, u)).toArray 39) g8 = some (.cells (opC e).toArray 39) := by rw [ax n6]; exact h8d
  have h7 := h6.set E (k, e.2.1, e.2.2.1, n, v, u)
  have fin := h7.five E (half_done ho (f' := e.2.1) (a' := e.2.2.1) ⟨hN.1, hN.2.1⟩ ⟨hN.2.2.1, hN.2.2.2⟩) (m := m) (by omega)
  simp -implicitDefEqProofs only [fa_39_1, fa_39_2, af, h8d, op_1, op_2, zS, h5d.st (i := 0) (by omega), set_1, h6.st (i := 1) (by omega), set_2, h8p]
  exact ⟨fin, fin⟩
end
end Go.Proofs.YtgamnncehjcdiaaGreat

namespace Go.Proofs.YtgamnncehjcdiaaGreat
open Go Ev Go.RowKit
section
variable {W w : World} {q g4 g6 : Nat} {A : Option Addr} {c : Nat} {xs : List Int} {a0 at' : Nat} {o : OpV} {x1 : Value} {L : List (List OpV)}
set_option maxHeartbeats 4000000 in
theorem Gen.three (E : Env W q A xs x1 L) (h : Gen W w q g4 g6 A c xs a0 at' o) (ho : Half o) (hat : at' + 5 ≤ 900000000) {m : Nat} (hm : at' + 5 ≤ a0 + m) (want : Int) : P25_3 (.pointer (some ⟨q, 0, none⟩)) x1 (.pointer (some ⟨g4, 0, none⟩)) (.pointer (some ⟨g6, 0, none⟩)) (.int .i64 want) w (GenP W q A c xs a0 m) := by
  apply L25_3_ok
  by_cases k9 : o.1 = 9
  · simp -implicitDefEqProofs only [L25_3, zS, aj, fa_39_5, af, h.h6, aC, k9]
    refine h.next E (by omega) (by decide) (by decide) fun r w1 hr h1 c1 => ?_
    obtain ⟨k, f, a, n, v, u⟩ := o
    simp -implicitDefEqProofs only [zS, fa_39_5, cv_3_26, wrapu (n := (r : Int)) (by omega) (by omega)]
    rw [h1.stu (i := 1) (by omega), set_5]
    obtain ⟨b1, b2, b3, b4, b5, b6, b7⟩ := ho
    simp only at k9
    exact (h1.set E (k, f, a, n, v, r)).four E ⟨b1, b2, b3, b4, b5, .inl (by simp [wB, k9]), b7.1, by simp only; omega⟩ (by omega) (by omega) want
  · simp -implicitDefEqProofs only [L25_3, zS, aj, af, h.h6, aC, eqf k9]
    exact h.four E ho (by omega) (by omega) want
set_option maxHeartbeats 4000000 in
theorem Gen.one (E : Env W q A xs x1 L) (h : Gen W w q g4 g6 A c xs a0 at' o) (ho : Half o) (hat : at' + 6 ≤ 900000000) {m : Nat} (hm : at' + 6 ≤ a0 + m) (want : Int) : P25_1 (.pointer (some ⟨q, 0, none⟩)) x1 (.pointer (some ⟨g4, 0, none⟩)) (.pointer (some ⟨g6, 0, none⟩)) (.int .i64 want) w (GenP W q A c xs a0 m) := by
  apply L25_1_ok
  have yesC : vB o.1 = true → CallR Tryz.prog 24 [.pointer (some ⟨q, 0, none⟩), .int .i64 3] w fun t68 w =>
      wpB (pureRun Tryz.prog (convert 3 26 t68)) fun t69 =>
      effu Tryz.prog (Instr.storeAt 26 (.pointer (some ⟨g6, 0 + 4, none⟩)) t69) w fun w =>
      P25_3 (.pointer (some ⟨q, 0, none⟩)) x1 (.pointer (some ⟨g4, 0, none⟩)) (.pointer (some ⟨g6, 0, none⟩)) (.int .i64 want) w (GenP W q A c xs a0 m) := by
    intro kv
    refine h.next E (by omega) (by decide) (by decide) fun r w1 hr h1 c1 => ?_
    obtain ⟨k, f, a, n, v, u⟩ := o
    simp -implicitDefEqProofs only [zS, cv_3_26, wrapu (n := (r : Int)) (by omega) (by omega)]
    rw [h1.stu (i := 0) (by omega), set_4]
    obtain ⟨b1, b2, b3, b4, b5, b6, b7⟩ := ho
    exact (h1.set E (k, f, a, n, r, u)).three E ⟨b1, b2, b3, b4, .inl kv, b6, by simp only; omega, b7.2⟩ (by omega) (by omega) want
  by_cases k7 : o.1 = 7
  · simp -implicitDefEqProofs only [L25_1, zS, aj, bn, af, h.h6, aC, k7, Int.reduceBEq]
    exact yesC (by rw [k7]; rfl)
  by_cases k8 : o.1 = 8
  · simp -implicitDefEqProofs only [L25_1, zS, aj, bn, af, h.h6, aC, k8, Int.reduceBEq]
    exact yesC (by rw [k8]; rfl)
  by_cases k9 : o.1 = 9
  · simp -implicitDefEqProofs only [L25_1, zS, aj, bn, af, h.h6, aC, k9, Int.reduceBEq]
    exact yesC (by rw [k9]; rfl)
  simp -implicitDefEqProofs only [L25_1, zS, aj, bn, af, h.h6, aC, eqf k7, eqf k8, eqf k9]
  exact h.three E ho (by omega) (by omega) want
def list9 : List Int := [1, 2, 3, 5, 8, 9, 16, 17, 0]
theorem list9_at : ∀ r : Nat, r < 9 → 0 ≤ list9.getD r 0 ∧ list9.getD r 0 ≤ 17 := by decide
theorem wfo0 (k n : Int) : WfO' (k, 0, 0, n, 0, 0) := ⟨⟨Int.le_refl 0, by show (0 : Int) < _; omega⟩, Int.le_refl 0, by show (0 : Int) < _; omega⟩
theorem mayO0 {k : Int} (h1 : 1 ≤ k) (h2 : k ≤ 12) {n : Int} (h0 : 0 ≤ n) (hn : n ≤ nM k) : GenO (k, 0, 0, n, 0, 0) :=
  ⟨.inr (mayO_of h1 h2 ⟨by omega, by rw [frM]; split <;> omega⟩ ⟨by omega, by rw [atM]; split <;> omega⟩ ⟨h0, hn⟩ (.inr rfl) (.inr rfl)), wfo0 k n⟩
theorem genO0 {k : Int} (hk : k = 0 ∨ 1 ≤ k ∧ k ≤ 12) : GenO (k, 0, 0, 0, 0, 0) := by
  rcases hk with rfl | ⟨h1, h2⟩
  · exact ⟨.inl rfl, wfo0 0 0⟩
  · exact mayO0 h1 h2 (by omega) (by rw [nM]; repeat' (split; first | omega | skip); all_goals omega)
theorem half0 {k n : Int} (hk : k = 2 ∨ k = 5 ∨ k = 10 ∨ k = 12 ∨ 6 ≤ k ∧ k ≤ 9) (h0 : 0 ≤ n) (hn : n ≤ nM k) : Half (k, 0, 0, n, 0, 0) := by
  have ho : ofK k ≠ 0 := by
    rw [ofK]; split
    · omega
    · split
      · omega
      · split <;> omega
  exact ⟨⟨by simp only; omega, by simp only; omega⟩, by simp [frM, ho], by simp [atM, ho], ⟨h0, hn⟩, .inr rfl, .inr rfl, wfo0 k n⟩
theorem nM_b {k : Int} (h : nB k = true) (h1 : k ≠ 1) : nM k = 65535 := by simp [nM, h1, h]
set_option maxHeartbeats 8000000 in
theorem Gen.zero (E : Env W q A xs x1 L) {k : Int} (hk : k = 0 ∨ 1 ≤ k ∧ k ≤ 12) (hk1 : k ≠ 1) (h : Gen W w q g4 g6 A c xs a0 at' (k, 0, 0, 0, 0, 0)) (hat : at' + 7 ≤ 900000000) {m : Nat} (hm : at' + 7 ≤ a0 + m) {b : Bool} (hb : b = decide (6 ≤ k ∧ k ≤ 9)) : P25_0 (.pointer (some ⟨q, 0, none⟩)) x1 (.pointer (some ⟨g4, 0, none⟩)) (.pointer (some ⟨g6, 0, none⟩)) (.int .i64 1) (.int .i64 k) (.bool b) w (GenP W q A c xs a0 m) := by
  apply L25_0_ok
  by_cases k69 : 6 ≤ k ∧ k ≤ 9
  · have hb' : b = true := by rw [hb]; simp [k69]
    subst hb'
    simp -implicitDefEqProofs only [L25_0, zS]
    refine h.next E (by omega) (by decide) (by decide) fun r w1 hr h1 c1 => ?_
    simp -implicitDefEqProofs only [zS, aN]
    rw [h1.st (i := 2) (by omega), set_3]
    have hn : nM k = 65535 := nM_b (by simp [nB]; omega) (by omega)
    exact (h1.set E (k, 0, 0, r, 0, 0)).one E (half0 (by omega) (by omega) (by omega)) (by omega) (by omega) 2
  have hb' : b = false := by rw [hb]; simp [k69]
  subst hb'
  by_cases k2 : k = 2
  · subst k2
    simp -implicitDefEqProofs only [L25_0, zS, bs_22_9]
    generalize hz : w.alloc _ = w1
    have c1 : Chg [] w w1 := by rw [← hz]; exact (Chg.refl _ _).alloc _
    have hl : hp w1 w.heap.size = some (.cells (ints list9).toArray 3) := by rw [← hz, ac, if_pos rfl]; rfl
    refine (h.grow c1).next E (by omega) (by decide) (by decide) fun r w2 hr h2 c2 => ?_
    have qW : w.heap.size ≠ q := by have := E.qW; have := h.ch.size; omega
    have hl2 := c2.at hl (by simpa using qW)
    have hr' : r < 9 := by omega
    have la := lit_at hl2 (n := 9) rfl hr'
    have lb := list9_at r hr'
    simp -implicitDefEqProofs only [zS, la.1, af, la.2, aN]
    rw [h2.st (i := 2) (by omega), set_3]
    exact (h2.set E (2, 0, 0, list9.getD r 0, 0, 0)).one E (half0 (by omega) (by omega) (by rw [nM_b (by rfl) (by decide)]; omega)) (by omega) (by omega) 1
  by_cases k5 : k = 5
  · subst k5
    simp -implicitDefEqProofs only [L25_0, zS, bs_22_2, Int.reduceBEq]
    generalize hz : w.alloc _ = w1
    have c1 : Chg [] w w1 := by rw [← hz]; exact (Chg.refl _ _).alloc _
    have hl : hp w1 w.heap.size = some (.cells (ints [1, 2]).toArray 3) := by rw [← hz, ac, if_pos rfl]; rfl
    refine (h.grow c1).next E (by omega) (by decide) (by decide) fun r w2 hr h2 c2 => ?_
    have qW : w.heap.size ≠ q := by have := E.qW; have := h.ch.size; omega
    have hl2 := c2.at hl (by simpa using qW)
    have hr' : r < 2 := by omega
    have la := lit_at hl2 (n := 2) rfl hr'
    simp -implicitDefEqProofs only [zS, la.1, af, la.2]
    exact h2.one E (half0 (by omega) (by omega) (by rw [nM]; repeat' (split; first | omega | skip); all_goals omega)) (by omega) (by omega) _
  have two : ∀ b : Bool, (b = true → k = 10 ∨ k = 12) → P25_2 (.pointer (some ⟨q, 0, none⟩)) x1 (.pointer (some ⟨g4, 0, none⟩)) (.pointer (some ⟨g6, 0, none⟩)) (.bool b) w (GenP W q A c xs a0 m) := by
    intro b hb
    apply L25_2_ok
    cases b with
    | true =>
      simp -implicitDefEqProofs only [L25_2, zS]
      exact h.one E (half0 (by have := hb rfl; omega) (by omega) (by rw [nM]; repeat' (split; first | omega | skip); all_goals omega)) (by omega) (by omega) 1
    | false =>
      simp -implicitDefEqProofs only [L25_2, cnd_false]
      exact h.ans E (genO0 hk) (by omega)
  by_cases k10 : k = 10
  · subst k10
    simp -implicitDefEqProofs only [L25_0, zS]
    exact two true fun _ => .inl rfl
  by_cases k12 : k = 12
  · subst k12
    simp -implicitDefEqProofs only [L25_0, zS]
    exact two true fun _ => .inr rfl
  simp -implicitDefEqProofs only [L25_0, zS, eqf k2, eqf k5, eqf k10, eqf k12]
  exact two false fun h => by cases h
end
theorem opC0 (k : Int) : (#[Value.int .i64 k, .int .i64 0, .int .i64 0, .int .i64 0, .int .u64 0, .int .u64 0] : Array Value) = (opC (k, 0, 0, 0, 0, 0)).toArray := rfl
end Go.Proofs.YtgamnncehjcdiaaGreat

namespace Go.Proofs.YtgamnncehjcdiaaGreat
open Go Ev Go.RowKit

section
variable {W w w' : World}
theorem lit_rd {b : Nat} {xs : List Int} {e : TypeId} (h : hp w b = some (.cells (ints xs).toArray e)) : RdI .i64 w (some ⟨b, 0, none⟩) xs := fun i hi => by
  refine ⟨_, rfl, ?_⟩
  rw [addr_add, cell_ldC, h, ldC_some, Nat.zero_add]
  simp only [ints, List.getElem?_toArray, List.getElem?_map, List.getElem?_eq_getElem hi, List.getD_eq_getElem?_getD]
  rfl
theorem i64_in (i : Int) : (∃ x : Int, IntKind.i64.wrap i = x) := ⟨_, rfl⟩
structure NmW (q : Nat) (A : Option Addr) (cc : Nat) (xs : List Int) (B : Nat) (w : World) : Prop where
  sq : ∃ at' : Nat, hp w q = some (.cells #[.slice A xs.length cc, .int .i64 (at' : Int)] 37) ∧ at' ≤ B
  rd : RdI .i64 w A xs
  ne : ∀ p, A = some p → p.block ≠ q
theorem NmW.N {q : Nat} {A : Option Addr} {cc : Nat} {xs : List Int} {B : Nat} (h : NmW q A cc xs B w) (hB : B ≤ 1000000) {m : Int} (h0 : 0 < m) (h1 : m ≤ 1000000) {K : Value → World → Prop} (hk : ∀ (r : Nat) w', (r : Int) < m → Chg [q] w w' → NmW q A cc xs (B + 1) w' → K (.int .i64 r) w') :
    CallR Tryz.prog 24 [.pointer (some ⟨q, 0, none⟩), .int .i64 m] w K := by
  obtain ⟨at', h2, h3⟩ := h.sq
  refine (c_SeqN h2 h.rd h.ne (by omega) h0 h1).mono ?_
  rintro v w' ⟨⟨r, rfl, hr⟩, hs, hc⟩
  exact hk r w' hr hc ⟨⟨at' + 1, hs, by omega⟩, RdI.chg h.rd hc fun p hp => by simpa using h.ne p hp, h.ne⟩
structure PlE where
  gp : Nat
  g : Nat
  gx : Nat
  q : Nat
  c : CfV
  A : Option Addr
  cc : Nat
  xs : List Int
structure St (m : MdV) (c : CfV) (K : Nat) : Prop where
  wf : Wf m K
  wn : Wn m K
  mc : m.c = c
theorem St.mono {m : MdV} {c : CfV} {K K' : Nat} (h : St m c K) (hk : K ≤ K') : St m c K' := ⟨h.wf.mono hk, h.wn.mono hk, h.mc⟩
structure PlF (W : World) (E : PlE) (w : World) (m mx : MdV) (Kn : List HnV) (K B : Nat) (Fm Fx Fk : Fp) (kv : Value) : Prop where
  chg : Chg [] W w
  hp : Ev.hp w E.gp = some (.cells (pairA E.c E.g E.gx kv) 46)
  I : MdI w E.g m Fm
  X : RfI w E.gx (toRf mx) Fx
  kn : objsT Kn w Fk kv
  sq : ∃ at' : Nat, Ev.hp w E.q = some (.cells #[.slice E.A E.xs.length E.cc, .int .i64 (at' : Int)] 37) ∧ at' ≤ B
  rd : RdI .i64 W E.A E.xs
  ne : ∀ p, E.A = some p → p.block < W.heap.size
  dmx : FDis Fm Fx
  dmk : FDis Fm Fk
  dxk : FDis Fx Fk
  pm : ¬ Fm E.gp
  px : ¬ Fx E.gp
  pk : ¬ Fk E.gp
  qm : ¬ Fm E.q
  qx : ¬ Fx E.q
  qk : ¬ Fk E.q
  pq : E.gp ≠ E.q
  nm : ∀ k, Fm k → W.heap.size ≤ k
  nx : ∀ k, Fx k → W.heap.size ≤ k
  nk : ∀ k, Fk k → W.heap.size ≤ k
  np : W.heap.size ≤ E.gp
  nq : W.heap.size ≤ E.q
  sm : St m E.c K
  sx : St mx E.c K
  kl : Kn.length ≤ K
section
variable {E : PlE} {m mx m' : MdV} {Kn : List HnV} {K K' B : Nat} {Fm Fx Fk F' : Fp} {kv : Value}
theorem PlF.keep (D : PlF W E w m mx Kn K B Fm Fx Fk kv) (hc : Chg [] w w') : PlF W E w' m mx Kn K B Fm Fx Fk kv := by
  obtain ⟨at', h1, h2⟩ := D.sq
  exact ⟨D.chg.trans hc, hc.at D.hp (by simp), D.I.keep hc, D.X.keep hc, (aS _).frame D.kn (ChgP.of0 hc none') (fun _ _ h => h), ⟨at', hc.at h1 (by simp), h2⟩, D.rd, D.ne, D.dmx, D.dmk, D.dxk, D.pm, D.px, D.pk, D.qm, D.qx, D.qk, D.pq, D.nm, D.nx, D.nk, D.np, D.nq, D.sm, D.sx, D.kl⟩
theorem PlF.qlt (D : PlF W E w m mx Kn K B Fm Fx Fk kv) : E.q < w.heap.size := by
  obtain ⟨at', h1, h2⟩ := D.sq
  exact av h1
theorem PlF.plt (D : PlF W E w m mx Kn K B Fm Fx Fk kv) : E.gp < w.heap.size := av D.hp
theorem chgW {a b c : World} {S : Nat → Prop} (h : Chg [] a b) (k : ChgP S b c) (hs : ∀ x, S x → a.heap.size ≤ x) : Chg [] a c :=
  ⟨k.os.trans h.os, k.tape.trans h.tape, k.output.trans h.output, Nat.le_trans h.size k.size, fun x hx _ => by
    rw [k.block x (Nat.lt_of_lt_of_le hx h.size) fun hf => by have := hs x hf; omega]; exact h.block x hx (by simp)⟩
theorem PlF.seq (D : PlF W E w m mx Kn K B Fm Fx Fk kv) {B' : Nat} (hc : Chg [E.q] w w') (hq : ∃ at' : Nat, Ev.hp w' E.q = some (.cells #[.slice E.A E.xs.length E.cc, .int .i64 (at' : Int)] 37) ∧ at' ≤ B') : PlF W E w' m mx Kn K B' Fm Fx Fk kv := by
  have cp : ChgP (fun k => k = E.q) w w' := (ChgP.of hc).mono fun k hk => by simpa using hk
  exact ⟨chgW D.chg cp (fun x hx => by rw [hx]; exact D.nq), hc.at D.hp (by simpa using D.pq), isAt.frame D.I (aT _) cp (fun k h1 h2 => D.qm (h2 ▸ h1)), isAt.frame D.X (bc _) cp (fun k h1 h2 => D.qx (h2 ▸ h1)), (aS _).frame D.kn cp (fun k h1 h2 => D.qk (h2 ▸ h1)), hq, D.rd, D.ne, D.dmx, D.dmk, D.dxk, D.pm, D.px, D.pk, D.qm, D.qx, D.qk, D.pq, D.nm, D.nx, D.nk, D.np, D.nq, D.sm, D.sx, D.kl⟩
theorem PlF.N (D : PlF W E w m mx Kn K B Fm Fx Fk kv) (hB : B ≤ 1000000) {n : Int} (h0 : 0 < n) (h1 : n ≤ 1000000) {Q : Value → World → Prop} (hk : ∀ (r : Nat) w', (r : Int) < n → Chg [E.q] w w' → PlF W E w' m mx Kn K (B + 1) Fm Fx Fk kv → Q (.int .i64 r) w') :
    CallR Tryz.prog 24 [.pointer (some ⟨E.q, 0, none⟩), .int .i64 n] w Q := by
  obtain ⟨at', h2, h3⟩ := D.sq
  refine (c_SeqN h2 (D.rd.keep D.chg.below) (fun p hp => by have := D.ne p hp; have := D.nq; omega) (by omega) h0 h1).mono ?_
  rintro v w' ⟨⟨r, rfl, hr⟩, hs, hc⟩
  exact hk r w' hr hc (D.seq hc ⟨at' + 1, hs, by omega⟩)
theorem Ev.UpdP.dis {F F' G : Fp} (u : UpdP F F' w w') (d : FDis F G) (hG : ∀ k, G k → k < w.heap.size) : FDis F' G := fun k h1 h2 => by
  rcases u.sub k h1 with h | h
  · exact d k h h2
  · have := hG k h2; omega
theorem PlF.updM (D : PlF W E w m mx Kn K B Fm Fx Fk kv) (i : MdI w' E.g m' F') (u : UpdP Fm F' w w') (hk : K ≤ K') (s : St m' E.c K') : PlF W E w' m' mx Kn K' B F' Fx Fk kv := by
  obtain ⟨at', h1, h2⟩ := D.sq
  have sz := D.chg.size
  have kp := u.keep D.hp D.pm
  have kq := u.keep h1 D.qm
  exact ⟨chgW D.chg u.chg D.nm, kp.1, i, isAt.frame D.X (bc _) u.chg (fun k h1 h2 => D.dmx k h2 h1), (aS _).frame D.kn u.chg (fun k h1 h2 => D.dmk k h2 h1), ⟨at', kq.1, h2⟩, D.rd, D.ne, u.dis D.dmx (isAt.lt D.X (bc _)), u.dis D.dmk ((aS _).lt D.kn), D.dxk, kp.2, D.px, D.pk, kq.2, D.qx, D.qk, D.pq, fun k hk => by rcases u.sub k hk with h | h; exact D.nm k h; omega, D.nx, D.nk, D.np, D.nq, s, D.sx.mono hk, Nat.le_trans D.kl hk⟩
theorem PlF.updX (D : PlF W E w m mx Kn K B Fm Fx Fk kv) (i : RfI w' E.gx (toRf m') F') (u : UpdP Fx F' w w') (hk : K ≤ K') (s : St m' E.c K') : PlF W E w' m m' Kn K' B Fm F' Fk kv := by
  obtain ⟨at', h1, h2⟩ := D.sq
  have sz := D.chg.size
  have kp := u.keep D.hp D.px
  have kq := u.keep h1 D.qx
  exact ⟨chgW D.chg u.chg D.nx, kp.1, isAt.frame D.I (aT _) u.chg (fun k h1 h2 => D.dmx k h1 h2), i, (aS _).frame D.kn u.chg (fun k h1 h2 => D.dxk k h2 h1), ⟨at', kq.1, h2⟩, D.rd, D.ne, fun k h1 h2 => u.dis (fun k a b => D.dmx k b a) (isAt.lt D.I (aT _)) k h2 h1, D.dmk, u.dis D.dxk ((aS _).lt D.kn), D.pm, kp.2, D.pk, D.qm, kq.2, D.qk, D.pq, D.nm, fun k hk => by rcases u.sub k hk with h | h; exact D.nx k h; omega, D.nk, D.np, D.nq, D.sm.mono hk, s, Nat.le_trans D.kl hk⟩
end
end
end Go.Proofs.YtgamnncehjcdiaaGreat

namespace Go.Proofs.YtgamnncehjcdiaaGreat
open Go Ev Go.RowKit

section
variable {W W1 w w' : World} {E : PlE} {m mx : MdV} {Kn : List HnV} {K B : Nat} {Fm Fx Fk : Fp} {kv : Value} {o : OpV} {h : HnV} {g5 g6 g7 g8 B0 : Nat}
def AskP (W : World) (E : PlE) (W1 : World) (m mx : MdV) (Kn : List HnV) (K B : Nat) (Fm Fx Fk : Fp) (kv : Value) (v : Value) (w' : World) : Prop :=
  ∃ (n : Int) (o : OpV) (h : HnV), v = .tuple #[.int .i64 n, .agg (opC o).toArray, .agg (hnC h).toArray] ∧ PlF W E w' m mx Kn K B Fm Fx Fk kv ∧ Chg [E.q] W1 w'
theorem pl_c (D : PlF W E w m mx Kn K B Fm Fx Fk kv) {k : Nat} (hk : k < 6) : ldC (hp w E.gp) (0 + 0 + k) = (cfC E.c)[k]? := by
  rw [D.hp, ldC_some, pairA, List.getElem?_toArray, show 0 + 0 + k = k by omega, List.getElem?_append_left (by simpa [cfC] using hk)]
theorem pl_m (D : PlF W E w m mx Kn K B Fm Fx Fk kv) : ldC (hp w E.gp) (0 + 6) = some (.pointer (some ⟨E.g, 0, none⟩)) := by rw [D.hp]; rfl
theorem pl_x (D : PlF W E w m mx Kn K B Fm Fx Fk kv) : ldC (hp w E.gp) (0 + 7) = some (.pointer (some ⟨E.gx, 0, none⟩)) := by rw [D.hp]; rfl
theorem pl_k (D : PlF W E w m mx Kn K B Fm Fx Fk kv) : ldC (hp w E.gp) (0 + 8) = some kv := by rw [D.hp]; rfl
theorem pl_kn (D : PlF W E w m mx Kn K B Fm Fx Fk kv) : ∃ A c, kv = .slice A Kn.length c ∧ RdV w A (Kn.flatMap hnC) := objs_sh ⟨_, D.kn⟩
theorem PlF.newer {B0 : Nat} (D1 : PlF W E W1 m mx Kn K B0 Fm Fx Fk kv) (D : PlF W E w m mx Kn K B Fm Fx Fk kv) {G : Fp} (cp : ChgP G w w') (hG : ∀ k, G k → W1.heap.size ≤ k) : PlF W E w' m mx Kn K B Fm Fx Fk kv := by
  obtain ⟨at', h1, h2⟩ := D.sq
  have lm := isAt.lt D1.I (aT _)
  have lx := isAt.lt D1.X (bc _)
  have lk := (aS _).lt D1.kn
  have lp := D1.plt
  have lq := D1.qlt
  have sz := D1.chg.size
  exact ⟨chgW D.chg cp (fun x hx => by have := hG x hx; omega), cp.at D.hp (fun h => by have := hG _ h; omega), isAt.frame D.I (aT _) cp (fun k h1 h2 => by have := lm k h1; have := hG k h2; omega), isAt.frame D.X (bc _) cp (fun k h1 h2 => by have := lx k h1; have := hG k h2; omega), (aS _).frame D.kn cp (fun k h1 h2 => by have := lk k h1; have := hG k h2; omega), ⟨at', cp.at h1 (fun h => by have := hG _ h; omega), h2⟩, D.rd, D.ne, D.dmx, D.dmk, D.dxk, D.pm, D.px, D.pk, D.qm, D.qx, D.qk, D.pq, D.nm, D.nx, D.nk, D.np, D.nq, D.sm, D.sx, D.kl⟩
theorem chgP_put (w : World) (x : Nat) (c : Array Value) (e : TypeId) : ChgP (fun k => k = x) w (put w x c e) := (ChgP.of (((Chg.refl [x] w).put (.inl (by simp)) c e))).mono fun k hk => by simpa using hk
theorem PlF.put {B0 : Nat} (D1 : PlF W E W1 m mx Kn K B0 Fm Fx Fk kv) (D : PlF W E w m mx Kn K B Fm Fx Fk kv) {x : Nat} (hx : W1.heap.size ≤ x) (c : Array Value) (e : TypeId) : PlF W E (Ev.put w x c e) m mx Kn K B Fm Fx Fk kv :=
  D1.newer D (chgP_put w x c e) fun k hk => by rw [hk]; exact hx
set_option maxHeartbeats 2000000 in
theorem l_asks0 (D1 : PlF W E W1 m mx Kn K B0 Fm Fx Fk kv) (D : PlF W E w m mx Kn K B Fm Fx Fk kv) (hm : mayC E.c = true) (hB : B ≤ 900000) (hW : Chg [E.q] W1 w)
    {c5 c6 : Array Value} {e5 e6 : TypeId} (h5 : hp w g5 = some (.cells c5 e5)) (s5 : c5.size = 6) (h6 : hp w g6 = some (.cells c6 e6)) (s6 : c6.size = 5) (h7 : hp w g7 = some (.cells (opC o).toArray 39)) (h8 : hp w g8 = some (.cells (hnC h).toArray 25))
    (n5 : W1.heap.size ≤ g5) (n6 : W1.heap.size ≤ g6) (n7 : W1.heap.size ≤ g7) (n8 : W1.heap.size ≤ g8) (ne : g5 ≠ g6) (ne58 : g5 ≠ g8) (ne57 : g5 ≠ g7) :
    P8_0 (.pointer (some ⟨E.gp, 0, none⟩)) (.pointer (some ⟨E.q, 0, none⟩)) (.pointer (some ⟨g5, 0, none⟩)) (.pointer (some ⟨g6, 0, none⟩)) (.pointer (some ⟨g7, 0, none⟩)) (.pointer (some ⟨g8, 0, none⟩)) w (AskP W E W1 m mx Kn K (B + 2) Fm Fx Fk kv) := by
  apply L8_0_ok
  obtain ⟨m1, m2, m3, m4⟩ := may_cf hm
  have cd : Chg [] w w.drew := (Chg.refl _ _).drew
  have hq := D1.qlt
  have Dd := D.keep cd
  have c0 : ldC (hp w E.gp) (0 + 0 + 0) = some (.int .i64 E.c.1) := pl_c D (by omega)
  have ldo : ∀ {w' : World} {b : Nat}, hp w' b = some (.cells (opC o).toArray 39) → ldv Tryz.prog 39 (.pointer (some ⟨b, 0, none⟩)) w' = some (.agg (opC o).toArray) := fun hw => aG (t := 39) (c := (opC o).toArray) ag_39 (show (Tryz.prog.info? 39).map (·.size) = some (opC o).toArray.size from sz_39) hw
  have fin : ∀ (w3 : World) (n : Int), Chg [E.q] w.drew w3 → PlF W E w3 m mx Kn K (B + 2) Fm Fx Fk kv →
      effu Tryz.prog (Instr.storeAt 39 (.pointer (some ⟨g5, 0, none⟩)) (.agg (opC o).toArray)) w3 fun w => effu Tryz.prog (Instr.storeAt 25 (.pointer (some ⟨g6, 0, none⟩)) (.agg (hnC h).toArray)) w fun w => wpB (ldv Tryz.prog 39 (.pointer (some ⟨g5, 0, none⟩)) w) fun r5 => wpB (ldv Tryz.prog 25 (.pointer (some ⟨g6, 0, none⟩)) w) fun r6 => AskP W E W1 m mx Kn K (B + 2) Fm Fx Fk kv (.tuple #[.int .i64 n, r5, r6]) w := by
    intro w3 n c3 D3
    have k5 := c3.at (show hp w.drew g5 = _ from h5) (by simp; omega)
    have k6 := c3.at (show hp w.drew g6 = _ from h6) (by simp; omega)
    rw [st_39 rfl rfl (by rw [k5, okC_some]; exact decide_eq_true (by omega)) (by rw [k5]; exact s5), k5, aD]
    have k6' : hp (put w3 g5 (opC o).toArray e5) g6 = _ := (ax ne.symm _ _).trans k6
    rw [st_hn k6' s6]
    have j6 : hp (put (put w3 g5 (opC o).toArray e5) g6 (hnC h).toArray e6) g6 = some (.cells (hnC h).toArray e6) := ap (av k6') _ _
    have j5 : hp (put (put w3 g5 (opC o).toArray e5) g6 (hnC h).toArray e6) g5 = some (.cells (opC o).toArray e5) := (ax ne _ _).trans (ap (av k5) _ _)
    have l5 : ldv Tryz.prog 39 (.pointer (some ⟨g5, 0, none⟩)) (put (put w3 g5 (opC o).toArray e5) g6 (hnC h).toArray e6) = some (.agg (opC o).toArray) := aG (t := 39) (c := (opC o).toArray) ag_39 (show (Tryz.prog.info? 39).map (·.size) = some (opC o).toArray.size from sz_39) j5
    have l6 : ldv Tryz.prog 25 (.pointer (some ⟨g6, 0, none⟩)) (put (put w3 g5 (opC o).toArray e5) g6 (hnC h).toArray e6) = some (.agg (hnC h).toArray) := aG (t := 25) (c := (hnC h).toArray) ag_25 (show (Tryz.prog.info? 25).map (·.size) = some (hnC h).toArray.size from sz_25) j6
    rw [l5, l6, ad, ad]
    refine ⟨n, o, h, rfl, D1.put (D1.put D3 n5 _ _) n6 _ _, ?_⟩
    have cW : Chg [E.q] W1 w3 := (hW.trans (cd.mono (by simp))).trans c3
    exact (cW.put (.inr n5) _ _).put (.inr n6) _ _
  simp -implicitDefEqProofs only [L8_0, zS, fa_46_0, fa_33_0, af, c0, aA, az (n := E.c.1 + 1) (by omega) (by omega), ldo h7, ldo (show hp w.drew g7 = _ from h7), ld_hn h8, ld_hn (show hp w.drew g8 = _ from h8)]
  repeat' (with_reducible apply And.intro)
  all_goals
    refine Dd.N (by omega) (by omega) (by omega) fun r1 v1 h1 k1 D2 => ?_
    have a7 := k1.at (show hp w.drew g7 = _ from h7) (by simp; omega)
    have a8 := k1.at (show hp w.drew g8 = _ from h8) (by simp; omega)
    try simp -implicitDefEqProofs only [ldo a7, ld_hn a8, ad]
    refine D2.N (by omega) (by decide) (by decide) fun r2 v2 h2 k2 D3 => ?_
    have b7 := k2.at a7 (by simp; omega)
    have b8 := k2.at a8 (by simp; omega)
    simp -implicitDefEqProofs only [bp_sub, az (n := (r1 : Int) - r2) (by omega) (by omega), ldo b7, ld_hn b8, ad]
    have f := fin v2 ((r1 : Int) - r2) (k1.trans k2) D3
    have j5 := (k1.trans k2).at (show hp w.drew g5 = _ from h5) (by simp; omega)
    first
      | exact f
      | (rw [st_39 rfl rfl (by rw [j5, okC_some]; exact decide_eq_true (by omega)) (by rw [j5]; exact s5), j5, aD] at f ⊢
         have i8 : hp (Ev.put v2 g5 (opC o).toArray e5) g8 = _ := (ax ne58.symm _ _).trans b8
         simp -implicitDefEqProofs only [ld_hn i8, ad]
         exact f)
theorem PlF.more (D : PlF W E w m mx Kn K B Fm Fx Fk kv) {B' : Nat} (hB : B ≤ B') : PlF W E w m mx Kn K B' Fm Fx Fk kv := by
  obtain ⟨at', h1, h2⟩ := D.sq
  exact ⟨D.chg, D.hp, D.I, D.X, D.kn, ⟨at', h1, by omega⟩, D.rd, D.ne, D.dmx, D.dmk, D.dxk, D.pm, D.px, D.pk, D.qm, D.qx, D.qk, D.pq, D.nm, D.nx, D.nk, D.np, D.nq, D.sm, D.sx, D.kl⟩
theorem AskP.more {B' : Nat} (hB : B ≤ B') {v : Value} (h : AskP W E W1 m mx Kn K B Fm Fx Fk kv v w) : AskP W E W1 m mx Kn K B' Fm Fx Fk kv v w := by
  obtain ⟨n, o, a, e, D, c⟩ := h
  exact ⟨n, o, a, e, D.more hB, c⟩
structure AsW (W : World) (E : PlE) (W1 w : World) (m mx : MdV) (Kn : List HnV) (K B : Nat) (Fm Fx Fk : Fp) (kv : Value) (g5 g6 g7 g8 : Nat) (o : OpV) (h : HnV) : Prop where
  D : PlF W E w m mx Kn K B Fm Fx Fk kv
  hW : Chg [E.q] W1 w
  h5 : hp w g5 = some (.cells (opC oZero).toArray 39)
  h6 : hp w g6 = some (.cells (hnC noH).toArray 25)
  h7 : hp w g7 = some (.cells (opC o).toArray 39)
  h8 : hp w g8 = some (.cells (hnC h).toArray 25)
structure AsN (W1 : World) (g5 g6 g7 g8 : Nat) : Prop where
  n5 : W1.heap.size ≤ g5
  n6 : W1.heap.size ≤ g6
  n7 : W1.heap.size ≤ g7
  n8 : W1.heap.size ≤ g8
  e56 : g5 ≠ g6
  e57 : g5 ≠ g7
  e58 : g5 ≠ g8
  e68 : g6 ≠ g8
  e78 : g7 ≠ g8
theorem AsW.N (S : AsW W E W1 w m mx Kn K B Fm Fx Fk kv g5 g6 g7 g8 o h) (G : AsN W1 g5 g6 g7 g8) (hq : E.q < W1.heap.size) (hB : B ≤ 900000) {n : Int} (h0 : 0 < n) (h1 : n ≤ 1000000) {Q : Value → World → Prop} (hk : ∀ (r : Nat) w', (r : Int) < n → AsW W E W1 w' m mx Kn K (B + 1) Fm Fx Fk kv g5 g6 g7 g8 o h → Q (.int .i64 r) w') :
    CallR Tryz.prog 24 [.pointer (some ⟨E.q, 0, none⟩), .int .i64 n] w Q := by
  obtain ⟨n5, n6, n7, n8, _⟩ := G
  exact S.D.N (by omega) h0 h1 fun r w' hr hc D' => hk r w' hr ⟨D', S.hW.trans hc, hc.at S.h5 (by simp; omega), hc.at S.h6 (by simp; omega), hc.at S.h7 (by simp; omega), hc.at S.h8 (by simp; omega)⟩
theorem AsW.keep (S : AsW W E W1 w m mx Kn K B Fm Fx Fk kv g5 g6 g7 g8 o h) (hc : Chg [] w w') : AsW W E W1 w' m mx Kn K B Fm Fx Fk kv g5 g6 g7 g8 o h :=
  ⟨S.D.keep hc, S.hW.trans (hc.mono (by simp)), hc.at S.h5 (by simp), hc.at S.h6 (by simp), hc.at S.h7 (by simp), hc.at S.h8 (by simp)⟩
theorem AsW.go (D1 : PlF W E W1 m mx Kn K B0 Fm Fx Fk kv) (S : AsW W E W1 w m mx Kn K B Fm Fx Fk kv g5 g6 g7 g8 o h) (G : AsN W1 g5 g6 g7 g8) (hm : mayC E.c = true) {T : Nat} (hB : B ≤ T) (hT : T ≤ 900000) :
    P8_0 (.pointer (some ⟨E.gp, 0, none⟩)) (.pointer (some ⟨E.q, 0, none⟩)) (.pointer (some ⟨g5, 0, none⟩)) (.pointer (some ⟨g6, 0, none⟩)) (.pointer (some ⟨g7, 0, none⟩)) (.pointer (some ⟨g8, 0, none⟩)) w (AskP W E W1 m mx Kn K (T + 2) Fm Fx Fk kv) :=
  l_asks0 D1 (S.D.more hB) hm hT S.hW S.h5 rfl S.h6 rfl S.h7 S.h8 G.n5 G.n6 G.n7 G.n8 G.e56 G.e58 G.e57
theorem AsW.st (D1 : PlF W E W1 m mx Kn K B0 Fm Fx Fk kv) (S : AsW W E W1 w m mx Kn K B Fm Fx Fk kv g5 g6 g7 g8 o h) (G : AsN W1 g5 g6 g7 g8) (hm : mayC E.c = true) {T : Nat} (hB : B ≤ T) (hT : T ≤ 900000) (h' : HnV) :
    effu Tryz.prog (Instr.storeAt 25 (.pointer (some ⟨g8, 0, none⟩)) (.agg (hnC h').toArray)) w fun w => P8_0 (.pointer (some ⟨E.gp, 0, none⟩)) (.pointer (some ⟨E.q, 0, none⟩)) (.pointer (some ⟨g5, 0, none⟩)) (.pointer (some ⟨g6, 0, none⟩)) (.pointer (some ⟨g7, 0, none⟩)) (.pointer (some ⟨g8, 0, none⟩)) w (AskP W E W1 m mx Kn K (T + 2) Fm Fx Fk kv) := by
  rw [st_hn S.h8 rfl]
  have S' : AsW W E W1 (Ev.put w g8 (hnC h').toArray 25) m mx Kn K B Fm Fx Fk kv g5 g6 g7 g8 o h' :=
    ⟨D1.put S.D G.n8 _ _, S.hW.put (.inr G.n8) _ _, (ax G.e58 _ _).trans S.h5, (ax G.e68 _ _).trans S.h6, (ax G.e78 _ _).trans S.h7, ap (av S.h8) _ _⟩
  exact S'.go D1 G hm hB hT
end
end Go.Proofs.YtgamnncehjcdiaaGreat

namespace Go.Proofs.YtgamnncehjcdiaaGreat
open Go Ev Go.RowKit

section
variable {W W1 w w' : World} {E : PlE} {m mx : MdV} {Kn : List HnV} {K B : Nat} {Fm Fx Fk : Fp} {kv : Value} {o : OpV} {h x : HnV} {g8 g9 g10 g14 g16 B0 nn : Nat}
def AnsP (W : World) (E : PlE) (W1 : World) (m mx : MdV) (Kn : List HnV) (K B : Nat) (Fm Fx Fk : Fp) (kv : Value) (v : Value) (w' : World) : Prop :=
  ∃ (r : RsV), v = .agg (rsC r).toArray ∧ PlF W E w' m mx Kn K B Fm Fx Fk kv ∧ Chg [E.q] W1 w'
structure AnW (W : World) (E : PlE) (W1 w : World) (m mx : MdV) (Kn : List HnV) (K B : Nat) (Fm Fx Fk : Fp) (kv : Value) (g8 g9 g10 : Nat) (o : OpV) (h : HnV) : Prop where
  D1 : ∃ B0, PlF W E W1 m mx Kn K B0 Fm Fx Fk kv
  D : PlF W E w m mx Kn K B Fm Fx Fk kv
  hW : Chg [E.q] W1 w
  h8 : hp w g8 = some (.cells (opC o).toArray 39)
  h9 : hp w g9 = some (.cells (hnC h).toArray 25)
  h10 : hp w g10 = some (.cells (rsC noR).toArray 28)
  n8 : W1.heap.size ≤ g8
  n9 : W1.heap.size ≤ g9
  n10 : W1.heap.size ≤ g10
theorem AnW.qlt (S : AnW W E W1 w m mx Kn K B Fm Fx Fk kv g8 g9 g10 o h) : E.q < W1.heap.size := by
  obtain ⟨B0, D1⟩ := S.D1
  exact D1.qlt
theorem AnW.qch (S : AnW W E W1 w m mx Kn K B Fm Fx Fk kv g8 g9 g10 o h) {B' : Nat} (hc : Chg [E.q] w w') (D : PlF W E w' m mx Kn K B' Fm Fx Fk kv) : AnW W E W1 w' m mx Kn K B' Fm Fx Fk kv g8 g9 g10 o h := by
  have := S.qlt
  have := S.n8
  have := S.n9
  have := S.n10
  exact ⟨S.D1, D, S.hW.trans hc, hc.at S.h8 (by simp; omega), hc.at S.h9 (by simp; omega), hc.at S.h10 (by simp; omega), S.n8, S.n9, S.n10⟩
theorem AnW.N (S : AnW W E W1 w m mx Kn K B Fm Fx Fk kv g8 g9 g10 o h) (hB : B ≤ 900000) {n : Int} (h0 : 0 < n) (h1 : n ≤ 1000000) {Q : Value → World → Prop} (hk : ∀ (r : Nat) w', (r : Int) < n → Chg [E.q] w w' → AnW W E W1 w' m mx Kn K (B + 1) Fm Fx Fk kv g8 g9 g10 o h → Q (.int .i64 r) w') :
    CallR Tryz.prog 24 [.pointer (some ⟨E.q, 0, none⟩), .int .i64 n] w Q :=
  S.D.N (by omega) h0 h1 fun r w' hr hc D' => hk r w' hr hc (S.qch hc D')
theorem AnW.keep (S : AnW W E W1 w m mx Kn K B Fm Fx Fk kv g8 g9 g10 o h) (hc : Chg [] w w') : AnW W E W1 w' m mx Kn K B Fm Fx Fk kv g8 g9 g10 o h :=
  ⟨S.D1, S.D.keep hc, S.hW.trans (hc.mono (by simp)), hc.at S.h8 (by simp), hc.at S.h9 (by simp), hc.at S.h10 (by simp), S.n8, S.n9, S.n10⟩
theorem AnW.put (S : AnW W E W1 w m mx Kn K B Fm Fx Fk kv g8 g9 g10 o h) {y : Nat} (hy : W1.heap.size ≤ y) (y8 : y ≠ g8) (y9 : y ≠ g9) (y10 : y ≠ g10) (c : Array Value) (e : TypeId) : AnW W E W1 (Ev.put w y c e) m mx Kn K B Fm Fx Fk kv g8 g9 g10 o h := by
  obtain ⟨B0, D1⟩ := S.D1
  exact ⟨⟨B0, D1⟩, D1.put S.D hy _ _, S.hW.put (.inr hy) _ _, (ax y8.symm _ _).trans S.h8, (ax y9.symm _ _).trans S.h9, (ax y10.symm _ _).trans S.h10, S.n8, S.n9, S.n10⟩
theorem AnW.ans (S : AnW W E W1 w m mx Kn K B Fm Fx Fk kv g8 g9 g10 o h) (r : RsV) {T : Nat} (hT : B ≤ T) :
    effu Tryz.prog (Instr.storeAt 28 (.pointer (some ⟨g10, 0, none⟩)) (.agg (rsC r).toArray)) w fun w => wpB (ldv Tryz.prog 28 (.pointer (some ⟨g10, 0, none⟩)) w) fun r10 => AnsP W E W1 m mx Kn K T Fm Fx Fk kv r10 w := by
  obtain ⟨B0, D1⟩ := S.D1
  rw [st_res S.h10 rfl, aZ (ap (av S.h10) _ _), ad]
  exact ⟨r, rfl, (D1.put S.D S.n10 _ _).more hT, S.hW.put (.inr S.n10) _ _⟩
end
end Go.Proofs.YtgamnncehjcdiaaGreat

namespace Go.Proofs.YtgamnncehjcdiaaGreat
open Go Ev Go.RowKit

section
variable {W W1 w w' : World} {E : PlE} {m mx : MdV} {Kn : List HnV} {K B : Nat} {Fm Fx Fk : Fp} {kv : Value} {o : OpV} {h x : HnV} {g8 g9 g10 g11 B0 nn : Nat}
def codesL : List Int := [0, 3, 4, 7, 6, 2]
theorem ak {b r : Nat} (hr : r < 6) : pureRun Tryz.prog (Instr.indexAt 104 (.slice (some ⟨b, 0, none⟩) 6 6) (.int .i64 (r : Int))) = some (.pointer (some ⟨b, 0 + r * 1, none⟩)) ∧ ∀ {e : TypeId}, ldC (some (.cells (ints codesL).toArray e)) (0 + r * 1) = some (.int .i64 (codesL.getD r 0)) := by
  constructor
  · have := ia_104 (b := b) (p := 0) (n := 6) (c := 6) (j := .i64) (i := (r : Int)) (by omega) (by omega)
    rw [Int.toNat_natCast] at this
    exact this
  · intro e
    have : r = 0 ∨ r = 1 ∨ r = 2 ∨ r = 3 ∨ r = 4 ∨ r = 5 := by omega
    rcases this with rfl | rfl | rfl | rfl | rfl | rfl <;> rfl
end
end Go.Proofs.YtgamnncehjcdiaaGreat

namespace Go.Proofs.YtgamnncehjcdiaaGreat
open Go Ev Go.RowKit

section
variable {W W1 w w' w2 : World} {E : PlE} {m mx m' : MdV} {Kn Kn' : List HnV} {K K' B : Nat} {Fm Fx Fk F' : Fp} {kv kv' : Value} {h : HnV} {o : OpV} {g13 g14 g19 : Nat} {n : Int} {x2 : Value} {i : Nat}
theorem setWord_c (m : MdV) (h : HnV) (n y : Int) : (setWordV m h n y).c = m.c := by
  unfold setWordV
  repeat' split
  all_goals rfl
theorem does_c (m : MdV) (w : Int) (o : OpV) (h : HnV) : (doesV m w o h).c = m.c := by
  unfold doesV
  repeat' split
  all_goals first | rfl | exact setWord_c _ _ _ _
theorem creates_c (m : MdV) (x : Int) (r : RsV) : (createsV m x r).2.c = m.c := by
  unfold createsV
  repeat' split
  all_goals rfl
theorem gives_c (m : MdV) (x : Int) (h : HnV) (r : RsV) : (givesV m x h r).2.c = m.c := by
  unfold givesV
  split
  · rfl
  split
  · rfl
  · dsimp only
    split
    · rfl
    split
    · rfl
    split
    · rfl
    · rfl
theorem do_c (m : MdV) (w : Int) (o : OpV) (h : HnV) (r : RsV) : (doV m w o h r).2.c = m.c := by
  unfold doV
  split
  · rfl
  split
  · split
    · dsimp only
      split
      · exact does_c _ _ _ _
      · rfl
    · rfl
  split
  · exact creates_c _ _ _
  · exact gives_c _ _ _ _
theorem back_c (m : MdV) (s : Int) : (backV m s).2.c = m.c := by
  unfold backV
  repeat' split
  all_goals rfl
theorem St.doV (s : St m E.c K) (hK : K ≤ 1000) (w : Int) (o : OpV) (h : HnV) (r : RsV) : St (doV m w o h r).2 E.c (K + 1) := ⟨s.wf.doV w o h r, s.wn.doV (by omega) w o h r, (do_c m w o h r).trans s.mc⟩
theorem St.back (s : St m E.c K) (n : Int) : St (backV m n).2 E.c K := ⟨s.wf.back n, s.wn.back n, (back_c m n).trans s.mc⟩
theorem PlF.updK (D : PlF W E w m mx Kn K B Fm Fx Fk kv) (i : objsT Kn' w2 F' kv') (u : UpdP Fk F' w w2) (hk : K ≤ K') (hl : Kn'.length ≤ K') : PlF W E (Ev.put w2 E.gp (pairA E.c E.g E.gx kv') 46) m mx Kn' K' B Fm Fx F' kv' := by
  obtain ⟨at', h1, h2⟩ := D.sq
  have sz := D.chg.size
  have kp := u.keep D.hp D.pk
  have kq := u.keep h1 D.qk
  have cp : ChgP (fun k => Fk k ∨ k = E.gp) w (Ev.put w2 E.gp (pairA E.c E.g E.gx kv') 46) := by
    have a := u.chg
    refine ⟨a.os, a.tape, a.output, by simpa using a.size, fun k hk hn => ?_⟩
    rw [ax (fun e => hn (.inr e))]
    exact a.block k hk fun h => hn (.inl h)
  exact ⟨chgW D.chg cp (fun x hx => by rcases hx with h | h; exact D.nk x h; rw [h]; exact D.np), ap (av kp.1) _ _,
    isAt.frame D.I (aT _) cp (fun k h1 h2 => by rcases h2 with h | h; exact D.dmk k h1 h; exact D.pm (h ▸ h1)),
    isAt.frame D.X (bc _) cp (fun k h1 h2 => by rcases h2 with h | h; exact D.dxk k h1 h; exact D.px (h ▸ h1)),
    (aS _).frame i (chgP_put _ _ _ _) (fun k h1 h2 => kp.2 (h2 ▸ h1)), ⟨at', (ax D.pq.symm _ _).trans kq.1, h2⟩, D.rd, D.ne, D.dmx,
    fun k h1 h2 => u.dis (fun k a b => D.dmk k b a) (isAt.lt D.I (aT _)) k h2 h1, fun k h1 h2 => u.dis (fun k a b => D.dxk k b a) (isAt.lt D.X (bc _)) k h2 h1,
    D.pm, D.px, kp.2, D.qm, D.qx, kq.2, D.pq, D.nm, D.nx, fun k hk => by rcases u.sub k hk with h | h; exact D.nk k h; omega, D.np, D.nq, D.sm.mono hk, D.sx.mono hk, hl⟩
end
end Go.Proofs.YtgamnncehjcdiaaGreat

namespace Go.Proofs.YtgamnncehjcdiaaGreat
open Go Ev Go.RowKit

def sqn (xs : List Int) (a : Nat) (n : Int) : Nat := ((xs.getD a 0) % n).toNat
theorem sqn_lt (xs : List Int) (a : Nat) {n : Int} (h : 0 < n) : ((sqn xs a n : Nat) : Int) < n := by
  have h1 := Int.emod_nonneg (xs.getD a 0) (b := n) (by omega)
  have h2 := Int.emod_lt_of_pos (xs.getD a 0) h
  unfold sqn; omega
set_option maxHeartbeats 1000000 in
theorem c_SeqNf {w : World} {g : Nat} {A : Option Addr} {c : Nat} {xs : List Int} {at' : Nat} (hb : hp w g = some (.cells #[.slice A xs.length c, .int .i64 at'] 37)) (hA : RdI .i64 w A xs) (hat : at' ≤ 1000000000) {m : Int} (h0 : 0 < m) (h1 : m ≤ 1000000) :
    CallR Tryz.prog 24 [.pointer (some ⟨g, 0, none⟩), .int .i64 m] w fun v w' => v = .int .i64 ((sqn xs at' m : Nat) : Int) ∧ hp w' g = some (.cells #[.slice A xs.length c, .int .i64 ((at' + 1 : Nat) : Int)] 37) ∧ Chg [g] w w' := by
  apply F24_ok
  have fin : ∀ (w0 : World), Chg [] w w0 → P24_0 (.pointer (some ⟨g, 0, none⟩)) (.int .i64 m) (.int .i64 (xs.getD at' 0)) w0 fun v w' => v = .int .i64 ((sqn xs at' m : Nat) : Int) ∧ hp w' g = some (.cells #[.slice A xs.length c, .int .i64 ((at' + 1 : Nat) : Int)] 37) ∧ Chg [g] w w' := by
    intro w0 hc0
    apply L24_0_ok
    have hb0 := hc0.at hb (by simp)
    have ok : okC (hp w0 g) (0 + 1 + 1) = true := by rw [hb0]; rfl
    have e1 : (#[Value.slice A xs.length c, .int .i64 at'].setIfInBounds (0 + 1) (.int .i64 ((at' : Int) + 1))) = #[.slice A xs.length c, .int .i64 ((at' + 1 : Nat) : Int)] := by rw [Int.natCast_add at' 1]; rfl
    simp -implicitDefEqProofs only [L24_0, zS, fa_37_1, af, hb0, t2_1, aA, az (n := (at' : Int) + 1) (by omega) (by omega), st_3 (w := w0) (b := g) (o := 0 + 1) (v := .int .i64 ((at' : Int) + 1)) rfl rfl ok, br, aD, e1]
    refine (c_Number (xs.getD at' 0) m _ h0 (by omega)).step ?_
    have hp1 : Chg [g] w0 (put w0 g #[.slice A xs.length c, .int .i64 ((at' + 1 : Nat) : Int)] 37) := (Chg.refl _ _).put (.inl (by simp)) _ _
    have hr := Int.emod_nonneg (xs.getD at' 0) (b := m) (by omega)
    refine ⟨by rw [sqn, Int.toNat_of_nonneg hr], ap (av hb0) _ _, (hc0.mono (by simp)).trans hp1⟩
  have hd : Chg [] w w.drew := (Chg.refl _ _).drew
  by_cases hlt : (at' : Int) < xs.length
  · obtain ⟨q, q1, q2⟩ := (hA.drew.drew).at (P := Tryz.prog) (c := c) (j := .i64) Tryz.underlying22 Tryz.underlying3 sz_3 (i := (at' : Int)) (by omega) hlt
    rw [Int.toNat_natCast] at q2
    simp -implicitDefEqProofs only [F24, zS, fa_37_0, fa_37_1, af, aY, hb, t2_0, t2_1, len_22, hlt, q1, q2]
    exact fin _ hd.drew
  · have e0 : xs.getD at' 0 = 0 := by rw [List.getD_eq_getElem?_getD, List.getElem?_eq_none (by omega)]; rfl
    simp -implicitDefEqProofs only [F24, zS, fa_37_0, fa_37_1, af, aY, hb, t2_0, t2_1, len_22, hlt]
    have := fin _ hd
    rw [e0] at this
    exact this
def genT (xs : List Int) (k n : Int) (a : Nat) : OpV × Nat :=
  if k = 9 then ((k, 0, 0, n, sqn xs a 3, sqn xs (a + 1) 4), a + 4)
  else if k = 7 ∨ k = 8 then ((k, 0, 0, n, sqn xs a 3, 0), a + 3)
  else ((k, 0, 0, n, 0, 0), a + 2)
def cutO (o : OpV) : OpV := (o.1, 0, 0, o.2.2.2.1, o.2.2.2.2.1, o.2.2.2.2.2)
theorem c_at_nil {w : World} {g : Nat} {v : Value} (h : IsL w g v []) (kd : Int) : CallR Tryz.prog 59 [v, .int .i64 kd] w fun r w' => r = .slice none 0 0 ∧ w' = w := by
  obtain ⟨A, c, vs, rfl, _⟩ := h
  apply F59_ok
  simp -implicitDefEqProofs only [F59]
  apply L59_0_ok
  have : ¬ (0 : Int) < ((([] : List (List OpV)).length : Nat) : Int) := by simp
  simp -implicitDefEqProofs only [L59_0, zS, len_113, this]
  exact ⟨by trivial, by trivial⟩
def GenQ (W : World) (q : Nat) (A : Option Addr) (c : Nat) (xs : List Int) (a0 m : Nat) (G : OpV → Nat → Prop) (v : Value) (w' : World) : Prop := ∃ o at', v = .agg (opC o).toArray ∧ hp w' q = some (.cells #[.slice A xs.length c, .int .i64 ((at' : Nat) : Int)] 37) ∧ a0 ≤ at' ∧ at' ≤ a0 + m ∧ Chg [q] W w' ∧ G o at'
section
variable {W w : World} {q g4 g6 : Nat} {A : Option Addr} {c : Nat} {xs : List Int} {a0 at' : Nat} {o : OpV} {x1 : Value} {G : OpV → Nat → Prop}
theorem Gen.nextF (E : Env W q A xs x1 []) (h : Gen W w q g4 g6 A c xs a0 at' o) (hat : at' + 1 ≤ 900000000) {m : Int} (h0 : 0 < m) (h1 : m ≤ 1000000) {K : Value → World → Prop} (hk : ∀ w', Gen W w' q g4 g6 A c xs a0 (at' + 1) o → Chg [q] w w' → K (.int .i64 ((sqn xs at' m : Nat) : Int)) w') :
    CallR Tryz.prog 24 [.pointer (some ⟨q, 0, none⟩), .int .i64 m] w K := by
  refine (c_SeqNf h.sq (RdI.chg E.hA h.ch fun p hp => by simpa using E.hne p hp) (by have := h.at2; omega) h0 h1).mono ?_
  rintro v w' ⟨rfl, hs, hc⟩
  have n4 : g4 ≠ q := by have := h.g4W; have := E.qW; omega
  have n6 : g6 ≠ q := by have := h.g6W; have := E.qW; omega
  exact hk w' ⟨hs, hc.at h.h4 (by simpa using n4), hc.at h.h6 (by simpa using n6), h.ne, h.g4W, h.g6W, h.ch.trans hc, by have := h.at1; omega, hat⟩ hc
theorem Gen.ansF (E : Env W q A xs x1 []) (h : Gen W w q g4 g6 A c xs a0 at' o) {m : Nat} (hm : at' ≤ a0 + m) (hG : G o at') : wpB (ldv Tryz.prog 39 (.pointer (some ⟨g6, 0, none⟩)) w) fun t21 =>
    effu Tryz.prog (Instr.storeAt 39 (.pointer (some ⟨g4, 0, none⟩)) t21) w fun w =>
    wpB (ldv Tryz.prog 39 (.pointer (some ⟨g4, 0, none⟩)) w) fun r4 => GenQ W q A c xs a0 m G r4 w := by
  have hld := aG ag_39 (show (Tryz.prog.info? 39).map (·.size) = some (opC o).toArray.size from sz_39) h.h6
  rw [hld, ad, st_39 (by rfl) (by rfl) (by rw [h.h4]; rfl) (by rw [h.h4]; rfl), h.h4, aD]
  have h4 : hp (put w g4 (opC o).toArray 39) g4 = some (.cells (opC o).toArray 39) := ap (av h.h4) _ _
  rw [aG ag_39 (show (Tryz.prog.info? 39).map (·.size) = some (opC o).toArray.size from sz_39) h4, ad]
  exact ⟨o, at', rfl, by rw [ax (by have := h.g4W; have := E.qW; omega)]; exact h.sq, h.at1, hm, h.ch.put (.inr h.g4W) _ _, hG⟩
set_option maxHeartbeats 4000000 in
theorem Gen.fourF (E : Env W q A xs x1 []) (h : Gen W w q g4 g6 A c xs a0 at' o) (hat : at' + 4 ≤ 900000000) {m : Nat} (hm : at' + 4 ≤ a0 + m) (want : Int) (hG : ∀ f a, G (o.1, f, a, o.2.2.2.1, o.2.2.2.2.1, o.2.2.2.2.2) (at' + 2)) : P25_4 (.pointer (some ⟨q, 0, none⟩)) x1 (.pointer (some ⟨g4, 0, none⟩)) (.pointer (some ⟨g6, 0, none⟩)) (.int .i64 want) w (GenQ W q A c xs a0 m G) := by
  apply L25_4_ok
  simp -implicitDefEqProofs only [L25_4, zS]
  refine (c_at_nil (E.il.keep h.ch) want).step ?_
  obtain ⟨k, f, a, n, v, u⟩ := o
  simp only at hG
  simp -implicitDefEqProofs only [zS, len_115, show ((((0 : Nat) : Int)) == 0) = true from rfl, fa_39_1, fa_39_2]
  refine h.nextF E (by omega) (by decide) (by decide) fun w3 h3 _ => ?_
  refine h3.nextF E (by omega) (by decide) (by decide) fun w4 h4 _ => ?_
  rw [h4.st (i := 0) (by omega), set_1]
  have h5 := h4.set E (k, (sqn xs at' 5 : Nat), a, n, v, u)
  rw [h5.st (i := 1) (by omega), set_2]
  exact (h5.set E (k, (sqn xs at' 5 : Nat), (sqn xs (at' + 1) 9 : Nat), n, v, u)).ansF E (by omega) (hG _ _)
set_option maxHeartbeats 4000000 in
theorem Gen.threeF (E : Env W q A xs x1 []) {k n v : Int} (h : Gen W w q g4 g6 A c xs a0 at' (k, 0, 0, n, v, 0)) (hat : at' + 5 ≤ 900000000) {m : Nat} (hm : at' + 5 ≤ a0 + m) (want : Int) (hG : if k = 9 then ∀ f a, G (k, f, a, n, v, sqn xs at' 4) (at' + 3) else ∀ f a, G (k, f, a, n, v, 0) (at' + 2)) : P25_3 (.pointer (some ⟨q, 0, none⟩)) x1 (.pointer (some ⟨g4, 0, none⟩)) (.pointer (some ⟨g6, 0, none⟩)) (.int .i64 want) w (GenQ W q A c xs a0 m G) := by
  apply L25_3_ok
  by_cases k9 : k = 9
  · rw [if_pos k9] at hG
    simp -implicitDefEqProofs only [L25_3, zS, aj, fa_39_5, af, h.h6, aC, k9]
    refine h.nextF E (by omega) (by decide) (by decide) fun w1 h1 c1 => ?_
    have hr := sqn_lt xs at' (n := 4) (by decide)
    simp -implicitDefEqProofs only [zS, fa_39_5, cv_3_26, wrapu (n := ((sqn xs at' 4 : Nat) : Int)) (by omega) (by omega)]
    rw [h1.stu (i := 1) (by omega), set_5]
    exact (h1.set E (k, 0, 0, n, v, (sqn xs at' 4 : Nat))).fourF E (by omega) (by omega) want (fun f a => hG f a)
  · rw [if_neg k9] at hG
    simp -implicitDefEqProofs only [L25_3, zS, aj, af, h.h6, aC, eqf k9]
    exact h.fourF E (by omega) (by omega) want (fun f a => hG f a)
set_option maxHeartbeats 4000000 in
theorem Gen.oneF (E : Env W q A xs x1 []) {k n : Int} (h : Gen W w q g4 g6 A c xs a0 at' (k, 0, 0, n, 0, 0)) (hat : at' + 6 ≤ 900000000) {m : Nat} (hm : at' + 6 ≤ a0 + m) (want : Int) (hG : ∀ o, cutO o = (genT xs k n at').1 → G o (genT xs k n at').2) : P25_1 (.pointer (some ⟨q, 0, none⟩)) x1 (.pointer (some ⟨g4, 0, none⟩)) (.pointer (some ⟨g6, 0, none⟩)) (.int .i64 want) w (GenQ W q A c xs a0 m G) := by
  apply L25_1_ok
  have yesC : (k = 7 ∨ k = 8 ∨ k = 9) → CallR Tryz.prog 24 [.pointer (some ⟨q, 0, none⟩), .int .i64 3] w fun t68 w =>
      wpB (pureRun Tryz.prog (convert 3 26 t68)) fun t69 =>
      effu Tryz.prog (Instr.storeAt 26 (.pointer (some ⟨g6, 0 + 4, none⟩)) t69) w fun w =>
      P25_3 (.pointer (some ⟨q, 0, none⟩)) x1 (.pointer (some ⟨g4, 0, none⟩)) (.pointer (some ⟨g6, 0, none⟩)) (.int .i64 want) w (GenQ W q A c xs a0 m G) := by
    intro kv
    refine h.nextF E (by omega) (by decide) (by decide) fun w1 h1 c1 => ?_
    have hr := sqn_lt xs at' (n := 3) (by decide)
    simp -implicitDefEqProofs only [zS, cv_3_26, wrapu (n := ((sqn xs at' 3 : Nat) : Int)) (by omega) (by omega)]
    rw [h1.stu (i := 0) (by omega), set_4]
    refine (h1.set E (k, 0, 0, n, (sqn xs at' 3 : Nat), 0)).threeF E (by omega) (by omega) want ?_
    by_cases k9 : k = 9
    · rw [if_pos k9]
      have e : genT xs k n at' = (((k, 0, 0, n, sqn xs at' 3, sqn xs (at' + 1) 4) : OpV), at' + 4) := by rw [genT, if_pos k9]
      rw [e] at hG
      exact fun f a => hG _ rfl
    · rw [if_neg k9]
      have e : genT xs k n at' = (((k, 0, 0, n, sqn xs at' 3, 0) : OpV), at' + 3) := by rw [genT, if_neg k9, if_pos (by omega)]
      rw [e] at hG
      exact fun f a => hG _ rfl
  by_cases k7 : k = 7
  · simp -implicitDefEqProofs only [L25_1, zS, aj, bn, af, h.h6, aC, k7, Int.reduceBEq]
    exact yesC (by omega)
  by_cases k8 : k = 8
  · simp -implicitDefEqProofs only [L25_1, zS, aj, bn, af, h.h6, aC, k8, Int.reduceBEq]
    exact yesC (by omega)
  by_cases k9 : k = 9
  · simp -implicitDefEqProofs only [L25_1, zS, aj, bn, af, h.h6, aC, k9, Int.reduceBEq]
    exact yesC (by omega)
  simp -implicitDefEqProofs only [L25_1, zS, aj, bn, af, h.h6, aC, eqf k7, eqf k8, eqf k9]
  refine h.threeF E (by omega) (by omega) want ?_
  rw [if_neg k9]
  have e : genT xs k n at' = (((k, 0, 0, n, 0, 0) : OpV), at' + 2) := by rw [genT, if_neg k9, if_neg (by omega)]
  rw [e] at hG
  exact fun f a => hG _ rfl
def genK (xs : List Int) (k : Int) (a : Nat) : OpV × Nat :=
  if 6 ≤ k ∧ k ≤ 9 then genT xs k (sqn xs a 5) (a + 1)
  else if k = 2 then genT xs k (list9.getD (sqn xs a 9) 0) (a + 1)
  else if k = 5 then genT xs k 0 (a + 1)
  else if k = 10 ∨ k = 12 then genT xs k 0 a
  else ((k, 0, 0, 0, 0, 0), a)
set_option maxHeartbeats 8000000 in
theorem Gen.zeroF (E : Env W q A xs x1 []) {k : Int} (hk1 : k ≠ 1) (h : Gen W w q g4 g6 A c xs a0 at' (k, 0, 0, 0, 0, 0)) (hat : at' + 7 ≤ 900000000) {m : Nat} (hm : at' + 7 ≤ a0 + m) {b : Bool} (hb : b = decide (6 ≤ k ∧ k ≤ 9)) (hG : ∀ o, cutO o = (genK xs k at').1 → G o (genK xs k at').2) : P25_0 (.pointer (some ⟨q, 0, none⟩)) x1 (.pointer (some ⟨g4, 0, none⟩)) (.pointer (some ⟨g6, 0, none⟩)) (.int .i64 1) (.int .i64 k) (.bool b) w (GenQ W q A c xs a0 m G) := by
  apply L25_0_ok
  by_cases k69 : 6 ≤ k ∧ k ≤ 9
  · have hb' : b = true := by rw [hb]; simp [k69]
    subst hb'
    simp -implicitDefEqProofs only [L25_0, zS]
    refine h.nextF E (by omega) (by decide) (by decide) fun w1 h1 c1 => ?_
    simp -implicitDefEqProofs only [zS, aN]
    rw [h1.st (i := 2) (by omega), set_3]
    rw [genK, if_pos k69] at hG
    exact (h1.set E (k, 0, 0, (sqn xs at' 5 : Nat), 0, 0)).oneF E (by omega) (by omega) 2 hG
  have hb' : b = false := by rw [hb]; simp [k69]
  subst hb'
  rw [genK, if_neg k69] at hG
  by_cases k2 : k = 2
  · rw [if_pos k2] at hG
    subst k2
    simp -implicitDefEqProofs only [L25_0, zS, bs_22_9]
    generalize hz : w.alloc _ = w1
    have c1 : Chg [] w w1 := by rw [← hz]; exact (Chg.refl _ _).alloc _
    have hl : hp w1 w.heap.size = some (.cells (ints list9).toArray 3) := by rw [← hz, ac, if_pos rfl]; rfl
    refine (h.grow c1).nextF E (by omega) (by decide) (by decide) fun w2 h2 c2 => ?_
    have qW : w.heap.size ≠ q := by have := E.qW; have := h.ch.size; omega
    have hl2 := c2.at hl (by simpa using qW)
    have hr' : sqn xs at' 9 < 9 := by have := sqn_lt xs at' (n := 9) (by decide); omega
    have la := lit_at hl2 (n := 9) rfl hr'
    simp -implicitDefEqProofs only [zS, la.1, af, la.2, aN]
    rw [h2.st (i := 2) (by omega), set_3]
    exact (h2.set E (2, 0, 0, list9.getD (sqn xs at' 9) 0, 0, 0)).oneF E (by omega) (by omega) 1 hG
  rw [if_neg k2] at hG
  by_cases k5 : k = 5
  · rw [if_pos k5] at hG
    subst k5
    simp -implicitDefEqProofs only [L25_0, zS, bs_22_2, Int.reduceBEq]
    generalize hz : w.alloc _ = w1
    have c1 : Chg [] w w1 := by rw [← hz]; exact (Chg.refl _ _).alloc _
    have hl : hp w1 w.heap.size = some (.cells (ints [1, 2]).toArray 3) := by rw [← hz, ac, if_pos rfl]; rfl
    refine (h.grow c1).nextF E (by omega) (by decide) (by decide) fun w2 h2 c2 => ?_
    have qW : w.heap.size ≠ q := by have := E.qW; have := h.ch.size; omega
    have hl2 := c2.at hl (by simpa using qW)
    have hr' : sqn xs at' 2 < 2 := by have := sqn_lt xs at' (n := 2) (by decide); omega
    have la := lit_at hl2 (n := 2) rfl hr'
    simp -implicitDefEqProofs only [zS, la.1, af, la.2]
    exact h2.oneF E (by omega) (by omega) _ hG
  rw [if_neg k5] at hG
  have two : ∀ b : Bool, (b = true ↔ k = 10 ∨ k = 12) → P25_2 (.pointer (some ⟨q, 0, none⟩)) x1 (.pointer (some ⟨g4, 0, none⟩)) (.pointer (some ⟨g6, 0, none⟩)) (.bool b) w (GenQ W q A c xs a0 m G) := by
    intro b hb
    apply L25_2_ok
    cases b with
    | true =>
      rw [if_pos (hb.1 rfl)] at hG
      simp -implicitDefEqProofs only [L25_2, zS]
      exact h.oneF E (by omega) (by omega) 1 hG
    | false =>
      rw [if_neg (fun h => by have := hb.2 h; cases this)] at hG
      simp -implicitDefEqProofs only [L25_2, zS]
      exact h.ansF E (by omega) (hG _ rfl)
  by_cases k10 : k = 10
  · subst k10
    simp -implicitDefEqProofs only [L25_0, zS]
    exact two true ⟨fun _ => .inl rfl, fun _ => rfl⟩
  by_cases k12 : k = 12
  · subst k12
    simp -implicitDefEqProofs only [L25_0, zS]
    exact two true ⟨fun _ => .inr rfl, fun _ => rfl⟩
  simp -implicitDefEqProofs only [L25_0, zS, eqf k2, eqf k5, eqf k10, eqf k12]
  exact two false ⟨fun h => (by cases h), fun h => (by omega)⟩
end
def genVK (xs : List Int) (a : Nat) : OpV × Nat :=
  if kindsL.getD (sqn xs a 23) 0 = 1 then ((1, 0, 0, sqn xs (a + 1) 4, 0, 0), a + 2) else genK xs (kindsL.getD (sqn xs a 23) 0) (a + 1)
set_option maxHeartbeats 8000000 in
theorem c_genOpF {W : World} {q : Nat} {A : Option Addr} {c : Nat} {xs : List Int} {a0 : Nat} {x1 : Value} (E : Env W q A xs x1 []) (hs : hp W q = some (.cells #[.slice A xs.length c, .int .i64 (a0 : Int)] 37)) (ha : a0 ≤ 800000000) :
    CallR Tryz.prog 25 [.pointer (some ⟨q, 0, none⟩), x1] W (GenQ W q A c xs a0 12 fun o a => cutO o = (genVK xs a0).1 ∧ a = (genVK xs a0).2) := by
  apply F25_ok
  simp -implicitDefEqProofs only [F25, zS, al_39]
  generalize hz : W.alloc _ = w1
  have c1 : Chg [] W w1 := by rw [← hz]; exact (Chg.refl _ _).alloc _
  have z1 : w1.heap.size = W.heap.size + 1 := by rw [← hz]; simp
  have h4 : hp w1 W.heap.size = some (.cells (opC oZero).toArray 39) := by rw [← hz, ac, if_pos rfl]; rfl
  clear hz
  refine (c_kinds w1).mono ?_
  rintro _ w2 ⟨rfl, hk2, c2⟩
  simp -implicitDefEqProofs only [zS, len_22]
  have E2 : Env w2 q A xs x1 [] := ⟨E.hA.keep (c1.trans c2).below, E.hne, E.il.keep ((c1.trans c2).mono (by simp)), by have := E.qW; have := c2.size; omega, E.hL, E.hll, E.hT⟩
  refine (c_SeqNf ((c1.trans c2).at hs (by simp)) E2.hA (by omega) (m := 23) (by decide) (by decide)).mono ?_
  rintro _ w3 ⟨rfl, hs3, c3⟩
  have nq : w1.heap.size ≠ q := by have := E.qW; omega
  have nq4 : W.heap.size ≠ q := by have := E.qW; omega
  have hr' : sqn xs a0 23 < 23 := by have := sqn_lt xs a0 (n := 23) (by decide); omega
  have la := lit_at (c3.at hk2 (by simpa using nq)) (n := 23) rfl hr'
  have lb := kinds_at _ hr'
  have h43 := c3.at (c2.at h4 (by simp)) (by simpa using nq4)
  have z3 : W.heap.size + 1 ≤ w3.heap.size := by have := c2.size; have := c3.size; omega
  have c13 : Chg [q] W w3 := ((c1.trans c2).mono (by simp)).trans c3
  unfold genVK
  generalize kindsL.getD (sqn xs a0 23) 0 = k at *
  simp -implicitDefEqProofs only [zS, la.1, af, la.2, bd_39_0, al_39]
  rw [st_39 (by rfl) (by rfl) (by rw [ac, if_pos rfl]; rfl) (by rw [ac, if_pos rfl]; rfl), ac, if_pos rfl, opC0 k]
  simp -implicitDefEqProofs only [aD]
  generalize hzz : w3.alloc _ = wa
  have hca : Chg [] w3 wa := by rw [← hzz]; exact (Chg.refl _ _).alloc _
  have hza : wa.heap.size = w3.heap.size + 1 := by rw [← hzz]; simp
  have hcp : Chg [] w3 (put wa w3.heap.size (opC (k, 0, 0, 0, 0, 0)).toArray 39) := hca.put (.inr (Nat.le_refl _)) _ _
  have h6 : hp (put wa w3.heap.size (opC (k, 0, 0, 0, 0, 0)).toArray 39) w3.heap.size = some (.cells (opC (k, 0, 0, 0, 0, 0)).toArray 39) := by rw [put_heap, if_pos rfl, if_pos (by omega)]
  have G : Gen W (put wa w3.heap.size (opC (k, 0, 0, 0, 0, 0)).toArray 39) q W.heap.size w3.heap.size A c xs a0 (a0 + 1) (k, 0, 0, 0, 0, 0) :=
    ⟨hcp.at hs3 (by simp), hcp.at h43 (by simp), h6, by omega, Nat.le_refl _, by omega, c13.trans (hcp.mono (by simp)), by omega, by omega⟩
  clear hzz hca hza hcp
  generalize put wa w3.heap.size (opC (k, 0, 0, 0, 0, 0)).toArray 39 = w4 at *
  have op0 : (opC (k, 0, 0, 0, 0, 0)).toArray[0 + 0]? = some (.int .i64 k) := rfl
  by_cases k1 : k = 1
  · rw [if_pos k1]
    subst k1
    simp -implicitDefEqProofs only [zS, aj, af, h6, op0, Int.reduceBEq]
    refine G.nextF E (m := 4) (by omega) (by decide) (by decide) fun w5 h5 c5 => ?_
    simp -implicitDefEqProofs only [zS, aN]
    rw [h5.st (i := 2) (by omega), set_3]
    exact (h5.set E (1, 0, 0, (sqn xs (a0 + 1) 4 : Nat), 0, 0)).ansF E (by omega) ⟨rfl, rfl⟩
  rw [if_neg k1]
  by_cases k6 : k = 6
  · subst k6
    simp -implicitDefEqProofs only [zS, aj, af, h6, op0, Int.reduceBEq]
    exact G.zeroF (m := 12) (at' := a0 + 1) E k1 (by omega) (by omega) rfl fun o h => ⟨h, rfl⟩
  by_cases k7 : k = 7
  · subst k7
    simp -implicitDefEqProofs only [zS, aj, af, h6, op0, Int.reduceBEq]
    exact G.zeroF (m := 12) (at' := a0 + 1) E k1 (by omega) (by omega) rfl fun o h => ⟨h, rfl⟩
  by_cases k8 : k = 8
  · subst k8
    simp -implicitDefEqProofs only [zS, aj, af, h6, op0, Int.reduceBEq]
    exact G.zeroF (m := 12) (at' := a0 + 1) E k1 (by omega) (by omega) rfl fun o h => ⟨h, rfl⟩
  by_cases k9 : k = 9
  · subst k9
    simp -implicitDefEqProofs only [zS, aj, af, h6, op0, Int.reduceBEq]
    exact G.zeroF (m := 12) (at' := a0 + 1) E k1 (by omega) (by omega) rfl fun o h => ⟨h, rfl⟩
  simp -implicitDefEqProofs only [zS, aj, af, h6, op0, eqf k1, eqf k6, eqf k7, eqf k8, eqf k9]
  exact G.zeroF (m := 12) (at' := a0 + 1) E k1 (by omega) (by omega) (decide_eq_false (by omega)).symm fun o h => ⟨h, rfl⟩
end Go.Proofs.YtgamnncehjcdiaaGreat

