/- Parts of the proof of SearchRaw, one behind the other. Conditions: none. -/
import Derived.Test.YteapggpkgfiacaaGreatZSearchRaw10
set_option linter.unusedSimpArgs false
set_option linter.unusedVariables false
set_option maxRecDepth 10000
namespace Go.Proofs.YteapggpkgfiacaaGreat
open Go Ev Go.RowKit

def rightV (w n : Int) : Bool := decide (1 ≤ w ∧ w ≤ 1024 ∧ 1 ≤ n ∧ n ≤ w)
theorem c_sRight (a n : Int) (w : World) : CallR Tryz.prog 91 [.int .i64 a, .int .i64 n] w fun v w' => v = .bool (rightV a n) ∧ w' = w := by
  apply F91_ok
  by_cases h1 : 1 ≤ a
  · by_cases h2 : a ≤ 1024
    · by_cases h3 : 1 ≤ n
      · simp -implicitDefEqProofs only [F91, zS, aD, bp_leq, h1, h2, h3]
        exact ⟨by simp [rightV, h1, h2, h3], trivial⟩
      · simp -implicitDefEqProofs only [F91, zS, aD, bp_leq, h1, h2, h3]
        exact ⟨by simp [rightV, h3], trivial⟩
    · simp -implicitDefEqProofs only [F91, zS, aD, bp_leq, h1, h2]
      exact ⟨by simp [rightV, h2], trivial⟩
  · simp -implicitDefEqProofs only [F91, zS, aD, bp_leq, h1]
    exact ⟨by simp [rightV, h1], trivial⟩
def aloneV (w n : Int) : Bool := rightV w n && decide (w < 2 * n)
theorem right_iff {a n : Int} (h : rightV a n = true) : 1 ≤ a ∧ a ≤ 1024 ∧ 1 ≤ n ∧ n ≤ a := of_decide_eq_true h
theorem c_sAlone (a n : Int) (w : World) : CallR Tryz.prog 92 [.int .i64 a, .int .i64 n] w fun v w' => v = .bool (aloneV a n) ∧ w' = w := by
  apply F92_ok
  simp -implicitDefEqProofs only [F92]
  refine (c_sRight a n w).step ?_
  cases hr : rightV a n with
  | true =>
    have := right_iff hr
    simp -implicitDefEqProofs only [zS, bp_mul, aq (n := 2 * n) (by omega) (by omega)]
    exact ⟨by simp [aloneV, hr], trivial⟩
  | false =>
    simp -implicitDefEqProofs only [zS]
    exact ⟨by simp [aloneV, hr], trivial⟩
def fitsV (w off n : Int) : Bool := rightV w n && (!aloneV w n && (decide (0 ≤ off) && decide (off ≤ w - n)))
theorem c_sFits (a off n : Int) (w : World) : CallR Tryz.prog 90 [.int .i64 a, .int .i64 off, .int .i64 n] w fun v w' => v = .bool (fitsV a off n) ∧ w' = w := by
  apply F90_ok
  simp -implicitDefEqProofs only [F90]
  refine (c_sRight a n w).step ?_
  cases hr : rightV a n with
  | true =>
    have := right_iff hr
    simp -implicitDefEqProofs only [zS]
    refine (c_sAlone a n w).step ?_
    cases ha : aloneV a n with
    | true =>
      simp -implicitDefEqProofs only [zS]
      exact ⟨by simp [fitsV, ha], trivial⟩
    | false =>
      by_cases h0 : 0 ≤ off
      · simp -implicitDefEqProofs only [zS, aD, bp_leq, bp_sub, h0, aq (n := a - n) (by omega) (by omega)]
        exact ⟨by simp [fitsV, hr, ha, h0], trivial⟩
      · simp -implicitDefEqProofs only [zS, aD, h0]
        exact ⟨by simp [fitsV, h0], trivial⟩
  | false =>
    simp -implicitDefEqProofs only [zS]
    exact ⟨by simp [fitsV, hr], trivial⟩
def afterV (w n : Int) : Int := if rightV w n then (if aloneV w n then w else n) else 0
theorem c_sAfter (a n : Int) (w : World) : CallR Tryz.prog 74 [.int .i64 a, .int .i64 n] w fun v w' => v = .int .i64 (afterV a n) ∧ w' = w := by
  apply F74_ok
  simp -implicitDefEqProofs only [F74]
  refine (c_sRight a n w).step ?_
  cases hr : rightV a n with
  | true =>
    simp -implicitDefEqProofs only [zS]
    refine (c_sAlone a n w).step ?_
    cases ha : aloneV a n with
    | true =>
      simp -implicitDefEqProofs only [zS]
      exact ⟨by simp [afterV, hr, ha], trivial⟩
    | false =>
      simp -implicitDefEqProofs only [zS]
      exact ⟨by simp [afterV, hr, ha], trivial⟩
  | false =>
    simp -implicitDefEqProofs only [zS]
    exact ⟨by simp [afterV, hr], trivial⟩
def roundS (s n : Int) : Int := (n + s - 1) / s * s
def stepOf (cls : Int) : Int := if cls ≤ 0 then 1 else if cls = 1 then 2 else if cls = 2 then 4 else 8
def roundV (cls n : Int) : Int := if n < 1 ∨ 1024 < n then 0 else roundS (stepOf cls) n
theorem quo_nn {a b : Int} (h : 0 ≤ a) : a.tdiv b = a / b := Int.tdiv_eq_ediv_of_nonneg h
theorem shl_lit {P : Program} {t : TypeId} (k : Nat) (hk : k ≤ 3) : bp P .shl t (.int .i64 1) (.int .i64 k) = some (.int .i64 (2 ^ k)) := by
  rw [bp_shl (by omega)]
  have : k = 0 ∨ k = 1 ∨ k = 2 ∨ k = 3 := by omega
  rcases this with rfl | rfl | rfl | rfl <;> rfl
set_option maxHeartbeats 1000000 in
theorem c_sRound (cls n : Int) (w : World) : CallR Tryz.prog 70 [.int .i64 cls, .int .i64 n] w fun v w' => v = .int .i64 (roundV cls n) ∧ w' = w := by
  apply F70_ok
  by_cases h1 : n < 1
  · simp -implicitDefEqProofs only [F70, zS, h1]
    exact ⟨by rw [roundV, if_pos (.inl h1)], trivial⟩
  by_cases h2 : 1024 < n
  · simp -implicitDefEqProofs only [F70, zS, h1, h2]
    exact ⟨by rw [roundV, if_pos (.inr h2)], trivial⟩
  have hk : ∃ k : Nat, k ≤ 3 ∧ stepOf cls = 2 ^ k ∧ (if (3 : Int) < (if (0 : Int) > cls then 0 else cls) then (3 : Int) else (if (0 : Int) > cls then 0 else cls)) = (k : Int) := by
    by_cases c0 : cls ≤ 0
    · refine ⟨0, by omega, by rw [stepOf, if_pos c0]; rfl, ?_⟩
      have : (if (0 : Int) > cls then 0 else cls) = 0 := by split <;> omega
      rw [this]; rfl
    · have e : (if (0 : Int) > cls then 0 else cls) = cls := by rw [if_neg (by omega)]
      rw [e, stepOf, if_neg c0]
      by_cases c1 : cls = 1
      · exact ⟨1, by omega, by rw [if_pos c1]; rfl, by rw [if_neg (by omega), c1]; rfl⟩
      · rw [if_neg c1]
        by_cases c2 : cls = 2
        · exact ⟨2, by omega, by rw [if_pos c2]; rfl, by rw [if_neg (by omega), c2]; rfl⟩
        · refine ⟨3, by omega, by rw [if_neg c2]; rfl, ?_⟩
          split <;> omega
  obtain ⟨k, k3, hs, hk⟩ := hk
  have hs1 : (1 : Int) ≤ 2 ^ k ∧ (2 : Int) ^ k ≤ 8 := by
    have : k = 0 ∨ k = 1 ∨ k = 2 ∨ k = 3 := by omega
    rcases this with rfl | rfl | rfl | rfl <;> decide
  have hv : roundV cls n = roundS (2 ^ k) n := by rw [roundV, if_neg (by omega), hs]
  have hb : 0 ≤ roundS (2 ^ k) n ∧ roundS (2 ^ k) n ≤ 2000 := by
    have h3 := Int.ediv_mul_le (n + 2 ^ k - 1) (b := 2 ^ k) (by omega)
    have h4 := Int.ediv_nonneg (a := n + 2 ^ k - 1) (b := 2 ^ k) (by omega) (by omega)
    have h5 := Int.mul_nonneg h4 (show (0 : Int) ≤ 2 ^ k by omega)
    exact ⟨h5, by simp only [roundS]; omega⟩
  have hq : 0 ≤ (n + 2 ^ k - 1) / 2 ^ k ∧ (n + 2 ^ k - 1) / 2 ^ k ≤ 2000 := by
    have h4 := Int.ediv_nonneg (a := n + 2 ^ k - 1) (b := 2 ^ k) (by omega) (by omega)
    have h5 := Int.ediv_le_self (a := n + 2 ^ k - 1) (2 ^ k) (by omega)
    omega
  have hsl := shl_lit (P := Tryz.prog) (t := 3) k k3
  generalize (2 : Int) ^ k = st at *
  have e1 := @roundS st n
  simp -implicitDefEqProofs only [F70, zS, h1, h2, pr_max, pr_min, hk, hsl, am, bp_sub, aq (n := n + st) (by omega) (by omega), aq (n := n + st - 1) (by omega) (by omega), bp_quo (show st ≠ 0 by omega), quo_nn (show 0 ≤ n + st - 1 by omega), aq (n := (n + st - 1) / st) (by omega) (by omega), bp_mul]
  have : (n + st - 1) / st * st = roundS st n := rfl
  rw [this, aq (by omega) (by omega), hv]
  exact ⟨rfl, trivial⟩
end Go.Proofs.YteapggpkgfiacaaGreat

namespace Go.Proofs.YteapggpkgfiacaaGreat
open Go Ev Go.RowKit

theorem RgR.keep {w w' : World} {b o : Nat} {r : RgV} {cv wv ov : Value} (k : RgR w b o r cv wv ov) (hc : Chg [] w w') : RgR w' b o r cv wv ov := by
  have e : hp w' b = hp w b := hc.block b (by
    rcases Nat.lt_or_ge b w.heap.size with h | h
    · exact h
    · have : hp w b = none := by simp [hp]; omega
      have hu := k.c0
      rw [this] at hu; cases hu) (by simp)
  obtain ⟨F, hF⟩ := k.cT
  obtain ⟨G, hG⟩ := k.wT
  obtain ⟨H, hH⟩ := k.oT
  exact ⟨by rw [e]; exact k.c0, by rw [e]; exact k.c1, by rw [e]; exact k.c2, by rw [e]; exact k.c3, by rw [e]; exact k.c4, by rw [e]; exact k.c5, by rw [e]; exact k.c6,
    ⟨F, (aM _).frame hF (ChgP.of0 hc none') fun _ _ h => h⟩, ⟨G, (good_words _).frame hG (ChgP.of0 hc none') fun _ _ h => h⟩, ⟨H, (good_objs _).frame hH (ChgP.of0 hc none') fun _ _ h => h⟩⟩
def newV (l : List Int) : Int := if l.length = 0 then -1 else l.getD (l.length - 1) 0
theorem c_mNewest {w : World} {b o : Nat} {r : RgV} {cv wv ov : Value} (R : RgR w b o r cv wv ov) (hl : r.chunks.length ≤ 1000000) : CallR Tryz.prog 72 [.pointer (some ⟨b, o, none⟩)] w fun v w' => v = .int .i64 (newV r.chunks) ∧ Chg [] w w' := by
  apply F72_ok
  obtain ⟨A, c, hcv, hR⟩ := ints_sh R.cT
  have R4 := R.c4
  rw [hcv] at R4
  have R4d : ldC (hp w.drew b) (o + 4) = some (.slice A r.chunks.length c) := R4
  by_cases h0 : r.chunks.length = 0
  · have e : ((r.chunks.length : Int) == 0) = true := by rw [h0]; rfl
    simp -implicitDefEqProofs only [F72, zS, ah, fa_86_3, ld_26, R4, len_26, e]
    exact ⟨by rw [newV, if_pos h0], Chg.refl _ _⟩
  · have e : ((r.chunks.length : Int) == 0) = false := beq_eq_false_iff_ne.2 (by omega)
    have hn : (r.chunks.length : Int) - 1 = ((r.chunks.length - 1 : Nat) : Int) := by omega
    obtain ⟨q, q1, q2⟩ := (hR.drew).at (P := Tryz.prog) (c := c) (j := .i64) Tryz.underlying26 Tryz.underlying3 sz_3 (i := ((r.chunks.length - 1 : Nat) : Int)) (by omega) (by omega)
    rw [Int.toNat_natCast] at q2
    simp -implicitDefEqProofs only [F72, zS, ah, fa_86_3, ld_26, R4, R4d, len_26, e, bp_sub, hn, aq (n := ((r.chunks.length - 1 : Nat) : Int)) (by omega) (by omega), q1, ac, q2]
    exact ⟨by rw [newV, if_neg h0], (Chg.refl _ _).drew⟩
def rfitsV (r : RgV) (words need : Int) : Bool := decide (0 < r.chunks.length) && fitsV words r.off need
theorem c_mFits {w : World} {b o : Nat} {r : RgV} {cv wv ov : Value} (R : RgR w b o r cv wv ov) (words need : Int) : CallR Tryz.prog 71 [.pointer (some ⟨b, o, none⟩), .int .i64 words, .int .i64 need] w fun v w' => v = .bool (rfitsV r words need) ∧ w' = w := by
  apply F71_ok
  obtain ⟨A, c, hcv, hR⟩ := ints_sh R.cT
  have R4 := R.c4
  rw [hcv] at R4
  by_cases h0 : (0 : Int) < r.chunks.length
  · simp -implicitDefEqProofs only [F71, zS, ah, fa_86_3, fa_86_2, ld_26, ac, R4, R.c3, len_26, h0]
    refine (c_sFits words r.off need w).step ?_
    have h1 : 0 < r.chunks.length := by omega
    simp -implicitDefEqProofs only [zS, rfitsV, h1, z1z, Bool.true_and]
    exact ⟨trivial, trivial⟩
  · have h1 : ¬ 0 < r.chunks.length := by omega
    simp -implicitDefEqProofs only [F71, zS, ah, fa_86_3, ld_26, R4, len_26, h0]
    exact ⟨by rw [rfitsV, decide_eq_false h1]; rfl, trivial⟩
structure HdR (w : World) (b o : Nat) (d : HdV) (nv : Value) : Prop where
  c0 : ldC (hp w b) (o + 0) = some (.int .i64 d.depth)
  c1 : ldC (hp w b) (o + 1) = some nv
  nT : ∃ F, namesT d.holds w F nv
theorem hd_at {w : World} {L : List HdV} {F : Fp} {x : Value} (h : handsT L w F x) {i : Nat} {d : HdV} (hr : L[i]? = some d) : ∃ b c, x = .slice (some ⟨b, 0, none⟩) L.length c ∧ ∃ nv, HdR w b (i * 2) d nv := by
  have get : ∀ k, k < 2 → (L.flatMap hdT)[i * 2 + k]? = (hdT d)[k]? := fun k hk => aN hdT_len L i d hr k hk
  obtain ⟨b, c, v0, F0, e0, _, _, _, l0, t0, _⟩ := isRow.cell h (good_hdL L) (get 0 (by omega))
  obtain ⟨b1, c1, v1, F1, e1, _, _, _, l1, t1, _⟩ := isRow.cell h (good_hdL L) (get 1 (by omega))
  subst e0
  cases e1
  rw [t0.1] at l0
  exact ⟨b, c, rfl, v1, l0, l1, ⟨F1, t1⟩⟩
theorem names_sh {w : World} {L : List NmV} {s : Value} (h : ∃ F, namesT L w F s) : ∃ A c, s = .slice A L.length c ∧ RdV w A (L.flatMap nmC) := by
  obtain ⟨F, h⟩ := h
  obtain ⟨h1, _⟩ := flat_own h
  obtain ⟨A, c, e, r, _⟩ := ba h1
  exact ⟨A, c, e, r⟩
end Go.Proofs.YteapggpkgfiacaaGreat

namespace Go.Proofs.YteapggpkgfiacaaGreat
open Go Ev Go.RowKit

def mayV (m : MdV) (n : Int) (o : OpV) : Bool := decide (0 ≤ n) && (decide (n < m.hands.length) && mayO o)
set_option maxHeartbeats 1000000 in
theorem c_mMay {w : World} {g : Nat} {m : MdV} {s r h : Value} (M : MdR w g m s r h) (n : Int) (o : OpV) : CallR Tryz.prog 39 [.pointer (some ⟨g, 0, none⟩), .int .i64 n, .agg (opC o).toArray] w fun v w' => v = .bool (mayV m n o) ∧ Chg [] w w' := by
  apply F39_ok
  have hbox : hp (w.alloc (.cells (opC o).toArray 36)) w.heap.size = some (.cells (opC o).toArray 36) := by rw [aa, if_pos rfl]
  have hc0 : Chg [] w (w.alloc (.cells (opC o).toArray 36)) := (Chg.refl _ _).alloc _
  simp -implicitDefEqProofs only [F39, ak, au]
  generalize w.alloc (.cells (opC o).toArray 36) = w0 at *
  have M0 := M.keep hc0
  obtain ⟨A, c, hh⟩ := hands_sh M0.hT
  have hl := M0.hl
  rw [hh] at hl
  by_cases h0 : 0 ≤ n
  · by_cases h1 : n < (m.hands.length : Int)
    · have lo := aJ (t := 36) (c := (opC o).toArray) ag_36 (show (Tryz.prog.info? 36).map (·.size) = some (opC o).toArray.size from sz_36) hbox
      simp -implicitDefEqProofs only [zS, aD, h0, ah, fa_61_4, ld_59, hl, len_59, h1, lo]
      refine (c_opMay o w0).mono ?_
      rintro _ w1 ⟨rfl, c1⟩
      simp -implicitDefEqProofs only [zS, mayV, h0, h1, z1z, Bool.true_and]
      exact ⟨trivial, hc0.trans c1⟩
    · simp -implicitDefEqProofs only [zS, aD, h0, ah, fa_61_4, ld_59, hl, len_59, h1]
      exact ⟨by rw [mayV, decide_eq_false h1]; simp, hc0⟩
  · simp -implicitDefEqProofs only [zS, aD, h0]
    exact ⟨by rw [mayV, decide_eq_false h0]; simp, hc0⟩
end Go.Proofs.YteapggpkgfiacaaGreat

namespace Go.Proofs.YteapggpkgfiacaaGreat
open Go Ev Go.RowKit

def codeV (words : Int) (d : HdV) (holds : Bool) (stale : Int) (o : OpV) (len : Int) : Int :=
  if o.1 = 2 then (if o.2.2.2.1 < 1 ∨ words < o.2.2.2.1 then 5 else stale)
  else if o.1 = 3 then (if d.depth = 15 then 8 else 0)
  else if o.1 = 4 then (if d.depth = 0 then 4 else 0)
  else if o.1 = 5 then (if d.depth = 0 then 4 else if holds then 0 else if d.holds.length = 8 then 8 else stale)
  else if 6 ≤ o.1 ∧ o.1 ≤ 9 then (if holds = false then 4 else if len ≤ o.2.2.2.1 then 5 else 0)
  else if o.1 = 10 ∨ o.1 = 12 then stale else 0
section
variable {W w : World} {g g6 g7 b k : Nat} {m : MdV} {s r hh nv : Value} {o : OpV} {h : HnV} {d : HdV} {holds : Bool} {stale : Int}
theorem l_ref2 (hc : Chg [] W w) : P40_2 w fun v w' => v = .int .i64 0 ∧ Chg [] W w' := by
  apply L40_2_ok
  exact ⟨rfl, hc⟩
set_option maxHeartbeats 1000000 in
theorem l_ref3 (hc : Chg [] W w) (h6 : hp w g6 = some (.cells (opC o).toArray 36)) (h7 : hp w g7 = some (.cells (hnC h).toArray 38)) (words : Int) (hk : o.1 ≠ 2 ∧ o.1 ≠ 3 ∧ o.1 ≠ 4 ∧ o.1 ≠ 5) {t : Bool} (ht : t = decide (6 ≤ o.1 ∧ o.1 ≤ 9)) :
    P40_3 (.pointer (some ⟨g6, 0, none⟩)) (.pointer (some ⟨g7, 0, none⟩)) (.bool holds) (.int .i64 stale) (.int .i64 o.1) (.bool t) w fun v w' => v = .int .i64 (codeV words d holds stale o h.2.2.2.2) ∧ Chg [] W w' := by
  apply L40_3_ok
  have e4 : (hnC h).toArray[0 + 4]? = some (.int .i64 h.2.2.2.2) := rfl
  have cv : codeV words d holds stale o h.2.2.2.2 = if 6 ≤ o.1 ∧ o.1 ≤ 9 then (if holds = false then 4 else if h.2.2.2.2 ≤ o.2.2.2.1 then 5 else 0) else if o.1 = 10 ∨ o.1 = 12 then stale else 0 := by
    rw [codeV, if_neg hk.1, if_neg hk.2.1, if_neg hk.2.2.1, if_neg hk.2.2.2]
  rw [cv]
  by_cases k69 : 6 ≤ o.1 ∧ o.1 ≤ 9
  · have ht' : t = true := by rw [ht]; exact decide_eq_true k69
    subst ht'
    rw [if_pos k69]
    cases holds with
    | false =>
      simp -implicitDefEqProofs only [L40_3, zS]
      exact ⟨by simp, hc⟩
    | true =>
      by_cases hn : h.2.2.2.2 ≤ o.2.2.2.1
      · simp -implicitDefEqProofs only [L40_3, zS, aY, fa_38_4, ac, h6, h7, op_3, e4, aD, hn]
        exact ⟨by simp, hc⟩
      · simp -implicitDefEqProofs only [L40_3, zS, aY, fa_38_4, ac, h6, h7, op_3, e4, aD, hn]
        simpa using l_ref2 hc
  · have ht' : t = false := by rw [ht]; exact decide_eq_false k69
    subst ht'
    rw [if_neg k69]
    have four : ∀ c : Bool, P40_4 (.int .i64 stale) (.bool c) w fun v w' => v = .int .i64 (if c = true then stale else 0) ∧ Chg [] W w' := by
      intro c
      apply L40_4_ok
      cases c with
      | true => simp -implicitDefEqProofs only [L40_4, zS]; exact ⟨by simp, hc⟩
      | false => simp -implicitDefEqProofs only [L40_4, zS]; simpa using l_ref2 hc
    by_cases k10 : o.1 = 10
    · have f := four true
      simp -implicitDefEqProofs only [L40_3, zS, k10, Int.reduceBEq]
      simpa [k10] using f
    · by_cases k12 : o.1 = 12
      · have f := four true
        simp -implicitDefEqProofs only [L40_3, zS, k12, Int.reduceBEq]
        simpa [k12] using f
      · have f := four false
        simp -implicitDefEqProofs only [L40_3, zS, eqf k10, eqf k12]
        simpa [k10, k12] using f
set_option maxHeartbeats 2000000 in
theorem l_ref1 (hc : Chg [] W w) (M : MdR w g m s r hh) (D : HdR w b k d nv) (h6 : hp w g6 = some (.cells (opC o).toArray 36)) (h7 : hp w g7 = some (.cells (hnC h).toArray 38)) :
    P40_1 (.pointer (some ⟨g, 0, none⟩)) (.pointer (some ⟨g6, 0, none⟩)) (.pointer (some ⟨g7, 0, none⟩)) (.pointer (some ⟨b, k, none⟩)) (.bool holds) (.int .i64 stale) w fun v w' => v = .int .i64 (codeV m.c.2.2.1 d holds stale o h.2.2.2.2) ∧ Chg [] W w' := by
  apply L40_1_ok
  have hw : ldC (hp w g) (0 + 0 + 2) = some (.int .i64 m.c.2.2.1) := M.c 2 (by omega)
  by_cases k2 : o.1 = 2
  · have cv : codeV m.c.2.2.1 d holds stale o h.2.2.2.2 = if o.2.2.2.1 < 1 ∨ m.c.2.2.1 < o.2.2.2.1 then 5 else stale := by rw [codeV, if_pos k2]
    rw [cv]
    have q2 : (o.1 == 2) = true := by rw [k2]; rfl
    by_cases n1 : o.2.2.2.1 < 1
    · simp -implicitDefEqProofs only [L40_1, zS, aj, aY, ac, h6, az, op_3, q2, n1]
      exact ⟨by simp, hc.drew⟩
    · by_cases n2 : m.c.2.2.1 < o.2.2.2.1
      · simp -implicitDefEqProofs only [L40_1, zS, aj, aY, ac, h6, az, op_3, q2, n1, ah, fa_61_0, fa_23_2, hw, n2]
        exact ⟨by simp, hc.drew⟩
      · simp -implicitDefEqProofs only [L40_1, zS, aj, aY, ac, h6, az, op_3, q2, n1, ah, fa_61_0, fa_23_2, hw, n2]
        exact ⟨by simp, hc.drew⟩
  by_cases k3 : o.1 = 3
  · have cv : codeV m.c.2.2.1 d holds stale o h.2.2.2.2 = if d.depth = 15 then 8 else 0 := by rw [codeV, if_neg k2, if_pos k3]
    rw [cv]
    have q3 : (o.1 == 3) = true := by rw [k3]; rfl
    by_cases n1 : d.depth = 15
    · have e : (d.depth == 15) = true := by rw [n1]; rfl
      simp -implicitDefEqProofs only [L40_1, zS, aj, ac, h6, az, eqf k2, q3, ah, fa_96_0, D.c0, e]
      exact ⟨by simp [n1], hc⟩
    · simp -implicitDefEqProofs only [L40_1, zS, aj, ac, h6, az, eqf k2, q3, ah, fa_96_0, D.c0, eqf n1]
      simpa [n1] using l_ref2 hc
  by_cases k4 : o.1 = 4
  · have cv : codeV m.c.2.2.1 d holds stale o h.2.2.2.2 = if d.depth = 0 then 4 else 0 := by rw [codeV, if_neg k2, if_neg k3, if_pos k4]
    rw [cv]
    have q4 : (o.1 == 4) = true := by rw [k4]; rfl
    by_cases n1 : d.depth = 0
    · have e : (d.depth == 0) = true := by rw [n1]; rfl
      simp -implicitDefEqProofs only [L40_1, zS, aj, ac, h6, az, eqf k2, eqf k3, q4, ah, fa_96_0, D.c0, e]
      exact ⟨by simp [n1], hc⟩
    · simp -implicitDefEqProofs only [L40_1, zS, aj, ac, h6, az, eqf k2, eqf k3, q4, ah, fa_96_0, D.c0, eqf n1]
      simpa [n1] using l_ref2 hc
  by_cases k5 : o.1 = 5
  · have cv : codeV m.c.2.2.1 d holds stale o h.2.2.2.2 = if d.depth = 0 then 4 else if holds then 0 else if d.holds.length = 8 then 8 else stale := by rw [codeV, if_neg k2, if_neg k3, if_neg k4, if_pos k5]
    rw [cv]
    have q5 : (o.1 == 5) = true := by rw [k5]; rfl
    by_cases n1 : d.depth = 0
    · have e : (d.depth == 0) = true := by rw [n1]; rfl
      simp -implicitDefEqProofs only [L40_1, zS, aj, ac, h6, az, eqf k2, eqf k3, eqf k4, q5, ah, fa_96_0, D.c0, e]
      exact ⟨by simp [n1], hc⟩
    · cases holds with
      | true =>
        simp -implicitDefEqProofs only [L40_1, zS, aj, ac, h6, az, eqf k2, eqf k3, eqf k4, q5, ah, fa_96_0, D.c0, eqf n1]
        simpa [n1] using l_ref2 hc
      | false =>
        obtain ⟨A, c, hnv, _⟩ := names_sh D.nT
        have D1 := D.c1
        rw [hnv] at D1
        by_cases n8 : d.holds.length = 8
        · have e : ((d.holds.length : Int) == 8) = true := by rw [n8]; rfl
          simp -implicitDefEqProofs only [L40_1, zS, aj, ac, h6, az, eqf k2, eqf k3, eqf k4, q5, ah, fa_96_0, fa_96_1, ld_94, D.c0, D1, eqf n1, len_94, e]
          exact ⟨by simp [n1, n8], hc⟩
        · have e : ((d.holds.length : Int) == 8) = false := beq_eq_false_iff_ne.2 (by omega)
          simp -implicitDefEqProofs only [L40_1, zS, aj, ac, h6, az, eqf k2, eqf k3, eqf k4, q5, ah, fa_96_0, fa_96_1, ld_94, D.c0, D1, eqf n1, len_94, e]
          exact ⟨by simp [n1, n8], hc⟩
  have fin : ∀ t : Bool, t = decide (6 ≤ o.1 ∧ o.1 ≤ 9) → P40_3 (.pointer (some ⟨g6, 0, none⟩)) (.pointer (some ⟨g7, 0, none⟩)) (.bool holds) (.int .i64 stale) (.int .i64 o.1) (.bool t) w fun v w' => v = .int .i64 (codeV m.c.2.2.1 d holds stale o h.2.2.2.2) ∧ Chg [] W w' := fun t ht => l_ref3 hc h6 h7 _ ⟨k2, k3, k4, k5⟩ ht
  by_cases k6 : o.1 = 6
  · have q : (o.1 == 6) = true := by rw [k6]; rfl
    have f := fin true (by rw [k6]; rfl)
    simp -implicitDefEqProofs only [L40_1, zS, aj, ac, h6, az, eqf k2, eqf k3, eqf k4, eqf k5, q]
    exact f
  by_cases k7 : o.1 = 7
  · have q : (o.1 == 7) = true := by rw [k7]; rfl
    have f := fin true (by rw [k7]; rfl)
    simp -implicitDefEqProofs only [L40_1, zS, aj, ac, h6, az, eqf k2, eqf k3, eqf k4, eqf k5, eqf k6, q]
    exact f
  by_cases k8 : o.1 = 8
  · have q : (o.1 == 8) = true := by rw [k8]; rfl
    have f := fin true (by rw [k8]; rfl)
    simp -implicitDefEqProofs only [L40_1, zS, aj, ac, h6, az, eqf k2, eqf k3, eqf k4, eqf k5, eqf k6, eqf k7, q]
    exact f
  have f := fin (o.1 == 9) (by
    by_cases k9 : o.1 = 9
    · rw [k9]; rfl
    · rw [eqf k9]; exact (decide_eq_false (by omega)).symm)
  simp -implicitDefEqProofs only [L40_1, zS, aj, ac, h6, az, eqf k2, eqf k3, eqf k4, eqf k5, eqf k6, eqf k7, eqf k8]
  exact f
end
end Go.Proofs.YteapggpkgfiacaaGreat

namespace Go.Proofs.YteapggpkgfiacaaGreat
open Go Ev Go.RowKit

theorem HdR.keep {w w' : World} {b o : Nat} {d : HdV} {nv : Value} (k : HdR w b o d nv) (hc : Chg [] w w') : HdR w' b o d nv := by
  have e : hp w' b = hp w b := hc.block b (by
    rcases Nat.lt_or_ge b w.heap.size with h | h
    · exact h
    · have : hp w b = none := by simp [hp]; omega
      have hu := k.c0
      rw [this] at hu; cases hu) (by simp)
  obtain ⟨F, hF⟩ := k.nT
  exact ⟨by rw [e]; exact k.c0, by rw [e]; exact k.c1, ⟨F, (good_names _).frame hF (ChgP.of0 hc none') fun _ _ h => h⟩⟩
def holdsV (d : HdV) (h : HnV) : Bool := decide ((h.1, h.2.1) ∈ d.holds)
def staleV (m : MdV) (h : HnV) : Int := if isLv m (h.1, h.2.1) then 0 else 3
set_option maxHeartbeats 1000000 in
theorem l_ref0 {W w : World} {g g6 g7 g11 b k : Nat} {m : MdV} {s r hh nv : Value} {o : OpV} {h : HnV} {d : HdV} (hc : Chg [] W w) (M : MdR w g m s r hh) (D : HdR w b k d nv) (h6 : hp w g6 = some (.cells (opC o).toArray 36)) (h7 : hp w g7 = some (.cells (hnC h).toArray 38)) (h11 : hp w g11 = some (.cells (nmC (h.1, h.2.1)).toArray 83)) (hl : d.holds.length ≤ 1000000) :
    P40_0 (.pointer (some ⟨g, 0, none⟩)) (.pointer (some ⟨g6, 0, none⟩)) (.pointer (some ⟨g7, 0, none⟩)) (.pointer (some ⟨b, k, none⟩)) (.pointer (some ⟨g11, 0, none⟩)) w fun v w' => v = .int .i64 (codeV m.c.2.2.1 d (holdsV d h) (staleV m h) o h.2.2.2.2) ∧ Chg [] W w' := by
  apply L40_0_ok
  obtain ⟨A, c, hnv, hR⟩ := names_sh D.nT
  have D1 := D.c1
  rw [hnv] at D1
  have ld11 : ∀ w', hp w' g11 = some (.cells (nmC (h.1, h.2.1)).toArray 83) → ldv Tryz.prog 83 (.pointer (some ⟨g11, 0, none⟩)) w' = some (.agg (nmC (h.1, h.2.1)).toArray) := fun w' hw => aJ (t := 83) (c := (nmC (h.1, h.2.1)).toArray) ag_83 (show (Tryz.prog.info? 83).map (·.size) = some (nmC (h.1, h.2.1)).toArray.size from sz_83) hw
  have cd : Chg [] w w.drew := (Chg.refl _ _).drew
  simp -implicitDefEqProofs only [L40_0, zS, ah, fa_96_1, ld_94, D1, ld11 w.drew h11]
  refine (c_nContains (c := c) (hR.keep cd.below) hl (h.1, h.2.1)).mono ?_
  rintro _ w1 ⟨rfl, c1⟩
  have c01 := cd.trans c1
  have h111 := c01.at h11 (by simp)
  simp -implicitDefEqProofs only [ld11 w1 h111, ab]
  refine (c_mIsLive (M.keep c01) (h.1, h.2.1)).mono ?_
  rintro _ w2 ⟨rfl, c2⟩
  have c02 := c01.trans c2
  have fin := fun stale => l_ref1 (W := W) (holds := holdsV d h) (stale := stale) (hc.trans c02) (M.keep c02) (D.keep c02) (c02.at h6 (by simp)) (c02.at h7 (by simp))
  cases hs : isLv m (h.1, h.2.1) with
  | true =>
    have f := fin 0
    have e : staleV m h = 0 := by rw [staleV, hs]; rfl
    simp -implicitDefEqProofs only [zS]
    rw [e]; exact f
  | false =>
    have f := fin 3
    have e : staleV m h = 3 := by rw [staleV, hs]; rfl
    simp -implicitDefEqProofs only [zS]
    rw [e]; exact f
def refusesV (m : MdV) (d : HdV) (o : OpV) (h : HnV) : Int := if ofK o.1 ≠ 0 ∧ knownV m h (ofK o.1) = false then 2 else codeV m.c.2.2.1 d (holdsV d h) (staleV m h) o h.2.2.2.2
structure Small (m : MdV) : Prop where
  r : m.rgs.length ≤ 1000000
  o : ∀ rg ∈ m.rgs, rg.objs.length ≤ 1000000
  h : ∀ d ∈ m.hands, d.holds.length ≤ 1000000
set_option maxHeartbeats 1000000 in
theorem c_mRefuses {w : World} {g : Nat} {m : MdV} {s r hh : Value} (M : MdR w g m s r hh) (sm : Small m) {n : Int} (n0 : 0 ≤ n) {d : HdV} (hd : m.hands[n.toNat]? = some d) (o : OpV) (h : HnV) :
    CallR Tryz.prog 40 [.pointer (some ⟨g, 0, none⟩), .int .i64 n, .agg (opC o).toArray, .agg (hnC h).toArray] w fun v w' => v = .int .i64 (refusesV m d o h) ∧ Chg [] w w' := by
  apply F40_ok
  simp -implicitDefEqProofs only [F40, ak, au, ae]
  generalize hw : (w.alloc (.cells (opC o).toArray 36)).alloc _ = w0
  have hc0 : Chg [] w w0 := by rw [← hw]; exact ((Chg.refl _ _).alloc _).alloc _
  have a1 : hp w0 w.heap.size = some (.cells (opC o).toArray 36) := by rw [← hw, aa, ae, if_neg (by omega), aa, if_pos rfl]
  have a2 : hp w0 (w.heap.size + 1) = some (.cells (hnC h).toArray 38) := by rw [← hw, aa, ae, if_pos rfl]
  clear hw
  generalize w.heap.size = g6 at *
  simp -implicitDefEqProofs only [zS, aj, ac, a1, az]
  refine (c_opOf o.1 w0).mono ?_
  rintro _ w1 ⟨rfl, k1⟩
  have ldh : ∀ w', hp w' (g6 + 1) = some (.cells (hnC h).toArray 38) → ldv Tryz.prog 38 (.pointer (some ⟨g6 + 1, 0, none⟩)) w' = some (.agg (hnC h).toArray) := fun w' hw => aJ (t := 38) (c := (hnC h).toArray) ag_38 (show (Tryz.prog.info? 38).map (·.size) = some (hnC h).toArray.size from sz_38) hw
  have b1 := k1.at a1 (by simp)
  have b2 := k1.at a2 (by simp)
  have c01 := hc0.trans k1
  have M1 := M.keep c01
  have hdm : d ∈ m.hands := List.mem_of_getElem? hd
  have hhl := (List.getElem?_eq_some_iff.1 hd).1
  have tail : ¬ (ofK o.1 ≠ 0 ∧ knownV m h (ofK o.1) = false) → ∀ w', Chg [] w1 w' → ∀ t11 : Nat, hp w' t11 = some (.cells (nmC (h.1, h.2.1)).toArray 83) → ∀ b nv, HdR w' b (n.toNat * 2) d nv →
      P40_0 (.pointer (some ⟨g, 0, none⟩)) (.pointer (some ⟨g6, 0, none⟩)) (.pointer (some ⟨g6 + 1, 0, none⟩)) (.pointer (some ⟨b, n.toNat * 2, none⟩)) (.pointer (some ⟨t11, 0, none⟩)) w' fun v w' => v = .int .i64 (refusesV m d o h) ∧ Chg [] w w' := by
    intro hno w' hc t11 ht b nv D
    rw [refusesV, if_neg hno]
    exact l_ref0 (c01.trans hc) (M1.keep hc) D (hc.at b1 (by simp)) (hc.at b2 (by simp)) ht (sm.h d hdm)
  obtain ⟨F0, hF0⟩ := M1.hT
  obtain ⟨b, c, hx, _⟩ := hd_at hF0 hd
  have tailS : ¬ (ofK o.1 ≠ 0 ∧ knownV m h (ofK o.1) = false) → ∀ w3, Chg [] w1 w3 → ∀ t11 : Nat, w1.heap.size ≤ t11 → hp w3 t11 = some (.cells #[.int .i64 0, .int .i64 0] 83) →
      effu Tryz.prog (Instr.storeAt 83 (.pointer (some ⟨t11, 0, none⟩)) (.agg (nmC (h.1, h.2.1)).toArray)) w3 fun w' =>
      P40_0 (.pointer (some ⟨g, 0, none⟩)) (.pointer (some ⟨g6, 0, none⟩)) (.pointer (some ⟨g6 + 1, 0, none⟩)) (.pointer (some ⟨b, n.toNat * 2, none⟩)) (.pointer (some ⟨t11, 0, none⟩)) w' fun v w' => v = .int .i64 (refusesV m d o h) ∧ Chg [] w w' := by
    intro hno w3 hc t11 hge ht
    rw [st_83 (by rfl) (by rfl) (by rw [ht]; rfl) (by rw [ht]; rfl), ht]
    simp -implicitDefEqProofs only [ay]
    have hc' : Chg [] w1 (put w3 t11 (nmC (h.1, h.2.1)).toArray 83) := hc.put (.inr hge) _ _
    obtain ⟨F1, hF1⟩ := (M1.keep hc').hT
    obtain ⟨b', c', hx', nv, D⟩ := hd_at hF1 hd
    rw [hx] at hx'
    cases hx'
    exact tail hno _ hc' t11 (ar (av ht) _ _) _ nv D
  have ia := ia_59 (b := b) (p := 0) (n := m.hands.length) (c := c) (j := .i64) (i := n) (by omega) (by omega)
  rw [Nat.zero_add] at ia
  have hlh : ∀ w', Chg [] w1 w' → ldC (hp w' g) (0 + 9) = some (.slice (some ⟨b, 0, none⟩) m.hands.length c) := fun w' hc => by
    have := (M1.keep hc).hl
    rw [hx] at this
    exact this
  have nm : ∀ (w' : World) {K : Value → World → Prop}, (∀ w'', Chg [] w' w'' → K (.agg (nmC (h.1, h.2.1)).toArray) w'') → CallR Tryz.prog 43 [.agg (hnC h).toArray] w' K := fun w' K hk => (c_mNameOf h w').mono fun v w'' hv => by obtain ⟨rfl, hc⟩ := hv; exact hk w'' hc
  have vA : ∀ w2, Chg [] w1 w2 → Chg [] w1 w2.drew := fun w2 h => h.drew
  by_cases kz : ofK o.1 = 0
  · have hno : ¬ (ofK o.1 ≠ 0 ∧ knownV m h (ofK o.1) = false) := fun h => h.1 kz
    have e0 : ((0 : Int) != 0) = false := rfl
    have cd : Chg [] w1 w1.drew := (Chg.refl _ _).drew
    rw [kz]
    simp -implicitDefEqProofs only [zS, e0, ah, fa_61_4, ld_59, hlh _ cd, hlh _ (Chg.refl _ _), ia, ldh w1.drew b2, ldh w1 b2, al_83]
    repeat' (with_reducible apply And.intro)
    all_goals first
      | (refine nm _ ?_
         intro w3 c3
         have c13 : Chg [] w1 w3 := (cd.alloc _).trans c3
         try simp -implicitDefEqProofs only [zS, ah, fa_61_4, ld_59, hlh _ c13, ia, al_83]
         exact tailS hno w3 c13 _ (Nat.le_refl _) (c3.at (by rw [aa, if_pos rfl]) (by simp)))
      | (refine nm _ ?_
         intro w3 c3
         have c13 : Chg [] w1 w3 := cd.trans c3
         try simp -implicitDefEqProofs only [zS, ah, fa_61_4, ld_59, hlh _ c13, ia, al_83]
         exact tailS hno _ (c13.alloc _) _ c13.size (by rw [aa, if_pos rfl]))
  · have e0 : (ofK o.1 != 0) = true := bne_iff_ne.2 kz
    simp -implicitDefEqProofs only [zS, e0, ldh w1 b2]
    refine (c_mKnown M1 h (ofK o.1) sm.r sm.o).mono ?_
    rintro _ w2 ⟨rfl, k2⟩
    cases hk : knownV m h (ofK o.1) with
    | false =>
      simp -implicitDefEqProofs only [zS]
      exact ⟨by rw [refusesV, if_pos ⟨kz, hk⟩], c01.trans k2⟩
    | true =>
      have hno : ¬ (ofK o.1 ≠ 0 ∧ knownV m h (ofK o.1) = false) := fun h => by rw [hk] at h; cases h.2
      have cd : Chg [] w1 w2.drew := k2.drew
      have b22 := k2.at b2 (by simp)
      simp -implicitDefEqProofs only [zS, ah, fa_61_4, ld_59, hlh _ cd, hlh _ k2, ia, ldh w2.drew b22, ldh w2 b22, al_83]
      repeat' (with_reducible apply And.intro)
      all_goals first
        | (refine nm _ ?_
           intro w3 c3
           have c13 : Chg [] w1 w3 := (cd.alloc _).trans c3
           try simp -implicitDefEqProofs only [zS, ah, fa_61_4, ld_59, hlh _ c13, ia, al_83]
           exact tailS hno w3 c13 _ k2.size (c3.at (by rw [aa, if_pos rfl]) (by simp)))
        | (refine nm _ ?_
           intro w3 c3
           have c13 : Chg [] w1 w3 := cd.trans c3
           try simp -implicitDefEqProofs only [zS, ah, fa_61_4, ld_59, hlh _ c13, ia, al_83]
           exact tailS hno _ (c13.alloc _) _ c13.size (by rw [aa, if_pos rfl]))
end Go.Proofs.YteapggpkgfiacaaGreat

namespace Go.Proofs.YteapggpkgfiacaaGreat
open Go Ev Go.RowKit

set_option maxHeartbeats 400000 in
theorem c_iIndex {w : World} {A : Option Addr} {c : Nat} {L : List Int} (hR : RdI .i64 w A L) (hl : L.length ≤ 1000000) (x : Int) : CallR Tryz.prog 62 [.slice A L.length c, .int .i64 x] w fun v w' => v = .int .i64 (ixOf L x) ∧ w' = w := by
  apply F62_ok
  simp -implicitDefEqProofs only [F62, zS, len_26]
  have main : ∀ (d i : Nat), (∀ (j : Nat) (y : Int), j < i → L[j]? = some y → y ≠ x) → i + d = L.length →
      P62_0 (.slice A L.length c) (.int .i64 x) (.int .i64 L.length) (.int .i64 i) w fun v w' => v = .int .i64 (ixOf L x) ∧ w' = w := by
    intro d
    induction d with
    | zero =>
      intro i hn hi
      apply L62_0_ok
      have : ¬ (i : Int) < L.length := by omega
      simp -implicitDefEqProofs only [L62_0, zS, this]
      rw [ixOf_none fun j y hj => hn j y (by have := (List.getElem?_eq_some_iff.1 hj).1; omega) hj]
      exact ⟨rfl, trivial⟩
    | succ d ih =>
      intro i hn hi
      apply L62_0_ok
      have hlt : (i : Int) < L.length := by omega
      have hil : i < L.length := by omega
      obtain ⟨q, q1, q2⟩ := hR.at (P := Tryz.prog) (c := c) (j := .i64) Tryz.underlying26 Tryz.underlying3 sz_3 (i := (i : Int)) (by omega) (by omega)
      obtain ⟨y, hy⟩ : ∃ y, L[i]? = some y := ⟨_, List.getElem?_eq_getElem hil⟩
      have hg : L.getD i 0 = y := by rw [List.getD_eq_getElem?_getD, hy]; rfl
      rw [Int.toNat_natCast, hg] at q2
      by_cases hxy : x = y
      · have e : (x == y) = true := by rw [hxy]; simp
        simp -implicitDefEqProofs only [L62_0, zS, hlt, q1, ac, q2, e]
        rw [ixOf_some hy hxy.symm hn]
        exact ⟨rfl, trivial⟩
      · simp -implicitDefEqProofs only [L62_0, zS, hlt, q1, ac, q2, eqf hxy, am, aq (n := (i : Int) + 1) (by omega) (by omega)]
        have := ih (i + 1) (fun j z hj hz => by
          rcases Nat.lt_or_ge j i with h1 | h1
          · exact hn j z h1 hz
          · have : j = i := by omega
            subst this
            rw [hy] at hz; cases hz; exact fun e => hxy e.symm) (by omega)
        rw [Int.natCast_add i 1] at this
        exact this
  exact main L.length 0 (fun j r hj => by omega) (by omega)
end Go.Proofs.YteapggpkgfiacaaGreat

namespace Go.Proofs.YteapggpkgfiacaaGreat
open Go Ev Go.RowKit

theorem UpdP.none {F : Fp} (h : ∀ k, ¬ F k) (w : World) : UpdP F none' w w := ⟨ChgP.refl _ _, fun k hk => hk.elim⟩
theorem MdI.slotSet {w : World} {g : Nat} {m : MdV} {F : Fp} (h : MdI w g m F) {i : Nat} {p p' : NmV} (hp' : m.slots[i]? = some p) {k : Nat} (hk : k < 2) {x : Int} (he : nmC p' = (nmC p).set k (.int .i64 x)) :
    ∃ b c, ldC (hp w g) (0 + 7) = some (.slice (some ⟨b, 0, none⟩) m.slots.length c) ∧ okC (hp w b) (i * 2 + k + 1) = true ∧
      ∃ F', MdI (put w b ((getC (hp w b)).setIfInBounds (i * 2 + k) (.int .i64 x)) (getE (hp w b))) g { m with slots := m.slots.set i p' } F' ∧ UpdP F F' w (put w b ((getC (hp w b)).setIfInBounds (i * 2 + k) (.int .i64 x)) (getE (hp w b))) := by
  obtain ⟨v, Fk, hg, hng, hsub, hld, hS, hr, _⟩ := isAt.cell h (good_md m) (k := 7) (P := slotsT m.slots) rfl
  obtain ⟨u, hu⟩ : ∃ u, (nmC p)[k]? = some u := ⟨_, List.getElem?_eq_getElem (by simpa [nmC] using hk)⟩
  have hP : ((m.slots.flatMap nmC).map isV)[i * 2 + k]? = some (isV u) := by
    rw [List.getElem?_map, aN nmC_len m.slots i p hp' k hk, hu]; rfl
  obtain ⟨b, c, v0, Fk0, hx, _, _, _, _, hv0, _, hw⟩ := isRow.cell hS (good_ints (nmC_int m.slots)) hP
  obtain ⟨ok, F1, hrow, hupd⟩ := hw w none' (isV (.int .i64 x)) (.int .i64 x) (UpdP.none hv0.2 w) (aV _ _) ⟨rfl, fun _ h => h⟩
  have hset : ((m.slots.flatMap nmC).map isV).set (i * 2 + k) (isV (.int .i64 x)) = ((m.slots.set i p').flatMap nmC).map isV := by
    rw [← List.map_set, flatM_set nmC_len hk he m.slots i hp']
  rw [hset] at hrow
  have hrow' : slotsT (m.slots.set i p') (put w b ((getC (hp w b)).setIfInBounds (i * 2 + k) (.int .i64 x)) (getE (hp w b))) F1 v := by
    rw [slotsT, List.length_set]; exact hrow
  obtain ⟨F', h1, h2⟩ := hr _ F1 (slotsT (m.slots.set i p')) hupd hrow'
  exact ⟨b, c, by rw [← hx]; exact hld, ok, F', h1, h2⟩
end Go.Proofs.YteapggpkgfiacaaGreat

namespace Go.Proofs.YteapggpkgfiacaaGreat
open Go Ev Go.RowKit

def backV (m : MdV) (n : Int) : Bool × MdV := if 0 ≤ n ∧ n < m.slots.length then (match m.slots[n.toNat]? with | some p => if p.1 = 2 then (true, { m with slots := m.slots.set n.toNat (0, p.2) }) else (false, m) | none => (false, m)) else (false, m)
end Go.Proofs.YteapggpkgfiacaaGreat

namespace Go.Proofs.YteapggpkgfiacaaGreat
open Go Ev Go.RowKit

theorem flatM_setP {α β : Type} {f : α → List β} {z : Nat} (h : ∀ x, (f x).length = z) {k : Nat} {p : β} (hk : k < z) {x x' : α} (hx : f x' = (f x).set k p) {L : List α} {i : Nat} (hi : L[i]? = some x) : (L.flatMap f).set (i * z + k) p = (L.set i x').flatMap f := flatM_set h hk hx L i hi
theorem MdI.rgCell {w : World} {g : Nat} {m : MdV} {F : Fp} (h : MdI w g m F) {i : Nat} {r : RgV} (hr : m.rgs[i]? = some r) {k : Nat} (hk : k < 7) {P : Th} (hP : (rgT r)[k]? = some P) :
    ∃ b c v Fk, ldC (hp w g) (0 + 8) = some (.slice (some ⟨b, 0, none⟩) m.rgs.length c) ∧ ¬ Fk b ∧ (∀ x, Fk x → F x) ∧ F b ∧ b ≠ g ∧ ldC (hp w b) (i * 7 + k) = some v ∧ P w Fk v ∧
      (∀ w1 F' P' r', UpdP Fk F' w w1 → P' w1 F' v → rgT r' = (rgT r).set k P' → ∃ F1, MdI w1 g { m with rgs := m.rgs.set i r' } F1 ∧ UpdP F F1 w w1) ∧
      (∀ w1 F' P' v' r', UpdP Fk F' w w1 → OwnT P' → P' w1 F' v' → rgT r' = (rgT r).set k P' → okC (hp w1 b) (i * 7 + k + 1) = true ∧ ∃ F1, MdI (put w1 b ((getC (hp w1 b)).setIfInBounds (i * 7 + k) v') (getE (hp w1 b))) g { m with rgs := m.rgs.set i r' } F1 ∧ UpdP F F1 w (put w1 b ((getC (hp w1 b)).setIfInBounds (i * 7 + k) v') (getE (hp w1 b)))) := by
  obtain ⟨rv, Fr, hg, hng, hsub, hld, hR, hres, _⟩ := isAt.cell h (good_md m) (k := 8) (P := rgsT m.rgs) rfl
  have hP' : (m.rgs.flatMap rgT)[i * 7 + k]? = some P := (aN rgT_len m.rgs i r hr k hk).trans hP
  obtain ⟨b, c, v, Fk, hx, hFb, hnb, hsub2, hld2, hv, h3, h4⟩ := isRow.cell hR (good_rgL m.rgs) hP'
  refine ⟨b, c, v, Fk, by rw [← hx]; exact hld, hnb, fun x hx => hsub x (hsub2 x hx), hsub b hFb, fun e => hng (by rw [← e]; exact hFb), hld2, hv, fun w1 F' P' r' u hp hr' => ?_, fun w1 F' P' v' r' u hg' hpp hr' => ?_⟩
  · obtain ⟨F1, hrow, hupd⟩ := h3 w1 F' P' u hp
    rw [flatM_setP rgT_len hk hr' hr] at hrow
    have hrow' : rgsT (m.rgs.set i r') w1 F1 rv := by rw [rgsT, List.length_set]; exact hrow
    obtain ⟨F2, e1, e2⟩ := hres w1 F1 (rgsT (m.rgs.set i r')) hupd hrow'
    exact ⟨F2, e1, e2⟩
  · obtain ⟨ok, F1, hrow, hupd⟩ := h4 w1 F' P' v' u hg' hpp
    rw [flatM_setP rgT_len hk hr' hr] at hrow
    have hrow' : rgsT (m.rgs.set i r') (put w1 b ((getC (hp w1 b)).setIfInBounds (i * 7 + k) v') (getE (hp w1 b))) F1 rv := by rw [rgsT, List.length_set]; exact hrow
    obtain ⟨F2, e1, e2⟩ := hres _ F1 (rgsT (m.rgs.set i r')) hupd hrow'
    exact ⟨ok, F2, e1, e2⟩
theorem MdI.hdCell {w : World} {g : Nat} {m : MdV} {F : Fp} (h : MdI w g m F) {i : Nat} {d : HdV} (hd : m.hands[i]? = some d) {k : Nat} (hk : k < 2) {P : Th} (hP : (hdT d)[k]? = some P) :
    ∃ b c v Fk, ldC (hp w g) (0 + 9) = some (.slice (some ⟨b, 0, none⟩) m.hands.length c) ∧ ¬ Fk b ∧ (∀ x, Fk x → F x) ∧ F b ∧ b ≠ g ∧ ldC (hp w b) (i * 2 + k) = some v ∧ P w Fk v ∧
      (∀ w1 F' P' v' d', UpdP Fk F' w w1 → OwnT P' → P' w1 F' v' → hdT d' = (hdT d).set k P' → okC (hp w1 b) (i * 2 + k + 1) = true ∧ ∃ F1, MdI (put w1 b ((getC (hp w1 b)).setIfInBounds (i * 2 + k) v') (getE (hp w1 b))) g { m with hands := m.hands.set i d' } F1 ∧ UpdP F F1 w (put w1 b ((getC (hp w1 b)).setIfInBounds (i * 2 + k) v') (getE (hp w1 b)))) := by
  obtain ⟨rv, Fr, hg, hng, hsub, hld, hR, hres, _⟩ := isAt.cell h (good_md m) (k := 9) (P := handsT m.hands) rfl
  have hP' : (m.hands.flatMap hdT)[i * 2 + k]? = some P := (aN hdT_len m.hands i d hd k hk).trans hP
  obtain ⟨b, c, v, Fk, hx, hFb, hnb, hsub2, hld2, hv, h3, h4⟩ := isRow.cell hR (good_hdL m.hands) hP'
  refine ⟨b, c, v, Fk, by rw [← hx]; exact hld, hnb, fun x hx => hsub x (hsub2 x hx), hsub b hFb, fun e => hng (by rw [← e]; exact hFb), hld2, hv, fun w1 F' P' v' d' u hg' hpp hr' => ?_⟩
  obtain ⟨ok, F1, hrow, hupd⟩ := h4 w1 F' P' v' u hg' hpp
  rw [flatM_setP hdT_len hk hr' hd] at hrow
  have hrow' : handsT (m.hands.set i d') (put w1 b ((getC (hp w1 b)).setIfInBounds (i * 2 + k) v') (getE (hp w1 b))) F1 rv := by rw [handsT, List.length_set]; exact hrow
  obtain ⟨F2, e1, e2⟩ := hres _ F1 (handsT (m.hands.set i d')) hupd hrow'
  exact ⟨ok, F2, e1, e2⟩
end Go.Proofs.YteapggpkgfiacaaGreat

namespace Go.Proofs.YteapggpkgfiacaaGreat
open Go Ev Go.RowKit

abbrev RsV := Int × HnV × Int × Int
def rsC (r : RsV) : List Value := [.int .i64 r.1, .int .i64 r.2.1.1, .int .i64 r.2.1.2.1, .int .i64 r.2.1.2.2.1, .int .i64 r.2.1.2.2.2.1, .int .i64 r.2.1.2.2.2.2, .int .i64 r.2.2.1, .int .u64 r.2.2.2]
def noH : HnV := (0, 0, 0, 0, 0)
def noR : RsV := (0, noH, 0, 0)
def codeR (c : Int) : RsV := (c, noH, 0, 0)
def nmOf (h : HnV) : NmV := (h.1, h.2.1)
def rgOf (m : MdV) (n : NmV) : Option RgV := (findR m.rgs n).bind (m.rgs[·]?)
def chunkW (r : RgV) (ch : Int) : List Int := r.words.getD (ixOf r.chunks ch).toNat []
def wordV (m : MdV) (h : HnV) (n : Int) : Int := match rgOf m (nmOf h) with
  | some r => (chunkW r h.2.2.1).getD (h.2.2.2.1 + n).toNat 0
  | none => 0
def setW (r : RgV) (h : HnV) (n x : Int) : RgV := { r with words := r.words.set (ixOf r.chunks h.2.2.1).toNat ((chunkW r h.2.2.1).set (h.2.2.2.1 + n).toNat x) }
def setWordV (m : MdV) (h : HnV) (n x : Int) : MdV := match findR m.rgs (nmOf h) with
  | some i => (match m.rgs[i]? with | some r => { m with rgs := m.rgs.set i (setW r h n x) } | none => m)
  | none => m
def mustB (m : MdV) (o : OpV) (h : HnV) : RsV :=
  if o.1 = 6 ∨ o.1 = 8 then (0, noH, 0, wordV m h o.2.2.2.1)
  else if o.1 = 9 then (0, noH, if wordV m h o.2.2.2.1 = o.2.2.2.2.1 then 1 else 0, 0)
  else if o.1 = 12 then (0, noH, (match rgOf m (nmOf h) with | some r => r.off | none => 0), 0)
  else noR
def mustV (m : MdV) (w : Int) (o : OpV) (h : HnV) : RsV × Bool :=
  if mayV m w o = false then (noR, false)
  else match m.hands[w.toNat]? with
  | none => (noR, false)
  | some d =>
    if refusesV m d o h ≠ 0 then (codeR (refusesV m d o h), true)
    else if o.1 = 1 ∨ o.1 = 2 then (noR, false)
    else (mustB m o h, true)
def setHd (m : MdV) (w : Int) (d : HdV) : MdV := { m with hands := m.hands.set w.toNat d }
def doesV (m : MdV) (w : Int) (o : OpV) (h : HnV) : MdV := match m.hands[w.toNat]? with
  | none => m
  | some d =>
    if o.1 = 3 then setHd m w { d with depth := d.depth + 1 }
    else if o.1 = 4 then setHd m w (if d.depth - 1 = 0 then { depth := 0, holds := [] } else { d with depth := d.depth - 1 })
    else if o.1 = 5 then (if holdsV d h then m else setHd m w { d with holds := d.holds ++ [nmOf h] })
    else if o.1 = 7 then setWordV m h o.2.2.2.1 o.2.2.2.2.1
    else if o.1 = 8 then setWordV m h o.2.2.2.1 (IntKind.u64.wrap (wordV m h o.2.2.2.1 + o.2.2.2.2.1))
    else if o.1 = 9 then (if wordV m h o.2.2.2.1 = o.2.2.2.2.1 then setWordV m h o.2.2.2.1 o.2.2.2.2.2 else m)
    else if o.1 = 10 then (match m.slots[h.1.toNat]? with | some p => { m with slots := m.slots.set h.1.toNat (if m.loose then 0 else 2, p.2) } | none => m)
    else m
def laterV (g : Int) : Int := if g < 4294967295 then g + 1 else 0
def createsV (m : MdV) (cls : Int) (r : RsV) : Bool × MdV :=
  if r = codeR 7 then (m.loose || decide (spareN m.slots = 0), m)
  else if 0 ≤ r.2.1.1 ∧ r.2.1.1 < m.slots.length then (match m.slots[r.2.1.1.toNat]? with
    | some p => if p.1 ≠ 0 then (false, m) else if r = (0, (r.2.1.1, laterV p.2, 0, 0, 0), 0, 0) then
        (true, { m with slots := m.slots.set r.2.1.1.toNat (1, laterV p.2), rgs := m.rgs ++ [⟨(r.2.1.1, laterV p.2), cls, 0, [], [], []⟩] }) else (false, m)
    | none => (false, m))
  else (false, m)
def takenV (m : MdV) (ch : Int) : Bool := m.rgs.any fun r => isLv m r.nm && decide (ch ∈ r.chunks)
def growV (words need : Int) (r : RgV) (want : HnV) : RgV :=
  if rfitsV r words need then { r with off := r.off + need, objs := r.objs ++ [want] }
  else { r with chunks := r.chunks ++ [want.2.2.1], words := r.words ++ [List.replicate words.toNat 0], off := afterV words need, objs := r.objs ++ [want] }
def wantV (words need n : Int) (r : RgV) (h : HnV) (ch : Int) : HnV := if rfitsV r words need then (h.1, h.2.1, newV r.chunks, r.off, n) else (h.1, h.2.1, ch, 0, n)
def givesV (m : MdV) (n : Int) (h : HnV) (r : RsV) : Bool × MdV := match findR m.rgs (nmOf h) with
  | none => (false, m)
  | some i => match m.rgs[i]? with
    | none => (false, m)
    | some x =>
      let need := roundV x.cls n
      let fits := rfitsV x m.c.2.2.1 need
      let want := wantV m.c.2.2.1 need n x h r.2.1.2.2.1
      if fits = false ∧ r = codeR 6 then (true, m)
      else if fits = false ∧ (r.2.1.2.2.1 < 0 ∨ m.c.2.1 ≤ r.2.1.2.2.1 ∨ takenV m r.2.1.2.2.1 = true) then (false, m)
      else if r = (0, want, 0, 0) then (true, { m with rgs := m.rgs.set i (growV m.c.2.2.1 need x want) })
      else (false, m)
def doV (m : MdV) (w : Int) (o : OpV) (h : HnV) (r : RsV) : Bool × MdV :=
  if mayV m w o = false then (false, m)
  else if (mustV m w o h).2 = true then
    (if r = (mustV m w o h).1 then (true, if r.1 = 0 then doesV m w o h else m) else (false, m))
  else if o.1 = 1 then createsV m o.2.2.2.1 r
  else givesV m o.2.2.2.1 h r
structure WfR (words : Int) (k : Nat) (r : RgV) : Prop where
  cl : r.chunks.length ≤ k
  wl : r.words.length = r.chunks.length
  ww : ∀ L ∈ r.words, (L.length : Int) = words
  ol : r.objs.length ≤ k
  ob : ∀ h ∈ r.objs, h.2.2.1 ∈ r.chunks ∧ 0 ≤ h.2.2.2.1 ∧ 1 ≤ h.2.2.2.2 ∧ h.2.2.2.1 + h.2.2.2.2 ≤ words
  of0 : 0 ≤ r.off
  ofw : r.off ≤ words
structure Wf (m : MdV) (k : Nat) : Prop where
  w1 : 1 ≤ m.c.2.2.1
  w2 : m.c.2.2.1 ≤ 1024
  sl : m.slots.length ≤ 1000000
  sg : ∀ p ∈ m.slots, 0 ≤ p.2 ∧ p.2 ≤ 4294967295
  hd : ∀ d ∈ m.hands, 0 ≤ d.depth ∧ d.depth ≤ 15 ∧ d.holds.length ≤ 8
  rl : m.rgs.length ≤ k
  rg : ∀ r ∈ m.rgs, WfR m.c.2.2.1 k r
theorem Wf.small {m : MdV} {k : Nat} (h : Wf m k) (hk : k ≤ 1000000) : Small m :=
  ⟨Nat.le_trans h.rl hk, fun r hr => Nat.le_trans (h.rg r hr).ol hk, fun d hd => by have := (h.hd d hd).2.2; omega⟩
theorem WfR.mono {words : Int} {k l : Nat} {r : RgV} (h : WfR words k r) (hl : k ≤ l) : WfR words l r := ⟨Nat.le_trans h.cl hl, h.wl, h.ww, Nat.le_trans h.ol hl, h.ob, h.of0, h.ofw⟩
theorem Wf.mono {m : MdV} {k l : Nat} (h : Wf m k) (hl : k ≤ l) : Wf m l := ⟨h.w1, h.w2, h.sl, h.sg, h.hd, Nat.le_trans h.rl hl, fun r hr => (h.rg r hr).mono hl⟩
theorem findR_at {L : List RgV} {n : NmV} {i : Nat} (h : findR L n = some i) : ∃ r, L[i]? = some r ∧ r.nm = n := by
  rw [findR, List.findIdx?_eq_some_iff_getElem] at h
  obtain ⟨hi, hp, _⟩ := h
  exact ⟨L[i], List.getElem?_eq_getElem hi, by simpa using hp⟩
theorem ixOf_at {α : Type} [DecidableEq α] {L : List α} {x : α} (h : x ∈ L) : ∃ i : Nat, ixOf L x = i ∧ L[i]? = some x := by
  have h1 := ixOf_mem L x
  rw [decide_eq_true h, decide_eq_true_eq] at h1
  unfold ixOf at h1 ⊢
  split at h1
  · rename_i i hi
    rw [List.findIdx?_eq_some_iff_getElem] at hi
    obtain ⟨hl, hp, _⟩ := hi
    exact ⟨i, rfl, by rw [List.getElem?_eq_getElem hl]; simpa using hp⟩
  · omega
theorem WfR.setW {words : Int} {k : Nat} {r : RgV} (h : WfR words k r) (a : HnV) (n x : Int) : WfR words k (setW r a n x) := by
  refine ⟨h.cl, by simp [Go.Proofs.YteapggpkgfiacaaGreat.setW, h.wl], fun L hL => ?_, h.ol, h.ob, h.of0, h.ofw⟩
  rcases List.mem_or_eq_of_mem_set hL with h1 | h1
  · exact h.ww L h1
  · rw [h1, List.length_set]
    by_cases hi : (ixOf r.chunks a.2.2.1).toNat < r.words.length
    · apply h.ww; rw [chunkW, List.getD_eq_getElem?_getD, List.getElem?_eq_getElem hi]; exact List.getElem_mem hi
    · rw [Go.Proofs.YteapggpkgfiacaaGreat.setW, List.set_eq_of_length_le (by omega)] at hL
      have e : chunkW r a.2.2.1 = [] := by rw [chunkW, List.getD_eq_getElem?_getD, List.getElem?_eq_none (by omega)]; rfl
      rw [e] at h1
      simp at h1
      have := h.ww L hL
      rw [h1] at this
      rw [e]; exact this
theorem mem_set {α : Type} {p : α → Prop} {L : List α} {i : Nat} {x : α} (h : ∀ y ∈ L, p y) (hx : p x) : ∀ y ∈ L.set i x, p y := fun y hy => by
  rcases List.mem_or_eq_of_mem_set hy with h1 | h1
  · exact h y h1
  · rw [h1]; exact hx
theorem Wf.setRg {m : MdV} {k : Nat} (h : Wf m k) {i : Nat} {r : RgV} (hr : WfR m.c.2.2.1 k r) : Wf { m with rgs := m.rgs.set i r } k :=
  ⟨h.w1, h.w2, h.sl, h.sg, h.hd, by simpa using h.rl, mem_set h.rg hr⟩
theorem Wf.setHd {m : MdV} {k : Nat} (h : Wf m k) {w : Int} {d : HdV} (hd : 0 ≤ d.depth ∧ d.depth ≤ 15 ∧ d.holds.length ≤ 8) : Wf (setHd m w d) k :=
  ⟨h.w1, h.w2, h.sl, h.sg, mem_set h.hd hd, h.rl, h.rg⟩
theorem Wf.setSl {m : MdV} {k : Nat} (h : Wf m k) {i : Nat} {p : NmV} (hp : 0 ≤ p.2 ∧ p.2 ≤ 4294967295) : Wf { m with slots := m.slots.set i p } k :=
  ⟨h.w1, h.w2, by simpa using h.sl, mem_set h.sg hp, h.hd, h.rl, h.rg⟩
theorem Wf.setWord {m : MdV} {k : Nat} (h : Wf m k) (a : HnV) (n x : Int) : Wf (setWordV m a n x) k := by
  unfold setWordV
  split
  · split
    · rename_i r hr
      exact h.setRg ((h.rg r (List.mem_of_getElem? hr)).setW a n x)
    · exact h
  · exact h
theorem later_ok {g : Int} (h : 0 ≤ g) : 0 ≤ laterV g ∧ laterV g ≤ 4294967295 := by unfold laterV; split <;> omega
theorem Wf.back {m : MdV} {k : Nat} (h : Wf m k) (n : Int) : Wf (backV m n).2 k := by
  unfold backV
  split
  · split
    · rename_i p hp
      split
      · exact h.setSl (h.sg p (List.mem_of_getElem? hp))
      · exact h
    · exact h
  · exact h
theorem right_need {words need : Int} (h : rightV words need = true) : 1 ≤ need ∧ need ≤ words := by have := right_iff h; omega
theorem fits_need {r : RgV} {words need : Int} (h : rfitsV r words need = true) : 0 < r.chunks.length ∧ 1 ≤ need ∧ 0 ≤ r.off ∧ r.off + need ≤ words := by
  simp only [rfitsV, fitsV, Bool.and_eq_true, Bool.not_eq_true', decide_eq_true_eq] at h
  have := right_need h.2.1
  omega
theorem after_ok {words need : Int} (hw : 0 ≤ words) : 0 ≤ afterV words need ∧ afterV words need ≤ words := by
  unfold afterV
  split
  · rename_i h
    have := right_need h
    split <;> omega
  · omega
theorem newV_mem {l : List Int} (h : 0 < l.length) : newV l ∈ l := by
  rw [newV, if_neg (by omega), List.getD_eq_getElem?_getD, List.getElem?_eq_getElem (by omega)]
  exact List.getElem_mem _
theorem round_ge {cls n : Int} (h1 : 1 ≤ n) (h2 : n ≤ 1024) : n ≤ roundV cls n ∧ roundV cls n ≤ 1031 := by
  rw [roundV, if_neg (by omega)]
  have : stepOf cls = 1 ∨ stepOf cls = 2 ∨ stepOf cls = 4 ∨ stepOf cls = 8 := by unfold stepOf; repeat' split; all_goals omega
  unfold roundS
  rcases this with h | h | h | h <;> rw [h] <;> omega
theorem WfR.grow {words : Int} {k : Nat} {r : RgV} (h : WfR words k r) (hw : 0 ≤ words) {n need : Int} (hn : 1 ≤ n) (hnw : n ≤ words) (hnn : n ≤ need) (a : HnV) (ch : Int) : WfR words (k + 1) (growV words need r (wantV words need n r a ch)) := by
  unfold growV wantV
  cases hf : rfitsV r words need with
  | true =>
    obtain ⟨f1, f2, f3, f4⟩ := fits_need hf
    simp only [if_true]
    refine ⟨by have := h.cl; simp only; omega, h.wl, h.ww, by have := h.ol; simp; omega, fun x hx => ?_, by show 0 ≤ r.off + need; omega, f4⟩
    rcases List.mem_append.1 hx with h1 | h1
    · exact h.ob x h1
    · rw [List.mem_singleton.1 h1]
      exact ⟨newV_mem f1, f3, hn, by show r.off + n ≤ words; omega⟩
  | false =>
    simp only [Bool.false_eq_true, if_false]
    refine ⟨by have := h.cl; simp; omega, by simp [h.wl], fun L hL => ?_, by have := h.ol; simp; omega, fun x hx => ?_, (after_ok hw).1, (after_ok hw).2⟩
    · rcases List.mem_append.1 hL with h1 | h1
      · exact h.ww L h1
      · rw [List.mem_singleton.1 h1, List.length_replicate]; omega
    · rcases List.mem_append.1 hx with h1 | h1
      · have := h.ob x h1
        exact ⟨List.mem_append_left _ this.1, this.2⟩
      · rw [List.mem_singleton.1 h1]
        exact ⟨List.mem_append_right _ (by simp), by show (0 : Int) ≤ 0; omega, hn, by show 0 + n ≤ words; omega⟩
theorem may_n {m : MdV} {w : Int} {o : OpV} (h : mayV m w o = true) : 0 ≤ w ∧ w < m.hands.length ∧ 0 ≤ o.2.2.2.1 := by
  simp only [mayV, mayO, Bool.and_eq_true, decide_eq_true_eq] at h
  exact ⟨h.1, h.2.1, h.2.2.2.2.2.1.1⟩
theorem refuses_n {m : MdV} {d : HdV} {o : OpV} {h : HnV} (hr : refusesV m d o h = 0) (ho : o.1 = 2) : 1 ≤ o.2.2.2.1 ∧ o.2.2.2.1 ≤ m.c.2.2.1 ∧ isLv m (nmOf h) = true ∧ knownV m h 1 = true := by
  unfold refusesV at hr
  split at hr
  · omega
  · rename_i hk
    have e : ofK o.1 = 1 := by rw [ho]; rfl
    rw [e] at hk
    rw [codeV, if_pos ho] at hr
    split at hr
    · omega
    · refine ⟨by omega, by omega, ?_, ?_⟩
      · unfold staleV at hr
        split at hr
        · assumption
        · omega
      · cases hkk : knownV m h 1 with
        | true => rfl
        | false => exact absurd ⟨by omega, hkk⟩ hk
end Go.Proofs.YteapggpkgfiacaaGreat

namespace Go.Proofs.YteapggpkgfiacaaGreat
open Go Ev Go.RowKit

theorem refuses_code {m : MdV} {d : HdV} {o : OpV} {h : HnV} (hr : refusesV m d o h = 0) : (ofK o.1 = 0 ∨ knownV m h (ofK o.1) = true) ∧ codeV m.c.2.2.1 d (holdsV d h) (staleV m h) o h.2.2.2.2 = 0 := by
  unfold refusesV at hr
  split at hr
  · omega
  · rename_i hk
    refine ⟨?_, hr⟩
    by_cases h0 : ofK o.1 = 0
    · exact .inl h0
    · right
      cases hkk : knownV m h (ofK o.1) with
      | true => rfl
      | false => exact absurd ⟨h0, hkk⟩ hk
theorem Wf.does {m : MdV} {k : Nat} (h : Wf m k) {w : Int} {o : OpV} {a : HnV} {d : HdV} (hd : m.hands[w.toNat]? = some d) (hr : refusesV m d o a = 0) : Wf (doesV m w o a) k := by
  have hc := (refuses_code hr).2
  have hD := h.hd d (List.mem_of_getElem? hd)
  unfold doesV
  rw [hd]
  simp only
  split
  · rename_i k3
    rw [codeV, if_neg (by omega), if_pos k3] at hc
    refine h.setHd ⟨by simp only; omega, ?_, hD.2.2⟩
    split at hc
    · omega
    · simp only; omega
  split
  · rename_i k3 k4
    rw [codeV, if_neg (by omega), if_neg (by omega), if_pos k4] at hc
    refine h.setHd ?_
    split
    · exact ⟨Int.le_refl _, by decide, Nat.zero_le _⟩
    · refine ⟨?_, by simp only; omega, hD.2.2⟩
      split at hc
      · omega
      · simp only; omega
  split
  · rename_i k3 k4 k5
    rw [codeV, if_neg (by omega), if_neg (by omega), if_neg (by omega), if_pos k5] at hc
    split
    · exact h
    · rename_i hh
      refine h.setHd ⟨hD.1, hD.2.1, ?_⟩
      split at hc
      · omega
      · split at hc
        · omega
        · simp; omega
  split
  · exact h.setWord _ _ _
  split
  · exact h.setWord _ _ _
  split
  · split
    · exact h.setWord _ _ _
    · exact h
  split
  · split
    · rename_i p hp
      exact h.setSl (h.sg p (List.mem_of_getElem? hp))
    · exact h
  · exact h
theorem Wf.creates {m : MdV} {k : Nat} (h : Wf m k) (cls : Int) (r : RsV) : Wf (createsV m cls r).2 (k + 1) := by
  have h1 := h.mono (Nat.le_succ k)
  unfold createsV
  split
  · exact h1
  split
  · split
    · rename_i p hp
      split
      · exact h1
      split
      · have hp' := h.sg p (List.mem_of_getElem? hp)
        refine ⟨h.w1, h.w2, by simpa using h.sl, mem_set h.sg (later_ok hp'.1), h.hd, by have := h.rl; simp; omega, fun x hx => ?_⟩
        rcases List.mem_append.1 hx with hx | hx
        · exact h1.rg x hx
        · rw [List.mem_singleton.1 hx]
          have := h.w1
          exact ⟨Nat.zero_le _, rfl, fun L hL => by simp at hL, Nat.zero_le _, fun a ha => by simp at ha, Int.le_refl _, by show (0 : Int) ≤ m.c.2.2.1; omega⟩
      · exact h1
    · exact h1
  · exact h1
theorem Wf.gives {m : MdV} {k : Nat} (h : Wf m k) {n : Int} (h1 : 1 ≤ n) (h2 : n ≤ m.c.2.2.1) (a : HnV) (r : RsV) : Wf (givesV m n a r).2 (k + 1) := by
  have hk := h.mono (Nat.le_succ k)
  have w1 := h.w1
  have w2 := h.w2
  unfold givesV
  split
  · exact hk
  · split
    · exact hk
    · rename_i i _ x hx
      have hW := h.rg x (List.mem_of_getElem? hx)
      simp only
      split
      · exact hk
      split
      · exact hk
      split
      · refine ⟨h.w1, h.w2, h.sl, h.sg, h.hd, by have := h.rl; simp; omega, mem_set hk.rg ?_⟩
        exact hW.grow (by omega) h1 h2 (round_ge h1 (by omega)).1 a _
      · exact hk
theorem may_k {m : MdV} {w : Int} {o : OpV} (h : mayV m w o = true) : 1 ≤ o.1 ∧ o.1 ≤ 12 := by
  simp only [mayV, mayO, Bool.and_eq_true, decide_eq_true_eq] at h
  exact ⟨h.2.2.1.1, h.2.2.1.2⟩
theorem may_hd {m : MdV} {w : Int} {o : OpV} (h : mayV m w o = true) : ∃ d, m.hands[w.toNat]? = some d := ⟨_, List.getElem?_eq_getElem (by have := may_n h; omega)⟩
theorem must_open {m : MdV} {w : Int} {o : OpV} {h : HnV} (hm : mayV m w o = true) {d : HdV} (hd : m.hands[w.toNat]? = some d) (hi : (mustV m w o h).2 = false) : refusesV m d o h = 0 ∧ (o.1 = 1 ∨ o.1 = 2) := by
  unfold mustV at hi
  rw [if_neg (by rw [hm]; simp), hd] at hi
  simp only at hi
  split at hi
  · cases hi
  · rename_i h0
    split at hi
    · rename_i h1
      exact ⟨by omega, h1⟩
    · cases hi
theorem must_fine {m : MdV} {w : Int} {o : OpV} {h : HnV} (hm : mayV m w o = true) {d : HdV} (hd : m.hands[w.toNat]? = some d) (hc : (mustV m w o h).1.1 = 0) : refusesV m d o h = 0 := by
  unfold mustV at hc
  rw [if_neg (by rw [hm]; simp), hd] at hc
  simp only at hc
  split at hc
  · exact hc
  · omega
theorem touch_ok {m : MdV} {d : HdV} {o : OpV} {h : HnV} (hr : refusesV m d o h = 0) (h6 : 6 ≤ o.1) (h9 : o.1 ≤ 9) : knownV m h 2 = true ∧ o.2.2.2.1 < h.2.2.2.2 := by
  obtain ⟨h1, h2⟩ := refuses_code hr
  have e : ofK o.1 = 2 := by rw [ofK, if_neg (by omega), if_pos ⟨h6, h9⟩]
  rw [e] at h1
  rw [codeV, if_neg (by omega), if_neg (by omega), if_neg (by omega), if_neg (by omega), if_pos ⟨h6, h9⟩] at h2
  refine ⟨h1.resolve_left (by omega), ?_⟩
  split at h2
  · omega
  · split at h2
    · omega
    · omega
theorem region_ok {m : MdV} {d : HdV} {o : OpV} {h : HnV} (hr : refusesV m d o h = 0) (hk : o.1 = 2 ∨ o.1 = 10 ∨ o.1 = 12) : ∃ i r, findR m.rgs (nmOf h) = some i ∧ m.rgs[i]? = some r ∧ r.nm = nmOf h ∧ isLv m (nmOf h) = true := by
  obtain ⟨h1, h2⟩ := refuses_code hr
  have e : ofK o.1 = 1 := by rw [ofK, if_pos hk]
  rw [e] at h1
  have hl : isLv m (nmOf h) = true := by
    have : staleV m h = 0 := by
      unfold codeV at h2
      rcases hk with k | k | k
      · rw [if_pos k] at h2
        split at h2
        · omega
        · exact h2
      · rw [if_neg (by omega), if_neg (by omega), if_neg (by omega), if_neg (by omega), if_neg (by omega), if_pos (by omega)] at h2; exact h2
      · rw [if_neg (by omega), if_neg (by omega), if_neg (by omega), if_neg (by omega), if_neg (by omega), if_pos (by omega)] at h2; exact h2
    unfold staleV at this
    split at this
    · assumption
    · omega
  have hk1 := h1.resolve_left (by omega)
  unfold knownV at hk1
  split at hk1
  · cases hk1
  · rename_i i hf
    obtain ⟨r, hr', hn⟩ := findR_at hf
    exact ⟨i, r, hf, hr', hn, hl⟩
theorem Wf.doV {m : MdV} {k : Nat} (h : Wf m k) (w : Int) (o : OpV) (a : HnV) (r : RsV) : Wf (doV m w o a r).2 (k + 1) := by
  have hk := h.mono (Nat.le_succ k)
  unfold Go.Proofs.YteapggpkgfiacaaGreat.doV
  cases hm : mayV m w o with
  | false => simp only [if_true]; exact hk
  | true =>
    rw [if_neg (by simp)]
    obtain ⟨d, hd⟩ := may_hd hm
    split
    · split
      · rename_i hr
        simp only
        split
        · rename_i h0
          exact (h.does hd (must_fine hm hd (by rw [← hr]; exact h0))).mono (Nat.le_succ k)
        · exact hk
      · exact hk
    · rename_i hi
      have hop := must_open hm hd (by simpa using hi)
      split
      · exact h.creates _ _
      · have := refuses_n hop.1 (by omega)
        exact h.gives this.1 this.2.1 a r
end Go.Proofs.YteapggpkgfiacaaGreat

namespace Go.Proofs.YteapggpkgfiacaaGreat
open Go Ev Go.RowKit

theorem aQ {w w' : World} (hc : Chg [] w w') {b o : Nat} {v : Value} (h : ldC (hp w b) o = some v) : ldC (hp w' b) o = some v := by
  have : hp w' b = hp w b := hc.block b (by
    rcases Nat.lt_or_ge b w.heap.size with h1 | h1
    · exact h1
    · have h2 : hp w b = none := by simp [hp]; omega
      rw [h2] at h; cases h) (by simp)
  rw [this]; exact h
theorem MdI.word {w : World} {g : Nat} {m : MdV} {F : Fp} (I : MdI w g m F) {i : Nat} {r : RgV} (hi : m.rgs[i]? = some r) {k : Nat} {L : List Int} (hL : r.words[k]? = some L) {j : Nat} {x : Int} (hj : L[j]? = some x) :
    ∃ b c bw cw g2 c2, ldC (hp w g) (0 + 8) = some (.slice (some ⟨b, 0, none⟩) m.rgs.length c) ∧ ldC (hp w b) (i * 7 + 5) = some (.slice (some ⟨bw, 0, none⟩) r.words.length cw) ∧ ldC (hp w bw) k = some (.slice (some ⟨g2, 0, none⟩) L.length c2) ∧ ldC (hp w g2) j = some (.int .u64 x) ∧
      ∀ y, okC (hp w g2) (j + 1) = true ∧ ∃ F', MdI (put w g2 ((getC (hp w g2)).setIfInBounds j (.int .u64 y)) (getE (hp w g2))) g { m with rgs := m.rgs.set i { r with words := r.words.set k (L.set j y) } } F' ∧ UpdP F F' w (put w g2 ((getC (hp w g2)).setIfInBounds j (.int .u64 y)) (getE (hp w g2))) := by
  obtain ⟨b, c, v, Fk, hl, hnb, hsub, hFb, _, hld, hP, hres, _⟩ := I.rgCell hi (k := 5) (P := wordsT r.words) (by omega) rfl
  have hPw : (r.words.map wordT)[k]? = some (wordT L) := by rw [List.getElem?_map, hL]; rfl
  obtain ⟨bw, cw, v2, Fk2, hx2, _, _, _, hld2, hP2, hres2, _⟩ := isRow.cell hP (fun P hP => by obtain ⟨l, _, rfl⟩ := List.mem_map.1 hP; exact good_word l) hPw
  have hPu : ((u64s L).map isV)[j]? = some (isV (.int .u64 x)) := by rw [u64s, List.map_map, List.getElem?_map, hj]; rfl
  obtain ⟨g2, c2, v3, Fk3, hx3, _, _, _, hld3, hv3, _, hst⟩ := isRow.cell hP2 (good_ints (u64s_int L)) hPu
  refine ⟨b, c, bw, cw, g2, c2, hl, by rw [← hx2]; exact hld, by rw [← hx3]; exact hld2, by rw [hld3, hv3.1], fun y => ?_⟩
  obtain ⟨ok, F1, hrow, hupd⟩ := hst w none' (isV (.int .u64 y)) (.int .u64 y) (UpdP.none hv3.2 w) (aV _ _) ⟨rfl, fun _ h => h⟩
  have hset : ((u64s L).map isV).set j (isV (.int .u64 y)) = (u64s (L.set j y)).map isV := by simp [u64s, List.map_set]
  rw [hset] at hrow
  have hrow' : wordT (L.set j y) (put w g2 ((getC (hp w g2)).setIfInBounds j (.int .u64 y)) (getE (hp w g2))) F1 v2 := by rw [wordT, List.length_set]; exact hrow
  obtain ⟨F2, hrow2, hupd2⟩ := hres2 _ F1 (wordT (L.set j y)) hupd hrow'
  rw [← List.map_set] at hrow2
  have hrow2' : wordsT (r.words.set k (L.set j y)) (put w g2 ((getC (hp w g2)).setIfInBounds j (.int .u64 y)) (getE (hp w g2))) F2 v := by rw [wordsT, List.length_set]; exact hrow2
  obtain ⟨F3, h1, h2⟩ := hres _ F2 (wordsT (r.words.set k (L.set j y))) { r with words := r.words.set k (L.set j y) } hupd2 hrow2' rfl
  exact ⟨ok, F3, h1, h2⟩
structure ObjAt (m : MdV) (h : HnV) (n : Int) (i : Nat) (r : RgV) (k : Nat) (L : List Int) (j : Nat) : Prop where
  fi : findR m.rgs (nmOf h) = some i
  ri : m.rgs[i]? = some r
  ix : ixOf r.chunks h.2.2.1 = k
  wk : r.words[k]? = some L
  wl : (L.length : Int) = m.c.2.2.1
  jn : h.2.2.2.1 + n = j
  jl : j < L.length
theorem obj_at {m : MdV} {K : Nat} (W : Wf m K) {h : HnV} {n : Int} (hk : knownV m h 2 = true) (n0 : 0 ≤ n) (n1 : n < h.2.2.2.2) : ∃ i r k L j, ObjAt m h n i r k L j := by
  unfold knownV at hk
  split at hk
  · cases hk
  · rename_i i hf
    rw [if_neg (by omega)] at hk
    obtain ⟨r, hr, _⟩ := findR_at hf
    simp only [hr, Bool.and_eq_true, decide_eq_true_eq] at hk
    have R := W.rg r (List.mem_of_getElem? hr)
    obtain ⟨o1, o2, o3, o4⟩ := R.ob h hk.2
    obtain ⟨k, k1, k2⟩ := ixOf_at o1
    have hkl := (List.getElem?_eq_some_iff.1 k2).1
    obtain ⟨L, hL⟩ : ∃ L, r.words[k]? = some L := ⟨_, List.getElem?_eq_getElem (by rw [R.wl]; exact hkl)⟩
    have hl := R.ww L (List.mem_of_getElem? hL)
    exact ⟨i, r, k, L, (h.2.2.2.1 + n).toNat, hf, hr, k1, hL, hl, by omega, by omega⟩
theorem ObjAt.val {m : MdV} {h : HnV} {n : Int} {i : Nat} {r : RgV} {k : Nat} {L : List Int} {j : Nat} (O : ObjAt m h n i r k L j) : L[j]? = some (wordV m h n) := by
  have e : rgOf m (nmOf h) = some r := by rw [rgOf, O.fi]; exact O.ri
  have e2 : chunkW r h.2.2.1 = L := by rw [chunkW, O.ix, Int.toNat_natCast, List.getD_eq_getElem?_getD, O.wk]; rfl
  rw [wordV, e]
  simp only
  rw [e2, O.jn, Int.toNat_natCast, List.getD_eq_getElem?_getD, List.getElem?_eq_getElem O.jl]
  rfl
theorem ObjAt.put {m : MdV} {h : HnV} {n : Int} {i : Nat} {r : RgV} {k : Nat} {L : List Int} {j : Nat} (O : ObjAt m h n i r k L j) (y : Int) : setWordV m h n y = { m with rgs := m.rgs.set i { r with words := r.words.set k (L.set j y) } } := by
  have e2 : chunkW r h.2.2.1 = L := by rw [chunkW, O.ix, Int.toNat_natCast, List.getD_eq_getElem?_getD, O.wk]; rfl
  simp only [setWordV, O.fi, O.ri, setW, e2, O.ix, O.jn, Int.toNat_natCast]
structure WordAt (w : World) (g : Nat) (m : MdV) (F : Fp) (h : HnV) (n : Int) (g2 j : Nat) : Prop where
  ld : ldC (hp w g2) j = some (.int .u64 (wordV m h n))
  ok : okC (hp w g2) (j + 1) = true
  st : ∀ y, ∃ F', MdI (put w g2 ((getC (hp w g2)).setIfInBounds j (.int .u64 y)) (getE (hp w g2))) g (setWordV m h n y) F' ∧ UpdP F F' w (put w g2 ((getC (hp w g2)).setIfInBounds j (.int .u64 y)) (getE (hp w g2)))
set_option maxHeartbeats 1000000 in
theorem c_mWord {w : World} {g : Nat} {m : MdV} {F : Fp} {K : Nat} (I : MdI w g m F) (W : Wf m K) (hK : K ≤ 1000000) {h : HnV} {n : Int} (hk : knownV m h 2 = true) (n0 : 0 ≤ n) (n1 : n < h.2.2.2.2) :
    CallR Tryz.prog 41 [.pointer (some ⟨g, 0, none⟩), .agg (hnC h).toArray, .int .i64 n] w fun v w' => ∃ g2 j, v = .pointer (some ⟨g2, j, none⟩) ∧ Chg [] w w' ∧ ∀ w'', Chg [] w w'' → WordAt w'' g m F h n g2 j := by
  apply F41_ok
  obtain ⟨i, r, k, L, j, O⟩ := obj_at W hk n0 n1
  obtain ⟨b, c, bw, cw, g2, c2, p1, p2, p3, p4, _⟩ := I.word O.ri O.wk O.val
  have all : ∀ w'', Chg [] w w'' → WordAt w'' g m F h n g2 j := fun w'' hc => by
    obtain ⟨b', c', bw', cw', g2', c2', q1, q2, q3, q4, q5⟩ := (I.keep hc).word O.ri O.wk O.val
    rw [aQ hc p1] at q1; cases q1
    rw [aQ hc p2] at q2; cases q2
    rw [aQ hc p3] at q3; cases q3
    exact ⟨q4, (q5 0).1, fun y => by rw [O.put]; exact (q5 y).2⟩
  obtain ⟨s, rv, hh, M⟩ := I.rd
  have hrl := M.rl
  rw [p1] at hrl; cases hrl
  have w1 := W.w1
  have w2 := W.w2
  have hbox : hp (w.alloc (.cells (hnC h).toArray 38)) w.heap.size = some (.cells (hnC h).toArray 38) := by rw [aa, if_pos rfl]
  have hc0 : Chg [] w (w.alloc (.cells (hnC h).toArray 38)) := (Chg.refl _ _).alloc _
  simp -implicitDefEqProofs only [F41, ak, au]
  generalize w.alloc (.cells (hnC h).toArray 38) = w0 at *
  generalize w.heap.size = gb at *
  have ldh : ∀ w', hp w' gb = some (.cells (hnC h).toArray 38) → ldv Tryz.prog 38 (.pointer (some ⟨gb, 0, none⟩)) w' = some (.agg (hnC h).toArray) := fun w' hw => aJ (t := 38) (c := (hnC h).toArray) ag_38 (show (Tryz.prog.info? 38).map (·.size) = some (hnC h).toArray.size from sz_38) hw
  simp -implicitDefEqProofs only [ldh _ hbox, ab]
  refine (c_mNameOf h w0).mono ?_
  rintro _ w1 ⟨rfl, k1⟩
  have c01 := hc0.trans k1
  refine (c_mRegion (M.keep c01) (h.1, h.2.1) (Nat.le_trans W.rl hK)).mono ?_
  rintro v w2 ⟨k2, hv⟩
  have c02 := c01.trans k2
  have hf : findR m.rgs (h.1, h.2.1) = some i := O.fi
  rw [hf] at hv
  rcases hv with ⟨hv, _⟩ | ⟨i', rg, b', c', hi', hrg, hr, rfl⟩
  · cases hv
  cases hi'; cases hr
  have cd : Chg [] w w2.drew := c02.drew
  have b2 := (k1.trans k2).at hbox (by simp)
  have e2 : (hnC h).toArray[0 + 2]? = some (.int .i64 h.2.2.1) := rfl
  have e3 : (hnC h).toArray[0 + 3]? = some (.int .i64 h.2.2.2.1) := rfl
  rw [O.ri] at hrg
  cases hrg
  obtain ⟨G, hG⟩ := (M.keep cd).rT
  obtain ⟨b'', c'', hx, cv, wv, ov, R⟩ := rg_at hG O.ri
  cases hx
  have hwv := R.c5
  rw [aQ cd p2] at hwv
  cases hwv
  obtain ⟨A, cc, hcv, hR⟩ := ints_sh R.cT
  have R4 := R.c4
  rw [hcv] at R4
  have R5 := R.c5
  have hlw := (List.getElem?_eq_some_iff.1 O.wk).1
  have iaw := ia_84 (b := bw) (p := 0) (n := r.words.length) (c := cw) (j := .i64) (i := (k : Int)) (by omega) (by omega)
  rw [Int.toNat_natCast, Nat.zero_add, Nat.mul_one] at iaw
  have hjl := O.jl
  have iau := ia_102 (b := g2) (p := 0) (n := L.length) (c := c2) (j := .i64) (i := (j : Int)) (by omega) (by omega)
  rw [Int.toNat_natCast, Nat.zero_add, Nat.mul_one] at iau
  have p3d := aQ cd p3
  have hwl := O.wl
  have hcl : r.chunks.length ≤ 1000000 := Nat.le_trans (W.rg r (List.mem_of_getElem? O.ri)).cl hK
  have fin : ∃ g2' j', Value.pointer (some ⟨g2, j, none⟩) = .pointer (some ⟨g2', j', none⟩) ∧ Chg [] w w2.drew ∧ ∀ w'', Chg [] w w'' → WordAt w'' g m F h n g2' j' := ⟨g2, j, rfl, cd, all⟩
  have b2d : hp w2.drew gb = some (.cells (hnC h).toArray 38) := b2
  simp -implicitDefEqProofs only [ab, ah, fa_86_4, fa_86_3, fa_38_2, fa_38_3, ld_84, ld_26, ac, aH, R4, R5, b2d, e2, e3, am, O.jn, aq (n := (j : Int)) (by omega) (by omega)]
  have ix := c_iIndex (c := cc) hR hcl h.2.2.1
  rw [O.ix] at ix
  repeat' (with_reducible apply And.intro)
  all_goals
    refine ix.step ?_
    simp -implicitDefEqProofs only [ab, iaw, ld_102, ld_84, ac, aH, R5, b2d, e3, am, O.jn, aq (n := (j : Int)) (by omega) (by omega), p3d, iau]
    exact fin
end Go.Proofs.YteapggpkgfiacaaGreat

namespace Go.Proofs.YteapggpkgfiacaaGreat
open Go Ev Go.RowKit

section
variable {W w : World} {g g6 g7 g8 g10 k : Nat} {m : MdV} {F : Fp} {K : Nat} {o : OpV} {h : HnV} {d : HdV}
theorem rsC_one (r : RsV) : (rsC r).toArray.toList.all (·.oneCell') = true := rfl
theorem ld_res {r : RsV} {b : Nat} {e : TypeId} (hb : hp w b = some (.cells (rsC r).toArray e)) : ldv Tryz.prog 40 (.pointer (some ⟨b, 0, none⟩)) w = some (.agg (rsC r).toArray) := aJ (t := 40) (c := (rsC r).toArray) ag_40 (show (Tryz.prog.info? 40).map (·.size) = some (rsC r).toArray.size from sz_40) hb
theorem st_res {r : RsV} {b : Nat} {c : Array Value} {e : TypeId} (hb : hp w b = some (.cells c e)) (hs : c.size = 8) {L : World → Prop} : effu Tryz.prog (Instr.storeAt 40 (.pointer (some ⟨b, 0, none⟩)) (.agg (rsC r).toArray)) w L = L (put w b (rsC r).toArray e) := by
  rw [st_40 rfl (rsC_one r) (by rw [hb, okC_some]; exact decide_eq_true (by omega)) (by rw [hb]; exact hs), hb]; rfl
theorem l_must2 (r : RsV) (hc : Chg [] W w) {c8 : Array Value} (h8 : hp w g8 = some (.cells c8 40)) (hs : c8.size = 8) (h10 : hp w g10 = some (.cells (rsC r).toArray 40)) (n8 : W.heap.size ≤ g8) :
    P30_2 (.pointer (some ⟨g8, 0, none⟩)) (.pointer (some ⟨g10, 0, none⟩)) w fun v w' => v = .tuple #[.agg (rsC r).toArray, .bool true] ∧ Chg [] W w' := by
  apply L30_2_ok
  simp -implicitDefEqProofs only [L30_2, ld_res h10, ab]
  rw [st_res h8 hs, ld_res (ar (av h8) _ _), ab]
  exact ⟨rfl, hc.put (.inr n8) _ _⟩
set_option maxHeartbeats 1000000 in
theorem l_must1 (hc : Chg [] W w) (I : MdI w g m F) (Wm : Wf m K) (hK : K ≤ 1000000) (h6 : hp w g6 = some (.cells (opC o).toArray 36)) (h7 : hp w g7 = some (.cells (hnC h).toArray 38)) {c8 : Array Value} (h8 : hp w g8 = some (.cells c8 40)) (hs : c8.size = 8) (h10 : hp w g10 = some (.cells (rsC noR).toArray 40))
    (n8 : W.heap.size ≤ g8) (n10 : W.heap.size ≤ g10) (n810 : g8 ≠ g10) (hr : refusesV m d o h = 0) (n0 : 0 ≤ o.2.2.2.1) {t : Bool} (ht : t = decide (o.1 = 6 ∨ o.1 = 8)) :
    P30_1 (.pointer (some ⟨g, 0, none⟩)) (.pointer (some ⟨g6, 0, none⟩)) (.pointer (some ⟨g7, 0, none⟩)) (.pointer (some ⟨g8, 0, none⟩)) (.pointer (some ⟨g10, 0, none⟩)) (.int .i64 o.1) (.bool t) w fun v w' => v = .tuple #[.agg (rsC (mustB m o h)).toArray, .bool true] ∧ Chg [] W w' := by
  apply L30_1_ok
  have ldh : ∀ w', hp w' g7 = some (.cells (hnC h).toArray 38) → ldv Tryz.prog 38 (.pointer (some ⟨g7, 0, none⟩)) w' = some (.agg (hnC h).toArray) := fun w' hw => aJ (t := 38) (c := (hnC h).toArray) ag_38 (show (Tryz.prog.info? 38).map (·.size) = some (hnC h).toArray.size from sz_38) hw
  have h6d : hp w.drew g6 = some (.cells (opC o).toArray 36) := h6
  have h7d : hp w.drew g7 = some (.cells (hnC h).toArray 38) := h7
  have cd : Chg [] w w.drew := (Chg.refl _ _).drew
  have fin : ∀ (r : RsV) (k : Nat) (v : Value) (w3 : World), Chg [] w w3 → (rsC noR).toArray.setIfInBounds k v = (rsC r).toArray → mustB m o h = r →
      P30_2 (.pointer (some ⟨g8, 0, none⟩)) (.pointer (some ⟨g10, 0, none⟩)) (put w3 g10 ((getC (hp w3 g10)).setIfInBounds k v) (getE (hp w3 g10))) fun v w' => v = .tuple #[.agg (rsC (mustB m o h)).toArray, .bool true] ∧ Chg [] W w' := by
    intro r k v w3 c3 he hm
    have h103 := c3.at h10 (by simp)
    rw [h103, bm, ay, he, hm]
    exact l_must2 r ((hc.trans c3).put (.inr n10) _ _) (by rw [put_other n810]; exact c3.at h8 (by simp)) hs (ar (av h103) _ _) n8
  have ok3 : ∀ (w3 : World) (k : Nat), Chg [] w w3 → k ≤ 8 → okC (hp w3 g10) k = true := fun w3 k c3 hk => by rw [c3.at h10 (by simp), okC_some]; exact decide_eq_true hk
  by_cases k68 : o.1 = 6 ∨ o.1 = 8
  · have ht' : t = true := by rw [ht]; exact decide_eq_true k68
    subst ht'
    obtain ⟨t1, t2⟩ := touch_ok hr (by omega) (by omega)
    simp -implicitDefEqProofs only [L30_1, zS, ldh _ h7, aY, ac, h6, op_3]
    refine (c_mWord I Wm hK t1 n0 t2).mono ?_
    rintro _ w3 ⟨g2, j, rfl, c3, hw⟩
    have A := hw w3 c3
    simp -implicitDefEqProofs only [zS, ld_34, A.ld, fa_40_3]
    rw [st_34 rfl rfl (ok3 _ _ c3 (by omega))]
    exact fin (0, noH, 0, wordV m h o.2.2.2.1) _ _ _ c3 rfl (by rw [mustB, if_pos k68])
  have ht' : t = false := by rw [ht]; exact decide_eq_false k68
  subst ht'
  by_cases k9 : o.1 = 9
  · have q9 : (o.1 == 9) = true := by rw [k9]; rfl
    obtain ⟨t1, t2⟩ := touch_ok hr (by omega) (by omega)
    have three : ∀ w3, Chg [] w w3 → P30_3 (.pointer (some ⟨g8, 0, none⟩)) (.pointer (some ⟨g10, 0, none⟩)) (.bool (wordV m h o.2.2.2.1 == o.2.2.2.2.1)) w3 fun v w' => v = .tuple #[.agg (rsC (mustB m o h)).toArray, .bool true] ∧ Chg [] W w' := by
      intro w3 c3
      apply L30_3_ok
      by_cases hv : wordV m h o.2.2.2.1 = o.2.2.2.2.1
      · have e : (wordV m h o.2.2.2.1 == o.2.2.2.2.1) = true := by rw [hv]; exact beq_self_eq_true _
        simp -implicitDefEqProofs only [L30_3, e, aG, fa_40_2, ab]
        rw [st_3 rfl rfl (ok3 _ _ c3 (by omega))]
        exact fin (0, noH, 1, 0) _ _ _ c3 rfl (by rw [mustB, if_neg k68, if_pos k9, if_pos hv])
      · simp -implicitDefEqProofs only [L30_3, eqf hv, aC]
        have e : mustB m o h = noR := by rw [mustB, if_neg k68, if_pos k9, if_neg hv]; rfl
        rw [e]
        exact l_must2 noR (hc.trans c3) (c3.at h8 (by simp)) hs (c3.at h10 (by simp)) n8
    simp -implicitDefEqProofs only [L30_1, zS, q9, ldh _ h7d, aY, fa_36_4, ac, ld_34, h6d, h6, op_3, op_4]
    have cw := c_mWord (I.keep cd) Wm hK t1 n0 t2
    repeat' (with_reducible apply And.intro)
    all_goals
      refine cw.mono ?_
      rintro _ w3 ⟨g2, j, rfl, c3, hw⟩
      have A := hw w3 c3
      have h63 := (cd.trans c3).at h6 (by simp)
      simp -implicitDefEqProofs only [zS, ld_34, A.ld, h63, op_4]
      exact three w3 (cd.trans c3)
  by_cases k12 : o.1 = 12
  · have q12 : (o.1 == 12) = true := by rw [k12]; rfl
    obtain ⟨i, r, hf, hri, _, _⟩ := region_ok hr (by omega)
    obtain ⟨s, rv, hh, M⟩ := I.rd
    simp -implicitDefEqProofs only [L30_1, zS, eqf k9, q12, ldh _ h7]
    refine (c_mNameOf h w).mono ?_
    rintro _ w1 ⟨rfl, c1⟩
    refine (c_mRegion (M.keep c1) (h.1, h.2.1) (Nat.le_trans Wm.rl hK)).mono ?_
    rintro v w2 ⟨c2, hv⟩
    have c02 := c1.trans c2
    have hf' : findR m.rgs (h.1, h.2.1) = some i := hf
    rw [hf'] at hv
    rcases hv with ⟨hv, _⟩ | ⟨i', rg, b', c', hi', hrg, hr', rfl⟩
    · cases hv
    cases hi'
    rw [hri] at hrg
    cases hrg
    obtain ⟨G, hG⟩ := (M.keep c02).rT
    obtain ⟨b'', c'', hx, cv, wv, ov, R⟩ := rg_at hG hri
    rw [hr'] at hx
    cases hx
    simp -implicitDefEqProofs only [zS, fa_86_2, fa_40_2, ac, R.c3]
    rw [st_3 rfl rfl (ok3 _ _ c02 (by omega))]
    exact fin (0, noH, r.off, 0) _ _ _ c02 rfl (by
      rw [mustB, if_neg k68, if_neg k9, if_pos k12, rgOf, hf]
      simp only [Option.bind_some, hri])
  · simp -implicitDefEqProofs only [L30_1, zS, eqf k9, eqf k12]
    have e : mustB m o h = noR := by rw [mustB, if_neg k68, if_neg k9, if_neg k12]
    rw [e]
    exact l_must2 noR hc h8 hs h10 n8
set_option maxHeartbeats 1000000 in
theorem c_mMust {w : World} {g : Nat} {m : MdV} {F : Fp} {K : Nat} (I : MdI w g m F) (Wm : Wf m K) (hK : K ≤ 1000000) (n : Int) (o : OpV) (h : HnV) :
    CallR Tryz.prog 30 [.pointer (some ⟨g, 0, none⟩), .int .i64 n, .agg (opC o).toArray, .agg (hnC h).toArray] w fun v w' => v = .tuple #[.agg (rsC (mustV m n o h).1).toArray, .bool (mustV m n o h).2] ∧ Chg [] w w' := by
  apply F30_ok
  obtain ⟨s, rv, hh, M⟩ := I.rd
  simp -implicitDefEqProofs only [F30, ak, au, al_40, ae]
  generalize hw : ((w.alloc (.cells (opC o).toArray 36)).alloc _).alloc _ = w1
  have c1 : Chg [] w w1 := by rw [← hw]; exact (((Chg.refl _ _).alloc _).alloc _).alloc _
  have b6 : hp w1 w.heap.size = some (.cells (opC o).toArray 36) := by rw [← hw, aa, ae, ae, if_neg (by omega), aa, ae, if_neg (by omega), aa, if_pos rfl]
  have b7 : hp w1 (w.heap.size + 1) = some (.cells (hnC h).toArray 38) := by rw [← hw, aa, ae, ae, if_neg (by omega), aa, ae, if_pos rfl]
  have b8 : hp w1 (w.heap.size + 1 + 1) = some (.cells (rsC noR).toArray 40) := by rw [← hw, aa, ae, ae, if_pos rfl]; rfl
  clear hw
  have ldo : ∀ w', hp w' w.heap.size = some (.cells (opC o).toArray 36) → ldv Tryz.prog 36 (.pointer (some ⟨w.heap.size, 0, none⟩)) w' = some (.agg (opC o).toArray) := fun w' hw => aJ (t := 36) (c := (opC o).toArray) ag_36 (show (Tryz.prog.info? 36).map (·.size) = some (opC o).toArray.size from sz_36) hw
  have ldh : ∀ w', hp w' (w.heap.size + 1) = some (.cells (hnC h).toArray 38) → ldv Tryz.prog 38 (.pointer (some ⟨w.heap.size + 1, 0, none⟩)) w' = some (.agg (hnC h).toArray) := fun w' hw => aJ (t := 38) (c := (hnC h).toArray) ag_38 (show (Tryz.prog.info? 38).map (·.size) = some (hnC h).toArray.size from sz_38) hw
  simp -implicitDefEqProofs only [ab, ldo _ b6]
  refine (c_mMay (M.keep c1) n o).mono ?_
  rintro _ w2 ⟨rfl, c2⟩
  have c02 := c1.trans c2
  have d6 := c2.at b6 (by simp)
  have d7 := c2.at b7 (by simp)
  have d8 := c2.at b8 (by simp)
  have noRe : ∀ (L : Array Value → Prop), L (rsC noR).toArray → L #[(Go.Value.int Go.IntKind.i64 0), (Go.Value.int Go.IntKind.i64 0), (Go.Value.int Go.IntKind.i64 0), (Go.Value.int Go.IntKind.i64 0), (Go.Value.int Go.IntKind.i64 0), (Go.Value.int Go.IntKind.i64 0), (Go.Value.int Go.IntKind.i64 0), (Go.Value.int Go.IntKind.u64 0)] := fun L h => h
  cases hm : mayV m n o with
  | false =>
    simp -implicitDefEqProofs only [zS, bd_40_]
    refine noRe (fun z => effu Tryz.prog (Instr.storeAt 40 _ (.agg z)) _ _) ?_
    rw [st_res d8 rfl, ld_res (ar (av d8) _ _), ab]
    exact ⟨by rw [mustV, if_pos hm], c02.put (.inr (by omega)) _ _⟩
  | true =>
    obtain ⟨n0, n1, n2⟩ := may_n hm
    obtain ⟨d, hd⟩ := may_hd hm
    simp -implicitDefEqProofs only [zS, ldo _ d6, ldh _ d7]
    refine (c_mRefuses (M.keep c02) (Wm.small hK) n0 hd o h).mono ?_
    rintro _ w3 ⟨rfl, c3⟩
    have c03 := c02.trans c3
    have f6 := c3.at d6 (by simp)
    have f7 := c3.at d7 (by simp)
    have f8 := c3.at d8 (by simp)
    have s3 := c03.size
    simp -implicitDefEqProofs only [zS, bd_40_0, al_40]
    have codeE : ∀ (L : Array Value → Prop), L (rsC (codeR (refusesV m d o h))).toArray → L #[(.int .i64 (refusesV m d o h)), (Go.Value.int Go.IntKind.i64 0), (Go.Value.int Go.IntKind.i64 0), (Go.Value.int Go.IntKind.i64 0), (Go.Value.int Go.IntKind.i64 0), (Go.Value.int Go.IntKind.i64 0), (Go.Value.int Go.IntKind.i64 0), (Go.Value.int Go.IntKind.u64 0)] := fun L h => h
    refine codeE (fun z => effu Tryz.prog (Instr.storeAt 40 _ (.agg z)) _ _) ?_
    rw [st_res (c := (rsC noR).toArray) (e := 40) (by rw [aa, if_pos rfl]; rfl) rfl]
    generalize hw4 : put (w3.alloc _) w3.heap.size _ _ = w4
    have c4 : Chg [] w3 w4 := by rw [← hw4]; exact ((Chg.refl _ _).alloc _).put (.inr (Nat.le_refl _)) _ _
    have a10 : hp w4 w3.heap.size = some (.cells (rsC (codeR (refusesV m d o h))).toArray 40) := by rw [← hw4]; exact ar (by simp) _ _
    clear hw4
    have c04 := c03.trans c4
    have a6 := c4.at f6 (by simp)
    have a7 := c4.at f7 (by simp)
    have a8 := c4.at f8 (by simp)
    have r0 : (rsC (codeR (refusesV m d o h))).toArray[0 + 0]? = some (.int .i64 (refusesV m d o h)) := rfl
    have lt8 := av f8
    by_cases hr : refusesV m d o h = 0
    · have e0 : (refusesV m d o h != 0) = false := by rw [hr]; rfl
      have mv : mustV m n o h = if o.1 = 1 ∨ o.1 = 2 then (noR, false) else (mustB m o h, true) := by
        rw [mustV, if_neg (by rw [hm]; simp), hd]
        simp only [hr, ne_eq, not_true_eq_false, if_false]
      have a10' : hp w4 w3.heap.size = some (.cells (rsC noR).toArray 40) := by rw [a10, hr]; rfl
      simp -implicitDefEqProofs only [zS, fa_40_0, ld_27, a10, r0, e0, aj, ac, a6, az]
      have zero : ∀ t : Bool, t = decide (o.1 = 1 ∨ o.1 = 2) → P30_0 (.pointer (some ⟨g, 0, none⟩)) (.pointer (some ⟨w.heap.size, 0, none⟩)) (.pointer (some ⟨w.heap.size + 1, 0, none⟩)) (.pointer (some ⟨w.heap.size + 1 + 1, 0, none⟩)) (.pointer (some ⟨w3.heap.size, 0, none⟩)) (.int .i64 o.1) (.bool t) w4
          fun v w' => v = .tuple #[.agg (rsC (mustV m n o h).1).toArray, .bool (mustV m n o h).2] ∧ Chg [] w w' := by
        intro t ht
        apply L30_0_ok
        rw [mv]
        by_cases k12 : o.1 = 1 ∨ o.1 = 2
        · have ht' : t = true := by rw [ht]; exact decide_eq_true k12
          subst ht'
          rw [if_pos k12]
          simp -implicitDefEqProofs only [L30_0, zS, bd_40_]
          refine noRe (fun z => effu Tryz.prog (Instr.storeAt 40 _ (.agg z)) _ _) ?_
          rw [st_res a8 rfl, ld_res (ar (av a8) _ _), ab]
          exact ⟨rfl, c04.put (.inr (by omega)) _ _⟩
        · have ht' : t = false := by rw [ht]; exact decide_eq_false k12
          subst ht'
          rw [if_neg k12]
          have one : ∀ t : Bool, t = decide (o.1 = 6 ∨ o.1 = 8) → _ := fun t ht => l_must1 (W := w) c04 (I.keep c04) Wm hK a6 a7 a8 rfl a10' (by omega) (by omega) (by omega) hr n2 ht
          by_cases k6 : o.1 = 6
          · have q : (o.1 == 6) = true := by rw [k6]; rfl
            have f := one true (by rw [k6]; rfl)
            simp -implicitDefEqProofs only [L30_0, zS, q]
            exact f
          · have f := one (o.1 == 8) (by
              by_cases k8 : o.1 = 8
              · rw [k8]; rfl
              · rw [eqf k8]; exact (decide_eq_false (by omega)).symm)
            simp -implicitDefEqProofs only [L30_0, zS, eqf k6]
            exact f
      by_cases k1 : o.1 = 1
      · have q : (o.1 == 1) = true := by rw [k1]; rfl
        have f := zero true (by rw [k1]; rfl)
        simp -implicitDefEqProofs only [zS, q]
        exact f
      · have f := zero (o.1 == 2) (by
          by_cases k2 : o.1 = 2
          · rw [k2]; rfl
          · rw [eqf k2]; exact (decide_eq_false (by omega)).symm)
        simp -implicitDefEqProofs only [zS, eqf k1]
        exact f
    · have e0 : (refusesV m d o h != 0) = true := bne_iff_ne.2 hr
      have mv : mustV m n o h = (codeR (refusesV m d o h), true) := by
        rw [mustV, if_neg (by rw [hm]; simp), hd]
        simp only
        rw [if_pos hr]
      simp -implicitDefEqProofs only [zS, fa_40_0, ld_27, a10, r0, e0]
      rw [ld_res a10, ab, st_res a8 rfl, ld_res (ar (av a8) _ _), ab, mv]
      exact ⟨rfl, c04.put (.inr (by omega)) _ _⟩
end
end Go.Proofs.YteapggpkgfiacaaGreat

namespace Go.Proofs.YteapggpkgfiacaaGreat
open Go Ev Go.RowKit

theorem Ev.UpdP.pre {F F' : Fp} {a b c : World} (k : Chg [] a b) (u : UpdP F F' b c) : UpdP F F' a c := (UpdP.of0 k).trans u
theorem Ev.UpdP.post {F F' : Fp} {a b c : World} (u : UpdP F F' a b) (k : Chg [] b c) : UpdP F F' a c := u.trans (UpdP.of0 k)
theorem flat_grown {e : TypeId} {z n m : Nat} {us vs : List Value} {w w' : World} {F : Fp} {x x' : Value} (h : isRow e z n (us.map isV) w F x) (ho : w'.ownsRow 0 e z x' m (us ++ vs)) (hg : w.grownBy w' x.ownBlock) (hnb : NewB w x x') :
    ∃ F', isRow e z m ((us ++ vs).map isV) w' F' x' ∧ UpdP F F' w w' := by
  obtain ⟨xs, Fs, _, _, _, h4⟩ := h
  refine ⟨_, own_flat ho, ⟨hg.os, hg.tape, hg.output, hg.size, fun k hk hn => hg.block k hk fun e => hn ((h4 k).2 (.inl e.symm))⟩, fun k hk => ?_⟩
  rcases hnb k hk with h5 | h5
  · exact .inl ((h4 k).2 (.inl h5))
  · exact .inr h5
theorem slots_at {m : MdV} {n : NmV} (h : isLv m n = true) : 0 ≤ n.1 ∧ n.1 < m.slots.length ∧ m.slots[n.1.toNat]? = some (1, n.2) := by
  simp only [isLv, Bool.and_eq_true, decide_eq_true_eq] at h
  exact ⟨h.1.1, h.1.2, h.2⟩
section
variable {W w : World} {g g6 g7 g9 b k : Nat} {m : MdV} {F : Fp} {K : Nat} {o : OpV} {h : HnV} {d : HdV} {n : Int}
theorem MdI.depthSet (I : MdI w g m F) (hd : m.hands[n.toNat]? = some d) (x : Int) :
    ∃ b c, ldC (hp w g) (0 + 9) = some (.slice (some ⟨b, 0, none⟩) m.hands.length c) ∧ b ≠ g ∧ ldC (hp w b) (n.toNat * 2 + 0) = some (.int .i64 d.depth) ∧ okC (hp w b) (n.toNat * 2 + 0 + 1) = true ∧
      ∃ F', MdI (put w b ((getC (hp w b)).setIfInBounds (n.toNat * 2 + 0) (.int .i64 x)) (getE (hp w b))) g (setHd m n { d with depth := x }) F' ∧ UpdP F F' w (put w b ((getC (hp w b)).setIfInBounds (n.toNat * 2 + 0) (.int .i64 x)) (getE (hp w b))) := by
  obtain ⟨b, c, v, Fk, hl, _, _, _, hbg, hld, hv, hst⟩ := I.hdCell hd (k := 0) (P := iT d.depth) (by omega) rfl
  obtain ⟨ok, F1, h1, h2⟩ := hst w none' (iT x) (.int .i64 x) { d with depth := x } (UpdP.none hv.2 w) (aV _ _) ⟨rfl, fun _ h => h⟩ rfl
  exact ⟨b, c, hl, hbg, by rw [hld, hv.1], ok, F1, h1, h2⟩
set_option maxHeartbeats 2000000 in
theorem l_does0 (hc : Chg [] W w) (I : MdI w g m F) (Wm : Wf m K) (hK : K ≤ 1000000) (h6 : hp w g6 = some (.cells (opC o).toArray 36)) (h7 : hp w g7 = some (.cells (hnC h).toArray 38)) (h9 : hp w g9 = some (.cells (nmC (nmOf h)).toArray 83))
    (hd : m.hands[n.toNat]? = some d) (hr : refusesV m d o h = 0) (n0 : 0 ≤ o.2.2.2.1) {c : Nat} (hb : ldC (hp w g) (0 + 9) = some (.slice (some ⟨b, 0, none⟩) m.hands.length c)) :
    P52_0 (.pointer (some ⟨g, 0, none⟩)) (.pointer (some ⟨g6, 0, none⟩)) (.pointer (some ⟨g7, 0, none⟩)) (.pointer (some ⟨b, n.toNat * 2, none⟩)) (.pointer (some ⟨g9, 0, none⟩)) w fun v w' => v = .tuple #[] ∧ ∃ F', MdI w' g (doesV m n o h) F' ∧ UpdP F F' W w' := by
  apply L52_0_ok
  have dv : doesV m n o h = if o.1 = 3 then setHd m n { d with depth := d.depth + 1 }
    else if o.1 = 4 then setHd m n (if d.depth - 1 = 0 then { depth := 0, holds := [] } else { d with depth := d.depth - 1 })
    else if o.1 = 5 then (if holdsV d h then m else setHd m n { d with holds := d.holds ++ [nmOf h] })
    else if o.1 = 7 then setWordV m h o.2.2.2.1 o.2.2.2.2.1
    else if o.1 = 8 then setWordV m h o.2.2.2.1 (IntKind.u64.wrap (wordV m h o.2.2.2.1 + o.2.2.2.2.1))
    else if o.1 = 9 then (if wordV m h o.2.2.2.1 = o.2.2.2.2.1 then setWordV m h o.2.2.2.1 o.2.2.2.2.2 else m)
    else if o.1 = 10 then (match m.slots[h.1.toNat]? with | some p => { m with slots := m.slots.set h.1.toNat (if m.loose then 0 else 2, p.2) } | none => m)
    else m := by rw [doesV, hd] <;> rfl
  have hD := Wm.hd d (List.mem_of_getElem? hd)
  have hco := (refuses_code hr).2
  have ldh : ∀ w', hp w' g7 = some (.cells (hnC h).toArray 38) → ldv Tryz.prog 38 (.pointer (some ⟨g7, 0, none⟩)) w' = some (.agg (hnC h).toArray) := fun w' hw => aJ (t := 38) (c := (hnC h).toArray) ag_38 (show (Tryz.prog.info? 38).map (·.size) = some (hnC h).toArray.size from sz_38) hw
  have ldn : ∀ w', hp w' g9 = some (.cells (nmC (nmOf h)).toArray 83) → ldv Tryz.prog 83 (.pointer (some ⟨g9, 0, none⟩)) w' = some (.agg (nmC (nmOf h)).toArray) := fun w' hw => aJ (t := 83) (c := (nmC (nmOf h)).toArray) ag_83 (show (Tryz.prog.info? 83).map (·.size) = some (nmC (nmOf h)).toArray.size from sz_83) hw
  have cd : Chg [] w w.drew := (Chg.refl _ _).drew
  have h6d : hp w.drew g6 = some (.cells (opC o).toArray 36) := h6
  have h7d : hp w.drew g7 = some (.cells (hnC h).toArray 38) := h7
  have h9d : hp w.drew g9 = some (.cells (nmC (nmOf h)).toArray 83) := h9
  by_cases k3 : o.1 = 3
  · have q : (o.1 == 3) = true := by rw [k3]; rfl
    obtain ⟨b', c', hl, hbg, hld, ok, F1, h1, h2⟩ := I.depthSet hd (d.depth + 1)
    rw [hb] at hl; cases hl
    simp -implicitDefEqProofs only [L52_0, zS, aj, ac, h6, az, q, fa_96_0, hld, am, aq (n := d.depth + 1) (by omega) (by omega)]
    rw [st_3 (o := n.toNat * 2 + 0) rfl rfl ok, dv, if_pos k3]
    exact ⟨by first | rfl | trivial, F1, h1, h2.pre hc⟩
  by_cases k4 : o.1 = 4
  · have q : (o.1 == 4) = true := by rw [k4]; rfl
    obtain ⟨b', c', hl, hbg, hld, ok, F1, h1, h2⟩ := I.depthSet hd (d.depth - 1)
    rw [hb] at hl; cases hl
    simp -implicitDefEqProofs only [L52_0, zS, aj, ac, h6, az, eqf k3, q, fa_96_0, hld, bp_sub, aq (n := d.depth - 1) (by omega) (by omega)]
    rw [st_3 (o := n.toNat * 2 + 0) rfl rfl ok, dv, if_neg k3, if_pos k4]
    have hb1 : ldC (hp (put w b ((getC (hp w b)).setIfInBounds (n.toNat * 2 + 0) (.int .i64 (d.depth - 1))) (getE (hp w b))) g) (0 + 9) = some (.slice (some ⟨b, 0, none⟩) m.hands.length c) := by rw [put_other (Ne.symm hbg)]; exact hb
    generalize put w b ((getC (hp w b)).setIfInBounds (n.toNat * 2 + 0) (.int .i64 (d.depth - 1))) (getE (hp w b)) = w1 at *
    have hd1 : (setHd m n { d with depth := d.depth - 1 }).hands[n.toNat]? = some { d with depth := d.depth - 1 } := by
      show (m.hands.set n.toNat _)[n.toNat]? = _
      rw [List.getElem?_set, if_pos rfl, if_pos (List.getElem?_eq_some_iff.1 hd).1]
    have hln : (setHd m n { d with depth := d.depth - 1 }).hands.length = m.hands.length := by simp [setHd]
    obtain ⟨b2, c2, v2, Fk2, hl2, _, _, _, _, hld2, hv2, hst2⟩ := h1.hdCell hd1 (k := 1) (P := namesT d.holds) (by omega) rfl
    obtain ⟨b3, c3, hl3, _, hld3, _⟩ := h1.depthSet hd1 0
    rw [hln, hb1] at hl2 hl3
    cases hl2; cases hl3
    by_cases hz : d.depth - 1 = 0
    · have e : (d.depth - 1 == 0) = true := by rw [hz]; rfl
      simp -implicitDefEqProofs only [zS, fa_96_0, fa_96_1, ac, hld3, e]
      obtain ⟨ok2, F2, h3, h4⟩ := hst2 w1 none' (namesT []) (.slice none 0 0) { depth := 0, holds := [] } ⟨ChgP.refl _ _, fun k hk => hk.elim⟩ (good_names _) isRow.nil (by
        rw [hz]; rfl)
      rw [st_94 (o := n.toNat * 2 + 1) rfl rfl ok2, if_pos hz]
      have e2 : setHd m n { depth := 0, holds := [] } = { setHd m n { d with depth := d.depth - 1 } with hands := (setHd m n { d with depth := d.depth - 1 }).hands.set n.toNat { depth := 0, holds := [] } } := by
        simp [setHd, List.set_set]
      rw [e2]
      exact ⟨by first | rfl | trivial, F2, h3, (h2.trans h4).pre hc⟩
    · simp -implicitDefEqProofs only [zS, fa_96_0, ac, hld3, eqf hz]
      rw [if_neg hz]
      exact ⟨by first | rfl | trivial, F1, h1, h2.pre hc⟩
  by_cases k5 : o.1 = 5
  · have q : (o.1 == 5) = true := by rw [k5]; rfl
    obtain ⟨b', c', v, Fk, hl, _, _, _, _, hld, hv, _⟩ := (I.keep cd).hdCell hd (k := 1) (P := namesT d.holds) (by omega) rfl
    rw [show ldC (hp w.drew g) (0 + 9) = _ from hb] at hl; cases hl
    obtain ⟨A, ca, rfl, hR⟩ := names_sh ⟨_, hv⟩
    simp -implicitDefEqProofs only [L52_0, zS, aj, ac, h6, az, eqf k3, eqf k4, q, fa_96_1, ld_94, show ldC (hp w b) (n.toNat * 2 + 1) = _ from hld, ldn _ h9d]
    refine (c_nContains (c := ca) hR (by omega) (nmOf h)).mono ?_
    rintro _ w1 ⟨rfl, c1⟩
    have c01 := cd.trans c1
    rw [dv, if_neg k3, if_neg k4, if_pos k5]
    cases hh : holdsV d h with
    | true =>
      have hh' : decide (nmOf h ∈ d.holds) = true := hh
      simp -implicitDefEqProofs only [zS, hh', if_true]
      exact ⟨by first | rfl | trivial, F, I.keep c01, (UpdP.of0 (hc.trans c01))⟩
    | false =>
      have hh' : decide (nmOf h ∈ d.holds) = false := hh
      have c02 : Chg [] w w1.drew := c01.drew
      obtain ⟨b', c', v, Fk, hl, _, _, _, _, hld, hv, hst⟩ := (I.keep c02).hdCell hd (k := 1) (P := namesT d.holds) (by omega) rfl
      rw [aQ c02 hb] at hl; cases hl
      have h91 : hp w1.drew g9 = some (.cells (nmC (nmOf h)).toArray 83) := c01.at h9 (by simp)
      simp -implicitDefEqProofs only [zS, hh', fa_96_1, ld_94, show ldC (hp w1 b) (n.toNat * 2 + 1) = _ from hld, ldn _ h91, Bool.false_eq_true, if_false]
      obtain ⟨hown, _⟩ := flat_own hv
      refine ps_94 (by simp) hown (by omega) (Nat.zero_le _) fun x' w2 ho hg hnb => ?_
      rw [show d.holds.flatMap nmC ++ [Value.int .i64 (nmOf h).1, Value.int .i64 (nmOf h).2] = (d.holds ++ [nmOf h]).flatMap nmC by simp [nmC]] at ho
      have hv' : isRow 83 2 d.holds.length ((d.holds.flatMap nmC).map isV) w1.drew Fk v := hv
      obtain ⟨F2, hr2, hu2⟩ := flat_grown (vs := nmC (nmOf h)) hv' (by simpa [nmC] using ho) hg hnb
      have hr2' : namesT (d.holds ++ [nmOf h]) w2 F2 x' := by
        rw [namesT, List.length_append]
        have e : (d.holds ++ [nmOf h]).flatMap nmC = d.holds.flatMap nmC ++ nmC (nmOf h) := by simp
        rw [e]; exact hr2
      obtain ⟨ok2, F3, h3, h4⟩ := hst w2 F2 (namesT (d.holds ++ [nmOf h])) x' { d with holds := d.holds ++ [nmOf h] } hu2 (good_names _) hr2' rfl
      have one := (good_names _).one hr2'
      rw [st_94 (o := n.toNat * 2 + 1) one.1 one.2 ok2]
      exact ⟨by first | rfl | trivial, F3, h3, h4.pre (hc.trans c02)⟩
  by_cases k7 : o.1 = 7
  · have q : (o.1 == 7) = true := by rw [k7]; rfl
    obtain ⟨t1, t2⟩ := touch_ok hr (by omega) (by omega)
    have cw := c_mWord (I.keep cd) Wm hK t1 n0 t2
    simp -implicitDefEqProofs only [L52_0, zS, aj, aY, fa_36_4, ac, ld_34, h6, h6d, az, op_3, op_4, eqf k3, eqf k4, eqf k5, q, ldh _ h7d]
    rw [dv, if_neg k3, if_neg k4, if_neg k5, if_pos k7]
    repeat' (with_reducible apply And.intro)
    all_goals
      refine cw.mono ?_
      rintro _ w3 ⟨g2, j, rfl, c3, hw⟩
      have A := hw w3 c3
      have h63 := (cd.trans c3).at h6 (by simp)
      simp -implicitDefEqProofs only [zS, ld_34, h63, op_4]
      rw [st_34 rfl rfl A.ok]
      obtain ⟨F1, h1, h2⟩ := A.st o.2.2.2.2.1
      exact ⟨by first | rfl | trivial, F1, h1, h2.pre (hc.trans (cd.trans c3))⟩
  by_cases k8 : o.1 = 8
  · have q : (o.1 == 8) = true := by rw [k8]; rfl
    obtain ⟨t1, t2⟩ := touch_ok hr (by omega) (by omega)
    have cw := c_mWord (I.keep cd) Wm hK t1 n0 t2
    simp -implicitDefEqProofs only [L52_0, zS, aj, aY, fa_36_4, ac, ld_34, h6, h6d, az, op_3, op_4, eqf k3, eqf k4, eqf k5, eqf k7, q, ldh _ h7d]
    rw [dv, if_neg k3, if_neg k4, if_neg k5, if_neg k7, if_pos k8]
    repeat' (with_reducible apply And.intro)
    all_goals
      refine cw.mono ?_
      rintro _ w3 ⟨g2, j, rfl, c3, hw⟩
      have A := hw w3 c3
      have h63 := (cd.trans c3).at h6 (by simp)
      simp -implicitDefEqProofs only [zS, ld_34, h63, op_4, A.ld, am]
      rw [st_34 rfl rfl A.ok]
      obtain ⟨F1, h1, h2⟩ := A.st (IntKind.u64.wrap (wordV m h o.2.2.2.1 + o.2.2.2.2.1))
      exact ⟨by first | rfl | trivial, F1, h1, h2.pre (hc.trans (cd.trans c3))⟩
  by_cases k9 : o.1 = 9
  · have q : (o.1 == 9) = true := by rw [k9]; rfl
    obtain ⟨t1, t2⟩ := touch_ok hr (by omega) (by omega)
    simp -implicitDefEqProofs only [L52_0, zS, aj, aY, fa_36_4, ac, ld_34, h6, az, op_3, eqf k3, eqf k4, eqf k5, eqf k7, eqf k8, q, ldh _ h7]
    rw [dv, if_neg k3, if_neg k4, if_neg k5, if_neg k7, if_neg k8, if_pos k9]
    refine (c_mWord I Wm hK t1 n0 t2).mono ?_
    rintro _ w3 ⟨g2, j, rfl, c3, hw⟩
    have c3d : Chg [] w w3.drew := c3.drew
    have A := hw w3.drew c3d
    have h63 := c3.at h6 (by simp)
    by_cases hv : wordV m h o.2.2.2.1 = o.2.2.2.2.1
    · have e : (wordV m h o.2.2.2.1 == o.2.2.2.2.1) = true := by rw [hv]; exact beq_self_eq_true _
      simp -implicitDefEqProofs only [zS, ld_34, fa_36_4, fa_36_5, h63, op_4, op_5, show ldC (hp w3 g2) j = _ from A.ld, e]
      rw [st_34 rfl rfl A.ok, if_pos hv]
      obtain ⟨F1, h1, h2⟩ := A.st o.2.2.2.2.2
      exact ⟨by first | rfl | trivial, F1, h1, h2.pre (hc.trans c3d)⟩
    · simp -implicitDefEqProofs only [zS, ld_34, fa_36_4, h63, op_4, show ldC (hp w3 g2) j = _ from A.ld, eqf hv]
      rw [if_neg hv]
      exact ⟨by first | rfl | trivial, F, I.keep c3d, UpdP.of0 (hc.trans c3d)⟩
  by_cases k10 : o.1 = 10
  · have q : (o.1 == 10) = true := by rw [k10]; rfl
    obtain ⟨i, r, hf, hri, hnm, hlv⟩ := region_ok hr (by omega)
    obtain ⟨s0, s1, s2⟩ := slots_at hlv
    have s2' : m.slots[h.1.toNat]? = some (1, h.2.1) := s2
    have s0' : 0 ≤ h.1 := s0
    have s1' : h.1 < m.slots.length := s1
    obtain ⟨b1, c1, hl, ok, F1, h1, h2⟩ := (I.keep cd).slotSet s2' (p' := (2, h.2.1)) (k := 0) (x := 2) (by omega) rfl
    have ia := ia_57 (b := b1) (p := 0) (n := m.slots.length) (c := c1) (j := .i64) (i := h.1) (by omega) (by omega)
    rw [Nat.zero_add] at ia
    have e0 : (hnC h).toArray[0 + 0]? = some (.int .i64 h.1) := rfl
    simp -implicitDefEqProofs only [L52_0, zS, aj, ac, h6, az, eqf k3, eqf k4, eqf k5, eqf k7, eqf k8, eqf k9, q, fa_61_2, ld_57, show ldC (hp w g) (0 + 7) = _ from hl, bj, h7, e0, ia, fa_92_0]
    rw [st_3 (o := h.1.toNat * 2 + 0) rfl rfl ok, dv, if_neg k3, if_neg k4, if_neg k5, if_neg k7, if_neg k8, if_neg k9, if_pos k10, s2']
    have u1 := h2.pre (hc.trans cd)
    have h71 : hp (put w.drew b1 ((getC (hp w.drew b1)).setIfInBounds (h.1.toNat * 2 + 0) (.int .i64 2)) (getE (hp w.drew b1))) g7 = some (.cells (hnC h).toArray 38) := by
      rw [put_other]
      · exact h7
      · intro e
        subst e
        rw [show hp w.drew g7 = _ from h7, okC_some, decide_eq_true_eq] at ok
        obtain ⟨sv, _, _, M⟩ := I.rd
        obtain ⟨A', c', hs', hR'⟩ := slots_sh M.sT
        have hsl := M.sl
        rw [show ldC (hp w g) (0 + 7) = _ from hl] at hsl
        cases hsl
        cases hs'
        have hown := (flat_own M.sT.choose_spec).1
        rcases hown.2 with ⟨hx, _⟩ | ⟨gg, cap, cur, hx, _, hgg, _⟩
        · cases hx
        · cases hx
          have h7' : w.heap[g7]? = some (.cells (hnC h).toArray 38) := h7
          rw [h7'] at hgg
          cases hgg
    generalize put w.drew b1 ((getC (hp w.drew b1)).setIfInBounds (h.1.toNat * 2 + 0) (.int .i64 2)) (getE (hp w.drew b1)) = w1 at *
    obtain ⟨_, _, _, M1⟩ := h1.rd
    have ml := M1.l
    by_cases hlo : m.loose = true
    · rw [show ({ m with slots := m.slots.set h.1.toNat (2, h.2.1) } : MdV).loose = true from hlo] at ml
      have cd1 : Chg [] w1 w1.drew := (Chg.refl _ _).drew
      have s3 : ({ m with slots := m.slots.set h.1.toNat (2, h.2.1) } : MdV).slots[h.1.toNat]? = some (2, h.2.1) := by
        show (m.slots.set _ _)[_]? = _
        rw [List.getElem?_set, if_pos rfl, if_pos (List.getElem?_eq_some_iff.1 s2').1]
      obtain ⟨b2, c2, hl2, ok2, F2, h3, h4⟩ := (h1.keep cd1).slotSet s3 (p' := (0, h.2.1)) (k := 0) (x := 0) (by omega) rfl
      have hln : ({ m with slots := m.slots.set h.1.toNat (2, h.2.1) } : MdV).slots.length = m.slots.length := by simp
      rw [hln] at hl2
      have ia2 := ia_57 (b := b2) (p := 0) (n := m.slots.length) (c := c2) (j := .i64) (i := h.1) (by omega) (by omega)
      rw [Nat.zero_add] at ia2
      simp -implicitDefEqProofs only [zS, fa_61_1, fa_61_2, ld_4, ml, ld_57, show ldC (hp w1 g) (0 + 7) = _ from hl2, bj, ac, h71, e0, ia2, fa_92_0, hlo, if_true]
      rw [st_3 (o := h.1.toNat * 2 + 0) rfl rfl ok2]
      have e2 : ({ m with slots := m.slots.set h.1.toNat (0, h.2.1) } : MdV) = { ({ m with slots := m.slots.set h.1.toNat (2, h.2.1) } : MdV) with slots := ({ m with slots := m.slots.set h.1.toNat (2, h.2.1) } : MdV).slots.set h.1.toNat (0, h.2.1) } := by simp [List.set_set]
      rw [← e2, hlo] at h3
      exact ⟨by first | rfl | trivial, F2, h3, u1.trans (h4.pre cd1)⟩
    · have hlf : m.loose = false := by simpa using hlo
      rw [show ({ m with slots := m.slots.set h.1.toNat (2, h.2.1) } : MdV).loose = false from hlf] at ml
      simp -implicitDefEqProofs only [zS, fa_61_1, ld_4, ml, hlf, Bool.false_eq_true, if_false]
      rw [hlf] at h1
      exact ⟨by first | rfl | trivial, F1, h1, u1⟩
  · simp -implicitDefEqProofs only [L52_0, zS, aj, ac, h6, az, eqf k3, eqf k4, eqf k5, eqf k7, eqf k8, eqf k9, eqf k10]
    rw [dv, if_neg k3, if_neg k4, if_neg k5, if_neg k7, if_neg k8, if_neg k9, if_neg k10]
    exact ⟨by first | rfl | trivial, F, I, UpdP.of0 hc⟩
set_option maxHeartbeats 1000000 in
theorem c_mDoes (I : MdI w g m F) (Wm : Wf m K) (hK : K ≤ 1000000) (hm : mayV m n o = true) (hd : m.hands[n.toNat]? = some d) (hr : refusesV m d o h = 0) :
    CallR Tryz.prog 52 [.pointer (some ⟨g, 0, none⟩), .int .i64 n, .agg (opC o).toArray, .agg (hnC h).toArray] w fun v w' => v = .tuple #[] ∧ ∃ F', MdI w' g (doesV m n o h) F' ∧ UpdP F F' w w' := by
  apply F52_ok
  obtain ⟨n0, n1, n2⟩ := may_n hm
  simp -implicitDefEqProofs only [F52, ak, au, ae]
  generalize hw : (w.alloc (.cells (opC o).toArray 36)).alloc _ = w1
  have c1 : Chg [] w w1 := by rw [← hw]; exact ((Chg.refl _ _).alloc _).alloc _
  have a6 : hp w1 w.heap.size = some (.cells (opC o).toArray 36) := by rw [← hw, aa, ae, if_neg (by omega), aa, if_pos rfl]
  have a7 : hp w1 (w.heap.size + 1) = some (.cells (hnC h).toArray 38) := by rw [← hw, aa, ae, if_pos rfl]
  clear hw
  generalize w.heap.size = g6 at *
  have ldh : ∀ w', hp w' (g6 + 1) = some (.cells (hnC h).toArray 38) → ldv Tryz.prog 38 (.pointer (some ⟨g6 + 1, 0, none⟩)) w' = some (.agg (hnC h).toArray) := fun w' hw => aJ (t := 38) (c := (hnC h).toArray) ag_38 (show (Tryz.prog.info? 38).map (·.size) = some (hnC h).toArray.size from sz_38) hw
  obtain ⟨_, _, hv, M⟩ := I.rd
  obtain ⟨Fh, hF⟩ := M.hT
  obtain ⟨b, c, hx, _⟩ := hd_at hF hd
  have hb := M.hl
  rw [hx] at hb
  have cd : Chg [] w w1.drew := c1.drew
  have a7d : hp w1.drew (g6 + 1) = some (.cells (hnC h).toArray 38) := a7
  have hbd := fun w' (k : Chg [] w w') => aQ k hb
  have ia := ia_59 (b := b) (p := 0) (n := m.hands.length) (c := c) (j := .i64) (i := n) (by omega) (by omega)
  rw [Nat.zero_add] at ia
  have nm : ∀ (w' : World) {K : Value → World → Prop}, (∀ w'', Chg [] w' w'' → K (.agg (nmC (nmOf h)).toArray) w'') → CallR Tryz.prog 43 [.agg (hnC h).toArray] w' K := fun w' K hk => (c_mNameOf h w').mono fun v w'' hv => by obtain ⟨rfl, hc⟩ := hv; exact hk w'' hc
  have tail : ∀ w3, Chg [] w1 w3 → ∀ t : Nat, w1.heap.size ≤ t → hp w3 t = some (.cells #[.int .i64 0, .int .i64 0] 83) →
      effu Tryz.prog (Instr.storeAt 83 (.pointer (some ⟨t, 0, none⟩)) (.agg (nmC (nmOf h)).toArray)) w3 fun w' =>
      P52_0 (.pointer (some ⟨g, 0, none⟩)) (.pointer (some ⟨g6, 0, none⟩)) (.pointer (some ⟨g6 + 1, 0, none⟩)) (.pointer (some ⟨b, n.toNat * 2, none⟩)) (.pointer (some ⟨t, 0, none⟩)) w' fun v w' => v = .tuple #[] ∧ ∃ F', MdI w' g (doesV m n o h) F' ∧ UpdP F F' w w' := by
    intro w3 c3 t hge ht
    rw [st_83 (by rfl) (by rfl) (by rw [ht]; rfl) (by rw [ht]; rfl), ht]
    simp -implicitDefEqProofs only [ay]
    have c4 : Chg [] w1 (put w3 t (nmC (nmOf h)).toArray 83) := c3.put (.inr hge) _ _
    have c04 := c1.trans c4
    exact l_does0 c04 (I.keep c04) Wm hK (c4.at a6 (by simp)) (c4.at a7 (by simp)) (ar (av ht) _ _) hd hr n2 (hbd _ c04)
  simp -implicitDefEqProofs only [zS, fa_61_4, ld_59, show ldC (hp w1 g) (0 + 9) = _ from hbd _ c1, ia, ldh _ a7d, al_83]
  repeat' (with_reducible apply And.intro)
  all_goals first
    | (refine nm _ ?_
       intro w3 c3
       have c13 : Chg [] w1 w3 := (((Chg.refl [] w1).drew).alloc _).trans c3
       try simp -implicitDefEqProofs only [zS, fa_61_4, ld_59, hbd _ (c1.trans c13), ia, al_83]
       exact tail w3 c13 _ (Nat.le_refl _) (c3.at (by rw [aa, if_pos rfl]) (by simp)))
    | (refine nm _ ?_
       intro w3 c3
       have c13 : Chg [] w1 w3 := ((Chg.refl [] w1).drew).trans c3
       try simp -implicitDefEqProofs only [zS, fa_61_4, ld_59, hbd _ (c1.trans c13), ia, al_83]
       exact tail _ (c13.alloc _) _ c13.size (by rw [aa, if_pos rfl]))
end
end Go.Proofs.YteapggpkgfiacaaGreat

namespace Go.Proofs.YteapggpkgfiacaaGreat
open Go Ev Go.RowKit

section
variable {W w : World} {g g5 b i k : Nat} {m : MdV} {F : Fp} {K : Nat} {r : RgV}
theorem own_unique {e : TypeId} {z n : Nat} {x : Value} {xs ys : List Value} {p q : Nat} (h : w.ownsRow p e z x n xs) (k : w.ownsRow q e z x n ys) : xs = ys := by
  rcases h.2 with ⟨rfl, rfl⟩ | ⟨g, cap, cur, rfl, _, hg, _, _, _, ht⟩
  · have h1 := h.1; have h2 := k.1
    simp at h1 h2
    rw [h1, h2]
  · rcases k.2 with ⟨h0, _⟩ | ⟨g', cap', cur', h0, _, hg', _, _, _, ht'⟩
    · cases h0
    · cases h0
      rw [hg] at hg'
      cases hg'
      rw [← ht, ← ht']
theorem Ev.UpdP.keep {F F' : Fp} {w w1 : World} (u : UpdP F F' w w1) {x : Nat} {o : Obj} (hx : hp w x = some o) (hn : ¬ F x) : hp w1 x = some o ∧ ¬ F' x := by
  refine ⟨u.chg.at hx hn, fun h => ?_⟩
  rcases u.sub x h with h1 | h1
  · exact hn h1
  · have := av hx; omega
theorem slots_blk (I : MdI w g m F) {n c : Nat} (hl : ldC (hp w g) (0 + 7) = some (.slice (some ⟨b, 0, none⟩) n c)) : b ≠ g ∧ F b := by
  obtain ⟨v, Fk, hg, hng, hsub, hld, hS, _⟩ := isAt.cell I (good_md m) (k := 7) (P := slotsT m.slots) rfl
  rw [show ldC (hp w g) 7 = _ from hl] at hld
  cases hld
  obtain ⟨xs, Fs, _, _, _, h4⟩ := hS
  have hb := (h4 b).2 (.inl rfl)
  exact ⟨fun e => hng (by rw [← e]; exact hb), hsub b hb⟩
theorem st_slot {x y : Value} {o : Nat} {L : World → Prop} (h1 : x.oneCell' = true) (h2 : y.oneCell' = true) (hx : x.cells = #[x]) (hy : y.cells = #[y]) (ok : okC (hp w b) (o + 2) = true) : effu Tryz.prog (Instr.storeAt 92 (.pointer (some ⟨b, o, none⟩)) (.agg #[x, y])) w L = L (put w b (((getC (hp w b)).setIfInBounds o x).setIfInBounds (o + 1) y) (getE (hp w b))) := by
  exact effu_store (v := .agg #[x, y]) sz_92 rfl (by show (List.all [x, y] _) = true; simp [h1, h2]) (by decide) ok
theorem MdI.slotSet2 (I : MdI w g m F) {p p' : NmV} (hp' : m.slots[i]? = some p) :
    ∃ b c, ldC (hp w g) (0 + 7) = some (.slice (some ⟨b, 0, none⟩) m.slots.length c) ∧ b ≠ g ∧ F b ∧ okC (hp w b) (i * 2 + 2) = true ∧
      ∃ F', MdI (put w b (((getC (hp w b)).setIfInBounds (i * 2) (.int .i64 p'.1)).setIfInBounds (i * 2 + 1) (.int .i64 p'.2)) (getE (hp w b))) g { m with slots := m.slots.set i p' } F' ∧ UpdP F F' w (put w b (((getC (hp w b)).setIfInBounds (i * 2) (.int .i64 p'.1)).setIfInBounds (i * 2 + 1) (.int .i64 p'.2)) (getE (hp w b))) := by
  obtain ⟨b, c, hl, ok, F1, h1, h2⟩ := I.slotSet hp' (p' := (p'.1, p.2)) (k := 0) (x := p'.1) (by omega) rfl
  obtain ⟨hbg, hFb⟩ := slots_blk I hl
  have hp2 : ({ m with slots := m.slots.set i (p'.1, p.2) } : MdV).slots[i]? = some (p'.1, p.2) := by
    show (m.slots.set _ _)[_]? = _
    rw [List.getElem?_set, if_pos rfl, if_pos (List.getElem?_eq_some_iff.1 hp').1]
  obtain ⟨b2, c2, hl2, ok2, F2, h3, h4⟩ := h1.slotSet hp2 (p' := p') (k := 1) (x := p'.2) (by omega) rfl
  have hln : ({ m with slots := m.slots.set i (p'.1, p.2) } : MdV).slots.length = m.slots.length := by simp
  rw [hln, put_other (Ne.symm hbg), hl] at hl2
  cases hl2
  obtain ⟨cc, e, hb, hle⟩ := okC_cases ok
  have hlt := av hb
  rw [hb] at h3 h4 ok2 h2
  rw [bm, ay, ar hlt] at h3 h4 ok2
  rw [bm, ay, put_put] at h3 h4
  have es : ({ m with slots := m.slots.set i p' } : MdV) = { ({ m with slots := m.slots.set i (p'.1, p.2) } : MdV) with slots := ({ m with slots := m.slots.set i (p'.1, p.2) } : MdV).slots.set i p' } := by simp [List.set_set]
  refine ⟨b, c, hl, hbg, hFb, ?_, F2, ?_, ?_⟩
  · rw [hb, okC_some]
    rw [okC_some, decide_eq_true_eq] at ok2
    simp at ok2
    exact decide_eq_true ok2
  · rw [hb, es]; exact h3
  · rw [hb]
    exact UpdP.trans h2 h4
theorem MdI.rgPut (I : MdI w g m F) {n c : Nat} (hb : ldC (hp w g) (0 + 8) = some (.slice (some ⟨b, 0, none⟩) n c)) (hr : m.rgs[i]? = some r) (hk : k < 7) {P : Th} (hP : (rgT r)[k]? = some P) :
    ∃ v Fk, (∀ x, Fk x → F x) ∧ F b ∧ ¬ Fk b ∧ ldC (hp w b) (i * 7 + k) = some v ∧ P w Fk v ∧
      ∀ w1 F' P' v' r', UpdP Fk F' w w1 → OwnT P' → P' w1 F' v' → rgT r' = (rgT r).set k P' → okC (hp w1 b) (i * 7 + k + 1) = true ∧ v'.cells = #[v'] ∧ v'.oneCell' = true ∧
        ldC (hp (put w1 b ((getC (hp w1 b)).setIfInBounds (i * 7 + k) v') (getE (hp w1 b))) g) (0 + 8) = some (.slice (some ⟨b, 0, none⟩) n c) ∧
        ∃ F1, MdI (put w1 b ((getC (hp w1 b)).setIfInBounds (i * 7 + k) v') (getE (hp w1 b))) g { m with rgs := m.rgs.set i r' } F1 ∧ UpdP F F1 w (put w1 b ((getC (hp w1 b)).setIfInBounds (i * 7 + k) v') (getE (hp w1 b))) := by
  obtain ⟨rv, Fr, hg, hng, hsub, hld, hR, hres, _⟩ := isAt.cell I (good_md m) (k := 8) (P := rgsT m.rgs) rfl
  have hP' : (m.rgs.flatMap rgT)[i * 7 + k]? = some P := (aN rgT_len m.rgs i r hr k hk).trans hP
  obtain ⟨b', c', v, Fk, hx, hFb, hnb, hsub2, hld2, hv, h3, h4⟩ := isRow.cell hR (good_rgL m.rgs) hP'
  rw [show ldC (hp w g) 8 = _ from hb, hx] at hld
  cases hld
  have hbg : b ≠ g := fun e => hng (by rw [← e]; exact hFb)
  refine ⟨v, Fk, fun x hx => hsub x (hsub2 x hx), hsub b hFb, hnb, hld2, hv, fun w1 F' P' v' r' u hg' hpp hr' => ?_⟩
  obtain ⟨ok, F1, hrow, hupd⟩ := h4 w1 F' P' v' u hg' hpp
  rw [flatM_setP rgT_len hk hr' hr] at hrow
  have hrow' : rgsT (m.rgs.set i r') (put w1 b ((getC (hp w1 b)).setIfInBounds (i * 7 + k) v') (getE (hp w1 b))) F1 rv := by rw [rgsT, List.length_set]; exact hrow
  obtain ⟨F2, e1, e2⟩ := hres _ F1 (rgsT (m.rgs.set i r')) hupd hrow'
  obtain ⟨one1, one2⟩ := hg'.one hpp
  refine ⟨ok, one1, one2, ?_, F2, e1, e2⟩
  rw [put_other (Ne.symm hbg)]
  have : hp w1 g = hp w g := u.chg.block g (by
    rcases Nat.lt_or_ge g w.heap.size with h | h
    · exact h
    · have h2 : hp w g = none := by simp [hp]; omega
      rw [h2] at hb; cases hb) fun h => hng (hsub2 g h)
  rw [this]; exact hb
theorem MdI.rgsPut (I : MdI w g m F) : ∃ v Fk, (∀ x, Fk x → F x) ∧ ldC (hp w g) (0 + 8) = some v ∧ rgsT m.rgs w Fk v ∧
    ∀ w1 F' v' rgs', UpdP Fk F' w w1 → rgsT rgs' w1 F' v' → okC (hp w1 g) (0 + 8 + 1) = true ∧ v'.cells = #[v'] ∧ v'.oneCell' = true ∧
      ∃ F1, MdI (put w1 g ((getC (hp w1 g)).setIfInBounds (0 + 8) v') (getE (hp w1 g))) g { m with rgs := rgs' } F1 ∧ UpdP F F1 w (put w1 g ((getC (hp w1 g)).setIfInBounds (0 + 8) v') (getE (hp w1 g))) := by
  obtain ⟨rv, Fr, hg, hng, hsub, hld, hR, _, hput⟩ := isAt.cell I (good_md m) (k := 8) (P := rgsT m.rgs) rfl
  refine ⟨rv, Fr, hsub, hld, hR, fun w1 F' v' rgs' u hv' => ?_⟩
  obtain ⟨ok, F1, h1, h2⟩ := hput w1 F' (rgsT rgs') v' u (good_rgs rgs') hv'
  obtain ⟨one1, one2⟩ := (good_rgs rgs').one hv'
  exact ⟨ok, one1, one2, F1, h1, h2⟩
theorem rgs_grown {L : List RgV} {w' : World} {x x' : Value} {xs : List Value} (h : rgsT L w F x) (hown : w.ownsRow 0 86 7 x L.length xs) (nm : NmV) (cls : Int)
    (ho : w'.ownsRow 0 86 7 x' (L.length + 1) (xs ++ [.int .i64 nm.1, .int .i64 nm.2, .int .i64 cls, .int .i64 0, .slice none 0 0, .slice none 0 0, .slice none 0 0])) (hg : w.grownBy w' x.ownBlock) (hnb : NewB w x x') :
    ∃ F', rgsT (L ++ [⟨nm, cls, 0, [], [], []⟩]) w' F' x' ∧ UpdP F F' w w' := by
  have hy : Parts w (rgT ⟨nm, cls, 0, [], [], []⟩) [.int .i64 nm.1, .int .i64 nm.2, .int .i64 cls, .int .i64 0, .slice none 0 0, .slice none 0 0, .slice none 0 0] (fun _ => none') := by
    refine ⟨rfl, fun k P v hP hv => ?_, fun _ _ _ _ _ b hb _ => hb⟩
    have hk := (List.getElem?_eq_some_iff.1 hP).1
    rw [rgT_len] at hk
    have hk' : k = 0 ∨ k = 1 ∨ k = 2 ∨ k = 3 ∨ k = 4 ∨ k = 5 ∨ k = 6 := by omega
    rcases hk' with rfl | rfl | rfl | rfl | rfl | rfl | rfl <;> cases hP <;> cases hv
    · exact ⟨rfl, fun _ h => h⟩
    · exact ⟨rfl, fun _ h => h⟩
    · exact ⟨rfl, fun _ h => h⟩
    · exact ⟨rfl, fun _ h => h⟩
    · exact isRow.nil
    · exact isRow.nil
    · exact isRow.nil
  obtain ⟨F', h1, h2, _⟩ := isRow.grow (G := none') (m := 1) h (good_rgL L) (good_rg _) hy (fun b => ⟨fun h => h.elim, fun ⟨_, _, h⟩ => h⟩) (fun _ _ h => h) (fun xs' h' => by rw [own_unique h' hown]; exact ho) hg hnb
  refine ⟨F', ?_, ⟨h2.chg.mono fun k hk => hk.resolve_right id, fun k hk => (h2.sub k hk).imp (·.resolve_right id) id⟩⟩
  rw [rgsT, List.length_append, List.flatMap_append]
  simpa using h1
theorem rs_beq (a b : RsV) : ((a.1 == b.1) && (((a.2.1.1 == b.2.1.1) && ((a.2.1.2.1 == b.2.1.2.1) && ((a.2.1.2.2.1 == b.2.1.2.2.1) && ((a.2.1.2.2.2.1 == b.2.1.2.2.2.1) && ((a.2.1.2.2.2.2 == b.2.1.2.2.2.2) && (true)))))) && ((a.2.2.1 == b.2.2.1) && ((a.2.2.2 == b.2.2.2) && (true))))) = decide (a = b) := by
  obtain ⟨a1, ⟨a2, a3, a4, a5, a6⟩, a7, a8⟩ := a; obtain ⟨b1, ⟨b2, b3, b4, b5, b6⟩, b7, b8⟩ := b
  by_cases h1 : a1 = b1 <;> by_cases h2 : a2 = b2 <;> by_cases h3 : a3 = b3 <;> by_cases h4 : a4 = b4 <;> by_cases h5 : a5 = b5 <;> by_cases h6 : a6 = b6 <;> by_cases h7 : a7 = b7 <;> by_cases h8 : a8 = b8 <;> simp [h1, h2, h3, h4, h5, h6, h7, h8]
theorem be_rs {x y : Operand} (a b : RsV) : be Tryz.prog .eql 40 x y (.agg (rsC a).toArray) (.agg (rsC b).toArray) = some (.bool (decide (a = b))) := by rw [← rs_beq]; exact be_eql_40
theorem be_nrs {x y : Operand} (a b : RsV) : be Tryz.prog .neq 40 x y (.agg (rsC a).toArray) (.agg (rsC b).toArray) = some (.bool (!decide (a = b))) := by rw [← rs_beq]; exact be_neq_40
set_option maxHeartbeats 1000000 in
theorem c_mTaken {s rv hh : Value} (M : MdR w g m s rv hh) (Wm : Wf m K) (hK : K ≤ 1000000) (x : Int) : CallR Tryz.prog 73 [.pointer (some ⟨g, 0, none⟩), .int .i64 x] w fun v w' => v = .bool (takenV m x) ∧ Chg [] w w' := by
  apply F73_ok
  obtain ⟨A, c, hr⟩ := rgs_sh M.rT
  have hrl := M.rl
  rw [hr] at hrl
  have hl := Nat.le_trans Wm.rl hK
  simp -implicitDefEqProofs only [F73, zS, ah, fa_61_3, ld_58, hrl, len_58]
  have main : ∀ (d i : Nat) (w1 : World), Chg [] w w1 → (∀ (j : Nat) (r : RgV), j < i → m.rgs[j]? = some r → (isLv m r.nm && decide (x ∈ r.chunks)) = false) → i + d = m.rgs.length →
      P73_0 (.pointer (some ⟨g, 0, none⟩)) (.int .i64 x) (.slice A m.rgs.length c) (.int .i64 m.rgs.length) (.int .i64 i) w1 fun v w' => v = .bool (takenV m x) ∧ Chg [] w w' := by
    intro d
    induction d with
    | zero =>
      intro i w1 hc hn hi
      apply L73_0_ok
      have : ¬ (i : Int) < m.rgs.length := by omega
      simp -implicitDefEqProofs only [L73_0, zS, this]
      refine ⟨?_, hc⟩
      have : takenV m x = false := by
        rw [takenV, List.any_eq_false]
        intro r hr
        obtain ⟨j, hj⟩ := List.getElem?_of_mem hr
        rw [hn j r (by have := (List.getElem?_eq_some_iff.1 hj).1; omega) hj]; simp
      rw [this]
    | succ d ih =>
      intro i w1 hc hn hi
      apply L73_0_ok
      have hlt : (i : Int) < m.rgs.length := by omega
      obtain ⟨rg, hrg⟩ : ∃ rg, m.rgs[i]? = some rg := ⟨_, List.getElem?_eq_getElem (by omega)⟩
      obtain ⟨Fr, hF⟩ := (M.keep hc).rT
      obtain ⟨b, c', hx, cv, wv, ov, R⟩ := rg_at hF hrg
      rw [hr] at hx
      cases hx
      have ia := ia_58 (b := b) (p := 0) (n := m.rgs.length) (c := c) (j := .i64) (i := (i : Int)) (by omega) (by omega)
      rw [Int.toNat_natCast, Nat.zero_add] at ia
      have lr : ldL (hp w1 b) (i * 7) 7 = some [.int .i64 rg.nm.1, .int .i64 rg.nm.2, .int .i64 rg.cls, .int .i64 rg.off, cv, wv, ov] := ldL_take 7 _ _ rfl fun j u hj => by
        have hj' := (List.getElem?_eq_some_iff.1 hj).1
        simp at hj'
        have h7 : j = 0 ∨ j = 1 ∨ j = 2 ∨ j = 3 ∨ j = 4 ∨ j = 5 ∨ j = 6 := by omega
        rcases h7 with rfl | rfl | rfl | rfl | rfl | rfl | rfl <;> cases hj
        · exact R.c0
        · exact R.c1
        · exact R.c2
        · exact R.c3
        · exact R.c4
        · exact R.c5
        · exact R.c6
      obtain ⟨Fc, hFc⟩ := R.cT
      obtain ⟨Fw, hFw⟩ := R.wT
      obtain ⟨Fo, hFo⟩ := R.oT
      have one1 := ((aM _).one hFc).2
      have one2 := ((good_words _).one hFw).2
      have one3 := ((good_objs _).one hFo).2
      simp -implicitDefEqProofs only [L73_0, zS, hlt, ia, ld_86, lr, Option.map_some, al_86]
      rw [st_86 (by rfl) (by show (List.all [_, _, _, _, cv, wv, ov] _) = true; have oi : ∀ (k : IntKind) (x : Int), (Value.int k x).oneCell' = true := fun _ _ => rfl; simp [one1, one2, one3, oi]) (by rw [aa, if_pos rfl]; rfl) (by rw [aa, if_pos rfl]; rfl), aa, if_pos rfl, ay]
      generalize hw2 : put (w1.alloc _) w1.heap.size _ _ = w2
      have c2 : Chg [] w1 w2 := by rw [← hw2]; exact ((Chg.refl _ _).alloc _).put (.inr (Nat.le_refl _)) _ _
      have a6 : hp w2 w1.heap.size = some (.cells #[.int .i64 rg.nm.1, .int .i64 rg.nm.2, .int .i64 rg.cls, .int .i64 rg.off, cv, wv, ov] 86) := by rw [← hw2]; exact ar (by simp) _ _
      clear hw2
      have c02 := hc.trans c2
      have ln : ldL (some (Obj.cells #[.int .i64 rg.nm.1, .int .i64 rg.nm.2, .int .i64 rg.cls, .int .i64 rg.off, cv, wv, ov] 86)) (0 + 0) 2 = some [.int .i64 rg.nm.1, .int .i64 rg.nm.2] := rfl
      simp -implicitDefEqProofs only [fa_86_0, ld_83, a6, ln, Option.map_some, ab]
      refine (c_mIsLive (M.keep c02) rg.nm).mono ?_
      rintro _ w3 ⟨rfl, c3⟩
      have c03 := c02.trans c3
      have a63 := c3.at a6 (by simp)
      have next : (isLv m rg.nm && decide (x ∈ rg.chunks)) = false → P73_0 (.pointer (some ⟨g, 0, none⟩)) (.int .i64 x) (.slice (some ⟨b, 0, none⟩) m.rgs.length c) (.int .i64 m.rgs.length) (.int .i64 ((i : Int) + 1)) w3 fun v w' => v = .bool (takenV m x) ∧ Chg [] w w' := by
        intro hf
        have := ih (i + 1) w3 c03 (fun j r hj hr => by
          rcases Nat.lt_or_ge j i with h1 | h1
          · exact hn j r h1 hr
          · have : j = i := by omega
            subst this
            rw [hrg] at hr; cases hr; exact hf) (by omega)
        rw [Int.natCast_add i 1] at this
        exact this
      cases hlv : isLv m rg.nm with
      | false =>
        simp -implicitDefEqProofs only [zS, am, aq (n := (i : Int) + 1) (by omega) (by omega)]
        exact next (by rw [hlv]; rfl)
      | true =>
        obtain ⟨A', c', hcv, hR⟩ := ints_sh ⟨_, hFc⟩
        have e4 : (#[Value.int .i64 rg.nm.1, .int .i64 rg.nm.2, .int .i64 rg.cls, .int .i64 rg.off, cv, wv, ov])[0 + 4]? = some (.slice A' rg.chunks.length c') := by rw [hcv]; rfl
        simp -implicitDefEqProofs only [zS, fa_86_3, ld_26, a63, e4]
        apply F36_ok
        simp -implicitDefEqProofs only [F36]
        have hR3 : RdI .i64 w3 A' rg.chunks := hR.keep (c2.trans c3).below
        have hcl : rg.chunks.length ≤ 1000000 := Nat.le_trans (Wm.rg rg (List.mem_of_getElem? hrg)).cl hK
        refine (c_iIndex (c := c') hR3 hcl x).step ?_
        have hge : decide (ixOf rg.chunks x ≥ 0) = decide (x ∈ rg.chunks) := ixOf_mem _ _
        simp -implicitDefEqProofs only [zS, aD]
        by_cases hm : x ∈ rg.chunks
        · rw [decide_eq_true hm] at hge
          have hge' := of_decide_eq_true hge
          simp -implicitDefEqProofs only [zS, hge', aD]
          refine ⟨?_, c03⟩
          have : takenV m x = true := by
            rw [takenV, List.any_eq_true]
            exact ⟨rg, List.mem_of_getElem? hrg, by rw [hlv, decide_eq_true hm]; rfl⟩
          rw [this]
        · rw [decide_eq_false hm] at hge
          have hge' := of_decide_eq_false hge
          simp -implicitDefEqProofs only [zS, hge', aD, am, aq (n := (i : Int) + 1) (by omega) (by omega)]
          exact next (by rw [decide_eq_false hm]; simp)
  exact main m.rgs.length 0 w (Chg.refl _ _) (fun j r hj => by omega) (by omega)
end
end Go.Proofs.YteapggpkgfiacaaGreat

namespace Go.Proofs.YteapggpkgfiacaaGreat
open Go Ev Go.RowKit

section
variable {W w : World} {g g5 : Nat} {m : MdV} {F : Fp} {K : Nat} {r : RsV} {cls : Int} {p : NmV}
theorem MdI.notF (I : MdI W g m F) {x : Nat} (h : W.heap.size ≤ x) : ¬ F x := fun hx => by have := isAt.lt I (good_md m) x hx; omega
theorem rs_0 (r : RsV) : (rsC r).toArray[0 + 0]? = some (.int .i64 r.1) := rfl
theorem rs_1 (r : RsV) : (rsC r).toArray[0 + 1 + 0]? = some (.int .i64 r.2.1.1) := rfl
theorem rs_3 (r : RsV) : (rsC r).toArray[0 + 1 + 2]? = some (.int .i64 r.2.1.2.2.1) := rfl
theorem rs_h (r : RsV) (e : TypeId) : ldL (some (Obj.cells (rsC r).toArray e)) (0 + 1) 5 = some (hnC r.2.1) := rfl
set_option maxHeartbeats 1000000 in
theorem l_creates0 (hc : Chg [] W w) (IW : MdI W g m F) (Wm : Wf m K) (hK : K + 1 ≤ 1000000) (n5 : W.heap.size ≤ g5) (h5 : hp w g5 = some (.cells (rsC r).toArray 40)) (r7 : r ≠ codeR 7) (hs : 0 ≤ r.2.1.1 ∧ r.2.1.1 < m.slots.length) (hp' : m.slots[r.2.1.1.toNat]? = some p) (p0 : p.1 = 0) :
    P53_0 (.pointer (some ⟨g, 0, none⟩)) (.int .i64 cls) (.pointer (some ⟨g5, 0, none⟩)) (.int .i64 (laterV p.2)) w fun v w' => v = .bool (createsV m cls r).1 ∧ ∃ F', MdI w' g (createsV m cls r).2 F' ∧ UpdP F F' W w' := by
  apply L53_0_ok
  have I := IW.keep hc
  have cv : createsV m cls r = if r = (0, (r.2.1.1, laterV p.2, 0, 0, 0), 0, 0) then
        (true, { m with slots := m.slots.set r.2.1.1.toNat (1, laterV p.2), rgs := m.rgs ++ [⟨(r.2.1.1, laterV p.2), cls, 0, [], [], []⟩] }) else (false, m) := by
    rw [createsV, if_neg r7, if_pos hs, hp']
    simp only [ne_eq, p0, not_true_eq_false, if_false]
  have hbe : be Tryz.prog .neq 40 (.tmp 54) (.tmp 60) (.agg (rsC r).toArray) (.agg #[.int .i64 0, .int .i64 r.2.1.1, .int .i64 (laterV p.2), .int .i64 0, .int .i64 0, .int .i64 0, .int .i64 0, .int .u64 0]) = some (.bool (!decide (r = (0, (r.2.1.1, laterV p.2, 0, 0, 0), 0, 0)))) := be_nrs r (0, (r.2.1.1, laterV p.2, 0, 0, 0), 0, 0)
  simp -implicitDefEqProofs only [L53_0, ld_res h5, ab, fa_40_1, bj, ac, h5, aH, rs_1, bd_38_0_1, bd_40_1, hbe]
  by_cases hr : r = (0, (r.2.1.1, laterV p.2, 0, 0, 0), 0, 0)
  · rw [if_pos hr] at cv
    rw [cv]
    have cd : Chg [] w w.drew := (Chg.refl _ _).drew
    obtain ⟨b1, c1, hl, hbg, hFb, ok, F1, h1, h2⟩ := (I.keep cd).slotSet2 (p' := (1, laterV p.2)) hp'
    have ia := ia_57 (b := b1) (p := 0) (n := m.slots.length) (c := c1) (j := .i64) (i := r.2.1.1) hs.1 hs.2
    rw [Nat.zero_add] at ia
    simp -implicitDefEqProofs only [decide_eq_true hr, zS, fa_61_2, ld_57, show ldC (hp w g) (0 + 7) = _ from hl, h5, rs_1, bd_92_0_1, ia]
    rw [st_slot (o := r.2.1.1.toNat * 2) rfl rfl rfl rfl ok]
    have k5 := h2.keep (show hp w.drew g5 = _ from h5) (IW.notF n5)
    generalize put w.drew b1 _ _ = w1 at *
    have cd1 : Chg [] w1 w1.drew := (Chg.refl _ _).drew
    have k5d : hp w1.drew g5 = some (.cells (rsC r).toArray 40) := k5.1
    have fin : ∀ w2, Chg [] w1 w2 → ∃ (v : Value) (Fk : Fp), ldC (hp w2 g) (0 + 8) = some v ∧ (∀ x, Fk x → F1 x) ∧
        ∀ {Q : Value → World → Prop}, (∀ x' w3, okC (hp w3 g) (0 + 8 + 1) = true → x'.cells = #[x'] → x'.oneCell' = true →
            (∃ F', MdI (put w3 g ((getC (hp w3 g)).setIfInBounds (0 + 8) x') (getE (hp w3 g))) g { m with slots := m.slots.set r.2.1.1.toNat (1, laterV p.2), rgs := m.rgs ++ [⟨(r.2.1.1, laterV p.2), cls, 0, [], [], []⟩] } F' ∧ UpdP F F' W (put w3 g ((getC (hp w3 g)).setIfInBounds (0 + 8) x') (getE (hp w3 g)))) → Q x' w3) →
          effv Tryz.prog (Instr.buildSlice 58 1 #[(0, .agg #[.int .i64 r.2.1.1, .int .i64 (laterV p.2), .int .i64 cls, .int .i64 0, .slice none 0 0, .slice none 0 0, .slice none 0 0])]) w2 fun y w3 => effv Tryz.prog (Builtin.append_ #[58, 58] 58 #[v, y]) w3 Q := by
      intro w2 c2
      obtain ⟨v, Fk, hsub, hld, hR, hput⟩ := (h1.keep c2).rgsPut
      refine ⟨v, Fk, hld, hsub, fun {Q} hQ => ?_⟩
      obtain ⟨xs, Fs, q1, q2, q3, q4⟩ := hR
      have hlen : ({ m with slots := m.slots.set r.2.1.1.toNat (1, laterV p.2) } : MdV).rgs.length = m.rgs.length := rfl
      rw [hlen] at q1
      have hrl := Wm.rl
      refine ps_58 (fun u hu => by simp only [List.mem_cons, List.not_mem_nil, or_false] at hu; rcases hu with rfl | rfl | rfl | rfl | rfl | rfl | rfl <;> rfl) q1 (by omega) (Nat.zero_le _) fun x' w3 ho hg hnb => ?_
      obtain ⟨F3, r1, r2⟩ := rgs_grown (nm := (r.2.1.1, laterV p.2)) (cls := cls) (L := m.rgs) ⟨xs, Fs, q1, q2, q3, q4⟩ q1 ho hg hnb
      obtain ⟨ok3, s1, s2, F4, t1, t2⟩ := hput w3 F3 x' _ r2 r1
      exact hQ x' w3 ok3 s1 s2 ⟨F4, t1, (h2.pre (hc.trans cd)).trans (t2.pre c2)⟩
    obtain ⟨v0, Fk0, hv0, hs0, _⟩ := fin w1 (Chg.refl _ _)
    have en : nmOf r.2.1 = (r.2.1.1, laterV p.2) := by
      have := congrArg (fun x : RsV => x.2.1.2.1) hr
      simp only at this
      rw [nmOf, this]
    constructor
    · simp -implicitDefEqProofs only [zS, fa_61_3, ld_58, hv0, fa_40_1, ld_38, k5.1, rs_h, Option.map_some]
      refine (c_mNameOf r.2.1 w1.drew).mono ?_
      rintro _ w2 ⟨rfl, c2⟩
      obtain ⟨v, Fk, hv, hsub, hf⟩ := fin w2 (cd1.trans c2)
      rw [aQ (cd1.trans c2) hv0] at hv
      cases hv
      have en' : (nmC (r.2.1.1, r.2.1.2.1)).toArray = #[.int .i64 r.2.1.1, .int .i64 (laterV p.2)] := by
        have := congrArg (fun x : NmV => (nmC x).toArray) en
        exact this
      simp -implicitDefEqProofs only [zS, en', bd_86_0_1]
      refine hf fun x' w3 ok s1 s2 hx => ?_
      rw [st_58 (o := 0 + 8) s1 s2 ok]
      apply L53_1_ok
      exact ⟨rfl, hx⟩
    · simp -implicitDefEqProofs only [zS, fa_61_3, fa_40_1, ld_38, k5.1, rs_h, Option.map_some]
      refine (c_mNameOf r.2.1 w1.drew).mono ?_
      rintro _ w2 ⟨rfl, c2⟩
      obtain ⟨v, Fk, hv, hsub, hf⟩ := fin w2 (cd1.trans c2)
      have en' : (nmC (r.2.1.1, r.2.1.2.1)).toArray = #[.int .i64 r.2.1.1, .int .i64 (laterV p.2)] := by
        have := congrArg (fun x : NmV => (nmC x).toArray) en
        exact this
      simp -implicitDefEqProofs only [zS, en', bd_86_0_1, ld_58, hv]
      refine hf fun x' w3 ok s1 s2 hx => ?_
      rw [st_58 (o := 0 + 8) s1 s2 ok]
      apply L53_1_ok
      exact ⟨rfl, hx⟩
  · rw [if_neg hr] at cv
    simp -implicitDefEqProofs only [decide_eq_false hr, zS]
    rw [cv]
    exact ⟨rfl, F, I, UpdP.of0 hc⟩
set_option maxHeartbeats 1000000 in
theorem c_mCreates (I : MdI w g m F) (Wm : Wf m K) (hK : K + 1 ≤ 1000000) (cls : Int) (r : RsV) :
    CallR Tryz.prog 53 [.pointer (some ⟨g, 0, none⟩), .int .i64 cls, .agg (rsC r).toArray] w fun v w' => v = .bool (createsV m cls r).1 ∧ ∃ F', MdI w' g (createsV m cls r).2 F' ∧ UpdP F F' w w' := by
  apply F53_ok
  have h5 : hp (w.alloc (.cells (rsC r).toArray 40)) w.heap.size = some (.cells (rsC r).toArray 40) := by rw [aa, if_pos rfl]
  have c0 : Chg [] w (w.alloc (.cells (rsC r).toArray 40)) := (Chg.refl _ _).alloc _
  simp -implicitDefEqProofs only [F53, ak, au]
  generalize w.alloc (.cells (rsC r).toArray 40) = w0 at *
  have hsz : w.heap.size ≤ w.heap.size := Nat.le_refl _
  generalize hg5 : w.heap.size = g5 at *
  have n5 : w.heap.size ≤ g5 := by omega
  obtain ⟨_, _, _, M⟩ := (I.keep c0).rd
  have hbe : be Tryz.prog .eql 40 (.tmp 9) (.tmp 10) (.agg (rsC r).toArray) (.agg #[.int .i64 7, .int .i64 0, .int .i64 0, .int .i64 0, .int .i64 0, .int .i64 0, .int .i64 0, .int .u64 0]) = some (.bool (decide (r = codeR 7))) := be_rs r (codeR 7)
  simp -implicitDefEqProofs only [ld_res h5, ab, bd_40_0, hbe]
  by_cases r7 : r = codeR 7
  · have cv : createsV m cls r = (m.loose || decide (spareN m.slots = 0), m) := by rw [createsV, if_pos r7]
    simp -implicitDefEqProofs only [decide_eq_true r7, zS, fa_61_1, ld_4, M.l]
    rw [cv]
    by_cases hlo : m.loose = true
    · simp -implicitDefEqProofs only [hlo, zS]
      exact ⟨by simp, F, I.keep c0, UpdP.of0 c0⟩
    · have hlf : m.loose = false := by simpa using hlo
      simp -implicitDefEqProofs only [hlf, zS]
      refine (c_mSpare M Wm.sl).mono ?_
      rintro _ w1 ⟨rfl, c1⟩
      simp -implicitDefEqProofs only [zS]
      refine ⟨?_, F, I.keep (c0.trans c1), UpdP.of0 (c0.trans c1)⟩
      by_cases hz : spareN m.slots = 0
      · rw [hz]; rfl
      · rw [eqf (show (spareN m.slots : Int) ≠ 0 by omega), decide_eq_false hz]; rfl
  · have cd : Chg [] w0 w0.drew := (Chg.refl _ _).drew
    have cvn : ¬ (0 ≤ r.2.1.1 ∧ r.2.1.1 < m.slots.length) → createsV m cls r = (false, m) := fun h => by rw [createsV, if_neg r7, if_neg h]
    have I1 := I.keep (c0.trans cd)
    have MD := M.keep cd
    simp -implicitDefEqProofs only [decide_eq_false r7, zS, fa_40_1, bj, ac, h5, rs_1]
    refine (c_mSlot MD r.2.1.1).step ?_
    by_cases hs : 0 ≤ r.2.1.1 ∧ r.2.1.1 < m.slots.length
    · obtain ⟨p, hp'⟩ : ∃ p, m.slots[r.2.1.1.toNat]? = some p := ⟨_, List.getElem?_eq_getElem (by omega)⟩
      obtain ⟨A, c, hsl, hR⟩ := slots_sh MD.sT
      obtain ⟨b, o, q1, q2, q3⟩ := slot_at (c := c) hR hp'
      have hcast : ((r.2.1.1.toNat : Nat) : Int) = r.2.1.1 := by omega
      rw [hcast] at q1
      have l7 := MD.sl
      rw [hsl] at l7
      have l7' : ldC (hp w0 g) (0 + 7) = some (.slice A m.slots.length c) := l7
      have q2' : ldC (hp w0 b) (o + 0) = some (.int .i64 p.1) := q2
      have q3' : ldC (hp w0 b) (o + 1) = some (.int .i64 p.2) := q3
      by_cases p0 : p.1 = 0
      · have pg := Wm.sg p (List.mem_of_getElem? hp')
        have e0 : (p.1 != 0) = false := by rw [p0]; rfl
        have fin : ∀ x, laterV p.2 = x → P53_0 (.pointer (some ⟨g, 0, none⟩)) (.int .i64 cls) (.pointer (some ⟨g5, 0, none⟩)) (.int .i64 x) w0.drew.drew fun v w' => v = .bool (createsV m cls r).1 ∧ ∃ F', MdI w' g (createsV m cls r).2 F' ∧ UpdP F F' w w' := by
          rintro x rfl
          exact l_creates0 (c0.drew.drew) I Wm hK n5 (show hp w0.drew.drew g5 = _ from h5) r7 hs hp' p0
        by_cases hlt : p.2 < 4294967295
        · have f := fin (p.2 + 1) (by rw [laterV, if_pos hlt])
          simp -implicitDefEqProofs only [zS, hs, and_self, z1z, fa_61_2, ld_57, l7', fa_40_1, bj, ac, h5, rs_1, q1, fa_92_0, fa_92_1, q2', q3', e0, hlt, am, aq (n := p.2 + 1) (by omega) (by omega)]
          exact f
        · have f := fin 0 (by rw [laterV, if_neg hlt])
          simp -implicitDefEqProofs only [zS, hs, and_self, z1z, fa_61_2, ld_57, l7', fa_40_1, bj, ac, h5, rs_1, q1, fa_92_0, fa_92_1, q2', q3', e0, hlt]
          exact f
      · have e0 : (p.1 != 0) = true := bne_iff_ne.2 p0
        have cv : createsV m cls r = (false, m) := by
          rw [createsV, if_neg r7, if_pos hs, hp']
          simp only [ne_eq, p0, not_false_eq_true, if_true]
        simp -implicitDefEqProofs only [zS, hs, and_self, z1z, fa_61_2, ld_57, l7', fa_40_1, bj, ac, h5, rs_1, q1, fa_92_0, q2', e0]
        rw [cv]
        exact ⟨by first | rfl | trivial, F, I1, UpdP.of0 (c0.trans cd)⟩
    · simp -implicitDefEqProofs only [zS, hs, z2z]
      rw [cvn hs]
      exact ⟨by first | rfl | trivial, F, I1, UpdP.of0 (c0.trans cd)⟩
end
end Go.Proofs.YteapggpkgfiacaaGreat

namespace Go.Proofs.YteapggpkgfiacaaGreat
open Go Ev Go.RowKit

section
variable {W w : World} {g g7 g11 b c i : Nat} {m : MdV} {F F0 : Fp} {K : Nat} {r : RsV} {x : RgV} {want : HnV} {need : Int}
theorem ld_hn {h : HnV} {g : Nat} {e : TypeId} (hb : hp w g = some (.cells (hnC h).toArray e)) : ldv Tryz.prog 38 (.pointer (some ⟨g, 0, none⟩)) w = some (.agg (hnC h).toArray) := aJ (t := 38) (c := (hnC h).toArray) ag_38 (show (Tryz.prog.info? 38).map (·.size) = some (hnC h).toArray.size from sz_38) hb
theorem set_rg {i : Nat} {x y : RgV} (m : MdV) : { ({ m with rgs := m.rgs.set i x } : MdV) with rgs := ({ m with rgs := m.rgs.set i x } : MdV).rgs.set i y } = { m with rgs := m.rgs.set i y } := by simp [List.set_set]
theorem at_set {i : Nat} {x y : RgV} (hi : m.rgs[i]? = some x) : ({ m with rgs := m.rgs.set i y } : MdV).rgs[i]? = some y := by
  show (m.rgs.set i y)[i]? = _
  rw [List.getElem?_set, if_pos rfl, if_pos (List.getElem?_eq_some_iff.1 hi).1]
theorem own_alloc_u64s (n : Nat) (hn : n ≤ maxLen) : wordT (List.replicate n 0) (w.alloc (.cells (u64s (List.replicate n 0)).toArray 34)) (fun b => b = w.heap.size) (.slice (some ⟨w.heap.size, 0, none⟩) n n) := by
  have h : (w.alloc (.cells (u64s (List.replicate n 0)).toArray 34)).ownsRow 0 34 1 (.slice (some ⟨w.heap.size, 0, none⟩) n n) n (u64s (List.replicate n 0)) :=
    ⟨by simp [u64s], .inr ⟨w.heap.size, n, _, rfl, Nat.zero_le _, heap_alloc_new w _, Nat.le_refl _, hn, by simp [u64s], by simp [u64s]⟩⟩
  have h2 := own_flat h
  have e : (fun b => (Value.slice (some ⟨w.heap.size, 0, none⟩) n n).ownBlock = some b) = (fun b => b = w.heap.size) := by
    funext b
    simp [Value.ownBlock, eq_comm]
  rw [e] at h2
  rw [wordT, List.length_replicate]
  exact h2
set_option maxHeartbeats 1000000 in
theorem l_gives1 (U : UpdP F0 F W w) (I : MdI w g m F) (hb : ldC (hp w g) (0 + 8) = some (.slice (some ⟨b, 0, none⟩) m.rgs.length c)) (hi : m.rgs[i]? = some x) (hol : x.objs.length ≤ 1000000) (h11 : hp w g11 = some (.cells (hnC want).toArray 38)) :
    P54_1 (.pointer (some ⟨b, i * 7, none⟩)) (.pointer (some ⟨g11, 0, none⟩)) w fun v w' => v = .bool true ∧ ∃ F', MdI w' g { m with rgs := m.rgs.set i { x with objs := x.objs ++ [want] } } F' ∧ UpdP F0 F' W w' := by
  apply L54_1_ok
  have cd : Chg [] w w.drew := (Chg.refl _ _).drew
  obtain ⟨v, Fk, hsub, hFb, hnb, hld, hv, hput⟩ := (I.keep cd).rgPut (hb := aQ cd hb) hi (k := 6) (by omega) (P := objsT x.objs) rfl
  have h11d : hp w.drew g11 = some (.cells (hnC want).toArray 38) := h11
  simp -implicitDefEqProofs only [L54_1, zS, fa_86_5, ld_44, show ldC (hp w b) (i * 7 + 6) = _ from hld, ld_hn h11d]
  obtain ⟨hown, _⟩ := flat_own hv
  refine ps_44 (fun u hu => by simp only [List.mem_cons, List.not_mem_nil, or_false] at hu; rcases hu with rfl | rfl | rfl | rfl | rfl <;> rfl) hown (by omega) (Nat.zero_le _) fun x' w2 ho hg hnb => ?_
  obtain ⟨F2, hr2, hu2⟩ := flat_grown (vs := hnC want) hv ho hg hnb
  have hr2' : objsT (x.objs ++ [want]) w2 F2 x' := by
    rw [objsT, List.length_append]
    have e : (x.objs ++ [want]).flatMap hnC = x.objs.flatMap hnC ++ hnC want := by simp
    rw [e]; exact hr2
  obtain ⟨ok, s1, s2, _, F3, t1, t2⟩ := hput w2 F2 (objsT (x.objs ++ [want])) x' { x with objs := x.objs ++ [want] } hu2 (good_objs _) hr2' rfl
  rw [st_44 (o := i * 7 + 6) s1 s2 ok]
  exact ⟨by first | rfl | trivial, F3, t1, U.trans (t2.pre cd)⟩
set_option maxHeartbeats 2000000 in
theorem l_gives0 (U : UpdP F0 F W w) (I : MdI w g m F) (Wm : Wf m K) (hK : K + 1 ≤ 1000000) (hb : ldC (hp w g) (0 + 8) = some (.slice (some ⟨b, 0, none⟩) m.rgs.length c)) (hi : m.rgs[i]? = some x) (hol : x.objs.length ≤ 1000000)
    (h7 : hp w g7 = some (.cells (rsC r).toArray 40)) (h11 : hp w g11 = some (.cells (hnC want).toArray 38)) (n11 : ¬ F g11) :
    P54_0 (.pointer (some ⟨g, 0, none⟩)) (.pointer (some ⟨g7, 0, none⟩)) (.pointer (some ⟨b, i * 7, none⟩)) (.int .i64 need) (.pointer (some ⟨g11, 0, none⟩)) (.bool (rfitsV x m.c.2.2.1 need)) w fun v w' =>
      v = .bool (if r = (0, want, 0, 0) then true else false) ∧ ∃ F', MdI w' g (if r = (0, want, 0, 0) then { m with rgs := m.rgs.set i (growV m.c.2.2.1 need x want) } else m) F' ∧ UpdP F0 F' W w' := by
  apply L54_0_ok
  have hbe : be Tryz.prog .neq 40 (.tmp 74) (.tmp 76) (.agg (rsC r).toArray) (.agg (rsC (0, want, 0, 0)).toArray) = some (.bool (!decide (r = (0, want, 0, 0)))) := be_nrs r (0, want, 0, 0)
  have hbd : pureRun Tryz.prog (Instr.build 40 #[(1, .agg (hnC want).toArray)]) = some (.agg (rsC (0, want, 0, 0)).toArray) := bd_40_1
  have W1 := Wm.w1
  have W2 := Wm.w2
  have R := Wm.rg x (List.mem_of_getElem? hi)
  simp -implicitDefEqProofs only [L54_0, ld_res h7, ld_hn h11, hbd, hbe, ab]
  by_cases hr : r = (0, want, 0, 0)
  · rw [if_pos hr, if_pos hr]
    cases hf : rfitsV x m.c.2.2.1 need with
    | true =>
      obtain ⟨f1, f2, f3, f4⟩ := fits_need hf
      obtain ⟨v, Fk, hsub, hFb, hnb, hld, hv, hput⟩ := I.rgPut (hb := hb) hi (k := 3) (by omega) (P := iT x.off) rfl
      rw [hv.1] at hld
      obtain ⟨ok, s1, s2, hb1, F1, t1, t2⟩ := hput w none' (iT (x.off + need)) (.int .i64 (x.off + need)) { x with off := x.off + need } (UpdP.none hv.2 w) (aV _ _) ⟨rfl, fun _ h => h⟩ rfl
      simp -implicitDefEqProofs only [decide_eq_true hr, zS, fa_86_2, ac, hld, am, aq (n := x.off + need) (by omega) (by omega)]
      rw [st_3 (o := i * 7 + 3) s1 s2 ok]
      have k11 := t2.keep h11 n11
      have hln : ({ m with rgs := m.rgs.set i { x with off := x.off + need } } : MdV).rgs.length = m.rgs.length := by simp
      have := l_gives1 (U.trans t2) t1 (hb := by rw [hln]; exact hb1) (at_set hi) hol k11.1
      rw [set_rg] at this
      have eg : growV m.c.2.2.1 need x want = { x with off := x.off + need, objs := x.objs ++ [want] } := by rw [growV, hf]; rfl
      rw [eg]
      exact this
    | false =>
      have cd : Chg [] w w.drew := (Chg.refl _ _).drew
      obtain ⟨v, Fk, hsub, hFb, hnb, hld, hv, hput⟩ := (I.keep cd).rgPut (hb := aQ cd hb) hi (k := 4) (by omega) (P := intsT x.chunks) rfl
      have h11d : hp w.drew g11 = some (.cells (hnC want).toArray 38) := h11
      have e2 : (hnC want).toArray[0 + 2]? = some (.int .i64 want.2.2.1) := rfl
      simp -implicitDefEqProofs only [decide_eq_true hr, zS, fa_86_3, fa_38_2, ld_26, ac, show ldC (hp w b) (i * 7 + 4) = _ from hld, h11, e2]
      obtain ⟨hown, _⟩ := flat_own hv
      have hcl := R.cl
      refine ps_26 (fun u hu => by simp only [List.mem_cons, List.not_mem_nil, or_false] at hu; rcases hu with rfl; rfl) hown (by omega) (Nat.zero_le _) fun x1 w2 ho hg hnb => ?_
      obtain ⟨F2, hr2, hu2⟩ := flat_grown (vs := [Value.int .i64 want.2.2.1]) hv ho hg hnb
      have hr2' : intsT (x.chunks ++ [want.2.2.1]) w2 F2 x1 := by
        rw [intsT, List.length_append]
        have e : ints (x.chunks ++ [want.2.2.1]) = ints x.chunks ++ [Value.int .i64 want.2.2.1] := by simp [ints]
        rw [e]; exact hr2
      obtain ⟨ok, s1, s2, hb1, F3, t1, t2⟩ := hput w2 F2 (intsT (x.chunks ++ [want.2.2.1])) x1 { x with chunks := x.chunks ++ [want.2.2.1] } hu2 (aM _) hr2' rfl
      rw [st_26 (o := i * 7 + 4) s1 s2 ok]
      have k11 := t2.keep h11d n11
      have U1 := U.trans (t2.pre cd)
      generalize put w2 b _ _ = w3 at *
      generalize hx1 : ({ x with chunks := x.chunks ++ [want.2.2.1] } : RgV) = y1 at *
      have hi1 := at_set (m := m) (y := y1) hi
      have hln1 : ({ m with rgs := m.rgs.set i y1 } : MdV).rgs.length = m.rgs.length := by simp
      generalize hm1 : ({ m with rgs := m.rgs.set i y1 } : MdV) = m1 at *
      have hc1 : m1.c = m.c := by rw [← hm1]
      have cd3 : Chg [] w3 w3.drew := (Chg.refl _ _).drew
      obtain ⟨v5, Fk5, hsub5, _, _, hld5, hv5, hput5⟩ := (t1.keep cd3).rgPut (hb := aQ cd3 hb1) hi1 (k := 5) (by omega) (P := wordsT y1.words) rfl
      obtain ⟨_, _, _, M3⟩ := t1.rd
      have hw2 : ldC (hp w3 g) (0 + 0 + 2) = some (.int .i64 ((m.c.2.2.1.toNat : Nat) : Int)) := by
        have := M3.c 2 (by omega)
        rw [hc1] at this
        rw [show ((m.c.2.2.1.toNat : Nat) : Int) = m.c.2.2.1 by omega]
        exact this
      obtain ⟨iu, hiu, hzu, hsu, hbu⟩ := inf_34
      generalize hn : m.c.2.2.1.toNat = n at *
      have hn' : (n : Int) = m.c.2.2.1 := by omega
      simp -implicitDefEqProofs only [zS, fa_86_4, fa_61_0, fa_23_2, ld_84, ac, show ldC (hp w3 b) (i * 7 + 5) = _ from hld5, hw2, effv_make (P := Tryz.prog) (kl := .i64) (kc := .i64) (n := n) Tryz.underlying102 hiu hzu (by rw [hsu]; omega) (by rw [hbu]; omega) (by omega)]
      have hmc : madeCells (Value.int .u64 0).cells (n * iu.size) = (u64s (List.replicate n 0)).toArray := by
        apply Array.toList_inj.1
        rw [hsu, Nat.mul_one]
        have := toList_madeCells_one (Value.int .u64 0) n
        rw [u64s, List.map_replicate]
        exact this
      rw [hmc]
      have n3 : w3.drew.heap.size = w3.heap.size := rfl
      have ob := own_alloc_u64s (w := w3.drew) n (by unfold maxLen; omega)
      generalize hwA : w3.drew.alloc (.cells (u64s (List.replicate n 0)).toArray 34) = wA at *
      have cA : Chg [] w3.drew wA := by rw [← hwA]; exact (Chg.refl _ _).alloc _
      have sA : wA.heap.size = w3.heap.size + 1 := by rw [← hwA, ae, n3]
      have hv5A := (good_words y1.words).frame hv5 (ChgP.of0 cA none') (fun _ _ h => h)
      obtain ⟨xs, Fs, q1, q2, q3, q4⟩ := hv5A
      have hyw : y1.words.length ≤ 1000000 := by rw [← hx1]; have := R.wl; simp only; omega
      refine ps_84 (fun u hu => by simp only [List.mem_cons, List.not_mem_nil, or_false] at hu; rcases hu with rfl; rfl) q1 (by omega) (Nat.zero_le _) fun x2 w4 ho2 hg2 hnb2 => ?_
      have hy : Parts wA [wordT (List.replicate n 0)] [.slice (some ⟨w3.drew.heap.size, 0, none⟩) n n] (fun _ => fun b => b = w3.drew.heap.size) := ⟨rfl, fun k P v hP hv => by
        have hk := (List.getElem?_eq_some_iff.1 hP).1
        have : k = 0 := by simp at hk; omega
        subst this
        cases hP; cases hv
        exact ob, fun j k hj hk hjk => by simp at hj hk; omega⟩
      have hF5 : ∀ k, Fk5 k → k < w3.heap.size := fun k hk => isAt.lt (t1.keep cd3) (good_md m1) k (hsub5 k hk)
      obtain ⟨F5, g1, g2, _⟩ := isRow.grow (G := fun b => b = w3.drew.heap.size) (m := 1) ⟨xs, Fs, q1, q2, q3, q4⟩ (fun P hP => by obtain ⟨l, _, rfl⟩ := List.mem_map.1 hP; exact good_word l) (fun P hP => by rw [List.mem_singleton.1 hP]; exact good_word _) hy
        (fun b => ⟨fun h => ⟨0, by simp, h⟩, fun ⟨_, _, h⟩ => h⟩) (fun k hk hk2 => by have := hF5 k hk; omega) (fun xs' h' => by rw [own_unique h' q1]; exact ho2) hg2 hnb2
      have hu5 : UpdP Fk5 F5 w3.drew w4 := by
        refine ⟨⟨g2.chg.os.trans cA.os, g2.chg.tape.trans cA.tape, g2.chg.output.trans cA.output, by have := g2.chg.size; omega, fun k hk hn => ?_⟩, fun k hk => ?_⟩
        · rw [g2.chg.block k (by omega) (fun h => by rcases h with h | h; exact hn h; omega)]
          exact cA.block k hk (by simp)
        · rcases g2.sub k hk with h | h
          · rcases h with h | h
            · exact .inl h
            · exact .inr (by omega)
          · exact .inr (by omega)
      have g1' : wordsT (y1.words ++ [List.replicate n 0]) w4 F5 x2 := by
        rw [wordsT, List.length_append, List.map_append]; exact g1
      obtain ⟨ok5, s51, s52, hb5, F6, t51, t52⟩ := hput5 w4 F5 (wordsT (y1.words ++ [List.replicate n 0])) x2 { y1 with words := y1.words ++ [List.replicate n 0] } hu5 (good_words _) g1' rfl
      rw [st_84 (o := i * 7 + 5) s51 s52 ok5]
      have k113 := t52.keep (show hp w3.drew g11 = _ from k11.1) k11.2
      have U2 := U1.trans (t52.pre cd3)
      have em2 : ({ m1 with rgs := m1.rgs.set i { y1 with words := y1.words ++ [List.replicate n 0] } } : MdV) = { m with rgs := m.rgs.set i { y1 with words := y1.words ++ [List.replicate n 0] } } := by rw [← hm1]; exact set_rg m
      rw [em2] at t51
      generalize put w4 b _ _ = w5 at *
      generalize hy2 : ({ y1 with words := y1.words ++ [List.replicate n 0] } : RgV) = y2 at *
      have hi2 := at_set (m := m) (y := y2) hi
      obtain ⟨_, _, _, M5⟩ := t51.rd
      have hw5 : ldC (hp w5 g) (0 + 0 + 2) = some (.int .i64 m.c.2.2.1) := M5.c 2 (by omega)
      simp -implicitDefEqProofs only [zS, fa_61_0, fa_23_2, ac, hw5]
      refine (c_sAfter m.c.2.2.1 need w5).step ?_
      obtain ⟨v3, Fk3, hsub3, _, _, hld3, hv3, hput3⟩ := t51.rgPut (hb := hb5) hi2 (k := 3) (by omega) (P := iT y2.off) rfl
      obtain ⟨ok3, s31, s32, hb3, F7, t31, t32⟩ := hput3 w5 none' (iT (afterV m.c.2.2.1 need)) (.int .i64 (afterV m.c.2.2.1 need)) { y2 with off := afterV m.c.2.2.1 need } (UpdP.none hv3.2 w5) (aV _ _) ⟨rfl, fun _ h => h⟩ rfl
      simp -implicitDefEqProofs only [zS, fa_86_2]
      rw [st_3 (o := i * 7 + 3) s31 s32 ok3]
      have k114 := t32.keep k113.1 k113.2
      rw [set_rg] at t31
      have hi3 := at_set (m := m) (y := { y2 with off := afterV m.c.2.2.1 need }) hi
      have hol3 : ({ y2 with off := afterV m.c.2.2.1 need } : RgV).objs.length ≤ 1000000 := by rw [← hy2, ← hx1]; exact hol
      have := l_gives1 (U2.trans t32) t31 (hb := by
        have hln : ({ m with rgs := m.rgs.set i { y2 with off := afterV m.c.2.2.1 need } } : MdV).rgs.length = m.rgs.length := by simp
        rw [hln]; exact hb3) hi3 hol3 k114.1
      rw [set_rg] at this
      have eg : growV m.c.2.2.1 need x want = { ({ y2 with off := afterV m.c.2.2.1 need } : RgV) with objs := ({ y2 with off := afterV m.c.2.2.1 need } : RgV).objs ++ [want] } := by
        rw [growV, hf, ← hy2, ← hx1, hn]; rfl
      rw [eg]
      exact this
  · rw [if_neg hr, if_neg hr]
    simp -implicitDefEqProofs only [decide_eq_false hr, zS]
    exact ⟨by first | rfl | trivial, F, I, U⟩
end
end Go.Proofs.YteapggpkgfiacaaGreat

namespace Go.Proofs.YteapggpkgfiacaaGreat
open Go Ev Go.RowKit

section
variable {w : World} {g : Nat} {m : MdV} {F : Fp} {K : Nat}
set_option maxHeartbeats 2000000 in
theorem c_mGives (I : MdI w g m F) (Wm : Wf m K) (hK : K + 1 ≤ 1000000) (n : Int) (h : HnV) (r : RsV) {i : Nat} (hf : findR m.rgs (nmOf h) = some i) :
    CallR Tryz.prog 54 [.pointer (some ⟨g, 0, none⟩), .int .i64 n, .agg (hnC h).toArray, .agg (rsC r).toArray] w fun v w' => v = .bool (givesV m n h r).1 ∧ ∃ F', MdI w' g (givesV m n h r).2 F' ∧ UpdP F F' w w' := by
  apply F54_ok
  obtain ⟨x, hi, hnm⟩ := findR_at hf
  have R := Wm.rg x (List.mem_of_getElem? hi)
  have W1 := Wm.w1
  have W2 := Wm.w2
  have gv : givesV m n h r = if rfitsV x m.c.2.2.1 (roundV x.cls n) = false ∧ r = codeR 6 then (true, m)
      else if rfitsV x m.c.2.2.1 (roundV x.cls n) = false ∧ (r.2.1.2.2.1 < 0 ∨ m.c.2.1 ≤ r.2.1.2.2.1 ∨ takenV m r.2.1.2.2.1 = true) then (false, m)
      else if r = (0, wantV m.c.2.2.1 (roundV x.cls n) n x h r.2.1.2.2.1, 0, 0) then (true, { m with rgs := m.rgs.set i (growV m.c.2.2.1 (roundV x.cls n) x (wantV m.c.2.2.1 (roundV x.cls n) n x h r.2.1.2.2.1)) })
      else (false, m) := by
    rw [givesV, hf]; simp only [hi]
  simp -implicitDefEqProofs only [F54, ak, au, ae]
  generalize hw : (w.alloc (.cells (hnC h).toArray 38)).alloc _ = w1
  have c1 : Chg [] w w1 := by rw [← hw]; exact ((Chg.refl _ _).alloc _).alloc _
  have a6 : hp w1 w.heap.size = some (.cells (hnC h).toArray 38) := by rw [← hw, aa, ae, if_neg (by omega), aa, if_pos rfl]
  have a7 : hp w1 (w.heap.size + 1) = some (.cells (rsC r).toArray 40) := by rw [← hw, aa, ae, if_pos rfl]
  clear hw
  obtain ⟨_, _, _, M⟩ := I.rd
  simp -implicitDefEqProofs only [ld_hn a6, ab]
  refine (c_mNameOf h w1).mono ?_
  rintro _ w2 ⟨rfl, c2⟩
  have c02 := c1.trans c2
  refine (c_mRegion (M.keep c02) (h.1, h.2.1) (Nat.le_trans Wm.rl (by omega))).mono ?_
  rintro v w3 ⟨c3, hv⟩
  have c03 := c02.trans c3
  have hf' : findR m.rgs (h.1, h.2.1) = some i := hf
  rw [hf'] at hv
  rcases hv with ⟨hv, _⟩ | ⟨i', rg, b, c, hi', hrg, hrow, rfl⟩
  · cases hv
  cases hi'
  rw [hi] at hrg
  cases hrg
  have hb3 : ∀ w', Chg [] w w' → ldC (hp w' g) (0 + 8) = some (.slice (some ⟨b, 0, none⟩) m.rgs.length c) := fun w' k => by
    rw [← hrow]; exact (M.keep k).rl
  obtain ⟨G, hG⟩ := (M.keep c03).rT
  obtain ⟨b', c', hx, cv, wv, ov, R3⟩ := rg_at hG hi
  rw [hrow] at hx
  cases hx
  have k2 := c2.trans c3
  have f6 := k2.at a6 (by simp)
  have f7 := k2.at a7 (by simp)
  simp -implicitDefEqProofs only [zS, fa_86_1, ac, R3.c2]
  refine (c_sRound x.cls n w3).step ?_
  have e0 : (hnC h).toArray[0 + 0]? = some (.int .i64 h.1) := rfl
  have e1 : (hnC h).toArray[0 + 1]? = some (.int .i64 h.2.1) := rfl
  simp -implicitDefEqProofs only [zS, bj, fa_38_1, fa_38_2, fa_40_1, ac, f6, f7, e0, e1, rs_3, bd_38_0_1_2_4, al_38]
  rw [st_38 (by rfl) (by rfl) (by rw [aa, if_pos rfl]; rfl) (by rw [aa, if_pos rfl]; rfl), aa, if_pos rfl, ay]
  generalize hw4 : put (w3.alloc _) w3.heap.size _ _ = w4
  have c4 : Chg [] w3 w4 := by rw [← hw4]; exact ((Chg.refl _ _).alloc _).put (.inr (Nat.le_refl _)) _ _
  have a11 : hp w4 w3.heap.size = some (.cells (hnC (h.1, h.2.1, r.2.1.2.2.1, 0, n)).toArray 38) := by rw [← hw4]; exact ar (by simp) _ _
  clear hw4
  have c04 := c03.trans c4
  have s3 := c03.size
  have f74 := c4.at f7 (by simp)
  have hw4 : ∀ w', Chg [] w w' → ldC (hp w' g) (0 + 0 + 2) = some (.int .i64 m.c.2.2.1) := fun w' k => (M.keep k).c 2 (by omega)
  have hw1 : ∀ w', Chg [] w w' → ldC (hp w' g) (0 + 0 + 1) = some (.int .i64 m.c.2.1) := fun w' k => (M.keep k).c 1 (by omega)
  simp -implicitDefEqProofs only [zS, fa_61_0, fa_23_2, ac, hw4 _ c04]
  refine (c_mFits (R3.keep c4) m.c.2.2.1 (roundV x.cls n)).step ?_
  have nF : ∀ {y}, w.heap.size ≤ y → ¬ F y := fun hy => I.notF hy
  have hol : x.objs.length ≤ 1000000 := Nat.le_trans R.ol (by omega)
  have c34 : Chg [] w3 w4 := c4
  have tail : ∀ (want : HnV) w6, Chg [] w3 w6 → hp w6 w3.heap.size = some (.cells (hnC want).toArray 38) →
      P54_0 (.pointer (some ⟨g, 0, none⟩)) (.pointer (some ⟨w.heap.size + 1, 0, none⟩)) (.pointer (some ⟨b, i * 7, none⟩)) (.int .i64 (roundV x.cls n)) (.pointer (some ⟨w3.heap.size, 0, none⟩)) (.bool (rfitsV x m.c.2.2.1 (roundV x.cls n))) w6 fun v w' =>
        v = .bool (if r = (0, want, 0, 0) then true else false) ∧ ∃ F', MdI w' g (if r = (0, want, 0, 0) then { m with rgs := m.rgs.set i (growV m.c.2.2.1 (roundV x.cls n) x want) } else m) F' ∧ UpdP F F' w w' := by
    intro want w6 c6 h11
    have c06 := c03.trans c6
    exact l_gives0 (UpdP.of0 c06) (I.keep c06) Wm hK (hb3 _ c06) hi hol (c6.at f7 (by simp)) h11 (nF (by omega))
  cases hfit : rfitsV x m.c.2.2.1 (roundV x.cls n) with
  | true =>
    rw [hfit] at tail
    obtain ⟨f1, f2, f3, f4⟩ := fits_need hfit
    have ew : wantV m.c.2.2.1 (roundV x.cls n) n x h r.2.1.2.2.1 = (h.1, h.2.1, newV x.chunks, x.off, n) := by rw [wantV, hfit]; rfl
    rw [hfit, ew] at gv
    simp only [Bool.true_eq_false, false_and, if_false] at gv
    have tl : ∀ w6, Chg [] w3 w6 → hp w6 w3.heap.size = some (.cells (hnC (h.1, h.2.1, newV x.chunks, x.off, n)).toArray 38) →
        P54_0 (.pointer (some ⟨g, 0, none⟩)) (.pointer (some ⟨w.heap.size + 1, 0, none⟩)) (.pointer (some ⟨b, i * 7, none⟩)) (.int .i64 (roundV x.cls n)) (.pointer (some ⟨w3.heap.size, 0, none⟩)) (.bool true) w6 fun v w' => v = .bool (givesV m n h r).1 ∧ ∃ F', MdI w' g (givesV m n h r).2 F' ∧ UpdP F F' w w' := by
      intro w6 c6 h11
      have t := tail _ w6 c6 h11
      rw [gv]
      by_cases hr : r = (0, (h.1, h.2.1, newV x.chunks, x.off, n), 0, 0)
      · rw [if_pos hr, if_pos hr] at t; rw [if_pos hr]; exact t
      · rw [if_neg hr, if_neg hr] at t; rw [if_neg hr]; exact t
    have cd : Chg [] w4 w4.drew := (Chg.refl _ _).drew
    have R4 := R3.keep c4
    have cn := c_mNewest (R4.keep cd) (Nat.le_trans R.cl (by omega))
    have st2 : ∀ w5 L, hp w5 w3.heap.size = some (.cells (hnC (h.1, h.2.1, r.2.1.2.2.1, 0, n)).toArray 38) → effu Tryz.prog (Instr.storeAt 3 (.pointer (some ⟨w3.heap.size, 0 + 2, none⟩)) (.int .i64 (newV x.chunks))) w5 L = L (put w5 w3.heap.size (hnC (h.1, h.2.1, newV x.chunks, 0, n)).toArray 38) := by
      intro w5 L h5
      rw [st_3 (o := 0 + 2) rfl rfl (by rw [h5]; rfl), h5]; rfl
    have st3 : ∀ w5 L, hp w5 w3.heap.size = some (.cells (hnC (h.1, h.2.1, newV x.chunks, 0, n)).toArray 38) → effu Tryz.prog (Instr.storeAt 3 (.pointer (some ⟨w3.heap.size, 0 + 3, none⟩)) (.int .i64 x.off)) w5 L = L (put w5 w3.heap.size (hnC (h.1, h.2.1, newV x.chunks, x.off, n)).toArray 38) := by
      intro w5 L h5
      rw [st_3 (o := 0 + 3) rfl rfl (by rw [h5]; rfl), h5]; rfl
    simp -implicitDefEqProofs only [zS, fa_86_2, ac, show ldC (hp w4 b) (i * 7 + 3) = _ from R4.c3]
    repeat' (with_reducible apply And.intro)
    all_goals
      refine cn.mono ?_
      rintro _ w5 ⟨rfl, c5⟩
      have c35 := c34.trans (cd.trans c5)
      have h5 := c5.at (show hp w4.drew w3.heap.size = _ from a11) (by simp)
      have R5 := (R3.keep c35).c3
      have h6 : hp (put w5 w3.heap.size (hnC (h.1, h.2.1, newV x.chunks, 0, n)).toArray 38) w3.heap.size = _ := ar (av h5) _ _
      have c36 : Chg [] w3 (put w5 w3.heap.size (hnC (h.1, h.2.1, newV x.chunks, 0, n)).toArray 38) := c35.put (.inr (Nat.le_refl _)) _ _
      have R6 := (R3.keep c36).c3
      simp -implicitDefEqProofs only [zS, fa_86_2, fa_38_2, fa_38_3, ac, R5]
      rw [st2 _ _ h5]
      simp -implicitDefEqProofs only [zS, fa_86_2, fa_38_2, fa_38_3, ac, R6, st3 _ _ h6]
      exact tl _ (c36.put (.inr (Nat.le_refl _)) _ _) (ar (av h6) _ _)
  | false =>
    rw [hfit] at tail
    have ew : wantV m.c.2.2.1 (roundV x.cls n) n x h r.2.1.2.2.1 = (h.1, h.2.1, r.2.1.2.2.1, 0, n) := by rw [wantV, hfit]; rfl
    rw [hfit, ew] at gv
    simp only [true_and] at gv
    have hbe : be Tryz.prog .eql 40 (.tmp 51) (.tmp 52) (.agg (rsC r).toArray) (.agg #[.int .i64 6, .int .i64 0, .int .i64 0, .int .i64 0, .int .i64 0, .int .i64 0, .int .i64 0, .int .u64 0]) = some (.bool (decide (r = codeR 6))) := be_rs r (codeR 6)
    simp -implicitDefEqProofs only [zS, ld_res f74, bd_40_0, hbe]
    by_cases r6 : r = codeR 6
    · rw [if_pos r6] at gv
      simp -implicitDefEqProofs only [decide_eq_true r6, zS]
      rw [gv]
      exact ⟨by first | rfl | trivial, F, I.keep c04, UpdP.of0 c04⟩
    rw [if_neg r6] at gv
    have cd : Chg [] w4 w4.drew := (Chg.refl _ _).drew
    have e2 : (hnC (h.1, h.2.1, r.2.1.2.2.1, 0, n)).toArray[0 + 2]? = some (.int .i64 r.2.1.2.2.1) := rfl
    by_cases n0 : r.2.1.2.2.1 < 0
    · rw [if_pos (.inl n0)] at gv
      simp -implicitDefEqProofs only [decide_eq_false r6, zS, fa_38_2, ac, a11, e2, n0]
      rw [gv]
      exact ⟨by first | rfl | trivial, F, I.keep (c04.trans cd), UpdP.of0 (c04.trans cd)⟩
    by_cases n1 : m.c.2.1 ≤ r.2.1.2.2.1
    · rw [if_pos (.inr (.inl n1))] at gv
      simp -implicitDefEqProofs only [decide_eq_false r6, zS, fa_38_2, ac, a11, e2, n0, fa_61_0, fa_23_1, hw1 _ c04, aD, n1, ge_iff_le]
      rw [gv]
      exact ⟨by first | rfl | trivial, F, I.keep (c04.trans cd), UpdP.of0 (c04.trans cd)⟩
    simp -implicitDefEqProofs only [decide_eq_false r6, zS, fa_38_2, ac, a11, e2, n0, fa_61_0, fa_23_1, hw1 _ c04, aD, n1, ge_iff_le]
    refine (c_mTaken (M.keep (c04.trans cd)) Wm (by omega) r.2.1.2.2.1).mono ?_
    rintro _ w5 ⟨rfl, c5⟩
    have c35 := c34.trans (cd.trans c5)
    have h5 := c5.at (show hp w4.drew w3.heap.size = _ from a11) (by simp)
    cases ht : takenV m r.2.1.2.2.1 with
    | true =>
      rw [if_pos (.inr (.inr ht))] at gv
      simp -implicitDefEqProofs only [zS]
      rw [gv]
      exact ⟨by first | rfl | trivial, F, I.keep (c03.trans c35), UpdP.of0 (c03.trans c35)⟩
    | false =>
      rw [if_neg (by rintro (h1 | h1 | h1); exact n0 h1; exact n1 h1; rw [ht] at h1; cases h1)] at gv
      simp -implicitDefEqProofs only [zS]
      have t := tail _ w5 c35 h5
      rw [gv]
      by_cases hr : r = (0, (h.1, h.2.1, r.2.1.2.2.1, 0, n), 0, 0)
      · rw [if_pos hr, if_pos hr] at t; rw [if_pos hr]; exact t
      · rw [if_neg hr, if_neg hr] at t; rw [if_neg hr]; exact t
set_option maxHeartbeats 1000000 in
theorem c_mDo (I : MdI w g m F) (Wm : Wf m K) (hK : K + 1 ≤ 1000000) (n : Int) (o : OpV) (h : HnV) (r : RsV) :
    CallR Tryz.prog 32 [.pointer (some ⟨g, 0, none⟩), .int .i64 n, .agg (opC o).toArray, .agg (hnC h).toArray, .agg (rsC r).toArray] w fun v w' => v = .bool (doV m n o h r).1 ∧ ∃ F', MdI w' g (doV m n o h r).2 F' ∧ UpdP F F' w w' := by
  apply F32_ok
  simp -implicitDefEqProofs only [F32, ak, au, ae]
  generalize hw : ((w.alloc (.cells (opC o).toArray 36)).alloc _).alloc _ = w1
  have c1 : Chg [] w w1 := by rw [← hw]; exact (((Chg.refl _ _).alloc _).alloc _).alloc _
  have a7 : hp w1 w.heap.size = some (.cells (opC o).toArray 36) := by rw [← hw, aa, ae, ae, if_neg (by omega), aa, ae, if_neg (by omega), aa, if_pos rfl]
  have a8 : hp w1 (w.heap.size + 1) = some (.cells (hnC h).toArray 38) := by rw [← hw, aa, ae, ae, if_neg (by omega), aa, ae, if_pos rfl]
  have a9 : hp w1 (w.heap.size + 1 + 1) = some (.cells (rsC r).toArray 40) := by rw [← hw, aa, ae, ae, if_pos rfl]
  clear hw
  have ldo : ∀ w', hp w' w.heap.size = some (.cells (opC o).toArray 36) → ldv Tryz.prog 36 (.pointer (some ⟨w.heap.size, 0, none⟩)) w' = some (.agg (opC o).toArray) := fun w' hw => aJ (t := 36) (c := (opC o).toArray) ag_36 (show (Tryz.prog.info? 36).map (·.size) = some (opC o).toArray.size from sz_36) hw
  obtain ⟨_, _, _, M⟩ := I.rd
  simp -implicitDefEqProofs only [ab, ldo _ a7]
  refine (c_mMay (M.keep c1) n o).mono ?_
  rintro _ w2 ⟨rfl, c2⟩
  have c02 := c1.trans c2
  have b7 := c2.at a7 (by simp)
  have b8 := c2.at a8 (by simp)
  cases hm : mayV m n o with
  | false =>
    simp -implicitDefEqProofs only [zS]
    have e : doV m n o h r = (false, m) := by rw [doV, if_pos hm]
    rw [e]
    exact ⟨by first | rfl | trivial, F, I.keep c02, UpdP.of0 c02⟩
  | true =>
    obtain ⟨d, hd⟩ := may_hd hm
    simp -implicitDefEqProofs only [zS, ldo _ b7, ld_hn b8]
    refine (c_mMust (I.keep c02) Wm (by omega) n o h).mono ?_
    rintro _ w3 ⟨rfl, c3⟩
    have c13 := c2.trans c3
    have c03 := c1.trans c13
    simp -implicitDefEqProofs only [tup0, tup1, zS, al_40]
    rw [st_res (c := (rsC noR).toArray) (e := 40) (by rw [aa, if_pos rfl]; rfl) rfl]
    generalize hw4 : put (w3.alloc _) w3.heap.size _ _ = w4
    have c4 : Chg [] w3 w4 := by rw [← hw4]; exact ((Chg.refl _ _).alloc _).put (.inr (Nat.le_refl _)) _ _
    have a11 : hp w4 w3.heap.size = some (.cells (rsC (mustV m n o h).1).toArray 40) := by rw [← hw4]; exact ar (by simp) _ _
    clear hw4
    have c14 := c13.trans c4
    have c04 := c1.trans c14
    have d7 := c14.at a7 (by simp)
    have d8 := c14.at a8 (by simp)
    have d9 := c14.at a9 (by simp)
    have hbe : be Tryz.prog .neq 40 (.tmp 27) (.tmp 28) (.agg (rsC r).toArray) (.agg (rsC (mustV m n o h).1).toArray) = some (.bool (!decide (r = (mustV m n o h).1))) := be_nrs r _
    cases hi : (mustV m n o h).2 with
    | true =>
      simp -implicitDefEqProofs only [zS, ld_res d9, ld_res a11, hbe]
      have ed : doV m n o h r = if r = (mustV m n o h).1 then (true, if r.1 = 0 then doesV m n o h else m) else (false, m) := by rw [doV, if_neg (by rw [hm]; simp), if_pos hi]
      by_cases hr : r = (mustV m n o h).1
      · rw [if_pos hr] at ed
        simp -implicitDefEqProofs only [decide_eq_true hr, zS, fa_40_0, ld_27, d9, rs_0]
        by_cases h0 : r.1 = 0
        · rw [if_pos h0] at ed
          have e0 : (r.1 == 0) = true := by rw [h0]; rfl
          have hrf := must_fine hm hd (by rw [← hr]; exact h0)
          simp -implicitDefEqProofs only [e0, zS, ldo _ d7, ld_hn d8]
          refine (c_mDoes (I.keep c04) Wm (by omega) hm hd hrf).mono ?_
          rintro _ w5 ⟨rfl, F5, i5, u5⟩
          apply L32_0_ok
          rw [ed]
          exact ⟨rfl, F5, i5, u5.pre c04⟩
        · rw [if_neg h0] at ed
          simp -implicitDefEqProofs only [eqf h0, zS]
          apply L32_0_ok
          rw [ed]
          exact ⟨rfl, F, I.keep c04, UpdP.of0 c04⟩
      · rw [if_neg hr] at ed
        simp -implicitDefEqProofs only [decide_eq_false hr, zS]
        rw [ed]
        exact ⟨by first | rfl | trivial, F, I.keep c04, UpdP.of0 c04⟩
    | false =>
      obtain ⟨hrf, hk⟩ := must_open hm hd hi
      have ed : doV m n o h r = if o.1 = 1 then createsV m o.2.2.2.1 r else givesV m o.2.2.2.1 h r := by rw [doV, if_neg (by rw [hm]; simp), if_neg (by rw [hi]; simp)]
      by_cases k1 : o.1 = 1
      · rw [if_pos k1] at ed
        have q : (o.1 == 1) = true := by rw [k1]; rfl
        simp -implicitDefEqProofs only [zS, aj, aY, ac, d7, az, op_3, q, ld_res d9]
        refine (c_mCreates (I.keep c04) Wm hK o.2.2.2.1 r).mono ?_
        rintro _ w5 ⟨rfl, F5, i5, u5⟩
        rw [ed]
        exact ⟨rfl, F5, i5, u5.pre c04⟩
      · rw [if_neg k1] at ed
        obtain ⟨i, x, hf, _, _, _⟩ := region_ok hrf (by omega)
        simp -implicitDefEqProofs only [zS, aj, aY, ac, d7, az, op_3, eqf k1, ld_res d9, ld_hn d8]
        refine (c_mGives (I.keep c04) Wm hK o.2.2.2.1 h r hf).mono ?_
        rintro _ w5 ⟨rfl, F5, i5, u5⟩
        rw [ed]
        exact ⟨rfl, F5, i5, u5.pre c04⟩
end
end Go.Proofs.YteapggpkgfiacaaGreat

namespace Go.Proofs.YteapggpkgfiacaaGreat
open Go Ev Go.RowKit

section
variable {w : World} {g : Nat} {m : MdV} {F : Fp} {K : Nat}
theorem c_layWithin (n a b : Int) (w : World) : CallR Tryz.prog 22 [.int .i64 n, .int .i64 a, .int .i64 b] w fun v w' => v = .bool (decide (a ≤ n ∧ n ≤ b)) ∧ w' = w := by
  apply F22_ok
  by_cases h1 : a ≤ n
  · simp -implicitDefEqProofs only [F22, zS, aD, bp_leq, h1, ge_iff_le, true_and, and_self]
  · simp -implicitDefEqProofs only [F22, zS, aD, bp_leq, h1, ge_iff_le, false_and, and_self]
def mayC (c : CfV) : Bool := decide (1 ≤ c.1 ∧ c.1 ≤ 64) && (decide (1 ≤ c.2.1 ∧ c.2.1 ≤ 4096) && (decide (8 ≤ c.2.2.1 ∧ c.2.2.1 ≤ 1024) && (decide (c.2.2.1 % 8 = 0) && (decide (1 ≤ c.2.2.2.1 ∧ c.2.2.2.1 ≤ 4096) && (decide (0 ≤ c.2.2.2.2.1 ∧ c.2.2.2.2.1 ≤ 64) && decide (1 ≤ c.2.2.2.2.2 ∧ c.2.2.2.2.2 ≤ 8))))))
theorem cf_0 (c : CfV) : (cfC c).toArray[0 + 0]? = some (.int .i64 c.1) := rfl
theorem cf_1 (c : CfV) : (cfC c).toArray[0 + 1]? = some (.int .i64 c.2.1) := rfl
theorem cf_2 (c : CfV) : (cfC c).toArray[0 + 2]? = some (.int .i64 c.2.2.1) := rfl
theorem cf_3 (c : CfV) : (cfC c).toArray[0 + 3]? = some (.int .i64 c.2.2.2.1) := rfl
theorem cf_4 (c : CfV) : (cfC c).toArray[0 + 4]? = some (.int .i64 c.2.2.2.2.1) := rfl
theorem cf_5 (c : CfV) : (cfC c).toArray[0 + 5]? = some (.int .i64 c.2.2.2.2.2) := rfl
theorem ld_cf {c : CfV} {g : Nat} {e : TypeId} (hb : hp w g = some (.cells (cfC c).toArray e)) : ldv Tryz.prog 23 (.pointer (some ⟨g, 0, none⟩)) w = some (.agg (cfC c).toArray) := aJ (t := 23) (c := (cfC c).toArray) ag_23 (show (Tryz.prog.info? 23).map (·.size) = some (cfC c).toArray.size from sz_23) hb
set_option maxHeartbeats 1000000 in
theorem c_layMay (c : CfV) (w : World) : CallR Tryz.prog 10 [.agg (cfC c).toArray] w fun v w' => v = .bool (mayC c) ∧ Chg [] w w' := by
  apply F10_ok
  have b1 : hp (w.alloc (.cells (cfC c).toArray 23)) w.heap.size = some (.cells (cfC c).toArray 23) := by rw [aa, if_pos rfl]
  have c0 : Chg [] w (w.alloc (.cells (cfC c).toArray 23)) := (Chg.refl _ _).alloc _
  simp -implicitDefEqProofs only [F10, ak, au]
  generalize w.alloc (.cells (cfC c).toArray 23) = w0 at *
  simp -implicitDefEqProofs only [zS, fa_23_0, ac, b1, cf_0]
  refine (c_layWithin _ _ _ w0).step ?_
  by_cases h1 : 1 ≤ c.1 ∧ c.1 ≤ 64
  · simp -implicitDefEqProofs only [decide_eq_true h1, zS, fa_23_1, ac, b1, cf_1]
    refine (c_layWithin _ _ _ w0).step ?_
    by_cases h2 : 1 ≤ c.2.1 ∧ c.2.1 ≤ 4096
    · simp -implicitDefEqProofs only [decide_eq_true h2, zS, fa_23_2, ac, b1, cf_2]
      refine (c_layWithin _ _ _ w0).step ?_
      by_cases h3 : 8 ≤ c.2.2.1 ∧ c.2.2.1 ≤ 1024
      · have hm : c.2.2.1.tmod 8 = c.2.2.1 % 8 := Int.tmod_eq_emod_of_nonneg (by omega)
        by_cases h4 : c.2.2.1 % 8 = 0
        · have e4 : (c.2.2.1 % 8 == 0) = true := by rw [h4]; rfl
          simp -implicitDefEqProofs only [decide_eq_true h3, zS, fa_23_2, fa_23_3, ac, b1, cf_2, cf_3, bp_rem (show (8 : Int) ≠ 0 by decide), hm, e4]
          refine (c_layWithin _ _ _ w0).step ?_
          by_cases h5 : 1 ≤ c.2.2.2.1 ∧ c.2.2.2.1 ≤ 4096
          · simp -implicitDefEqProofs only [decide_eq_true h5, zS, fa_23_4, ac, b1, cf_4]
            refine (c_layWithin _ _ _ w0).step ?_
            by_cases h6 : 0 ≤ c.2.2.2.2.1 ∧ c.2.2.2.2.1 ≤ 64
            · simp -implicitDefEqProofs only [decide_eq_true h6, zS, fa_23_5, ac, b1, cf_5]
              refine (c_layWithin _ _ _ w0).step ?_
              by_cases h7 : 1 ≤ c.2.2.2.2.2 ∧ c.2.2.2.2.2 ≤ 8
              · simp -implicitDefEqProofs only [decide_eq_true h7, zS]
                exact ⟨by simp [mayC, h1, h2, h3, h4, h5, h6, h7], c0⟩
              · simp -implicitDefEqProofs only [decide_eq_false h7, zS]
                exact ⟨by rw [mayC, decide_eq_false h7]; simp, c0⟩
            · simp -implicitDefEqProofs only [decide_eq_false h6, zS]
              exact ⟨by rw [mayC, decide_eq_false h6]; simp, c0⟩
          · simp -implicitDefEqProofs only [decide_eq_false h5, zS]
            exact ⟨by rw [mayC, decide_eq_false h5]; simp, c0⟩
        · simp -implicitDefEqProofs only [decide_eq_true h3, zS, fa_23_2, ac, b1, cf_2, bp_rem (show (8 : Int) ≠ 0 by decide), hm, eqf h4]
          exact ⟨by rw [mayC, decide_eq_false h4]; simp, c0⟩
      · simp -implicitDefEqProofs only [decide_eq_false h3, zS]
        exact ⟨by rw [mayC, decide_eq_false h3]; simp, c0⟩
    · simp -implicitDefEqProofs only [decide_eq_false h2, zS]
      exact ⟨by rw [mayC, decide_eq_false h2]; simp, c0⟩
  · simp -implicitDefEqProofs only [decide_eq_false h1, zS]
    exact ⟨by rw [mayC, decide_eq_false h1]; simp, c0⟩
def newM (c : CfV) (loose : Bool) : MdV := ⟨c, loose, List.replicate c.2.2.2.1.toNat (0, 0), [], List.replicate c.1.toNat ⟨0, []⟩⟩
theorem may_cf {c : CfV} (h : mayC c = true) : (1 ≤ c.1 ∧ c.1 ≤ 64) ∧ (1 ≤ c.2.1 ∧ c.2.1 ≤ 4096) ∧ (8 ≤ c.2.2.1 ∧ c.2.2.1 ≤ 1024) ∧ (1 ≤ c.2.2.2.1 ∧ c.2.2.2.1 ≤ 4096) := by
  simp only [mayC, Bool.and_eq_true, decide_eq_true_eq] at h
  exact ⟨h.1, h.2.1, h.2.2.1, h.2.2.2.2.1⟩
theorem wf_new {c : CfV} (h : mayC c = true) (l : Bool) : Wf (newM c l) 0 := by
  obtain ⟨h1, h2, h3, h4⟩ := may_cf h
  refine ⟨by show 1 ≤ c.2.2.1; omega, h3.2, by simp only [newM, List.length_replicate]; omega, fun p hp => ?_, fun d hd => ?_, Nat.le_refl _, fun r hr => by cases hr⟩
  · rw [List.eq_of_mem_replicate hp]; exact ⟨Int.le_refl _, by decide⟩
  · rw [List.eq_of_mem_replicate hd]; exact ⟨Int.le_refl _, by decide, Nat.zero_le _⟩
theorem made_flat {zs : List Value} {z : Nat} (hz : zs.length = z) (h0 : 0 < z) (n : Nat) : madeCells zs.toArray (n * z) = ((List.replicate n ()).flatMap fun _ => zs).toArray := by
  apply Array.ext_getElem?
  intro k
  rcases Nat.lt_or_ge k (n * z) with hk | hk
  · have hq : k / z < n := by rw [Nat.div_lt_iff_lt_mul h0]; exact hk
    have hm := Nat.mod_lt k h0
    have hkk : k = k / z * z + k % z := by rw [Nat.mul_comm]; exact (Nat.div_add_mod k z).symm
    have e := aN (f := fun _ : Unit => zs) (fun _ => hz) (List.replicate n ()) (k / z) () (by simp [hq]) (k % z) hm
    rw [← hkk] at e
    have e1 : (((List.replicate n ()).flatMap fun _ => zs).toArray)[k]? = zs[k % z]? := by rw [List.getElem?_toArray, e]
    rw [e1, List.getElem?_eq_getElem (by omega)]
    simp only [madeCells, Array.getElem?_map, Array.getElem?_range, hk, if_true, Option.map_some, List.size_toArray, hz]
    rw [getElem!_pos _ _ (by simp [hz]; exact hm)]
    simp
  · have e1 : ((List.replicate n ()).flatMap fun _ => zs).length = n * z := by rw [flatM_len (z := z) (fun _ => hz)]; simp
    rw [Array.getElem?_eq_none (by simp [madeCells]; omega), Array.getElem?_eq_none (by rw [List.size_toArray, e1]; exact hk)]
theorem row_new {e : TypeId} (n : Nat) (hn : n ≤ maxLen) (a b : Value) : (w.alloc (.cells ((List.replicate n ()).flatMap fun _ => [a, b]).toArray e)).ownsRow 0 e 2 (.slice (some ⟨w.heap.size, 0, none⟩) n n) n ((List.replicate n ()).flatMap fun _ => [a, b]) := by
  have hl : ((List.replicate n ()).flatMap fun _ => [a, b]).length = n * 2 := by rw [flatM_len (z := 2) (fun _ => rfl)]; simp
  exact ⟨hl, .inr ⟨w.heap.size, n, _, rfl, Nat.zero_le _, heap_alloc_new w _, Nat.le_refl _, hn, by rw [List.size_toArray]; exact hl, by simp [List.take_of_length_le (show ((List.replicate n ()).flatMap fun _ => [a, b]).length ≤ n * 2 by rw [hl]; exact Nat.le_refl _)]⟩⟩
theorem own_of_row {n : Nat} : (fun b => (Value.slice (some ⟨w.heap.size, 0, none⟩) n n).ownBlock = some b) = (fun b => b = w.heap.size) := by
  funext b
  simp [Value.ownBlock, eq_comm]
theorem slots_new (n : Nat) (hn : n ≤ maxLen) : slotsT (List.replicate n (0, 0)) (w.alloc (.cells ((List.replicate n ()).flatMap fun _ => [Value.int .i64 0, Value.int .i64 0]).toArray 92)) (fun b => b = w.heap.size) (.slice (some ⟨w.heap.size, 0, none⟩) n n) := by
  have h2 := own_flat (row_new (w := w) (e := 92) n hn (.int .i64 0) (.int .i64 0))
  rw [own_of_row] at h2
  have e : (List.replicate n ((0 : Int), (0 : Int))).flatMap nmC = (List.replicate n ()).flatMap fun _ => [Value.int .i64 0, Value.int .i64 0] := by
    induction n with
    | zero => rfl
    | succ n ih => rw [List.replicate_succ, List.replicate_succ, List.flatMap_cons, List.flatMap_cons, ih (by omega) (own_of_row ▸ own_flat (row_new n (by omega) _ _))]; rfl
  rw [slotsT, List.length_replicate, e]
  exact h2
theorem hands_new (n : Nat) (hn : n ≤ maxLen) : handsT (List.replicate n ⟨0, []⟩) (w.alloc (.cells ((List.replicate n ()).flatMap fun _ => [Value.int .i64 0, Value.slice none 0 0]).toArray 96)) (fun b => b = w.heap.size) (.slice (some ⟨w.heap.size, 0, none⟩) n n) := by
  have h := row_new (w := w) (e := 96) n hn (.int .i64 0) (.slice none 0 0)
  refine ⟨_, fun _ => none', by rw [List.length_replicate]; exact h, ⟨?_, fun k P v hP hv => ?_, fun _ _ _ _ _ b hb _ => hb⟩, fun b ⟨_, _, hb⟩ => hb.elim, fun b => ⟨fun hb => .inl (by rw [hb]; rfl), fun hb => ?_⟩⟩
  · rw [flatM_len (z := 2) hdT_len, flatM_len (z := 2) (fun _ => rfl)]; simp
  · have hk := (List.getElem?_eq_some_iff.1 hP).1
    rw [flatM_len (z := 2) hdT_len, List.length_replicate] at hk
    have hq : k / 2 < n := by omega
    have hkk : k = k / 2 * 2 + k % 2 := by omega
    rw [hkk] at hP hv
    rw [aN hdT_len _ (k / 2) ⟨0, []⟩ (by simp [hq]) (k % 2) (by omega)] at hP
    rw [aN (z := 2) (f := fun _ : Unit => [Value.int .i64 0, Value.slice none 0 0]) (fun _ => rfl) _ (k / 2) () (by simp [hq]) (k % 2) (by omega)] at hv
    have h2 : k % 2 = 0 ∨ k % 2 = 1 := by omega
    rcases h2 with h2 | h2 <;> rw [h2] at hP hv <;> cases hP <;> cases hv
    · exact ⟨rfl, fun _ h => h⟩
    · exact isRow.nil
  · rcases hb with hb | ⟨_, _, hb⟩
    · simp [Value.ownBlock] at hb; exact hb.symm
    · exact hb.elim
theorem model_parts {c : CfV} {S R H : List Value} {m : MdV} {sv rv hv : Value} {Fs Fr Fh : Fp} (hm : m.c = c) (hs : slotsT m.slots w Fs sv) (hr : rgsT m.rgs w Fr rv) (hh : handsT m.hands w Fh hv) (d1 : FDis Fs Fr) (d2 : FDis Fs Fh) (d3 : FDis Fr Fh) :
    Parts w (mdT m) (cfC c ++ [.bool m.loose, sv, rv, hv]) (fun k => if k = 7 then Fs else if k = 8 then Fr else if k = 9 then Fh else none') := by
  subst hm
  refine ⟨rfl, fun k P v hP hv' => ?_, fun j k hj hk hjk b h1 h2 => ?_⟩
  · have hk := (List.getElem?_eq_some_iff.1 hP).1
    have hk' : (mdT m).length = 10 := rfl
    rw [hk'] at hk
    have h10 : k = 0 ∨ k = 1 ∨ k = 2 ∨ k = 3 ∨ k = 4 ∨ k = 5 ∨ k = 6 ∨ k = 7 ∨ k = 8 ∨ k = 9 := by omega
    rcases h10 with rfl | rfl | rfl | rfl | rfl | rfl | rfl | rfl | rfl | rfl <;> cases hP <;> cases hv'
    · exact ⟨rfl, fun _ h => h⟩
    · exact ⟨rfl, fun _ h => h⟩
    · exact ⟨rfl, fun _ h => h⟩
    · exact ⟨rfl, fun _ h => h⟩
    · exact ⟨rfl, fun _ h => h⟩
    · exact ⟨rfl, fun _ h => h⟩
    · exact ⟨rfl, fun _ h => h⟩
    · exact hs
    · exact hr
    · exact hh
  · have e : ∀ k, (if k = 7 then Fs else if k = 8 then Fr else if k = 9 then Fh else none') b → (k = 7 ∧ Fs b) ∨ (k = 8 ∧ Fr b) ∨ (k = 9 ∧ Fh b) := by
      intro k h
      split at h
      · exact .inl ⟨by assumption, h⟩
      split at h
      · exact .inr (.inl ⟨by assumption, h⟩)
      split at h
      · exact .inr (.inr ⟨by assumption, h⟩)
      · exact h.elim
    rcases e j h1 with ⟨a1, a2⟩ | ⟨a1, a2⟩ | ⟨a1, a2⟩ <;> rcases e k h2 with ⟨b1, b2⟩ | ⟨b1, b2⟩ | ⟨b1, b2⟩
    · omega
    · exact d1 b a2 b2
    · exact d2 b a2 b2
    · exact d1 b b2 a2
    · omega
    · exact d3 b a2 b2
    · exact d2 b b2 a2
    · exact d3 b b2 a2
    · omega
end
end Go.Proofs.YteapggpkgfiacaaGreat

namespace Go.Proofs.YteapggpkgfiacaaGreat
open Go Ev Go.RowKit

section
variable {w : World} {g : Nat} {m : MdV} {F : Fp} {K : Nat}
def Made (w : World) (c : CfV) (m : MdV) (v : Value) (w' : World) : Prop := Chg [] w w' ∧ ((mayC c = false ∧ v = .tuple #[.pointer none, .int .i64 1]) ∨ (mayC c = true ∧ ∃ g F, v = .tuple #[.pointer (some ⟨g, 0, none⟩), .int .i64 0] ∧ MdI w' g m F ∧ ∀ k, F k → w.heap.size ≤ k))
set_option maxHeartbeats 1000000 in
theorem c_mNew (c : CfV) (w : World) : CallR Tryz.prog 27 [.agg (cfC c).toArray] w fun v w' => Made w c (newM c false) v w' := by
  apply F27_ok
  have b1 : hp (w.alloc (.cells (cfC c).toArray 23)) w.heap.size = some (.cells (cfC c).toArray 23) := by rw [aa, if_pos rfl]
  have c0 : Chg [] w (w.alloc (.cells (cfC c).toArray 23)) := (Chg.refl _ _).alloc _
  simp -implicitDefEqProofs only [F27, ak, au]
  generalize w.alloc (.cells (cfC c).toArray 23) = w0 at *
  simp -implicitDefEqProofs only [ld_cf b1, ab]
  refine (c_layMay c w0).mono ?_
  rintro _ w1 ⟨rfl, k1⟩
  have c1 := c0.trans k1
  have b2 := k1.at b1 (by simp)
  cases hm : mayC c with
  | false =>
    simp -implicitDefEqProofs only [zS]
    exact ⟨c1, .inl ⟨hm, by first | rfl | trivial⟩⟩
  | true =>
    obtain ⟨h1, h2, h3, h4⟩ := may_cf hm
    have b2d : hp w1.drew w.heap.size = some (.cells (cfC c).toArray 23) := b2
    have cd := c1.drew
    obtain ⟨is, his, hzs, hss, hbs⟩ := inf_92
    obtain ⟨ih, hih, hzh, hsh, hbh⟩ := inf_96
    have e3 : (cfC c).toArray[0 + 3]? = some (.int .i64 ((c.2.2.2.1.toNat : Nat) : Int)) := by rw [cf_3]; congr; omega
    have e0 : (cfC c).toArray[0 + 0]? = some (.int .i64 ((c.1.toNat : Nat) : Int)) := by rw [cf_0]; congr; omega
    have nm : newM c false = ⟨c, false, List.replicate c.2.2.2.1.toNat (0, 0), [], List.replicate c.1.toNat ⟨0, []⟩⟩ := rfl
    have l1 : c.2.2.2.1.toNat ≤ 4096 := by omega
    have l2 : c.1.toNat ≤ 64 := by omega
    generalize c.2.2.2.1.toNat = ns at *
    generalize c.1.toNat = nh at *
    have mks : madeCells (Value.agg #[.int .i64 0, .int .i64 0]).cells (ns * is.size) = ((List.replicate ns ()).flatMap fun _ => [Value.int .i64 0, Value.int .i64 0]).toArray := by rw [hss]; exact made_flat (zs := [Value.int .i64 0, Value.int .i64 0]) rfl (by decide) ns
    have mkh : madeCells (Value.agg #[.int .i64 0, .slice none 0 0]).cells (nh * ih.size) = ((List.replicate nh ()).flatMap fun _ => [Value.int .i64 0, Value.slice none 0 0]).toArray := by rw [hsh]; exact made_flat (zs := [Value.int .i64 0, Value.slice none 0 0]) rfl (by decide) nh
    have fin : ∀ (w2 : World) (Fs Fh : Fp) (sb hb : Nat), Chg [] w w2 → slotsT (List.replicate ns (0, 0)) w2 Fs (.slice (some ⟨sb, 0, none⟩) ns ns) → handsT (List.replicate nh ⟨0, []⟩) w2 Fh (.slice (some ⟨hb, 0, none⟩) nh nh) → FDis Fs Fh → (∀ k, Fs k → w.heap.size ≤ k) → (∀ k, Fh k → w.heap.size ≤ k) →
        Made w c (newM c false) (.tuple #[.pointer (some ⟨w2.heap.size, 0, none⟩), .int .i64 0]) (w2.alloc (.cells (cfC c ++ [Value.bool false, Value.slice (some ⟨sb, 0, none⟩) ns ns, Value.slice none 0 0, Value.slice (some ⟨hb, 0, none⟩) nh nh]).toArray 61)) := by
      intro w2 Fs Fh sb hb c2 hs hh hd ns' nh'
      have hp' := model_parts (S := []) (R := []) (H := []) (m := newM c false) (c := c) (rv := .slice none 0 0) (Fr := none') rfl (by rw [nm]; exact hs) (by rw [nm]; exact isRow.nil) (by rw [nm]; exact hh) (fun _ _ h => h) hd (fun _ h _ => h)
      refine ⟨c2.alloc _, .inr ⟨hm, w2.heap.size, _, rfl, isAt.new hp' (good_md _), fun k hk => ?_⟩⟩
      rcases hk with hk | ⟨j, _, hk⟩
      · rw [hk]; exact c2.size
      · split at hk
        · exact ns' k hk
        split at hk
        · exact hk.elim
        split at hk
        · exact nh' k hk
        · exact hk.elim
    have len2 : maxLen = maxLen := rfl
    have hml : ns ≤ maxLen ∧ nh ≤ maxLen := by unfold maxLen; omega
    simp -implicitDefEqProofs only [zS, fa_23_3, fa_23_0, ac, ld_cf b2d, b2, e3, e0, effv_make (P := Tryz.prog) (kl := .i64) (kc := .i64) (n := ns) Tryz.underlying57 his hzs (by rw [hss]; omega) (by rw [hbs]; omega) (by omega), effv_make (P := Tryz.prog) (kl := .i64) (kc := .i64) (n := nh) Tryz.underlying59 hih hzh (by rw [hsh]; omega) (by rw [hbh]; omega) (by omega), mks, mkh]
    have hbd : ∀ a b, pureRun Tryz.prog (Instr.build 61 #[(0, .agg (cfC c).toArray), (2, .slice (some ⟨a, 0, none⟩) ns ns), (4, .slice (some ⟨b, 0, none⟩) nh nh)]) = some (.agg (cfC c ++ [Value.bool false, Value.slice (some ⟨a, 0, none⟩) ns ns, Value.slice none 0 0, Value.slice (some ⟨b, 0, none⟩) nh nh]).toArray) := fun a b => bd_61_0_2_4
    simp -implicitDefEqProofs only [hbd, ab, ak, au]
    have sz : w.heap.size ≤ w1.drew.heap.size := cd.size
    constructor
    · have s1 := slots_new (w := w1.drew) ns hml.1
      generalize hwA : w1.drew.alloc (.cells ((List.replicate ns ()).flatMap fun _ => [Value.int .i64 0, Value.int .i64 0]).toArray 92) = wA at *
      have cA : Chg [] w1.drew wA := by rw [← hwA]; exact (Chg.refl _ _).alloc _
      have sA : wA.heap.size = w1.drew.heap.size + 1 := by rw [← hwA, ae]
      have h1 := hands_new (w := wA) nh hml.2
      have cB : Chg [] wA (wA.alloc (.cells ((List.replicate nh ()).flatMap fun _ => [Value.int .i64 0, Value.slice none 0 0]).toArray 96)) := (Chg.refl _ _).alloc _
      exact fin _ _ _ _ _ ((cd.trans cA).trans cB) ((good_slots _).frame s1 (ChgP.of0 cB none') fun _ _ h => h) h1 (fun k h1 h2 => by omega) (fun k hk => by omega) (fun k hk => by omega)
    · have s1 := hands_new (w := w1.drew) nh hml.2
      generalize hwA : w1.drew.alloc (.cells ((List.replicate nh ()).flatMap fun _ => [Value.int .i64 0, Value.slice none 0 0]).toArray 96) = wA at *
      have cA : Chg [] w1.drew wA := by rw [← hwA]; exact (Chg.refl _ _).alloc _
      have sA : wA.heap.size = w1.drew.heap.size + 1 := by rw [← hwA, ae]
      have h1 := slots_new (w := wA) ns hml.1
      have cB : Chg [] wA (wA.alloc (.cells ((List.replicate ns ()).flatMap fun _ => [Value.int .i64 0, Value.int .i64 0]).toArray 92)) := (Chg.refl _ _).alloc _
      exact fin _ _ _ _ _ ((cd.trans cA).trans cB) h1 ((good_hands _).frame s1 (ChgP.of0 cB none') fun _ _ h => h) (fun k h1 h2 => by omega) (fun k hk => by omega) (fun k hk => by omega)
set_option maxHeartbeats 1000000 in
theorem c_mLoose (c : CfV) (w : World) : CallR Tryz.prog 13 [.agg (cfC c).toArray] w fun v w' => Made w c (newM c true) v w' := by
  apply F13_ok
  have b1 : hp (w.alloc (.cells (cfC c).toArray 23)) w.heap.size = some (.cells (cfC c).toArray 23) := by rw [aa, if_pos rfl]
  have c0 : Chg [] w (w.alloc (.cells (cfC c).toArray 23)) := (Chg.refl _ _).alloc _
  have s0 : (w.alloc (.cells (cfC c).toArray 23)).heap.size = w.heap.size + 1 := ae _ _
  simp -implicitDefEqProofs only [F13, ak, au]
  generalize w.alloc (.cells (cfC c).toArray 23) = w0 at *
  simp -implicitDefEqProofs only [ld_cf b1, ab]
  refine (c_mNew c w0).mono ?_
  rintro v w1 ⟨k1, hv⟩
  have c1 := c0.trans k1
  rcases hv with ⟨hm, rfl⟩ | ⟨hm, g, F, rfl, I, hF⟩
  · have e : ((1 : Int) == 0) = false := rfl
    simp -implicitDefEqProofs only [tup0, tup1, zS, e]
    apply L13_0_ok
    exact ⟨c1, .inl ⟨hm, rfl⟩⟩
  · obtain ⟨v, Fk, hg, hng, hsub, hld, hv, _, hput⟩ := isAt.cell I (good_md _) (k := 6) (P := isV (.bool false)) rfl
    obtain ⟨ok, F1, h1, h2⟩ := hput w1 none' (isV (.bool true)) (.bool true) (UpdP.none hv.2 w1) (good_isV ⟨rfl, rfl⟩) ⟨rfl, fun _ h => h⟩
    have e : ((0 : Int) == 0) = true := rfl
    simp -implicitDefEqProofs only [tup0, tup1, zS, e, fa_61_1]
    rw [st_4 (o := 0 + 6) rfl rfl ok]
    apply L13_0_ok
    refine ⟨⟨h2.chg.os.trans c1.os, h2.chg.tape.trans c1.tape, h2.chg.output.trans c1.output, Nat.le_trans c1.size h2.chg.size, fun k hk _ => ?_⟩, .inr ⟨hm, g, F1, rfl, h1, fun k hk => ?_⟩⟩
    · rw [h2.chg.block k (Nat.lt_of_lt_of_le hk c1.size) fun h => by have := hF k h; omega]
      exact c1.block k hk (by simp)
    · have := c1.size
      rcases h2.sub k hk with h | h
      · have := hF k h; omega
      · omega
end
end Go.Proofs.YteapggpkgfiacaaGreat


namespace Go.Proofs.YteapggpkgfiacaaGreat.Ev
open Go Go.RowKit

theorem isAt.row {e : TypeId} {g : Nat} {Ps : List Th} {w : World} {F : Fp} (I : isAt e g Ps w F) (hg : ∀ P ∈ Ps, OwnT P) {k : Nat} {e' : TypeId} {z n : Nat} {Qs : List Th} (hk : Ps[k]? = some (isRow e' z n Qs)) (hq : ∀ Q ∈ Qs, OwnT Q) {j : Nat} {P : Th} (hj : Qs[j]? = some P) :
    ∃ (b c : Nat) (v : Value) (Fk : Fp), ldC (hp w g) k = some (.slice (some ⟨b, 0, none⟩) n c) ∧ b ≠ g ∧ F b ∧ (∀ x, Fk x → F x) ∧ ¬ Fk b ∧ ¬ Fk g ∧ ldC (hp w b) j = some v ∧ P w Fk v ∧
      (∀ w1 F' P', UpdP Fk F' w w1 → P' w1 F' v → ∃ F1, isAt e g (Ps.set k (isRow e' z n (Qs.set j P'))) w1 F1 ∧ UpdP F F1 w w1) ∧
      (∀ w1 F' P' v', UpdP Fk F' w w1 → OwnT P' → P' w1 F' v' → okC (hp w1 b) (j + 1) = true ∧ v'.cells = #[v'] ∧ v'.oneCell' = true ∧ hp w1 g = hp w g ∧
        ∃ F1, isAt e g (Ps.set k (isRow e' z n (Qs.set j P'))) (put w1 b ((getC (hp w1 b)).setIfInBounds j v') (getE (hp w1 b))) F1 ∧ UpdP F F1 w (put w1 b ((getC (hp w1 b)).setIfInBounds j v') (getE (hp w1 b)))) := by
  obtain ⟨rv, Fr, hFg, hng, hsub, hld, hR, hres, _⟩ := isAt.cell I hg hk
  obtain ⟨b, c, v, Fk, hx, hFb, hnb, hsub2, hld2, hv, h3, h4⟩ := isRow.cell hR hq hj
  subst hx
  have hbg : b ≠ g := fun e => hng (by rw [← e]; exact hFb)
  have hkg : ¬ Fk g := fun h => hng (hsub2 g h)
  refine ⟨b, c, v, Fk, hld, hbg, hsub b hFb, fun x hx => hsub x (hsub2 x hx), hnb, hkg, hld2, hv, fun w1 F' P' u hp' => ?_, fun w1 F' P' v' u hg' hp' => ?_⟩
  · obtain ⟨F1, hrow, hupd⟩ := h3 w1 F' P' u hp'
    obtain ⟨F2, e1, e2⟩ := hres _ F1 _ hupd hrow
    exact ⟨F2, e1, e2⟩
  · obtain ⟨ok, F1, hrow, hupd⟩ := h4 w1 F' P' v' u hg' hp'
    obtain ⟨F2, e1, e2⟩ := hres _ F1 _ hupd hrow
    obtain ⟨o1, o2⟩ := hg'.one hp'
    refine ⟨ok, o1, o2, ?_, F2, e1, e2⟩
    exact u.chg.block g (by
      rcases Nat.lt_or_ge g w.heap.size with h | h
      · exact h
      · have h2 : hp w g = none := by simp [hp]; omega
        rw [h2] at hld; cases hld) hkg
theorem isAt.repl {e : TypeId} {g : Nat} {Ps : List Th} {w : World} {F : Fp} (I : isAt e g Ps w F) (hg : ∀ P ∈ Ps, OwnT P) {k : Nat} {P : Th} (hk : Ps[k]? = some P) :
    ∃ (v : Value) (Fk : Fp), (∀ x, Fk x → F x) ∧ ¬ Fk g ∧ ldC (hp w g) k = some v ∧ P w Fk v ∧
      ∀ w1 F' P' v', UpdP Fk F' w w1 → OwnT P' → P' w1 F' v' → okC (hp w1 g) (k + 1) = true ∧ v'.cells = #[v'] ∧ v'.oneCell' = true ∧ hp w1 g = hp w g ∧
        ∃ F1, isAt e g (Ps.set k P') (put w1 g ((getC (hp w1 g)).setIfInBounds k v') (getE (hp w1 g))) F1 ∧ UpdP F F1 w (put w1 g ((getC (hp w1 g)).setIfInBounds k v') (getE (hp w1 g))) := by
  obtain ⟨v, Fk, hFg, hng, hsub, hld, hv, _, hput⟩ := isAt.cell I hg hk
  refine ⟨v, Fk, hsub, hng, hld, hv, fun w1 F' P' v' u hg' hp' => ?_⟩
  obtain ⟨ok, F1, h1, h2⟩ := hput w1 F' P' v' u hg' hp'
  obtain ⟨o1, o2⟩ := hg'.one hp'
  refine ⟨ok, o1, o2, u.chg.block g (by
    rcases Nat.lt_or_ge g w.heap.size with h | h
    · exact h
    · have h2 : hp w g = none := by simp [hp]; omega
      rw [h2] at hld; cases hld) hng, F1, h1, h2⟩
end Go.Proofs.YteapggpkgfiacaaGreat.Ev

namespace Go.Proofs.YteapggpkgfiacaaGreat
open Go Ev Go.RowKit

structure RfV where
  c : CfV
  loose : Bool
  state : List Int
  gen : List Int
  rgs : List (RgV × Bool)
  depth : List Int
  holds : List (List NmV)
def keysT (L : List NmV) : Th := isRow 137 2 L.length ((L.flatMap nmC).map isV)
def rrT (p : RgV × Bool) : List Th := [iT p.1.nm.1, iT p.1.nm.2, iT p.1.cls, iT p.1.off, isV (.bool p.2), intsT p.1.chunks, wordsT p.1.words, objsT p.1.objs]
def rrsT (L : List (RgV × Bool)) : Th := isRow 126 8 L.length (L.flatMap rrT)
def holdsT (L : List (List NmV)) : Th := isRow 127 1 L.length (L.map keysT)
def rfT (x : RfV) : List Th := (cfC x.c).map isV ++ [isV (.bool x.loose), intsT x.state, intsT x.gen, rrsT x.rgs, intsT x.depth, holdsT x.holds]
def RfI (w : World) (g : Nat) (x : RfV) (F : Fp) : Prop := isAt 112 g (rfT x) w F
def toRf (m : MdV) : RfV := ⟨m.c, m.loose, m.slots.map (·.1), m.slots.map (·.2), m.rgs.map fun r => (r, isLv m r.nm), m.hands.map (·.depth), m.hands.map (·.holds)⟩
theorem good_keys (L : List NmV) : OwnT (keysT L) := aX (good_ints (nmC_int L))
theorem good_rr (p : RgV × Bool) : ∀ P ∈ rrT p, OwnT P := fun P hP => by
  simp only [rrT, List.mem_cons, List.not_mem_nil, or_false] at hP
  rcases hP with rfl | rfl | rfl | rfl | rfl | rfl | rfl | rfl
  · exact aV _ _
  · exact aV _ _
  · exact aV _ _
  · exact aV _ _
  · exact good_isV ⟨rfl, rfl⟩
  · exact aM _
  · exact good_words _
  · exact good_objs _
theorem good_rrL (L : List (RgV × Bool)) : ∀ P ∈ L.flatMap rrT, OwnT P := fun P hP => by
  obtain ⟨r, _, hr⟩ := List.mem_flatMap.1 hP; exact good_rr r P hr
theorem good_rrs (L : List (RgV × Bool)) : OwnT (rrsT L) := aX (good_rrL L)
theorem good_holdsL (L : List (List NmV)) : ∀ P ∈ L.map keysT, OwnT P := fun P hP => by
  obtain ⟨l, _, rfl⟩ := List.mem_map.1 hP; exact good_keys l
theorem good_holds (L : List (List NmV)) : OwnT (holdsT L) := aX (good_holdsL L)
theorem good_rf (x : RfV) : ∀ P ∈ rfT x, OwnT P := fun P hP => by
  rcases List.mem_append.1 hP with h | h
  · refine good_ints (fun u hu => ?_) P h
    simp only [cfC, List.mem_cons, List.not_mem_nil, or_false] at hu
    rcases hu with rfl | rfl | rfl | rfl | rfl | rfl <;> exact ⟨_, _, rfl⟩
  · simp only [List.mem_cons, List.not_mem_nil, or_false] at h
    rcases h with rfl | rfl | rfl | rfl | rfl | rfl
    · exact good_isV ⟨rfl, rfl⟩
    · exact aM _
    · exact aM _
    · exact good_rrs _
    · exact aM _
    · exact good_holds _
theorem rrT_len (p : RgV × Bool) : (rrT p).length = 8 := rfl
theorem RfI.keep {w w' : World} {g : Nat} {x : RfV} {F : Fp} (h : RfI w g x F) (hc : Chg [] w w') : RfI w' g x F := isAt.frame h (good_rf x) (ChgP.of0 hc none') fun _ _ h => h
structure RfR (w : World) (g : Nat) (x : RfV) (s gn r d h : Value) : Prop where
  c : ∀ k, k < 6 → ldC (hp w g) (0 + 0 + k) = (cfC x.c)[k]?
  l : ldC (hp w g) (0 + 6) = some (.bool x.loose)
  sl : ldC (hp w g) (0 + 7) = some s
  gl : ldC (hp w g) (0 + 8) = some gn
  rl : ldC (hp w g) (0 + 9) = some r
  dl : ldC (hp w g) (0 + 10) = some d
  hl : ldC (hp w g) (0 + 11) = some h
  sT : ∃ F, intsT x.state w F s
  gT : ∃ F, intsT x.gen w F gn
  rT : ∃ F, rrsT x.rgs w F r
  dT : ∃ F, intsT x.depth w F d
  hT : ∃ F, holdsT x.holds w F h
theorem RfI.rd {w : World} {g : Nat} {x : RfV} {F : Fp} (h : RfI w g x F) : ∃ s gn r d hh, RfR w g x s gn r d hh := by
  obtain ⟨sv, _, _, _, _, hs, hS, _⟩ := isAt.cell h (good_rf x) (k := 7) (P := intsT x.state) rfl
  obtain ⟨gv, _, _, _, _, hg, hG, _⟩ := isAt.cell h (good_rf x) (k := 8) (P := intsT x.gen) rfl
  obtain ⟨rv, _, _, _, _, hr, hR, _⟩ := isAt.cell h (good_rf x) (k := 9) (P := rrsT x.rgs) rfl
  obtain ⟨dv, _, _, _, _, hd, hD, _⟩ := isAt.cell h (good_rf x) (k := 10) (P := intsT x.depth) rfl
  obtain ⟨hv, _, _, _, _, hh, hH, _⟩ := isAt.cell h (good_rf x) (k := 11) (P := holdsT x.holds) rfl
  obtain ⟨lv, _, _, _, _, hl, hL, _⟩ := isAt.cell h (good_rf x) (k := 6) (P := isV (.bool x.loose)) rfl
  refine ⟨sv, gv, rv, dv, hv, fun k hk => ?_, hl.trans (by rw [hL.1]), hs, hg, hr, hd, hh, ⟨_, hS⟩, ⟨_, hG⟩, ⟨_, hR⟩, ⟨_, hD⟩, ⟨_, hH⟩⟩
  obtain ⟨u, hu⟩ : ∃ u, (cfC x.c)[k]? = some u := ⟨_, List.getElem?_eq_getElem (by simpa [cfC] using hk)⟩
  have hP : (rfT x)[k]? = some (isV u) := by
    rw [rfT, List.getElem?_append_left (by simpa [cfC] using hk), List.getElem?_map, hu]; rfl
  obtain ⟨cv, _, _, _, _, hc, hC, _⟩ := isAt.cell h (good_rf x) hP
  rw [show 0 + 0 + k = k by omega, hc, hC.1, hu]
structure RrR (w : World) (b o : Nat) (p : RgV × Bool) (cv wv ov : Value) : Prop where
  c0 : ldC (hp w b) (o + 0) = some (.int .i64 p.1.nm.1)
  c1 : ldC (hp w b) (o + 1) = some (.int .i64 p.1.nm.2)
  c2 : ldC (hp w b) (o + 2) = some (.int .i64 p.1.cls)
  c3 : ldC (hp w b) (o + 3) = some (.int .i64 p.1.off)
  c4 : ldC (hp w b) (o + 4) = some (.bool p.2)
  c5 : ldC (hp w b) (o + 5) = some cv
  c6 : ldC (hp w b) (o + 6) = some wv
  c7 : ldC (hp w b) (o + 7) = some ov
  cT : ∃ F, intsT p.1.chunks w F cv
  wT : ∃ F, wordsT p.1.words w F wv
  oT : ∃ F, objsT p.1.objs w F ov
theorem rr_at {w : World} {L : List (RgV × Bool)} {F : Fp} {x : Value} (h : rrsT L w F x) {i : Nat} {r : RgV × Bool} (hr : L[i]? = some r) : ∃ b c, x = .slice (some ⟨b, 0, none⟩) L.length c ∧ ∃ cv wv ov, RrR w b (i * 8) r cv wv ov := by
  have get : ∀ k, k < 8 → (L.flatMap rrT)[i * 8 + k]? = (rrT r)[k]? := fun k hk => aN rrT_len L i r hr k hk
  obtain ⟨b, c, v0, F0, e0, _, _, _, l0, t0, _⟩ := isRow.cell h (good_rrL L) (get 0 (by omega))
  obtain ⟨b1, c1, v1, F1, e1, _, _, _, l1, t1, _⟩ := isRow.cell h (good_rrL L) (get 1 (by omega))
  obtain ⟨b2, c2, v2, F2, e2, _, _, _, l2, t2, _⟩ := isRow.cell h (good_rrL L) (get 2 (by omega))
  obtain ⟨b3, c3, v3, F3, e3, _, _, _, l3, t3, _⟩ := isRow.cell h (good_rrL L) (get 3 (by omega))
  obtain ⟨b4, c4, v4, F4, e4, _, _, _, l4, t4, _⟩ := isRow.cell h (good_rrL L) (get 4 (by omega))
  obtain ⟨b5, c5, v5, F5, e5, _, _, _, l5, t5, _⟩ := isRow.cell h (good_rrL L) (get 5 (by omega))
  obtain ⟨b6, c6, v6, F6, e6, _, _, _, l6, t6, _⟩ := isRow.cell h (good_rrL L) (get 6 (by omega))
  obtain ⟨b7, c7, v7, F7, e7, _, _, _, l7, t7, _⟩ := isRow.cell h (good_rrL L) (get 7 (by omega))
  subst e0
  cases e1; cases e2; cases e3; cases e4; cases e5; cases e6; cases e7
  rw [t0.1] at l0; rw [t1.1] at l1; rw [t2.1] at l2; rw [t3.1] at l3; rw [t4.1] at l4
  exact ⟨b, c, rfl, v5, v6, v7, l0, l1, l2, l3, l4, l5, l6, l7, ⟨F5, t5⟩, ⟨F6, t6⟩, ⟨F7, t7⟩⟩
theorem RrR.keep {w w' : World} {b o : Nat} {p : RgV × Bool} {cv wv ov : Value} (k : RrR w b o p cv wv ov) (hc : Chg [] w w') : RrR w' b o p cv wv ov := by
  obtain ⟨F, hF⟩ := k.cT
  obtain ⟨G, hG⟩ := k.wT
  obtain ⟨H, hH⟩ := k.oT
  exact ⟨aQ hc k.c0, aQ hc k.c1, aQ hc k.c2, aQ hc k.c3, aQ hc k.c4, aQ hc k.c5, aQ hc k.c6, aQ hc k.c7,
    ⟨F, (aM _).frame hF (ChgP.of0 hc none') fun _ _ h => h⟩, ⟨G, (good_words _).frame hG (ChgP.of0 hc none') fun _ _ h => h⟩, ⟨H, (good_objs _).frame hH (ChgP.of0 hc none') fun _ _ h => h⟩⟩
theorem RfR.keep {w w' : World} {g : Nat} {x : RfV} {s gn r d h : Value} (k : RfR w g x s gn r d h) (hc : Chg [] w w') : RfR w' g x s gn r d h := by
  have e : hp w' g = hp w g := hc.block g (by
    rcases Nat.lt_or_ge g w.heap.size with h1 | h1
    · exact h1
    · have h2 : hp w g = none := by simp [hp]; omega
      have := k.l
      rw [h2] at this; cases this) (by simp)
  have ck : ∀ {L v}, (∃ F, intsT L w F v) → ∃ F, intsT L w' F v := fun ⟨F, hF⟩ => ⟨F, (aM _).frame hF (ChgP.of0 hc none') fun _ _ h => h⟩
  obtain ⟨G, hG⟩ := k.rT
  obtain ⟨H, hH⟩ := k.hT
  exact ⟨fun i hi => by rw [e]; exact k.c i hi, by rw [e]; exact k.l, by rw [e]; exact k.sl, by rw [e]; exact k.gl, by rw [e]; exact k.rl, by rw [e]; exact k.dl, by rw [e]; exact k.hl, ck k.sT, ck k.gT,
    ⟨G, (good_rrs _).frame hG (ChgP.of0 hc none') fun _ _ h => h⟩, ck k.dT, ⟨H, (good_holds _).frame hH (ChgP.of0 hc none') fun _ _ h => h⟩⟩
end Go.Proofs.YteapggpkgfiacaaGreat

namespace Go.Proofs.YteapggpkgfiacaaGreat
open Go Ev Go.RowKit

theorem c_rIn (n a b : Int) (w : World) : CallR Tryz.prog 15 [.int .i64 n, .int .i64 a, .int .i64 b] w fun v w' => v = .bool (decide (a ≤ n ∧ n ≤ b)) ∧ w' = w := by
  apply F15_ok
  by_cases h1 : a ≤ n
  · simp -implicitDefEqProofs only [F15, zS, aD, bp_leq, h1, ge_iff_le, true_and, and_self]
  · simp -implicitDefEqProofs only [F15, zS, aD, bp_leq, h1, ge_iff_le, false_and, and_self]
theorem c_rRight (a n : Int) (w : World) : CallR Tryz.prog 103 [.int .i64 a, .int .i64 n] w fun v w' => v = .bool (rightV a n) ∧ w' = w := by
  apply F103_ok
  simp -implicitDefEqProofs only [F103]
  refine (c_rIn a 1 1024 w).step ?_
  by_cases h1 : 1 ≤ a ∧ a ≤ 1024
  · simp -implicitDefEqProofs only [decide_eq_true h1, zS]
    refine (c_rIn n 1 a w).step ?_
    simp -implicitDefEqProofs only [zS]
    exact ⟨by simp [rightV, h1.1, h1.2], trivial⟩
  · simp -implicitDefEqProofs only [decide_eq_false h1, zS]
    refine ⟨?_, trivial⟩
    rw [rightV, decide_eq_false (fun h => h1 ⟨h.1, h.2.1⟩)]
theorem c_rAlone (a n : Int) (w : World) : CallR Tryz.prog 104 [.int .i64 a, .int .i64 n] w fun v w' => v = .bool (aloneV a n) ∧ w' = w := by
  apply F104_ok
  simp -implicitDefEqProofs only [F104]
  refine (c_rRight a n w).step ?_
  cases hr : rightV a n with
  | true =>
    have := right_iff hr
    simp -implicitDefEqProofs only [zS, bp_sub, aq (n := a - n) (by omega) (by omega)]
    refine ⟨?_, trivial⟩
    rw [aloneV, hr, Bool.true_and]
    congr 2
    exact propext ⟨fun h => by omega, fun h => by omega⟩
  | false =>
    simp -implicitDefEqProofs only [zS]
    exact ⟨by simp [aloneV, hr], trivial⟩
theorem c_rFits2 (a off n : Int) (w : World) : CallR Tryz.prog 102 [.int .i64 a, .int .i64 off, .int .i64 n] w fun v w' => v = .bool (fitsV a off n) ∧ w' = w := by
  apply F102_ok
  simp -implicitDefEqProofs only [F102]
  refine (c_rRight a n w).step ?_
  cases hr : rightV a n with
  | true =>
    have := right_iff hr
    simp -implicitDefEqProofs only [zS]
    refine (c_rAlone a n w).step ?_
    cases ha : aloneV a n with
    | true =>
      simp -implicitDefEqProofs only [zS]
      exact ⟨by simp [fitsV, ha], trivial⟩
    | false =>
      by_cases h0 : 0 ≤ off
      · simp -implicitDefEqProofs only [zS, aD, bp_leq, bp_sub, h0, ge_iff_le, aq (n := a - n) (by omega) (by omega)]
        exact ⟨by simp [fitsV, hr, ha, h0], trivial⟩
      · simp -implicitDefEqProofs only [zS, aD, h0, ge_iff_le]
        exact ⟨by simp [fitsV, h0], trivial⟩
  | false =>
    simp -implicitDefEqProofs only [zS]
    exact ⟨by simp [fitsV, hr], trivial⟩
theorem c_rAfter (a n : Int) (w : World) : CallR Tryz.prog 100 [.int .i64 a, .int .i64 n] w fun v w' => v = .int .i64 (afterV a n) ∧ w' = w := by
  apply F100_ok
  simp -implicitDefEqProofs only [F100]
  refine (c_rRight a n w).step ?_
  cases hr : rightV a n with
  | true =>
    simp -implicitDefEqProofs only [zS]
    refine (c_rAlone a n w).step ?_
    cases ha : aloneV a n with
    | true => simp -implicitDefEqProofs only [zS]; exact ⟨by simp [afterV, hr, ha], trivial⟩
    | false => simp -implicitDefEqProofs only [zS]; exact ⟨by simp [afterV, hr, ha], trivial⟩
  | false => simp -implicitDefEqProofs only [zS]; exact ⟨by simp [afterV, hr], trivial⟩
theorem round_step {k n : Int} (hk : k = 1 ∨ k = 2 ∨ k = 4 ∨ k = 8) (h0 : 0 < n) : (n % k = 0 → roundS k n = n) ∧ (n % k ≠ 0 → roundS k (n + 1) = roundS k n ∧ n < roundS k n) := by
  unfold roundS
  rcases hk with rfl | rfl | rfl | rfl <;> constructor <;> intro h <;> (try constructor) <;> omega
theorem l_rRound1 {k : Int} (hk : k = 1 ∨ k = 2 ∨ k = 4 ∨ k = 8) (w : World) : ∀ (d : Nat) (n : Int), 0 < n → n ≤ 2000 → roundS k n - n ≤ d → P98_1 (.int .i64 n) (.int .i64 k) w fun v w' => v = .int .i64 (roundS k n) ∧ w' = w
  | d, n, h0, h1, hd => by
    apply L98_1_ok
    obtain ⟨s1, s2⟩ := round_step hk h0
    have hm : n.tmod k = n % k := Int.tmod_eq_emod_of_nonneg (by omega)
    by_cases hz : n % k = 0
    · have e : (n % k != 0) = false := by rw [hz]; rfl
      simp -implicitDefEqProofs only [L98_1, bp_rem (show k ≠ 0 by omega), hm, zS, e]
      rw [s1 hz]
      exact ⟨rfl, trivial⟩
    · have e : (n % k != 0) = true := bne_iff_ne.2 hz
      obtain ⟨s3, s4⟩ := s2 hz
      simp -implicitDefEqProofs only [L98_1, bp_rem (show k ≠ 0 by omega), hm, zS, e, am, aq (n := n + 1) (by omega) (by omega)]
      match d with
      | 0 => omega
      | d + 1 =>
        have hb : roundS k n ≤ 2000 ∨ 2000 < roundS k n := by omega
        have := l_rRound1 hk w d (n + 1) (by omega) (by
          rcases hb with hb | hb
          · omega
          · unfold roundS at hb s4
            rcases hk with rfl | rfl | rfl | rfl <;> omega) (by rw [s3]; omega)
        rw [s3] at this
        exact this
theorem c_rRound (cls n : Int) (w : World) : CallR Tryz.prog 98 [.int .i64 cls, .int .i64 n] w fun v w' => v = .int .i64 (roundV cls n) ∧ w' = w := by
  apply F98_ok
  simp -implicitDefEqProofs only [F98]
  refine (c_rIn n 1 1024 w).step ?_
  by_cases hn : 1 ≤ n ∧ n ≤ 1024
  · have rv : roundV cls n = roundS (stepOf cls) n := by rw [roundV, if_neg (by omega)]
    simp -implicitDefEqProofs only [decide_eq_true hn, zS]
    rw [rv]
    have fin : ∀ k, k = 1 ∨ k = 2 ∨ k = 4 ∨ k = 8 → stepOf cls = k → P98_1 (.int .i64 n) (.int .i64 k) w fun v w' => v = .int .i64 (roundS (stepOf cls) n) ∧ w' = w := fun k hk e => by
      rw [e]; exact l_rRound1 hk w (roundS k n - n).toNat n (by omega) (by omega) (by omega)
    apply L98_0_ok
    by_cases c0 : 0 < cls
    · simp -implicitDefEqProofs only [L98_0, zS, c0, show (0 : Int) < 3 by decide, bp_mul, am, show IntKind.i64.wrap (2 * 1) = 2 by decide, show IntKind.i64.wrap (0 + 1) = 1 by decide]
      apply L98_0_ok
      by_cases c1 : 1 < cls
      · simp -implicitDefEqProofs only [L98_0, zS, c1, show (1 : Int) < 3 by decide, bp_mul, am, show IntKind.i64.wrap (2 * 2) = 4 by decide, show IntKind.i64.wrap (1 + 1) = 2 by decide]
        apply L98_0_ok
        by_cases c2 : 2 < cls
        · simp -implicitDefEqProofs only [L98_0, zS, c2, show (2 : Int) < 3 by decide, bp_mul, am, show IntKind.i64.wrap (2 * 4) = 8 by decide, show IntKind.i64.wrap (2 + 1) = 3 by decide]
          apply L98_0_ok
          by_cases c3 : 3 < cls
          · simp -implicitDefEqProofs only [L98_0, zS, c3, show ¬ (3 : Int) < 3 by decide]
            exact fin 8 (by omega) (by rw [stepOf, if_neg (by omega), if_neg (by omega), if_neg (by omega)])
          · simp -implicitDefEqProofs only [L98_0, zS, c3]
            exact fin 8 (by omega) (by rw [stepOf, if_neg (by omega), if_neg (by omega), if_neg (by omega)])
        · simp -implicitDefEqProofs only [L98_0, zS, c2]
          exact fin 4 (by omega) (by rw [stepOf, if_neg (by omega), if_neg (by omega), if_pos (by omega)])
      · simp -implicitDefEqProofs only [L98_0, zS, c1]
        exact fin 2 (by omega) (by rw [stepOf, if_neg (by omega), if_pos (by omega)])
    · simp -implicitDefEqProofs only [L98_0, zS, c0]
      exact fin 1 (by omega) (by rw [stepOf, if_pos (by omega)])
  · simp -implicitDefEqProofs only [decide_eq_false hn, zS]
    exact ⟨by rw [roundV, if_pos (by omega)], trivial⟩
theorem c_rLater (n : Int) (hn : n ≤ 4294967295) (w : World) (h0 : 0 ≤ n) : CallR Tryz.prog 96 [.int .i64 n] w fun v w' => v = .int .i64 (laterV n) ∧ w' = w := by
  apply F96_ok
  by_cases h : n ≥ 4294967295
  · simp -implicitDefEqProofs only [F96, zS, aD, h]
    exact ⟨by rw [laterV, if_neg (by omega)], trivial⟩
  · simp -implicitDefEqProofs only [F96, zS, aD, h, am, aq (n := n + 1) (by omega) (by omega)]
    exact ⟨by rw [laterV, if_pos (by omega)], trivial⟩
section
variable {w : World} {g : Nat} {x : RfV} {s gn r d h : Value}
theorem int_at {w : World} {A : Option Addr} {c : Nat} {L : List Int} (hR : RdI .i64 w A L) {i : Nat} {y : Int} (hy : L[i]? = some y) :
    ∃ q : Addr, pureRun Tryz.prog (Instr.indexAt 26 (.slice A L.length c) (.int .i64 (i : Int))) = some (.pointer (some q)) ∧ ldv Tryz.prog 3 (.pointer (some q)) w = some (.int .i64 y) := by
  have hil := (List.getElem?_eq_some_iff.1 hy).1
  obtain ⟨q, q1, q2⟩ := hR.at (P := Tryz.prog) (c := c) (j := .i64) Tryz.underlying26 Tryz.underlying3 sz_3 (i := (i : Int)) (by omega) (by omega)
  have hg : L.getD i 0 = y := by rw [List.getD_eq_getElem?_getD, hy]; rfl
  rw [Int.toNat_natCast, hg] at q2
  exact ⟨q, q1, q2⟩
def ixR (o : Option Nat) : Int := match o with | some i => (i : Int) | none => -1
def findX (L : List (RgV × Bool)) (n : NmV) : Option Nat := findR (L.map (·.1)) n
set_option maxHeartbeats 1000000 in
theorem c_rFind (R : RfR w g x s gn r d h) (n : NmV) (hl : x.rgs.length ≤ 1000000) : CallR Tryz.prog 81 [.pointer (some ⟨g, 0, none⟩), .int .i64 n.1, .int .i64 n.2] w fun v w' => v = .int .i64 (ixR (findX x.rgs n)) ∧ w' = w := by
  apply F81_ok
  simp -implicitDefEqProofs only [F81]
  obtain ⟨Fr, hFr⟩ := R.rT
  have main : ∀ (d i : Nat), (∀ (j : Nat) (p : RgV × Bool), j < i → x.rgs[j]? = some p → p.1.nm ≠ n) → i + d = x.rgs.length →
      P81_0 (.pointer (some ⟨g, 0, none⟩)) (.int .i64 n.1) (.int .i64 n.2) (.int .i64 i) w fun v w' => v = .int .i64 (ixR (findX x.rgs n)) ∧ w' = w := by
    intro d
    induction d with
    | zero =>
      intro i hn hi
      apply L81_0_ok
      obtain ⟨A, c, _, _, e, _⟩ := isRow.rd hFr
      have hrl := R.rl
      rw [e] at hrl
      have : ¬ (i : Int) < x.rgs.length := by omega
      simp -implicitDefEqProofs only [L81_0, zS, aA, aE, hrl, len_109, this]
      have : findX x.rgs n = none := findR_none fun j r hj => by
        rw [List.getElem?_map] at hj
        cases hq : x.rgs[j]? with
        | none => rw [hq] at hj; cases hj
        | some p => rw [hq] at hj; cases hj; exact hn j p (by have := (List.getElem?_eq_some_iff.1 hq).1; omega) hq
      rw [this]
      exact ⟨rfl, trivial⟩
    | succ d ih =>
      intro i hn hi
      apply L81_0_ok
      have hlt : (i : Int) < x.rgs.length := by omega
      obtain ⟨p, hp'⟩ : ∃ p, x.rgs[i]? = some p := ⟨_, List.getElem?_eq_getElem (by omega)⟩
      obtain ⟨b, c, rfl, cv, wv, ov, Q⟩ := rr_at hFr hp'
      have ia := ia_109 (b := b) (p := 0) (n := x.rgs.length) (c := c) (j := .i64) (i := (i : Int)) (by omega) (by omega)
      rw [Int.toNat_natCast, Nat.zero_add] at ia
      have next : p.1.nm ≠ n → P81_0 (.pointer (some ⟨g, 0, none⟩)) (.int .i64 n.1) (.int .i64 n.2) (.int .i64 ((i : Int) + 1)) w fun v w' => v = .int .i64 (ixR (findX x.rgs n)) ∧ w' = w := by
        intro hne
        have := ih (i + 1) (fun j r hj hr => by
          rcases Nat.lt_or_ge j i with h1 | h1
          · exact hn j r h1 hr
          · have : j = i := by omega
            subst this
            rw [hp'] at hr; cases hr; exact hne) (by omega)
        rw [Int.natCast_add i 1] at this
        exact this
      by_cases h1 : p.1.nm.1 = n.1
      · have e1 : (p.1.nm.1 == n.1) = true := by rw [h1]; exact beq_self_eq_true _
        by_cases h2 : p.1.nm.2 = n.2
        · have e2 : (p.1.nm.2 == n.2) = true := by rw [h2]; exact beq_self_eq_true _
          simp -implicitDefEqProofs only [L81_0, zS, aA, aE, R.rl, len_109, hlt, ia, fa_126_0, fa_126_1, ac, Q.c0, Q.c1, e1, e2]
          have : findX x.rgs n = some i := findR_some (r := p.1) (by rw [List.getElem?_map, hp']; rfl) (Prod.ext h1 h2) fun j r hj hr => by
            rw [List.getElem?_map] at hr
            cases hq : x.rgs[j]? with
            | none => rw [hq] at hr; cases hr
            | some p => rw [hq] at hr; cases hr; exact hn j p hj hq
          rw [this]
          exact ⟨rfl, trivial⟩
        · simp -implicitDefEqProofs only [L81_0, zS, aA, aE, R.rl, len_109, hlt, ia, fa_126_0, fa_126_1, ac, Q.c0, Q.c1, e1, eqf h2, am, aq (n := (i : Int) + 1) (by omega) (by omega)]
          exact next fun e => h2 (by rw [e])
      · simp -implicitDefEqProofs only [L81_0, zS, aA, aE, R.rl, len_109, hlt, ia, fa_126_0, ac, Q.c0, eqf h1, am, aq (n := (i : Int) + 1) (by omega) (by omega)]
        exact next fun e => h1 (by rw [e])
  exact main x.rgs.length 0 (fun j p hj => by omega) (by omega)
def spareI (L : List Int) : Nat := (L.filter fun p => decide (p = 0)).length
set_option maxHeartbeats 1000000 in
theorem c_rSpare (R : RfR w g x s gn r d h) (hl : x.state.length ≤ 1000000) : CallR Tryz.prog 95 [.pointer (some ⟨g, 0, none⟩)] w fun v w' => v = .int .i64 (spareI x.state) ∧ w' = w := by
  apply F95_ok
  simp -implicitDefEqProofs only [F95]
  obtain ⟨A, c, rfl, hR⟩ := ints_sh R.sT
  have main : ∀ (d i : Nat), i + d = x.state.length → P95_0 (.pointer (some ⟨g, 0, none⟩)) (.int .i64 (spareI (x.state.take i))) (.int .i64 i) w fun v w' => v = .int .i64 (spareI x.state) ∧ w' = w := by
    intro d
    induction d with
    | zero =>
      intro i hi
      apply L95_0_ok
      have : ¬ (i : Int) < x.state.length := by omega
      simp -implicitDefEqProofs only [L95_0, zS, fa_112_2, ld_26, R.sl, len_26, this]
      rw [List.take_of_length_le (by omega)]
      exact ⟨rfl, trivial⟩
    | succ d ih =>
      intro i hi
      apply L95_0_ok
      have hlt : (i : Int) < x.state.length := by omega
      have hil : i < x.state.length := by omega
      obtain ⟨q, q1, q2⟩ := int_at (c := c) hR (List.getElem?_eq_getElem hil)
      have hsn : spareI (x.state.take (i + 1)) = spareI (x.state.take i) + if x.state[i] = 0 then 1 else 0 := by
        rw [List.take_add_one, List.getElem?_eq_getElem hil]
        simp only [spareI, Option.toList_some, List.filter_append, List.length_append]
        by_cases h : x.state[i] = 0 <;> simp [h]
      have hle : spareI (x.state.take i) ≤ i := by
        have := List.length_filter_le (fun p : Int => decide (p = 0)) (x.state.take i)
        simp only [spareI]; simp at this ⊢; omega
      have one : ∀ k : Nat, k = spareI (x.state.take (i + 1)) → P95_1 (.pointer (some ⟨g, 0, none⟩)) (.int .i64 k) (.int .i64 i) w fun v w' => v = .int .i64 (spareI x.state) ∧ w' = w := by
        rintro k rfl
        apply L95_1_ok
        simp -implicitDefEqProofs only [L95_1, zS, am, aq (n := (i : Int) + 1) (by omega) (by omega)]
        have := ih (i + 1) (by omega)
        rw [Int.natCast_add i 1] at this
        exact this
      generalize x.state[i] = y at *
      by_cases h0 : y = 0
      · have e1 : (y == 0) = true := by rw [h0]; rfl
        simp -implicitDefEqProofs only [L95_0, zS, fa_112_2, ld_26, R.sl, len_26, hlt, q1, q2, e1, am, aq (n := (spareI (x.state.take i) : Int) + 1) (by omega) (by omega)]
        have := one (spareI (x.state.take i) + 1) (by rw [hsn, if_pos h0])
        rw [Int.natCast_add _ 1] at this
        exact this
      · simp -implicitDefEqProofs only [L95_0, zS, fa_112_2, ld_26, R.sl, len_26, hlt, q1, q2, eqf h0]
        exact one _ (by rw [hsn, if_neg h0]; rfl)
  exact main x.state.length 0 (by omega)
end
end Go.Proofs.YteapggpkgfiacaaGreat

namespace Go.Proofs.YteapggpkgfiacaaGreat
open Go Ev Go.RowKit

section
variable {w : World} {g : Nat} {x : RfV} {s gn r d h : Value}
def rgA (p : RgV × Bool) (cv wv ov : Value) : Array Value := #[.int .i64 p.1.nm.1, .int .i64 p.1.nm.2, .int .i64 p.1.cls, .int .i64 p.1.off, .bool p.2, cv, wv, ov]
theorem ld_rg {b o : Nat} {p : RgV × Bool} {cv wv ov : Value} (Q : RrR w b o p cv wv ov) : ldv Tryz.prog 126 (.pointer (some ⟨b, o, none⟩)) w = some (.agg (rgA p cv wv ov)) := by
  rw [ld_126, ldL_take 8 o [.int .i64 p.1.nm.1, .int .i64 p.1.nm.2, .int .i64 p.1.cls, .int .i64 p.1.off, .bool p.2, cv, wv, ov] rfl fun j u hj => by
    have hj' := (List.getElem?_eq_some_iff.1 hj).1
    simp at hj'
    have h7 : j = 0 ∨ j = 1 ∨ j = 2 ∨ j = 3 ∨ j = 4 ∨ j = 5 ∨ j = 6 ∨ j = 7 := by omega
    rcases h7 with rfl | rfl | rfl | rfl | rfl | rfl | rfl | rfl <;> cases hj
    · exact Q.c0
    · exact Q.c1
    · exact Q.c2
    · exact Q.c3
    · exact Q.c4
    · exact Q.c5
    · exact Q.c6
    · exact Q.c7]
  rfl
set_option maxHeartbeats 1000000 in
theorem c_rAt {p : RgV × Bool} {A : Option Addr} {c : Nat} {wv ov : Value} (hR : RdI .i64 w A p.1.chunks) (hl : p.1.chunks.length ≤ 1000000) (y : Int) : CallR Tryz.prog 94 [.agg (rgA p (.slice A p.1.chunks.length c) wv ov), .int .i64 y] w fun v w' => v = .int .i64 (ixOf p.1.chunks y) ∧ Chg [] w w' := by
  apply F94_ok
  have b2 : hp (w.alloc (.cells (rgA p (.slice A p.1.chunks.length c) wv ov) 126)) w.heap.size = some (.cells (rgA p (.slice A p.1.chunks.length c) wv ov) 126) := by rw [aa, if_pos rfl]
  have c0 : Chg [] w (w.alloc (.cells (rgA p (.slice A p.1.chunks.length c) wv ov) 126)) := (Chg.refl _ _).alloc _
  simp -implicitDefEqProofs only [F94, ak, au]
  generalize w.alloc (.cells (rgA p (.slice A p.1.chunks.length c) wv ov) 126) = w0 at *
  generalize w.heap.size = g2 at *
  have hR0 := hR.keep c0.below
  have e5 : (rgA p (.slice A p.1.chunks.length c) wv ov)[0 + 5]? = some (.slice A p.1.chunks.length c) := rfl
  have main : ∀ (d i : Nat), (∀ (j : Nat) (z : Int), j < i → p.1.chunks[j]? = some z → z ≠ y) → i + d = p.1.chunks.length →
      P94_0 (.int .i64 y) (.pointer (some ⟨g2, 0, none⟩)) (.int .i64 i) w0 fun v w' => v = .int .i64 (ixOf p.1.chunks y) ∧ Chg [] w w' := by
    intro d
    induction d with
    | zero =>
      intro i hn hi
      apply L94_0_ok
      have : ¬ (i : Int) < p.1.chunks.length := by omega
      simp -implicitDefEqProofs only [L94_0, zS, fa_126_5, ld_26, b2, e5, len_26, this]
      rw [ixOf_none fun j z hj => hn j z (by have := (List.getElem?_eq_some_iff.1 hj).1; omega) hj]
      exact ⟨rfl, c0⟩
    | succ d ih =>
      intro i hn hi
      apply L94_0_ok
      have hlt : (i : Int) < p.1.chunks.length := by omega
      have hil : i < p.1.chunks.length := by omega
      obtain ⟨z, hz⟩ : ∃ z, p.1.chunks[i]? = some z := ⟨_, List.getElem?_eq_getElem hil⟩
      obtain ⟨q, q1, q2⟩ := int_at (c := c) hR0 hz
      by_cases hzy : z = y
      · have e : (z == y) = true := by rw [hzy]; exact beq_self_eq_true _
        simp -implicitDefEqProofs only [L94_0, zS, fa_126_5, ld_26, b2, e5, len_26, hlt, q1, q2, e]
        rw [ixOf_some hz hzy hn]
        exact ⟨rfl, c0⟩
      · simp -implicitDefEqProofs only [L94_0, zS, fa_126_5, ld_26, b2, e5, len_26, hlt, q1, q2, eqf hzy, am, aq (n := (i : Int) + 1) (by omega) (by omega)]
        have := ih (i + 1) (fun j u hj hu => by
          rcases Nat.lt_or_ge j i with h1 | h1
          · exact hn j u h1 hu
          · have : j = i := by omega
            subst this
            rw [hz] at hu; cases hu; exact hzy) (by omega)
        rw [Int.natCast_add i 1] at this
        exact this
  exact main p.1.chunks.length 0 (fun j r hj => by omega) (by omega)
def knownX (x : RfV) (a : HnV) : Bool × Bool := match findX x.rgs (nmOf a) with
  | none => (false, false)
  | some i => (decide (a.2.2.1 = 0 ∧ a.2.2.2.1 = 0 ∧ a.2.2.2.2 = 0), match x.rgs[i]? with | some p => decide (a ∈ p.1.objs) | none => false)
theorem findX_at {L : List (RgV × Bool)} {n : NmV} {i : Nat} (h : findX L n = some i) : ∃ p, L[i]? = some p ∧ p.1.nm = n := by
  obtain ⟨r, h1, h2⟩ := findR_at h
  rw [List.getElem?_map] at h1
  cases hq : L[i]? with
  | none => rw [hq] at h1; cases h1
  | some p => rw [hq] at h1; cases h1; exact ⟨p, rfl, h2⟩
set_option maxHeartbeats 2000000 in
theorem c_rKnown (R : RfR w g x s gn r d h) (hl : x.rgs.length ≤ 1000000) (ho : ∀ p ∈ x.rgs, p.1.objs.length ≤ 1000000) (a : HnV) : CallR Tryz.prog 93 [.pointer (some ⟨g, 0, none⟩), .agg (hnC a).toArray] w fun v w' => v = .tuple #[.bool (knownX x a).1, .bool (knownX x a).2] ∧ Chg [] w w' := by
  apply F93_ok
  have b3 : hp (w.alloc (.cells (hnC a).toArray 38)) w.heap.size = some (.cells (hnC a).toArray 38) := by rw [aa, if_pos rfl]
  have c0 : Chg [] w (w.alloc (.cells (hnC a).toArray 38)) := (Chg.refl _ _).alloc _
  simp -implicitDefEqProofs only [F93, ak, au]
  generalize w.alloc (.cells (hnC a).toArray 38) = w0 at *
  generalize w.heap.size = g3 at *
  have R0 := R.keep c0
  have e0 : (hnC a).toArray[0 + 0]? = some (.int .i64 a.1) := rfl
  have e1 : (hnC a).toArray[0 + 1]? = some (.int .i64 a.2.1) := rfl
  have e2 : (hnC a).toArray[0 + 2]? = some (.int .i64 a.2.2.1) := rfl
  have e3 : (hnC a).toArray[0 + 3]? = some (.int .i64 a.2.2.2.1) := rfl
  have e4 : (hnC a).toArray[0 + 4]? = some (.int .i64 a.2.2.2.2) := rfl
  simp -implicitDefEqProofs only [zS, bj, fa_38_1, ac, b3, e0, e1]
  refine (c_rFind R0 (nmOf a) hl).step ?_
  cases hf : findX x.rgs (nmOf a) with
  | none =>
    have kv : knownX x a = (false, false) := by rw [knownX, hf]
    have hneg : (-1 : Int) < 0 := by omega
    simp -implicitDefEqProofs only [ixR, zS, hneg]
    rw [kv]
    exact ⟨by first | rfl | trivial, c0⟩
  | some i =>
    obtain ⟨p, hp', hnm⟩ := findX_at hf
    have kv : knownX x a = (decide (a.2.2.1 = 0 ∧ a.2.2.2.1 = 0 ∧ a.2.2.2.2 = 0), decide (a ∈ p.1.objs)) := by rw [knownX, hf]; simp only [hp']
    have hol := ho p (List.mem_of_getElem? hp')
    have hnn : ¬ (i : Int) < 0 := by omega
    obtain ⟨Fr, hFr⟩ := R0.rT
    obtain ⟨b, c, rfl, cv, wv, ov, Q⟩ := rr_at hFr hp'
    obtain ⟨A, co, rfl, hR⟩ := objs_sh Q.oT
    have hi := (List.getElem?_eq_some_iff.1 hp').1
    have ia := ia_109 (b := b) (p := 0) (n := x.rgs.length) (c := c) (j := .i64) (i := (i : Int)) (by omega) (by omega)
    rw [Int.toNat_natCast, Nat.zero_add] at ia
    have main : ∀ (t : Bool) (d k : Nat) (w1 : World), Chg [] w0 w1 → (∀ (j : Nat) (y : HnV), j < k → p.1.objs[j]? = some y → y ≠ a) → k + d = p.1.objs.length →
        P93_0 (.pointer (some ⟨g, 0, none⟩)) (.pointer (some ⟨g3, 0, none⟩)) (.int .i64 i) (.bool t) (.int .i64 k) w1 fun v w' => v = .tuple #[.bool t, .bool (decide (a ∈ p.1.objs))] ∧ Chg [] w w' := by
      intro t d
      induction d with
      | zero =>
        intro k w1 c1 hn hk
        apply L93_0_ok
        have : ¬ (k : Int) < p.1.objs.length := by omega
        have R1 := R0.keep c1
        have Q1 := Q.keep c1
        simp -implicitDefEqProofs only [L93_0, zS, aA, aE, R1.rl, ia, fa_126_7, ld_44, Q1.c7, len_44, this]
        refine ⟨?_, c0.trans c1⟩
        rw [decide_eq_false (fun hm => by
          obtain ⟨j, hj⟩ := List.getElem?_of_mem hm
          exact hn j a (by have := (List.getElem?_eq_some_iff.1 hj).1; omega) hj rfl)]
      | succ d ih =>
        intro k w1 c1 hn hk
        apply L93_0_ok
        have hlt : (k : Int) < p.1.objs.length := by omega
        have hkl : k < p.1.objs.length := by omega
        have cd1 : Chg [] w0 w1.drew := c1.drew
        have R1 := R0.keep c1
        have Q1 := Q.keep c1
        have R1d := R0.keep cd1
        have Q1d := Q.keep cd1
        obtain ⟨y, hy⟩ : ∃ y, p.1.objs[k]? = some y := ⟨_, List.getElem?_eq_getElem hkl⟩
        obtain ⟨bb, oo, q1, _, q3, _⟩ := (hR.keep cd1.below).elem (P := Tryz.prog) (c := co) (n := p.1.objs.length) (i := (k : Int)) (j := .i64) Tryz.underlying44 sz_38 (by omega) (by rw [flat_len hnC_len]; exact Nat.le_refl _) (by omega) (by omega)
        have hyl : p.1.objs[k] = y := by rw [List.getElem?_eq_getElem hkl] at hy; exact Option.some.inj hy
        rw [Int.toNat_natCast, flat_at hnC_len p.1.objs k hkl, hyl] at q3
        have ly : ldv Tryz.prog 38 (.pointer (some ⟨bb, oo, none⟩)) w1.drew = some (.agg (hnC y).toArray) := by rw [ld_38, q3]; rfl
        have lx := ld_hn (show hp w1.drew g3 = _ from c1.at b3 (by simp))
        have hbe : be Tryz.prog .eql 38 (.tmp 53) (.tmp 54) (.agg (hnC y).toArray) (.agg (hnC a).toArray) = some (.bool (decide (y = a))) := by
          rw [← hn_beq]; exact be_eql_38
        simp -implicitDefEqProofs only [L93_0, zS, aA, aE, R1.rl, R1d.rl, ia, fa_126_7, ld_44, Q1.c7, Q1d.c7, len_44, hlt, q1, ly, lx, hbe]
        by_cases hya : y = a
        · simp -implicitDefEqProofs only [decide_eq_true hya, zS]
          refine ⟨?_, c0.trans cd1⟩
          rw [decide_eq_true (by rw [← hya]; exact List.mem_of_getElem? hy)]
        · simp -implicitDefEqProofs only [decide_eq_false hya, zS, am, aq (n := (k : Int) + 1) (by omega) (by omega)]
          have := ih (k + 1) w1.drew cd1 (fun j z hj hz => by
            rcases Nat.lt_or_ge j k with h1 | h1
            · exact hn j z h1 hz
            · have : j = k := by omega
              subst this
              rw [hy] at hz; cases hz; exact hya) (by omega)
          rw [Int.natCast_add k 1] at this
          exact this
    have fin := fun t => main t p.1.objs.length 0 w0 (Chg.refl _ _) (fun j y hj => by omega) (by omega)
    rw [kv]
    by_cases h2 : a.2.2.1 = 0
    · have k2 : (a.2.2.1 == 0) = true := by rw [h2]; rfl
      by_cases h3 : a.2.2.2.1 = 0
      · have k3 : (a.2.2.2.1 == 0) = true := by rw [h3]; rfl
        by_cases h4 : a.2.2.2.2 = 0
        · have k4 : (a.2.2.2.2 == 0) = true := by rw [h4]; rfl
          simp -implicitDefEqProofs only [ixR, zS, hnn, fa_38_2, fa_38_3, fa_38_4, ac, b3, e2, e3, e4, k2, k3, k4]
          rw [decide_eq_true ⟨h2, h3, h4⟩]
          exact fin true
        · simp -implicitDefEqProofs only [ixR, zS, hnn, fa_38_2, fa_38_3, fa_38_4, ac, b3, e2, e3, e4, k2, k3, eqf h4]
          rw [decide_eq_false (show ¬ (a.2.2.1 = 0 ∧ a.2.2.2.1 = 0 ∧ a.2.2.2.2 = 0) from fun h => h4 h.2.2)]
          exact fin false
      · simp -implicitDefEqProofs only [ixR, zS, hnn, fa_38_2, fa_38_3, ac, b3, e2, e3, k2, eqf h3]
        rw [decide_eq_false (show ¬ (a.2.2.1 = 0 ∧ a.2.2.2.1 = 0 ∧ a.2.2.2.2 = 0) from fun h => h3 h.2.1)]
        exact fin false
    · simp -implicitDefEqProofs only [ixR, zS, hnn, fa_38_2, ac, b3, e2, eqf h2]
      rw [decide_eq_false (show ¬ (a.2.2.1 = 0 ∧ a.2.2.2.1 = 0 ∧ a.2.2.2.2 = 0) from fun h => h2 h.1)]
      exact fin false
def goodX (x : RfV) (k : Int) (a : HnV) : Bool := if ofK k = 1 then (knownX x a).1 else if ofK k = 2 then (knownX x a).2 else if ofK k = 3 then (knownX x a).1 || (knownX x a).2 else true
set_option maxHeartbeats 1000000 in
theorem c_rGood (R : RfR w g x s gn r d h) (hl : x.rgs.length ≤ 1000000) (ho : ∀ p ∈ x.rgs, p.1.objs.length ≤ 1000000) (o : OpV) (a : HnV) : CallR Tryz.prog 80 [.pointer (some ⟨g, 0, none⟩), .agg (opC o).toArray, .agg (hnC a).toArray] w fun v w' => v = .bool (goodX x o.1 a) ∧ Chg [] w w' := by
  apply F80_ok
  simp -implicitDefEqProofs only [F80, ak, au, ae]
  generalize hw : (w.alloc (.cells (opC o).toArray 36)).alloc _ = w1
  have c1 : Chg [] w w1 := by rw [← hw]; exact ((Chg.refl _ _).alloc _).alloc _
  have a4 : hp w1 w.heap.size = some (.cells (opC o).toArray 36) := by rw [← hw, aa, ae, if_neg (by omega), aa, if_pos rfl]
  have a5 : hp w1 (w.heap.size + 1) = some (.cells (hnC a).toArray 38) := by rw [← hw, aa, ae, if_pos rfl]
  clear hw
  simp -implicitDefEqProofs only [ld_hn a5, ab]
  refine (c_rKnown (R.keep c1) hl ho a).mono ?_
  rintro _ w2 ⟨rfl, c2⟩
  have c02 := c1.trans c2
  have a42 := c2.at a4 (by simp)
  simp -implicitDefEqProofs only [tup0, tup1, zS, aj, ac, a42, az]
  refine (c_Of o.1 w2).step ?_
  have gx : goodX x o.1 a = if ofK o.1 = 1 then (knownX x a).1 else if ofK o.1 = 2 then (knownX x a).2 else if ofK o.1 = 3 then (knownX x a).1 || (knownX x a).2 else true := rfl
  rw [gx]
  by_cases k1 : ofK o.1 = 1
  · have q : (ofK o.1 == 1) = true := by rw [k1]; rfl
    simp -implicitDefEqProofs only [zS, q]
    rw [if_pos k1]; exact ⟨by first | rfl | trivial, c02⟩
  by_cases k2 : ofK o.1 = 2
  · have q : (ofK o.1 == 2) = true := by rw [k2]; rfl
    simp -implicitDefEqProofs only [zS, eqf k1, q]
    rw [if_neg k1, if_pos k2]; exact ⟨by first | rfl | trivial, c02⟩
  by_cases k3 : ofK o.1 = 3
  · have q : (ofK o.1 == 3) = true := by rw [k3]; rfl
    cases hk : (knownX x a).1 with
    | true =>
      simp -implicitDefEqProofs only [zS, eqf k1, eqf k2, q]
      rw [if_neg k1, if_neg k2, if_pos k3]; exact ⟨by first | rfl | trivial | simp, c02⟩
    | false =>
      simp -implicitDefEqProofs only [zS, eqf k1, eqf k2, q]
      rw [if_neg k1, if_neg k2, if_pos k3]; exact ⟨by first | rfl | trivial | simp, c02⟩
  · simp -implicitDefEqProofs only [zS, eqf k1, eqf k2, eqf k3]
    rw [if_neg k1, if_neg k2, if_neg k3]; exact ⟨by first | rfl | trivial, c02⟩
end
end Go.Proofs.YteapggpkgfiacaaGreat

namespace Go.Proofs.YteapggpkgfiacaaGreat
open Go Ev Go.RowKit

section
variable {w : World} {g : Nat} {x : RfV} {s gn r d h : Value} {F : Fp}
theorem hold_at {L : List (List NmV)} {F : Fp} {y : Value} (hh : holdsT L w F y) {i : Nat} {l : List NmV} (hi : L[i]? = some l) : ∃ b c v, y = .slice (some ⟨b, 0, none⟩) L.length c ∧ ldC (hp w b) i = some v ∧ ∃ F, keysT l w F v := by
  obtain ⟨b, c, v, Fk, hx, _, _, _, hld, hv, _⟩ := isRow.cell hh (good_holdsL L) (k := i) (P := keysT l) (by rw [List.getElem?_map, hi]; rfl)
  exact ⟨b, c, v, hx, hld, Fk, hv⟩
theorem keys_sh {L : List NmV} {v : Value} (hh : ∃ F, keysT L w F v) : ∃ A c, v = .slice A L.length c ∧ RdV w A (L.flatMap nmC) := by
  obtain ⟨F, hh⟩ := hh
  obtain ⟨h1, _⟩ := flat_own hh
  obtain ⟨A, c, e, r, _⟩ := ba h1
  exact ⟨A, c, e, r⟩
set_option maxHeartbeats 1000000 in
theorem c_rHas (R : RfR w g x s gn r d h) {n : Int} (n0 : 0 ≤ n) {l : List NmV} (hl : x.holds[n.toNat]? = some l) (hll : l.length ≤ 1000000) (nm : NmV) : CallR Tryz.prog 82 [.pointer (some ⟨g, 0, none⟩), .int .i64 n, .int .i64 nm.1, .int .i64 nm.2] w fun v w' => v = .bool (decide (nm ∈ l)) ∧ w' = w := by
  apply F82_ok
  simp -implicitDefEqProofs only [F82]
  obtain ⟨Fh, hFh⟩ := R.hT
  obtain ⟨b, c, v, rfl, hv, hk⟩ := hold_at hFh hl
  obtain ⟨A, co, rfl, hR⟩ := keys_sh hk
  have hn := (List.getElem?_eq_some_iff.1 hl).1
  have ia := ia_110 (b := b) (p := 0) (n := x.holds.length) (c := c) (j := .i64) (i := n) (by omega) (by omega)
  rw [Nat.zero_add, Nat.mul_one] at ia
  have main : ∀ (d i : Nat), (∀ (j : Nat) (y : NmV), j < i → l[j]? = some y → y ≠ nm) → i + d = l.length →
      P82_0 (.pointer (some ⟨g, 0, none⟩)) (.int .i64 n) (.int .i64 nm.1) (.int .i64 nm.2) (.int .i64 i) w fun v w' => v = .bool (decide (nm ∈ l)) ∧ w' = w := by
    intro d
    induction d with
    | zero =>
      intro i hne hi
      apply L82_0_ok
      have : ¬ (i : Int) < l.length := by omega
      simp -implicitDefEqProofs only [L82_0, zS, fa_112_6, ld_110, R.hl, ia, ld_127, hv, len_127, this]
      rw [decide_eq_false (fun hm => by
        obtain ⟨j, hj⟩ := List.getElem?_of_mem hm
        exact hne j nm (by have := (List.getElem?_eq_some_iff.1 hj).1; omega) hj rfl)]
      exact ⟨by first | rfl | trivial, trivial⟩
    | succ d ih =>
      intro i hne hi
      apply L82_0_ok
      have hlt : (i : Int) < l.length := by omega
      have hil : i < l.length := by omega
      obtain ⟨y, hy⟩ : ∃ y, l[i]? = some y := ⟨_, List.getElem?_eq_getElem hil⟩
      obtain ⟨bb, oo, q1, _, q3, _⟩ := hR.elem (P := Tryz.prog) (c := co) (n := l.length) (i := (i : Int)) (j := .i64) Tryz.underlying127 sz_137 (by omega) (by rw [flat_len nmC_len]; exact Nat.le_refl _) (by omega) (by omega)
      have hyl : l[i] = y := by rw [List.getElem?_eq_getElem hil] at hy; exact Option.some.inj hy
      rw [Int.toNat_natCast, flat_at nmC_len l i hil, hyl] at q3
      have ly : ldv Tryz.prog 137 (.pointer (some ⟨bb, oo, none⟩)) w = some (.agg (nmC y).toArray) := by rw [ld_137, q3]; rfl
      have hbe : be Tryz.prog .eql 137 (.tmp 31) (.tmp 34) (.agg (nmC y).toArray) (.agg #[.int .i64 nm.1, .int .i64 nm.2]) = some (.bool (decide (y = nm))) := by
        rw [← nm_beq]; exact be_eql_137
      simp -implicitDefEqProofs only [L82_0, zS, fa_112_6, ld_110, R.hl, ia, ld_127, hv, len_127, hlt, q1, ly, bd_137_0_1, hbe]
      by_cases hyn : y = nm
      · simp -implicitDefEqProofs only [decide_eq_true hyn, zS]
        rw [decide_eq_true (by rw [← hyn]; exact List.mem_of_getElem? hy)]
        exact ⟨by first | rfl | trivial, trivial⟩
      · simp -implicitDefEqProofs only [decide_eq_false hyn, zS, am, aq (n := (i : Int) + 1) (by omega) (by omega)]
        have := ih (i + 1) (fun j z hj hz => by
          rcases Nat.lt_or_ge j i with h1 | h1
          · exact hne j z h1 hz
          · have : j = i := by omega
            subst this
            rw [hy] at hz; cases hz; exact hyn) (by omega)
        rw [Int.natCast_add i 1] at this
        exact this
  exact main l.length 0 (fun j y hj => by omega) (by omega)
set_option maxHeartbeats 2000000 in
theorem c_rFits (R : RfR w g x s gn r d h) {i : Nat} {p : RgV × Bool} (hp' : x.rgs[i]? = some p) (hl : x.rgs.length ≤ 1000000) (n : Int) : CallR Tryz.prog 97 [.pointer (some ⟨g, 0, none⟩), .int .i64 i, .int .i64 n] w fun v w' => v = .bool (rfitsV p.1 x.c.2.2.1 (roundV p.1.cls n)) ∧ Chg [] w w' := by
  apply F97_ok
  simp -implicitDefEqProofs only [F97]
  obtain ⟨Fr, hFr⟩ := R.rT
  obtain ⟨b, c, rfl, cv, wv, ov, Q⟩ := rr_at hFr hp'
  obtain ⟨A, cc, rfl, hRc⟩ := ints_sh Q.cT
  have hi := (List.getElem?_eq_some_iff.1 hp').1
  have ia := ia_109 (b := b) (p := 0) (n := x.rgs.length) (c := c) (j := .i64) (i := (i : Int)) (by omega) (by omega)
  rw [Int.toNat_natCast, Nat.zero_add] at ia
  obtain ⟨Fw, hFw⟩ := Q.wT
  obtain ⟨Fo, hFo⟩ := Q.oT
  have one2 := ((good_words _).one hFw).2
  have one3 := ((good_objs _).one hFo).2
  simp -implicitDefEqProofs only [zS, aA, aE, R.rl, ia, ld_rg Q, al_126]
  rw [st_126 (by rfl) (by
    have oi : ∀ (k : IntKind) (x : Int), (Value.int k x).oneCell' = true := fun _ _ => rfl
    have ob : ∀ b, (Value.bool b).oneCell' = true := fun _ => rfl
    have os : ∀ a n c, (Value.slice a n c).oneCell' = true := fun _ _ _ => rfl
    show (List.all [_, _, _, _, _, _, wv, ov] _) = true; simp [one2, one3, oi, ob, os]) (by rw [aa, if_pos rfl]; rfl) (by rw [aa, if_pos rfl]; rfl), aa, if_pos rfl, ay]
  generalize hw1 : put (w.alloc _) w.heap.size _ _ = w1
  have c1 : Chg [] w w1 := by rw [← hw1]; exact ((Chg.refl _ _).alloc _).put (.inr (Nat.le_refl _)) _ _
  have a7 : hp w1 w.heap.size = some (.cells (rgA p (.slice A p.1.chunks.length cc) wv ov) 126) := by rw [← hw1]; exact ar (by simp) _ _
  clear hw1
  have R1 := R.keep c1
  have cd : Chg [] w w1.drew := c1.drew
  have e2 : (rgA p (.slice A p.1.chunks.length cc) wv ov)[0 + 2]? = some (.int .i64 p.1.cls) := rfl
  have e3 : (rgA p (.slice A p.1.chunks.length cc) wv ov)[0 + 3]? = some (.int .i64 p.1.off) := rfl
  have e5 : (rgA p (.slice A p.1.chunks.length cc) wv ov)[0 + 5]? = some (.slice A p.1.chunks.length cc) := rfl
  have hc2 : ldC (hp w1 g) (0 + 0 + 2) = some (.int .i64 x.c.2.2.1) := R1.c 2 (by omega)
  by_cases h0 : (0 : Int) < p.1.chunks.length
  · have h1 : 0 < p.1.chunks.length := by omega
    have rf : rfitsV p.1 x.c.2.2.1 (roundV p.1.cls n) = fitsV x.c.2.2.1 p.1.off (roundV p.1.cls n) := by rw [rfitsV, decide_eq_true h1, Bool.true_and]
    simp -implicitDefEqProofs only [zS, fa_126_5, fa_126_3, fa_126_2, fa_112_0, fa_23_2, ld_26, ac, a7, e2, e3, e5, len_26, h0, hc2, gt_iff_lt]
    rw [rf]
    repeat' (with_reducible apply And.intro)
    all_goals
      refine (c_rRound p.1.cls n w1.drew).step ?_
      try simp -implicitDefEqProofs only [zS, ac, show hp w1.drew w.heap.size = _ from a7, e3, show ldC (hp w1.drew g) (0 + 0 + 2) = _ from hc2, a7, hc2]
      refine (c_rFits2 x.c.2.2.1 p.1.off (roundV p.1.cls n) w1.drew).step ?_
      try simp -implicitDefEqProofs only [zS]
      exact ⟨by first | rfl | trivial, cd⟩
  · have h1 : ¬ 0 < p.1.chunks.length := by omega
    have rf : rfitsV p.1 x.c.2.2.1 (roundV p.1.cls n) = false := by rw [rfitsV, decide_eq_false h1]; rfl
    simp -implicitDefEqProofs only [zS, fa_126_5, fa_126_3, fa_126_2, fa_112_0, fa_23_2, ld_26, ac, a7, e2, e3, e5, len_26, h0, hc2, gt_iff_lt]
    rw [rf]
    first | exact ⟨by first | rfl | trivial, cd⟩ | (repeat' (with_reducible apply And.intro)) <;> first | exact cd | rfl | trivial
def takenX (L : List (RgV × Bool)) (ch : Int) : Bool := L.any fun p => p.2 && decide (ch ∈ p.1.chunks)
set_option maxHeartbeats 1000000 in
theorem c_rTaken (R : RfR w g x s gn r d h) (hl : x.rgs.length ≤ 1000000) (hcl : ∀ p ∈ x.rgs, p.1.chunks.length ≤ 1000000) (y : Int) : CallR Tryz.prog 99 [.pointer (some ⟨g, 0, none⟩), .int .i64 y] w fun v w' => v = .bool (takenX x.rgs y) ∧ Chg [] w w' := by
  apply F99_ok
  simp -implicitDefEqProofs only [F99]
  have main : ∀ (d i : Nat) (w1 : World), Chg [] w w1 → (∀ (j : Nat) (p : RgV × Bool), j < i → x.rgs[j]? = some p → (p.2 && decide (y ∈ p.1.chunks)) = false) → i + d = x.rgs.length →
      P99_0 (.pointer (some ⟨g, 0, none⟩)) (.int .i64 y) (.int .i64 i) w1 fun v w' => v = .bool (takenX x.rgs y) ∧ Chg [] w w' := by
    intro d
    induction d with
    | zero =>
      intro i w1 hc hn hi
      apply L99_0_ok
      obtain ⟨Fr, hFr⟩ := (R.keep hc).rT
      obtain ⟨A, c, _, _, e, _⟩ := isRow.rd hFr
      have hrl := (R.keep hc).rl
      rw [e] at hrl
      have : ¬ (i : Int) < x.rgs.length := by omega
      simp -implicitDefEqProofs only [L99_0, zS, aA, aE, hrl, len_109, this]
      refine ⟨?_, hc⟩
      have : takenX x.rgs y = false := by
        rw [takenX, List.any_eq_false]
        intro p hp'
        obtain ⟨j, hj⟩ := List.getElem?_of_mem hp'
        rw [hn j p (by have := (List.getElem?_eq_some_iff.1 hj).1; omega) hj]; simp
      rw [this]
    | succ d ih =>
      intro i w1 hc hn hi
      apply L99_0_ok
      have hlt : (i : Int) < x.rgs.length := by omega
      obtain ⟨p, hp'⟩ : ∃ p, x.rgs[i]? = some p := ⟨_, List.getElem?_eq_getElem (by omega)⟩
      have R1 := R.keep hc
      obtain ⟨Fr, hFr⟩ := R1.rT
      obtain ⟨b, c, hx, cv, wv, ov, Q⟩ := rr_at hFr hp'
      have hrl := R1.rl
      rw [hx] at hrl
      obtain ⟨A, cc, rfl, hRc⟩ := ints_sh Q.cT
      have ia := ia_109 (b := b) (p := 0) (n := x.rgs.length) (c := c) (j := .i64) (i := (i : Int)) (by omega) (by omega)
      rw [Int.toNat_natCast, Nat.zero_add] at ia
      have next : ∀ w3, Chg [] w w3 → (p.2 && decide (y ∈ p.1.chunks)) = false → P99_0 (.pointer (some ⟨g, 0, none⟩)) (.int .i64 y) (.int .i64 ((i : Int) + 1)) w3 fun v w' => v = .bool (takenX x.rgs y) ∧ Chg [] w w' := by
        intro w3 c3 hf
        have := ih (i + 1) w3 c3 (fun j r hj hr => by
          rcases Nat.lt_or_ge j i with h1 | h1
          · exact hn j r h1 hr
          · have : j = i := by omega
            subst this
            rw [hp'] at hr; cases hr; exact hf) (by omega)
        rw [Int.natCast_add i 1] at this
        exact this
      cases hp2 : p.2 with
      | false =>
        have c4 : ldC (hp w1 b) (i * 8 + 4) = some (.bool false) := by rw [Q.c4, hp2]
        simp -implicitDefEqProofs only [L99_0, zS, aA, aE, hrl, len_109, hlt, ia, fa_126_4, ld_4, c4, am, aq (n := (i : Int) + 1) (by omega) (by omega)]
        exact next w1 hc (by rw [hp2]; rfl)
      | true =>
        have c4 : ldC (hp w1 b) (i * 8 + 4) = some (.bool true) := by rw [Q.c4, hp2]
        simp -implicitDefEqProofs only [L99_0, zS, aA, aE, hrl, len_109, hlt, ia, fa_126_4, ld_4, c4, ld_rg Q]
        refine (c_rAt (p := p) (c := cc) hRc (hcl p (List.mem_of_getElem? hp')) y).mono ?_
        rintro _ w3 ⟨rfl, c3⟩
        have hge : decide (ixOf p.1.chunks y ≥ 0) = decide (y ∈ p.1.chunks) := ixOf_mem _ _
        by_cases hm : y ∈ p.1.chunks
        · rw [decide_eq_true hm] at hge
          have hge' := of_decide_eq_true hge
          simp -implicitDefEqProofs only [zS, aD, hge']
          refine ⟨?_, hc.trans c3⟩
          have : takenX x.rgs y = true := by
            rw [takenX, List.any_eq_true]
            exact ⟨p, List.mem_of_getElem? hp', by rw [hp2, decide_eq_true hm]; rfl⟩
          rw [this]
        · rw [decide_eq_false hm] at hge
          have hge' := of_decide_eq_false hge
          simp -implicitDefEqProofs only [zS, aD, hge', am, aq (n := (i : Int) + 1) (by omega) (by omega)]
          exact next w3 (hc.trans c3) (by rw [decide_eq_false hm]; simp)
  exact main x.rgs.length 0 w (Chg.refl _ _) (fun j r hj => by omega) (by omega)
theorem RfI.intPut {k : Nat} {L : List Int} (I : RfI w g x F) (hk : (rfT x)[k]? = some (intsT L)) {i : Nat} {y : Int} (hy : L[i]? = some y) :
    ∃ b c, ldC (hp w g) k = some (.slice (some ⟨b, 0, none⟩) L.length c) ∧ b ≠ g ∧ F b ∧ ldC (hp w b) i = some (.int .i64 y) ∧
      ∀ z, okC (hp w b) (i + 1) = true ∧ ∃ F1, isAt 112 g ((rfT x).set k (intsT (L.set i z))) (put w b ((getC (hp w b)).setIfInBounds i (.int .i64 z)) (getE (hp w b))) F1 ∧ UpdP F F1 w (put w b ((getC (hp w b)).setIfInBounds i (.int .i64 z)) (getE (hp w b))) := by
  have hj : ((ints L).map isV)[i]? = some (isV (.int .i64 y)) := by rw [ints, List.map_map, List.getElem?_map, hy]; rfl
  obtain ⟨b, c, v, Fk, hl, hbg, hFb, _, _, _, hld, hv, _, hput⟩ := isAt.row I (good_rf x) hk (good_ints (ints_int L)) hj
  refine ⟨b, c, hl, hbg, hFb, by rw [hld, hv.1], fun z => ?_⟩
  obtain ⟨ok, _, _, _, F1, h1, h2⟩ := hput w none' (isV (.int .i64 z)) (.int .i64 z) (UpdP.none hv.2 w) (aV _ _) ⟨rfl, fun _ h => h⟩
  have hset : ((ints L).map isV).set i (isV (.int .i64 z)) = (ints (L.set i z)).map isV := by rw [← List.map_set, flat_set1]
  rw [hset] at h1
  have e : intsT (L.set i z) = isRow 3 1 L.length ((ints (L.set i z)).map isV) := by rw [intsT, List.length_set]
  rw [e]
  exact ⟨ok, F1, h1, h2⟩
end
end Go.Proofs.YteapggpkgfiacaaGreat

namespace Go.Proofs.YteapggpkgfiacaaGreat
open Go Ev Go.RowKit

section
variable {w : World} {g : Nat} {x : RfV} {F : Fp}
theorem ints_row {n : Nat} (hn : n ≤ maxLen) {b : Nat} (hb : hp w b = some (.cells (ints (List.replicate n 0)).toArray 3)) : intsT (List.replicate n 0) w (fun k => k = b) (.slice (some ⟨b, 0, none⟩) n n) := by
  have h : w.ownsRow 0 3 1 (.slice (some ⟨b, 0, none⟩) n n) n (ints (List.replicate n 0)) :=
    ⟨by simp [ints], .inr ⟨b, n, _, rfl, Nat.zero_le _, hb, Nat.le_refl _, hn, by simp [ints], by simp [ints]⟩⟩
  have h2 := own_flat h
  have e : (fun k => (Value.slice (some ⟨b, 0, none⟩) n n).ownBlock = some k) = (fun k => k = b) := by
    funext k
    simp [Value.ownBlock, eq_comm]
  rw [e] at h2
  rw [intsT, List.length_replicate]
  exact h2
theorem holds_row {n : Nat} (hn : n ≤ maxLen) {b : Nat} (hb : hp w b = some (.cells (List.replicate n (Value.slice none 0 0)).toArray 127)) : holdsT (List.replicate n []) w (fun k => k = b) (.slice (some ⟨b, 0, none⟩) n n) := by
  have h : w.ownsRow 0 127 1 (.slice (some ⟨b, 0, none⟩) n n) n (List.replicate n (Value.slice none 0 0)) :=
    ⟨by simp, .inr ⟨b, n, _, rfl, Nat.zero_le _, hb, Nat.le_refl _, hn, by simp, by simp⟩⟩
  refine ⟨_, fun _ => none', by rw [List.length_replicate]; exact h, ⟨by simp, fun k P v hP hv => ?_, fun _ _ _ _ _ b hb _ => hb⟩, fun b ⟨_, _, hb⟩ => hb.elim, fun k => ⟨fun hk => .inl (by rw [hk]; rfl), fun hk => ?_⟩⟩
  · rw [List.getElem?_map, List.getElem?_replicate] at hP
    rw [List.getElem?_replicate] at hv
    split at hP
    · rename_i hk
      rw [if_pos hk] at hv
      cases hP; cases hv
      exact isRow.nil
    · cases hP
  · rcases hk with hk | ⟨_, _, hk⟩
    · simp [Value.ownBlock] at hk; exact hk.symm
    · exact hk.elim
theorem rf_parts {x : RfV} {sv gv rv dv hv : Value} {Fs Fg Fr Fd Fh : Fp} (hs : intsT x.state w Fs sv) (hg : intsT x.gen w Fg gv) (hr : rrsT x.rgs w Fr rv) (hd : intsT x.depth w Fd dv) (hh : holdsT x.holds w Fh hv)
    (dis : ∀ i j : Nat, i < 5 → j < 5 → i ≠ j → FDis ((fun k : Nat => if k = 0 then Fs else if k = 1 then Fg else if k = 2 then Fr else if k = 3 then Fd else Fh) i) ((fun k : Nat => if k = 0 then Fs else if k = 1 then Fg else if k = 2 then Fr else if k = 3 then Fd else Fh) j)) :
    Parts w (rfT x) (cfC x.c ++ [.bool x.loose, sv, gv, rv, dv, hv]) (fun k => if k < 7 then none' else (fun k : Nat => if k = 0 then Fs else if k = 1 then Fg else if k = 2 then Fr else if k = 3 then Fd else Fh) (k - 7)) := by
  refine ⟨rfl, fun k P v hP hv' => ?_, fun j k hj hk hjk => ?_⟩
  · have hk := (List.getElem?_eq_some_iff.1 hP).1
    have hk' : (rfT x).length = 12 := rfl
    rw [hk'] at hk
    have h12 : k = 0 ∨ k = 1 ∨ k = 2 ∨ k = 3 ∨ k = 4 ∨ k = 5 ∨ k = 6 ∨ k = 7 ∨ k = 8 ∨ k = 9 ∨ k = 10 ∨ k = 11 := by omega
    rcases h12 with rfl | rfl | rfl | rfl | rfl | rfl | rfl | rfl | rfl | rfl | rfl | rfl <;> cases hP <;> cases hv'
    · exact ⟨rfl, fun _ h => h⟩
    · exact ⟨rfl, fun _ h => h⟩
    · exact ⟨rfl, fun _ h => h⟩
    · exact ⟨rfl, fun _ h => h⟩
    · exact ⟨rfl, fun _ h => h⟩
    · exact ⟨rfl, fun _ h => h⟩
    · exact ⟨rfl, fun _ h => h⟩
    · exact hs
    · exact hg
    · exact hr
    · exact hd
    · exact hh
  · have hl : (rfT x).length = 12 := rfl
    rw [hl] at hj hk
    by_cases h1 : j < 7
    · simp only [if_pos h1]; exact fun _ h _ => h
    · by_cases h2 : k < 7
      · simp only [if_pos h2]; exact fun _ _ h => h
      · simp only [if_neg h1, if_neg h2]
        exact dis (j - 7) (k - 7) (by omega) (by omega) (by omega)
set_option maxHeartbeats 4000000 in
theorem c_rNew (c : CfV) (loose : Bool) (hm : mayC c = true) (w : World) : CallR Tryz.prog 35 [.agg (cfC c).toArray, .bool loose] w fun v w' => ∃ g F, v = .pointer (some ⟨g, 0, none⟩) ∧ Chg [] w w' ∧ RfI w' g (toRf (newM c loose)) F ∧ ∀ k, F k → w.heap.size ≤ k := by
  apply F35_ok
  have b2 : hp (w.alloc (.cells (cfC c).toArray 23)) w.heap.size = some (.cells (cfC c).toArray 23) := by rw [aa, if_pos rfl]
  have c0 : Chg [] w (w.alloc (.cells (cfC c).toArray 23)) := (Chg.refl _ _).alloc _
  simp -implicitDefEqProofs only [F35, ak, au]
  generalize w.alloc (.cells (cfC c).toArray 23) = w0 at *
  obtain ⟨h1, h2, h3, h4⟩ := may_cf hm
  have e3 : (cfC c).toArray[0 + 3]? = some (.int .i64 ((c.2.2.2.1.toNat : Nat) : Int)) := by rw [cf_3]; congr; omega
  have e0 : (cfC c).toArray[0 + 0]? = some (.int .i64 ((c.1.toNat : Nat) : Int)) := by rw [cf_0]; congr; omega
  have nm : toRf (newM c loose) = ⟨c, loose, List.replicate c.2.2.2.1.toNat 0, List.replicate c.2.2.2.1.toNat 0, [], List.replicate c.1.toNat 0, List.replicate c.1.toNat []⟩ := by simp [toRf, newM]
  have l1 : c.2.2.2.1.toNat ≤ 4096 := by omega
  have l2 : c.1.toNat ≤ 64 := by omega
  generalize c.2.2.2.1.toNat = ns at *
  generalize c.1.toNat = nh at *
  obtain ⟨ii, hii, hzi, hsi, hbi⟩ := inf_3
  obtain ⟨ik, hik, hzk, hsk, hbk⟩ := inf_127
  have mk1 : ∀ n, madeCells (Value.int .i64 0).cells (n * ii.size) = (ints (List.replicate n 0)).toArray := fun n => by
    apply Array.toList_inj.1
    rw [hsi, Nat.mul_one]
    have := toList_madeCells_one (Value.int .i64 0) n
    rw [ints, List.map_replicate]
    exact this
  have mk2 : madeCells (Value.slice none 0 0).cells (nh * ik.size) = (List.replicate nh (Value.slice none 0 0)).toArray := by
    apply Array.toList_inj.1
    rw [hsk, Nat.mul_one]
    exact toList_madeCells_one (Value.slice none 0 0) nh
  have hml : ns ≤ maxLen ∧ nh ≤ maxLen := by unfold maxLen; omega
  have fin : ∀ (w4 : World) (bs bg bd bh : Nat), Chg [] w w4 → hp w4 bs = some (.cells (ints (List.replicate ns 0)).toArray 3) → hp w4 bg = some (.cells (ints (List.replicate ns 0)).toArray 3) → hp w4 bd = some (.cells (ints (List.replicate nh 0)).toArray 3) → hp w4 bh = some (.cells (List.replicate nh (Value.slice none 0 0)).toArray 127) →
      w.heap.size ≤ bs ∧ w.heap.size ≤ bg ∧ w.heap.size ≤ bd ∧ w.heap.size ≤ bh ∧ bs ≠ bg ∧ bs ≠ bd ∧ bs ≠ bh ∧ bg ≠ bd ∧ bg ≠ bh ∧ bd ≠ bh →
      ∃ g F, Value.pointer (some ⟨w4.heap.size, 0, none⟩) = .pointer (some ⟨g, 0, none⟩) ∧ Chg [] w (w4.alloc (.cells (cfC c ++ [Value.bool loose, Value.slice (some ⟨bs, 0, none⟩) ns ns, Value.slice (some ⟨bg, 0, none⟩) ns ns, Value.slice none 0 0, Value.slice (some ⟨bd, 0, none⟩) nh nh, Value.slice (some ⟨bh, 0, none⟩) nh nh]).toArray 112)) ∧
        RfI (w4.alloc (.cells (cfC c ++ [Value.bool loose, Value.slice (some ⟨bs, 0, none⟩) ns ns, Value.slice (some ⟨bg, 0, none⟩) ns ns, Value.slice none 0 0, Value.slice (some ⟨bd, 0, none⟩) nh nh, Value.slice (some ⟨bh, 0, none⟩) nh nh]).toArray 112)) g (toRf (newM c loose)) F ∧ ∀ k, F k → w.heap.size ≤ k := by
    intro w4 bs bg bd bh c4 hs hg hd hh ⟨n1, n2, n3, n4, d1, d2, d3, d4, d5, d6⟩
    rw [nm]
    have hp' := rf_parts (w := w4) (x := ⟨c, loose, List.replicate ns 0, List.replicate ns 0, [], List.replicate nh 0, List.replicate nh []⟩) (ints_row hml.1 hs) (ints_row hml.1 hg) (Fr := none') (rv := .slice none 0 0) isRow.nil (ints_row hml.2 hd) (holds_row hml.2 hh) (by
      intro i j hi hj hij b hb1 hb2
      have hi' : i = 0 ∨ i = 1 ∨ i = 2 ∨ i = 3 ∨ i = 4 := by omega
      have hj' : j = 0 ∨ j = 1 ∨ j = 2 ∨ j = 3 ∨ j = 4 := by omega
      rcases hi' with rfl | rfl | rfl | rfl | rfl <;> rcases hj' with rfl | rfl | rfl | rfl | rfl <;> first
        | omega
        | (simp only [if_true, if_false, Nat.reduceEqDiff, none'] at hb1 hb2; omega)
        | (simp [none'] at hb1 hb2; omega)
        | (simp [none'] at hb1 hb2))
    refine ⟨w4.heap.size, _, rfl, c4.alloc _, isAt.new hp' (good_rf _), fun k hk => ?_⟩
    have sz := c4.size
    rcases hk with hk | ⟨j, _, hk⟩
    · omega
    · split at hk
      · exact hk.elim
      · repeat' split at hk
        · have : k = bs := hk; omega
        · have : k = bg := hk; omega
        · exact hk.elim
        · have : k = bd := hk; omega
        · have : k = bh := hk; omega
  have hbd : ∀ a b e f, pureRun Tryz.prog (Instr.build 112 #[(0, .agg (cfC c).toArray), (1, .bool loose), (2, .slice (some ⟨a, 0, none⟩) ns ns), (3, .slice (some ⟨b, 0, none⟩) ns ns), (5, .slice (some ⟨e, 0, none⟩) nh nh), (6, .slice (some ⟨f, 0, none⟩) nh nh)]) = some (.agg (cfC c ++ [Value.bool loose, Value.slice (some ⟨a, 0, none⟩) ns ns, Value.slice (some ⟨b, 0, none⟩) ns ns, Value.slice none 0 0, Value.slice (some ⟨e, 0, none⟩) nh nh, Value.slice (some ⟨f, 0, none⟩) nh nh]).toArray) := fun a b e f => bd_112_0_1_2_3_5_6
  have b2d : hp w0.drew w.heap.size = some (.cells (cfC c).toArray 23) := b2
  have cd := c0.drew
  have sz : w.heap.size ≤ w0.drew.heap.size := cd.size
  have ea : ∀ {P : Program} {w : World} {K : Value → World → Prop}, True := fun {P w K} => trivial
  simp -implicitDefEqProofs only [zS, fa_23_3, fa_23_0, ac, ld_cf b2d, b2, e3, e0, effv_make (P := Tryz.prog) (kl := .i64) (kc := .i64) (n := ns) Tryz.underlying26 hii hzi (by rw [hsi]; omega) (by rw [hbi]; omega) (by omega), effv_make (P := Tryz.prog) (kl := .i64) (kc := .i64) (n := nh) Tryz.underlying26 hii hzi (by rw [hsi]; omega) (by rw [hbi]; omega) (by omega),
    effv_make (P := Tryz.prog) (kl := .i64) (kc := .i64) (n := nh) Tryz.underlying110 hik hzk (by rw [hsk]; omega) (by rw [hbk]; omega) (by omega), mk1, mk2, hbd, ak, au]
  repeat' (with_reducible apply And.intro)
  all_goals
    refine fin _ _ _ _ _ ((((cd.alloc _).alloc _).alloc _).alloc _) ?_ ?_ ?_ ?_ ⟨?_, ?_, ?_, ?_, ?_, ?_, ?_, ?_, ?_, ?_⟩
    all_goals first
      | (simp only [aa, ae, if_true]; done)
      | ((try simp only [aa, ae, if_true]); (repeat' split) <;> first | rfl | omega)
      | ((try simp only [ae]); omega)
end
end Go.Proofs.YteapggpkgfiacaaGreat

namespace Go.Proofs.YteapggpkgfiacaaGreat
open Go Ev Go.RowKit

section
variable {W w : World} {g : Nat} {m : MdV} {F : Fp} {K : Nat}
structure MdW (W w : World) (g : Nat) (m : MdV) (K : Nat) (F : Fp) : Prop where
  chg : Chg [] W w
  I : MdI w g m F
  new : ∀ k, F k → W.heap.size ≤ k
  wf : Wf m K
theorem MdW.keep {w' : World} (h : MdW W w g m K F) (hc : Chg [] w w') : MdW W w' g m K F := ⟨h.chg.trans hc, h.I.keep hc, h.new, h.wf⟩
theorem MdW.upd {w' : World} {m' : MdV} {K' : Nat} {F' : Fp} (h : MdW W w g m K F) (I : MdI w' g m' F') (u : UpdP F F' w w') (wf : Wf m' K') : MdW W w' g m' K' F' := by
  have hs := h.chg.size
  refine ⟨⟨u.chg.os.trans h.chg.os, u.chg.tape.trans h.chg.tape, u.chg.output.trans h.chg.output, Nat.le_trans hs u.chg.size, fun k hk _ => ?_⟩, I, fun k hk => ?_, wf⟩
  · rw [u.chg.block k (Nat.lt_of_lt_of_le hk hs) fun hf => by have := h.new k hf; omega]
    exact h.chg.block k hk (by simp)
  · rcases u.sub k hk with h1 | h1
    · exact h.new k h1
    · omega


theorem bdh_ : pureRun Tryz.prog (Instr.build 38 #[]) = some (.agg (hnC noH).toArray) := ap fun w => run_build w 38 _ _ (by kernel_rfl)
theorem bdh_01 (x y : Int) : pureRun Tryz.prog (Instr.build 38 #[(0, .int .i64 x), (1, .int .i64 y)]) = some (.agg (hnC (x, y, 0, 0, 0)).toArray) := ap fun w => run_build w 38 _ _ (by kernel_rfl)
theorem bdr_ : pureRun Tryz.prog (Instr.build 40 #[]) = some (.agg (rsC noR).toArray) := ap fun w => run_build w 40 _ _ (by kernel_rfl)
theorem bdr_0 (x : Int) : pureRun Tryz.prog (Instr.build 40 #[(0, .int .i64 x)]) = some (.agg (rsC (codeR x)).toArray) := ap fun w => run_build w 40 _ _ (by kernel_rfl)
theorem bdr_1 (h : HnV) : pureRun Tryz.prog (Instr.build 40 #[(1, .agg (hnC h).toArray)]) = some (.agg (rsC (0, h, 0, 0)).toArray) := ap fun w => run_build w 40 _ _ (by kernel_rfl)
theorem st_hn {r : HnV} {b : Nat} {c : Array Value} {e : TypeId} (hb : hp w b = some (.cells c e)) (hs : c.size = 5) {L : World → Prop} : effu Tryz.prog (Instr.storeAt 38 (.pointer (some ⟨b, 0, none⟩)) (.agg (hnC r).toArray)) w L = L (put w b (hnC r).toArray e) := by
  rw [st_38 rfl rfl (by rw [hb, okC_some]; exact decide_eq_true (by omega)) (by rw [hb]; exact hs), hb]; rfl
end
end Go.Proofs.YteapggpkgfiacaaGreat

namespace Go.Proofs.YteapggpkgfiacaaGreat
open Go Ev Go.RowKit

section
variable {W w : World} {c : CfV} {loose : Bool}
end
end Go.Proofs.YteapggpkgfiacaaGreat

namespace Go.Proofs.YteapggpkgfiacaaGreat
open Go Ev Go.RowKit

abbrev HV := Int × Int × Int × Int × Int
abbrev ResV := Int × HV × Int × Int
structure SpV where
  wk : Int
  ix : Int
  op : OpV
  iv : Int
  pt : Int
  bk : Int
  rs : Int
  re : ResV
def spC (s : SpV) : List Value := [.int .i64 s.wk, .int .i64 s.ix, .int .i64 s.op.1, .int .i64 s.op.2.1, .int .i64 s.op.2.2.1, .int .i64 s.op.2.2.2.1, .int .u64 s.op.2.2.2.2.1, .int .u64 s.op.2.2.2.2.2,
  .int .i64 s.iv, .int .i64 s.pt, .int .i64 s.bk, .int .i64 s.rs, .int .i64 s.re.1, .int .i64 s.re.2.1.1, .int .i64 s.re.2.1.2.1, .int .i64 s.re.2.1.2.2.1, .int .i64 s.re.2.1.2.2.2.1, .int .i64 s.re.2.1.2.2.2.2, .int .i64 s.re.2.2.1, .int .u64 s.re.2.2.2]
theorem spC_len (s : SpV) : (spC s).length = 20 := rfl
def spA (s : SpV) : Array Value := (spC s).toArray
theorem sp0 (s : SpV) : (spA s)[0]? = some (.int .i64 s.wk) := rfl
theorem sp1 (s : SpV) : (spA s)[1]? = some (.int .i64 s.ix) := rfl
theorem sp8 (s : SpV) : (spA s)[8]? = some (.int .i64 s.iv) := rfl
theorem sp9 (s : SpV) : (spA s)[9]? = some (.int .i64 s.pt) := rfl
theorem sp10 (s : SpV) : (spA s)[10]? = some (.int .i64 s.bk) := rfl
theorem sp11 (s : SpV) : (spA s)[11]? = some (.int .i64 s.rs) := rfl
theorem pr_max3 {P : Program} {ts : Array TypeId} {t : TypeId} {k : IntKind} {a b c : Int} : pureRun P (Builtin.max_ ts t #[.int k a, .int k b, .int k c]) = some (.int k (if c > (if b > a then b else a) then c else (if b > a then b else a))) := ap fun w => by simp [Builtin.max_, Builtin.max2]
def ahead (a b : SpV) : Bool := decide (0 ≤ a.rs) && decide (a.rs < b.iv)
theorem c_Ahead (a b : SpV) (w : World) : CallR Tryz.prog 24 [.agg (spA a), .agg (spA b)] w fun v w' => v = .bool (ahead a b) ∧ Chg [] w w' := by
  apply F24_ok
  have hc : ∀ x y : Array Value, Chg [] w ((w.alloc (.cells x 42)).alloc (.cells y 42)) := fun x y => ((Chg.refl _ _).alloc _).alloc _
  by_cases h : 0 ≤ a.rs <;> simp -implicitDefEqProofs [F24, ak, sp11, sp8, h, ahead, hc]
theorem c_AheadRef (a b : SpV) (w : World) : CallR Tryz.prog 18 [.agg (spA a), .agg (spA b)] w fun v w' => v = .bool (ahead a b) ∧ Chg [] w w' := by
  apply F18_ok
  have hc : ∀ x y : Array Value, Chg [] w ((w.alloc (.cells x 42)).alloc (.cells y 42)) := fun x y => ((Chg.refl _ _).alloc _).alloc _
  by_cases h : 0 ≤ a.rs <;> simp -implicitDefEqProofs [F18, ak, sp11, sp8, h, ahead, hc]
def right (s : SpV) : Bool := decide (0 ≤ s.wk ∧ s.wk < 64 ∧ 0 ≤ s.iv ∧ (s.pt = -1 ∨ s.iv ≤ s.pt) ∧ (s.bk = -1 ∨ (s.pt ≠ -1 ∧ s.pt < s.bk)) ∧ (s.rs = -1 ∨ (s.pt ≠ -1 ∧ s.pt ≤ s.rs ∧ s.bk ≤ s.rs)))
theorem c_right (s : SpV) (w : World) : CallR Tryz.prog 23 [.agg (spA s)] w fun v w' => v = .bool (right s) ∧ Chg [] w w' := by
  apply F23_ok
  have hc : ∀ x : Array Value, Chg [] w (w.alloc (.cells x 42)) := fun x => (Chg.refl _ _).alloc _
  have no : ∀ (h : ¬ (0 ≤ s.wk ∧ s.wk < 64 ∧ 0 ≤ s.iv ∧ (s.pt = -1 ∨ s.iv ≤ s.pt) ∧ (s.bk = -1 ∨ (s.pt ≠ -1 ∧ s.pt < s.bk)) ∧ (s.rs = -1 ∨ (s.pt ≠ -1 ∧ s.pt ≤ s.rs ∧ s.bk ≤ s.rs)))), right s = false := fun h => decide_eq_false h
  have yes : ∀ (h : (0 ≤ s.wk ∧ s.wk < 64 ∧ 0 ≤ s.iv ∧ (s.pt = -1 ∨ s.iv ≤ s.pt) ∧ (s.bk = -1 ∨ (s.pt ≠ -1 ∧ s.pt < s.bk)) ∧ (s.rs = -1 ∨ (s.pt ≠ -1 ∧ s.pt ≤ s.rs ∧ s.bk ≤ s.rs)))), right s = true := fun h => decide_eq_true h
  by_cases h1 : s.wk < 0
  · simp -implicitDefEqProofs [F23, ak, sp0, h1, hc, no (by omega)]
  by_cases h2 : 64 ≤ s.wk
  · simp -implicitDefEqProofs [F23, ak, sp0, h1, h2, hc, no (by omega)]
  by_cases h3 : s.iv < 0
  · simp -implicitDefEqProofs [F23, ak, sp0, sp8, h1, h2, h3, hc, no (by omega)]
  by_cases h4 : s.pt = -1
  · by_cases h5 : s.bk = -1
    · by_cases h6 : s.rs = -1
      · simp -implicitDefEqProofs [F23, ak, sp0, sp8, sp9, sp10, sp11, h1, h2, h3, h4, h5, h6, hc, yes (by omega)]
      · simp -implicitDefEqProofs [F23, ak, sp0, sp8, sp9, sp10, sp11, h1, h2, h3, h4, h5, h6, eqf h6, hc, no (by omega)]
    · simp -implicitDefEqProofs [F23, ak, sp0, sp8, sp9, sp10, sp11, h1, h2, h3, h4, h5, bne_iff_ne.2 h5, hc, no (by omega)]
  have b4 : (s.pt != -1) = true := bne_iff_ne.2 h4
  have b4' : (s.pt == -1) = false := eqf h4
  by_cases h7 : s.pt < s.iv
  · simp -implicitDefEqProofs [F23, ak, sp0, sp8, sp9, sp10, sp11, h1, h2, h3, b4, b4', h7, hc, no (by omega)]
  have fin : (s.bk = -1 ∨ s.pt < s.bk) → ∃ v, True := fun _ => ⟨0, trivial⟩
  by_cases h5 : s.bk = -1
  · by_cases h6 : s.rs = -1
    · simp -implicitDefEqProofs [F23, ak, sp0, sp8, sp9, sp10, sp11, h1, h2, h3, b4, b4', h7, h5, h6, hc, yes (by omega)]
    · simp -implicitDefEqProofs [F23, ak, sp0, sp8, sp9, sp10, sp11, h1, h2, h3, b4, b4', h7, h5, eqf h6, pr_max3, hc]
      rw [right, decide_eq_decide]
      omega
  · by_cases h8 : s.bk ≤ s.pt
    · simp -implicitDefEqProofs [F23, ak, sp0, sp8, sp9, sp10, sp11, h1, h2, h3, b4, b4', h7, bne_iff_ne.2 h5, h8, hc, no (by omega)]
    · by_cases h6 : s.rs = -1
      · simp -implicitDefEqProofs [F23, ak, sp0, sp8, sp9, sp10, sp11, h1, h2, h3, b4, b4', h7, bne_iff_ne.2 h5, h8, h6, hc, yes (by omega)]
      · simp -implicitDefEqProofs [F23, ak, sp0, sp8, sp9, sp10, sp11, h1, h2, h3, b4, b4', h7, bne_iff_ne.2 h5, h8, eqf h6, pr_max3, hc]
        rw [right, decide_eq_decide]
        omega
end Go.Proofs.YteapggpkgfiacaaGreat

namespace Go.Proofs.YteapggpkgfiacaaGreat
open Go Ev Go.RowKit

theorem c_one (s : SpV) (w : World) : CallR Tryz.prog 16 [.agg (spA s)] w fun v w' => v = .bool (right s) ∧ Chg [] w w' := by
  apply F16_ok
  have hc : ∀ x : Array Value, Chg [] w (w.alloc (.cells x 42)) := fun x => (Chg.refl _ _).alloc _
  have no : ∀ (h : ¬ (0 ≤ s.wk ∧ s.wk < 64 ∧ 0 ≤ s.iv ∧ (s.pt = -1 ∨ s.iv ≤ s.pt) ∧ (s.bk = -1 ∨ (s.pt ≠ -1 ∧ s.pt < s.bk)) ∧ (s.rs = -1 ∨ (s.pt ≠ -1 ∧ s.pt ≤ s.rs ∧ s.bk ≤ s.rs)))), right s = false := fun h => decide_eq_false h
  have yes : ∀ (h : (0 ≤ s.wk ∧ s.wk < 64 ∧ 0 ≤ s.iv ∧ (s.pt = -1 ∨ s.iv ≤ s.pt) ∧ (s.bk = -1 ∨ (s.pt ≠ -1 ∧ s.pt < s.bk)) ∧ (s.rs = -1 ∨ (s.pt ≠ -1 ∧ s.pt ≤ s.rs ∧ s.bk ≤ s.rs)))), right s = true := fun h => decide_eq_true h
  by_cases h1 : s.wk < 0
  · simp -implicitDefEqProofs [F16, ak, sp0, h1, hc, no (by omega)]
  by_cases h2 : 64 ≤ s.wk
  · simp -implicitDefEqProofs [F16, ak, sp0, h1, h2, hc, no (by omega)]
  by_cases h3 : s.iv < 0
  · simp -implicitDefEqProofs [F16, ak, sp0, sp8, h1, h2, h3, hc, no (by omega)]
  by_cases h4 : s.pt = -1
  · by_cases h5 : s.bk = -1
    · by_cases h6 : s.rs = -1
      · simp -implicitDefEqProofs [F16, ak, sp0, sp8, sp9, sp10, sp11, h1, h2, h3, h4, h5, h6, hc, yes (by omega)]
      · simp -implicitDefEqProofs [F16, ak, sp0, sp8, sp9, sp10, sp11, h1, h2, h3, h4, h5, h6, eqf h6, hc, no (by omega)]
    · simp -implicitDefEqProofs [F16, ak, sp0, sp8, sp9, sp10, sp11, h1, h2, h3, h4, h5, bne_iff_ne.2 h5, hc, no (by omega)]
  have b4 : (s.pt != -1) = true := bne_iff_ne.2 h4
  by_cases h7 : s.pt < s.iv
  · simp -implicitDefEqProofs [F16, ak, sp0, sp8, sp9, sp10, sp11, h1, h2, h3, b4, h7, hc, no (by omega)]
  have h9 : ¬ s.pt < 0 := by omega
  have h9' : 0 ≤ s.pt := by omega
  by_cases h5 : s.bk = -1
  · by_cases h6 : s.rs = -1
    · simp -implicitDefEqProofs [F16, ak, sp0, sp8, sp9, sp10, sp11, h1, h2, h3, b4, h9, h9', h7, h5, h6, hc, yes (by omega)]
    · by_cases h10 : s.pt ≤ s.rs
      · simp -implicitDefEqProofs [F16, ak, sp0, sp8, sp9, sp10, sp11, h1, h2, h3, b4, h9, h9', h7, h5, eqf h6, h10, hc]
        rw [right, decide_eq_decide]
        omega
      · simp -implicitDefEqProofs [F16, ak, sp0, sp8, sp9, sp10, sp11, h1, h2, h3, b4, h9, h9', h7, h5, eqf h6, h10, hc, no (by omega)]
  · by_cases h8 : s.bk ≤ s.pt
    · simp -implicitDefEqProofs [F16, ak, sp0, sp8, sp9, sp10, sp11, h1, h2, h3, b4, h9, h9', h7, bne_iff_ne.2 h5, h8, hc, no (by omega)]
    · by_cases h6 : s.rs = -1
      · simp -implicitDefEqProofs [F16, ak, sp0, sp8, sp9, sp10, sp11, h1, h2, h3, b4, h9, h9', h7, bne_iff_ne.2 h5, h8, h6, hc, yes (by omega)]
      · by_cases h10 : s.pt ≤ s.rs
        · simp -implicitDefEqProofs [F16, ak, sp0, sp8, sp9, sp10, sp11, h1, h2, h3, b4, h9, h9', h7, bne_iff_ne.2 h5, h8, eqf h6, h10, hc]
          rw [right, decide_eq_decide]
          omega
        · simp -implicitDefEqProofs [F16, ak, sp0, sp8, sp9, sp10, sp11, h1, h2, h3, b4, h9, h9', h7, bne_iff_ne.2 h5, h8, eqf h6, h10, hc, no (by omega)]
theorem l_Index {xs : List Int} (hl : xs.length ≤ 4611686018427387904) {A : Option Addr} {c : Nat} {w : World} (hr : RdI .i64 w A xs) (x : Int) : ∀ (d i : Nat), i + d = xs.length →
    P62_0 (.slice A xs.length c) (.int .i64 x) (.int .i64 xs.length) (.int .i64 i) w fun v w' => (∃ k : Int, v = .int .i64 k ∧ (decide (0 ≤ k) = (xs.drop i).contains x)) ∧ w' = w := by
  intro d
  induction d with
  | zero =>
    intro i hi
    apply L62_0_ok
    have : ¬ ((i : Int) < xs.length) := by omega
    simp -implicitDefEqProofs only [L62_0, ab, bp_lss, this, z2z, aC]
    exact ⟨⟨-1, rfl, by rw [List.drop_of_length_le (by omega)]; rfl⟩, trivial⟩
  | succ d ih =>
    intro i hi
    apply L62_0_ok
    have hlt : (i : Int) < xs.length := by omega
    have hix : i < xs.length := by omega
    obtain ⟨q, hq1, hq2⟩ := hr.at (P := Tryz.prog) (c := c) (j := .i64) Tryz.underlying26 Tryz.underlying3 sz_3 (i := (i : Int)) (by omega) hlt
    have hd : xs.drop i = xs.getD i 0 :: xs.drop (i + 1) := by
      rw [List.drop_eq_getElem_cons hix, List.getD_eq_getElem?_getD, List.getElem?_eq_getElem hix]; rfl
    rw [Int.toNat_natCast] at hq2
    simp -implicitDefEqProofs only [L62_0, ab, bp_lss, hlt, z1z, aG, hq1, hq2, be_eql, hd, List.contains_cons]
    by_cases h : x = xs.getD i 0
    · have hb : (x == xs.getD i 0) = true := by rw [h]; simp
      simp -implicitDefEqProofs only [hb, aG, Bool.true_or]
      exact ⟨⟨i, rfl, by simp⟩, trivial⟩
    · have hb : (x == xs.getD i 0) = false := eqf h
      simp -implicitDefEqProofs only [hb, aC, am, ab, aq (n := (i : Int) + 1) (by omega) (by omega), Bool.false_or]
      have h := ih (i + 1) (by omega)
      rw [Int.natCast_add i 1] at h
      exact h
theorem c_Contains {xs : List Int} (hl : xs.length ≤ 4611686018427387904) {v : Value} {w : World} (hr : SlI w v xs) (x : Int) : CallR Tryz.prog 36 [v, .int .i64 x] w fun v w' => v = .bool (xs.contains x) ∧ w' = w := by
  obtain ⟨A, c, rfl, hr⟩ := hr
  apply F36_ok
  have hi : CallR Tryz.prog 62 [.slice A xs.length c, .int .i64 x] w fun v w' => (∃ k : Int, v = .int .i64 k ∧ (decide (0 ≤ k) = xs.contains x)) ∧ w' = w := by
    apply F62_ok
    simp -implicitDefEqProofs only [F62, len_26, ab]
    have := l_Index (c := c) hl hr x xs.length 0 (by omega)
    simp only [List.drop_zero] at this
    exact this
  refine hi.mono ?_
  rintro v w' ⟨⟨k, rfl, hk⟩, rfl⟩
  simp -implicitDefEqProofs only [aD, ab, hk]
  exact ⟨trivial, trivial⟩
def stps (s : SpV) : List Int := [s.iv, s.pt, s.bk, s.rs]
def shrd (a b : SpV) : Bool := (stps b).any fun x => (x != -1) && (stps a).contains x
theorem slI_lit {w : World} {g : Nat} {a b c d : Int} {e : TypeId} (h : hp w g = some (.cells #[.int .i64 a, .int .i64 b, .int .i64 c, .int .i64 d] e)) : SlI w (.slice (some ⟨g, 0, none⟩) 4 4) [a, b, c, d] := by
  refine ⟨some ⟨g, 0, none⟩, 4, rfl, fun i hi => ⟨_, rfl, ?_⟩⟩
  rw [addr_add, cell_ldC, h, aH]
  have hi : i < 4 := hi
  rcases (by omega : i = 0 ∨ i = 1 ∨ i = 2 ∨ i = 3) with rfl | rfl | rfl | rfl <;> rfl
theorem l_shared {a : List Int} (ha : a.length = 4) {b : List Int} (hb : b.length = 4) {w : World} {x5 x25 : Value} (h5 : SlI w x5 a) (h25 : SlI w x25 b) : ∀ (d i : Nat), i + d = 4 →
    P25_0 x5 x25 (.int .i64 4) (.int .i64 i) w fun v w' => v = .bool ((b.drop i).any fun x => (x != -1) && a.contains x) ∧ w' = w := by
  intro d
  induction d with
  | zero =>
    intro i hi
    apply L25_0_ok
    have : ¬ ((i : Int) < 4) := by omega
    simp -implicitDefEqProofs only [L25_0, ab, bp_lss, this, z2z, aC]
    exact ⟨by rw [List.drop_of_length_le (by omega)]; rfl, trivial⟩
  | succ d ih =>
    intro i hi
    apply L25_0_ok
    have hlt : (i : Int) < 4 := by omega
    have hix : i < b.length := by omega
    obtain ⟨B, c, rfl, hB⟩ := h25
    obtain ⟨q, hq1, hq2⟩ := hB.at (P := Tryz.prog) (c := c) (j := .i64) Tryz.underlying26 Tryz.underlying3 sz_3 (i := (i : Int)) (by omega) (by omega)
    have hd : b.drop i = b.getD i 0 :: b.drop (i + 1) := by
      rw [List.drop_eq_getElem_cons hix, List.getD_eq_getElem?_getD, List.getElem?_eq_getElem hix]; rfl
    rw [Int.toNat_natCast] at hq2
    simp -implicitDefEqProofs only [L25_0, ab, bp_lss, hlt, z1z, aG, hq1, hq2, be_neq, hd, List.any_cons]
    have next := ih (i + 1) (by omega)
    rw [Int.natCast_add i 1] at next
    by_cases h : b.getD i 0 = -1
    · have hb : (b.getD i 0 != -1) = false := by rw [h]; rfl
      simp -implicitDefEqProofs only [hb, gE_ft, aS, aC, ab, am, aq (n := (i : Int) + 1) (by omega) (by omega), Bool.false_and, Bool.false_or]
      exact next
    · have hb : (b.getD i 0 != -1) = true := bne_iff_ne.2 h
      simp -implicitDefEqProofs only [hb, gE_true, gv_true]
      refine (c_Contains (by omega) h5 _).step ?_
      cases hcn : a.contains (b.getD i 0)
      · simp -implicitDefEqProofs only [aZ, ab, aC, am, aq (n := (i : Int) + 1) (by omega) (by omega), Bool.and_false, Bool.false_or]
        exact next
      · simp -implicitDefEqProofs only [aZ, ab, aG, Bool.and_true, Bool.true_or]
        exact ⟨trivial, trivial⟩
theorem c_shared (a b : SpV) (w : World) : CallR Tryz.prog 25 [.agg (spA a), .agg (spA b)] w fun v w' => v = .bool (shrd a b) ∧ Chg [] w w' := by
  apply F25_ok
  simp -implicitDefEqProofs [F25, ak, sp8, sp9, sp10, sp11]
  have hc : Chg [] w ((((w.alloc (.cells (spA a) 42)).alloc (.cells (spA b) 42)).alloc (.cells #[.int .i64 a.iv, .int .i64 a.pt, .int .i64 a.bk, .int .i64 a.rs] 3)).alloc (.cells #[.int .i64 b.iv, .int .i64 b.pt, .int .i64 b.bk, .int .i64 b.rs] 3)) := ((((Chg.refl _ _).alloc _).alloc _).alloc _).alloc _
  have := l_shared (a := stps a) (b := stps b) rfl rfl (slI_lit (g := w.heap.size + 1 + 1) (e := 3) (by simp)) (slI_lit (w := ((((w.alloc (.cells (spA a) 42)).alloc (.cells (spA b) 42)).alloc (.cells #[.int .i64 a.iv, .int .i64 a.pt, .int .i64 a.bk, .int .i64 a.rs] 3)).alloc (.cells #[.int .i64 b.iv, .int .i64 b.pt, .int .i64 b.bk, .int .i64 b.rs] 3))) (g := w.heap.size + 1 + 1 + 1) (e := 3) (by simp)) 4 0 (by omega)
  refine Part.mono this ?_
  rintro v w' ⟨rfl, rfl⟩
  exact ⟨rfl, hc⟩
end Go.Proofs.YteapggpkgfiacaaGreat

namespace Go.Proofs.YteapggpkgfiacaaGreat
open Go Ev Go.RowKit

theorem Chg.putN {S : List Nat} {a w : World} {b : Nat} {c : Array Value} {e : TypeId} (h : Chg S a w) (hb : a.heap.size ≤ b) : Chg S a (put w b c e) := h.put (.inr hb) _ _
theorem callTo {P : Program} {f : FuncId} {args : List Value} {w w0 : World} {v0 : Value} (h : CallR P f args w fun v w' => v = v0 ∧ w' = w0) {K : Value → World → Prop} (hk : K v0 w0) : CallR P f args w K :=
  h.mono fun v w' ⟨h1, h2⟩ => by subst h1; subst h2; exact hk
theorem pr_indexArr {P : Program} {t e : TypeId} {z n b o : Nat} {j : IntKind} {i : Int} (h : P.underlying t = some (.array n e)) (hi : (P.info? e).map (·.size) = some z) (h0 : 0 ≤ i) (h1 : i < n) :
    pureRun P (Instr.indexAt t (.pointer (some ⟨b, o, none⟩)) (.int j i)) = some (.pointer (some ⟨b, o + i.toNat * z, none⟩)) := ap fun w => by
  obtain ⟨f, hf, hz⟩ := Option.map_eq_some_iff.1 hi
  have h2 : 0 ≤ i ∧ i < (n : Int) := ⟨h0, h1⟩
  simp [Instr.indexAt, asIntOf, run_underlying h, Instr.sureAddr, h2, sizeOf, typeInfo, hf, hz, addr_add]
def stC (s : SpV) : Array Value := #[.int .i64 s.iv, .int .i64 s.pt, .int .i64 s.bk, .int .i64 s.rs]
theorem c_steps (s : SpV) (w : World) : CallR Tryz.prog 33 [.agg (spA s)] w fun v w' => v = .agg (stC s) ∧ w' = put ((w.alloc (.cells (spA s) 42)).alloc (.cells #[.int .i64 0, .int .i64 0, .int .i64 0, .int .i64 0] 67)) (w.heap.size + 1) (stC s) 67 := by
  apply F33_ok
  simp -implicitDefEqProofs [F33, ak, sp8, sp9, sp10, sp11, st_67, ld_67, stC]
theorem stC_get (s : SpV) (i : Nat) (h : i < 4) : (stC s)[i]? = some (.int .i64 ((stps s).getD i 0)) := by
  rcases (by omega : i = 0 ∨ i = 1 ∨ i = 2 ∨ i = 3) with rfl | rfl | rfl | rfl <;> rfl
def shar (a b : SpV) : Bool := (stps a).any fun x => (stps b).any fun y => decide (0 ≤ x) && (x == y)
theorem drop_getD (b : List Int) (i : Nat) (h : i < b.length) : b.drop i = b.getD i 0 :: b.drop (i + 1) := by
  rw [List.drop_eq_getElem_cons h, List.getD_eq_getElem?_getD, List.getElem?_eq_getElem h]; rfl
theorem l_share2 {a b : SpV} {g k : Nat} (w0 : World) {i : Nat} (hi4 : i < 4) (w : World) (hg : hp w g = some (.cells (stC a) 67)) (hk : hp w k = some (.cells (stC b) 67)) (r : Bool)
    (next : ∀ w' : World, hp w' g = some (.cells (stC a) 67) → hp w' k = some (.cells (stC b) 67) → Chg [] w w' → P17_1 (.pointer (some ⟨g, 0, none⟩)) (.pointer (some ⟨k, 0, none⟩)) (.int .i64 ((i : Int) + 1)) w' fun v w' => v = .bool r ∧ Chg [] w w') :
    ∀ (d j : Nat) (w' : World), hp w' g = some (.cells (stC a) 67) → hp w' k = some (.cells (stC b) 67) → Chg [] w w' → j + d = 4 →
      P17_2 (.pointer (some ⟨g, 0, none⟩)) (.pointer (some ⟨k, 0, none⟩)) (.int .i64 i) (.int .i64 j) w' fun v w' => v = .bool (((stps b).drop j).any (fun y => decide (0 ≤ (stps a).getD i 0) && ((stps a).getD i 0 == y)) || r) ∧ Chg [] w w' := by
  intro d
  induction d with
  | zero =>
    intro j w' hg hk hc hj
    apply L17_2_ok
    have : ¬ ((j : Int) < 4) := by omega
    simp -implicitDefEqProofs only [L17_2, ab, bp_lss, this, z2z, aC, am, aq (n := (i : Int) + 1) (by omega) (by omega)]
    have e : (stps b).drop j = [] := List.drop_of_length_le (by simp [stps]; omega)
    rw [e, List.any_nil, Bool.false_or]
    exact next w' hg hk hc
  | succ d ih =>
    intro j w' hg hk hc hj
    apply L17_2_ok
    have hlt : (j : Int) < 4 := by omega
    have ja : j < 4 := by omega
    have i1 := pr_indexArr (P := Tryz.prog) (b := g) (o := 0) (j := .i64) (i := (i : Int)) Tryz.underlying67 sz_3 (by omega) (by omega)
    have i2 := pr_indexArr (P := Tryz.prog) (b := k) (o := 0) (j := .i64) (i := (j : Int)) Tryz.underlying67 sz_3 (by omega) (by omega)
    have e1 : 0 + (i : Int).toNat * 1 = i := by omega
    have e2 : 0 + (j : Int).toNat * 1 = j := by omega
    rw [e1] at i1
    rw [e2] at i2
    have nx := ih (j + 1) w'.drew hg hk hc.drew (by omega)
    rw [Int.natCast_add j 1] at nx
    have hd := drop_getD (stps b) j (by simp [stps]; omega)
    generalize hx : (stps a).getD i 0 = x at *
    generalize hy : (stps b).getD j 0 = y at *
    have ga := stC_get a i hi4
    have gb := stC_get b j ja
    rw [hx] at ga
    rw [hy] at gb
    simp -implicitDefEqProofs only [L17_2, ab, bp_lss, hlt, z1z, aG, i1, i2, ac, aT, hg, hk, aH, ga, gb, aD, hd, List.any_cons]
    by_cases h0 : 0 ≤ x
    · simp -implicitDefEqProofs only [h0, z1z, gd_true, gv_true, i1, i2, ac, aT, hg, hk, aH, ga, gb, ab, be_eql, aZ, Bool.true_and]
      by_cases hxy : x = y
      · have : (x == y) = true := by rw [hxy]; simp
        simp -implicitDefEqProofs only [this, aG, Bool.true_or]
        exact ⟨trivial, hc.drew⟩
      · simp -implicitDefEqProofs only [eqf hxy, aC, am, ab, aq (n := (j : Int) + 1) (by omega) (by omega), Bool.false_or]
        simp only [h0, decide_true, Bool.true_and] at nx ⊢
        exact nx
    · simp -implicitDefEqProofs only [h0, z2z, gd_ft, gv_ft, ab, aS, aC, am, aq (n := (j : Int) + 1) (by omega) (by omega), Bool.false_and, Bool.false_or]
      simp only [h0, decide_false, Bool.false_and] at nx ⊢
      exact nx
theorem l_share1 {a b : SpV} {g k : Nat} : ∀ (d i : Nat) (w : World), hp w g = some (.cells (stC a) 67) → hp w k = some (.cells (stC b) 67) → i + d = 4 →
    P17_1 (.pointer (some ⟨g, 0, none⟩)) (.pointer (some ⟨k, 0, none⟩)) (.int .i64 i) w fun v w' => v = .bool (((stps a).drop i).any fun x => (stps b).any fun y => decide (0 ≤ x) && (x == y)) ∧ Chg [] w w' := by
  intro d
  induction d with
  | zero =>
    intro i w hg hk hi
    apply L17_1_ok
    have : ¬ ((i : Int) < 4) := by omega
    simp -implicitDefEqProofs only [L17_1, ab, bp_lss, this, z2z, aC]
    exact ⟨by rw [List.drop_of_length_le (by simp [stps]; omega)]; rfl, Chg.refl _ _⟩
  | succ d ih =>
    intro i w hg hk hi
    apply L17_1_ok
    have hlt : (i : Int) < 4 := by omega
    simp -implicitDefEqProofs only [L17_1, ab, bp_lss, hlt, z1z, aG]
    have := l_share2 (a := a) (b := b) w (i := i) (by omega) w hg hk (((stps a).drop (i + 1)).any fun x => (stps b).any fun y => decide (0 ≤ x) && (x == y)) (fun w' hg' hk' hc => by
      have h := ih (i + 1) w' hg' hk' (by omega)
      rw [Int.natCast_add i 1] at h
      refine Part.mono h ?_
      rintro v w'' ⟨hv, hc'⟩
      exact ⟨hv, hc.trans hc'⟩) 4 0 w hg hk (Chg.refl _ _) (by omega)
    rw [drop_getD (stps a) i (by simp [stps]; omega), List.any_cons]
    exact this
set_option maxHeartbeats 4000000 in
theorem c_share (a b : SpV) (w : World) : CallR Tryz.prog 17 [.agg (spA a), .agg (spA b)] w fun v w' => v = .bool (shar a b) ∧ Chg [] w w' := by
  have fin : ∀ (g k : Nat) (w' : World), hp w' g = some (.cells (stC a) 67) → hp w' k = some (.cells (stC b) 67) → Chg [] w w' → P17_0 (.pointer (some ⟨g, 0, none⟩)) (.pointer (some ⟨k, 0, none⟩)) w' fun v w' => v = .bool (shar a b) ∧ Chg [] w w' := by
    intro g k w' hg hk hc
    apply L17_0_ok
    refine Part.mono (l_share1 (a := a) (b := b) 4 0 w' hg hk (by omega)) ?_
    rintro v w'' ⟨hv, hc'⟩
    exact ⟨hv, hc.trans hc'⟩
  have l20 : ∀ (s : SpV) (e : TypeId) (f : Nat × Nat), ldL (some (.cells (spA s) e f)) 0 20 = some (spC s) := fun s e f => ldL_some (c := spA s) (Nat.le_refl _)
  have fold : ∀ s : SpV, (spC s).toArray = spA s := fun s => rfl
  have sz4 : ∀ s : SpV, (stC s).size = 4 := fun s => rfl
  have on4 : ∀ s : SpV, (stC s).toList.all (·.oneCell') = true := fun s => rfl
  apply F17_ok
  simp -implicitDefEqProofs only [F17, ak, au, ae]
  repeat' apply And.intro
  all_goals
    simp -implicitDefEqProofs [ld_42, l20, fold]
    refine callTo (c_steps _ _) ?_
    try simp -implicitDefEqProofs [ld_42, l20, fold]
    refine callTo (c_steps _ _) ?_
    try simp -implicitDefEqProofs [st_67, sz4, on4]
    refine fin _ _ _ (by simp) (by simp) ?_
    repeat' first
      | with_reducible apply Chg.alloc
      | with_reducible apply Chg.putN
      | with_reducible apply Chg.drew
      | with_reducible exact Chg.refl _ _
      | omega
end Go.Proofs.YteapggpkgfiacaaGreat

namespace Go.Proofs.YteapggpkgfiacaaGreat
open Go Ev Go.RowKit

theorem stps_right {s : SpV} (h : right s = true) : ∀ x ∈ stps s, x = -1 ∨ 0 ≤ x := by
  have h := of_decide_eq_true h
  intro x hx
  simp [stps] at hx
  omega
theorem shr_eq {a b : SpV} (h : right b = true) : shrd a b = shar b a := by
  have hb := stps_right h
  unfold shrd shar
  rw [Bool.eq_iff_iff]
  simp only [List.any_eq_true, Bool.and_eq_true, bne_iff_ne, ne_eq, List.contains_iff_mem, decide_eq_true_eq, beq_iff_eq]
  constructor
  · rintro ⟨x, hx, h1, h2⟩
    exact ⟨x, hx, x, h2, by rcases hb x hx with h | h; exact absurd h h1; exact h, rfl⟩
  · rintro ⟨x, hx, y, hy, h1, rfl⟩
    exact ⟨x, hx, by omega, hy⟩
def clash (a s : SpV) : Bool := (decide (a.wk = s.wk) && (!(ahead a s) || decide (s.ix ≤ a.ix))) || shrd a s
def okAt (l : List SpV) (i : Nat) : Prop := ∀ s, l[i]? = some s → right s = true ∧ (∀ p, 0 < i → l[i - 1]? = some p → p.iv < s.iv) ∧ ∀ k a, k < i → l[k]? = some a → clash a s = false
def mayL (l : List SpV) : Prop := ∀ i, i < l.length → okAt l i
def SlP (w : World) (v : Value) (l : List SpV) : Prop := ∃ A c, v = .slice A l.length c ∧ RdV w A (l.flatMap spC)
theorem SlP.keep {w w' : World} {v : Value} {l : List SpV} (h : SlP w v l) (hb : Below w.heap.size w w') : SlP w' v l := by
  obtain ⟨A, c, h1, h2⟩ := h
  exact ⟨A, c, h1, h2.keep hb⟩
end Go.Proofs.YteapggpkgfiacaaGreat

