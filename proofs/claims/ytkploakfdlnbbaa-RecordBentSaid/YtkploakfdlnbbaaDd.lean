/- Operations out of bytes: both readers read the same one. -/
import Derived.Test.YtkploakfdlnbbaaDc
namespace Go.Proofs.Ytkploakfdlnbbaa
open Go Ev Go.RowKit
set_option linter.unusedSimpArgs false
set_option linter.unusedVariables false
set_option maxRecDepth 10000

/-- an operation: kind, from, at, n, v, w -/
abbrev OpV := Int × Int × Int × Int × Int × Int
def opC (o : OpV) : List Value := [.int .i64 o.1, .int .i64 o.2.1, .int .i64 o.2.2.1, .int .i64 o.2.2.2.1, .int .u64 o.2.2.2.2.1, .int .u64 o.2.2.2.2.2]
theorem opC_len (o : OpV) : (opC o).length = 6 := rfl
def pIf (b : Bool) (n : Nat) (s : Rst) : Int × Rst := if b then pNum n s else (0, s)
theorem pIf_t (n : Nat) (s : Rst) : pIf true n s = pNum n s := rfl
theorem pIf_f (n : Nat) (s : Rst) : pIf false n s = (0, s) := rfl
def pOp (s : Rst) : OpV × Rst :=
  let k := pNum 1 s
  let b := !decide (ofK k.1 = 0)
  let f := pIf b 1 k.2
  let a := pIf b 2 f.2
  let n := pIf (nB k.1) 2 a.2
  let v := pIf (vB k.1) 8 n.2
  let w := pIf (wB k.1) 8 v.2
  ((k.1, f.1, a.1, n.1, v.1, w.1), w.2)
theorem pIf_bytes {b : Bool} {n : Nat} {s : Rst} (h : IsBytes s.1) : IsBytes (pIf b n s).2.1 := by
  unfold pIf; split
  · exact pNum_bytes h
  · exact h
theorem pOp_bytes {s : Rst} (h : IsBytes s.1) : IsBytes (pOp s).2.1 := pIf_bytes (pIf_bytes (pIf_bytes (pIf_bytes (pIf_bytes (pNum_bytes h)))))
/-- the reference's reader, by what is left -/
def RQ (B : List Int) (w : World) (r : Nat) (s : Rst) : Prop := ∃ a, RR w r B a s.2 ∧ s.1 = B.drop a ∧ a ≤ B.length
theorem RQ.chg {w w' : World} {S : List Nat} {r : Nat} {B : List Int} {s : Rst} (h : RQ B w r s) (hc : Chg S w w') (hr : ∀ k ∈ S, r < k) : RQ B w' r s := by
  obtain ⟨a, h1, h2⟩ := h
  exact ⟨a, h1.chg hc hr, h2⟩
theorem c_lowQ {r : Nat} {B : List Int} (hB : B.length ≤ 4611686018427387904) {s : Rst} (hs : IsBytes B) {w : World} (hr : RQ B w r s) {n : Nat} (hn : n ≤ 8) :
    CallR Try.prog 58 [.pointer (some ⟨r, 0, none⟩), .int .i64 n] w fun v w' => v = .int .u64 (pNum n s).1 ∧ RQ B w' r (pNum n s).2 ∧ Chg [r] w w' := by
  obtain ⟨a, h1, h2, h3⟩ := hr
  have e : s = (B.drop a, s.2) := by rw [← h2]
  refine (c_low hs h1 h3 hB hn).mono ?_
  rw [← e]
  rintro v w' ⟨hv, hR, hc⟩
  refine ⟨hv, ⟨_, hR, ?_, ?_⟩, hc⟩
  · have := pAt_drop n a B s.2
    rw [← e] at this; exact this.symm
  · have := pAt_le n a B s.2 h3
    rw [← e] at this; exact this
/-- an operation's variable, and the answer's, beside a reader -/
structure Mid (w0 w : World) (r g2 g3 : Nat) (c : Array Value) : Prop where
  h2 : hp w g2 = some (.cells #[.int .i64 0, .int .i64 0, .int .i64 0, .int .i64 0, .int .u64 0, .int .u64 0] 52)
  h3 : hp w g3 = some (.cells c 52)
  lt : r < g2
  lt3 : g2 < g3
  ge : w0.heap.size ≤ g2
  ch : Chg [r] w0 w
theorem Mid.step {w0 w w' : World} {r g2 g3 : Nat} {c : Array Value} (h : Mid w0 w r g2 g3 c) (hc : Chg [r] w w') : Mid w0 w' r g2 g3 c :=
  ⟨hc.at h.h2 (by have := h.lt; simp; omega), hc.at h.h3 (by have := h.lt; have := h.lt3; simp; omega), h.lt, h.lt3, h.ge, h.ch.trans hc⟩
theorem Mid.put {w0 w : World} {r g2 g3 : Nat} {c : Array Value} (h : Mid w0 w r g2 g3 c) (c' : Array Value) : Mid w0 (put w g3 c' 52) r g2 g3 c' :=
  ⟨by rw [put_heap, if_neg (by have := h.lt3; omega)]; exact h.h2, by rw [put_heap, if_pos rfl, if_pos (blk_lt h.h3)], h.lt, h.lt3, h.ge, h.ch.put (.inr (by have := h.ge; have := h.lt3; omega)) _ _⟩
theorem Mid.chg {w0 w : World} {r g2 g3 : Nat} {c : Array Value} (h : Mid w0 w r g2 g3 c) (c' : Array Value) : Chg [g3] w (Ev.put w g3 c' 52) := (Chg.refl _ _).put (.inl (by simp)) _ _
theorem Mid.make {w0 w : World} {r g2 : Nat} (h2 : hp w g2 = some (.cells #[.int .i64 0, .int .i64 0, .int .i64 0, .int .i64 0, .int .u64 0, .int .u64 0] 52)) (lt : r < g2) (ge : w0.heap.size ≤ g2) (ch : Chg [r] w0 w) (c c' : Array Value) :
    Mid w0 (Ev.put (w.alloc (.cells c 52)) w.heap.size c' 52) r g2 w.heap.size c' := by
  have h3 := blk_lt h2
  exact ⟨by rw [put_heap, if_neg (by omega), alloc_heap, if_neg (by omega)]; exact h2, by rw [put_heap, if_pos rfl, if_pos (by simp)], lt, h3, ge, (ch.alloc _).put (.inr (by have := ch.size; omega)) _ _⟩
theorem oneAll (o : OpV) : (opC o).toArray.toList.all (·.oneCell') = true := rfl
@[simp] theorem num2 {s : Rst} (h : IsBytes s.1) : IntKind.i64.wrap (pNum 2 s).1 = (pNum 2 s).1 := by
  have := pNum_bound (n := 2) h
  exact wrapi (by omega) (by have e : (2 : Int) ^ (8 * 2) = 65536 := by decide
                             omega)
@[simp] theorem num1 {s : Rst} (h : IsBytes s.1) : IntKind.i64.wrap (pNum 1 s).1 = (pNum 1 s).1 := by
  have := pNum_bound (n := 1) h
  exact wrapi (by omega) (by have e : (2 : Int) ^ (8 * 1) = 256 := by decide
                             omega)
/-! ### the program's -/
def Got (R : World → Nat → Rst → Prop) (w0 : World) (r : Nat) (o : OpV × Rst) (v : Value) (w' : World) : Prop := v = .agg (opC o.1).toArray ∧ R w' r o.2 ∧ Chg [r] w0 w'
theorem m3 {w0 w : World} {r g2 g3 : Nat} {o : OpV} {s : Rst} (h : Mid w0 w r g2 g3 (opC o).toArray) (hR : RS w r s) : P56_3 (.pointer (some ⟨g2, 0, none⟩)) (.pointer (some ⟨g3, 0, none⟩)) w (Got RS w0 r (o, s)) := by
  apply L56_3_ok
  have hlt := blk_lt h.h2
  simp -implicitDefEqProofs [L56_3, ld_52, st_52, h.h3, h.h2, hlt, opC]
  have hch : Chg [g2] w (put w g2 (opC o).toArray 52) := (Chg.refl _ _).put (.inl (by simp)) _ _
  exact ⟨rfl, hR.chg hch (by simpa using h.lt), h.ch.put (.inr h.ge) _ _⟩
theorem m2 {w0 w : World} {r g2 g3 : Nat} {k f a n v : Int} {s : Rst} (hs : IsBytes s.1) (x : Bool) (h : Mid w0 w r g2 g3 (opC (k, f, a, n, v, 0)).toArray) (hR : RS w r s) :
    P56_2 (.pointer (some ⟨r, 0, none⟩)) (.pointer (some ⟨g2, 0, none⟩)) (.pointer (some ⟨g3, 0, none⟩)) (.bool x) w (Got RS w0 r ((k, f, a, n, v, (pIf x 8 s).1), (pIf x 8 s).2)) := by
  apply L56_2_ok
  cases x with
  | false =>
    simp -implicitDefEqProofs only [L56_2, cnd_false]
    exact m3 h hR
  | true =>
    simp -implicitDefEqProofs only [L56_2, cnd_true]
    refine (c_num hs hR (n := 8) (by omega)).mono ?_
    rintro v w1 ⟨rfl, hR1, hc1⟩
    have h1 := h.step hc1
    simp -implicitDefEqProofs [st_33, h1.h3, opC]
    exact m3 (o := (k, f, a, n, _, (pNum 8 s).1)) (h1.put _) (hR1.chg (h1.chg _) (by have := h.lt; have := h.lt3; simp; omega))
theorem m1 {w0 w : World} {r g2 g3 : Nat} {k f a n : Int} {s : Rst} (hs : IsBytes s.1) (x y : Bool) (h : Mid w0 w r g2 g3 (opC (k, f, a, n, 0, 0)).toArray) (hR : RS w r s) :
    P56_1 (.pointer (some ⟨r, 0, none⟩)) (.pointer (some ⟨g2, 0, none⟩)) (.pointer (some ⟨g3, 0, none⟩)) (.bool x) (.bool y) w (Got RS w0 r ((k, f, a, n, (pIf x 8 s).1, (pIf y 8 (pIf x 8 s).2).1), (pIf y 8 (pIf x 8 s).2).2)) := by
  apply L56_1_ok
  cases x with
  | false =>
    simp -implicitDefEqProofs only [L56_1, cnd_false]
    exact m2 hs y h hR
  | true =>
    simp -implicitDefEqProofs only [L56_1, cnd_true]
    refine (c_num hs hR (n := 8) (by omega)).mono ?_
    rintro v w1 ⟨rfl, hR1, hc1⟩
    have h1 := h.step hc1
    simp -implicitDefEqProofs [st_33, h1.h3, opC]
    exact m2 (v := (pNum 8 s).1) (pNum_bytes hs) y (h1.put _) (hR1.chg (h1.chg _) (by have := h.lt; have := h.lt3; simp; omega))
theorem m0 {w0 w : World} {r g2 g3 : Nat} {k f a : Int} {s : Rst} (hs : IsBytes s.1) (z x y : Bool) (h : Mid w0 w r g2 g3 (opC (k, f, a, 0, 0, 0)).toArray) (hR : RS w r s) :
    P56_0 (.pointer (some ⟨r, 0, none⟩)) (.pointer (some ⟨g2, 0, none⟩)) (.pointer (some ⟨g3, 0, none⟩)) (.bool z) (.bool x) (.bool y) w (Got RS w0 r ((k, f, a, (pIf z 2 s).1, (pIf x 8 (pIf z 2 s).2).1, (pIf y 8 (pIf x 8 (pIf z 2 s).2).2).1), (pIf y 8 (pIf x 8 (pIf z 2 s).2).2).2)) := by
  apply L56_0_ok
  cases z with
  | false =>
    simp -implicitDefEqProofs only [L56_0, cnd_false]
    exact m1 hs x y h hR
  | true =>
    simp -implicitDefEqProofs only [L56_0, cnd_true]
    refine (c_num hs hR (n := 2) (by omega)).mono ?_
    rintro v w1 ⟨rfl, hR1, hc1⟩
    have h1 := h.step hc1
    simp -implicitDefEqProofs [st_3, h1.h3, opC, num2 hs]
    exact m1 (n := (pNum 2 s).1) (pNum_bytes hs) x y (h1.put _) (hR1.chg (h1.chg _) (by have := h.lt; have := h.lt3; simp; omega))
theorem c_rop {r : Nat} {s : Rst} (hs : IsBytes s.1) {w : World} (hr : RS w r s) : CallR Try.prog 56 [.pointer (some ⟨r, 0, none⟩)] w (Got RS w r (pOp s)) := by
  have hlt : r < w.heap.size := by obtain ⟨A, c, hb, _⟩ := hr; exact blk_lt hb
  apply F56_ok
  simp -implicitDefEqProofs only [F56, al_52]
  have hca : Chg [] w (w.alloc (.cells #[.int .i64 0, .int .i64 0, .int .i64 0, .int .i64 0, .int .u64 0, .int .u64 0] 52)) := (Chg.refl _ _).alloc _
  refine (c_num (n := 1) hs (hr.chg hca (by simp)) (by omega)).mono ?_
  rintro v w1 ⟨rfl, hR1, hc1⟩
  have ch1 : Chg [r] w w1 := (hca.mono (by simp)).trans hc1
  have h2 := hc1.at (b := w.heap.size) (by rw [alloc_heap, if_pos rfl]) (by simp; omega)
  have hM := Mid.make (w0 := w) h2 hlt (Nat.le_refl _) ch1 #[.int .i64 0, .int .i64 0, .int .i64 0, .int .i64 0, .int .u64 0, .int .u64 0] (opC ((pNum 1 s).1, 0, 0, 0, 0, 0)).toArray
  have hR2 : RS (put (w1.alloc (.cells #[.int .i64 0, .int .i64 0, .int .i64 0, .int .i64 0, .int .u64 0, .int .u64 0] 52)) w1.heap.size (opC ((pNum 1 s).1, 0, 0, 0, 0, 0)).toArray 52) r (pNum 1 s).2 := by
    refine hR1.chg (S := [w1.heap.size]) (((Chg.refl _ _).alloc _).put (.inl (by simp)) _ _) ?_
    have := ch1.size
    simp; omega
  simp -implicitDefEqProofs [num1 hs, st_52, show (opC ((pNum 1 s).1, 0, 0, 0, 0, 0)).toArray = #[.int .i64 (pNum 1 s).1, .int .i64 0, .int .i64 0, .int .i64 0, .int .u64 0, .int .u64 0] from rfl] at hM hR2 ⊢
  generalize hwp : put (w1.alloc (.cells #[.int .i64 0, .int .i64 0, .int .i64 0, .int .i64 0, .int .u64 0, .int .u64 0] 52)) w1.heap.size #[.int .i64 (pNum 1 s).1, .int .i64 0, .int .i64 0, .int .i64 0, .int .u64 0, .int .u64 0] 52 = w2 at *
  generalize w1.heap.size = g3 at *
  refine (c_has (pNum 1 s).1 w2).mono ?_
  rintro v w3 ⟨rfl, hc3⟩
  have hM3 := hM.step (hc3.mono (by simp))
  have hR3 := hR2.chg hc3 (by simp)
  simp -implicitDefEqProofs
  by_cases hk : ofK (pNum 1 s).1 = 0
  · simp -implicitDefEqProofs only [hk, decide_true, Bool.not_true, cnd_false]
    have := m0 (k := (pNum 1 s).1) (f := 0) (a := 0) (pNum_bytes hs) (nB (pNum 1 s).1) (vB (pNum 1 s).1) (wB (pNum 1 s).1) hM3 hR3
    simpa only [pOp, hk, decide_true, Bool.not_true, pIf_f] using this
  · simp -implicitDefEqProofs only [hk, decide_false, Bool.not_false, cnd_true]
    refine (c_num (n := 1) (pNum_bytes hs) hR3 (by omega)).mono ?_
    rintro v w4 ⟨rfl, hR4, hc4⟩
    have hM4 := hM3.step hc4
    simp -implicitDefEqProofs [num1 (pNum_bytes hs)]
    refine (c_num (n := 2) (pNum_bytes (pNum_bytes hs)) hR4 (by omega)).mono ?_
    rintro v w5 ⟨rfl, hR5, hc5⟩
    have hM5 := hM4.step hc5
    have hlt5 := blk_lt hM5.h3
    simp -implicitDefEqProofs [num2 (pNum_bytes (pNum_bytes hs)), st_3, hM5.h3, put_put, hlt5]
    have := m0 (k := (pNum 1 s).1) (f := (pNum 1 (pNum 1 s).2).1) (a := (pNum 2 (pNum 1 (pNum 1 s).2).2).1) (pNum_bytes (pNum_bytes (pNum_bytes hs))) (nB (pNum 1 s).1) (vB (pNum 1 s).1) (wB (pNum 1 s).1) (hM5.put _) (hR5.chg (hM5.chg _) (by have := hM5.lt; have := hM5.lt3; simp; omega))
    simp only [pOp, hk, decide_false, Bool.not_false, pIf_t]
    exact this
/-! ### the reference's -/
theorem q3 {B : List Int} {w0 w : World} {r g2 g3 : Nat} {o : OpV} {s : Rst} (h : Mid w0 w r g2 g3 (opC o).toArray) (hR : RQ B w r s) : P59_3 (.pointer (some ⟨g2, 0, none⟩)) (.pointer (some ⟨g3, 0, none⟩)) w (Got (RQ B) w0 r (o, s)) := by
  apply L59_3_ok
  have hlt := blk_lt h.h2
  simp -implicitDefEqProofs [L59_3, ld_52, st_52, h.h3, h.h2, hlt, opC]
  have hch : Chg [g2] w (put w g2 (opC o).toArray 52) := (Chg.refl _ _).put (.inl (by simp)) _ _
  exact ⟨rfl, hR.chg hch (by simpa using h.lt), h.ch.put (.inr h.ge) _ _⟩
theorem q2 {B : List Int} (hB : B.length ≤ 4611686018427387904) (hs : IsBytes B) {w0 w : World} {r g2 g3 : Nat} {k f a n v : Int} {s : Rst} (h : Mid w0 w r g2 g3 (opC (k, f, a, n, v, 0)).toArray) (hR : RQ B w r s) :
    P59_2 (.pointer (some ⟨r, 0, none⟩)) (.pointer (some ⟨g2, 0, none⟩)) (.pointer (some ⟨g3, 0, none⟩)) w (Got (RQ B) w0 r ((k, f, a, n, v, (pIf (wB k) 8 s).1), (pIf (wB k) 8 s).2)) := by
  apply L59_2_ok
  have h3 : hp w g3 = some (.cells #[.int .i64 k, .int .i64 f, .int .i64 a, .int .i64 n, .int .u64 v, .int .u64 0] 52) := h.h3
  by_cases hk : k = 9
  · subst hk
    simp -implicitDefEqProofs [L59_2, h3]
    refine (c_lowQ hB hs hR (n := 8) (by omega)).mono ?_
    rintro v w1 ⟨rfl, hR1, hc1⟩
    have h1 := h.step hc1
    simp -implicitDefEqProofs [st_33, h1.h3, opC]
    exact q3 (o := (9, f, a, n, _, (pNum 8 s).1)) (h1.put _) (hR1.chg (h1.chg _) (by have := h.lt; have := h.lt3; simp; omega))
  · have hw : wB k = false := by simp [wB, hk]
    simp -implicitDefEqProofs [L59_2, h3, eqf hk, hw, pIf_f]
    exact q3 h hR
theorem q1 {B : List Int} (hB : B.length ≤ 4611686018427387904) (hs : IsBytes B) {w0 w : World} {r g2 g3 : Nat} {k f a n : Int} {s : Rst} (h : Mid w0 w r g2 g3 (opC (k, f, a, n, 0, 0)).toArray) (hR : RQ B w r s) :
    P59_1 (.pointer (some ⟨r, 0, none⟩)) (.pointer (some ⟨g2, 0, none⟩)) (.pointer (some ⟨g3, 0, none⟩)) w (Got (RQ B) w0 r ((k, f, a, n, (pIf (vB k) 8 s).1, (pIf (wB k) 8 (pIf (vB k) 8 s).2).1), (pIf (wB k) 8 (pIf (vB k) 8 s).2).2)) := by
  apply L59_1_ok
  have h3 : hp w g3 = some (.cells #[.int .i64 k, .int .i64 f, .int .i64 a, .int .i64 n, .int .u64 0, .int .u64 0] 52) := h.h3
  simp -implicitDefEqProofs only [L59_1, fa_52_0, ld_3, h3, ldC_some, wpB_some', show (#[Value.int .i64 k, .int .i64 f, .int .i64 a, .int .i64 n, .int .u64 0, .int .u64 0] : Array Value)[0 + 0]? = some (.int .i64 k) from rfl]
  refine (c_HasV k w).step ?_
  by_cases hx : vB k = true
  · simp -implicitDefEqProofs only [hx, cnd_true, pIf_t]
    refine (c_lowQ hB hs hR (n := 8) (by omega)).mono ?_
    rintro v w1 ⟨rfl, hR1, hc1⟩
    have h1 := h.step hc1
    simp -implicitDefEqProofs [st_33, h1.h3, opC]
    exact q2 (v := (pNum 8 s).1) hB hs (h1.put _) (hR1.chg (h1.chg _) (by have := h.lt; have := h.lt3; simp; omega))
  · have hx : vB k = false := by simpa using hx
    simp -implicitDefEqProofs only [hx, cnd_false, pIf_f]
    exact q2 hB hs h hR
theorem q0 {B : List Int} (hB : B.length ≤ 4611686018427387904) (hs : IsBytes B) {w0 w : World} {r g2 g3 : Nat} {k f a : Int} {s : Rst} (hss : IsBytes s.1) (h : Mid w0 w r g2 g3 (opC (k, f, a, 0, 0, 0)).toArray) (hR : RQ B w r s) :
    P59_0 (.pointer (some ⟨r, 0, none⟩)) (.pointer (some ⟨g2, 0, none⟩)) (.pointer (some ⟨g3, 0, none⟩)) w (Got (RQ B) w0 r ((k, f, a, (pIf (nB k) 2 s).1, (pIf (vB k) 8 (pIf (nB k) 2 s).2).1, (pIf (wB k) 8 (pIf (vB k) 8 (pIf (nB k) 2 s).2).2).1), (pIf (wB k) 8 (pIf (vB k) 8 (pIf (nB k) 2 s).2).2).2)) := by
  apply L59_0_ok
  have h3 : hp w g3 = some (.cells #[.int .i64 k, .int .i64 f, .int .i64 a, .int .i64 0, .int .u64 0, .int .u64 0] 52) := h.h3
  simp -implicitDefEqProofs only [L59_0, fa_52_0, ld_3, h3, ldC_some, wpB_some', show (#[Value.int .i64 k, .int .i64 f, .int .i64 a, .int .i64 0, .int .u64 0, .int .u64 0] : Array Value)[0 + 0]? = some (.int .i64 k) from rfl]
  refine (c_HasN k w).step ?_
  by_cases hx : nB k = true
  · simp -implicitDefEqProofs only [hx, cnd_true, pIf_t]
    refine (c_lowQ hB hs hR (n := 2) (by omega)).mono ?_
    rintro v w1 ⟨rfl, hR1, hc1⟩
    have h1 := h.step hc1
    simp -implicitDefEqProofs [st_3, h1.h3, opC, num2 hss]
    exact q1 (n := (pNum 2 s).1) hB hs (h1.put _) (hR1.chg (h1.chg _) (by have := h.lt; have := h.lt3; simp; omega))
  · have hx : nB k = false := by simpa using hx
    simp -implicitDefEqProofs only [hx, cnd_false, pIf_f]
    exact q1 hB hs h hR
theorem c_Rop {B : List Int} (hB : B.length ≤ 4611686018427387904) (hs : IsBytes B) {r : Nat} {s : Rst} (hss : IsBytes s.1) {w : World} (hr : RQ B w r s) : CallR Try.prog 59 [.pointer (some ⟨r, 0, none⟩)] w (Got (RQ B) w r (pOp s)) := by
  have hlt : r < w.heap.size := by obtain ⟨a, ⟨A, c, hb, _⟩, _⟩ := hr; exact blk_lt hb
  apply F59_ok
  simp -implicitDefEqProofs only [F59, al_52]
  have hca : Chg [] w (w.alloc (.cells #[.int .i64 0, .int .i64 0, .int .i64 0, .int .i64 0, .int .u64 0, .int .u64 0] 52)) := (Chg.refl _ _).alloc _
  refine (c_lowQ (n := 1) hB hs (hr.chg hca (by simp)) (by omega)).mono ?_
  rintro v w1 ⟨rfl, hR1, hc1⟩
  have ch1 : Chg [r] w w1 := (hca.mono (by simp)).trans hc1
  have h2 := hc1.at (b := w.heap.size) (by rw [alloc_heap, if_pos rfl]) (by simp; omega)
  have hM := Mid.make (w0 := w) h2 hlt (Nat.le_refl _) ch1 #[.int .i64 0, .int .i64 0, .int .i64 0, .int .i64 0, .int .u64 0, .int .u64 0] (opC ((pNum 1 s).1, 0, 0, 0, 0, 0)).toArray
  have hR2 : RQ B (put (w1.alloc (.cells #[.int .i64 0, .int .i64 0, .int .i64 0, .int .i64 0, .int .u64 0, .int .u64 0] 52)) w1.heap.size (opC ((pNum 1 s).1, 0, 0, 0, 0, 0)).toArray 52) r (pNum 1 s).2 := by
    refine hR1.chg (S := [w1.heap.size]) (((Chg.refl _ _).alloc _).put (.inl (by simp)) _ _) ?_
    have := ch1.size
    simp; omega
  simp -implicitDefEqProofs [num1 hss, st_52, show (opC ((pNum 1 s).1, 0, 0, 0, 0, 0)).toArray = #[.int .i64 (pNum 1 s).1, .int .i64 0, .int .i64 0, .int .i64 0, .int .u64 0, .int .u64 0] from rfl] at hM hR2 ⊢
  generalize hwp : put (w1.alloc (.cells #[.int .i64 0, .int .i64 0, .int .i64 0, .int .i64 0, .int .u64 0, .int .u64 0] 52)) w1.heap.size #[.int .i64 (pNum 1 s).1, .int .i64 0, .int .i64 0, .int .i64 0, .int .u64 0, .int .u64 0] 52 = w2 at *
  generalize w1.heap.size = g3 at *
  refine (c_Of (pNum 1 s).1 w2).step ?_
  simp -implicitDefEqProofs only [be_neq, wpB_some']
  by_cases hk : ofK (pNum 1 s).1 = 0
  · simp -implicitDefEqProofs only [hk, bne_self_eq_false, cnd_false]
    have := q0 (k := (pNum 1 s).1) (f := 0) (a := 0) hB hs (pNum_bytes hss) hM hR2
    simpa only [pOp, hk, decide_true, Bool.not_true, pIf_f] using this
  · simp -implicitDefEqProofs only [bne_iff_ne.2 hk, cnd_true]
    refine (c_lowQ (n := 1) hB hs hR2 (by omega)).mono ?_
    rintro v w4 ⟨rfl, hR4, hc4⟩
    have hM4 := hM.step hc4
    have hlt4 := blk_lt hM4.h3
    simp -implicitDefEqProofs [num1 (pNum_bytes hss), st_3, hM4.h3]
    have hM5 := hM4.put #[.int .i64 (pNum 1 s).1, .int .i64 (pNum 1 (pNum 1 s).2).1, .int .i64 0, .int .i64 0, .int .u64 0, .int .u64 0]
    have hR5 := hR4.chg (hM4.chg #[.int .i64 (pNum 1 s).1, .int .i64 (pNum 1 (pNum 1 s).2).1, .int .i64 0, .int .i64 0, .int .u64 0, .int .u64 0]) (by have := hM4.lt; have := hM4.lt3; simp; omega)
    refine (c_lowQ (n := 2) hB hs hR5 (by omega)).mono ?_
    rintro v w5 ⟨rfl, hR6, hc6⟩
    have hM6 := hM5.step hc6
    simp -implicitDefEqProofs [num2 (pNum_bytes (pNum_bytes hss)), st_3, hM6.h3]
    have := q0 (k := (pNum 1 s).1) (f := (pNum 1 (pNum 1 s).2).1) (a := (pNum 2 (pNum 1 (pNum 1 s).2).2).1) hB hs (pNum_bytes (pNum_bytes (pNum_bytes hss))) (hM6.put _) (hR6.chg (hM6.chg _) (by have := hM6.lt; have := hM6.lt3; simp; omega))
    simp only [pOp, hk, decide_false, Bool.not_false, pIf_t]
    exact this
end Go.Proofs.Ytkploakfdlnbbaa
