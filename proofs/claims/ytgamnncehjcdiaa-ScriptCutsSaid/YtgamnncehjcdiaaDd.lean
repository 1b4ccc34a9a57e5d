/- Operations out of bytes: both readers read the same one. -/
import Derived.Test.YtgamnncehjcdiaaDc
namespace Go.Proofs.Ytgamnncehjcdiaa
open Go Ev Go.RowKit
set_option linter.unusedSimpArgs false
set_option linter.unusedVariables false
set_option maxRecDepth 10000

/-- an operation: kind, from, at, n, v, w -/
abbrev OpV := Int × Int × Int × Int × Int × Int
def opC (o : OpV) : List Value := [.int .i64 o.1, .int .i64 o.2.1, .int .i64 o.2.2.1, .int .i64 o.2.2.2.1, .int .u64 o.2.2.2.2.1, .int .u64 o.2.2.2.2.2]
theorem opC_len (o : OpV) : (opC o).length = 6 := rfl
def pIf (b : Bool) (n : Nat) (s : Rst) : Int × Rst := if b then pNum n s else (0, s)
theorem pIf_t (n : Nat) (s : Rst) : pIf true n s = pNum n s := rfl
theorem pIf_f (n : Nat) (s : Rst) : pIf false n s = (0, s) := rfl
def pOp (s : Rst) : OpV × Rst :=
  let k := pNum 1 s
  let b := !decide (ofK k.1 = 0)
  let f := pIf b 1 k.2
  let a := pIf b 2 f.2
  let n := pIf (nB k.1) 2 a.2
  let v := pIf (vB k.1) 8 n.2
  let w := pIf (wB k.1) 8 v.2
  ((k.1, f.1, a.1, n.1, v.1, w.1), w.2)
theorem pIf_bytes {b : Bool} {n : Nat} {s : Rst} (h : IsBytes s.1) : IsBytes (pIf b n s).2.1 := by
  unfold pIf; split
  · exact pNum_bytes h
  · exact h
theorem pOp_bytes {s : Rst} (h : IsBytes s.1) : IsBytes (pOp s).2.1 := pIf_bytes (pIf_bytes (pIf_bytes (pIf_bytes (pIf_bytes (pNum_bytes h)))))
/-- an operation's variable, and the answer's, beside a reader -/
structure Mid (w0 w : World) (r g2 g3 : Nat) (c : Array Value) : Prop where
  h2 : hp w g2 = some (.cells #[.int .i64 0, .int .i64 0, .int .i64 0, .int .i64 0, .int .u64 0, .int .u64 0] 40)
  h3 : hp w g3 = some (.cells c 40)
  lt : r < g2
  lt3 : g2 < g3
  ge : w0.heap.size ≤ g2
  ch : Chg [r] w0 w
theorem Mid.step {w0 w w' : World} {r g2 g3 : Nat} {c : Array Value} (h : Mid w0 w r g2 g3 c) (hc : Chg [r] w w') : Mid w0 w' r g2 g3 c :=
  ⟨hc.at h.h2 (by have := h.lt; simp; omega), hc.at h.h3 (by have := h.lt; have := h.lt3; simp; omega), h.lt, h.lt3, h.ge, h.ch.trans hc⟩
theorem Mid.put {w0 w : World} {r g2 g3 : Nat} {c : Array Value} (h : Mid w0 w r g2 g3 c) (c' : Array Value) : Mid w0 (put w g3 c' 40) r g2 g3 c' :=
  ⟨by rw [put_heap, if_neg (by have := h.lt3; omega)]; exact h.h2, by rw [put_heap, if_pos rfl, if_pos (blk_lt h.h3)], h.lt, h.lt3, h.ge, h.ch.put (.inr (by have := h.ge; have := h.lt3; omega)) _ _⟩
theorem Mid.chg {w0 w : World} {r g2 g3 : Nat} {c : Array Value} (h : Mid w0 w r g2 g3 c) (c' : Array Value) : Chg [g3] w (Ev.put w g3 c' 40) := (Chg.refl _ _).put (.inl (by simp)) _ _
theorem Mid.make {w0 w : World} {r g2 : Nat} (h2 : hp w g2 = some (.cells #[.int .i64 0, .int .i64 0, .int .i64 0, .int .i64 0, .int .u64 0, .int .u64 0] 40)) (lt : r < g2) (ge : w0.heap.size ≤ g2) (ch : Chg [r] w0 w) (c c' : Array Value) :
    Mid w0 (Ev.put (w.alloc (.cells c 40)) w.heap.size c' 40) r g2 w.heap.size c' := by
  have h3 := blk_lt h2
  exact ⟨by rw [put_heap, if_neg (by omega), alloc_heap, if_neg (by omega)]; exact h2, by rw [put_heap, if_pos rfl, if_pos (by simp)], lt, h3, ge, (ch.alloc _).put (.inr (by have := ch.size; omega)) _ _⟩
theorem oneAll (o : OpV) : (opC o).toArray.toList.all (·.oneCell') = true := rfl
@[simp] theorem num2 {s : Rst} (h : IsBytes s.1) : IntKind.i64.wrap (pNum 2 s).1 = (pNum 2 s).1 := by
  have := pNum_bound (n := 2) h
  exact wrapi (by omega) (by have e : (2 : Int) ^ (8 * 2) = 65536 := by decide
                             omega)
@[simp] theorem num1 {s : Rst} (h : IsBytes s.1) : IntKind.i64.wrap (pNum 1 s).1 = (pNum 1 s).1 := by
  have := pNum_bound (n := 1) h
  exact wrapi (by omega) (by have e : (2 : Int) ^ (8 * 1) = 256 := by decide
                             omega)
/-! ### the program's -/
def Got (R : World → Nat → Rst → Prop) (w0 : World) (r : Nat) (o : OpV × Rst) (v : Value) (w' : World) : Prop := v = .agg (opC o.1).toArray ∧ R w' r o.2 ∧ Chg [r] w0 w'
theorem m3 {w0 w : World} {r g2 g3 : Nat} {o : OpV} {s : Rst} (h : Mid w0 w r g2 g3 (opC o).toArray) (hR : RS w r s) : P70_3 (.pointer (some ⟨g2, 0, none⟩)) (.pointer (some ⟨g3, 0, none⟩)) w (Got RS w0 r (o, s)) := by
  apply L70_3_ok
  have hlt := blk_lt h.h2
  simp -implicitDefEqProofs [L70_3, ld_40, st_40, h.h3, h.h2, hlt, opC]
  have hch : Chg [g2] w (put w g2 (opC o).toArray 40) := (Chg.refl _ _).put (.inl (by simp)) _ _
  exact ⟨rfl, hR.chg hch (by simpa using h.lt), h.ch.put (.inr h.ge) _ _⟩
theorem m2 {w0 w : World} {r g2 g3 : Nat} {k f a n v : Int} {s : Rst} (hs : IsBytes s.1) (x : Bool) (h : Mid w0 w r g2 g3 (opC (k, f, a, n, v, 0)).toArray) (hR : RS w r s) :
    P70_2 (.pointer (some ⟨r, 0, none⟩)) (.pointer (some ⟨g2, 0, none⟩)) (.pointer (some ⟨g3, 0, none⟩)) (.bool x) w (Got RS w0 r ((k, f, a, n, v, (pIf x 8 s).1), (pIf x 8 s).2)) := by
  apply L70_2_ok
  cases x with
  | false =>
    simp -implicitDefEqProofs only [L70_2, cnd_false]
    exact m3 h hR
  | true =>
    simp -implicitDefEqProofs only [L70_2, cnd_true]
    refine (c_num hs hR (n := 8) (by omega)).mono ?_
    rintro v w1 ⟨rfl, hR1, hc1⟩
    have h1 := h.step hc1
    simp -implicitDefEqProofs [st_38, h1.h3, opC]
    exact m3 (o := (k, f, a, n, _, (pNum 8 s).1)) (h1.put _) (hR1.chg (h1.chg _) (by have := h.lt; have := h.lt3; simp; omega))
theorem m1 {w0 w : World} {r g2 g3 : Nat} {k f a n : Int} {s : Rst} (hs : IsBytes s.1) (x y : Bool) (h : Mid w0 w r g2 g3 (opC (k, f, a, n, 0, 0)).toArray) (hR : RS w r s) :
    P70_1 (.pointer (some ⟨r, 0, none⟩)) (.pointer (some ⟨g2, 0, none⟩)) (.pointer (some ⟨g3, 0, none⟩)) (.bool x) (.bool y) w (Got RS w0 r ((k, f, a, n, (pIf x 8 s).1, (pIf y 8 (pIf x 8 s).2).1), (pIf y 8 (pIf x 8 s).2).2)) := by
  apply L70_1_ok
  cases x with
  | false =>
    simp -implicitDefEqProofs only [L70_1, cnd_false]
    exact m2 hs y h hR
  | true =>
    simp -implicitDefEqProofs only [L70_1, cnd_true]
    refine (c_num hs hR (n := 8) (by omega)).mono ?_
    rintro v w1 ⟨rfl, hR1, hc1⟩
    have h1 := h.step hc1
    simp -implicitDefEqProofs [st_38, h1.h3, opC]
    exact m2 (v := (pNum 8 s).1) (pNum_bytes hs) y (h1.put _) (hR1.chg (h1.chg _) (by have := h.lt; have := h.lt3; simp; omega))
theorem m0 {w0 w : World} {r g2 g3 : Nat} {k f a : Int} {s : Rst} (hs : IsBytes s.1) (z x y : Bool) (h : Mid w0 w r g2 g3 (opC (k, f, a, 0, 0, 0)).toArray) (hR : RS w r s) :
    P70_0 (.pointer (some ⟨r, 0, none⟩)) (.pointer (some ⟨g2, 0, none⟩)) (.pointer (some ⟨g3, 0, none⟩)) (.bool z) (.bool x) (.bool y) w (Got RS w0 r ((k, f, a, (pIf z 2 s).1, (pIf x 8 (pIf z 2 s).2).1, (pIf y 8 (pIf x 8 (pIf z 2 s).2).2).1), (pIf y 8 (pIf x 8 (pIf z 2 s).2).2).2)) := by
  apply L70_0_ok
  cases z with
  | false =>
    simp -implicitDefEqProofs only [L70_0, cnd_false]
    exact m1 hs x y h hR
  | true =>
    simp -implicitDefEqProofs only [L70_0, cnd_true]
    refine (c_num hs hR (n := 2) (by omega)).mono ?_
    rintro v w1 ⟨rfl, hR1, hc1⟩
    have h1 := h.step hc1
    simp -implicitDefEqProofs [st_3, h1.h3, opC, num2 hs]
    exact m1 (n := (pNum 2 s).1) (pNum_bytes hs) x y (h1.put _) (hR1.chg (h1.chg _) (by have := h.lt; have := h.lt3; simp; omega))
theorem c_rop {r : Nat} {s : Rst} (hs : IsBytes s.1) {w : World} (hr : RS w r s) : CallR Try.prog 70 [.pointer (some ⟨r, 0, none⟩)] w (Got RS w r (pOp s)) := by
  have hlt : r < w.heap.size := by obtain ⟨A, c, hb, _⟩ := hr; exact blk_lt hb
  apply F70_ok
  simp -implicitDefEqProofs only [F70, al_40]
  have hca : Chg [] w (w.alloc (.cells #[.int .i64 0, .int .i64 0, .int .i64 0, .int .i64 0, .int .u64 0, .int .u64 0] 40)) := (Chg.refl _ _).alloc _
  refine (c_num (n := 1) hs (hr.chg hca (by simp)) (by omega)).mono ?_
  rintro v w1 ⟨rfl, hR1, hc1⟩
  have ch1 : Chg [r] w w1 := (hca.mono (by simp)).trans hc1
  have h2 := hc1.at (b := w.heap.size) (by rw [alloc_heap, if_pos rfl]) (by simp; omega)
  have hM := Mid.make (w0 := w) h2 hlt (Nat.le_refl _) ch1 #[.int .i64 0, .int .i64 0, .int .i64 0, .int .i64 0, .int .u64 0, .int .u64 0] (opC ((pNum 1 s).1, 0, 0, 0, 0, 0)).toArray
  have hR2 : RS (put (w1.alloc (.cells #[.int .i64 0, .int .i64 0, .int .i64 0, .int .i64 0, .int .u64 0, .int .u64 0] 40)) w1.heap.size (opC ((pNum 1 s).1, 0, 0, 0, 0, 0)).toArray 40) r (pNum 1 s).2 := by
    refine hR1.chg (S := [w1.heap.size]) (((Chg.refl _ _).alloc _).put (.inl (by simp)) _ _) ?_
    have := ch1.size
    simp; omega
  simp -implicitDefEqProofs [num1 hs, st_40, show (opC ((pNum 1 s).1, 0, 0, 0, 0, 0)).toArray = #[.int .i64 (pNum 1 s).1, .int .i64 0, .int .i64 0, .int .i64 0, .int .u64 0, .int .u64 0] from rfl] at hM hR2 ⊢
  generalize hwp : put (w1.alloc (.cells #[.int .i64 0, .int .i64 0, .int .i64 0, .int .i64 0, .int .u64 0, .int .u64 0] 40)) w1.heap.size #[.int .i64 (pNum 1 s).1, .int .i64 0, .int .i64 0, .int .i64 0, .int .u64 0, .int .u64 0] 40 = w2 at *
  generalize w1.heap.size = g3 at *
  refine (c_has (pNum 1 s).1 w2).mono ?_
  rintro v w3 ⟨rfl, hc3⟩
  have hM3 := hM.step (hc3.mono (by simp))
  have hR3 := hR2.chg hc3 (by simp)
  simp -implicitDefEqProofs
  by_cases hk : ofK (pNum 1 s).1 = 0
  · simp -implicitDefEqProofs only [hk, decide_true, Bool.not_true, cnd_false]
    have := m0 (k := (pNum 1 s).1) (f := 0) (a := 0) (pNum_bytes hs) (nB (pNum 1 s).1) (vB (pNum 1 s).1) (wB (pNum 1 s).1) hM3 hR3
    simpa only [pOp, hk, decide_true, Bool.not_true, pIf_f] using this
  · simp -implicitDefEqProofs only [hk, decide_false, Bool.not_false, cnd_true]
    refine (c_num (n := 1) (pNum_bytes hs) hR3 (by omega)).mono ?_
    rintro v w4 ⟨rfl, hR4, hc4⟩
    have hM4 := hM3.step hc4
    simp -implicitDefEqProofs [num1 (pNum_bytes hs)]
    refine (c_num (n := 2) (pNum_bytes (pNum_bytes hs)) hR4 (by omega)).mono ?_
    rintro v w5 ⟨rfl, hR5, hc5⟩
    have hM5 := hM4.step hc5
    have hlt5 := blk_lt hM5.h3
    simp -implicitDefEqProofs [num2 (pNum_bytes (pNum_bytes hs)), st_3, hM5.h3, put_put, hlt5]
    have := m0 (k := (pNum 1 s).1) (f := (pNum 1 (pNum 1 s).2).1) (a := (pNum 2 (pNum 1 (pNum 1 s).2).2).1) (pNum_bytes (pNum_bytes (pNum_bytes hs))) (nB (pNum 1 s).1) (vB (pNum 1 s).1) (wB (pNum 1 s).1) (hM5.put _) (hR5.chg (hM5.chg _) (by have := hM5.lt; have := hM5.lt3; simp; omega))
    simp only [pOp, hk, decide_false, Bool.not_false, pIf_t]
    exact this
/-! ### the reference's -/
end Go.Proofs.Ytgamnncehjcdiaa
