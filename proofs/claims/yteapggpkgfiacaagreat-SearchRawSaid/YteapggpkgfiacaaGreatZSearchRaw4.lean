/- Parts of the proof of SearchRaw, one behind the other. Conditions: none. -/
import Derived.Below
import Derived.Laws.AppendOwn
import Derived.Laws.OwnMore
import Derived.Laws.StructEq
import Derived.RowKit
import Derived.IntWalk
import Derived.Test.YteapggpkgfiacaaGreatZSearchRaw3
set_option linter.unusedSimpArgs false
set_option linter.unusedVariables false
namespace Go.Proofs.YteapggpkgfiacaaGreat.Ev
open Go Go.RowKit

@[congr] theorem wpB_congr {α : Type} {o o' : Option α} {K : α → Prop} (h : o = o') : wpB o K = wpB o' K := by rw [h]
@[simp] theorem ab {α : Type} (v : α) (K : α → Prop) : wpB (some v) K = K v := (rfl)
@[simp] theorem aG (a b : Prop) : cnd (.bool true) a b = a := (rfl)
@[simp] theorem aC (a b : Prop) : cnd (.bool false) a b = b := (rfl)
@[congr] theorem cnd_congr {c c' : Value} {a b : Prop} (h : c = c') : cnd c a b = cnd c' a b := by rw [h]
@[simp] theorem yes_bool (b want : Bool) : yes (.bool b) want = (b == want) := (rfl)
@[simp] theorem gv_true (v : Value) : gv (.bool true) true v = v := (rfl)
@[simp] theorem gv_false (v : Value) : gv (.bool false) false v = v := (rfl)
@[simp] theorem gv_tf (v : Value) : gv (.bool true) false v = undef := (rfl)
@[simp] theorem gv_ft (v : Value) : gv (.bool false) true v = undef := (rfl)
@[simp] theorem gd_true (v : Option Value) : gd (.bool true) true v = v := (rfl)
@[simp] theorem gd_false (v : Option Value) : gd (.bool false) false v = v := (rfl)
@[simp] theorem gd_tf (v : Option Value) : gd (.bool true) false v = some undef := (rfl)
@[simp] theorem gd_ft (v : Option Value) : gd (.bool false) true v = some undef := (rfl)
@[simp] theorem gd_ut (v : Option Value) : gd undef true v = some undef := (rfl)
@[simp] theorem gd_uf (v : Option Value) : gd undef false v = some undef := (rfl)
@[simp] theorem gv_ut (v : Value) : gv undef true v = undef := (rfl)
@[simp] theorem gv_uf (v : Value) : gv undef false v = undef := (rfl)
@[simp] theorem gE_true (C : (Value → World → Prop) → Prop) (K : Value → World → Prop) (w : World) : gE (.bool true) true C K w = C K := (rfl)
@[simp] theorem gE_false (C : (Value → World → Prop) → Prop) (K : Value → World → Prop) (w : World) : gE (.bool false) false C K w = C K := (rfl)
@[simp] theorem gE_tf (C : (Value → World → Prop) → Prop) (K : Value → World → Prop) (w : World) : gE (.bool true) false C K w = K undef w := (rfl)
@[simp] theorem gE_ft (C : (Value → World → Prop) → Prop) (K : Value → World → Prop) (w : World) : gE (.bool false) true C K w = K undef w := (rfl)
@[simp] theorem gE_ut (C : (Value → World → Prop) → Prop) (K : Value → World → Prop) (w : World) : gE undef true C K w = K undef w := (rfl)
@[simp] theorem gE_uf (C : (Value → World → Prop) → Prop) (K : Value → World → Prop) (w : World) : gE undef false C K w = K undef w := (rfl)
@[simp] theorem gU_true (C : (World → Prop) → Prop) (K : World → Prop) (w : World) : gU (.bool true) true C K w = C K := (rfl)
@[simp] theorem gU_false (C : (World → Prop) → Prop) (K : World → Prop) (w : World) : gU (.bool false) false C K w = C K := (rfl)
@[simp] theorem gU_tf (C : (World → Prop) → Prop) (K : World → Prop) (w : World) : gU (.bool true) false C K w = K w := (rfl)
@[simp] theorem gU_ft (C : (World → Prop) → Prop) (K : World → Prop) (w : World) : gU (.bool false) true C K w = K w := (rfl)
@[congr] theorem gE_congr {c c' : Value} {want : Bool} {C : (Value → World → Prop) → Prop} {K : Value → World → Prop} {w : World} (h : c = c') : gE c want C K w = gE c' want C K w := by rw [h]
@[congr] theorem gU_congr {c c' : Value} {want : Bool} {C : (World → Prop) → Prop} {K : World → Prop} {w : World} (h : c = c') : gU c want C K w = gU c' want C K w := by rw [h]
@[simp] theorem aZ (a b : Option Value) : pickv (.bool true) a b = a := (rfl)
@[simp] theorem aS (a b : Option Value) : pickv (.bool false) a b = b := (rfl)
@[simp] theorem ah (a : Addr) : nilv (.pointer (some a)) = some (.pointer (some a)) := (rfl)
section
variable {P : Program} {t : TypeId} {k : IntKind} {a b : Int}
theorem bp_of {op : BinOp} {x y v : Value} (h : ∀ w, (binOp op t x y).run P w = .ok v w) : bp P op t x y = some v := ap h
@[simp] theorem am : bp P .add t (.int k a) (.int k b) = some (.int k (k.wrap (a + b))) := bp_of fun w => by simp [binOp, Op.intArith]
@[simp] theorem bp_sub : bp P .sub t (.int k a) (.int k b) = some (.int k (k.wrap (a - b))) := bp_of fun w => by simp [binOp, Op.intArith]
@[simp] theorem bp_mul : bp P .mul t (.int k a) (.int k b) = some (.int k (k.wrap (a * b))) := bp_of fun w => by simp [binOp, Op.intArith]
theorem bp_quo (h : b ≠ 0) : bp P .quo t (.int k a) (.int k b) = some (.int k (k.wrap (a.tdiv b))) := bp_of fun w => by simp [binOp, Op.intDiv, h]
theorem bp_rem (h : b ≠ 0) : bp P .rem t (.int k a) (.int k b) = some (.int k (a.tmod b)) := bp_of fun w => by simp [binOp, Op.intDiv, h]
@[simp] theorem bp_lss : bp P .lss t (.int k a) (.int k b) = some (.bool (decide (a < b))) := bp_of fun w => by simp [binOp, Op.intCmp]
@[simp] theorem bp_leq : bp P .leq t (.int k a) (.int k b) = some (.bool (decide (a ≤ b))) := bp_of fun w => by simp [binOp, Op.intCmp]
@[simp] theorem bp_gtr : bp P .gtr t (.int k a) (.int k b) = some (.bool (decide (b < a))) := bp_of fun w => by simp [binOp, Op.intCmp]
@[simp] theorem aD : bp P .geq t (.int k a) (.int k b) = some (.bool (decide (b ≤ a))) := bp_of fun w => by simp [binOp, Op.intCmp]
theorem bp_shl {j : IntKind} (h : 0 ≤ b) : bp P .shl t (.int k a) (.int j b) = some (.int k (k.wrap (a * 2 ^ (min b.toNat k.bits)))) := bp_of fun w => by
  simp [binOp, Op.shift, show ¬ b < 0 by omega]
theorem be_of {op : BinOp} {x y : Operand} {u v r : Value} (h : ∀ w, (do eqGuard op t x y u v; binOp op t u v).run P w = .ok r w) : be P op t x y u v = some r := ap h
@[simp] theorem be_eql {x y : Operand} : be P .eql t x y (.int k a) (.int k b) = some (.bool (a == b)) := be_of fun w => by simp [eqGuard, binOp, Op.intCmp]
@[simp] theorem be_neq {x y : Operand} : be P .neq t x y (.int k a) (.int k b) = some (.bool (a != b)) := be_of fun w => by simp [eqGuard, binOp, Op.intCmp]
theorem be_eq1 {x y : Operand} {u v : Value} {r : Bool} (hg : ∀ w, (eqGuard .eql t x y u v).run P w = .ok () w) (hb : ∀ w, (binOp .eql t u v).run P w = (do Pure.pure (Value.bool (← Op.equal t u v)) : Sem Value).run P w)
    (h : ∀ w, (Op.equalIn (9999 + 1) t u v).run P w = .ok r w) : be P .eql t x y u v = some (.bool r) := be_of fun w => by
  rw [Sem.run_bind, hg, Result.andThen_ok, hb, Sem.run_bind]
  have : (Op.equal t u v).run P w = .ok r w := h w
  rw [this]; rfl
theorem be_ne1 {x y : Operand} {u v : Value} {r : Bool} (hg : ∀ w, (eqGuard .neq t x y u v).run P w = .ok () w) (hb : ∀ w, (binOp .neq t u v).run P w = (do Pure.pure (Value.bool (!(← Op.equal t u v))) : Sem Value).run P w)
    (h : ∀ w, (Op.equalIn (9999 + 1) t u v).run P w = .ok r w) : be P .neq t x y u v = some (.bool (!r)) := be_of fun w => by
  rw [Sem.run_bind, hg, Result.andThen_ok, hb, Sem.run_bind]
  have : (Op.equal t u v).run P w = .ok r w := h w
  rw [this]; rfl
theorem eqIn_ptr {d : Nat} {e : TypeId} {p : Option Addr} {w : World} (h : P.underlying t = some (.pointer e)) : (Op.equalIn (d + 1) t (.pointer p) (.pointer none)).run P w = .ok p.isNone w := by
  cases p <;> simp [Op.equalIn, run_underlying h]
theorem be_eqlp {x y : Operand} {e : TypeId} {p : Option Addr} (h : P.underlying t = some (.pointer e)) : be P .eql t x y (.pointer p) (.pointer none) = some (.bool p.isNone) :=
  be_eq1 (fun w => by simp [eqGuard]) (fun w => by simp only [binOp]) fun w => eqIn_ptr h
@[simp] theorem pr_not {b : Bool} : pureRun P (Op.unary .not (.bool b)) = some (.bool (!b)) := ap fun w => by simp [Op.unary]
@[simp] theorem pr_neg : pureRun P (Op.unary .neg (.int k a)) = some (.int k (k.wrap (0 - a))) := ap fun w => by simp [Op.unary, Op.intArith]
@[simp] theorem pr_max {ts : Array TypeId} : pureRun P (Builtin.max_ ts t #[.int k a, .int k b]) = some (.int k (if b > a then b else a)) := ap fun w => by simp [Builtin.max_, Builtin.max2]
@[simp] theorem pr_min {ts : Array TypeId} : pureRun P (Builtin.min_ ts t #[.int k a, .int k b]) = some (.int k (if b < a then b else a)) := ap fun w => by simp [Builtin.min_, Builtin.min2]
theorem pr_len {s e ty : TypeId} {A : Option Addr} {n c : Nat} (h : P.underlying s = some (.slice e)) : pureRun P (Builtin.len_ #[s] ty #[.slice A n c]) = some (.int .i64 n) := ap fun w => by
  simp [Builtin.len_, run_underlying h, goInt]
theorem pr_index {s e : TypeId} {z : Nat} {A : Addr} {n c : Nat} (h : P.underlying s = some (.slice e)) (hi : (P.info? e).map (·.size) = some z) (h0 : 0 ≤ a) (h1 : a < n) :
    pureRun P (Instr.indexAt s (.slice (some A) n c) (.int k a)) = some (.pointer (some (A.add (a.toNat * z)))) := ap fun w => by
  obtain ⟨i, hi', rfl⟩ := Option.map_eq_some_iff.1 hi
  have h2 : (typeInfo e).run P w = .ok i w := by simp [typeInfo, hi']
  simp [Instr.indexAt, asIntOf, run_underlying h, h0, h1, sizeOf, h2]
theorem aq {n : Int} (h1 : -9223372036854775808 ≤ n) (h2 : n ≤ 9223372036854775807) : IntKind.i64.wrap n = n := IntWalk.i64_in n ⟨h1, h2⟩
theorem ldv_scalar {d : TypeDesc} {A : Addr} {w : World} (h : P.underlying t = some d) (hd : isAggD d = false) : ldv P t (.pointer (some A)) w = w.cell? A := by
  simp [ldv, h, hd]
end
theorem CallR.step {P : Program} {f : FuncId} {args : List Value} {w : World} {v0 : Value} (h : CallR P f args w fun v w' => v = v0 ∧ w' = w) {K : Value → World → Prop} (hk : K v0 w) : CallR P f args w K :=
  h.mono fun v w' ⟨h1, h2⟩ => by subst h1; subst h2; exact hk
def InInts (k : IntKind) (w : World) (a : Option Addr) (len cap : Nat) (zs : List Int) : Prop :=
  (a = none ∧ len = 0 ∧ cap = 0 ∧ zs = []) ∨
  ∃ x, a = some x ∧ len ≤ cap ∧ cap ≤ maxLen ∧ zs.length = cap ∧ (∀ i, i < zs.length → w.cell? (x.add i) = some (.int k (zs.getD i 0))) ∧ ∀ n ∈ zs, (Lit.int k n).wf = true
end Go.Proofs.YteapggpkgfiacaaGreat.Ev

namespace Go.Proofs.YteapggpkgfiacaaGreat.Ev
open Go Go.RowKit

def ints (xs : List Int) : List Value := xs.map (Value.int .i64)
@[simp] theorem ints_length (xs : List Int) : (ints xs).length = xs.length := by simp [ints]
def RdI (k : IntKind) (w : World) (A : Option Addr) (xs : List Int) : Prop := ∀ i, i < xs.length → ∃ p, A = some p ∧ w.cell? (p.add i) = some (.int k (xs.getD i 0))
theorem cell_lt {w : World} {p : Addr} {v : Value} (h : w.cell? p = some v) : p.block < w.heap.size := by
  unfold World.cell? at h
  rcases Nat.lt_or_ge p.block w.heap.size with h1 | h1
  · exact h1
  · simp [Array.getElem?_eq_none h1] at h
theorem Below.cellKeep {w w' : World} (h : Below w.heap.size w w') {p : Addr} {v : Value} (hc : w.cell? p = some v) : w'.cell? p = some v := by
  rw [Below.cell h (cell_lt hc)]; exact hc
theorem RdI.keep {k : IntKind} {w w' : World} {A : Option Addr} {xs : List Int} (h : RdI k w A xs) (hb : Below w.heap.size w w') : RdI k w' A xs := fun i hi => by
  obtain ⟨p, hp, hc⟩ := h i hi
  exact ⟨p, hp, Below.cellKeep hb hc⟩
theorem RdI.drew {k : IntKind} {w : World} {A : Option Addr} {xs : List Int} (h : RdI k w A xs) : RdI k w.drew A xs := h
theorem InInts.rd {k : IntKind} {w : World} {A : Option Addr} {n c : Nat} {zs : List Int} (h : InInts k w A n c zs) : RdI k w A (zs.take n) ∧ (zs.take n).length = n ∧ n ≤ c ∧ c ≤ maxLen ∧ ∀ x ∈ zs.take n, (Lit.int k x).wf = true := by
  rcases h with ⟨rfl, rfl, rfl, rfl⟩ | ⟨x, rfl, h1, h2, h3, h4, h5⟩
  · exact ⟨fun i hi => by simp at hi, rfl, Nat.le_refl _, Nat.zero_le _, fun x hx => by simp at hx⟩
  · refine ⟨fun i hi => ⟨x, rfl, ?_⟩, by simp; omega, h1, h2, fun x hx => h5 x (List.mem_of_mem_take hx)⟩
    have hi' : i < n ∧ i < zs.length := by rw [List.length_take] at hi; omega
    rw [h4 i hi'.2]
    simp [List.getD_eq_getElem?_getD, hi'.1]
theorem RdI.at {P : Program} {s e : TypeId} {k j : IntKind} {w : World} {A : Option Addr} {xs : List Int} {c : Nat} {i : Int} (h : RdI k w A xs) (hs : P.underlying s = some (.slice e)) (he : P.underlying e = some (.int k))
    (hz : (P.info? e).map (·.size) = some 1) (h0 : 0 ≤ i) (h1 : i < xs.length) :
    ∃ q, pureRun P (Instr.indexAt s (.slice A xs.length c) (.int j i)) = some (.pointer (some q)) ∧ ldv P e (.pointer (some q)) w = some (.int k (xs.getD i.toNat 0)) := by
  obtain ⟨p, rfl, hc⟩ := h i.toNat (by omega)
  refine ⟨p.add (i.toNat * 1), pr_index hs hz h0 h1, ?_⟩
  rw [ldv_scalar he rfl, Nat.mul_one, hc]
theorem rd_of_own {w : World} {base : Nat} {e : TypeId} {v : Value} {n : Nat} {xs : List Int} (h : w.ownsRow base e 1 v n (ints xs)) : n = xs.length ∧ ∃ A c, v = .slice A xs.length c ∧ RdI .i64 w A xs ∧ c ≤ maxLen := by
  have hn : n = xs.length := by have := h.1; simp at this; omega
  subst hn
  refine ⟨rfl, ?_⟩
  rcases h.2 with ⟨rfl, h0⟩ | ⟨g, cap, cur, rfl, hbg, hg, hnc, hcm, hcs, htake⟩
  · exact ⟨none, 0, by rw [h0], fun i hi => by omega, by simp [maxLen]⟩
  · refine ⟨some ⟨g, 0, none⟩, cap, rfl, fun i hi => ⟨_, rfl, ?_⟩, hcm⟩
    refine h.cells (g := g) rfl i _ ?_
    simp [ints, List.getD_eq_getElem?_getD, hi]
def SlI (w : World) (v : Value) (xs : List Int) : Prop := ∃ A c, v = .slice A xs.length c ∧ RdI .i64 w A xs
theorem SlI.keep {w w' : World} {v : Value} {xs : List Int} (h : SlI w v xs) (hb : Below w.heap.size w w') : SlI w' v xs := by
  obtain ⟨A, c, h1, h2⟩ := h
  exact ⟨A, c, h1, h2.keep hb⟩
theorem SlI.of_own {w : World} {base : Nat} {e : TypeId} {v : Value} {n : Nat} {xs : List Int} (h : w.ownsRow base e 1 v n (ints xs)) : SlI w v xs := by
  obtain ⟨_, A, c, h1, h2, _⟩ := rd_of_own h
  exact ⟨A, c, h1, h2⟩
theorem ownsRow_mono {w : World} {base base' : Nat} {e : TypeId} {size : Nat} {v : Value} {n : Nat} {xs : List Value} (h : w.ownsRow base e size v n xs) (hb : base' ≤ base) : w.ownsRow base' e size v n xs :=
  ⟨h.1, h.2.imp id fun ⟨g, cap, cur, h1, h2, h3⟩ => ⟨g, cap, cur, h1, Nat.le_trans hb h2, h3⟩⟩
theorem ownsRow_drew {w : World} {base : Nat} {e : TypeId} {size : Nat} {v : Value} {n : Nat} {xs : List Value} (h : w.ownsRow base e size v n xs) : w.drew.ownsRow base e size v n xs := h

section
variable {P : Program} {w : World} {K : Value → World → Prop}
theorem eff_append {t ty e : TypeId} {z : Value} {x : Value} {i : TypeInfo} {base n size : Nat} {xs news : List Value} {A : Option Addr} {m c : Nat} (ht : P.underlying t = some (.slice e)) (hi : P.info? e = some i) (hz : i.zero = some z) (hs : i.size = size) (hzc : z.cells.size = size) (h0 : 0 < size)
    (hown : w.ownsRow base e size x n xs) (hl : news.length = m * size) (hnews : ∀ j u, news[j]? = some u → ∃ p, A = some p ∧ w.cell? (p.add j) = some u) (h1 : ∀ u ∈ news, u.oneCell' = true)
    (hn : n + m ≤ maxLen) (hbytes : (n + m) * i.bytes ≤ 140737488355328) (hbase : base ≤ w.heap.size)
    (hk : ∀ x' w', w'.ownsRow base e size x' (n + m) (xs ++ news) → w.grownBy w' x.ownBlock → K x' w') : effv P (Builtin.append_ #[t, t] ty #[x, .slice A m c]) w K := by
  cases A with
  | some a =>
    obtain ⟨x', w', hr, ho, hg, _⟩ := run_append_own (P := P) w base t ty e i z size i.bytes ht hi hz hs rfl hzc h0 x n xs hown a m c news hl
      (fun j u hj => by obtain ⟨p, hp, hc⟩ := hnews j u hj; cases hp; exact hc) h1 hn hbytes hbase
    exact effv_of hr (hk x' w' ho hg)
  | none =>
    have hnil : news = [] := by
      cases news with
      | nil => rfl
      | cons u us => obtain ⟨p, hp, _⟩ := hnews 0 u rfl; cases hp
    subst hnil
    have hm : m = 0 := by
      rcases Nat.eq_zero_or_pos m with h | h
      · exact h
      · have := Nat.mul_pos h h0
        simp only [List.length_nil] at hl
        omega
    subst hm
    have hr : (Builtin.append_ #[t, t] ty #[x, .slice none 0 c]).run P w = .ok x w := by
      rcases hown.2 with ⟨rfl, _⟩ | ⟨g, cap, cur, rfl, _, _, hnc, _⟩
      · simp [Builtin.append_, run_underlying ht, sizeOf, typeInfo, hi, Builtin.lenOf, Builtin.firstCells]
      · simp [Builtin.append_, run_underlying ht, sizeOf, typeInfo, hi, Builtin.lenOf, Builtin.firstCells, hnc, storeCells]
    refine effv_of hr (hk x w (by simpa using hown) ⟨rfl, rfl, rfl, Nat.le_refl _, fun _ _ _ => rfl⟩)
end
end Go.Proofs.YteapggpkgfiacaaGreat.Ev

namespace Go.Proofs.YteapggpkgfiacaaGreat.Ev
open Go Go.RowKit

def hp (w : World) (b : Nat) : Option Obj := w.heap[b]?
def put (w : World) (b : Nat) (c : Array Value) (e : TypeId) : World := { w with heap := w.heap.setIfInBounds b (.cells c e) }
@[simp] theorem put_size (w : World) (b : Nat) (c : Array Value) (e : TypeId) : (put w b c e).heap.size = w.heap.size := by simp [put]
@[simp] theorem aR (w : World) (b : Nat) (c : Array Value) (e : TypeId) (k : Nat) : hp (put w b c e) k = if k = b then (if b < w.heap.size then some (.cells c e) else none) else hp w k := by
  show (w.heap.setIfInBounds b (.cells c e))[k]? = _
  unfold hp
  rw [Array.getElem?_setIfInBounds]
  by_cases h : b = k
  · subst h; simp
  · rw [if_neg h, if_neg fun e => h e.symm]
theorem ar {w : World} {b : Nat} (h : b < w.heap.size) (c : Array Value) (e : TypeId) : hp (put w b c e) b = some (.cells c e) := by rw [aR, if_pos rfl, if_pos h]
theorem put_other {w : World} {b k : Nat} (h : k ≠ b) (c : Array Value) (e : TypeId) : hp (put w b c e) k = hp w k := by rw [aR, if_neg h]
@[simp] theorem ae (w : World) (o : Obj) : (w.alloc o).heap.size = w.heap.size + 1 := by show (w.heap.push o).size = _; simp
@[simp] theorem aa (w : World) (o : Obj) (k : Nat) : hp (w.alloc o) k = if k = w.heap.size then some o else hp w k := by
  show (w.heap.push o)[k]? = _
  rw [Array.getElem?_push]; rfl
@[simp] theorem drew_heap (w : World) : w.drew.heap = w.heap := rfl
@[simp] theorem aT (w : World) (b : Nat) : hp w.drew b = hp w b := (rfl)
theorem put_put (w : World) (b : Nat) (c c' : Array Value) (e e' : TypeId) : put (put w b c e) b c' e' = put w b c' e' := by
  simp [put, Array.setIfInBounds_setIfInBounds]
theorem av {w : World} {b : Nat} {o : Obj} (h : hp w b = some o) : b < w.heap.size := (Array.getElem?_eq_some_iff.1 h).1
def ldC : Option Obj → Nat → Option Value
  | some (.cells c _ _), o => c[o]?
  | _, _ => none
@[simp] theorem aH (c : Array Value) (e : TypeId) (f : Nat × Nat) (o : Nat) : ldC (some (.cells c e f)) o = c[o]? := (rfl)
theorem cell_ldC (w : World) (b o : Nat) : w.cell? ⟨b, o, none⟩ = ldC (hp w b) o := by
  unfold World.cell? hp ldC
  show (match w.heap[b]? with | some (.cells c _ _) => if (none : Option Nat).isSome then none else c[o]? | _ => none) = _
  split <;> simp_all
theorem addr_add (b o j : Nat) : (⟨b, o, none⟩ : Addr).add j = ⟨b, o + j, none⟩ := by unfold Addr.add; split <;> simp_all
theorem cellsAt_blk {w : World} {b : Nat} {c : Array Value} {e : TypeId} {f : Nat × Nat} (h : hp w b = some (.cells c e f)) (o : Nat) : ∀ (n i : Nat), ((c.toList.drop (o + i)).take n).length = n → cellsAt w ⟨b, o, none⟩ i n = some ((c.toList.drop (o + i)).take n)
  | 0, i, _ => by simp [cellsAt]
  | n + 1, i, hl => by
    have hlt : o + i < c.toList.length := by simp at hl ⊢; omega
    have hd : c.toList.drop (o + i) = c.toList[o + i] :: c.toList.drop (o + i + 1) := List.drop_eq_getElem_cons hlt
    have ih := cellsAt_blk h o n (i + 1) (by rw [hd] at hl; simpa [Nat.add_assoc] using hl)
    have hc : w.cell? ((⟨b, o, none⟩ : Addr).add i) = some c.toList[o + i] := by
      rw [addr_add, cell_ldC, h, aH]
      have : o + i < c.size := by simpa using hlt
      simp [this]
    rw [cellsAt, hc, ih, hd, List.take_succ_cons, Nat.add_assoc]
section
variable {P : Program} {w : World}
theorem ldv_blk {t : TypeId} {b o : Nat} (h : (P.underlying t).map isAggD = some false) : ldv P t (.pointer (some ⟨b, o, none⟩)) w = ldC (hp w b) o := by
  obtain ⟨d, hd, h⟩ := Option.map_eq_some_iff.1 h
  rw [ldv_scalar hd h, cell_ldC]
theorem ldv_agg {t : TypeId} {b o n : Nat} {c : Array Value} {e : TypeId} {f : Nat × Nat} (h : (P.underlying t).map isAggD = some true) (hn : (P.info? t).map (·.size) = some n) (hb : hp w b = some (.cells c e f)) (hl : ((c.toList.drop o).take n).length = n) :
    ldv P t (.pointer (some ⟨b, o, none⟩)) w = some (.agg ((c.toList.drop o).take n).toArray) := by
  obtain ⟨d, hd, h⟩ := Option.map_eq_some_iff.1 h
  obtain ⟨i, hi, hn⟩ := Option.map_eq_some_iff.1 hn
  simp only [ldv, hd, Option.bind_some, h, cond_true, hi, hn, cellsAt_blk hb o n 0 (by simpa using hl), Option.map_some, Nat.add_zero]
theorem aJ {t : TypeId} {b : Nat} {c : Array Value} {e : TypeId} {f : Nat × Nat} (h : (P.underlying t).map isAggD = some true) (hn : (P.info? t).map (·.size) = some c.size) (hb : hp w b = some (.cells c e f)) :
    ldv P t (.pointer (some ⟨b, 0, none⟩)) w = some (.agg c) := by
  have hl : (c.toList.drop 0).take c.size = c.toList := by rw [List.drop_zero]; exact List.take_of_length_le (by simp)
  rw [ldv_agg h hn hb (by rw [hl]; simp), hl]
def ldL (x : Option Obj) : Nat → Nat → Option (List Value)
  | _, 0 => some []
  | o, n + 1 => match ldC x o, ldL x (o + 1) n with
    | some v, some vs => some (v :: vs)
    | _, _ => none
theorem cellsAt_L (b o : Nat) : ∀ (n i : Nat), cellsAt w ⟨b, o, none⟩ i n = ldL (hp w b) (o + i) n
  | 0, i => rfl
  | n + 1, i => by
    simp only [cellsAt, ldL, addr_add, cell_ldC, cellsAt_L b o n (i + 1), Nat.add_assoc]
    cases ldC (hp w b) (o + i) <;> cases ldL (hp w b) (o + (i + 1)) n <;> rfl
theorem ldv_L {t : TypeId} {b o n : Nat} (h : (P.underlying t).map isAggD = some true) (hn : (P.info? t).map (·.size) = some n) :
    ldv P t (.pointer (some ⟨b, o, none⟩)) w = (ldL (hp w b) o n).map fun l => .agg l.toArray := by
  obtain ⟨d, hd, h⟩ := Option.map_eq_some_iff.1 h
  obtain ⟨i, hi, hn⟩ := Option.map_eq_some_iff.1 hn
  simp only [ldv, hd, Option.bind_some, h, cond_true, hi, hn, cellsAt_L, Nat.add_zero]
@[simp] theorem ldL_some {c : Array Value} {e : TypeId} {f : Nat × Nat} {o n : Nat} (h : o + n ≤ c.size) : ldL (some (.cells c e f)) o n = some ((c.toList.drop o).take n) := by
  induction n generalizing o with
  | zero => simp [ldL]
  | succ n ih =>
    have hlt : o < c.toList.length := by simp; omega
    rw [ldL, ih (by omega), aH, Array.getElem?_eq_getElem (by omega), List.drop_eq_getElem_cons hlt, List.take_succ_cons]; rfl
def okC : Option Obj → Nat → Bool
  | some (.cells c _ (0, 0)), o => decide (o ≤ c.size)
  | _, _ => false
def getC : Option Obj → Array Value
  | some (.cells c _ _) => c
  | _ => #[]
def getE : Option Obj → TypeId
  | some (.cells _ e _) => e
  | _ => 0
@[simp] theorem okC_some (c : Array Value) (e : TypeId) (o : Nat) : okC (some (.cells c e)) o = decide (o ≤ c.size) := (rfl)
@[simp] theorem bm (c : Array Value) (e : TypeId) (f : Nat × Nat) : getC (some (.cells c e f)) = c := (rfl)
@[simp] theorem ay (c : Array Value) (e : TypeId) (f : Nat × Nat) : getE (some (.cells c e f)) = e := (rfl)
theorem okC_cases {x : Option Obj} {o : Nat} (h : okC x o = true) : ∃ c e, x = some (.cells c e) ∧ o ≤ c.size := by
  unfold okC at h
  split at h
  · exact ⟨_, _, rfl, of_decide_eq_true h⟩
  · cases h
def setL (c : Array Value) : Nat → List Value → Array Value
  | _, [] => c
  | o, v :: r => setL (c.setIfInBounds o v) (o + 1) r
theorem setL_size : ∀ (vs : List Value) (c : Array Value) (o : Nat), (setL c o vs).size = c.size
  | [], _, _ => rfl
  | v :: r, c, o => by rw [setL, setL_size r]; simp
theorem setL_toList : ∀ (vs : List Value) (c : Array Value) (o : Nat), o + vs.length ≤ c.size → (setL c o vs).toList = c.toList.take o ++ vs ++ c.toList.drop (o + vs.length)
  | [], c, o, h => by simp [setL]
  | v :: r, c, o, h => by
    simp only [List.length_cons] at h
    rw [setL, setL_toList r _ _ (by simp; omega), Array.toList_setIfInBounds]
    have ho : o < c.toList.length := by simp; omega
    have e1 : (c.toList.set o v).take (o + 1) = c.toList.take o ++ [v] := by
      rw [List.set_eq_take_append_cons_drop, if_pos ho, List.take_append, List.length_take, Nat.min_eq_left (Nat.le_of_lt ho)]
      simp [List.take_take]
    have e2 : (c.toList.set o v).drop (o + 1 + r.length) = c.toList.drop (o + (r.length + 1)) := by
      rw [List.drop_set_of_lt (by omega)]; congr 1; omega
    rw [e1, e2]; simp
theorem setL_whole (c : Array Value) (vs : List Value) (h : vs.length = c.size) : setL c 0 vs = vs.toArray := by
  apply Array.toList_inj.1
  rw [setL_toList vs c 0 (by omega)]; simp [h]
theorem setCell_put {b o : Nat} {c : Array Value} {e : TypeId} (h : hp w b = some (.cells c e)) (v : Value) : w.setCell ⟨b, o, none⟩ v = put w b (c.setIfInBounds o v) e := by
  have hh : (w.setCell ⟨b, o, none⟩ v).heap = (put w b (c.setIfInBounds o v) e).heap := by
    apply Array.ext_getElem?
    intro k
    by_cases hk : k = b
    · subst hk; rw [heap_setCell_same w k o c e v h]; exact (ar (av h) _ _).symm
    · rw [heap_setCell_other w _ k v hk]; exact (put_other hk _ _).symm
  have e1 : ∀ a b : World, a.heap = b.heap → a.tape = b.tape → a.drawn = b.drawn → a.os = b.os → a.output = b.output → a = b := by
    intro a b h1 h2 h3 h4 h5; cases a; cases b; simp_all
  exact e1 _ _ hh rfl rfl rfl rfl
theorem run_storeL {b : Nat} {e : TypeId} : ∀ (vs : List Value) (o : Nat) (c : Array Value) (w : World), hp w b = some (.cells c e) → o + vs.length ≤ c.size → (∀ v ∈ vs, v.oneCell' = true) → ∀ (a : Addr) (i : Nat), a.add i = ⟨b, o, none⟩ →
    (∀ j, a.add (i + j) = ⟨b, o + j, none⟩) → (storeCells a vs i).run P w = .ok () (if vs = [] then w else put w b (setL c o vs) e)
  | [], _, _, _, _, _, _, _, _, _, _ => rfl
  | v :: r, o, c, w, h, hl, h1, a, i, ha, hj => by
    simp only [List.length_cons] at hl
    have hst := run_store P w ⟨b, o, none⟩ v .plain (h1 v (by simp))
    rw [cell_ldC, h, aH, Array.getElem?_eq_getElem (by omega), frozen_of_row w b o c e h] at hst
    simp only [Bool.false_eq_true, if_false] at hst
    have ih := run_storeL r (o + 1) (c.setIfInBounds o v) (put w b (c.setIfInBounds o v) e) (ar (av h) _ _) (by simp; omega) (fun u hu => h1 u (List.mem_cons_of_mem _ hu)) a (i + 1) (hj 1) (fun j => by rw [Nat.add_assoc, hj, Nat.add_assoc])
    simp only [storeCells, Sem.run_bind, ha, hst, Result.andThen_ok, setCell_put h, ih]
    cases r with
    | nil => simp [setL]
    | cons u r => simp [setL, put_put]
theorem effu_store {t : TypeId} {b o : Nat} {v : Value} {K : World → Prop} {n : Nat} (hn : (P.info? t).map (·.size) = some n) (hv : v.cells.size = n) (h1 : v.cells.toList.all (·.oneCell') = true) (h0 : 0 < n) (h : okC (hp w b) (o + n) = true) :
    effu P (Instr.storeAt t (.pointer (some ⟨b, o, none⟩)) v) w K = K (put w b (setL (getC (hp w b)) o v.cells.toList) (getE (hp w b))) := by
  obtain ⟨i, hi, hn⟩ := Option.map_eq_some_iff.1 hn
  obtain ⟨c, e, hb, hl⟩ := okC_cases h
  have hr := run_storeL (P := P) v.cells.toList o c w hb (by rw [Array.length_toList, hv]; omega) (fun u hu => List.all_eq_true.1 h1 u hu) ⟨b, o, none⟩ 0 rfl (fun j => by rw [Nat.zero_add, addr_add])
  have hne : ¬ v.cells.toList = [] := fun h => by
    have := congrArg List.length h
    rw [Array.length_toList, hv] at this
    simp only [List.length_nil] at this; omega
  rw [if_neg hne] at hr
  have hrun : (Instr.storeAt t (.pointer (some ⟨b, o, none⟩)) v).run P w = .ok () (put w b (setL c o v.cells.toList) e) := by
    simp [Instr.storeAt, Instr.sureAddr, storeVar, sizeOf, typeInfo, hi, hn, hv, hr]
  rw [hb, bm, ay]
  unfold effu
  rw [hrun]
theorem aK {t : TypeId} {b o : Nat} {v : Value} {K : World → Prop} (hn : (P.info? t).map (·.size) = some 1) (hv : v.cells = #[v]) (h1 : v.oneCell' = true) (h : okC (hp w b) (o + 1) = true) :
    effu P (Instr.storeAt t (.pointer (some ⟨b, o, none⟩)) v) w K = K (put w b ((getC (hp w b)).setIfInBounds o v) (getE (hp w b))) := by
  rw [effu_store hn (by rw [hv]; rfl) (by rw [hv]; simp [h1]) Nat.one_pos h, hv]; rfl
theorem effu_storeW {t : TypeId} {b : Nat} {c : Array Value} {K : World → Prop} {n : Nat} (hn : (P.info? t).map (·.size) = some n) (hc : c.size = n) (h1 : c.toList.all (·.oneCell') = true) (h0 : 0 < n) (h : okC (hp w b) n = true) (hs : (getC (hp w b)).size = n) :
    effu P (Instr.storeAt t (.pointer (some ⟨b, 0, none⟩)) (.agg c)) w K = K (put w b c (getE (hp w b))) := by
  rw [effu_store (v := .agg c) hn hc h1 h0 (by simpa using h)]
  show K (put w b (setL _ 0 c.toList) _) = _
  rw [setL_whole _ _ (by rw [hs]; simpa using hc)]
theorem effv_alloc {t : TypeId} {x z : Value} {K : Value → World → Prop} (hz : (P.info? t).bind (·.zero) = some z) :
    effv P (Instr.alloc t true x) w K = K (.pointer (some ⟨w.heap.size, 0, none⟩)) (w.alloc (.cells z.cells t)) := by
  obtain ⟨i, hi, hz⟩ := Option.bind_eq_some_iff.1 hz
  have : (Instr.alloc t true x).run P w = .ok (.pointer (some ⟨w.heap.size, 0, none⟩)) (w.alloc (.cells z.cells t)) := by
    simp [Instr.alloc, zeroValue, typeInfo, hi, hz, newVar, newRow]
  unfold effv; rw [this]
theorem ak {t : TypeId} {v : Value} {K : Value → World → Prop} :
    effv P (Instr.box t v) w K = K (.pointer (some ⟨w.heap.size, 0, none⟩)) (w.alloc (.cells v.cells t)) := by
  have : (Instr.box t v).run P w = .ok (.pointer (some ⟨w.heap.size, 0, none⟩)) (w.alloc (.cells v.cells t)) := by
    simp [Instr.box, newVar, newRow]
  unfold effv; rw [this]
def fOff (P : Program) (s : TypeId) (k : Nat) : Option (Nat × Nat × Bool) :=
  match P.underlying s with
  | some (.struct fs) => match fs[k]? with
    | some f => match P.info? f.type, P.underlying f.type with
      | some i, some d => some (f.offset, i.size, isAggD d)
      | _, _ => none
    | none => none
  | _ => none
theorem fOff_cases {s : TypeId} {k : Nat} {x : Nat × Nat × Bool} (h : fOff P s k = some x) : ∃ fs f i d, P.underlying s = some (.struct fs) ∧ fs[k]? = some f ∧ P.info? f.type = some i ∧ P.underlying f.type = some d ∧ x = (f.offset, i.size, isAggD d) := by
  unfold fOff at h
  repeat' split at h
  all_goals first | (cases h; done) | skip
  exact ⟨_, _, _, _, by assumption, by assumption, by assumption, by assumption, (Option.some.inj h).symm⟩
theorem ag {s : TypeId} {k : Nat} {b o off z : Nat} {g : Bool} (h : fOff P s k = some (off, z, g)) (h0 : z ≠ 0) :
    pureRun P (Instr.fieldAt s (.pointer (some ⟨b, o, none⟩)) k) = some (.pointer (some ⟨b, o + off, none⟩)) := ap fun w => by
  obtain ⟨fs, f, i, d, hs, hf, hi, hd, e⟩ := fOff_cases h
  simp only [Prod.mk.injEq] at e
  obtain ⟨rfl, rfl, rfl⟩ := e
  simp [Instr.fieldAt, run_underlying hs, hf, Instr.sureAddr, fieldPlace, sizeOf, typeInfo, hi, h0, addr_add]
theorem isAgg_run {t : TypeId} {d : TypeDesc} (hd : P.underlying t = some d) (w : World) : (isAgg t).run P w = .ok (isAggD d) w := by
  simp only [isAgg, underlying, Sem.run_bind, run_program, Result.andThen_ok, hd, Sem.run_pure]
  cases d <;> rfl
theorem pr_field1 {s : TypeId} {k : Nat} {c : Array Value} {off z : Nat} {v : Value} (h : fOff P s k = some (off, z, false)) (hv : c[off]? = some v) :
    pureRun P (Instr.field s (.agg c) k) = some v := ap fun w => by
  obtain ⟨fs, f, i, d, hs, hf, hi, hd, e⟩ := fOff_cases h
  simp only [Prod.mk.injEq] at e
  obtain ⟨rfl, rfl, hz⟩ := e
  simp [Instr.field, run_underlying hs, hf, asAgg, part, isAgg_run hd, ← hz, hv]
@[simp] theorem pr_extract {vs : Array Value} {k : Nat} : pureRun P (Instr.extract (.tuple vs) k) = match vs[k]? with | some v => some v | none => pureRun P (Instr.extract (.tuple vs) k) := by
  cases h : vs[k]? with
  | none => rfl
  | some v => exact ap fun w => by simp [Instr.extract, h]
end
@[simp] theorem cells_int (k : IntKind) (n : Int) : (Value.int k n).cells = #[.int k n] := (rfl)
@[simp] theorem cells_bool (b : Bool) : (Value.bool b).cells = #[.bool b] := (rfl)
@[simp] theorem cells_slice (a : Option Addr) (n c : Nat) : (Value.slice a n c).cells = #[.slice a n c] := (rfl)
@[simp] theorem cells_ptr (a : Option Addr) : (Value.pointer a).cells = #[.pointer a] := (rfl)
@[simp] theorem au (c : Array Value) : (Value.agg c).cells = c := (rfl)
@[simp] theorem cells_string (s : ByteArray) : (Value.string s).cells = #[.string s] := (rfl)
@[simp] theorem one_string (s : ByteArray) : (Value.string s).oneCell' = true := (rfl)
@[simp] theorem one_int (k : IntKind) (n : Int) : (Value.int k n).oneCell' = true := (rfl)
@[simp] theorem one_bool (b : Bool) : (Value.bool b).oneCell' = true := (rfl)
@[simp] theorem one_slice (a : Option Addr) (n c : Nat) : (Value.slice a n c).oneCell' = true := (rfl)
@[simp] theorem one_ptr (a : Option Addr) : (Value.pointer a).oneCell' = true := (rfl)
@[simp] theorem szlt2 (n : Nat) : (n < n + 1 + 1) = True := eq_true (by omega)
@[simp] theorem szne2 (n : Nat) : (n = n + 1 + 1) = False := eq_false (by omega)
@[simp] theorem szen2 (n : Nat) : (n + 1 + 1 = n) = False := eq_false (by omega)
@[simp] theorem szlt3 (n : Nat) : (n < n + 1 + 1 + 1) = True := eq_true (by omega)
@[simp] theorem szne3 (n : Nat) : (n = n + 1 + 1 + 1) = False := eq_false (by omega)
@[simp] theorem szen3 (n : Nat) : (n + 1 + 1 + 1 = n) = False := eq_false (by omega)
@[simp] theorem szlt4 (n : Nat) : (n < n + 1 + 1 + 1 + 1) = True := eq_true (by omega)
@[simp] theorem szne4 (n : Nat) : (n = n + 1 + 1 + 1 + 1) = False := eq_false (by omega)
@[simp] theorem szen4 (n : Nat) : (n + 1 + 1 + 1 + 1 = n) = False := eq_false (by omega)
@[simp] theorem szlt5 (n : Nat) : (n < n + 1 + 1 + 1 + 1 + 1) = True := eq_true (by omega)
@[simp] theorem szne5 (n : Nat) : (n = n + 1 + 1 + 1 + 1 + 1) = False := eq_false (by omega)
@[simp] theorem szen5 (n : Nat) : (n + 1 + 1 + 1 + 1 + 1 = n) = False := eq_false (by omega)
@[simp] theorem szlt6 (n : Nat) : (n < n + 1 + 1 + 1 + 1 + 1 + 1) = True := eq_true (by omega)
@[simp] theorem szne6 (n : Nat) : (n = n + 1 + 1 + 1 + 1 + 1 + 1) = False := eq_false (by omega)
@[simp] theorem szen6 (n : Nat) : (n + 1 + 1 + 1 + 1 + 1 + 1 = n) = False := eq_false (by omega)
structure Chg (S : List Nat) (w w' : World) : Prop where
  os : w'.os = w.os
  tape : w'.tape = w.tape
  output : w'.output = w.output
  size : w.heap.size ≤ w'.heap.size
  block : ∀ k, k < w.heap.size → k ∉ S → hp w' k = hp w k
theorem Chg.refl (S : List Nat) (w : World) : Chg S w w := ⟨rfl, rfl, rfl, Nat.le_refl _, fun _ _ _ => rfl⟩
theorem Chg.trans {S : List Nat} {a b c : World} (h : Chg S a b) (k : Chg S b c) : Chg S a c :=
  ⟨k.os.trans h.os, k.tape.trans h.tape, k.output.trans h.output, Nat.le_trans h.size k.size, fun i hi hn => (k.block i (Nat.lt_of_lt_of_le hi h.size) hn).trans (h.block i hi hn)⟩
theorem Chg.mono {S T : List Nat} {a b : World} (h : Chg S a b) (hs : ∀ k, k ∈ S → k < a.heap.size → k ∈ T) : Chg T a b := ⟨h.os, h.tape, h.output, h.size, fun k hk hn => h.block k hk fun hm => hn (hs k hm hk)⟩
theorem Chg.below {w w' : World} (h : Chg [] w w') : Below w.heap.size w w' := ⟨h.os, h.tape, h.output, h.size, fun k hk => h.block k hk (by simp)⟩
theorem Chg.of_below {w w' : World} (h : Below w.heap.size w w') (S : List Nat) : Chg S w w' := ⟨h.os, h.tape, h.output, h.size, fun k hk _ => h.block k hk⟩
theorem Chg.drew {S : List Nat} {a w : World} (h : Chg S a w) : Chg S a w.drew := ⟨h.os, h.tape, h.output, h.size, h.block⟩
theorem Chg.alloc {S : List Nat} {a w : World} (h : Chg S a w) (o : Obj) : Chg S a (w.alloc o) :=
  h.trans ⟨rfl, rfl, rfl, by simp, fun k hk _ => by rw [aa, if_neg (by omega)]⟩
theorem Chg.put {S : List Nat} {a w : World} (h : Chg S a w) {b : Nat} (hb : b ∈ S ∨ a.heap.size ≤ b) (c : Array Value) (e : TypeId) : Chg S a (put w b c e) :=
  ⟨h.os, h.tape, h.output, by simpa using h.size, fun k hk hn => by
    rw [put_other (fun hkb => by subst hkb; rcases hb with hb | hb; exact hn hb; omega)]; exact h.block k hk hn⟩
theorem Chg.grown {S : List Nat} {a w w' : World} {row : Option Nat} (h : Chg S a w) (hg : w.grownBy w' row) (hr : ∀ k, row = some k → k ∈ S ∨ a.heap.size ≤ k) : Chg S a w' :=
  ⟨hg.os.trans h.os, hg.tape.trans h.tape, hg.output.trans h.output, Nat.le_trans h.size hg.size, fun k hk hn => by
    exact (hg.block k (Nat.lt_of_lt_of_le hk h.size) (fun e => by rcases hr k e.symm with h1 | h1; exact hn h1; omega)).trans (h.block k hk hn)⟩
theorem Chg.at {S : List Nat} {w w' : World} (h : Chg S w w') {b : Nat} {o : Obj} (hb : hp w b = some o) (hn : b ∉ S) : hp w' b = some o := by rw [h.block b (av hb) hn]; exact hb
theorem Chg.cell {S : List Nat} {w w' : World} (h : Chg S w w') {p : Addr} {v : Value} (hc : w.cell? p = some v) (hn : p.block ∉ S) : w'.cell? p = some v := by
  have : w'.heap[p.block]? = w.heap[p.block]? := h.block p.block (cell_lt hc) hn
  unfold World.cell? at hc ⊢
  rw [this]; exact hc
end Go.Proofs.YteapggpkgfiacaaGreat.Ev

