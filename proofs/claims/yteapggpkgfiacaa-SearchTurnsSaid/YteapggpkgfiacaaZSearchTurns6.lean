/- Parts of the proof of SearchTurns, one behind the other. Conditions: none. -/
import Derived.Laws.CopyRow
import Derived.Laws.MakeOwn
import Derived.Test.YteapggpkgfiacaaZSearchTurns5
namespace Go.Proofs.Yteapggpkgfiacaa.Ev
open Go Go.RowKit
set_option linter.unusedSimpArgs false
set_option linter.unusedVariables false

def blk (v : Value) : List Nat := v.ownBlock.toList
@[simp] theorem blk_nil : blk (.slice none 0 0) = [] := (rfl)
@[simp] theorem blk_some (a : Addr) (n c : Nat) : blk (.slice (some a) n c) = [a.block] := (rfl)
@[simp] theorem mem_blk {v : Value} {k : Nat} : k ∈ blk v ↔ v.ownBlock = some k := by unfold blk; simp
/-- an object that stood on F stands on F' now; nothing else was turned -/
structure Upd (F F' : List Nat) (w w' : World) : Prop where
  chg : Chg F w w'
  sub : ∀ k ∈ F', k ∈ F ∨ w.heap.size ≤ k
theorem Upd.refl (F : List Nat) (w : World) : Upd F F w w := ⟨Chg.refl _ _, fun k hk => .inl hk⟩
theorem Upd.trans {F G H : List Nat} {a b c : World} (h : Upd F G a b) (k : Upd G H b c) : Upd F H a c :=
  ⟨⟨k.chg.os.trans h.chg.os, k.chg.tape.trans h.chg.tape, k.chg.output.trans h.chg.output, Nat.le_trans h.chg.size k.chg.size, fun i hi hn =>
    (k.chg.block i (Nat.lt_of_lt_of_le hi h.chg.size) fun hg => by rcases h.sub i hg with h1 | h1; exact hn h1; omega).trans (h.chg.block i hi hn)⟩,
   fun i hi => by
    rcases k.sub i hi with h1 | h1
    · exact h.sub i h1
    · exact .inr (Nat.le_trans h.chg.size h1)⟩
theorem Upd.grow {F G H : List Nat} {a b c : World} (h : Upd F G a b) (k : Chg [] b c) : Upd F G a c := h.trans ⟨k.mono (by simp), fun i hi => .inl hi⟩
theorem Upd.pre {F G : List Nat} {a b c : World} (k : Chg [] a b) (h : Upd F G b c) : Upd F G a c :=
  ⟨(k.mono (by simp)).trans h.chg, fun i hi => (h.sub i hi).imp id (Nat.le_trans k.size)⟩
/-- an object elsewhere stays apart from it -/
def Dis (F G : List Nat) : Prop := ∀ k, k ∈ F → k ∈ G → False
theorem Dis.upd {F F' G : List Nat} {w w' : World} (h : Dis F G) (u : Upd F F' w w') (hG : ∀ k ∈ G, k < w.heap.size) : Dis F' G := fun k h1 h2 => by
  rcases u.sub k h1 with h3 | h3
  · exact h k h3 h2
  · have := hG k h2; omega
theorem Dis.symm {F G : List Nat} (h : Dis F G) : Dis G F := fun k h1 h2 => h k h2 h1
/-- a change from a beginning on that leaves an object alone stays so -/
theorem Chg.upd {S F F' : List Nat} {W w w' : World} (h : Chg S W w) (u : Upd F F' w w') (hF : ∀ k ∈ F, k ∈ S ∨ W.heap.size ≤ k) : Chg S W w' :=
  ⟨u.chg.os.trans h.os, u.chg.tape.trans h.tape, u.chg.output.trans h.output, Nat.le_trans h.size u.chg.size, fun k hk hn =>
    (u.chg.block k (Nat.lt_of_lt_of_le hk h.size) fun hm => by rcases hF k hm with h1 | h1; exact hn h1; omega).trans (h.block k hk hn)⟩
theorem Upd.news {F F' : List Nat} {W w w' : World} (u : Upd F F' w w') (hs : W.heap.size ≤ w.heap.size) (hF : ∀ k ∈ F, W.heap.size ≤ k) : ∀ k ∈ F', W.heap.size ≤ k := fun k hk => by
  rcases u.sub k hk with h | h
  · exact hF k h
  · omega
theorem drop_take {α : Type} (l : List α) (n o : Nat) : (l.take n).drop o = (l.drop o).take (n - o) := List.drop_take
theorem setL_take {c : Array Value} {o m : Nat} {vs : List Value} (hm : m ≤ c.size) (ho : o + vs.length ≤ m) : (setL c o vs).toList.take m = (c.toList.take m).take o ++ vs ++ (c.toList.take m).drop (o + vs.length) := by
  rw [setL_toList vs c o (by omega), List.append_assoc, List.append_assoc, List.take_append, List.take_append]
  have hl : (c.toList.take o).length = o := by simp; omega
  have e1 : (c.toList.take o).take m = (c.toList.take m).take o := by rw [List.take_take, List.take_take, Nat.min_comm]
  rw [e1, hl, List.take_of_length_le (show vs.length ≤ m - o by omega), List.drop_take, Nat.sub_sub]
theorem ownsRow_put {w : World} {base : Nat} {e : TypeId} {size : Nat} {v : Value} {n : Nat} {xs : List Value} {g o : Nat} {vs : List Value} (h : w.ownsRow base e size v n xs) (hv : v.ownBlock = some g) (ho : o + vs.length ≤ n * size) :
    (put w g (setL (getC (hp w g)) o vs) (getE (hp w g))).ownsRow base e size v n (xs.take o ++ vs ++ xs.drop (o + vs.length)) ∧ okC (hp w g) (o + vs.length) = true := by
  rcases h.2 with ⟨rfl, h0⟩ | ⟨g', cap, cur, rfl, hbg, hg, hnc, hcm, hcs, htake⟩
  · cases hv
  · have : g' = g := by simpa [Value.ownBlock] using hv
    subst this
    have hle : n * size ≤ cur.size := by rw [hcs]; exact Nat.mul_le_mul_right _ hnc
    have hg' : hp w g' = some (.cells cur e (0, 0)) := hg
    refine ⟨⟨?_, .inr ⟨g', cap, setL cur o vs, rfl, hbg, ?_, hnc, hcm, by rw [setL_size, hcs], ?_⟩⟩, ?_⟩
    · have := h.1; simp; omega
    · rw [hg']
      exact put_same (w := w) (blk_lt hg') (setL cur o vs) e
    · rw [setL_take hle ho, htake]
    · rw [hg']; simp; omega
/-- one behind the other: a part of one is written anew -/
theorem flat_part {α : Type} {enc : α → List Value} {z : Nat} (h : ∀ x, (enc x).length = z) (x' : α) (k : Nat) (vs : List Value) (hk : k + vs.length ≤ z) : ∀ (xs : List α) (i : Nat) (hi : i < xs.length), enc x' = (enc xs[i]).take k ++ vs ++ (enc xs[i]).drop (k + vs.length) →
    (xs.flatMap enc).take (i * z + k) ++ vs ++ (xs.flatMap enc).drop (i * z + k + vs.length) = (xs.set i x').flatMap enc
  | [], i, hi, _ => by simp at hi
  | x :: xs, 0, hi, he => by
    simp only [List.getElem_cons_zero] at he
    have hx := h x
    simp only [Nat.zero_mul, Nat.zero_add, List.flatMap_cons, List.set_cons_zero, he]
    rw [List.take_append_of_le_length (by omega), List.drop_append_of_le_length (by omega)]
    simp
  | x :: xs, i + 1, hi, he => by
    have ih := flat_part h x' k vs hk xs i (by simpa using hi) (by simpa using he)
    have hx := h x
    simp only [List.flatMap_cons, List.set_cons_succ]
    rw [← ih, show (i + 1) * z + k = z + (i * z + k) by rw [Nat.add_mul]; omega, show z + (i * z + k) + vs.length = z + (i * z + k + vs.length) by omega]
    rw [List.take_append, List.drop_append, hx, List.take_of_length_le (by omega), List.drop_of_length_le (by omega), Nat.add_sub_cancel_left, Nat.add_sub_cancel_left]
    simp
theorem set_eq (xs : List Value) (i : Nat) (v : Value) (hi : i < xs.length) : xs.take i ++ [v] ++ xs.drop (i + 1) = xs.set i v := by
  rw [List.set_eq_take_append_cons_drop, if_pos hi]; simp
/-- an element of an own row: its place, what stands there -/
theorem own_elem {P : Program} {w : World} {base : Nat} {t e : TypeId} {z : Nat} {v : Value} {n : Nat} {xs : List Value} {i : Int} {j : IntKind} (h : w.ownsRow base e z v n xs) (ht : P.underlying t = some (.slice e)) (hz : (P.info? e).map (·.size) = some z) (h0 : 0 ≤ i) (h1 : i < n) :
    ∃ g c, v = .slice (some ⟨g, 0, none⟩) n c ∧ v.ownBlock = some g ∧ pureRun P (Instr.indexAt t v (.int j i)) = some (.pointer (some ⟨g, i.toNat * z, none⟩)) ∧ (∀ k, k < z → ldC (hp w g) (i.toNat * z + k) = xs[i.toNat * z + k]?) ∧ ldL (hp w g) (i.toNat * z) z = some ((xs.drop (i.toNat * z)).take z) ∧ i.toNat * z + z ≤ n * z := by
  rcases h.2 with ⟨rfl, h0'⟩ | ⟨g, cap, cur, rfl, hbg, hg, hnc, hcm, hcs, htake⟩
  · omega
  · have hg' : hp w g = some (.cells cur e (0, 0)) := hg
    have hlt : i.toNat * z + z ≤ n * z := by
      have h2 : i.toNat + 1 ≤ n := by omega
      have h3 := Nat.mul_le_mul_right z h2
      rw [Nat.add_mul, Nat.one_mul] at h3
      omega
    have hle : n * z ≤ cur.size := by rw [hcs]; exact Nat.mul_le_mul_right _ hnc
    have hcell : ∀ k, k < z → ldC (hp w g) (i.toNat * z + k) = xs[i.toNat * z + k]? := fun k hk => by
      rw [hg', ldC_some, ← htake, List.getElem?_take, if_pos (by omega)]
      simp
    refine ⟨g, cap, rfl, rfl, ?_, hcell, ?_, hlt⟩
    · have := pr_index (P := P) (A := ⟨g, 0, none⟩) (c := cap) (k := j) ht hz h0 h1
      rw [addr_add, Nat.zero_add] at this
      exact this
    · refine ldL_take z _ _ (by have := h.1; simp; omega) fun k u hk => ?_
      rw [List.getElem?_take] at hk
      split at hk
      · rename_i hkz
        rw [hcell k hkz, ← List.getElem?_drop]; exact hk
      · cases hk
section
variable {P : Program} {w : World} {K : Value → World → Prop}
theorem effv_make {t e : TypeId} {i : TypeInfo} {z : Value} {kl kc : IntKind} {n : Nat} (ht : P.underlying t = some (.slice e)) (hi : P.info? e = some i) (hz : i.zero = some z) (hcells : n * i.size ≤ 16777216) (hbytes : i.bytes * n ≤ 281474976710656) (h63 : n ≤ 9223372036854775807) :
    effv P (Instr.makeSlice t (.int kl (n : Int)) (.int kc (n : Int))) w K = K (.slice (some ⟨w.heap.size, 0, none⟩) n n) (w.alloc (.cells (madeCells z.cells (n * i.size)) e)) := by
  have hb : (i.bytes : Int) * (n : Int) ≤ 281474976710656 := by
    have h : ((i.bytes * n : Nat) : Int) ≤ 281474976710656 := by omega
    rwa [Int.natCast_mul] at h
  have hr := run_makeSlice (P := P) w t e i z ht hi hz kl kc n n (by omega) (Int.le_refl _) (by rw [Int.toNat_natCast]; exact hcells) hb (by omega)
  simp only [Int.toNat_natCast] at hr
  unfold effv; rw [hr]
theorem eqIn_slice {d : Nat} {t e : TypeId} {A : Option Addr} {n c : Nat} {w : World} (h : P.underlying t = some (.slice e)) : (Op.equalIn (d + 1) t (.slice A n c) (.slice none 0 0)).run P w = .ok A.isNone w := by
  cases A <;> simp [Op.equalIn, run_underlying h]
theorem be_eqlsl {t e : TypeId} {x y : Operand} {A : Option Addr} {n c : Nat} (h : P.underlying t = some (.slice e)) : be P .eql t x y (.slice A n c) (.slice none 0 0) = some (.bool A.isNone) :=
  be_eq1 (fun w => by simp [eqGuard]) (fun w => by simp only [binOp]) fun w => eqIn_slice h
/-- an empty literal slice -/
theorem effv_build0 {t e : TypeId} {i : TypeInfo} (ht : P.underlying t = some (.slice e)) (hi : P.info? e = some i) : effv P (Instr.buildSlice t 0 #[]) w K = K (.slice (some ⟨w.heap.size, 0, none⟩) 0 0) (w.alloc (.cells #[] e)) := by
  have hr : (Instr.buildSlice t 0 #[]).run P w = .ok (.slice (some ⟨w.heap.size, 0, none⟩) 0 0) (w.alloc (.cells #[] e)) := by
    simp [Instr.buildSlice, run_underlying ht, sizeOf, typeInfo, hi, Instr.fill, newRow, Array.range_zero']
  unfold effv; rw [hr]
/-- a clone: an own row of what is read -/
theorem eff_clone {t e : TypeId} {i : TypeInfo} {z : Value} {size : Nat} {A : Option Addr} {m c : Nat} {news : List Value} (ht : P.underlying t = some (.slice e)) (hi : P.info? e = some i) (hz : i.zero = some z) (hs : i.size = size) (hzc : z.cells.size = size) (h0 : 0 < size)
    (hl : news.length = m * size) (hnews : RdV w A news) (h1 : ∀ u ∈ news, u.oneCell' = true) (hn : m ≤ maxLen) (hbytes : m * i.bytes ≤ 140737488355328)
    (hk : ∀ x' w', w'.ownsRow w.heap.size e size x' m news → Chg [] w w' → K x' w') :
    effv P (Instr.buildSlice t 0 #[]) w fun x w => effv P (Builtin.append_ #[t, t] t #[x, .slice A m c]) w K := by
  rw [effv_build0 ht hi]
  refine eff_append (base := w.heap.size) (xs := []) (n := 0) (news := news) (m := m) ht hi hz hs hzc h0 (World.ownsRow_made w #[] 0 (Nat.le_refl _) (Nat.zero_le _) (by simp)) hl (fun j u hj => ?_) h1 (by omega) (by simpa using hbytes) (by simp) fun x' w' ho hg => ?_
  · obtain ⟨p, hp, hc⟩ := hnews j u hj
    exact ⟨p, hp, Below.cellKeep ((Chg.refl [] w).alloc _).below hc⟩
  · refine hk x' w' (by simpa using ho) (((Chg.refl [] w).alloc _).grown hg fun k hk => .inr ?_)
    simp [Value.ownBlock] at hk
    omega
end
end Go.Proofs.Yteapggpkgfiacaa.Ev

