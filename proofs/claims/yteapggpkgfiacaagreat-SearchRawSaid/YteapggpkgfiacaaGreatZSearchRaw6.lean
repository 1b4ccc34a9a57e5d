/- Parts of the proof of SearchRaw, one behind the other. Conditions: none. -/
import Derived.Laws.CopyRow
import Derived.Laws.MakeOwn
import Derived.Test.YteapggpkgfiacaaGreatZSearchRaw5
set_option linter.unusedSimpArgs false
set_option linter.unusedVariables false
namespace Go.Proofs.YteapggpkgfiacaaGreat.Ev
open Go Go.RowKit

def blk (v : Value) : List Nat := v.ownBlock.toList
@[simp] theorem blk_nil : blk (.slice none 0 0) = [] := (rfl)
@[simp] theorem blk_some (a : Addr) (n c : Nat) : blk (.slice (some a) n c) = [a.block] := (rfl)
@[simp] theorem mem_blk {v : Value} {k : Nat} : k ∈ blk v ↔ v.ownBlock = some k := by unfold blk; simp
structure Upd (F F' : List Nat) (w w' : World) : Prop where
  chg : Chg F w w'
  sub : ∀ k ∈ F', k ∈ F ∨ w.heap.size ≤ k
theorem Upd.refl (F : List Nat) (w : World) : Upd F F w w := ⟨Chg.refl _ _, fun k hk => .inl hk⟩
theorem Upd.trans {F G H : List Nat} {a b c : World} (h : Upd F G a b) (k : Upd G H b c) : Upd F H a c :=
  ⟨⟨k.chg.os.trans h.chg.os, k.chg.tape.trans h.chg.tape, k.chg.output.trans h.chg.output, Nat.le_trans h.chg.size k.chg.size, fun i hi hn =>
    (k.chg.block i (Nat.lt_of_lt_of_le hi h.chg.size) fun hg => by rcases h.sub i hg with h1 | h1; exact hn h1; omega).trans (h.chg.block i hi hn)⟩,
   fun i hi => by
    rcases k.sub i hi with h1 | h1
    · exact h.sub i h1
    · exact .inr (Nat.le_trans h.chg.size h1)⟩
theorem Upd.grow {F G H : List Nat} {a b c : World} (h : Upd F G a b) (k : Chg [] b c) : Upd F G a c := h.trans ⟨k.mono (by simp), fun i hi => .inl hi⟩
theorem Upd.pre {F G : List Nat} {a b c : World} (k : Chg [] a b) (h : Upd F G b c) : Upd F G a c :=
  ⟨(k.mono (by simp)).trans h.chg, fun i hi => (h.sub i hi).imp id (Nat.le_trans k.size)⟩
def Dis (F G : List Nat) : Prop := ∀ k, k ∈ F → k ∈ G → False
theorem Dis.upd {F F' G : List Nat} {w w' : World} (h : Dis F G) (u : Upd F F' w w') (hG : ∀ k ∈ G, k < w.heap.size) : Dis F' G := fun k h1 h2 => by
  rcases u.sub k h1 with h3 | h3
  · exact h k h3 h2
  · have := hG k h2; omega
theorem Dis.symm {F G : List Nat} (h : Dis F G) : Dis G F := fun k h1 h2 => h k h2 h1
theorem Chg.upd {S F F' : List Nat} {W w w' : World} (h : Chg S W w) (u : Upd F F' w w') (hF : ∀ k ∈ F, k ∈ S ∨ W.heap.size ≤ k) : Chg S W w' :=
  ⟨u.chg.os.trans h.os, u.chg.tape.trans h.tape, u.chg.output.trans h.output, Nat.le_trans h.size u.chg.size, fun k hk hn =>
    (u.chg.block k (Nat.lt_of_lt_of_le hk h.size) fun hm => by rcases hF k hm with h1 | h1; exact hn h1; omega).trans (h.block k hk hn)⟩
theorem Upd.news {F F' : List Nat} {W w w' : World} (u : Upd F F' w w') (hs : W.heap.size ≤ w.heap.size) (hF : ∀ k ∈ F, W.heap.size ≤ k) : ∀ k ∈ F', W.heap.size ≤ k := fun k hk => by
  rcases u.sub k hk with h | h
  · exact hF k h
  · omega
theorem drop_take {α : Type} (l : List α) (n o : Nat) : (l.take n).drop o = (l.drop o).take (n - o) := List.drop_take
theorem setL_take {c : Array Value} {o m : Nat} {vs : List Value} (hm : m ≤ c.size) (ho : o + vs.length ≤ m) : (setL c o vs).toList.take m = (c.toList.take m).take o ++ vs ++ (c.toList.take m).drop (o + vs.length) := by
  rw [setL_toList vs c o (by omega), List.append_assoc, List.append_assoc, List.take_append, List.take_append]
  have hl : (c.toList.take o).length = o := by simp; omega
  have e1 : (c.toList.take o).take m = (c.toList.take m).take o := by rw [List.take_take, List.take_take, Nat.min_comm]
  rw [e1, hl, List.take_of_length_le (show vs.length ≤ m - o by omega), List.drop_take, Nat.sub_sub]
theorem ownsRow_put {w : World} {base : Nat} {e : TypeId} {size : Nat} {v : Value} {n : Nat} {xs : List Value} {g o : Nat} {vs : List Value} (h : w.ownsRow base e size v n xs) (hv : v.ownBlock = some g) (ho : o + vs.length ≤ n * size) :
    (put w g (setL (getC (hp w g)) o vs) (getE (hp w g))).ownsRow base e size v n (xs.take o ++ vs ++ xs.drop (o + vs.length)) ∧ okC (hp w g) (o + vs.length) = true := by
  rcases h.2 with ⟨rfl, h0⟩ | ⟨g', cap, cur, rfl, hbg, hg, hnc, hcm, hcs, htake⟩
  · cases hv
  · have : g' = g := by simpa [Value.ownBlock] using hv
    subst this
    have hle : n * size ≤ cur.size := by rw [hcs]; exact Nat.mul_le_mul_right _ hnc
    have hg' : hp w g' = some (.cells cur e (0, 0)) := hg
    refine ⟨⟨?_, .inr ⟨g', cap, setL cur o vs, rfl, hbg, ?_, hnc, hcm, by rw [setL_size, hcs], ?_⟩⟩, ?_⟩
    · have := h.1; simp; omega
    · rw [hg']
      exact ar (w := w) (av hg') (setL cur o vs) e
    · rw [setL_take hle ho, htake]
    · rw [hg']; simp; omega
theorem flat_set1 : ∀ (xs : List Int) (i : Nat) (x : Int), (ints xs).set i (.int .i64 x) = ints (xs.set i x)
  | [], _, _ => rfl
  | y :: ys, 0, x => rfl
  | y :: ys, i + 1, x => by
    show Value.int .i64 y :: (ints ys).set i _ = Value.int .i64 y :: ints (ys.set i x)
    rw [flat_set1 ys i x]
theorem set_eq (xs : List Value) (i : Nat) (v : Value) (hi : i < xs.length) : xs.take i ++ [v] ++ xs.drop (i + 1) = xs.set i v := by
  rw [List.set_eq_take_append_cons_drop, if_pos hi]; simp
section
variable {P : Program} {w : World} {K : Value → World → Prop}
theorem effv_make {t e : TypeId} {i : TypeInfo} {z : Value} {kl kc : IntKind} {n : Nat} (ht : P.underlying t = some (.slice e)) (hi : P.info? e = some i) (hz : i.zero = some z) (hcells : n * i.size ≤ 16777216) (hbytes : i.bytes * n ≤ 281474976710656) (h63 : n ≤ 9223372036854775807) :
    effv P (Instr.makeSlice t (.int kl (n : Int)) (.int kc (n : Int))) w K = K (.slice (some ⟨w.heap.size, 0, none⟩) n n) (w.alloc (.cells (madeCells z.cells (n * i.size)) e)) := by
  have hb : (i.bytes : Int) * (n : Int) ≤ 281474976710656 := by
    have h : ((i.bytes * n : Nat) : Int) ≤ 281474976710656 := by omega
    rwa [Int.natCast_mul] at h
  have hr := run_makeSlice (P := P) w t e i z ht hi hz kl kc n n (by omega) (Int.le_refl _) (by rw [Int.toNat_natCast]; exact hcells) hb (by omega)
  simp only [Int.toNat_natCast] at hr
  unfold effv; rw [hr]
theorem eqIn_slice {d : Nat} {t e : TypeId} {A : Option Addr} {n c : Nat} {w : World} (h : P.underlying t = some (.slice e)) : (Op.equalIn (d + 1) t (.slice A n c) (.slice none 0 0)).run P w = .ok A.isNone w := by
  cases A <;> simp [Op.equalIn, run_underlying h]
theorem be_eqlsl {t e : TypeId} {x y : Operand} {A : Option Addr} {n c : Nat} (h : P.underlying t = some (.slice e)) : be P .eql t x y (.slice A n c) (.slice none 0 0) = some (.bool A.isNone) :=
  be_eq1 (fun w => by simp [eqGuard]) (fun w => by simp only [binOp]) fun w => eqIn_slice h
theorem effv_build0 {t e : TypeId} {i : TypeInfo} (ht : P.underlying t = some (.slice e)) (hi : P.info? e = some i) : effv P (Instr.buildSlice t 0 #[]) w K = K (.slice (some ⟨w.heap.size, 0, none⟩) 0 0) (w.alloc (.cells #[] e)) := by
  have hr : (Instr.buildSlice t 0 #[]).run P w = .ok (.slice (some ⟨w.heap.size, 0, none⟩) 0 0) (w.alloc (.cells #[] e)) := by
    simp [Instr.buildSlice, run_underlying ht, sizeOf, typeInfo, hi, Instr.fill, newRow, Array.range_zero']
  unfold effv; rw [hr]
theorem eff_clone {t e : TypeId} {i : TypeInfo} {z : Value} {size : Nat} {A : Option Addr} {m c : Nat} {news : List Value} (ht : P.underlying t = some (.slice e)) (hi : P.info? e = some i) (hz : i.zero = some z) (hs : i.size = size) (hzc : z.cells.size = size) (h0 : 0 < size)
    (hl : news.length = m * size) (hnews : RdV w A news) (h1 : ∀ u ∈ news, u.oneCell' = true) (hn : m ≤ maxLen) (hbytes : m * i.bytes ≤ 140737488355328)
    (hk : ∀ x' w', w'.ownsRow w.heap.size e size x' m news → Chg [] w w' → K x' w') :
    effv P (Instr.buildSlice t 0 #[]) w fun x w => effv P (Builtin.append_ #[t, t] t #[x, .slice A m c]) w K := by
  rw [effv_build0 ht hi]
  refine eff_append (base := w.heap.size) (xs := []) (n := 0) (news := news) (m := m) ht hi hz hs hzc h0 (World.ownsRow_made w #[] 0 (Nat.le_refl _) (Nat.zero_le _) (by simp)) hl (fun j u hj => ?_) h1 (by omega) (by simpa using hbytes) (by simp) fun x' w' ho hg => ?_
  · obtain ⟨p, hp, hc⟩ := hnews j u hj
    exact ⟨p, hp, Below.cellKeep ((Chg.refl [] w).alloc _).below hc⟩
  · refine hk x' w' (by simpa using ho) (((Chg.refl [] w).alloc _).grown hg fun k hk => .inr ?_)
    simp [Value.ownBlock] at hk
    omega
end
end Go.Proofs.YteapggpkgfiacaaGreat.Ev

