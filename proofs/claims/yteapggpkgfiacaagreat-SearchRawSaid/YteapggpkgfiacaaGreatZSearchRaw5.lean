/- Parts of the proof of SearchRaw, one behind the other. Conditions: none. -/
import Derived.Great.BuildSlice
import Derived.Laws.StructEq
import Derived.Test.YteapggpkgfiacaaGreatZSearchRaw4
set_option linter.unusedSimpArgs false
set_option linter.unusedVariables false
namespace Go.Proofs.YteapggpkgfiacaaGreat.Ev
open Go Go.RowKit

theorem add_add (p : Addr) (a b : Nat) : (p.add a).add b = p.add (a + b) := by
  unfold Addr.add
  by_cases ha : a = 0 <;> by_cases hb : b = 0 <;> simp [ha, hb, Nat.add_assoc]
def RdV (w : World) (A : Option Addr) (cs : List Value) : Prop := ∀ j u, cs[j]? = some u → ∃ p, A = some p ∧ w.cell? (p.add j) = some u
theorem RdV.keep {w w' : World} {A : Option Addr} {cs : List Value} (h : RdV w A cs) (hb : Below w.heap.size w w') : RdV w' A cs := fun j u hj => by
  obtain ⟨p, hp, hc⟩ := h j u hj
  exact ⟨p, hp, Below.cellKeep hb hc⟩
theorem RdV.chg {w w' : World} {S : List Nat} {A : Option Addr} {cs : List Value} (h : RdV w A cs) (hc : Chg S w w') (hn : ∀ p, A = some p → cs ≠ [] → p.block ∉ S) : RdV w' A cs := fun j u hj => by
  obtain ⟨p, hp, hcell⟩ := h j u hj
  have hbl : (p.add j).block = p.block := by unfold Addr.add; split <;> rfl
  exact ⟨p, hp, hc.cell hcell (by rw [hbl]; exact hn p hp (fun h => by rw [h] at hj; simp at hj))⟩
theorem RdV.nil (w : World) (A : Option Addr) : RdV w A [] := fun j u hj => by simp at hj
theorem ba {w : World} {base : Nat} {e : TypeId} {z : Nat} {v : Value} {n : Nat} {xs : List Value} (h : w.ownsRow base e z v n xs) : ∃ A c, v = .slice A n c ∧ RdV w A xs ∧ (∀ p, A = some p → base ≤ p.block ∧ p.block < w.heap.size) ∧ c ≤ maxLen := by
  rcases h.2 with ⟨rfl, h0⟩ | ⟨g, cap, cur, rfl, hbg, hg, hnc, hcm, hcs, htake⟩
  · have : xs = [] := by have := h.1; rw [h0] at this; simpa using this
    subst this
    exact ⟨none, 0, by rw [h0], RdV.nil _ _, fun p (hp : none = some p) => by simp at hp, Nat.zero_le _⟩
  · refine ⟨some ⟨g, 0, none⟩, cap, rfl, fun j u hj => ⟨_, rfl, h.cells (g := g) rfl j u hj⟩, fun p hp => ?_, hcm⟩
    cases hp
    exact ⟨hbg, av hg⟩
theorem ownsRow_chg {w w' : World} {S : List Nat} {base : Nat} {e : TypeId} {z : Nat} {v : Value} {n : Nat} {xs : List Value} (h : w.ownsRow base e z v n xs) (hc : Chg S w w') (hn : ∀ k, v.ownBlock = some k → k ∉ S) : w'.ownsRow base e z v n xs := by
  refine ⟨h.1, h.2.imp id fun ⟨g, cap, cur, h1, h2, h3, h4⟩ => ⟨g, cap, cur, h1, h2, ?_, h4⟩⟩
  exact hc.at h3 (hn g (by rw [h1]; rfl))
theorem ldL_take {x : Option Obj} : ∀ (n o : Nat) (cs : List Value), cs.length = n → (∀ j u, cs[j]? = some u → ldC x (o + j) = some u) → ldL x o n = some cs
  | 0, o, cs, hl, h => by simp at hl; subst hl; rfl
  | n + 1, o, [], hl, h => by simp at hl
  | n + 1, o, u :: cs, hl, h => by
    have ih := ldL_take n (o + 1) cs (by simpa using hl) fun j v hj => by
      have := h (j + 1) v (by simpa using hj)
      rw [Nat.add_right_comm]; exact this
    have h00 : ldC x o = some u := h 0 u rfl
    rw [ldL, h00, ih]
section
variable {P : Program} {w : World} {K : Value → World → Prop}
theorem RdV.elem {A : Option Addr} {cs : List Value} {s e : TypeId} {z n c : Nat} {i : Int} {j : IntKind} (h : RdV w A cs) (hs : P.underlying s = some (.slice e)) (hz : (P.info? e).map (·.size) = some z) (h0z : 0 < z) (hl : n * z ≤ cs.length) (h0 : 0 ≤ i) (h1 : i < n) :
    ∃ b o, pureRun P (Instr.indexAt s (.slice A n c) (.int j i)) = some (.pointer (some ⟨b, o, none⟩)) ∧ (∀ k, k < z → ldC (hp w b) (o + k) = cs[i.toNat * z + k]?) ∧ ldL (hp w b) o z = some ((cs.drop (i.toNat * z)).take z) ∧ (∃ p, A = some p ∧ b = p.block) := by
  have hlt : i.toNat * z + z ≤ cs.length := by
    have h2 : i.toNat + 1 ≤ n := by omega
    have h3 := Nat.mul_le_mul_right z h2
    rw [Nat.add_mul, Nat.one_mul] at h3
    omega
  obtain ⟨u0, hu0⟩ : ∃ u, cs[i.toNat * z]? = some u := ⟨_, List.getElem?_eq_getElem (by omega)⟩
  obtain ⟨p, hp, hc0⟩ := h _ _ hu0
  subst hp
  have hsp : (p.add (i.toNat * z)).spot = none := by
    unfold World.cell? at hc0
    split at hc0
    · cases hsp : (p.add (i.toNat * z)).spot with
      | none => rfl
      | some x => rw [hsp] at hc0; simp at hc0
    · cases hc0
  have hbl : (p.add (i.toNat * z)).block = p.block := by unfold Addr.add; split <;> rfl
  have hq : p.add (i.toNat * z) = ⟨p.block, (p.add (i.toNat * z)).off, none⟩ := by
    rw [← hbl, ← hsp]
  have hk : ∀ k, k < z → ldC (hp w p.block) ((p.add (i.toNat * z)).off + k) = cs[i.toNat * z + k]? := by
    intro k hk
    obtain ⟨u, hu⟩ : ∃ u, cs[i.toNat * z + k]? = some u := ⟨_, List.getElem?_eq_getElem (by omega)⟩
    obtain ⟨p', hp', hc⟩ := h _ _ hu
    cases hp'
    rw [← add_add, hq, addr_add, cell_ldC] at hc
    rw [hu]; exact hc
  refine ⟨p.block, (p.add (i.toNat * z)).off, ?_, hk, ?_, p, rfl, rfl⟩
  · rw [← hq]; exact pr_index hs hz h0 h1
  · refine ldL_take z _ _ (by simp; omega) fun k u hk' => ?_
    rw [List.getElem?_take] at hk'
    split at hk'
    · rename_i hkz
      rw [hk k hkz, ← List.getElem?_drop]; exact hk'
    · cases hk'
theorem pr_slice_h {t e : TypeId} {z n c : Nat} {A : Option Addr} {k : IntKind} {l : Int} (hs : P.underlying t = some (.slice e)) (hz : (P.info? e).map (·.size) = some z) (h0 : 0 ≤ l) (h1 : l ≤ c) :
    pureRun P (Instr.sliceAt t (.slice A n c) none (some (.int k l)) none) = some (.slice A l.toNat c) := ap fun w => by
  obtain ⟨i, hi, hz⟩ := Option.map_eq_some_iff.1 hz
  have hb : (Instr.sliceBound (.int k l) c .sliceAcap).run P w = .ok l.toNat w := by simp [Instr.sliceBound, asIntOf, h0, h1]
  have hA : A.map (fun x => x.add 0) = A := by cases A <;> rfl
  simp [Instr.sliceAt, Instr.slice, run_underlying hs, Instr.sliceBounds, hb, sizeOf, typeInfo, hi, hz, hA]
theorem RdV.drop {A : Option Addr} {cs : List Value} (h : RdV w A cs) (c l z : Nat) (hc : c = l → cs.length ≤ l * z) : RdV w (if c = l then A else A.map (·.add (l * z))) (cs.drop (l * z)) := by
  intro j u hj
  rw [List.getElem?_drop] at hj
  obtain ⟨p, hp, hcell⟩ := h _ _ hj
  subst hp
  by_cases hcl : c = l
  · have := hc hcl
    have := (List.getElem?_eq_some_iff.1 hj).1
    omega
  · rw [if_neg hcl]
    exact ⟨p.add (l * z), rfl, by rw [add_add]; exact hcell⟩
theorem RdV.take {A : Option Addr} {cs : List Value} (h : RdV w A cs) (n : Nat) : RdV w A (cs.take n) := by
  intro j u hj
  rw [List.getElem?_take] at hj
  split at hj
  · exact h j u hj
  · cases hj
def NewB (w : World) (x x' : Value) : Prop := ∀ k, x'.ownBlock = some k → x.ownBlock = some k ∨ w.heap.size ≤ k
theorem append_new {t ty e : TypeId} {i : TypeInfo} {z : Value} {base n : Nat} {v v' : Value} {w' : World} {xs : List Value} (ht : P.underlying t = some (.slice e)) (hi : P.info? e = some i) (hz : i.zero = some z) (hsz : 0 < i.size) (hown : w.ownsRow base e i.size v n xs)
    {a : Addr} {m c : Nat} {news : List Value} (hl : news.length = m * i.size) (hnews : ∀ j u, news[j]? = some u → w.cell? (a.add j) = some u) (h1 : ∀ u ∈ news, u.oneCell' = true)
    (h63 : n + m ≤ maxLen) (hbytes : (n + m) * i.bytes ≤ 140737488355328) (hr : (Builtin.append_ #[t, t] ty #[v, .slice (some a) m c]).run P w = .ok v' w') : NewB w v v' := by
  have hsmall : n + m ≤ 9223372036854775807 := by simp only [maxLen] at h63; omega
  intro k hk
  rcases hown.2 with ⟨rfl, rfl⟩ | ⟨g, cap, cur, rfl, hbg, hg, hnc, hcm, hcs, htake⟩
  · by_cases hm : m = 0
    · subst hm
      have hn : news = [] := List.eq_nil_of_length_eq_zero (by simpa using hl)
      subst hn
      have hr2 : (Builtin.append_ #[t, t] ty #[.slice none 0 0, .slice (some a) 0 c]).run P w = .ok (.slice none 0 0) w := by
        simp [Builtin.append_, run_underlying ht, sizeOf, typeInfo, hi, Builtin.lenOf, Builtin.firstCells, loadCells, loadCellsFrom]
      rw [hr2] at hr
      cases hr
      exact .inl hk
    · have hr2 := run_append_nil (P := P) w t ty e i z ht hi hz a m c news hl hnews (by omega) (by omega) (by have hb := hbytes; simp only [Nat.zero_add] at hb; omega)
      rw [hr2] at hr
      cases hr
      simp [Value.ownBlock] at hk
      exact .inr (by omega)
  · by_cases hroom : n + m ≤ cap
    · have hfit : n * i.size + news.length ≤ cur.size := by rw [hl, hcs, ← Nat.add_mul]; exact Nat.mul_le_mul_right _ hroom
      have hr2 := run_append_room (P := P) w t ty e i ht hi g n cap cur hg a m c news hl hnews h1 hroom hfit
      rw [hr2] at hr
      cases hr
      exact .inl hk
    · have holds : ∀ j u, xs[j]? = some u → w.cell? ((⟨g, 0, none⟩ : Addr).add j) = some u := hown.cells (g := g) rfl
      have hr2 := run_append_grow (P := P) w t ty e i z ht hi hz ⟨g, 0, none⟩ n cap xs hown.1 holds a m c news hl hnews (by omega) (by omega) (growslice_fits (by omega) hbytes)
      rw [hr2] at hr
      cases hr
      simp [Value.ownBlock] at hk
      exact .inr (by omega)
theorem eff_pushN {t ty e : TypeId} {zv v x : Value} {i : TypeInfo} {base n z : Nat} {xs cs : List Value} (ht : P.underlying t = some (.slice e)) (hi : P.info? e = some i) (hz : i.zero = some zv) (hs : i.size = z) (hzc : zv.cells.size = z) (h0 : 0 < z) (hsm : z ≤ 16777216)
    (hfill : Instr.fill (fun k => some (k * z, z)) ((Array.range (1 * z)).map (zv.cells[· % zv.cells.size]!)) [(0, v)] = some cs.toArray) (hcs : cs.length = z) (h1 : ∀ u ∈ cs, u.oneCell' = true)
    (hown : w.ownsRow base e z x n xs) (hn : n + 1 ≤ maxLen) (hbytes : (n + 1) * i.bytes ≤ 140737488355328) (hbase : base ≤ w.heap.size)
    (hk : ∀ x' w', w'.ownsRow base e z x' (n + 1) (xs ++ cs) → w.grownBy w' x.ownBlock → NewB w x x' → K x' w') :
    effv P (Instr.buildSlice t 1 #[(0, v)]) w fun y w1 => effv P (Builtin.append_ #[t, t] ty #[x, y]) w1 K := by
  subst hs
  have hb := run_buildSlice (P := P) w t e 1 #[(0, v)] cs.toArray i zv ht hi hz (by omega) (by omega) hfill
  refine effv_of hb ?_
  have hnews : ∀ j u, cs[j]? = some u → (w.alloc (.cells cs.toArray e)).cell? ((⟨w.heap.size, 0, none⟩ : Addr).add j) = some u := fun j u hj => by rw [addr_add, cell_ldC, aa, if_pos rfl, aH]; simpa using hj
  have hcl : cs.length = 1 * i.size := by rw [hcs, Nat.one_mul]
  obtain ⟨x', w', hr, ho, hg, _⟩ := run_append_own (P := P) (w.alloc (.cells cs.toArray e)) base t ty e i zv i.size i.bytes ht hi hz rfl rfl hzc h0 x n xs (hown.alloc _) ⟨w.heap.size, 0, none⟩ 1 1 cs hcl
    hnews h1 hn hbytes (by simp; omega)
  have hnb := append_new ht hi hz h0 (hown.alloc _) hcl hnews h1 hn hbytes hr
  refine effv_of hr (hk x' w' ho ⟨hg.os, hg.tape, hg.output, ?_, fun k hk hne => ?_⟩ fun k hk => (hnb k hk).imp id fun h => by simp at h; omega)
  · have := hg.size; simp at this; omega
  · rw [hg.block k (by simp; omega) hne, Below.heap_alloc w _ k hk]
theorem bf {t e : TypeId} {len : Nat} {parts : Array (Nat × Value)} {cells : Array Value} {zv : Value} {ie : TypeInfo} {z : Nat} (ht : P.underlying t = some (.slice e)) (hi : P.info? e = some ie) (hz : ie.zero = some zv) (hs : ie.size = z) (h0 : 0 < len * z) (hsm : len * z ≤ 16777216)
    (hfill : Instr.fill (fun k => some (k * z, z)) ((Array.range (len * z)).map (zv.cells[· % zv.cells.size]!)) parts.toList = some cells) :
    effv P (Instr.buildSlice t len parts) w K = K (.slice (some ⟨w.heap.size, 0, none⟩) len len) (w.alloc (.cells cells e)) := by
  subst hs
  have hb := run_buildSlice (P := P) w t e len parts cells ie zv ht hi hz (by omega) (by omega) hfill
  unfold effv; rw [hb]
@[simp] theorem bp_or {t : TypeId} {k : IntKind} {a b : Int} : bp P .or t (.int k a) (.int k b) = some (.int k (k.wrap (BitVec.ofInt k.bits a ||| BitVec.ofInt k.bits b).toNat)) := bp_of fun w => by simp [binOp, Op.intBits]
end
section
variable {P : Program}
def eqF (d : Nat) (xs ys : Array Value) : List (Bool × TypeId × Nat) → Sem Bool
  | [] => pure true
  | f :: fs =>
    if f.1 = true then do
      let a ← part f.2.1 xs f.2.2
      let b ← part f.2.1 ys f.2.2
      let r ← Op.equalIn d f.2.1 a b
      if (!r) = true then pure false else eqF d xs ys fs
    else eqF d xs ys fs
theorem eqFields_eqF (d : Nat) (xs ys : Array Value) : ∀ fs : List Field, Op.eqFields d xs ys fs = eqF d xs ys (fs.map fun f => (decide (f.name ≠ "_"), f.type, f.offset))
  | [] => rfl
  | f :: fs => by
    rw [Op.eqFields, List.map_cons, eqF, eqFields_eqF d xs ys fs]
    by_cases h : f.name = "_" <;> simp [h]
theorem eqF_cons {d : Nat} {xs ys : Array Value} {t : TypeId} {o : Nat} {fs : List (Bool × TypeId × Nat)} {w : World} {a b : Value} {r rs : Bool} (ha : (part t xs o).run P w = .ok a w) (hb : (part t ys o).run P w = .ok b w) (hr : (Op.equalIn d t a b).run P w = .ok r w)
    (hrs : (eqF d xs ys fs).run P w = .ok rs w) : (eqF d xs ys ((true, t, o) :: fs)).run P w = .ok (r && rs) w := by
  simp only [eqF, if_true, Sem.run_bind, ha, hb, hr, Result.andThen_ok]
  cases r
  · simp
  · simp [hrs]
theorem eqF_nil {d : Nat} {xs ys : Array Value} {w : World} : (eqF d xs ys []).run P w = .ok true w := by simp [eqF]
theorem aU {t : TypeId} {xs : Array Value} {o : Nat} {w : World} {v : Value} (h : (P.underlying t).map isAggD = some false) (hv : xs[o]? = some v) : (part t xs o).run P w = .ok v w := by
  obtain ⟨d, hd, h⟩ := Option.map_eq_some_iff.1 h
  simp [part, isAgg_run hd, h, hv]
theorem part_ag {t : TypeId} {xs : Array Value} {o n : Nat} {w : World} (h : (P.underlying t).map isAggD = some true) (hn : (P.info? t).map (·.size) = some n) : (part t xs o).run P w = .ok (.agg (xs.extract o (o + n))) w := by
  obtain ⟨d, hd, h⟩ := Option.map_eq_some_iff.1 h
  obtain ⟨i, hi, hn⟩ := Option.map_eq_some_iff.1 hn
  simp [part, isAgg_run hd, h, sizeOf, typeInfo, hi, hn]
theorem eqIn_struct {d : Nat} {t : TypeId} {xs ys : Array Value} {fs : List (Bool × TypeId × Nat)} {w : World} {r : Bool} (ht : P.underlying t = some (.struct (P.fieldsOf t))) (hp : P.stoodInHeld t = false)
    (hf : ((P.fieldsOf t).toList.map fun f => (decide (f.name ≠ "_"), f.type, f.offset)) = fs) (h : (eqF d xs ys fs).run P w = .ok r w) : (Op.equalIn (d + 1) t (.agg xs) (.agg ys)).run P w = .ok r w := by
  rw [run_equalIn_struct w d t xs ys ht hp, eqFields_eqF, hf]; exact h
theorem eqIn_int {d : Nat} {t : TypeId} {k k' : IntKind} {a b : Int} {w : World} (h : P.underlying t = some (.int k')) : (Op.equalIn (d + 1) t (.int k a) (.int k b)).run P w = .ok (a == b) w := run_equalIn_int w d t k k' a b h
theorem be_eqls {t : TypeId} {x y : Operand} {xs ys : Array Value} {r : Bool} (hm : P.eqGuardType P.depth t = false) (h : ∀ w, (Op.equalIn (9999 + 1) t (.agg xs) (.agg ys)).run P w = .ok r w) : be P .eql t x y (.agg xs) (.agg ys) = some (.bool r) :=
  be_eq1 (fun w => run_eqGuard_agg w _ _ _ _ _ _ hm) (fun w => by simp only [binOp]) h
theorem be_neqs {t : TypeId} {x y : Operand} {xs ys : Array Value} {r : Bool} (hm : P.eqGuardType P.depth t = false) (h : ∀ w, (Op.equalIn (9999 + 1) t (.agg xs) (.agg ys)).run P w = .ok r w) : be P .neq t x y (.agg xs) (.agg ys) = some (.bool (!r)) :=
  be_ne1 (fun w => run_eqGuard_agg w _ _ _ _ _ _ hm) (fun w => by simp only [binOp]) h
end
theorem flat_len {α : Type} {enc : α → List Value} {z : Nat} (h : ∀ x, (enc x).length = z) : ∀ xs : List α, (xs.flatMap enc).length = xs.length * z
  | [] => by simp
  | x :: xs => by simp [flat_len h xs, h, Nat.add_mul, Nat.add_comm]
theorem flat_at {α : Type} {enc : α → List Value} {z : Nat} (h : ∀ x, (enc x).length = z) : ∀ (xs : List α) (i : Nat) (hi : i < xs.length), ((xs.flatMap enc).drop (i * z)).take z = enc xs[i]
  | x :: xs, 0, _ => by
    simp only [List.flatMap_cons, Nat.zero_mul, List.drop_zero, List.getElem_cons_zero]
    rw [List.take_append_of_le_length (by rw [h]; exact Nat.le_refl _), List.take_of_length_le (by rw [h]; exact Nat.le_refl _)]
  | x :: xs, i + 1, hi => by
    have := flat_at h xs i (by simpa using hi)
    rw [List.flatMap_cons, Nat.add_mul, Nat.one_mul, List.getElem_cons_succ, ← this]
    congr 1
    rw [Nat.add_comm, ← h x, List.drop_append]; simp [h]
theorem flat_get {α : Type} {enc : α → List Value} {z : Nat} (h : ∀ x, (enc x).length = z) (xs : List α) (i : Nat) (hi : i < xs.length) (k : Nat) (hk : k < z) : (xs.flatMap enc)[i * z + k]? = (enc xs[i])[k]? := by
  rw [← flat_at h xs i hi, List.getElem?_take, if_pos hk, List.getElem?_drop]
theorem zS : (∀ (α : Type) (v : α) (K : α → Prop), wpB (some v) K = K v) ∧
    (∀ v : Option Value, gd (.bool true) true v = v) ∧
    (∀ v : Option Value, gd (.bool false) false v = v) ∧
    (∀ v : Option Value, gd (.bool true) false v = some undef) ∧
    (∀ v : Option Value, gd (.bool false) true v = some undef) ∧
    (∀ v : Option Value, gd undef true v = some undef) ∧
    (∀ v : Option Value, gd undef false v = some undef) ∧
    (∀ v : Value, gv (.bool true) true v = v) ∧
    (∀ v : Value, gv (.bool false) false v = v) ∧
    (∀ v : Value, gv (.bool true) false v = undef) ∧
    (∀ v : Value, gv (.bool false) true v = undef) ∧
    (∀ v : Value, gv undef true v = undef) ∧
    (∀ v : Value, gv undef false v = undef) ∧
    (∀ (C : (Value → World → Prop) → Prop) (K : Value → World → Prop) (w : World), gE (.bool true) true C K w = C K) ∧
    (∀ (C : (Value → World → Prop) → Prop) (K : Value → World → Prop) (w : World), gE (.bool false) false C K w = C K) ∧
    (∀ (C : (Value → World → Prop) → Prop) (K : Value → World → Prop) (w : World), gE (.bool true) false C K w = K undef w) ∧
    (∀ (C : (Value → World → Prop) → Prop) (K : Value → World → Prop) (w : World), gE (.bool false) true C K w = K undef w) ∧
    (∀ (C : (Value → World → Prop) → Prop) (K : Value → World → Prop) (w : World), gE undef true C K w = K undef w) ∧
    (∀ (C : (Value → World → Prop) → Prop) (K : Value → World → Prop) (w : World), gE undef false C K w = K undef w) ∧
    (∀ (C : (World → Prop) → Prop) (K : World → Prop) (w : World), gU (.bool true) true C K w = C K) ∧
    (∀ (C : (World → Prop) → Prop) (K : World → Prop) (w : World), gU (.bool false) false C K w = C K) ∧
    (∀ (C : (World → Prop) → Prop) (K : World → Prop) (w : World), gU (.bool true) false C K w = K w) ∧
    (∀ (C : (World → Prop) → Prop) (K : World → Prop) (w : World), gU (.bool false) true C K w = K w) ∧
    (∀ a b : Option Value, pickv (.bool true) a b = a) ∧
    (∀ a b : Option Value, pickv (.bool false) a b = b) ∧
    (∀ a b : Prop, cnd (.bool true) a b = a) ∧
    (∀ a b : Prop, cnd (.bool false) a b = b) ∧
    (∀ h : Decidable True, @decide True h = true) ∧
    (∀ h : Decidable False, @decide False h = false) ∧
    ((!true) = false) ∧
    ((!false) = true) ∧
    (∀ (P : Program) (b : Bool), pureRun P (Op.unary .not (.bool b)) = some (.bool (!b))) ∧
    (∀ a : Addr, nilv (.pointer (some a)) = some (.pointer (some a))) ∧
    (∀ (P : Program) (t : TypeId) (k : IntKind) (a b : Int), bp P .lss t (.int k a) (.int k b) = some (.bool (decide (a < b)))) ∧
    (∀ (P : Program) (t : TypeId) (k : IntKind) (a b : Int), bp P .leq t (.int k a) (.int k b) = some (.bool (decide (a ≤ b)))) ∧
    (∀ (P : Program) (t : TypeId) (k : IntKind) (a b : Int), bp P .gtr t (.int k a) (.int k b) = some (.bool (decide (b < a)))) ∧
    (∀ (P : Program) (t : TypeId) (k : IntKind) (a b : Int), bp P .geq t (.int k a) (.int k b) = some (.bool (decide (b ≤ a)))) ∧
    (∀ (P : Program) (t : TypeId) (x y : Operand) (k : IntKind) (a b : Int), be P .eql t x y (.int k a) (.int k b) = some (.bool (a == b))) ∧
    (∀ (P : Program) (t : TypeId) (x y : Operand) (k : IntKind) (a b : Int), be P .neq t x y (.int k a) (.int k b) = some (.bool (a != b))) ∧
    (∀ (α : Type) [BEq α] [LawfulBEq α] (a : α), (a != a) = false) ∧
    (∀ (α : Type) [BEq α] [ReflBEq α] (a : α), (a == a) = true) ∧
    (∀ (c : Array Value) (e : TypeId) (f : Nat × Nat) (o : Nat), ldC (some (.cells c e f)) o = c[o]?) ∧
    (∀ (α : Type), (none : Option α).isNone = true) ∧
    (∀ (α : Type) (a : α), (some a).isNone = false) ∧
    (∀ (w : World) (b : Nat), hp w.drew b = hp w b) :=
  ⟨fun _ => ab, gd_true, gd_false, gd_tf, gd_ft, gd_ut, gd_uf, gv_true, gv_false, gv_tf, gv_ft, gv_ut, gv_uf, gE_true, gE_false, gE_tf, gE_ft, gE_ut, gE_uf, gU_true, gU_false, gU_tf, gU_ft, aZ, aS, aG, aC, fun h => by simp, fun h => by simp, rfl, rfl, fun _ _ => pr_not, ah, fun _ _ _ _ _ => bp_lss, fun _ _ _ _ _ => bp_leq, fun _ _ _ _ _ => bp_gtr, fun _ _ _ _ _ => aD, fun _ _ _ _ _ _ _ => be_eql, fun _ _ _ _ _ _ _ => be_neq, fun _ _ _ a => bne_self_eq_false a, fun _ _ _ a => by simp, aH, fun _ => rfl, fun _ _ => rfl, aT⟩
end Go.Proofs.YteapggpkgfiacaaGreat.Ev

