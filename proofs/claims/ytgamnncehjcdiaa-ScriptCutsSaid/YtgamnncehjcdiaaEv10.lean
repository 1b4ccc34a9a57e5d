/- Slices of whole numbers: read, made, grown. No program is named here. -/
import Derived.Test.YtgamnncehjcdiaaEv9
namespace Go.Proofs.Ytgamnncehjcdiaa.Ev
open Go Go.RowKit

def ints (xs : List Int) : List Value := xs.map (Value.int .i64)
@[simp] theorem ints_length (xs : List Int) : (ints xs).length = xs.length := by simp [ints]
theorem ints_append (xs ys : List Int) : ints (xs ++ ys) = ints xs ++ ints ys := by simp [ints]
/-- from an address on, numbers are read -/
def RdI (k : IntKind) (w : World) (A : Option Addr) (xs : List Int) : Prop := ∀ i, i < xs.length → ∃ p, A = some p ∧ w.cell? (p.add i) = some (.int k (xs.getD i 0))
theorem cell_lt {w : World} {p : Addr} {v : Value} (h : w.cell? p = some v) : p.block < w.heap.size := by
  unfold World.cell? at h
  rcases Nat.lt_or_ge p.block w.heap.size with h1 | h1
  · exact h1
  · simp [Array.getElem?_eq_none h1] at h
theorem Below.cellKeep {w w' : World} (h : Below w.heap.size w w') {p : Addr} {v : Value} (hc : w.cell? p = some v) : w'.cell? p = some v := by
  rw [Below.cell h (cell_lt hc)]; exact hc
theorem RdI.keep {k : IntKind} {w w' : World} {A : Option Addr} {xs : List Int} (h : RdI k w A xs) (hb : Below w.heap.size w w') : RdI k w' A xs := fun i hi => by
  obtain ⟨p, hp, hc⟩ := h i hi
  exact ⟨p, hp, Below.cellKeep hb hc⟩
theorem RdI.drew {k : IntKind} {w : World} {A : Option Addr} {xs : List Int} (h : RdI k w A xs) : RdI k w.drew A xs := h
theorem InInts.rd {k : IntKind} {w : World} {A : Option Addr} {n c : Nat} {zs : List Int} (h : InInts k w A n c zs) : RdI k w A (zs.take n) ∧ (zs.take n).length = n ∧ n ≤ c ∧ c ≤ maxLen ∧ ∀ x ∈ zs.take n, (Lit.int k x).wf = true := by
  rcases h with ⟨rfl, rfl, rfl, rfl⟩ | ⟨x, rfl, h1, h2, h3, h4, h5⟩
  · exact ⟨fun i hi => by simp at hi, rfl, Nat.le_refl _, Nat.zero_le _, fun x hx => by simp at hx⟩
  · refine ⟨fun i hi => ⟨x, rfl, ?_⟩, by simp; omega, h1, h2, fun x hx => h5 x (List.mem_of_mem_take hx)⟩
    have hi' : i < n ∧ i < zs.length := by rw [List.length_take] at hi; omega
    rw [h4 i hi'.2]
    simp [List.getD_eq_getElem?_getD, hi'.1]
/-- an element is read: its place, and what stands there -/
theorem RdI.at {P : Program} {s e : TypeId} {k j : IntKind} {w : World} {A : Option Addr} {xs : List Int} {c : Nat} {i : Int} (h : RdI k w A xs) (hs : P.underlying s = some (.slice e)) (he : P.underlying e = some (.int k))
    (hz : (P.info? e).map (·.size) = some 1) (h0 : 0 ≤ i) (h1 : i < xs.length) :
    ∃ q, pureRun P (Instr.indexAt s (.slice A xs.length c) (.int j i)) = some (.pointer (some q)) ∧ ldv P e (.pointer (some q)) w = some (.int k (xs.getD i.toNat 0)) := by
  obtain ⟨p, rfl, hc⟩ := h i.toNat (by omega)
  refine ⟨p.add (i.toNat * 1), pr_index hs hz h0 h1, ?_⟩
  rw [ldv_scalar he rfl, Nat.mul_one, hc]
theorem rd_of_own {w : World} {base : Nat} {e : TypeId} {v : Value} {n : Nat} {xs : List Int} (h : w.ownsRow base e 1 v n (ints xs)) : n = xs.length ∧ ∃ A c, v = .slice A xs.length c ∧ RdI .i64 w A xs ∧ c ≤ maxLen := by
  have hn : n = xs.length := by have := h.1; simp at this; omega
  subst hn
  refine ⟨rfl, ?_⟩
  rcases h.2 with ⟨rfl, h0⟩ | ⟨g, cap, cur, rfl, hbg, hg, hnc, hcm, hcs, htake⟩
  · exact ⟨none, 0, by rw [h0], fun i hi => by omega, by simp [maxLen]⟩
  · refine ⟨some ⟨g, 0, none⟩, cap, rfl, fun i hi => ⟨_, rfl, ?_⟩, hcm⟩
    refine h.cells (g := g) rfl i _ ?_
    simp [ints, List.getD_eq_getElem?_getD, hi]
/-- a slice value that is read as numbers -/
def SlI (w : World) (v : Value) (xs : List Int) : Prop := ∃ A c, v = .slice A xs.length c ∧ RdI .i64 w A xs
theorem SlI.keep {w w' : World} {v : Value} {xs : List Int} (h : SlI w v xs) (hb : Below w.heap.size w w') : SlI w' v xs := by
  obtain ⟨A, c, h1, h2⟩ := h
  exact ⟨A, c, h1, h2.keep hb⟩
theorem SlI.of_own {w : World} {base : Nat} {e : TypeId} {v : Value} {n : Nat} {xs : List Int} (h : w.ownsRow base e 1 v n (ints xs)) : SlI w v xs := by
  obtain ⟨_, A, c, h1, h2, _⟩ := rd_of_own h
  exact ⟨A, c, h1, h2⟩
theorem ownsRow_keep {w w' : World} {base : Nat} {e : TypeId} {size : Nat} {v : Value} {n : Nat} {xs : List Value} (h : w.ownsRow base e size v n xs) (hb : Below w.heap.size w w') : w'.ownsRow base e size v n xs := by
  refine ⟨h.1, h.2.imp id fun ⟨g, cap, cur, h1, h2, h3, h4⟩ => ⟨g, cap, cur, h1, h2, ?_, h4⟩⟩
  have hlt : g < w.heap.size := by
    rcases Nat.lt_or_ge g w.heap.size with h5 | h5
    · exact h5
    · simp [Array.getElem?_eq_none h5] at h3
  rw [hb.block g hlt]; exact h3
theorem ownsRow_mono {w : World} {base base' : Nat} {e : TypeId} {size : Nat} {v : Value} {n : Nat} {xs : List Value} (h : w.ownsRow base e size v n xs) (hb : base' ≤ base) : w.ownsRow base' e size v n xs :=
  ⟨h.1, h.2.imp id fun ⟨g, cap, cur, h1, h2, h3⟩ => ⟨g, cap, cur, h1, Nat.le_trans hb h2, h3⟩⟩
theorem ownsRow_drew {w : World} {base : Nat} {e : TypeId} {size : Nat} {v : Value} {n : Nat} {xs : List Value} (h : w.ownsRow base e size v n xs) : w.drew.ownsRow base e size v n xs := h

section
variable {P : Program} {w : World} {K : Value → World → Prop}
theorem run_build1 {t e : TypeId} {z : Value} {v : Value} {i : TypeInfo} (ht : P.underlying t = some (.slice e)) (hi : P.info? e = some i) (hz : i.zero = some z) (hs : i.size = 1) (hzc : z.cells.size = 1) (hv : v.oneCell' = true) :
    (Instr.buildSlice t 1 #[(0, v)]).run P w = .ok (.slice (some ⟨w.heap.size, 0, none⟩) 1 1) (w.alloc (.cells #[v] e)) := by
  have hvc : v.cells = #[v] := by cases v <;> simp [Value.oneCell'] at hv <;> rfl
  have hr : Array.range 1 = #[0] := by rfl
  simp [Instr.buildSlice, run_underlying ht, sizeOf, zeroValue, typeInfo, hi, hs, hz, Instr.fill, hvc, newRow, hr, hzc]
/-- one element more -/
theorem eff_push {t ty e : TypeId} {z : Value} {v x : Value} {i : TypeInfo} {base n : Nat} {xs : List Value} (ht : P.underlying t = some (.slice e)) (hi : P.info? e = some i) (hz : i.zero = some z) (hs : i.size = 1) (hzc : z.cells.size = 1) (hv : v.oneCell' = true)
    (hown : w.ownsRow base e 1 x n xs) (hn : n + 1 ≤ maxLen) (hbytes : (n + 1) * i.bytes ≤ 140737488355328) (hbase : base ≤ w.heap.size)
    (hk : ∀ x' w', w'.ownsRow base e 1 x' (n + 1) (xs ++ [v]) → w.grownBy w' x.ownBlock → K x' w') :
    effv P (Instr.buildSlice t 1 #[(0, v)]) w fun y w1 => effv P (Builtin.append_ #[t, t] ty #[x, y]) w1 K := by
  refine effv_of (run_build1 ht hi hz hs hzc hv) ?_
  obtain ⟨x', w', hr, ho, hg, _⟩ := run_append_own (P := P) (w.alloc (.cells #[v] e)) base t ty e i z 1 i.bytes ht hi hz hs rfl hzc (by omega) x n xs (hown.alloc _) ⟨w.heap.size, 0, none⟩ 1 1 [v] rfl
    (fun j u hj => by
      cases j with
      | zero => simp at hj; subst hj; simp [Addr.add]
      | succ j => simp at hj) (by simpa using hv) hn hbytes (by simp; omega)
  refine effv_of hr (hk x' w' ho ⟨hg.os, hg.tape, hg.output, ?_, fun k hk hne => ?_⟩)
  · have := hg.size; simp at this; omega
  · rw [hg.block k (by simp; omega) hne, Below.heap_alloc w _ k hk]
/-- a whole slice behind an own one -/
theorem eff_append {t ty e : TypeId} {z : Value} {x : Value} {i : TypeInfo} {base n size : Nat} {xs news : List Value} {A : Option Addr} {m c : Nat} (ht : P.underlying t = some (.slice e)) (hi : P.info? e = some i) (hz : i.zero = some z) (hs : i.size = size) (hzc : z.cells.size = size) (h0 : 0 < size)
    (hown : w.ownsRow base e size x n xs) (hl : news.length = m * size) (hnews : ∀ j u, news[j]? = some u → ∃ p, A = some p ∧ w.cell? (p.add j) = some u) (h1 : ∀ u ∈ news, u.oneCell' = true)
    (hn : n + m ≤ maxLen) (hbytes : (n + m) * i.bytes ≤ 140737488355328) (hbase : base ≤ w.heap.size)
    (hk : ∀ x' w', w'.ownsRow base e size x' (n + m) (xs ++ news) → w.grownBy w' x.ownBlock → K x' w') : effv P (Builtin.append_ #[t, t] ty #[x, .slice A m c]) w K := by
  cases A with
  | some a =>
    obtain ⟨x', w', hr, ho, hg, _⟩ := run_append_own (P := P) w base t ty e i z size i.bytes ht hi hz hs rfl hzc h0 x n xs hown a m c news hl
      (fun j u hj => by obtain ⟨p, hp, hc⟩ := hnews j u hj; cases hp; exact hc) h1 hn hbytes hbase
    exact effv_of hr (hk x' w' ho hg)
  | none =>
    have hnil : news = [] := by
      cases news with
      | nil => rfl
      | cons u us => obtain ⟨p, hp, _⟩ := hnews 0 u rfl; cases hp
    subst hnil
    have hm : m = 0 := by
      rcases Nat.eq_zero_or_pos m with h | h
      · exact h
      · have := Nat.mul_pos h h0
        simp only [List.length_nil] at hl
        omega
    subst hm
    have hr : (Builtin.append_ #[t, t] ty #[x, .slice none 0 c]).run P w = .ok x w := by
      rcases hown.2 with ⟨rfl, _⟩ | ⟨g, cap, cur, rfl, _, _, hnc, _⟩
      · simp [Builtin.append_, run_underlying ht, sizeOf, typeInfo, hi, Builtin.lenOf, Builtin.firstCells]
      · simp [Builtin.append_, run_underlying ht, sizeOf, typeInfo, hi, Builtin.lenOf, Builtin.firstCells, hnc, storeCells]
    refine effv_of hr (hk x w (by simpa using hown) ⟨rfl, rfl, rfl, Nat.le_refl _, fun _ _ _ => rfl⟩)
end
end Go.Proofs.Ytgamnncehjcdiaa.Ev
