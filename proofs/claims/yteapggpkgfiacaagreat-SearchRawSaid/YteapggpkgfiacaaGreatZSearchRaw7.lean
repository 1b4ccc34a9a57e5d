/- Parts of the proof of SearchRaw, one behind the other. Conditions: none. -/
import Derived.ChangeArms
import Derived.OpenShut
import Derived.Test.YteapggpkgfiacaaGreatZSearchRaw6
set_option linter.unusedSimpArgs false
set_option linter.unusedVariables false
namespace Go.Proofs.YteapggpkgfiacaaGreat.Ev
open Go Go.RowKit

def flatF (g : TypeId → Option (List IntKind)) : Nat → List Field → Option (List IntKind)
  | _, [] => some []
  | o, f :: fs => if f.offset = o then match g f.type with
    | some ks => match flatF g (o + ks.length) fs with
      | some r => some (ks ++ r)
      | none => none
    | none => none else none
def flatT (P : Program) : Nat → TypeId → Option (List IntKind)
  | 0, _ => none
  | d + 1, t => match P.underlying t with
    | some (.int k) => some [k]
    | some (.struct fs) => match flatF (flatT P d) 0 fs.toList with
      | some ks => if ks.length = P.cellsOf t then some ks else none
      | none => none
    | some (.array n e) => match flatT P d e with
      | some ks => if ks.length = P.cellsOf e ∧ n * ks.length = P.cellsOf t then some ((List.range n).flatMap fun _ => ks) else none
      | none => none
    | _ => none
theorem rep_len {β : Type} (l : List β) : ∀ xs : List Nat, (xs.flatMap fun _ => l).length = xs.length * l.length
  | [] => by simp
  | x :: xs => by simp [rep_len l xs, Nat.add_mul, Nat.add_comm]
theorem rep_get {β : Type} (l : List β) (k : Nat) (hk : k < l.length) : ∀ (xs : List Nat) (i : Nat), i < xs.length → (xs.flatMap fun _ => l)[i * l.length + k]? = l[k]?
  | x :: xs, 0, _ => by
    simp only [List.flatMap_cons, Nat.zero_mul, Nat.zero_add]
    exact List.getElem?_append_left hk
  | x :: xs, i + 1, hi => by
    have := rep_get l k hk xs i (by simpa using hi)
    rw [List.flatMap_cons, List.getElem?_append_right (by rw [Nat.add_mul]; omega), ← this]
    congr 1
    rw [Nat.add_mul]; omega
def IsNums (ks : List IntKind) (cs : List Value) : Prop := cs.length = ks.length ∧ ∀ (j : Nat) (k : IntKind), ks[j]? = some k → ∃ n, cs[j]? = some (Value.int k n) ∧ (Lit.int k n).wf = true
section
variable {H : Type} {enc : TypeId × Value → H} {P : Program} {w : World} {base : Nat} {spare : Nat → Bool} {held : Bool}
theorem flatF_nums {g : TypeId → Option (List IntKind)} {m : Nat} (hg : ∀ (t : TypeId) (ks : List IntKind) (cs : List Value) (x : DataW H × List MemPlace), g t = some ks → DataW.trod enc P w base spare held m t cs = some x → IsNums ks cs) (cs : List Value) :
    ∀ (fs : List Field) (o : Nat) (ks : List IntKind), flatF g o fs = some ks → (∀ f ∈ fs, ∃ x, DataW.trod enc P w base spare held m f.type ((cs.drop f.offset).take (P.cellsOf f.type)) = some x) →
      ∀ (j : Nat) (k : IntKind), ks[j]? = some k → ∃ n, cs[o + j]? = some (.int k n) ∧ (Lit.int k n).wf = true
  | [], o, ks, h, _, j, k, hj => by
    simp only [flatF, Option.some.injEq] at h
    subst h
    simp at hj
  | f :: fs, o, ks, h, hx, j, k, hj => by
    unfold flatF at h
    split at h
    · rename_i hoff
      split at h
      · rename_i k1 hk1
        split at h
        · rename_i r hr
          simp only [Option.some.injEq] at h
          subst h
          obtain ⟨x, hx1⟩ := hx f (by simp)
          obtain ⟨hl, hn⟩ := hg _ _ _ _ hk1 hx1
          by_cases hlt : j < k1.length
          · rw [List.getElem?_append_left hlt] at hj
            obtain ⟨n, h1, h2⟩ := hn j k hj
            refine ⟨n, ?_, h2⟩
            rw [List.getElem?_take] at h1
            split at h1
            · rw [List.getElem?_drop, hoff] at h1; exact h1
            · cases h1
          · rw [List.getElem?_append_right (by omega)] at hj
            obtain ⟨n, h1, h2⟩ := flatF_nums hg cs fs (o + k1.length) r hr (fun f' hf' => hx f' (List.mem_cons_of_mem _ hf')) (j - k1.length) k hj
            exact ⟨n, by rw [show o + j = o + k1.length + (j - k1.length) by omega]; exact h1, h2⟩
        · cases h
      · cases h
    · cases h
theorem trod_nums : ∀ (d : Nat) (t : TypeId) (ks : List IntKind) (m : Nat) (cs : List Value) (x : DataW H × List MemPlace), flatT P d t = some ks → DataW.trod enc P w base spare held m t cs = some x → IsNums ks cs
  | 0, _, _, _, _, _, h, _ => by cases h
  | d + 1, t, ks, m, cs, x, h, hx => by
    unfold flatT at h
    split at h
    · rename_i k hu
      cases h
      obtain ⟨n, rfl, _, hw⟩ := DataW.trod_int hu hx
      refine ⟨rfl, fun j k' hj => ?_⟩
      cases j with
      | zero => simp at hj; subst hj; exact ⟨n, rfl, hw⟩
      | succ j => simp at hj
    · rename_i fs hu
      split at h
      · rename_i ks' hf
        split at h
        · rename_i hlen
          cases h
          obtain ⟨xs, m', rfl, _, hl, hxl, hall⟩ := DataW.trod_struct hu hx
          refine ⟨by rw [hl, hlen], fun j k hj => ?_⟩
          have := flatF_nums (g := flatT P d) (m := m') (w := w) (enc := enc) (base := base) (spare := spare) (held := held) (fun t' ks' cs' x' h1 h2 => trod_nums d t' ks' m' cs' x' h1 h2) cs fs.toList 0 ks hf (fun f hf' => by
              obtain ⟨i, hi⟩ := List.getElem?_of_mem hf'
              have hi' : fs[i]? = some f := by simpa using hi
              have hlt : i < xs.length := by
                have := (Array.getElem?_eq_some_iff.1 hi').1
                omega
              exact ⟨xs[i], by rw [hall i f hi', List.getElem?_eq_getElem hlt]⟩) j k hj
          rw [Nat.zero_add] at this
          exact this
        · cases h
      · cases h
    · rename_i n e hu
      split at h
      · rename_i ks' hf
        split at h
        · rename_i hlen
          cases h
          obtain ⟨xs, m', rfl, _, hl, hxl, hall⟩ := DataW.trod_array hu hx
          have hkl : ((List.range n).flatMap fun _ => ks').length = n * ks'.length := by
            rw [rep_len]; simp
          refine ⟨by rw [hl, hkl, hlen.2], fun j k hj => ?_⟩
          have hj0 := (List.getElem?_eq_some_iff.1 hj).1
          rw [hkl] at hj0
          have hpos : 0 < ks'.length := by
            rcases Nat.eq_zero_or_pos ks'.length with h0 | h0
            · rw [h0] at hj0; omega
            · exact h0
          have hq : j / ks'.length < n := by rw [Nat.div_lt_iff_lt_mul hpos]; exact hj0
          have hm := Nat.mod_lt j hpos
          have hjj : j = j / ks'.length * ks'.length + j % ks'.length := by rw [Nat.mul_comm]; exact (Nat.div_add_mod j _).symm
          have hlt : j / ks'.length < xs.length := by omega
          have h1 := hall (j / ks'.length) hq
          rw [List.getElem?_eq_getElem hlt] at h1
          obtain ⟨hl2, hn2⟩ := trod_nums d e ks' m' _ _ hf h1
          rw [hjj, rep_get ks' _ hm (List.range n) (j / ks'.length) (by simpa using hq)] at hj
          obtain ⟨n', h3, h4⟩ := hn2 _ k hj
          refine ⟨n', ?_, h4⟩
          rw [List.getElem?_take] at h3
          split at h3
          · rw [List.getElem?_drop, ← hlen.1] at h3
            rw [hjj]; exact h3
          · cases h3
        · cases h
      · cases h
    · cases h
theorem IsNums.nums : ∀ {ks : List IntKind} {cs : List Value}, IsNums ks cs → ∃ ns : List Int, ns.length = ks.length ∧ cs = List.zipWith Value.int ks ns ∧ ∀ (j : Nat) (k : IntKind) (n : Int), ks[j]? = some k → ns[j]? = some n → (Lit.int k n).wf = true
  | [], cs, h => ⟨[], rfl, List.eq_nil_of_length_eq_zero h.1, fun j k n hj => by simp at hj⟩
  | k :: ks, [], h => by have := h.1; simp at this
  | k :: ks, c :: cs, h => by
    have hr : IsNums ks cs := ⟨by simpa using h.1, fun j k' hj => by have := h.2 (j + 1) k' (by simpa using hj); simpa using this⟩
    obtain ⟨ns, h1, h2, h3⟩ := hr.nums
    obtain ⟨n, h4, h5⟩ := h.2 0 k rfl
    simp only [List.getElem?_cons_zero, Option.some.injEq] at h4
    refine ⟨n :: ns, by simp [h1], by rw [h2, h4]; rfl, fun j k' n' hj hn => ?_⟩
    cases j with
    | zero =>
      simp only [List.getElem?_cons_zero, Option.some.injEq] at hj hn
      subst hj; subst hn; exact h5
    | succ j => exact h3 j k' n' (by simpa using hj) (by simpa using hn)
theorem list_choice {α : Type} {p : Nat → α → Prop} : ∀ n : Nat, (∀ i, i < n → ∃ s, p i s) → ∃ l : List α, l.length = n ∧ ∀ i s, l[i]? = some s → p i s
  | 0, _ => ⟨[], rfl, fun i s h => by simp at h⟩
  | n + 1, h => by
    obtain ⟨l, h1, h2⟩ := list_choice n fun i hi => h i (by omega)
    obtain ⟨s, hs⟩ := h n (by omega)
    refine ⟨l ++ [s], by simp [h1], fun i x hx => ?_⟩
    rcases Nat.lt_or_ge i l.length with hi | hi
    · rw [List.getElem?_append_left hi] at hx; exact h2 i x hx
    · rw [List.getElem?_append_right hi] at hx
      have : i - l.length = 0 := by
        have := (List.getElem?_eq_some_iff.1 hx).1
        simp at this; omega
      rw [this] at hx
      simp only [List.getElem?_cons_zero, Option.some.injEq] at hx
      rw [← hx, show i = n by omega]; exact hs
theorem open_flat {α : Type} {dec : α → List Value} {z : Nat} {d fuel : Nat} {t e : TypeId} {ks : List IntKind} {a : Option Addr} {len cap : Nat} {x : DataW H × List MemPlace} (ht : P.underlying t = some (.slice e)) (hk : flatT P d e = some ks) (hz : P.cellsOf e = z)
    (hdec : ∀ ns : List Int, ns.length = ks.length → (∀ (j : Nat) (k : IntKind) (n : Int), ks[j]? = some k → ns[j]? = some n → (Lit.int k n).wf = true) → ∃ s : α, dec s = List.zipWith Value.int ks ns) (hlen : ∀ s, (dec s).length = z)
    (h : DataW.trod enc P w base spare held fuel t [.slice a len cap] = some x) : ∃ S : List α, S.length = len ∧ RdV w a (S.flatMap dec) ∧ len ≤ cap ∧ cap ≤ maxLen := by
  rcases DataW.trod_slice ht h with ⟨h0, _⟩ | ⟨a', len', cap', elems, rest, n, _, h1, _, hb, hl, hm, hel, hall, _⟩
  · simp only [List.cons.injEq, Value.slice.injEq, and_true] at h0
    obtain ⟨rfl, rfl, rfl⟩ := h0
    exact ⟨[], rfl, RdV.nil _ _, Nat.le_refl _, Nat.zero_le _⟩
  · simp only [List.cons.injEq, Value.slice.injEq, and_true] at h1
    obtain ⟨rfl, rfl, rfl⟩ := h1
    obtain ⟨S, hS, hp⟩ := list_choice (p := fun i (s : α) => w.cells? base (a'.add (i * z)) z = some (dec s)) len fun i hi => by
      have h2 := hall i hi
      rw [List.getElem?_eq_getElem (by omega), Option.bind_eq_some_iff, hz] at h2
      obtain ⟨cs, h3, h4⟩ := h2
      obtain ⟨ns, g1, g2, g3⟩ := (trod_nums d e ks n cs _ hk h4).nums
      obtain ⟨s, hs⟩ := hdec ns g1 g3
      exact ⟨s, by rw [h3, g2, hs]⟩
    refine ⟨S, hS, fun j u hj => ⟨a', rfl, ?_⟩, hl, hm⟩
    have hj0 := (List.getElem?_eq_some_iff.1 hj).1
    rw [flat_len hlen] at hj0
    have hpos : 0 < z := by
      rcases Nat.eq_zero_or_pos z with h0 | h0
      · rw [h0] at hj0; omega
      · exact h0
    have hq : j / z < S.length := by rw [Nat.div_lt_iff_lt_mul hpos]; exact hj0
    have hmd := Nat.mod_lt j hpos
    have hjj : j = j / z * z + j % z := by rw [Nat.mul_comm]; exact (Nat.div_add_mod j _).symm
    rw [hjj, flat_get hlen S (j / z) hq _ hmd] at hj
    have h5 := (World.cells?_some (hp (j / z) S[j / z] (List.getElem?_eq_getElem hq))).2.2 (j % z) hmd
    rw [hj, add_add, ← hjj] at h5
    exact h5
end
end Go.Proofs.YteapggpkgfiacaaGreat.Ev

