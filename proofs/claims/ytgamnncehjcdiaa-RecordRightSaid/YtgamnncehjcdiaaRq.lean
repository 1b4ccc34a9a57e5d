/- The call of RecordBent answers true. -/
import Derived.Test.YtgamnncehjcdiaaRo
namespace Go.Proofs.Ytgamnncehjcdiaa
open Go Ev Go.RowKit
set_option linter.unusedSimpArgs false
set_option linter.unusedVariables false
set_option maxRecDepth 10000

/-- may these be a record's, by going over them -/
def okC1 (l : List SpV) (i : Nat) : Bool := match l[i]? with
  | none => true
  | some s => right s && ((decide (i = 0)) || (match l[i - 1]? with | some p => decide (p.iv < s.iv) | none => true)) && (List.range i).all fun k => match l[k]? with | some a => !clash a s | none => true
def mayC (l : List SpV) : Bool := (List.range l.length).all fun i => okC1 l i
theorem okC1_iff {l : List SpV} {i : Nat} (hi : i < l.length) : okC1 l i = true ↔ okAt l i := by
  have ge : l[i]? = some l[i] := List.getElem?_eq_getElem hi
  unfold okC1 okAt
  rw [ge]
  simp only [Bool.and_eq_true, Bool.or_eq_true, decide_eq_true_eq, List.all_eq_true, List.mem_range]
  constructor
  · rintro ⟨⟨h1, h2⟩, h3⟩ s hs
    cases hs
    refine ⟨h1, fun p hp hpi => ?_, fun k a hk ha => ?_⟩
    · rcases h2 with h2 | h2
      · omega
      · rw [hpi] at h2; exact of_decide_eq_true h2
    · have := h3 k hk
      rw [ha] at this; simpa using this
  · intro h
    obtain ⟨h1, h2, h3⟩ := h _ rfl
    refine ⟨⟨h1, ?_⟩, fun k hk => ?_⟩
    · rcases Nat.eq_zero_or_pos i with h0 | h0
      · exact .inl h0
      · right
        split
        · rename_i p hp; exact decide_eq_true (h2 p h0 hp)
        · rfl
    · split
      · rename_i a ha; rw [h3 k a hk ha]; rfl
      · rfl
theorem mayB_C (l : List SpV) : mayB l = mayC l := by
  by_cases h : mayL l
  · rw [mayB_t h]
    symm
    unfold mayC
    rw [List.all_eq_true]
    intro i hi
    have hi := List.mem_range.1 hi
    exact (okC1_iff hi).2 (h i hi)
  · have h1 : mayB l = false := by unfold mayB; exact @decide_eq_false _ (Classical.propDecidable _) h
    rw [h1]
    symm
    rw [Bool.eq_false_iff]
    intro hc
    refine h fun i hi => (okC1_iff hi).1 ?_
    unfold mayC at hc
    rw [List.all_eq_true] at hc
    exact hc i (List.mem_range.2 hi)
/-- a number of a span in an own slice is written anew -/
theorem sp_put {w : World} {base n : Nat} {v : Value} {S : List SpV} (h : w.ownsRow base 58 20 v n (S.flatMap spC)) (hn : n = S.length) {id : Int} (h0 : 0 ≤ id) (hl : id < n) {g : Nat} (hg : v.ownBlock = some g) (s' : SpV) (k : Nat) (x : Int) (hk : k < 20)
    (he : spC s' = (spC (spAt S id)).take k ++ [.int .i64 x] ++ (spC (spAt S id)).drop (k + 1)) :
    (put w g ((getC (hp w g)).setIfInBounds (id.toNat * 20 + k) (.int .i64 x)) (getE (hp w g))).ownsRow base 58 20 v n ((S.set id.toNat s').flatMap spC) ∧ okC (hp w g) (id.toNat * 20 + k + 1) = true := by
  subst hn
  have hi : id.toNat < S.length := by omega
  obtain ⟨p1, p2⟩ := ownsRow_put (vs := [.int .i64 x]) h hg (o := id.toNat * 20 + k) (by simp; omega)
  rw [flat_part spC_len s' k [.int .i64 x] (by simp; omega) S id.toNat hi (by rw [spAt_eq hi]; exact he)] at p1
  exact ⟨p1, p2⟩
end Go.Proofs.Ytgamnncehjcdiaa
