/- The call of ScriptMany answers true. -/
import Derived.Test.YtgamnncehjcdiaaSi
namespace Go.Proofs.Ytgamnncehjcdiaa
open Go Ev Go.RowKit Go.ChangeShapes
set_option linter.unusedSimpArgs false
set_option linter.unusedVariables false
set_option maxRecDepth 10000

def oPin : OpV := (3, 0, 0, 0, 0, 0)
def oUnpin : OpV := (4, 0, 0, 0, 0, 0)
def sLists (n : Nat) : ScV := (List.replicate n [], [])
def sOps (k : Nat) : ScV := ([List.replicate k oPin], [])
def nl : Value := .slice none 0 0
/-- a list that grows in its place -/
structure ManyI (W w : World) (n g8 gs g9 gt : Nat) (x : Value) (i : Nat) : Prop where
  h8 : hp w g8 = some (.cells #[.slice (some ⟨gs, 0, none⟩) n n, nl] 25)
  hs : hp w gs = some (.cells (List.replicate n nl).toArray 27)
  h9 : hp w g9 = some (.cells #[.slice (some ⟨gt, 0, none⟩) 1 1, nl] 25)
  ht : hp w gt = some (.cells #[x] 27)
  own : w.ownsRow W.heap.size 40 6 x i ((List.replicate i oPin).flatMap opC)
  ge : W.heap.size ≤ g8 ∧ W.heap.size ≤ gs ∧ W.heap.size ≤ g9 ∧ W.heap.size ≤ gt
  ne : gs ≠ gt
  ch : Chg [] W w
theorem ManyI.drew {W w : World} {n g8 gs g9 gt i : Nat} {x : Value} (h : ManyI W w n g8 gs g9 gt x i) : ManyI W w.drew n g8 gs g9 gt x i := ⟨h.h8, h.hs, h.h9, h.ht, ownsRow_drew h.own, h.ge, h.ne, h.ch.drew⟩
theorem rep_snoc {α : Type} (n : Nat) (a : α) : List.replicate (n + 1) a = List.replicate n a ++ [a] := by rw [List.replicate_succ']
set_option maxHeartbeats 1000000 in
theorem ManyI.push {W w : World} {n g8 gs g9 gt i : Nat} {x : Value} (h : ManyI W w n g8 gs g9 gt x i) (hi : i ≤ 1000000) {K : Value → World → Prop} (hk : ∀ x' w', x'.cells = #[x'] → x'.oneCell' = true → hp w' g9 = some (.cells #[.slice (some ⟨gt, 0, none⟩) 1 1, nl] 25) → (∀ L, effu Try.prog (Instr.storeAt 27 (.pointer (some ⟨gt, 0, none⟩)) x') w' L = L (put w' gt #[x'] 27)) → ManyI W (put w' gt #[x'] 27) n g8 gs g9 gt x' (i + 1) → K x' w') :
    effv Try.prog (Instr.buildSlice 27 1 #[(0, .agg (opC oPin).toArray)]) w fun y w1 => effv Try.prog (Builtin.append_ #[27, 27] 27 #[x, y]) w1 K := by
  refine ps_27 (fun u hu => List.all_eq_true.1 (show (opC oPin).all (·.oneCell') = true from rfl) u hu) h.own (by omega) h.ch.size fun x' w' ho hg hnb => ?_
  obtain ⟨A, c, rfl, _⟩ := rdV_of_own ho
  have hc : Chg (blk x) w w' := (Chg.refl _ _).grown hg fun k hk => .inl (mem_blk.2 hk)
  have nb : ∀ {g : Nat} {o : Obj} {c' : Array Value} {e : TypeId}, hp w g = some (.cells c' e) → e ≠ 40 → g ∉ blk x := fun hg he hm => by
    obtain ⟨c', h'⟩ := own_blk h.own (mem_blk.1 hm)
    rw [hg] at h'
    simp at h'
    exact he h'.2
  have k8 := hc.at h.h8 (nb (o := .cells #[] 0) h.h8 (by decide))
  have ks := hc.at h.hs (nb (o := .cells #[] 0) h.hs (by decide))
  have k9 := hc.at h.h9 (nb (o := .cells #[] 0) h.h9 (by decide))
  have kt := hc.at h.ht (nb (o := .cells #[] 0) h.ht (by decide))
  have hp8 : Chg [gt] w' (put w' gt #[.slice A (i + 1) c] 27) := (Chg.refl _ _).put (.inl (by simp)) _ _
  have ne8 : g8 ≠ gt := fun e => by rw [e] at k8; rw [kt] at k8; simp at k8
  have ne9 : g9 ≠ gt := fun e => by rw [e] at k9; rw [kt] at k9; simp at k9
  refine hk _ w' rfl rfl k9 (fun L => ?_) ⟨hp8.at k8 (by simpa using ne8), hp8.at ks (by simpa using h.ne), hp8.at k9 (by simpa using ne9), put_same (blk_lt kt) _ _, ?_, h.ge, h.ne, ?_⟩
  · rw [st_27 (v := .slice A (i + 1) c) rfl rfl (by rw [kt]; rfl), kt]; rfl
  · have e : (List.replicate (i + 1) oPin).flatMap opC = (List.replicate i oPin).flatMap opC ++ opC oPin := by rw [rep_snoc, List.flatMap_append]; simp
    rw [e]
    refine ownsRow_chg ho hp8 fun k hk hm => ?_
    simp at hm
    obtain ⟨c', h'⟩ := own_blk ho hk
    rw [hm, kt] at h'; simp at h'
  · exact (Chg.into h.ch hc fun k hk => .inr (h.own.lt k (mem_blk.1 hk)).1).put (.inr h.ge.2.2.2) _ _
theorem ManyI.t {W w : World} {n g8 gs g9 gt i : Nat} {x : Value} (h : ManyI W w n g8 gs g9 gt x i) : IsS w (.agg #[.slice (some ⟨gt, 0, none⟩) 1 1, nl]) (sOps i) := by
  refine ⟨⟨some ⟨gt, 0, none⟩, 1, [x], nl, rfl, fun j u hj => ⟨_, rfl, ?_⟩, rfl, fun j y ops hy ho => ?_, ⟨none, 0, rfl, fun i hi => by simp [sOps] at hi⟩⟩⟩
  · rw [addr_add, cell_ldC, h.ht, ldC_some, Nat.zero_add]
    simpa using hj
  · have hj : j = 0 := by
      have := (List.getElem?_eq_some_iff.1 hy).1
      simpa using this
    subst hj
    simp at hy
    subst hy
    have : ops = List.replicate i oPin := by simpa [sOps] using ho.symm
    subst this
    obtain ⟨A, c, rfl, hA, _⟩ := rdV_of_own h.own
    exact ⟨A, c, by simp, hA⟩
theorem ManyI.s {W w : World} {n g8 gs g9 gt i : Nat} {x : Value} (h : ManyI W w n g8 gs g9 gt x i) : IsS w (.agg #[.slice (some ⟨gs, 0, none⟩) n n, nl]) (sLists n) := by
  refine ⟨⟨some ⟨gs, 0, none⟩, n, List.replicate n nl, nl, by simp [sLists], fun j u hj => ⟨_, rfl, ?_⟩, by simp [sLists], fun j y ops hy ho => ?_, ⟨none, 0, rfl, fun i hi => by simp [sLists] at hi⟩⟩⟩
  · rw [addr_add, cell_ldC, h.hs, ldC_some, Nat.zero_add, ← hj]
    simp [List.getElem?_replicate, Array.getElem?_replicate]
  · simp only [sLists, List.getElem?_replicate] at hy ho
    split at hy
    · rename_i hj
      rw [if_pos hj] at ho
      cases hy; cases ho
      exact ⟨none, 0, rfl, RdV.nil _ _⟩
    · cases hy
/-! ### the plain answers -/
theorem mayS_lists (n : Nat) : mayS (sLists n) = decide (n ≤ 64) := by
  rw [Bool.eq_iff_iff, mayS_iff]
  simp only [sLists, decide_eq_true_eq]
  constructor
  · rintro ⟨_, h, _⟩; simpa using h
  · intro h
    refine ⟨fun l hl => ?_, by simpa using h, by simp⟩
    rw [List.mem_replicate] at hl
    rw [hl.2]; simp
theorem mayS_ops (k : Nat) : mayS (sOps k) = decide (k ≤ 1000) := by
  rw [Bool.eq_iff_iff, mayS_iff]
  simp only [sOps, decide_eq_true_eq]
  constructor
  · rintro ⟨h, _⟩; simpa using h
  · intro h
    exact ⟨fun l hl => by simp at hl; rw [hl]; simpa using h, by simp, by simp⟩
theorem okS_lists (n : Nat) : okS (sLists n) = true := by
  rw [okS_iff]
  refine ⟨fun l hl o ho => ?_, fun k hk => by simp [sLists] at hk⟩
  rw [(List.mem_replicate.1 hl).2] at ho; simp at ho
theorem okS_ops (k : Nat) : okS (sOps k) = true := by
  rw [okS_iff]
  refine ⟨fun l hl o ho => ?_, fun k hk => by simp [sOps] at hk⟩
  simp [sOps] at hl
  rw [hl] at ho
  rw [(List.mem_replicate.1 ho).2]; decide
theorem wfS_lists (n : Nat) : WfS (sLists n) := fun l hl o ho => by
  rw [(List.mem_replicate.1 hl).2] at ho; simp at ho
theorem wfS_ops (k : Nat) : WfS (sOps k) := fun l hl o ho => by
  simp [sOps] at hl
  rw [hl] at ho
  rw [(List.mem_replicate.1 ho).2]
  exact ⟨⟨by decide, by decide⟩, ⟨by decide, by decide⟩⟩
theorem encL_nil : encL [] = [0, 0] := by decide
theorem flat_rep_len (n : Nat) (l : List Int) : ((List.replicate n l).flatMap id).length = n * l.length := by simp
theorem encS_lists (n : Nat) : (encS (sLists n)).length = 1 + 2 * n := by
  have : ((List.replicate n ([] : List OpV)).flatMap encL).length = 2 * n := by
    induction n with
    | zero => rfl
    | succ n ih => rw [List.replicate_succ, List.flatMap_cons, List.length_append, ih, encL_nil]; simp; omega
  simp only [encS, sLists, List.length_append, List.length_singleton, this, List.length_nil, Nat.add_zero]
theorem encS_ops (k : Nat) (hk : k ≤ 2000) : (encS (sOps k)).length ≤ 100000 := by
  have := flat_encO_len (List.replicate k oPin)
  simp only [encS, sOps, List.flatMap_cons, List.flatMap_nil, List.append_nil, List.length_append, List.length_singleton, len_encL, List.length_nil, List.length_replicate] at this ⊢
  omega
theorem pPut_lists (n : Nat) : (pPut (sLists n)).2 = (if n ≤ 64 then 0 else 11) ∧ (64 < n → (pPut (sLists n)).1 = []) := by
  unfold pPut
  rw [mayS_lists, okS_lists]
  by_cases h : n ≤ 64
  · simp [h]; omega
  · simp [h]
theorem pPut_ops (k : Nat) : (pPut (sOps k)).2 = (if k ≤ 1000 then 0 else 11) ∧ (1000 < k → (pPut (sOps k)).1 = []) := by
  unfold pPut
  rw [mayS_ops, okS_ops]
  by_cases h : k ≤ 1000
  · simp [h]; omega
  · simp [h]
/-- bytes of so many empty lists -/
def rawB (n i : Nat) : List Int := (n : Int) :: (List.replicate i ([] : List OpV)).flatMap encL
theorem rawB_succ (n i : Nat) : rawB n (i + 1) = rawB n i ++ [0, 0] := by
  unfold rawB
  rw [rep_snoc, List.flatMap_append]; simp [encL_nil]
theorem rawB_len (n i : Nat) : (rawB n i).length = 1 + 2 * i := by
  have := encS_lists i
  simp [encS, sLists] at this
  simp [rawB]; omega
theorem pRead_raw {n : Nat} (h1 : 60 ≤ n) (h2 : n ≤ 69) : (pRead (rawB n n)).1.length = min n 64 ∧ (pRead (rawB n n)).2.length = 2 * (n - 64) := by
  have hn : pNum 1 (rawB n n, false) = ((n : Int), ((List.replicate n ([] : List OpV)).flatMap encL, false)) := pNum_1 _
  have hk : (min (n : Int) 64).toNat = min n 64 := by omega
  have hsplit : (List.replicate n ([] : List OpV)).flatMap encL = (List.replicate (min n 64) ([] : List OpV)).flatMap encL ++ (List.replicate (n - 64) ([] : List OpV)).flatMap encL := by
    rw [← List.flatMap_append, List.replicate_append_replicate]
    congr 2; omega
  have hlen : ((List.replicate (n - 64) ([] : List OpV)).flatMap encL).length = 2 * (n - 64) := by
    have := rawB_len 0 (n - 64)
    simp [rawB] at this ⊢
    omega
  have hp := pLists_enc (List.replicate (min n 64) ([] : List OpV)) ((List.replicate (n - 64) ([] : List OpV)).flatMap encL) (fun l hl => by rw [(List.mem_replicate.1 hl).2]; simp) (fun l hl o ho => by rw [(List.mem_replicate.1 hl).2] at ho; simp at ho) (fun l hl o ho => by rw [(List.mem_replicate.1 hl).2] at ho; simp at ho)
  rw [List.length_replicate] at hp
  unfold pRead
  rw [hn]
  simp only [hk, hsplit, hp, fin]
  refine ⟨by simp, ?_⟩
  rw [if_neg (by simp), List.length_take, hlen]; omega
/-- bytes of one list of operations of one byte each -/
def longB (k i : Nat) : List Int := 1 :: ((k % 256 : Nat) : Int) :: ((k / 256 : Nat) : Int) :: List.replicate i 4
theorem longB_succ (k i : Nat) : longB k (i + 1) = longB k i ++ [4] := by
  unfold longB
  rw [rep_snoc]; simp
theorem enc_unpin : ∀ i : Nat, (List.replicate i oUnpin).flatMap encO = List.replicate i 4
  | 0 => rfl
  | i + 1 => by rw [List.replicate_succ, List.flatMap_cons, enc_unpin i]; rfl
theorem pRead_long {k : Nat} (h1 : 998 ≤ k) (h2 : k ≤ 1002) : (pRead (longB k k)).1 = [List.replicate (min k 1000) oUnpin] ∧ (pRead (longB k k)).2.length = k - 1000 := by
  have hn : pNum 1 (longB k k, false) = ((1 : Int), (((k % 256 : Nat) : Int) :: ((k / 256 : Nat) : Int) :: List.replicate k (4 : Int), false)) := pNum_1 _
  have e2 : (((k % 256 : Nat) : Int) :: ((k / 256 : Nat) : Int) :: List.replicate k (4 : Int)) = lowB k 2 ++ List.replicate k 4 := by
    have : lowB (k : Int) 2 = [((k % 256 : Nat) : Int), ((k / 256 : Nat) : Int)] := by
      simp [lowB, byteAt, List.range_succ]
      omega
    rw [this]; rfl
  have hp2 := pNum_lowB (v := (k : Int)) (n := 2) (by omega) (by rw [pow2]; omega) (List.replicate k 4)
  have hm : manyOf (lowB k 2 ++ List.replicate k 4, false) = min k 1000 := by
    rw [manyOf, hp2]; simp only; omega
  have hsplit : List.replicate k (4 : Int) = (List.replicate (min k 1000) oUnpin).flatMap encO ++ List.replicate (k - 1000) 4 := by
    rw [enc_unpin, List.replicate_append_replicate]
    congr 1; omega
  have hall : ∀ o ∈ List.replicate (min k 1000) oUnpin, mayO o = true := fun o ho => by rw [(List.mem_replicate.1 ho).2]; decide
  have hwf : ∀ o ∈ List.replicate (min k 1000) oUnpin, WfO o := fun o ho => by rw [(List.mem_replicate.1 ho).2]; exact ⟨⟨by decide, by decide⟩, ⟨by decide, by decide⟩⟩
  have hops := pOps_enc (List.replicate (min k 1000) oUnpin) (List.replicate (k - 1000) 4) hall hwf
  rw [List.length_replicate, ← hsplit] at hops
  have hl : pList (lowB k 2 ++ List.replicate k 4, false) = (List.replicate (min k 1000) oUnpin, (List.replicate (k - 1000) 4, false)) := by
    rw [pList, hm, hp2]; exact hops
  have h1' : (min (1 : Int) 64).toNat = 1 := by decide
  unfold pRead
  rw [hn, e2]
  simp only [h1', pLists, hl, fin]
  refine ⟨trivial, ?_⟩
  rw [if_neg (by simp), List.length_take, List.length_replicate]; omega
end Go.Proofs.Ytgamnncehjcdiaa
