/- The record: what it stands on; a new one. -/
import Derived.Test.YtgamnncehjcdiaaRj
import Derived.Test.YtgamnncehjcdiaaEv13
namespace Go.Proofs.Ytgamnncehjcdiaa
open Go Ev Go.RowKit
set_option linter.unusedSimpArgs false
set_option linter.unusedVariables false
set_option maxRecDepth 10000

theorem c_Mul (y : Nat) (h : y ≤ 64) (w : World) : CallR Try.prog 111 [.int .u64 1, .int .u64 y] w fun v w' => v = .tuple #[.int .u64 0, .int .u64 y] ∧ w' = w := by
  apply F111_ok
  simp -implicitDefEqProofs only [F111, cnd_false]
  refine (c_Mul64 y h w).step ?_
  simp -implicitDefEqProofs [pr_extract]
/-- so many noughts less one -/
def neg1s (n : Nat) : List Int := List.replicate n (-1)
theorem l_Repeat {n : Nat} (h64 : n ≤ 64) {W : World} {g : Nat} (hgW : W.heap.size ≤ g) : ∀ (d m : Nat) (w : World) (c : Array Value), hp w g = some (.cells c 3) → c.size = n → 1 ≤ m → m ≤ n → n - m ≤ d → c.toList.take m = ints (neg1s m) → Chg [] W w →
    P72_2 (.slice (some ⟨g, 0, none⟩) n n) (.int .i64 m) w fun v w' => v = .slice (some ⟨g, 0, none⟩) n n ∧ hp w' g = some (.cells (ints (neg1s n)).toArray 3) ∧ Chg [] W w' := by
  intro d
  induction d with
  | zero =>
    intro m w c hg hc h1 hm hd ht hW
    have : m = n := by omega
    subst this
    apply L72_2_ok
    simp -implicitDefEqProofs only [L72_2, len_23, wpB_some', bp_lss, Int.lt_irrefl, decide_false, cnd_false]
    refine ⟨trivial, ?_, hW⟩
    rw [hg, ← ht, List.take_of_length_le (by simp; omega)]
  | succ d ih =>
    intro m w c hg hc h1 hm hd ht hW
    by_cases he : m = n
    · subst he
      apply L72_2_ok
      simp -implicitDefEqProofs only [L72_2, len_23, wpB_some', bp_lss, Int.lt_irrefl, decide_false, cnd_false]
      refine ⟨trivial, ?_, hW⟩
      rw [hg, ← ht, List.take_of_length_le (by simp; omega)]
    · apply L72_2_ok
      have hlt : (m : Int) < n := by omega
      simp -implicitDefEqProofs only [L72_2, len_23, wpB_some', bp_lss, hlt, decide_true, cnd_true, pr_slice_l Try.underlying23 sz_3 (show (0 : Int) ≤ m by omega) (show (m : Int) ≤ n by omega), pr_slice_h (c := n) (A := some ⟨g, 0, none⟩) (n := n) Try.underlying23 sz_3 (show (0 : Int) ≤ m by omega) (show (m : Int) ≤ n by omega),
        Int.toNat_natCast, show ¬ n = m by omega, if_false, Option.map_some, addr_add, Nat.zero_add, Nat.mul_one]
      have hl : (ints (neg1s (min m (n - m)))).length = min m (n - m) := by simp [neg1s]
      have hsrc : RdV w.drew (some ⟨g, 0, none⟩) (ints (neg1s (min m (n - m)))) := by
        intro j u hj
        refine ⟨_, rfl, ?_⟩
        rw [addr_add, cell_ldC, hp_drew, hg, ldC_some, Nat.zero_add]
        have hj' := (List.getElem?_eq_some_iff.1 hj).1
        rw [hl] at hj'
        have h2 : (c.toList.take m)[j]? = (ints (neg1s m))[j]? := by rw [ht]
        rw [List.getElem?_take, if_pos (by omega)] at h2
        rw [← Array.getElem?_toList, h2]
        rw [← hj]
        have h3 : j < m := by omega
        have h4 : j < min m (n - m) := hj'
        simp [ints, neg1s, List.getElem?_replicate, h3, h4]
      rw [effv_copy (cs := ints (neg1s (min m (n - m)))) (e := 3) (cur := c) Try.underlying23 sz_3 (by rw [hp_drew]; exact hg) hl hsrc (by rw [hl, hc]; omega) (fun v hv => by simp [ints] at hv; obtain ⟨a, _, rfl⟩ := hv; rfl)]
      simp -implicitDefEqProofs only [bp_add, wpB_some', hl, wrapi (n := (m : Int) + (min m (n - m) : Nat)) (by omega) (by omega)]
      have hput : hp (put w.drew g (setL c m (ints (neg1s (min m (n - m))))) 3) g = some (.cells (setL c m (ints (neg1s (min m (n - m))))) 3) := put_same (blk_lt (w := w.drew) (o := .cells c 3) hg) _ _
      have hset := setL_toList (ints (neg1s (min m (n - m)))) c m (by rw [hl, hc]; omega)
      have h := ih (m + min m (n - m)) _ (setL c m (ints (neg1s (min m (n - m))))) hput (by rw [setL_size, hc]) (by omega) (by omega) (by omega) ?_ (hW.drew.put (.inr hgW) _ _)
      · rw [Int.natCast_add] at h; exact h
      · rw [hset, List.append_assoc, List.take_append, List.take_of_length_le (by simp; omega), ht]
        have e1 : m + min m (n - m) - (ints (neg1s m)).length = (ints (neg1s (min m (n - m)))).length := by simp [neg1s]
        rw [e1, List.take_append_of_le_length (Nat.le_refl _), List.take_length, ← ints_append]
        congr 1
        simp [neg1s]
theorem c_Repeat {n : Nat} (h0 : 1 ≤ n) (h64 : n ≤ 64) {b : Nat} {w : World} (hb : hp w b = some (.cells #[.int .i64 (-1)] 3)) :
    CallR Try.prog 72 [.slice (some ⟨b, 0, none⟩) 1 1, .int .i64 n] w fun v w' => v = .slice (some ⟨w.heap.size, 0, none⟩) n n ∧ hp w' w.heap.size = some (.cells (ints (neg1s n)).toArray 3) ∧ Chg [] w w' := by
  apply F72_ok
  have hn : ¬ (n : Int) < 0 := by omega
  simp -implicitDefEqProofs only [F72, bp_lss, hn, decide_false, wpB_some', cnd_false]
  apply L72_0_ok
  simp -implicitDefEqProofs only [L72_0, len_23, wpB_some', cv_3_172, wrapu (n := (n : Int)) (by omega) (by omega), wrapu (n := ((1 : Nat) : Int)) (by omega) (by omega), Int.natCast_one]
  refine (c_Mul n h64 w).step ?_
  have z : ¬ (0 : Int) < 0 := by omega
  have m1 : ¬ (9223372036854775807 : Int) < n := by omega
  have x0 : pureRun Try.prog (Instr.extract (.tuple #[.int .u64 0, .int .u64 n]) 0) = some (.int .u64 0) := by rw [pr_extract]; rfl
  have x1 : pureRun Try.prog (Instr.extract (.tuple #[.int .u64 0, .int .u64 n]) 1) = some (.int .u64 n) := by rw [pr_extract]; rfl
  simp -implicitDefEqProofs only [x0, x1, wpB_some', bp_gtr, z, m1, decide_false, gd_false, gv_false, pickv_false, cnd_false]
  apply L72_1_ok
  obtain ⟨i, hi, hz, hs, hbt⟩ := inf_3
  simp -implicitDefEqProofs only [L72_1, cv_172_3, wpB_some', wrapi (n := (n : Int)) (by omega) (by omega), effv_make (kl := .i64) (kc := .i64) (n := n) Try.underlying23 hi hz (by rw [hs]; omega) (by rw [hbt]; omega) (by omega)]
  generalize hc : madeCells (Go.Value.int Go.IntKind.i64 0).cells (n * i.size) = c
  have hcs : c.size = n := by rw [← hc, size_madeCells, hs, Nat.mul_one]
  have hblt := blk_lt hb
  have hmake : hp (w.alloc (.cells c 3)) w.heap.size = some (.cells c 3) := by rw [alloc_heap, if_pos rfl]
  have hsrc : RdV (w.alloc (.cells c 3)) (some ⟨b, 0, none⟩) (ints (neg1s 1)) := by
    intro j u hj
    refine ⟨_, rfl, ?_⟩
    rw [addr_add, cell_ldC, alloc_heap, if_neg (by omega), hb, ldC_some, Nat.zero_add, ← hj]
    cases j <;> rfl
  have hl : (ints (neg1s 1)).length = 1 := rfl
  rw [effv_copy (cs := ints (neg1s 1)) (e := 3) (cur := c) Try.underlying23 sz_3 hmake (by rw [hl]; omega) hsrc (by rw [hl, hcs]; omega) (fun v hv => by simp [ints] at hv; obtain ⟨a, _, rfl⟩ := hv; rfl)]
  have hput := put_same (w := w.alloc (.cells c 3)) (b := w.heap.size) (by simp) (setL c 0 (ints (neg1s 1))) 3
  refine l_Repeat h64 (Nat.le_refl _) n 1 _ _ hput (by rw [setL_size, hcs]) (Nat.le_refl _) h0 (by omega) ?_ (((Chg.refl _ _).alloc _).put (.inr (Nat.le_refl _)) _ _)
  rw [setL_toList _ _ _ (by rw [hl, hcs]; omega)]
  rfl
/-- a record: its spans, its workers' open ones, the last step; what it stands on -/
structure RecI (w : World) (r : Nat) (F : List Nat) (S : List SpV) (op : List Int) (last : Int) : Prop where
  ex : ∃ lv ov, hp w r = some (.cells #[lv, ov, .int .i64 last] 121) ∧ w.ownsRow 0 58 20 lv S.length (S.flatMap spC) ∧ w.ownsRow 0 3 1 ov op.length (ints op) ∧ F = r :: (blk lv ++ blk ov)
theorem own_hp {w : World} {base : Nat} {e : TypeId} {z : Nat} {v : Value} {n : Nat} {xs : List Value} (h : w.ownsRow base e z v n xs) {g : Nat} (hg : v.ownBlock = some g) : ∃ c, hp w g = some (.cells c e) := by
  rcases h.2 with ⟨rfl, h0⟩ | ⟨g', cap, cur, rfl, hbg, hg', _⟩
  · cases hg
  · have : g' = g := by simpa [Value.ownBlock] using hg
    subst this
    exact ⟨cur, hg'⟩
theorem RecI.lt {w : World} {r : Nat} {F : List Nat} {S : List SpV} {op : List Int} {last : Int} (h : RecI w r F S op last) : ∀ k ∈ F, k < w.heap.size := by
  obtain ⟨lv, ov, h1, h2, h3, rfl⟩ := h.ex
  intro k hk
  simp at hk
  rcases hk with rfl | hk | hk
  · exact blk_lt h1
  · exact (h2.lt k hk).2
  · exact (h3.lt k hk).2
theorem RecI.keep {w w' : World} {r : Nat} {F G : List Nat} {S : List SpV} {op : List Int} {last : Int} (h : RecI w r F S op last) (hc : Chg G w w') (hd : Dis F G) : RecI w' r F S op last := by
  obtain ⟨lv, ov, h1, h2, h3, rfl⟩ := h.ex
  exact ⟨lv, ov, hc.at h1 (hd r (by simp)), ownsRow_chg h2 hc fun k hk => hd k (by simp [hk]), ownsRow_chg h3 hc fun k hk => hd k (by simp [hk]), rfl⟩
theorem Dis.nil (F : List Nat) : Dis F [] := fun k _ h => by simp at h
theorem c_New (n : Int) (w : World) : CallR Try.prog 24 [.int .i64 n] w fun v w' => ∃ r F, v = .pointer (some ⟨r, 0, none⟩) ∧ RecI w' r F [] (neg1s (min (max n 1) 64).toNat) 0 ∧ (∀ k ∈ F, w.heap.size ≤ k) ∧ Chg [] w w' := by
  apply F24_ok
  obtain ⟨k, hk⟩ : ∃ k : Nat, (if (64 : Int) < (if (1 : Int) > n then 1 else n) then 64 else (if (1 : Int) > n then 1 else n)) = (k : Int) := ⟨(if (64 : Int) < (if (1 : Int) > n then 1 else n) then 64 else (if (1 : Int) > n then 1 else n)).toNat, by split <;> split <;> omega⟩
  have hk1 : 1 ≤ k ∧ k ≤ 64 ∧ (min (max n 1) 64).toNat = k := by
    split at hk <;> split at hk <;> omega
  simp -implicitDefEqProofs only [F24, bs_23_1, pr_max, pr_min, wpB_some', hk]
  refine (c_Repeat hk1.1 hk1.2.1 (w := w.alloc (.cells #[.int .i64 (-1)] 3)) (b := w.heap.size) (by rw [alloc_heap, if_pos rfl])).mono ?_
  rintro v w1 ⟨rfl, h1, h2⟩
  simp -implicitDefEqProofs only [alloc_size] at h1 ⊢
  simp -implicitDefEqProofs only [bd_121_1, wpB_some', effv_box, cells_agg]
  have hb1 := blk_lt h1
  have hs := h2.size
  simp -implicitDefEqProofs only [alloc_size] at hs
  refine ⟨_, [w1.heap.size, w.heap.size + 1], rfl, ⟨.slice none 0 0, .slice (some ⟨w.heap.size + 1, 0, none⟩) k k, by rw [alloc_heap, if_pos rfl], World.ownsRow_nil _ _ _ _, ?_, rfl⟩, ?_, ?_⟩
  · rw [hk1.2.2]
    refine ⟨by simp, .inr ⟨w.heap.size + 1, k, _, by simp [neg1s], Nat.zero_le _, (by show hp _ _ = _; rw [alloc_heap, if_neg (by omega)]; exact h1), by simp [neg1s], by unfold maxLen; omega, by simp [neg1s], by simp [neg1s, ints]⟩⟩
  · intro j hj; simp at hj; omega
  · exact (((Chg.refl _ _).alloc _).trans h2).alloc _
end Go.Proofs.Ytgamnncehjcdiaa
