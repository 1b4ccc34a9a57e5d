/- Scripts out of bytes: the program's Read is the plain answer. -/
import Derived.Test.YtgamnncehjcdiaaDh
namespace Go.Proofs.Ytgamnncehjcdiaa
open Go Ev Go.RowKit
set_option linter.unusedSimpArgs false
set_option linter.unusedVariables false
set_option maxRecDepth 10000

theorem LOs.mono {w : World} {lo hi hi' : Nat} {ds : List Value} {done : List (List OpV)} (h : LOs w lo hi ds done) (hh : hi ≤ hi') : LOs w lo hi' ds done := ⟨h.1, fun j x ops hx ho => (h.2 j x ops hx ho).mono hh⟩
theorem many_eq (s : Rst) (h : IsBytes s.1) : (if (1000 : Int) < (pNum 2 s).1 then 1000 else (pNum 2 s).1) = (manyOf s : Int) := by
  have := pNum_bound (n := 2) h
  unfold manyOf; split <;> omega
theorem l_outer {W : World} {r g2 gv g4 n : Nat} (hn64 : n ≤ 64) : ∀ (d : Nat) (w : World) (s : Rst) (ds : List Value) (done : List (List OpV)) (hi : Nat), RI W w r g2 gv g4 s n (ds ++ List.replicate d nilS) → LOs w g4 hi ds done → g4 < hi → hi ≤ w.heap.size → ds.length + d = n → (s.2 = false ∨ s.1 = []) →
    P20_0 (.pointer (some ⟨g2, 0, none⟩)) (.pointer (some ⟨r, 0, none⟩)) (.pointer (some ⟨g4, 0, none⟩)) (.int .i64 n) (.int .i64 ds.length) w (RP W (done ++ (pLists d s).1, fin (pLists d s).2)) := by
  intro d
  induction d with
  | zero =>
    intro w s ds done hi hI hL hhi hsz hd hs2
    apply L20_0_ok
    have : ¬ ((ds.length : Int) < n) := by omega
    obtain ⟨A, c, hb, hA, hAr, hcap⟩ := hI.rs
    have hmin : (if (1048576 : Int) < s.1.length then (1048576 : Int) else s.1.length).toNat = (s.1.take 1048576).length := by rw [List.length_take]; split <;> omega
    have hps := pr_slice_h (P := Try.prog) (n := s.1.length) (c := c) (A := A) (k := .i64) (l := if (1048576 : Int) < s.1.length then (1048576 : Int) else s.1.length) Try.underlying28 sz_5 (by split <;> omega) (by split <;> omega)
    rw [hmin] at hps
    simp -implicitDefEqProofs only [L20_0, wpB_some', bp_lss, this, decide_false, cnd_false, nilv_some, fa_115_0, ld_28, hp_drew, hb, ldC_some, Nat.add_zero, show (#[Value.slice A s.1.length c, Value.bool s.2] : Array Value)[0]? = some (.slice A s.1.length c) from rfl, len_28, pr_min, hps]
    have e1 : pLists 0 s = ([], s) := rfl
    have e2 : fin s = s.1.take 1048576 := by
      unfold fin
      rcases hs2 with h | h
      · rw [if_neg (by simp [h])]
      · rw [h]; simp
    rw [e1]
    simp only [List.append_nil, e2]
    have hA' : RdV w A (u8s (s.1.take 1048576)) := by
      have : u8s (s.1.take 1048576) = (u8s s.1).take 1048576 := by simp [u8s, List.map_take]
      rw [this]; exact hA.take _
    have bv := hI.bv
    simp only [List.replicate_zero, List.append_nil] at bv
    exact l_picks (r := r) (c := c) (hi := hi) (by simp; omega) (hI.by_.take _) hhi hI.o1 hI.o2 hI.o3 hI.o4 (by omega) (fun p hp hne => hAr p hp fun h => hne (by rw [h]; simp)) (s.1.take 1048576).length 0 w.drew nilS hI.b2 bv hI.b4 hL hA' hI.ch.drew hsz (World.ownsRow_nil _ _ _ _) (by omega)
  | succ d ih =>
    intro w s ds done hi hI hL hhi hsz hd hs2
    apply L20_0_ok
    have hlt : (ds.length : Int) < n := by omega
    simp -implicitDefEqProofs only [L20_0, wpB_some', bp_lss, hlt, decide_true, cnd_true]
    refine (c_num (n := 2) hI.by_ hI.rs (by omega)).mono ?_
    rintro v w1 ⟨rfl, hR1, hc1⟩
    have hI1 := hI.step hc1 (by simp) hR1 (pNum_bytes hI.by_)
    have o4 := hI.o4; have o3 := hI.o3
    have hc1s := hc1.size
    have hL1 := (hL.chg hc1 (by simp; omega)).mono (show hi ≤ w1.heap.size by omega)
    simp -implicitDefEqProofs only [pr_min, wpB_some', many_eq s hI.by_]
    rw [List.replicate_succ] at hI1
    have := l_inner (W := W) (many := manyOf s) (hi := w1.heap.size) (m := d) (ds := ds) (done := done) (by omega) (by omega) hn64 (manyOf_le s)
      (fun w' s' x acc hI' hL' ho' hsz' hs2' => by
        have h1 : (ds ++ x :: List.replicate d nilS) = (ds ++ [x]) ++ List.replicate d nilS := by simp
        rw [h1] at hI'
        have h := ih w' s' (ds ++ [x]) (done ++ [acc]) w'.heap.size hI' (hL'.snoc hsz' (LO.of_own ho' (by omega))) (by omega) (Nat.le_refl _) (by simp; omega) (.inl hs2')
        rw [List.length_append, Int.natCast_add] at h
        simp only [List.append_assoc, List.singleton_append] at h
        exact h)
      (manyOf s) 0 w1 (pNum 2 s).2 nilS [] hI1 hL1 (World.ownsRow_nil _ _ _ _) (Nat.le_refl _) rfl (by omega)
    simp only [List.nil_append] at this
    simp only [pLists, pList]
    exact this
/-- bytes that came in, or were made -/
def SlB (w : World) (v : Value) (bs : List Int) : Prop := ∃ A c, v = .slice A bs.length c ∧ RdV w A (u8s bs) ∧ bs.length ≤ c ∧ (∀ p, A = some p → bs ≠ [] → p.block < w.heap.size)
theorem SlB.chg {w w' : World} {v : Value} {bs : List Int} (h : SlB w v bs) (hc : Chg [] w w') : SlB w' v bs := by
  obtain ⟨A, c, h1, h2, h3, h4⟩ := h
  exact ⟨A, c, h1, h2.chg hc (fun _ _ _ hm => by simp at hm), h3, fun p hp hne => by have := h4 p hp hne; have := hc.size; omega⟩
theorem n_eq (bs : List Int) (h : IsBytes bs) : (if (64 : Int) < (pNum 1 (bs, false)).1 then 64 else (pNum 1 (bs, false)).1) = (((min (pNum 1 (bs, false)).1 64).toNat : Nat) : Int) := by
  have := pNum_bound (n := 1) (s := (bs, false)) h
  split <;> omega
theorem c_Read {W : World} {v : Value} {bs : List Int} (hb : SlB W v bs) (hbs : IsBytes bs) : CallR Try.prog 20 [v] W (RP W (pRead bs)) := by
  obtain ⟨A, c, rfl, hA, hcap, hAr⟩ := hb
  apply F20_ok
  simp -implicitDefEqProofs only [F20, al_25, bd_115_0, wpB_some', effv_box, cells_agg, alloc_size]
  have hc0 : Chg [] W ((W.alloc (.cells #[nilS, nilS] 25)).alloc (.cells #[.slice A bs.length c, .bool false] 115)) := ((Chg.refl _ _).alloc _).alloc _
  have hr0 : RS ((W.alloc (.cells #[nilS, nilS] 25)).alloc (.cells #[.slice A bs.length c, .bool false] 115)) (W.heap.size + 1) (bs, false) :=
    ⟨A, c, by simp, hA.chg hc0 (fun _ _ _ hm => by simp at hm), fun p hp hne => by have := hAr p hp hne; omega, hcap⟩
  have hb2 : hp ((W.alloc (.cells #[nilS, nilS] 25)).alloc (.cells #[.slice A bs.length c, .bool false] 115)) W.heap.size = some (.cells #[nilS, nilS] 25) := by simp
  have hs0 : ((W.alloc (.cells #[nilS, nilS] 25)).alloc (.cells #[.slice A bs.length c, .bool false] 115)).heap.size = W.heap.size + 2 := by simp
  refine (c_num (n := 1) (s := (bs, false)) hbs hr0 (by omega)).mono ?_
  rintro v w1 ⟨rfl, hR1, hc1⟩
  have hc1s := hc1.size
  have hb2 := hc1.at hb2 (by simp)
  have hch := Chg.into hc0 hc1 (by simp)
  simp -implicitDefEqProofs only [pr_min, wpB_some', n_eq bs hbs]
  obtain ⟨n, hn⟩ : ∃ n, n = (min (pNum 1 (bs, false)).1 64).toNat := ⟨_, rfl⟩
  have hn64 : n ≤ 64 := by omega
  rw [← hn]
  have hmk := run_make (P := Try.prog) w1 22 27 _ _ Try.underlying22 (inf_27).choose_spec.1 (inf_27).choose_spec.2.1 .u64 .u64 (n : Int) n (by omega) (by omega) (by rw [(inf_27).choose_spec.2.2.2]; omega) (by omega)
  rw [(inf_27).choose_spec.2.2.1, Int.toNat_natCast, Nat.mul_one] at hmk
  refine effv_of hmk ?_
  have hcells : madeCells (Value.slice none 0 0).cells n = (List.replicate n nilS).toArray := by
    apply Array.toList_inj.1
    show (madeCells #[.slice none 0 0] n).toList = _
    rw [toList_madeCells_one]; rfl
  rw [hcells]
  simp -implicitDefEqProofs only [bd_25_0, wpB_some', al_25, alloc_size]
  rw [st_25 (by rfl) (by rfl) (by simp) (by simp)]
  have hg : hp (put ((w1.alloc (.cells (List.replicate n nilS).toArray 27)).alloc (.cells #[.slice none 0 0, .slice none 0 0] 25)) (w1.heap.size + 1) #[.slice (some ⟨w1.heap.size, 0, none⟩) n n, .slice none 0 0] 25) (w1.heap.size + 1) = some (.cells #[.slice (some ⟨w1.heap.size, 0, none⟩) n n, .slice none 0 0] 25) := by simp
  have hv : hp (put ((w1.alloc (.cells (List.replicate n nilS).toArray 27)).alloc (.cells #[.slice none 0 0, .slice none 0 0] 25)) (w1.heap.size + 1) #[.slice (some ⟨w1.heap.size, 0, none⟩) n n, .slice none 0 0] 25) w1.heap.size = some (.cells (List.replicate n nilS).toArray 27) := by simp
  have hge : getE (hp ((w1.alloc (.cells (List.replicate n nilS).toArray 27)).alloc (.cells #[.slice none 0 0, .slice none 0 0] 25)) (w1.heap.size + 1)) = 25 := by simp
  rw [hge]
  have hc2 : Chg [] w1 (put ((w1.alloc (.cells (List.replicate n nilS).toArray 27)).alloc (.cells #[.slice none 0 0, .slice none 0 0] 25)) (w1.heap.size + 1) #[.slice (some ⟨w1.heap.size, 0, none⟩) n n, .slice none 0 0] 25) := (((Chg.refl _ _).alloc _).alloc _).put (.inr (by omega)) _ _
  have hsz2 : (put ((w1.alloc (.cells (List.replicate n nilS).toArray 27)).alloc (.cells #[.slice none 0 0, .slice none 0 0] 25)) (w1.heap.size + 1) #[.slice (some ⟨w1.heap.size, 0, none⟩) n n, .slice none 0 0] 25).heap.size = w1.heap.size + 2 := by simp
  generalize put ((w1.alloc (.cells (List.replicate n nilS).toArray 27)).alloc (.cells #[.slice none 0 0, .slice none 0 0] 25)) (w1.heap.size + 1) #[.slice (some ⟨w1.heap.size, 0, none⟩) n n, .slice none 0 0] 25 = w2 at *
  simp -implicitDefEqProofs only [fa_25_0, wpB_some', ld_22, hg, ldC_some, show (#[Value.slice (some ⟨w1.heap.size, 0, none⟩) n n, .slice none 0 0] : Array Value)[0 + 0]? = some (.slice (some ⟨w1.heap.size, 0, none⟩) n n) from rfl, len_22]
  have hR2 := hR1.chg hc2 (by simp)
  have hI : RI W w2 (W.heap.size + 1) W.heap.size w1.heap.size (w1.heap.size + 1) (pNum 1 (bs, false)).2 n ([] ++ List.replicate n nilS) :=
    ⟨hR2, pNum_bytes hbs, hc2.at hb2 (by simp), hv, hg, Nat.le_refl _, by omega, by omega, by omega, hch.trans hc2⟩
  have hL : LOs w2 (w1.heap.size + 1) w2.heap.size [] [] := ⟨rfl, fun j x ops hx => by simp at hx⟩
  have he : (pNum 1 (bs, false)).2.2 = false ∨ (pNum 1 (bs, false)).2.1 = [] := by
    unfold pNum
    split
    · rename_i h
      simp at h
      exact .inr h
    · exact .inl rfl
  have := l_outer hn64 n w2 (pNum 1 (bs, false)).2 [] [] w2.heap.size hI hL (by omega) (Nat.le_refl _) (by simp) he
  simp only [List.nil_append] at this
  simp only [pRead, ← hn]
  exact this
end Go.Proofs.Ytgamnncehjcdiaa
