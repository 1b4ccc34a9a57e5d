/- Scripts out of bytes: the reference's ReadScript, its outer loop; both readers say the same. -/
import Derived.Test.YtkploakfdlnbbaaDj
namespace Go.Proofs.Ytkploakfdlnbbaa
open Go Ev Go.RowKit
set_option linter.unusedSimpArgs false
set_option linter.unusedVariables false
set_option maxRecDepth 10000

theorem LOs.chgB {w w' : World} {S : List Nat} {lo hi : Nat} {ds : List Value} {done : List (List OpV)} (h : LOs w lo hi ds done) (hc : Chg S w w') (hn : ∀ x ∈ ds, ∀ k, x.ownBlock = some k → k ∉ S) : LOs w' lo hi ds done :=
  ⟨h.1, fun j x ops hx ho => (h.2 j x ops hx ho).chgB hc (hn x (List.mem_of_getElem? hx))⟩
theorem LOs.blk {w : World} {lo hi : Nat} {ds : List Value} {done : List (List OpV)} (h : LOs w lo hi ds done) {x : Value} (hx : x ∈ ds) {k : Nat} (hk : x.ownBlock = some k) : k < hi := by
  obtain ⟨j, hj, rfl⟩ := List.getElem_of_mem hx
  obtain ⟨A, c, he, _, hb⟩ := h.2 j ds[j] (done[j]'(by rw [← h.1]; exact hj)) (List.getElem?_eq_getElem hj) (List.getElem?_eq_getElem _)
  rw [he] at hk
  cases A with
  | none => simp [Value.ownBlock] at hk
  | some p =>
    simp [Value.ownBlock] at hk
    have := (hb p rfl).2
    omega
theorem l_rout {B : List Int} (hB : B.length ≤ 1000000) (hBb : IsBytes B) {W : World} {r g2 g4 n : Nat} {A0 : Option Addr} {c0 : Nat} (hn64 : n ≤ 64) : ∀ (d : Nat) (w : World) (s : Rst) (vo : Value) (ds : List Value) (done : List (List OpV)) (hi : Nat), RJ B W w r g2 g4 s vo nilS ds → LOs w g4 hi ds done → Apart vo ds → g4 < hi → hi ≤ w.heap.size → ds.length + d = n →
    P39_0 (.slice A0 B.length c0) (.pointer (some ⟨g2, 0, none⟩)) (.pointer (some ⟨r, 0, none⟩)) (.pointer (some ⟨g4, 0, none⟩)) (.int .i64 n) (.int .i64 ds.length) w (RP W (done ++ (pLists d s).1, fin (pLists d s).2)) := by
  intro d
  induction d with
  | zero =>
    intro w s vo ds done hi hJ hL hap hhi hsz hd
    apply L39_0_ok
    have : ¬ ((ds.length : Int) < n) := by omega
    have hlt4 := blk_lt hJ.b4
    simp -implicitDefEqProofs only [L39_0, wpB_some', bp_lss, this, decide_false, cnd_false]
    have e1 : pLists 0 s = ([], s) := rfl
    have e2 : fin s = finK s 0 := by simp [fin, finK]
    rw [e1]
    simp only [List.append_nil, e2]
    have h := l_rpicks hB hBb (hi := w.heap.size) (A0 := A0) (c0 := c0) (done := done) (show g4 < w.heap.size by omega) (fun k hk => (hJ.own.lt k hk).2) s.1.length w s nilS [] hJ (hL.mono hsz) (Nat.le_refl _) (World.ownsRow_nil _ _ _ _) rfl
    exact h
  | succ d ih =>
    intro w s vo ds done hi hJ hL hap hhi hsz hd
    apply L39_0_ok
    have hlt : (ds.length : Int) < n := by omega
    have o4 := hJ.o4; have o2 := hJ.o2; have o1 := hJ.o1
    have hsb := rq_bytes hBb hJ.rq
    simp -implicitDefEqProofs only [L39_0, wpB_some', bp_lss, hlt, decide_true, cnd_true]
    refine (c_lowQ (n := 2) (by omega) hBb hJ.rq (by omega)).mono ?_
    rintro v w1 ⟨rfl, hR1, hc1⟩
    have hJ1 := hJ.step hc1 (by simp) hR1
    have hc1s := hc1.size
    have hL1 := (hL.chg hc1 (by simp; omega)).mono (show hi ≤ w1.heap.size by omega)
    have hnum := num2 (s := s) hsb
    simp -implicitDefEqProofs only [cv_33_3, hnum, pr_min, wpB_some', many_eq s hsb]
    have := l_rin hB hBb (W := W) (n := n) (many := manyOf s) (hi := w1.heap.size) (m := d) (ds := ds) (done := done) (vo := vo) (x0 := .slice A0 B.length c0) (r := r) (g2 := g2) (g4 := g4) (by omega) (fun k hk => (hJ1.own.lt k hk).2) (manyOf_le s)
      (fun w' s' x acc hJ' hL' ho' hsz' => by
        obtain ⟨A, c, rfl, hA, hAb, _⟩ := rdV_of_own ho'
        have hlx : LO w' g4 w'.heap.size (.slice A acc.length c) acc := LO.of_own ho' (by omega)
        have hlt' := hJ'.own.lt
        refine ps_41 (by simp) hJ'.own (by omega) (by have := blk_lt hJ'.b4; omega) fun vo' w3 ho3 hg hnb => ?_
        have hc3 := chg_own hg
        have hxb : ∀ k, (Value.slice A acc.length c).ownBlock = some k → w1.heap.size ≤ k ∧ k < w'.heap.size := fun k hk => ho'.lt k hk
        have hvb : ∀ k, vo.ownBlock = some k → k < w1.heap.size := fun k hk => (hJ1.own.lt k hk).2
        have hone : vo'.cells = #[vo'] ∧ vo'.oneCell' = true := by
          obtain ⟨B', d', hx', _⟩ := rdV_of_own ho3
          rw [hx']; exact ⟨rfl, rfl⟩
        have hge := own_ge hJ'.own
        have hb43 := hc3.at hJ'.b4 (fun hm => by have := hge _ hm; omega)
        have hlt4 := blk_lt hb43
        have hcs := hc3.size
        rw [st_41 hone.1 hone.2 (by rw [hb43]; rfl), hb43]
        have hput : Chg [g4] w3 (put w3 g4 #[vo', nilS] 43) := (Chg.refl _ _).put (.inl (by simp)) _ _
        have hL3 : LOs w3 g4 w'.heap.size (ds ++ [.slice A acc.length c]) (done ++ [acc]) :=
          (hL'.snoc hsz' hlx).chgB hc3 fun y hy k hk hm => by
            have hm : vo.ownBlock = some k := by simpa using hm
            rcases List.mem_append.1 hy with hy | hy
            · exact hap y hy k hk hm
            · have : y = .slice A acc.length c := by simpa using hy
              subst this
              have := hxb k hk; have := hvb k hm; omega
        have hJ4 : RJ B W (put w3 g4 #[vo', nilS] 43) r g2 g4 s' vo' nilS (ds ++ [.slice A acc.length c]) :=
          ⟨(hJ'.rq.chg hc3 fun k hk => by have := hge k hk; omega).chg hput (by simp; omega), hput.at (hc3.at hJ'.b2 (fun hm => by have := hge _ hm; omega)) (by simp; omega), by rw [put_heap, if_pos rfl, if_pos hlt4],
            by rw [List.length_append]; exact ownsRow_chg ho3 hput fun k hk hm => by have := (ho3.lt k hk).1; simp at hm; omega, o1, o2, o4, Chg.into (Chg.into hJ'.ch hc3 fun k hk => .inr (by have := hge k hk; omega)) hput (by simp; omega)⟩
        have hap4 : Apart vo' (ds ++ [.slice A acc.length c]) := fun y hy k hk hm => by
          have hky : k < w'.heap.size := (hL'.snoc hsz' hlx).blk hy hk
          rcases hnb k hm with h | h
          · rcases List.mem_append.1 hy with hy | hy
            · exact hap y hy k hk h
            · have : y = .slice A acc.length c := by simpa using hy
              subst this
              have := hxb k hk; have := hvb k h; omega
          · omega
        have h := ih (put w3 g4 #[vo', nilS] 43) s' vo' (ds ++ [.slice A acc.length c]) (done ++ [acc]) w3.heap.size hJ4 ((hL3.chg hput (by simp)).mono (by omega)) hap4 (by omega) (by simp) (by simp; omega)
        rw [List.length_append, Int.natCast_add] at h
        simp only [List.append_assoc, List.singleton_append] at h
        exact h)
      (by omega) (manyOf s) 0 w1 (pNum 2 s).2 nilS [] hJ1 hL1 (World.ownsRow_nil _ _ _ _) (Nat.le_refl _) (by simp) (by omega)
    simp only [List.nil_append] at this
    simp only [pLists, pList]
    exact this
theorem c_ReadScript {W : World} {v : Value} {bs : List Int} (hb : SlB W v bs) (hl : bs.length ≤ 1000000) (hbs : IsBytes bs) : CallR Try.prog 39 [v] W (RP W (pRead bs)) := by
  obtain ⟨A, c, rfl, hA, hcap, hAr⟩ := hb
  apply F39_ok
  simp -implicitDefEqProofs only [F39, al_43, bd_76_0, wpB_some', effv_box, cells_agg, alloc_size]
  have hc0 : Chg [] W (((W.alloc (.cells #[nilS, nilS] 43)).alloc (.cells #[.slice A bs.length c, .int .i64 0, .bool false] 76)).alloc (.cells #[nilS, nilS] 43)) := (((Chg.refl _ _).alloc _).alloc _).alloc _
  have hr0 : RQ bs (((W.alloc (.cells #[nilS, nilS] 43)).alloc (.cells #[.slice A bs.length c, .int .i64 0, .bool false] 76)).alloc (.cells #[nilS, nilS] 43)) (W.heap.size + 1) (bs, false) :=
    ⟨0, ⟨A, c, by simp, hA.chg hc0 (fun _ _ _ hm => by simp at hm), fun p hp hne => by have := hAr p hp hne; omega⟩, rfl, Nat.zero_le _⟩
  have hb2 : hp (((W.alloc (.cells #[nilS, nilS] 43)).alloc (.cells #[.slice A bs.length c, .int .i64 0, .bool false] 76)).alloc (.cells #[nilS, nilS] 43)) W.heap.size = some (.cells #[nilS, nilS] 43) := by simp
  have hb4 : hp (((W.alloc (.cells #[nilS, nilS] 43)).alloc (.cells #[.slice A bs.length c, .int .i64 0, .bool false] 76)).alloc (.cells #[nilS, nilS] 43)) (W.heap.size + 1 + 1) = some (.cells #[nilS, nilS] 43) := by simp
  have hs0 : (((W.alloc (.cells #[nilS, nilS] 43)).alloc (.cells #[.slice A bs.length c, .int .i64 0, .bool false] 76)).alloc (.cells #[nilS, nilS] 43)).heap.size = W.heap.size + 3 := by simp
  refine (c_lowQ (n := 1) (by omega) hbs hr0 (by omega)).mono ?_
  rintro v w1 ⟨rfl, hR1, hc1⟩
  have hc1s := hc1.size
  have hb2 := hc1.at hb2 (by simp)
  have hb4 := hc1.at hb4 (by simp)
  have hch := Chg.into hc0 hc1 (by simp)
  have hn1 := num1 (s := (bs, false)) hbs
  simp -implicitDefEqProofs only [cv_33_3, hn1, pr_min, wpB_some', n_eq bs hbs]
  obtain ⟨n, hn⟩ : ∃ n, n = (min (pNum 1 (bs, false)).1 64).toNat := ⟨_, rfl⟩
  have hn64 : n ≤ 64 := by omega
  rw [← hn]
  have hJ : RJ bs W w1 (W.heap.size + 1) W.heap.size (W.heap.size + 1 + 1) (pNum 1 (bs, false)).2 nilS nilS [] := ⟨hR1, hb2, hb4, World.ownsRow_nil _ _ _ _, Nat.le_refl _, by omega, by omega, hch⟩
  have := l_rout hl hbs (A0 := A) (c0 := c) hn64 n w1 (pNum 1 (bs, false)).2 nilS [] [] w1.heap.size hJ ⟨rfl, fun j x ops hx => by simp at hx⟩ (fun x hx => by simp at hx) (by omega) (Nat.le_refl _) (by simp)
  simp only [List.nil_append] at this
  simp only [pRead, ← hn]
  exact this
end Go.Proofs.Ytkploakfdlnbbaa
