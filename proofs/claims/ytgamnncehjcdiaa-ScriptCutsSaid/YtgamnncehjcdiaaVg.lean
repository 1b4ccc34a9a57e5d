/- The call of ScriptBack answers true. -/
import Derived.Test.YtgamnncehjcdiaaVf
import Derived.Test.YtgamnncehjcdiaaSi
import Derived.Test.YtgamnncehjcdiaaSk
namespace Go.Proofs.Ytgamnncehjcdiaa
open Go Ev Go.RowKit Go.ChangeShapes
set_option linter.unusedSimpArgs false
set_option linter.unusedVariables false
set_option maxRecDepth 10000

theorem u8_inj {a b : Int} (ha : 0 ≤ a ∧ a < 256) (hb : 0 ≤ b ∧ b < 256) (h : UInt8.ofNat a.toNat = UInt8.ofNat b.toNat) : a = b := by
  have h1 := congrArg UInt8.toNat h
  simp at h1
  omega
theorem map_inj_on {a b : List Int} (ha : IsBytes a) (hb : IsBytes b) (h : a.map (fun n => UInt8.ofNat n.toNat) = b.map fun n => UInt8.ofNat n.toNat) : a = b := by
  induction a generalizing b with
  | nil => cases b with
    | nil => rfl
    | cons y ys => simp at h
  | cons x xs ih => cases b with
    | nil => simp at h
    | cons y ys =>
      simp only [List.map_cons, List.cons.injEq] at h
      rw [u8_inj (ha x (by simp)) (hb y (by simp)) h.1, ih (fun z hz => ha z (by simp [hz])) (fun z hz => hb z (by simp [hz])) h.2]
theorem str_eq {a b : List Int} (ha : IsBytes a) (hb : IsBytes b) : ((strOfNums a).toList == (strOfNums b).toList) = decide (a = b) := by
  rw [strOfNums_toList, strOfNums_toList]
  by_cases h : a = b
  · subst h; simp
  · rw [decide_eq_false h]
    exact beq_eq_false_iff_ne.2 fun e => h (map_inj_on ha hb e)
theorem str_enc {s t : ScV} (h1 : mayS s = true) (h2 : okS s = true) (h3 : WfS s) (k1 : mayS t = true) (k2 : okS t = true) (k3 : WfS t) : ((strOfNums (encS s)).toList == (strOfNums (encS t)).toList) = scEq s t := by
  rw [str_eq (encS_bytes h1 h2) (encS_bytes k1 k2), scEq]
  apply decide_eq_decide.2
  constructor
  · intro e
    have := congrArg pRead e
    rw [pRead_encS h1 h2 h3, pRead_encS k1 k2 k3] at this
    subst this; exact ⟨rfl, rfl⟩
  · rintro ⟨e1, e2⟩
    obtain ⟨a, b⟩ := s; obtain ⟨c, d⟩ := t
    simp only at e1 e2
    subst e1; subst e2; rfl
/-- what is made, so that it can be put -/
structure Fine (s : ScV) : Prop where
  m : mayS s = true
  o : okS s = true
  w : WfS s
  l : s.1.length ≤ 64
  c : tot s.1 ≤ 40
  p : s.2.length ≤ 300
theorem cnt_tot (L : List (List OpV)) : cnt L ≤ tot L := by
  induction L with
  | nil => simp [cnt, tot]
  | cons x xs ih => simp only [cnt, tot]; omega
theorem Fine.size {s : ScV} (h : Fine s) : (encS s).length ≤ 700000 := encS_small (by have := h.l; omega) (by have := cnt_tot s.1; have := h.c; omega) h.p
theorem Fine.ll {s : ScV} (h : Fine s) : ∀ l ∈ s.1, l.length ≤ 4611686018427387904 := fun l hl => by have := tot_ge hl; have := h.c; omega
theorem made_fine {W w' : World} {n : Nat} {ys : List Int} {v : Value} (hn : n ≤ 8) (hy : ys.length ≤ 300) (h : MadeP W n (m256 ys) v w') : ∃ s, Fine s ∧ IsS w' v s ∧ Chg [] W w' := by
  obtain ⟨L, h1, h2, h3, h4, h5⟩ := h
  have hl : (m256 ys).length = ys.length := by simp [m256]
  refine ⟨(L, m256 ys), ⟨(mayS_iff _).2 ⟨fun l (hl : l ∈ L) => by have := tot_ge hl; show l.length ≤ 1000; omega, by show L.length ≤ 64; omega, by show (m256 ys).length ≤ 1048576; omega⟩, ?_, fun l hl o ho => (h2 l hl o ho).2, by show L.length ≤ 64; omega, h4, by show (m256 ys).length ≤ 300; omega⟩, h1, h5⟩
  simp only [okS, Bool.and_eq_true, List.all_eq_true]
  refine ⟨fun l hl o ho => (h2 l hl o ho).1, fun x hx => ?_⟩
  simp only [m256, List.mem_map] at hx
  obtain ⟨y, _, rfl⟩ := hx
  simp only [okP, decide_eq_true_eq]
  omega
/-- what is put of such -/
theorem put_fine {W : World} {s : ScV} (h : Fine s) {v : Value} (hv : IsS W v s) {K : Value → World → Prop} (hk : ∀ A c w', SlB w' (.slice A (encS s).length c) (encS s) → Chg [] W w' → K (.tuple #[.slice A (encS s).length c, .int .i64 0]) w') :
    CallR Try.prog 15 [v] W K := by
  refine (c_Put h.w (by have := h.size; omega) (by have := h.l; omega) hv).mono ?_
  rintro _ w' ⟨x, rfl, hx, hc⟩
  rw [putS_t h.m h.o] at hx ⊢
  have hb := slB_own hx rfl
  obtain ⟨A, c, rfl, _⟩ := hb
  exact hk A c w' (slB_own hx rfl) hc
theorem read_fine {W : World} {s : ScV} (h : Fine s) {v : Value} (hv : SlB W v (encS s)) {K : Value → World → Prop} (hk : ∀ v w', IsS w' v s → Chg [] W w' → K v w') : CallR Try.prog 20 [v] W K := by
  refine (c_Read hv (encS_bytes h.m h.o)).mono ?_
  rintro t w1 ⟨hs1, hc1⟩
  rw [pRead_encS h.m h.o h.w] at hs1
  exact hk t w1 hs1 hc1
theorem same_fine {W : World} {s t : ScV} (h : Fine s) {u v : Value} (hu : IsS W u s) (hv : IsS W v t) {K : Value → World → Prop} (hk : ∀ w', Chg [] W w' → K (.bool (scEq s t)) w') : CallR Try.prog 19 [u, v] W K := by
  refine (c_SameScript (by have := h.l; omega) h.ll (by have := h.p; omega) hu hv).mono ?_
  rintro _ w2 ⟨rfl, hb2⟩
  exact hk w2 (Chg.of_below hb2 _)
theorem str_sl {W w' : World} {A : Option Addr} {c : Nat} {bs : List Int} (h : SlB W (.slice A bs.length c) bs) (hc : Chg [] W w') {K : Value → World → Prop} : effv Try.prog (convert 28 9 (.slice A bs.length c)) w' K = K (.string (strOfNums bs)) w' := by
  obtain ⟨A', c', e, hr, _⟩ := h
  cases e
  exact effv_str Try.underlying28 Try.underlying5 Try.underlying9 (hr.chg hc fun _ _ _ hm => by simp at hm)
theorem isS_shape {W : World} {v : Value} {s : ScV} (h : IsS W v s) : ∃ A c B d, v = .agg #[.slice A s.1.length c, .slice B s.2.length d] := by
  obtain ⟨A, c, vs, vp, rfl, _, _, _, B, d, rfl, _⟩ := h.ex
  exact ⟨A, c, B, d, rfl⟩
/-- a script in a block of its own -/
theorem box_sc {W : World} {A B : Option Addr} {n c m d : Nat} {L : Value → World → Prop}
    (next : ∀ w', Chg [] W w' → (∀ w'', Chg [] w' w'' → ldv Try.prog 25 (.pointer (some ⟨W.heap.size, 0, none⟩)) w'' = some (.agg #[.slice A n c, .slice B m d])) → L (.pointer (some ⟨W.heap.size, 0, none⟩)) w') :
    effv Try.prog (Instr.alloc 25 true (.tuple #[])) W fun t w => effu Try.prog (Instr.storeAt 25 t (.agg #[.slice A n c, .slice B m d])) w (L t) := by
  simp -implicitDefEqProofs only [al_25]
  rw [st_25 (by rfl) (by rfl) (by rw [alloc_heap, if_pos rfl]; rfl) (by rw [alloc_heap, if_pos rfl]; rfl), alloc_heap, if_pos rfl]
  simp -implicitDefEqProofs only [getE_some]
  have h : hp (put (W.alloc (.cells #[.slice none 0 0, .slice none 0 0] 25)) W.heap.size #[.slice A n c, .slice B m d] 25) W.heap.size = some (.cells #[.slice A n c, .slice B m d] 25) := by rw [put_heap, if_pos rfl, if_pos (by simp)]
  exact next _ (((Chg.refl _ _).alloc _).put (.inr (Nat.le_refl _)) _ _) fun w'' hc => ldv_whole (c := #[.slice A n c, .slice B m d]) ag_25 sz_25 (hc.at h (by simp))
theorem box_sc2 {W : World} {A B A' B' : Option Addr} {n c m d n' c' m' d' : Nat} {L : Value → Value → World → Prop}
    (next : ∀ t t' w', Chg [] W w' → (∀ w'', Chg [] w' w'' → ldv Try.prog 25 t w'' = some (.agg #[.slice A n c, .slice B m d])) → (∀ w'', Chg [] w' w'' → ldv Try.prog 25 t' w'' = some (.agg #[.slice A' n' c', .slice B' m' d'])) → L t t' w') :
    effv Try.prog (Instr.alloc 25 true (.tuple #[])) W fun t w => effv Try.prog (Instr.alloc 25 true (.tuple #[])) w fun t' w => effu Try.prog (Instr.storeAt 25 t (.agg #[.slice A n c, .slice B m d])) w fun w => effu Try.prog (Instr.storeAt 25 t' (.agg #[.slice A' n' c', .slice B' m' d'])) w (L t t') := by
  simp -implicitDefEqProofs only [al_25, alloc_size]
  generalize hw : (W.alloc _).alloc _ = w2
  have hc : Chg [] W w2 := by rw [← hw]; exact ((Chg.refl _ _).alloc _).alloc _
  have hz : w2.heap.size = W.heap.size + 1 + 1 := by rw [← hw, alloc_size, alloc_size]
  have a1 : hp w2 W.heap.size = some (.cells #[.slice none 0 0, .slice none 0 0] 25) := by rw [← hw, alloc_heap, alloc_size, if_neg (by omega), alloc_heap, if_pos rfl]
  have a2 : hp w2 (W.heap.size + 1) = some (.cells #[.slice none 0 0, .slice none 0 0] 25) := by rw [← hw, alloc_heap, alloc_size, if_pos rfl]
  clear hw
  rw [st_25 (by rfl) (by rfl) (by rw [a1]; rfl) (by rw [a1]; rfl), a1]
  simp -implicitDefEqProofs only [getE_some]
  have b2 : hp (put w2 W.heap.size #[.slice A n c, .slice B m d] 25) (W.heap.size + 1) = some (.cells #[.slice none 0 0, .slice none 0 0] 25) := by rw [put_other (by omega)]; exact a2
  rw [st_25 (by rfl) (by rfl) (by rw [b2]; rfl) (by rw [b2]; rfl), b2]
  simp -implicitDefEqProofs only [getE_some]
  have f1 : hp (put (put w2 W.heap.size #[.slice A n c, .slice B m d] 25) (W.heap.size + 1) #[.slice A' n' c', .slice B' m' d'] 25) W.heap.size = some (.cells #[.slice A n c, .slice B m d] 25) := by rw [put_other (by omega)]; exact put_same (blk_lt a1) _ _
  have f2 : hp (put (put w2 W.heap.size #[.slice A n c, .slice B m d] 25) (W.heap.size + 1) #[.slice A' n' c', .slice B' m' d'] 25) (W.heap.size + 1) = some (.cells #[.slice A' n' c', .slice B' m' d'] 25) := put_same (blk_lt b2) _ _
  exact next _ _ _ ((hc.put (.inr (Nat.le_refl _)) _ _).put (.inr (by omega)) _ _) (fun w'' h => ldv_whole (c := #[.slice A n c, .slice B m d]) ag_25 sz_25 (h.at f1 (by simp))) (fun w'' h => ldv_whole (c := #[.slice A' n' c', .slice B' m' d']) ag_25 sz_25 (h.at f2 (by simp)))
end Go.Proofs.Ytgamnncehjcdiaa
