/- Parts of the proof of SearchRaw, one behind the other. Conditions: none. -/
import Derived.Test.YteapggpkgfiacaaGreatZSearchRaw12
set_option linter.unusedSimpArgs false
set_option linter.unusedVariables false
set_option maxRecDepth 100000
namespace Go.Proofs.YteapggpkgfiacaaGreat
open Go Ev Go.RowKit

def leftN (l : List SpV) (put : List Int) : Nat := (List.range l.length).countP fun i : Nat => !put.contains (i : Int)
theorem countP_lt {p q : Nat → Bool} : ∀ {L : List Nat}, (∀ x ∈ L, q x = true → p x = true) → (∃ x ∈ L, p x = true ∧ q x = false) → L.countP q < L.countP p
  | [], _, ⟨x, hx, _⟩ => by cases hx
  | y :: L, h, hex => by
    rw [List.countP_cons, List.countP_cons]
    have hle : L.countP q ≤ L.countP p := List.countP_mono_left fun x hx => h x (List.mem_cons_of_mem _ hx)
    by_cases hy : p y = true ∧ q y = false
    · rw [if_pos hy.1, hy.2]; simp only [Bool.false_eq_true, if_false]; omega
    · obtain ⟨x, hx, h1, h2⟩ := hex
      rcases List.mem_cons.1 hx with rfl | hx
      · exact absurd ⟨h1, h2⟩ hy
      · have := countP_lt (L := L) (fun x hx => h x (List.mem_cons_of_mem _ hx)) ⟨x, hx, h1, h2⟩
        have := h y (by simp)
        by_cases hq : q y = true
        · rw [if_pos hq, if_pos (this hq)]; omega
        · rw [if_neg hq]; split <;> omega
theorem leftN_lt {l : List SpV} {put : List Int} {i : Nat} (hi : i < l.length) (hn : nextV l put i = true) : leftN l (put ++ [(i : Int)]) < leftN l put := by
  have hc : put.contains (i : Int) = false := by
    unfold nextV at hn
    simp only [Bool.and_eq_true, Bool.not_eq_true'] at hn
    exact hn.2
  refine countP_lt (p := fun x : Nat => !put.contains (x : Int)) (q := fun x : Nat => !(put ++ [(i : Int)]).contains (x : Int)) (fun x _ hx => ?_) ⟨i, List.mem_range.2 hi, ?_, ?_⟩
  · cases h : put.contains (x : Int) with
    | false => rfl
    | true =>
      have : (put ++ [(i : Int)]).contains (x : Int) = true := List.contains_iff_mem.2 (List.mem_append_left _ (List.contains_iff_mem.1 h))
      simp only [this] at hx
      cases hx
  · simp only [hc]; rfl
  · have : (put ++ [(i : Int)]).contains (i : Int) = true := List.contains_iff_mem.2 (by simp)
    simp only [this]; rfl
theorem goV_t {rec : MdV → List Int → Int → SkO} {l : List SpV} {top : Int} {m : MdV} {put : List Int} (hr : ∀ m p t, t ≤ (rec m p t).2.2.1) : ∀ {is : List Nat} {t : Int}, t ≤ (goV rec l top m put is t).2.2.1
  | [], t => Int.le_refl _
  | i :: is, t => by
    unfold goV
    split
    · exact goV_t hr
    · cases hl : l[i]? with
      | none => exact Int.le_refl _
      | some s =>
        simp only
        cases hre : resV l m s with
        | none => exact goV_t hr
        | some r =>
          simp only
          split
          · exact Int.le_refl _
          · split
            · exact Int.le_trans (by omega) (goV_t (t := t + 1) hr)
            · have h1 := hr (doV m s.wk s.op (handV l s) r).2 (put ++ [(i : Int)]) (t + 1)
              generalize rec (doV m s.wk s.op (handV l s) r).2 (put ++ [(i : Int)]) (t + 1) = R at *
              obtain ⟨b, p', t', mn⟩ := R
              simp only at h1
              cases b with
              | true => simp only; omega
              | false =>
                cases mn with
                | true => simp only; omega
                | false => exact Int.le_trans (by omega) (goV_t (t := t') hr)
theorem findV_t {l : List SpV} {top : Int} : ∀ {f : Nat} {m : MdV} {p : List Int} {t : Int}, t ≤ (findV l top f m p t).2.2.1
  | 0, m, p, t => Int.le_refl _
  | f + 1, m, p, t => by
    unfold findV
    split
    · exact Int.le_refl _
    · exact goV_t fun m p t => findV_t
def Gs (sk : Nat) (pv : Value) : Fp := fun k => k = sk ∨ pv.ownBlock = some k
structure SkI (W w : World) (sk : Nat) (A Ah : Option Addr) (cs ch : Nat) (l : List SpV) (pv : Value) (put : List Int) (t top : Int) (mn : Bool) : Prop where
  chg : ChgP (· = sk) W w
  h : hp w sk = some (.cells (skA A Ah l.length cs ch pv t top mn) 46)
  own : w.ownsRow W.heap.size 3 1 pv put.length (ints put)
structure SkB (W : World) (sk : Nat) (A Ah : Option Addr) (l : List SpV) : Prop where
  lt : sk < W.heap.size
  rs : RdV W A (l.flatMap spC)
  ns : ∀ p, A = some p → l ≠ [] → p.block ≠ sk
  rh : RdV W Ah ((l.map (handV l)).flatMap hnC)
  nh : ∀ p, Ah = some p → l ≠ [] → p.block ≠ sk
section
variable {W w w' : World} {sk : Nat} {A Ah : Option Addr} {cs ch : Nat} {l : List SpV} {pv pv' : Value} {put : List Int} {t top : Int} {mn : Bool}
theorem SkI.keep (S : SkI W w sk A Ah cs ch l pv put t top mn) (hc : Chg [] w w') : SkI W w' sk A Ah cs ch l pv put t top mn :=
  ⟨⟨hc.os.trans S.chg.os, hc.tape.trans S.chg.tape, hc.output.trans S.chg.output, Nat.le_trans S.chg.size hc.size, fun k hk hn => (hc.block k (Nat.lt_of_lt_of_le hk S.chg.size) (by simp)).trans (S.chg.block k hk hn)⟩, hc.at S.h (by simp), ownsRow_chg S.own hc fun k hk => by simp⟩
theorem SkI.rs (S : SkI W w sk A Ah cs ch l pv put t top mn) (B : SkB W sk A Ah l) : RdV w A (l.flatMap spC) := rd_chgP B.rs S.chg fun p hp hn => B.ns p hp fun h => hn (by rw [h]; rfl)
theorem SkI.rh (S : SkI W w sk A Ah cs ch l pv put t top mn) (B : SkB W sk A Ah l) : RdV w Ah ((l.map (handV l)).flatMap hnC) := rd_chgP B.rh S.chg fun p hp hn => B.nh p hp fun h => hn (by rw [h]; rfl)
theorem SkI.li (S : SkI W w sk A Ah cs ch l pv put t top mn) : SlI w pv put := SlI.of_own S.own
theorem SkI.set (S : SkI W w sk A Ah cs ch l pv put t top mn) {put' : List Int} {t' : Int} {mn' : Bool} (hne : ∀ k, pv.ownBlock = some k → k ≠ sk) (ho : w.ownsRow W.heap.size 3 1 pv' put'.length (ints put')) (hne' : ∀ k, pv'.ownBlock = some k → k ≠ sk) :
    SkI W (Ev.put w sk (skA A Ah l.length cs ch pv' t' top mn') 46) sk A Ah cs ch l pv' put' t' top mn' := by
  have hcp := ChgP.put w sk (skA A Ah l.length cs ch pv' t' top mn') 46
  refine ⟨⟨S.chg.os, S.chg.tape, S.chg.output, Nat.le_trans S.chg.size hcp.size, fun k hk hn => (hcp.block k (Nat.lt_of_lt_of_le hk S.chg.size) hn).trans (S.chg.block k hk hn)⟩, ar (av S.h) _ _, ?_⟩
  exact hcp.row ho hne'
theorem hn_at {L : List HnV} {c i : Nat} (h : RdV w A (L.flatMap hnC)) (hi : i < L.length) : ∃ b o, pureRun Tryz.prog (Instr.indexAt 44 (.slice A L.length c) (.int .i64 i)) = some (.pointer (some ⟨b, o, none⟩)) ∧ ldv Tryz.prog 38 (.pointer (some ⟨b, o, none⟩)) w = some (.agg (hnC L[i]).toArray) := by
  obtain ⟨b, o, h1, h2, h3, _⟩ := h.elem (P := Tryz.prog) (c := c) (n := L.length) (i := (i : Int)) (j := .i64) Tryz.underlying44 sz_38 (by omega) (by rw [flat_len hnC_len]; exact Nat.le_refl _) (by omega) (by omega)
  rw [Int.toNat_natCast, flat_at hnC_len L i hi] at h3
  exact ⟨b, o, h1, by rw [ld_38, h3]; rfl⟩
end
end Go.Proofs.YteapggpkgfiacaaGreat

namespace Go.Proofs.YteapggpkgfiacaaGreat
open Go Ev Go.RowKit

theorem setWord_cO (m : MdV) (h : HnV) (n y : Int) : (setWordV m h n y).c = m.c := by
  unfold setWordV
  repeat' split
  all_goals rfl
theorem does_cO (m : MdV) (w : Int) (o : OpV) (h : HnV) : (doesV m w o h).c = m.c := by
  unfold doesV
  repeat' split
  all_goals first | rfl | exact setWord_cO _ _ _ _
theorem creates_cO (m : MdV) (x : Int) (r : RsV) : (createsV m x r).2.c = m.c := by
  unfold createsV
  repeat' split
  all_goals rfl
theorem gives_cO (m : MdV) (x : Int) (h : HnV) (r : RsV) : (givesV m x h r).2.c = m.c := by
  unfold givesV
  split
  · rfl
  split
  · rfl
  · dsimp only
    split
    · rfl
    split
    · rfl
    split
    · rfl
    · rfl
theorem do_cO (m : MdV) (w : Int) (o : OpV) (h : HnV) (r : RsV) : (doV m w o h r).2.c = m.c := by
  unfold doV
  split
  · rfl
  split
  · split
    · dsimp only
      split
      · exact does_cO _ _ _ _
      · rfl
    · rfl
  split
  · exact creates_cO _ _ _
  · exact gives_cO _ _ _ _
structure StO (m : MdV) (c : CfV) (K : Nat) : Prop where
  wf : Wf m K
  wn : Wn m K
  mc : m.c = c
theorem StO.doV {m : MdV} {c : CfV} {K : Nat} (s : StO m c K) (hK : K ≤ 1000) (w : Int) (o : OpV) (h : HnV) (r : RsV) : StO (doV m w o h r).2 c (K + 1) := ⟨s.wf.doV w o h r, s.wn.doV (by omega) w o h r, (do_cO m w o h r).trans s.mc⟩
theorem StO.hands {m : MdV} {c : CfV} {K : Nat} (s : StO m c K) (hc : mayC c = true) : m.hands.length ≤ 1000000 := by
  have h1 := s.wn.cw
  rw [s.mc] at h1
  simp only [mayC, Bool.and_eq_true, decide_eq_true_eq] at hc
  omega
section
variable {W : World} {sk : Nat} {A Ah : Option Addr} {cs ch : Nat} {l : List SpV} {top : Int}
theorem SkI.nsk {w : World} {pv : Value} {put : List Int} {t : Int} {mn : Bool} (S : SkI W w sk A Ah cs ch l pv put t top mn) (B : SkB W sk A Ah l) : ∀ k, pv.ownBlock = some k → k ≠ sk := fun k hk => by
  have := own_ge S.own hk
  have := B.lt
  omega
theorem upd_md {w w' : World} {g : Nat} {m : MdV} {F G G' : Fp} (I : MdI w g m F) (hd : FDis F G) (u : UpdP G G' w w') : MdI w' g m F ∧ FDis F G' :=
  ⟨isAt.frame I (good_md _) u.chg hd, fun k h1 h2 => by
    rcases u.sub k h2 with h3 | h3
    · exact hd k h1 h3
    · have := isAt.lt I (good_md _) k h1; omega⟩
def SkP (W : World) (sk : Nat) (A Ah : Option Addr) (cs ch : Nat) (l : List SpV) (top : Int) (w0 : World) (pv0 : Value) (r : SkO) (v : Value) (w' : World) : Prop :=
  ∃ pv', v = .bool r.1 ∧ SkI W w' sk A Ah cs ch l pv' r.2.1 r.2.2.1 top r.2.2.2 ∧ UpdP (Gs sk pv0) (Gs sk pv') w0 w'
def FindC (W : World) (sk : Nat) (A Ah : Option Addr) (cs ch : Nat) (l : List SpV) (top : Int) (c : CfV) (f : Nat) : Prop := ∀ (m : MdV) (g : Nat) (F : Fp) (K : Nat) (put : List Int) (t : Int) (pv : Value) (w : World),
  SkI W w sk A Ah cs ch l pv put t top false → MdI w g m F → FDis F (Gs sk pv) → StO m c K → K + f ≤ 900 → put.length + f ≤ 900 → 0 ≤ t → leftN l put < f →
  CallR Tryz.prog 14 [.pointer (some ⟨sk, 0, none⟩), .pointer (some ⟨g, 0, none⟩)] w (SkP W sk A Ah cs ch l top w pv (findV l top f m put t))
theorem own_lt {w : World} {base : Nat} {e : TypeId} {z : Nat} {v : Value} {n : Nat} {xs : List Value} (h : w.ownsRow base e z v n xs) {k : Nat} (hk : v.ownBlock = some k) : k < w.heap.size := by
  rcases h.2 with ⟨rfl, _⟩ | ⟨g, cap, cur, rfl, hbg, hg, _⟩
  · cases hk
  · cases hk; exact av (o := _) hg
theorem UpdP.setSk {w : World} {pv : Value} (c : Array Value) (e : TypeId) : UpdP (Gs sk pv) (Gs sk pv) w (Ev.put w sk c e) :=
  ⟨(ChgP.put w sk c e).mono fun k hk => .inl hk, fun k hk => .inl hk⟩
theorem ld_rs {w : World} {r : RsV} {g : Nat} {e : TypeId} (hb : hp w g = some (.cells (rsC r).toArray e)) : ldv Tryz.prog 40 (.pointer (some ⟨g, 0, none⟩)) w = some (.agg (rsC r).toArray) := aJ (t := 40) (c := (rsC r).toArray) ag_40 (show (Tryz.prog.info? 40).map (·.size) = some (rsC r).toArray.size from sz_40) hb
theorem own_shrink {w : World} {base n : Nat} {e : TypeId} {v : Value} {xs : List Int} {x : Int} (h : w.ownsRow base e 1 v (n + 1) (ints (xs ++ [x]))) (hn : n = xs.length) :
    ∃ g c, v = .slice (some ⟨g, 0, none⟩) (n + 1) c ∧ n ≤ c ∧ w.ownsRow base e 1 (.slice (some ⟨g, 0, none⟩) n c) n (ints xs) := by
  rcases h.2 with ⟨rfl, h0⟩ | ⟨g, cap, cur, rfl, hbg, hg, hnc, hcm, hcs, htake⟩
  · omega
  · refine ⟨g, cap, rfl, by omega, ⟨by simp [ints, hn], .inr ⟨g, cap, cur, rfl, hbg, hg, by omega, hcm, hcs, ?_⟩⟩⟩
    have := congrArg (List.take n) htake
    rw [List.take_take] at this
    rw [Nat.mul_one, Nat.min_eq_left (by omega)] at this
    rw [Nat.mul_one, this, hn]
    simp [ints]
def zRsA : Array Value := #[.int .i64 0, .int .i64 0, .int .i64 0, .int .i64 0, .int .i64 0, .int .i64 0, .int .i64 0, .int .u64 0]
theorem skA_5 {n : Nat} {pv : Value} {t : Int} {mn x : Bool} : (skA A Ah n cs ch pv t top mn).setIfInBounds (0 + 5) (.bool x) = skA A Ah n cs ch pv t top x := rfl
theorem skA_3 {n : Nat} {pv : Value} {t x : Int} {mn : Bool} : (skA A Ah n cs ch pv t top mn).setIfInBounds (0 + 3) (.int .i64 x) = skA A Ah n cs ch pv x top mn := rfl
theorem skA_2 {n : Nat} {pv x : Value} {t : Int} {mn : Bool} : (skA A Ah n cs ch pv t top mn).setIfInBounds (0 + 2) x = skA A Ah n cs ch x t top mn := rfl
set_option maxHeartbeats 4000000 in
theorem l_sgo (B : SkB W sk A Ah l) (hl : l.length ≤ 12) (htop : top ≤ 9223372036854775807) {c : CfV} (hc : mayC c = true) {f : Nat} (rec : FindC W sk A Ah cs ch l top c f) {m : MdV} {g : Nat} {F : Fp} {K : Nat} {put : List Int} (Sm : StO m c K) (hK : K + f ≤ 899) (hp9 : put.length + f ≤ 899) (hleft : leftN l put ≤ f) {w0 : World} {pv0 : Value} :
    ∀ (d i : Nat) (t : Int) (pv : Value) (w : World), SkI W w sk A Ah cs ch l pv put t top false → MdI w g m F → FDis F (Gs sk pv) → UpdP (Gs sk pv0) (Gs sk pv) w0 w → 0 ≤ t → i + d = l.length →
    P14_0 (.pointer (some ⟨sk, 0, none⟩)) (.pointer (some ⟨g, 0, none⟩)) (.slice A l.length cs) (.int .i64 l.length) (.int .i64 i) w (SkP W sk A Ah cs ch l top w0 pv0 (goV (findV l top f) l top m put (List.range' i d) t)) := by
  intro d
  induction d with
  | zero =>
    intro i t pv w S I hF hU ht hi
    apply L14_0_ok
    have : ¬ ((i : Int) < l.length) := by omega
    simp -implicitDefEqProofs only [L14_0, zS, this]
    exact ⟨pv, rfl, S, hU⟩
  | succ d ih =>
    intro i t pv w S I hF hU ht hi
    apply L14_0_ok
    have hlt : (i : Int) < l.length := by omega
    have hil : i < l.length := by omega
    obtain ⟨b, o, q1, q2⟩ := sp_at' (c := cs) (j := .i64) (i := i) (S.rs B) hil
    simp -implicitDefEqProofs only [L14_0, zS, hlt, q1, q2.ld, al_42]
    rw [st_42 (by rfl) (by rfl) (by rw [aa, if_pos rfl]; rfl) (by rw [aa, if_pos rfl]; rfl), aa, if_pos rfl, ay]
    generalize hw1 : Ev.put (w.alloc _) w.heap.size (spA l[i]) 42 = w1
    have c1 : Chg [] w w1 := by rw [← hw1]; exact ((Chg.refl _ _).alloc _).put (.inr (Nat.le_refl _)) _ _
    have b6 : hp w1 w.heap.size = some (.cells (spA l[i]) 42) := by rw [← hw1, aR, if_pos rfl, if_pos (by simp)]
    clear hw1
    have skl : sk < w.heap.size := av S.h
    have pvl : ∀ k, pv.ownBlock = some k → k < w.heap.size := fun k hk => own_lt S.own hk
    generalize hg6 : w.heap.size = g6 at *
    have next : ∀ (t' : Int) (pv' : Value) (w' : World), SkI W w' sk A Ah cs ch l pv' put t' top false → MdI w' g m F → FDis F (Gs sk pv') → UpdP (Gs sk pv0) (Gs sk pv') w0 w' → 0 ≤ t' →
        P14_1 (.pointer (some ⟨sk, 0, none⟩)) (.pointer (some ⟨g, 0, none⟩)) (.slice A l.length cs) (.int .i64 l.length) (.int .i64 i) w' (SkP W sk A Ah cs ch l top w0 pv0 (goV (findV l top f) l top m put (List.range' (i + 1) d) t')) := by
      intro t' pv' w' S' I' hF' hU' ht'
      apply L14_1_ok
      simp -implicitDefEqProofs only [L14_1, am, aq (n := (i : Int) + 1) (by omega) (by omega), zS]
      exact ih (i + 1) t' pv' w' S' I' hF' hU' ht' (by omega)
    have S1 := S.keep c1
    have I1 := I.keep c1
    have U1 := hU.trans (UpdP.of0 c1)
    refine (c_sMay (by omega) (S1.rs B) (by omega) S1.h S1.li hil).mono ?_
    rintro _ w2 ⟨rfl, c2⟩
    have S2 := S1.keep c2
    have I2 := I1.keep c2
    have U2 := U1.trans (UpdP.of0 c2)
    have b62 := c2.at b6 (by simp)
    have hrange : List.range' i (d + 1) = i :: List.range' (i + 1) d := rfl
    rw [hrange]
    cases hn : nextV l put i with
    | false =>
      simp -implicitDefEqProofs only [zS]
      have : goV (findV l top f) l top m put (i :: List.range' (i + 1) d) t = goV (findV l top f) l top m put (List.range' (i + 1) d) t := by
        rw [goV, if_pos hn]
      rw [this]
      exact next t pv w2 S2 I2 hF U2 ht
    | true =>
    have hgo : goV (findV l top f) l top m put (i :: List.range' (i + 1) d) t = (match resV l m l[i] with
      | none => goV (findV l top f) l top m put (List.range' (i + 1) d) t
      | some r =>
        if top ≤ t then (false, put, t, true) else
        if (doV m l[i].wk l[i].op (handV l l[i]) r).1 = false then goV (findV l top f) l top m put (List.range' (i + 1) d) (t + 1) else
        match findV l top f (doV m l[i].wk l[i].op (handV l l[i]) r).2 (put ++ [(i : Int)]) (t + 1) with
        | (true, p', t', mn) => (true, p', t', mn)
        | (false, p', t', true) => (false, p', t', true)
        | (false, p', t', false) => goV (findV l top f) l top m put (List.range' (i + 1) d) t') := by
      rw [goV, if_neg (by rw [hn]; simp), List.getElem?_eq_getElem hil]
      all_goals rfl
    rw [hgo]
    clear hgo
    generalize hs : l[i] = s at *
    have hhl : i < (l.map (handV l)).length := by rw [List.length_map]; exact hil
    have hhi : (l.map (handV l))[i] = handV l s := by rw [List.getElem_map, hs]
    simp -implicitDefEqProofs only [zS, fa_42_7, At.ldre b62, al_40]
    rw [st_res (c := _) (e := 40) (by rw [aa, if_pos rfl]) rfl]
    generalize hw3 : Ev.put (w2.alloc _) w2.heap.size (rsC s.re).toArray 40 = w3
    have c3 : Chg [] w2 w3 := by rw [← hw3]; exact ((Chg.refl _ _).alloc _).put (.inr (Nat.le_refl _)) _ _
    have b7 : hp w3 w2.heap.size = some (.cells (rsC s.re).toArray 40) := by rw [← hw3, aR, if_pos rfl, if_pos (by simp)]
    clear hw3
    have hg67 : g6 < w2.heap.size := av b62
    generalize hg7 : w2.heap.size = g7 at *
    have b63 := c3.at b62 (by simp)
    have S3 := S2.keep c3
    have I3 := I2.keep c3
    have U3 := U2.trans (UpdP.of0 c3)
    have tryit : ∀ (r : RsV) (w4 : World), Chg [] w2 w4 → hp w4 g7 = some (.cells (rsC r).toArray 40) →
        P14_3 (.pointer (some ⟨sk, 0, none⟩)) (.pointer (some ⟨g, 0, none⟩)) (.int .i64 i) (.pointer (some ⟨g6, 0, none⟩)) (.pointer (some ⟨g7, 0, none⟩)) (.slice A l.length cs) (.int .i64 l.length) (.int .i64 i) w4 (SkP W sk A Ah cs ch l top w0 pv0 (
        if top ≤ t then (false, put, t, true) else
        if (doV m s.wk s.op (handV l s) r).1 = false then goV (findV l top f) l top m put (List.range' (i + 1) d) (t + 1) else
        match findV l top f (doV m s.wk s.op (handV l s) r).2 (put ++ [(i : Int)]) (t + 1) with
        | (true, p', t', mn) => (true, p', t', mn)
        | (false, p', t', true) => (false, p', t', true)
        | (false, p', t', false) => goV (findV l top f) l top m put (List.range' (i + 1) d) t')) := by
      intro r w4 c24 b74
      apply L14_3_ok
      have S4 := (S2.keep c24).keep (Chg.refl [] w4).drew
      have I4 := (I2.keep c24).keep (Chg.refl [] w4).drew
      have U4 := U2.trans (UpdP.of0 (c24.trans (Chg.refl [] w4).drew))
      have b64 : hp w4.drew g6 = some (.cells (spA s) 42) := c24.at b62 (by simp)
      have b74 : hp w4.drew g7 = some (.cells (rsC r).toArray 40) := b74
      have h4 : hp w4 sk = some (.cells (skA A Ah l.length cs ch pv t top false) 46) := S4.h
      have lt4 : sk < w4.drew.heap.size := av S4.h
      have ok : ∀ k, k < 6 → okC (hp w4.drew sk) (0 + k + 1) = true := fun k hk => by rw [S4.h, okC_some]; exact decide_eq_true (by show 0 + k + 1 ≤ 6; omega)
      simp -implicitDefEqProofs only [L14_3, ah, zS, fa_46_3, fa_46_4, fa_46_5, ac, aT, sk3 h4, sk4 h4, aD]
      by_cases hto : top ≤ t
      · simp -implicitDefEqProofs only [zS, hto]
        rw [aK sz_4 rfl rfl (ok 5 (by omega)), S4.h]
        simp -implicitDefEqProofs only [bm, ay, skA_5, if_true]
        exact ⟨pv, rfl, S4.set (S4.nsk B) S4.own (S4.nsk B), U4.trans (UpdP.setSk _ _)⟩
      simp -implicitDefEqProofs only [zS, hto, am, aq (n := t + 1) (by omega) (by omega)]
      rw [aK sz_3 rfl rfl (ok 3 (by omega)), S4.h]
      simp -implicitDefEqProofs only [bm, ay, skA_3, if_false]
      have S5 := S4.set (put' := put) (t' := t + 1) (mn' := false) (S4.nsk B) S4.own (S4.nsk B)
      have u5 := UpdP.setSk (w := w4.drew) (sk := sk) (pv := pv) (skA A Ah l.length cs ch pv (t + 1) top false) 46
      obtain ⟨I5, _⟩ := upd_md I4 hF u5
      have U5 := U4.trans u5
      have nG : ∀ k, g6 ≤ k → ¬ Gs sk pv k := fun k hk h => by
        rcases h with h | h
        · omega
        · have := pvl k h; omega
      have b65 := u5.chg.at b64 (nG g6 (Nat.le_refl _))
      have b75 := u5.chg.at b74 (nG g7 (by omega))
      generalize Ev.put w4.drew sk (skA A Ah l.length cs ch pv (t + 1) top false) 46 = w5 at *
      refine (c_mCopy I5 Sm.wf (by omega) (Sm.hands hc)).mono ?_
      rintro _ w6 ⟨g3, F3, rfl, I6, hF3, c6⟩
      have c6d := c6.trans (Chg.refl [] w6).drew
      have S6 := S5.keep c6d
      have b66 := c6d.at b65 (by simp)
      have b76 := c6d.at b75 (by simp)
      obtain ⟨bh, oh, p1, p2⟩ := hn_at (c := ch) (S6.rh B) hhl
      rw [List.length_map] at p1
      rw [hhi] at p2
      have h6 : hp w6 sk = some (.cells (skA A Ah l.length cs ch pv (t + 1) top false) 46) := S6.h
      have f60 : ldC (hp w6 g6) (0 + 0) = some (.int .i64 s.wk) := sp_c (w := w6) b66 0
      simp -implicitDefEqProofs only [ah, zS, fa_46_1, fa_42_0, fa_42_2, ac, ld_44, aT, f60, (at_blk b66).ldop, sk1 h6, p1, p2, ld_rs b76]
      refine (c_mDo (I6.keep (Chg.refl [] w6).drew) Sm.wf (by omega) _ _ _ _).mono ?_
      rintro _ w7 ⟨rfl, F4, I7, u7⟩
      have c57 : Chg [] w5 w7 := chg_updP c6d u7 hF3
      have hF4 : ∀ k, F4 k → w5.heap.size ≤ k := updP_new c6d u7 hF3
      have S7 := S5.keep c57
      have I7m := I5.keep c57
      have U7 := U5.trans (UpdP.of0 c57)
      cases hdo : (doV m s.wk s.op (handV l s) r).1 with
      | false =>
        simp -implicitDefEqProofs only [zS, if_true]
        exact next (t + 1) pv w7 S7 I7m hF U7 (by omega)
      | true =>
      have h7 := S7.h
      simp -implicitDefEqProofs only [zS, ah, fa_46_2, ld_26, sk2 h7, if_false, Bool.true_eq_false]
      refine ps_26 (by simp) S7.own (by omega) S7.chg.size fun pv8 w8 o8 g8 n8 => ?_
      have c8 : Chg (blk pv) w7 w8 := (Chg.refl _ _).grown g8 fun k hk => .inl (by simpa using hk)
      have h8 : hp w8 sk = some (.cells (skA A Ah l.length cs ch pv (t + 1) top false) 46) := c8.at h7 fun hm => (S7.nsk B) sk (by simpa using hm) rfl
      have u8 : UpdP (Gs sk pv) (Gs sk pv8) w7 w8 := ⟨(ChgP.of c8).mono fun k hk => .inr (by simpa using hk), fun k hk => by
        rcases hk with hk | hk
        · exact .inl (.inl hk)
        · rcases n8 k hk with h | h
          · exact .inl (.inr h)
          · exact .inr h⟩
      have nsk8 : ∀ k, pv8.ownBlock = some k → k ≠ sk := fun k hk => by have := own_ge o8 hk; have := B.lt; omega
      have ok8 : okC (hp w8 sk) (0 + 2 + 1) = true := by rw [h8, okC_some]; exact decide_eq_true (by show 0 + 2 + 1 ≤ 6; omega)
      have hpv8 : pv8.cells = #[pv8] ∧ pv8.oneCell' = true := by
        obtain ⟨A8, c8', rfl, _⟩ := ba o8
        exact ⟨rfl, rfl⟩
      rw [aK sz_26 hpv8.1 hpv8.2 ok8, h8]
      simp -implicitDefEqProofs only [bm, ay, skA_2]
      have S8 : SkI W w8 sk A Ah cs ch l pv put (t + 1) top false → True := fun _ => trivial
      have cp9 := ChgP.put w8 sk (skA A Ah l.length cs ch pv8 (t + 1) top false) 46
      have u9 : UpdP (Gs sk pv8) (Gs sk pv8) w8 (Ev.put w8 sk (skA A Ah l.length cs ch pv8 (t + 1) top false) 46) := UpdP.setSk _ _
      have S9 : SkI W (Ev.put w8 sk (skA A Ah l.length cs ch pv8 (t + 1) top false) 46) sk A Ah cs ch l pv8 (put ++ [(i : Int)]) (t + 1) top false := by
        refine ⟨⟨cp9.os.trans (c8.os.trans S7.chg.os), cp9.tape.trans (c8.tape.trans S7.chg.tape), cp9.output.trans (c8.output.trans S7.chg.output), Nat.le_trans S7.chg.size (Nat.le_trans c8.size cp9.size), fun k hk hn => ?_⟩, ar (av h8) _ _, ?_⟩
        · rw [cp9.block k (Nat.lt_of_lt_of_le hk (Nat.le_trans S7.chg.size c8.size)) hn, c8.block k (Nat.lt_of_lt_of_le hk S7.chg.size) fun hm => by have := own_ge S7.own (k := k) (by simpa using hm); omega]
          exact S7.chg.block k hk hn
        · refine cp9.row ?_ nsk8
          rw [List.length_append]
          simpa [ints] using o8
      generalize Ev.put w8 sk (skA A Ah l.length cs ch pv8 (t + 1) top false) 46 = w9 at *
      have u79 := u8.trans u9
      obtain ⟨I9m, hF9⟩ := upd_md I7m hF u79
      have dis4 : FDis F4 (Gs sk pv) := fun k h1 h2 => by
        have := hF4 k h1
        rcases h2 with h2 | h2
        · have := av S5.h; omega
        · have := own_lt S5.own h2; omega
      obtain ⟨I9n, hF9n⟩ := upd_md I7 dis4 u79
      have hlf := leftN_lt hil hn
      refine (rec _ g3 F4 (K + 1) (put ++ [(i : Int)]) (t + 1) pv8 w9 S9 I9n hF9n (Sm.doV (by omega) _ _ _ _) (by omega) (by simp; omega) (by omega) (by omega)).mono ?_
      rintro v w10 ⟨pv10, rfl, S10, u10⟩
      have ht' := findV_t (l := l) (top := top) (f := f) (m := (doV m s.wk s.op (handV l s) r).2) (p := put ++ [(i : Int)]) (t := t + 1)
      have hput := findV_put (l := l) (top := top) (f := f) (m := (doV m s.wk s.op (handV l s) r).2) (put := put ++ [(i : Int)]) (t := t + 1)
      have U10 := (U7.trans u79).trans u10
      generalize findV l top f (doV m s.wk s.op (handV l s) r).2 (put ++ [(i : Int)]) (t + 1) = R at *
      obtain ⟨bb, p', t', mn'⟩ := R
      simp only at S10 ht' hput
      cases bb with
      | true =>
        simp -implicitDefEqProofs only [zS]
        exact ⟨pv10, rfl, S10, U10⟩
      | false =>
      have h10 := S10.h
      simp -implicitDefEqProofs only [zS, ah, fa_46_5, ld_4, sk5 h10]
      cases mn' with
      | true =>
        simp -implicitDefEqProofs only [zS]
        exact ⟨pv10, rfl, S10, U10⟩
      | false =>
      obtain rfl := hput rfl rfl
      have o10 := S10.own
      rw [List.length_append] at o10
      obtain ⟨g10, c10, rfl, hle10, o11⟩ := own_shrink (n := put.length) o10 rfl
      have hd10 : Chg [] w10 w10.drew := (Chg.refl _ _).drew
      have S10d := S10.keep hd10
      have h10d : hp w10.drew sk = some (.cells (skA A Ah l.length cs ch (.slice (some ⟨g10, 0, none⟩) (put.length + 1) c10) t' top false) 46) := h10
      have e1 : (((put.length + 1 : Nat) : Int) - 1) = ((put.length : Nat) : Int) := by omega
      have okd : okC (hp w10.drew sk) (0 + 2 + 1) = true := by rw [h10d, okC_some]; exact decide_eq_true (by show 0 + 2 + 1 ≤ 6; omega)
      have hsl := pr_slice_h (P := Tryz.prog) (t := 26) (A := some ⟨g10, 0, none⟩) (n := put.length + 1) (c := c10) (k := .i64) (l := ((put.length : Nat) : Int)) Tryz.underlying26 sz_3 (by omega) (by omega)
      rw [Int.toNat_natCast] at hsl
      simp -implicitDefEqProofs only [zS, ah, fa_46_2, ld_26, aT, sk2 h10, len_26, bp_sub, e1, aq (n := ((put.length : Nat) : Int)) (by omega) (by omega), hsl]
      rw [aK sz_26 rfl rfl okd, h10d]
      simp -implicitDefEqProofs only [bm, ay, skA_2]
      have S11 := S10d.set (pv' := .slice (some ⟨g10, 0, none⟩) put.length c10) (put' := put) (t' := t') (mn' := false) (S10d.nsk B) (ownsRow_drew o11) (fun k hk => S10d.nsk B k hk)
      have u11 : UpdP (Gs sk (.slice (some ⟨g10, 0, none⟩) (put.length + 1) c10)) (Gs sk (.slice (some ⟨g10, 0, none⟩) put.length c10)) w10 (Ev.put w10.drew sk (skA A Ah l.length cs ch (.slice (some ⟨g10, 0, none⟩) put.length c10) t' top false) 46) :=
        (UpdP.of0 hd10).trans (UpdP.setSk (pv := .slice (some ⟨g10, 0, none⟩) put.length c10) _ _)
      obtain ⟨I10m, hF10⟩ := upd_md I9m hF9 u10
      obtain ⟨I11m, hF11⟩ := upd_md I10m hF10 u11
      exact next t' _ _ S11 I11m hF11 (U10.trans u11) (by omega)
    have f11 : ldC (hp w3 g6) (0 + 11) = some (.int .i64 s.rs) := sp_c b63 11
    have f9 : ldC (hp w3 g6) (0 + 9) = some (.int .i64 s.pt) := sp_c b63 9
    have f0 : ldC (hp w3 g6) (0 + 0) = some (.int .i64 s.wk) := sp_c b63 0
    by_cases h1 : s.rs < 0
    case neg =>
      have hr : resV l m s = some s.re := by rw [resV, if_neg (fun h => h1 h.1)]
      rw [hr]
      simp -implicitDefEqProofs only [zS, fa_42_6, ac, f11, h1]
      exact tryit s.re w3 c3 b7
    by_cases h2 : s.pt < 0
    case neg =>
      have hr : resV l m s = some s.re := by rw [resV, if_neg (fun h => h2 h.2)]
      rw [hr]
      simp -implicitDefEqProofs only [zS, fa_42_4, fa_42_6, ac, f11, f9, h1, h2]
      exact tryit s.re w3 c3 b7
    have hr : resV l m s = if (mustV m s.wk s.op (handV l s)).2 = true then some (mustV m s.wk s.op (handV l s)).1 else none := by rw [resV, if_pos ⟨h1, h2⟩]
    rw [hr]
    have hlt7 : g7 < w3.heap.size := av b7
    have must : ∀ (w5 : World) (g8 : Nat), Chg [] w3 w5 → hp w5 g8 = some (.cells (rsC (mustV m s.wk s.op (handV l s)).1).toArray 40) → w3.heap.size ≤ g8 →
        P14_2 (.pointer (some ⟨sk, 0, none⟩)) (.pointer (some ⟨g, 0, none⟩)) (.int .i64 i) (.pointer (some ⟨g6, 0, none⟩)) (.pointer (some ⟨g7, 0, none⟩)) (.pointer (some ⟨g8, 0, none⟩)) (.bool (mustV m s.wk s.op (handV l s)).2) (.slice A l.length cs) (.int .i64 l.length) (.int .i64 i) w5 (SkP W sk A Ah cs ch l top w0 pv0 (
        match (if (mustV m s.wk s.op (handV l s)).2 = true then some (mustV m s.wk s.op (handV l s)).1 else none) with
        | none => goV (findV l top f) l top m put (List.range' (i + 1) d) t
        | some r =>
          if top ≤ t then (false, put, t, true) else
          if (doV m s.wk s.op (handV l s) r).1 = false then goV (findV l top f) l top m put (List.range' (i + 1) d) (t + 1) else
          match findV l top f (doV m s.wk s.op (handV l s) r).2 (put ++ [(i : Int)]) (t + 1) with
          | (true, p', t', mn) => (true, p', t', mn)
          | (false, p', t', true) => (false, p', t', true)
          | (false, p', t', false) => goV (findV l top f) l top m put (List.range' (i + 1) d) t')) := by
      intro w5 g8 c5 b8 hg8
      apply L14_2_ok
      cases hm2 : (mustV m s.wk s.op (handV l s)).2 with
      | false =>
        simp -implicitDefEqProofs only [L14_2, zS, if_false, Bool.false_eq_true]
        exact next t pv w5 (S3.keep c5) (I3.keep c5) hF (U3.trans (UpdP.of0 c5)) ht
      | true =>
        have b75 := c5.at b7 (by simp)
        simp -implicitDefEqProofs only [L14_2, zS, ld_rs b8, st_res b75 rfl, if_true]
        refine tryit _ _ ?_ (ar (av b75) _ _)
        exact (c3.trans c5).put (.inr (by omega)) _ _
    obtain ⟨bh, oh, p1, p2⟩ := hn_at (c := ch) (S3.rh B) hhl
    rw [List.length_map] at p1
    rw [hhi] at p2
    have hd : Chg [] w3 w3.drew := (Chg.refl _ _).drew
    have p2d : ldv Tryz.prog 38 (.pointer (some ⟨bh, oh, none⟩)) w3.drew = some (.agg (hnC (handV l s)).toArray) := p2
    have h3 := S3.h
    have opd : ldv Tryz.prog 36 (.pointer (some ⟨g6, 0 + 2, none⟩)) w3.drew = some (.agg (opC s.op).toArray) := (at_blk b63).ldop
    simp -implicitDefEqProofs only [zS, fa_42_0, fa_42_2, fa_42_4, fa_42_6, ac, aT, f11, f9, f0, h1, h2, ah, fa_46_1, ld_44, sk1 h3, p1, p2d, opd, al_40]
    constructor
    · have cA : Chg [] w3 (w3.drew.alloc (.cells zRsA 40)) := hd.alloc _
      refine (c_mMust (I3.keep cA) Sm.wf (by omega) _ _ _).mono ?_
      rintro _ w5 ⟨rfl, c5⟩
      have b8 : hp w5 w3.drew.heap.size = some (.cells zRsA 40) := c5.at (by rw [aa, if_pos rfl]) (by simp)
      simp -implicitDefEqProofs only [tup0, tup1, ab]
      rw [st_res b8 rfl]
      exact must _ _ ((cA.trans c5).put (.inr (Nat.le_refl _)) _ _) (ar (av b8) _ _) (Nat.le_refl _)
    · refine (c_mMust (I3.keep hd) Sm.wf (by omega) _ _ _).mono ?_
      rintro _ w5 ⟨rfl, c5⟩
      simp -implicitDefEqProofs only [tup0, tup1, ab]
      have cB := hd.trans c5
      have b8 : hp (w5.alloc (.cells zRsA 40)) w5.heap.size = some (.cells zRsA 40) := by rw [aa, if_pos rfl]
      rw [show (#[.int .i64 0, .int .i64 0, .int .i64 0, .int .i64 0, .int .i64 0, .int .i64 0, .int .i64 0, .int .u64 0] : Array Value) = zRsA from rfl, st_res b8 rfl]
      exact must _ _ ((cB.alloc _).put (.inr cB.size) _ _) (ar (av b8) _ _) cB.size
theorem c_sfind (B : SkB W sk A Ah l) (hl : l.length ≤ 12) (htop : top ≤ 9223372036854775807) {c : CfV} (hc : mayC c = true) : ∀ f : Nat, f ≤ 800 → FindC W sk A Ah cs ch l top c f
  | 0, _, m, g, F, K, put, t, pv, w, _, _, _, _, _, _, _, hlt => absurd hlt (by omega)
  | f + 1, hf, m, g, F, K, put, t, pv, w, S, I, hF, Sm, hK, hp9, ht, hlt => by
    apply F14_ok
    simp -implicitDefEqProofs only [F14]
    refine (c_sOver (by omega) (S.rs B) (by omega) S.h S.li).mono ?_
    rintro _ w1 ⟨rfl, c1⟩
    have S1 := S.keep c1
    have h1 := S1.h
    unfold findV
    cases ho : overV l put with
    | true =>
      simp -implicitDefEqProofs only [zS, if_true]
      exact ⟨pv, rfl, S1, UpdP.of0 c1⟩
    | false =>
      simp -implicitDefEqProofs only [zS, ah, fa_46_0, ld_24, sk0 h1, len_24, if_false, Bool.false_eq_true]
      rw [List.range_eq_range']
      exact l_sgo B hl htop hc (c_sfind B hl htop hc f (by omega)) Sm (by omega) (by omega) (by omega) l.length 0 t pv w1 S1 (I.keep c1) hF (UpdP.of0 c1) ht (by omega)
end
end Go.Proofs.YteapggpkgfiacaaGreat

namespace Go.Proofs.YteapggpkgfiacaaGreat
open Go Ev Go.RowKit

theorem pr_max2 {P : Program} {ts : Array TypeId} {t : TypeId} {k : IntKind} {a b : Int} : pureRun P (Builtin.max_ ts t #[.int k a, .int k b]) = some (.int k (if b > a then b else a)) := ap fun w => by simp [Builtin.max_, Builtin.max2]
theorem rd_lt {w : World} {A : Option Addr} {cs : List Value} (h : RdV w A cs) (hne : cs ≠ []) {p : Addr} (hp : A = some p) : p.block < w.heap.size := by
  cases cs with
  | nil => exact absurd rfl hne
  | cons u cs =>
    obtain ⟨q, hq, hc⟩ := h 0 u rfl
    rw [hp] at hq; cases hq
    have := cell_lt hc
    simpa [Addr.add] using this
def skH (A : Option Addr) (n cs : Nat) (hv : Value) (top : Int) : Array Value := #[.slice A n cs, hv, .slice none 0 0, .int .i64 0, .int .i64 top, .bool false]
theorem skH_1 {A : Option Addr} {n cs : Nat} {hv x : Value} {top : Int} : (skH A n cs hv top).setIfInBounds (0 + 1) x = skH A n cs x top := rfl
def handsTo (l : List SpV) (i : Nat) : List HnV := (l.take i).map (handV l)
theorem handsTo_succ {l : List SpV} {i : Nat} (hi : i < l.length) : handsTo l (i + 1) = handsTo l i ++ [handV l l[i]] := by
  rw [handsTo, List.take_succ_eq_append_getElem hi, List.map_append]; rfl
section
variable {w : World} {A : Option Addr} {cs : Nat} {l : List SpV}
set_option maxHeartbeats 1000000 in
theorem l_sFind {W0 Wb : World} {sk : Nat} (hl : l.length ≤ 12) (hA : RdV W0 A (l.flatMap spC)) (hm : mayB l = true) {c : CfV} (hc : mayC c = true) {g3 : Nat} {most : Int} (hmost : most ≤ 9223372036854775807) (hsk : sk < Wb.heap.size) (hsk0 : W0.heap.size ≤ sk) (h3 : W0.heap.size ≤ g3) (h3s : g3 < sk) (hWb : W0.heap.size ≤ Wb.heap.size) :
    ∀ (d i : Nat) (hv : Value) (w : World), Chg [] W0 w → hp w sk = some (.cells (skH A l.length cs hv (max most 0)) 46) → hp w g3 = some (.cells (cfC c).toArray 23) → Wb.heap.size ≤ w.heap.size →
    w.ownsRow Wb.heap.size 38 5 hv i ((handsTo l i).flatMap hnC) → i + d = l.length →
    P5_0 (.slice A l.length cs) (.pointer (some ⟨g3, 0, none⟩)) (.pointer (some ⟨sk, 0, none⟩)) (.int .i64 l.length) (.int .i64 i) w fun v w' => ∃ pv, v = .tuple #[pv, .int .i64 (findTop c l most).2] ∧ SlI w' pv (findTop c l most).1 ∧ Chg [] W0 w' := by
  intro d
  induction d with
  | zero =>
    intro i hv w hW h h3' hb ho hi
    apply L5_0_ok
    have : ¬ ((i : Int) < l.length) := by omega
    simp -implicitDefEqProofs only [L5_0, zS, this, ld_cf h3']
    have hi' : i = l.length := by omega
    subst hi'
    refine (c_mLoose c w).mono ?_
    rintro v w1 ⟨c1, hv1⟩
    rcases hv1 with ⟨hm', _⟩ | ⟨_, g, F, rfl, I, hF⟩
    · rw [hc] at hm'; cases hm'
    simp -implicitDefEqProofs only [tup0, tup1, zS]
    have h1 := c1.at h (by simp)
    have ho1 := ownsRow_chg ho c1 fun k hk => by simp
    have ht : handsTo l l.length = l.map (handV l) := by rw [handsTo, List.take_length]
    rw [ht] at ho1
    obtain ⟨Ah, ch, rfl, hRh, hBh, _⟩ := ba ho1
    have B : SkB w1 sk A Ah l := ⟨av h1, hA.keep (hW.trans c1).below, fun p hp hne hs => by
        have := rd_lt hA (fun h => hne (by
          cases l with
          | nil => rfl
          | cons a l => simp [spC] at h)) hp
        omega, hRh, fun p hp _ hs => by have := (hBh p hp).1; omega⟩
    have S : SkI w1 w1 sk A Ah cs ch l (.slice none 0 0) [] 0 (max most 0) false := ⟨ChgP.refl _ _, h1, World.ownsRow_nil _ _ _ _⟩
    have hlf : leftN l [] < l.length + 1 := by
      have := List.countP_le_length (p := fun i : Nat => !([] : List Int).contains (i : Int)) (l := List.range l.length)
      rw [List.length_range] at this
      unfold leftN; omega
    refine (c_sfind B hl (by omega) hc (l.length + 1) (by omega) (newM c true) g F 0 [] 0 (.slice none 0 0) w1 S I (fun k h1' h2 => by
      have := hF k h1'
      have hs := av h
      rcases h2 with h2 | h2
      · omega
      · cases h2) ⟨wf_new hc true, wn_new hc true, rfl⟩ (by omega) (by simp; omega) (by omega) hlf).mono ?_
    rintro v w2 ⟨pv, rfl, S2, u2⟩
    have hW2 : Chg [] W0 w2 := by
      have h01 := hW.trans c1
      refine ⟨u2.chg.os.trans h01.os, u2.chg.tape.trans h01.tape, u2.chg.output.trans h01.output, Nat.le_trans h01.size u2.chg.size, fun k hk hn => ?_⟩
      rw [u2.chg.block k (Nat.lt_of_lt_of_le hk h01.size) fun hg => by
        rcases hg with hg | hg
        · omega
        · cases hg]
      exact h01.block k hk hn
    have hft : findTop c l most = match findV l (max most 0) (l.length + 1) (newM c true) [] 0 with
      | (true, p, _, _) => (p, 0)
      | (false, _, _, true) => ([], 11)
      | (false, _, _, false) => ([], 10) := by rw [findTop, if_pos ⟨hc, hm, hl⟩]; all_goals rfl
    rw [hft]
    clear hft
    generalize findV l (max most 0) (l.length + 1) (newM c true) [] 0 = R at *
    obtain ⟨bb, p', t', mn⟩ := R
    have h2 := S2.h
    cases bb with
    | true =>
      simp -implicitDefEqProofs only [zS, ah, fa_46_2, ld_26, sk2 h2]
      exact ⟨pv, rfl, S2.li, hW2⟩
    | false =>
      simp -implicitDefEqProofs only [zS, ah, fa_46_5, ld_4, sk5 h2]
      have nl : SlI w2 (.slice none 0 0) [] := ⟨none, 0, rfl, fun i hi => absurd hi (by simp)⟩
      cases mn with
      | true =>
        simp -implicitDefEqProofs only [zS]
        exact ⟨_, rfl, nl, hW2⟩
      | false =>
        simp -implicitDefEqProofs only [zS]
        exact ⟨_, rfl, nl, hW2⟩
  | succ d ih =>
    intro i hv w hW h h3' hb ho hi
    apply L5_0_ok
    have hlt : (i : Int) < l.length := by omega
    have hil : i < l.length := by omega
    have hd : Chg [] w w.drew := (Chg.refl _ _).drew
    have h1 : ldC (hp w sk) (0 + 1) = some hv := by rw [h, aH]; rfl
    simp -implicitDefEqProofs only [L5_0, zS, hlt, ah, fa_46_1, ld_44, aT, h1]
    refine callX_chg (R := fun v _ => v = .agg (hnC (handQ l i)).toArray) ((c_oHandle (c := cs) (by omega) (hA.keep (hW.trans hd).below) i).mono fun _ _ h => h) fun v w1 hv1 c1 => ?_
    subst hv1
    have hq : handQ l (i : Int) = handV l l[i] := by rw [handQ, if_pos hm, handX_nat hil]
    rw [hq]
    have c1 := hd.trans c1
    have ho1 := ownsRow_chg ho c1 fun k hk => by simp
    have hh1 := c1.at h (by simp)
    have h31 := c1.at h3' (by simp)
    refine ps_44 (fun u hu => by
      obtain ⟨k, y, rfl⟩ := hnC_int [handV l l[i]] u (by simpa [hnC] using hu); rfl) ho1 (by omega) (Nat.le_trans hb c1.size) fun x' w2 o2 g2 n2 => ?_
    have c2 : Chg (blk hv) w1 w2 := (Chg.refl _ _).grown g2 fun k hk => .inl (by simpa using hk)
    have nb : ∀ k, hv.ownBlock = some k → Wb.heap.size ≤ k := fun k hk => own_ge ho hk
    have hh2 := c2.at hh1 fun hm => by have := nb sk (by simpa using hm); omega
    have h32 := c2.at h31 fun hm => by
      have := nb g3 (by simpa using hm)
      omega
    have okk : okC (hp w2 sk) (0 + 1 + 1) = true := by rw [hh2, okC_some]; exact decide_eq_true (by show 0 + 1 + 1 ≤ 6; omega)
    have hx : x'.cells = #[x'] ∧ x'.oneCell' = true := by
      obtain ⟨A8, c8', rfl, _⟩ := ba o2
      exact ⟨rfl, rfl⟩
    rw [aK sz_44 hx.1 hx.2 okk, hh2]
    simp -implicitDefEqProofs only [bm, ay, skH_1, zS, am, aq (n := (i : Int) + 1) (by omega) (by omega)]
    have hW2 : Chg [] W0 w2 := (hW.trans c1).grown g2 fun k hk => .inr (by have := nb k hk; omega)
    have nx : ∀ k, x'.ownBlock = some k → k ≠ sk := fun k hk => by have := own_ge o2 hk; omega
    refine ih (i + 1) x' _ (hW2.put (.inr hsk0) _ _) (ar (av hh2) _ _) ?_ ?_ ?_ (by omega)
    · rw [aR, if_neg (by omega)]; exact h32
    · exact Nat.le_trans (Nat.le_trans hb (Nat.le_trans c1.size c2.size)) (ChgP.put w2 sk _ _).size
    · refine (ChgP.put w2 sk _ _).row ?_ nx
      rw [handsTo_succ hil, List.flatMap_append]
      simpa [hnC] using o2
theorem c_Find (hl : l.length ≤ 1000) (hA : RdV w A (l.flatMap spC)) (c : CfV) {most : Int} (hmost : most ≤ 9223372036854775807) : CallR Tryz.prog 5 [.agg (cfC c).toArray, .slice A l.length cs, .int .i64 most] w fun v w' => ∃ pv, v = .tuple #[pv, .int .i64 (findTop c l most).2] ∧ SlI w' pv (findTop c l most).1 ∧ Chg [] w w' := by
  apply F5_ok
  simp -implicitDefEqProofs only [F5, ak, au]
  generalize hw : w.alloc _ = w1
  have c1 : Chg [] w w1 := by rw [← hw]; exact (Chg.refl _ _).alloc _
  have b2 : hp w1 w.heap.size = some (.cells (cfC c).toArray 23) := by rw [← hw, aa, if_pos rfl]
  have s1 : w1.heap.size = w.heap.size + 1 := by rw [← hw, ae]
  clear hw
  have nl : ∀ w', SlI w' (.slice none 0 0) [] := fun w' => ⟨none, 0, rfl, fun i hi => absurd hi (by simp)⟩
  simp -implicitDefEqProofs only [ld_cf b2, ab]
  refine (c_layMay c w1).mono ?_
  rintro _ w2 ⟨rfl, c2⟩
  have c02 := c1.trans c2
  cases hc : mayC c with
  | false =>
    have hft : findTop c l most = ([], 1) := by rw [findTop, if_neg (by rw [hc]; simp)]
    rw [hft]
    simp -implicitDefEqProofs only [zS]
    exact ⟨_, rfl, nl _, c02⟩
  | true =>
  simp -implicitDefEqProofs only [zS]
  refine (c_RMay (by omega) ⟨A, cs, rfl, hA.keep c02.below⟩).mono ?_
  rintro _ w3 ⟨rfl, c3⟩
  have c03 := c02.trans c3
  cases hm : mayB l with
  | false =>
    have hft : findTop c l most = ([], 1) := by rw [findTop, if_neg (by rw [hm]; simp)]
    rw [hft]
    simp -implicitDefEqProofs only [zS]
    exact ⟨_, rfl, nl _, c03⟩
  | true =>
  by_cases h12 : (12 : Int) < l.length
  · have hft : findTop c l most = ([], 1) := by rw [findTop, if_neg (by omega)]
    rw [hft]
    simp -implicitDefEqProofs only [zS, len_24, h12]
    exact ⟨_, rfl, nl _, c03⟩
  have hbd : ∀ t : Int, pureRun Tryz.prog (Instr.build 46 #[(0, .slice A l.length cs), (4, .int .i64 t)]) = some (.agg (skH A l.length cs (.slice none 0 0) t)) := fun t => bd_46_0_4
  have hmx : (if (0 : Int) > most then 0 else most) = max most 0 := by
    by_cases h : (0 : Int) > most
    · rw [if_pos h, Int.max_eq_right (by omega)]
    · rw [if_neg h, Int.max_eq_left (by omega)]
  simp -implicitDefEqProofs only [zS, len_24, h12, pr_max2, hmx, hbd, ak, au]
  generalize hw4 : w3.alloc _ = w4
  have c4 : Chg [] w3 w4 := by rw [← hw4]; exact (Chg.refl _ _).alloc _
  have b4 : hp w4 w3.heap.size = some (.cells (skH A l.length cs (.slice none 0 0) (max most 0)) 46) := by rw [← hw4, aa, if_pos rfl]
  have s4 : w4.heap.size = w3.heap.size + 1 := by rw [← hw4, ae]
  clear hw4
  have b24 := (c2.trans (c3.trans c4)).at b2 (by simp)
  have := c03.size
  have := (c2.trans c3).size
  exact l_sFind (W0 := w) (Wb := w4) (by omega) hA hm hc hmost (by omega) (by omega) (Nat.le_refl _) (by omega) (by omega) l.length 0 _ w4 (c03.trans c4) b4 b24 (Nat.le_refl _) (World.ownsRow_nil _ _ _ _) (by omega)
end
end Go.Proofs.YteapggpkgfiacaaGreat

namespace Go.Proofs.YteapggpkgfiacaaGreat
open Go Ev Go.RowKit

section
variable {W w : World} {A : Option Addr} {c : Nat} {put : List Int}
theorem l_fHas (hR : RdI .i64 w A put) (hl : put.length ≤ 100000) (x : Int) : ∀ (d i : Nat), i + d = put.length → (∀ j, j < i → put[j]? ≠ some x) → P75_0 (.slice A put.length c) (.int .i64 x) (.int .i64 i) w fun v w' => v = .bool (put.contains x) ∧ w' = w := by
  intro d
  induction d with
  | zero =>
    intro i hi hno
    apply L75_0_ok
    have : ¬ ((i : Int) < put.length) := by omega
    simp -implicitDefEqProofs only [L75_0, len_26, zS, this]
    refine ⟨?_, trivial⟩
    have : put.contains x = false := by
      cases h : put.contains x with
      | false => rfl
      | true =>
        obtain ⟨j, hj⟩ := List.getElem?_of_mem (List.contains_iff_mem.1 h)
        have := (List.getElem?_eq_some_iff.1 hj).1
        exact absurd hj (hno j (by omega))
    rw [this]
  | succ d ih =>
    intro i hi hno
    apply L75_0_ok
    have hlt : (i : Int) < put.length := by omega
    have hil : i < put.length := by omega
    obtain ⟨y, hy⟩ : ∃ y, put[i]? = some y := ⟨_, List.getElem?_eq_getElem hil⟩
    obtain ⟨q, q1, q2⟩ := int_at (c := c) hR hy
    simp -implicitDefEqProofs only [L75_0, len_26, zS, hlt, q1, q2]
    by_cases h : y = x
    · simp -implicitDefEqProofs only [h, zS]
      refine ⟨?_, trivial⟩
      have : put.contains x = true := List.contains_iff_mem.2 (List.mem_of_getElem? (h ▸ hy))
      rw [this]
    · simp -implicitDefEqProofs only [eqf h, zS, am, aq (n := (i : Int) + 1) (by omega) (by omega)]
      refine ih (i + 1) (by omega) fun j hj hx => ?_
      rcases Nat.lt_or_ge j i with hj' | hj'
      · exact hno j hj' hx
      · have : j = i := by omega
        subst this
        rw [hy] at hx; exact h (Option.some.inj hx)
theorem c_fHas {v : Value} (hv : SlI w v put) (hl : put.length ≤ 100000) (x : Int) : CallR Tryz.prog 75 [v, .int .i64 x] w fun v w' => v = .bool (put.contains x) ∧ w' = w := by
  obtain ⟨A, c, rfl, hR⟩ := hv
  apply F75_ok
  exact l_fHas hR hl x put.length 0 (by omega) fun j hj => by omega
def fA (A : Option Addr) (n cs : Nat) (left : Int) (mn : Bool) : Array Value := #[.slice A n cs, .int .i64 left, .bool mn]
section
variable {sk : Nat} {n cs : Nat} {left : Int} {mn : Bool} {l : List SpV} {e : TypeId}
theorem fa0 (h : hp w sk = some (.cells (fA A n cs left mn) e)) : ldC (hp w sk) (0 + 0) = some (.slice A n cs) := by rw [h, aH]; rfl
theorem fa1 (h : hp w sk = some (.cells (fA A n cs left mn) e)) : ldC (hp w sk) (0 + 1) = some (.int .i64 left) := by rw [h, aH]; rfl
theorem fa2 (h : hp w sk = some (.cells (fA A n cs left mn) e)) : ldC (hp w sk) (0 + 2) = some (.bool mn) := by rw [h, aH]; rfl
theorem l_fWhole {v : Value} (hl : l.length ≤ 1000) (hA : RdV w A (l.flatMap spC)) (hpl : put.length ≤ 1000) (h : hp w sk = some (.cells (fA A l.length cs left mn) 71)) (hv : SlI w v put) : ∀ (d k : Nat), k + d = l.length →
    (∀ j s, j < k → l[j]? = some s → (!(decide (0 ≤ s.rs) && !put.contains (j : Int))) = true) → P55_0 (.pointer (some ⟨sk, 0, none⟩)) v (.int .i64 k) w fun v w' => v = .bool (overV l put) ∧ w' = w := by
  intro d
  induction d with
  | zero =>
    intro k hk hall
    apply L55_0_ok
    have : ¬ ((k : Int) < l.length) := by omega
    simp -implicitDefEqProofs only [L55_0, ah, fa_71_0, ld_24, fa0 h, len_24, zS, this]
    refine ⟨?_, trivial⟩
    have : overV l put = true := all_true fun j hj => by
      rw [List.getElem?_eq_getElem hj]
      exact hall j l[j] (by omega) (List.getElem?_eq_getElem hj)
    rw [this]
  | succ d ih =>
    intro k hk hall
    apply L55_0_ok
    have hlt : (k : Int) < l.length := by omega
    have hkl : k < l.length := by omega
    obtain ⟨b, o, q1, q2⟩ := sp_at' (c := cs) (j := .i64) (i := k) hA hkl
    have f11 : ldC (hp w b) (o + 11) = some (.int .i64 l[k].rs) := q2.f 11 (by omega)
    have next : (!(decide (0 ≤ l[k].rs) && !put.contains (k : Int))) = true → P55_0 (.pointer (some ⟨sk, 0, none⟩)) v (.int .i64 ((k : Int) + 1)) w fun v w' => v = .bool (overV l put) ∧ w' = w := fun hn =>
      ih (k + 1) (by omega) fun j s hj hs => by
        rcases Nat.lt_or_ge j k with hj' | hj'
        · exact hall j s hj' hs
        · have : j = k := by omega
          subst this
          rw [List.getElem?_eq_getElem hkl] at hs; cases hs; exact hn
    have wr := aq (n := (k : Int) + 1) (by omega) (by omega)
    by_cases h0 : 0 ≤ l[k].rs
    · simp -implicitDefEqProofs only [L55_0, ah, fa_71_0, ld_24, fa0 h, len_24, zS, hlt, q1, fa_42_6, ac, f11, h0]
      refine (c_fHas hv (by omega) (k : Int)).step ?_
      cases hc : put.contains (k : Int) with
      | true =>
        simp -implicitDefEqProofs only [zS, am, wr]
        exact next (by rw [hc]; simp)
      | false =>
        simp -implicitDefEqProofs only [zS]
        refine ⟨?_, trivial⟩
        have : overV l put = false := all_false hkl (by rw [List.getElem?_eq_getElem hkl]; simp only [hc, decide_eq_true h0]; rfl)
        rw [this]
    · simp -implicitDefEqProofs only [L55_0, ah, fa_71_0, ld_24, fa0 h, len_24, zS, hlt, q1, fa_42_6, ac, f11, h0, am, wr]
      exact next (by simp [h0])
theorem c_fWhole {v : Value} (hl : l.length ≤ 1000) (hA : RdV w A (l.flatMap spC)) (hpl : put.length ≤ 1000) (h : hp w sk = some (.cells (fA A l.length cs left mn) 71)) (hv : SlI w v put) : CallR Tryz.prog 55 [.pointer (some ⟨sk, 0, none⟩), v] w fun v w' => v = .bool (overV l put) ∧ w' = w := by
  apply F55_ok
  exact l_fWhole hl hA hpl h hv l.length 0 (by omega) fun j s hj => by omega
end
end
end Go.Proofs.YteapggpkgfiacaaGreat

namespace Go.Proofs.YteapggpkgfiacaaGreat
open Go Ev Go.RowKit

section
variable {W w : World} {A : Option Addr} {c : Nat} {put : List Int} {sk : Nat} {n cs : Nat} {left : Int} {mn : Bool} {l : List SpV} {e : TypeId}
theorem l_fMay {v : Value} (hl : l.length ≤ 1000) (hA : RdV W A (l.flatMap spC)) (hpl : put.length ≤ 1000) {i : Nat} (hi : i < l.length) (hni : put.contains (i : Int) = false) : ∀ (d k : Nat) (w : World), Chg [] W w → hp w sk = some (.cells (fA A l.length cs left mn) 71) → SlI w v put → k + d = l.length →
    (∀ j a, j < k → l[j]? = some a → (!(decide (0 ≤ a.rs) && (!put.contains (j : Int) && ahead a l[i]))) = true) → P56_0 (.pointer (some ⟨sk, 0, none⟩)) v (.int .i64 i) (.int .i64 k) w fun v w' => v = .bool (nextV l put i) ∧ Chg [] W w' := by
  intro d
  induction d with
  | zero =>
    intro k w hW h hv hk hall
    apply L56_0_ok
    have : ¬ ((k : Int) < l.length) := by omega
    simp -implicitDefEqProofs only [L56_0, ah, fa_71_0, ld_24, fa0 h, len_24, zS, this]
    refine ⟨?_, hW⟩
    have : nextV l put i = true := by
      unfold nextV
      rw [hni, all_true fun j hj => ?_]
      · rfl
      rw [List.getElem?_eq_getElem hj, List.getElem?_eq_getElem hi]
      exact hall j l[j] (by omega) (List.getElem?_eq_getElem hj)
    rw [this]
  | succ d ih =>
    intro k w hW h hv hk hall
    apply L56_0_ok
    have hlt : (k : Int) < l.length := by omega
    have hkl : k < l.length := by omega
    have hd : Chg [] w w.drew := (Chg.refl _ _).drew
    have hAw := hA.keep (hW.trans hd).below
    obtain ⟨b, o, q1, q2⟩ := sp_at' (c := cs) (j := .i64) (i := k) hAw hkl
    obtain ⟨b', o', r1, r2⟩ := sp_at' (c := cs) (j := .i64) (i := i) hAw hi
    have f11 : ldC (hp w b) (o + 11) = some (.int .i64 l[k].rs) := q2.f 11 (by omega)
    have hvd : SlI w.drew v put := hv.keep hd.below
    have next : (!(decide (0 ≤ l[k].rs) && (!put.contains (k : Int) && ahead l[k] l[i]))) = true → ∀ w2, Chg [] w w2 → P56_0 (.pointer (some ⟨sk, 0, none⟩)) v (.int .i64 i) (.int .i64 ((k : Int) + 1)) w2 fun v w' => v = .bool (nextV l put i) ∧ Chg [] W w' := fun hn w2 c2 =>
      ih (k + 1) w2 (hW.trans c2) (c2.at h (by simp)) (hv.keep c2.below) (by omega) fun j s hj hs => by
        rcases Nat.lt_or_ge j k with hj' | hj'
        · exact hall j s hj' hs
        · have : j = k := by omega
          subst this
          rw [List.getElem?_eq_getElem hkl] at hs; cases hs; exact hn
    have wr := aq (n := (k : Int) + 1) (by omega) (by omega)
    by_cases h0 : 0 ≤ l[k].rs
    · simp -implicitDefEqProofs only [L56_0, ah, fa_71_0, ld_24, aT, fa0 h, len_24, zS, hlt, q1, fa_42_6, ac, f11, h0]
      refine (c_fHas hvd (by omega) (k : Int)).step ?_
      cases hc : put.contains (k : Int) with
      | true =>
        simp -implicitDefEqProofs only [zS, am, wr]
        exact next (by rw [hc]; simp) _ hd
      | false =>
        simp -implicitDefEqProofs only [zS, ah, fa_71_0, ld_24, aT, fa0 h, q1, r1, q2.ld, r2.ld]
        refine (c_AheadRef l[k] l[i] w.drew).mono ?_
        rintro _ w2 ⟨rfl, c2⟩
        have c2 := hd.trans c2
        cases hah : ahead l[k] l[i] with
        | true =>
          simp -implicitDefEqProofs only [zS]
          refine ⟨?_, hW.trans c2⟩
          have : nextV l put i = false := by
            unfold nextV
            rw [all_false hkl (by rw [List.getElem?_eq_getElem hkl, List.getElem?_eq_getElem hi]; simp only [hc, hah, decide_eq_true h0]; rfl), Bool.false_and]
          rw [this]
        | false =>
          simp -implicitDefEqProofs only [zS, am, wr]
          exact next (by rw [hah]; simp) _ c2
    · simp -implicitDefEqProofs only [L56_0, ah, fa_71_0, ld_24, aT, fa0 h, len_24, zS, hlt, q1, fa_42_6, ac, f11, h0, am, wr]
      exact next (by simp [h0]) _ hd
theorem c_fMay {v : Value} (hl : l.length ≤ 1000) (hA : RdV w A (l.flatMap spC)) (hpl : put.length ≤ 1000) (h : hp w sk = some (.cells (fA A l.length cs left mn) 71)) (hv : SlI w v put) {i : Nat} (hi : i < l.length) : CallR Tryz.prog 56 [.pointer (some ⟨sk, 0, none⟩), v, .int .i64 i] w fun v w' => v = .bool (nextV l put i) ∧ Chg [] w w' := by
  apply F56_ok
  simp -implicitDefEqProofs only [F56]
  refine (c_fHas hv (by omega) (i : Int)).step ?_
  cases hc : put.contains (i : Int) with
  | true =>
    simp -implicitDefEqProofs only [zS]
    refine ⟨?_, Chg.refl _ _⟩
    have : nextV l put i = false := by unfold nextV; rw [hc]; simp
    rw [this]
  | false =>
    simp -implicitDefEqProofs only [zS]
    exact l_fMay hl hA hpl hi hc l.length 0 w (Chg.refl _ _) h hv (by omega) fun j s hj => by omega
end
end Go.Proofs.YteapggpkgfiacaaGreat

namespace Go.Proofs.YteapggpkgfiacaaGreat
open Go Ev Go.RowKit

theorem l_SameInts {xs ys : List Int} (hl : xs.length ≤ 4611686018427387904) (he : xs.length = ys.length) {A B : Option Addr} {c d : Nat} (w0 : World) : ∀ (e i : Nat) (w : World), RdI .i64 w A xs → RdI .i64 w B ys → Below w0.heap.size w0 w →
    (∀ j, j < i → xs.getD j 0 = ys.getD j 0) → i + e = xs.length → P20_0 (.slice A xs.length c) (.slice B ys.length d) (.int .i64 i) w fun v w' => v = .bool (decide (xs = ys)) ∧ Below w0.heap.size w0 w'
  | 0, i, w, hx, hy, hb, hs, hd => by
    apply L20_0_ok
    have : ¬ ((i : Int) < xs.length) := by omega
    have heq : xs = ys := List.ext_getElem he fun j h1 h2 => by
      have := hs j (by omega)
      simpa [List.getD_eq_getElem?_getD, h1, h2] using this
    simp -implicitDefEqProofs only [L20_0, len_26, zS, this]
    exact ⟨by simp [heq], hb⟩
  | e + 1, i, w, hx, hy, hb, hs, hd => by
    apply L20_0_ok
    have hlt : (i : Int) < xs.length := by omega
    obtain ⟨q, hq1, hq2⟩ := (hx.drew).at (P := Tryz.prog) (c := c) (j := .i64) Tryz.underlying26 Tryz.underlying3 sz_3 (i := (i : Int)) (by omega) hlt
    obtain ⟨r, hr1, hr2⟩ := (hy.drew).at (P := Tryz.prog) (c := d) (j := .i64) Tryz.underlying26 Tryz.underlying3 sz_3 (i := (i : Int)) (by omega) (by omega)
    simp -implicitDefEqProofs only [L20_0, len_26, zS, hlt, hq1, hq2, hr1, hr2, Int.toNat_natCast, am, aq (n := (i : Int) + 1) (by omega) (by omega)]
    by_cases h1 : xs.getD i 0 = ys.getD i 0
    · simp -implicitDefEqProofs only [h1, zS]
      have := l_SameInts (c := c) (d := d) hl he w0 e (i + 1) _ hx.drew hy.drew hb.drew (fun j hj => by
        rcases Nat.lt_or_ge j i with h | h
        · exact hs j h
        · rw [show j = i by omega]; exact h1) (by omega)
      rw [Int.natCast_add i 1] at this
      exact this
    · simp -implicitDefEqProofs only [bne_iff_ne.2 h1, zS]
      refine ⟨?_, hb.drew⟩
      have : xs ≠ ys := fun h => h1 (by rw [h])
      simp [this]
theorem c_SameInts {xs ys : List Int} (hl : xs.length ≤ 4611686018427387904) {u v : Value} {w : World} (hx : SlI w u xs) (hy : SlI w v ys) : CallR Tryz.prog 20 [u, v] w fun r w' => r = .bool (decide (xs = ys)) ∧ Below w.heap.size w w' := by
  obtain ⟨A, c, rfl, hx⟩ := hx
  obtain ⟨B, d, rfl, hy⟩ := hy
  apply F20_ok
  by_cases he : xs.length = ys.length
  · have h1 : ((xs.length : Int) != ys.length) = false := by rw [he]; simp
    simp -implicitDefEqProofs only [F20, len_26, zS, h1]
    exact l_SameInts hl he w xs.length 0 w hx hy (Below.refl _ _) (fun j hj => by omega) (by omega)
  · have h1 : ((xs.length : Int) != ys.length) = true := by rw [bne_iff_ne]; omega
    simp -implicitDefEqProofs only [F20, len_26, zS, h1]
    have : xs ≠ ys := fun h => he (by rw [h])
    exact ⟨by simp [this], Below.refl _ _⟩
end Go.Proofs.YteapggpkgfiacaaGreat

namespace Go.Proofs.YteapggpkgfiacaaGreat
open Go Ev Go.RowKit

theorem must_no {m : MdV} {c : CfV} {K : Nat} (s : StO m c K) {w : Int} {o : OpV} {h : HnV} (hn : mayO o = false ∨ c.1 ≤ w) : (mustV m w o h).2 = false := by
  have hm : mayV m w o = false := by
    have := s.wn.cw
    rw [s.mc] at this
    rcases hn with hn | hn
    · simp [mayV, hn]
    · have : ¬ w < m.hands.length := by omega
      simp [mayV, this]
  rw [mustV, if_pos hm]
theorem resV_no {l : List SpV} {m : MdV} {c : CfV} {K : Nat} (S : StO m c K) {s : SpV} (h1 : s.rs < 0 ∧ s.pt < 0) (hn : mayO s.op = false ∨ c.1 ≤ s.wk) : resV l m s = none := by
  rw [resV, if_pos h1, if_neg (by rw [must_no S hn]; simp)]
end Go.Proofs.YteapggpkgfiacaaGreat

namespace Go.Proofs.YteapggpkgfiacaaGreat
open Go Ev Go.RowKit

theorem cp_flat {P : Program} {w : World} {K : Value → World → Prop} {t e : TypeId} {i : TypeInfo} {z : Value} {size : Nat} {A : Option Addr} {n c : Nat} {us : List Value} (ht : P.underlying t = some (.slice e)) (hi : P.info? e = some i) (hz : i.zero = some z) (hs : i.size = size) (hzc : z.cells.size = size) (h0 : 0 < size)
    (hl : us.length = n * size) (hR : RdV w A us) (h1 : ∀ u ∈ us, ∃ k x, u = .int k x) (hn : n ≤ 1000000) (hb : i.bytes ≤ 1000)
    (hk : ∀ v w', isRow e size n (us.map isV) w' (fun b => v.ownBlock = some b) v → (∀ k, v.ownBlock = some k → w.heap.size ≤ k) → Chg [] w w' → K v w') :
    effv P (Builtin.append_ #[t, t] t #[.slice none 0 0, .slice A n c]) w K := by
  have hbb : n * i.bytes ≤ 1000000 * 1000 := Nat.mul_le_mul hn hb
  refine eff_append (base := w.heap.size) (xs := []) (n := 0) (news := us) (m := n) ht hi hz hs hzc h0 (World.ownsRow_nil _ _ _ _) hl (fun j u hj => hR j u hj) (fun u hu => ?_) (by unfold maxLen; omega) (by rw [Nat.zero_add]; omega) (Nat.le_refl _) fun x1 w1 o1 g1 => ?_
  · obtain ⟨k, x, rfl⟩ := h1 u hu; rfl
  · have c1 : Chg [] w w1 := (Chg.refl _ _).grown g1 fun k hk => by simp [Value.ownBlock] at hk
    rw [List.nil_append, Nat.zero_add] at o1
    exact hk x1 w1 (own_flat o1) (own_new o1) c1
theorem flat_src {w : World} {e : TypeId} {z n : Nat} {us : List Value} {v : Value} (h : ∃ F, isRow e z n (us.map isV) w F v) : ∃ A c, v = .slice A n c ∧ RdV w A us := by
  obtain ⟨F, h⟩ := h
  obtain ⟨h1, _⟩ := flat_own h
  obtain ⟨A, c, e, r, _⟩ := ba h1
  exact ⟨A, c, e, r⟩
section
variable {W w Wi : World} {g g3 b5 : Nat} {x : RfV} {F : Fp} {K : Value → World → Prop} {A : Option Addr} {c : Nat}
theorem cp_ints {L : List Int} (hl : L.length ≤ 1000000) (hR : RdV w A (ints L)) (hk : ∀ v w', intsT L w' (fun b => v.ownBlock = some b) v → (∀ k, v.ownBlock = some k → w.heap.size ≤ k) → Chg [] w w' → K v w') :
    effv Tryz.prog (Builtin.append_ #[26, 26] 26 #[.slice none 0 0, .slice A L.length c]) w K := by
  obtain ⟨i, hi, hz, hs, hb⟩ := inf_3
  exact cp_flat Tryz.underlying26 hi hz hs rfl (by omega) (by simp [ints]) hR (ints_int L) hl (by omega) hk
theorem cp_objs {L : List HnV} (hl : L.length ≤ 1000000) (hR : RdV w A (L.flatMap hnC)) (hk : ∀ v w', objsT L w' (fun b => v.ownBlock = some b) v → (∀ k, v.ownBlock = some k → w.heap.size ≤ k) → Chg [] w w' → K v w') :
    effv Tryz.prog (Builtin.append_ #[44, 44] 44 #[.slice none 0 0, .slice A L.length c]) w K := by
  obtain ⟨i, hi, hz, hs, hb⟩ := inf_38
  exact cp_flat Tryz.underlying44 hi hz hs rfl (by omega) (flat_len hnC_len L) hR (hnC_int L) hl (by omega) hk
theorem cp_word {L : List Int} (hl : L.length ≤ 1000000) (hR : RdV w A (u64s L)) (hk : ∀ v w', wordT L w' (fun b => v.ownBlock = some b) v → (∀ k, v.ownBlock = some k → w.heap.size ≤ k) → Chg [] w w' → K v w') :
    effv Tryz.prog (Builtin.append_ #[102, 102] 102 #[.slice none 0 0, .slice A L.length c]) w K := by
  obtain ⟨i, hi, hz, hs, hb⟩ := inf_34
  exact cp_flat Tryz.underlying102 hi hz hs rfl (by omega) (by simp [u64s]) hR (u64s_int L) hl (by omega) hk
theorem cp_keys {L : List NmV} (hl : L.length ≤ 1000000) (hR : RdV w A (L.flatMap nmC)) (hk : ∀ v w', keysT L w' (fun b => v.ownBlock = some b) v → (∀ k, v.ownBlock = some k → w.heap.size ≤ k) → Chg [] w w' → K v w') :
    effv Tryz.prog (Builtin.append_ #[127, 127] 127 #[.slice none 0 0, .slice A L.length c]) w K := by
  obtain ⟨i, hi, hz, hs, hb⟩ := inf_137
  exact cp_flat Tryz.underlying127 hi hz hs rfl (by omega) (flat_len nmC_len L) hR (nmC_int L) hl (by omega) hk
theorem parts_rr {p : RgV × Bool} {xs : List Value} {Fs : Nat → Fp} (h : Parts w (rrT p) xs Fs) : ∃ cv wv ov, xs = (rgA p cv wv ov).toList := by
  have hl := h.len
  rw [rrT_len] at hl
  match xs, hl, h with
  | [a0, a1, a2, a3, a4, a5, a6, a7], _, h =>
    have e0 := (h.each 0 _ _ rfl rfl).1
    have e1 := (h.each 1 _ _ rfl rfl).1
    have e2 := (h.each 2 _ _ rfl rfl).1
    have e3 := (h.each 3 _ _ rfl rfl).1
    have e4 := (h.each 4 _ _ rfl rfl).1
    exact ⟨a5, a6, a7, by rw [e0, e1, e2, e3, e4]; rfl⟩
def rrF (Fc Fw Fo : Fp) (k : Nat) : Fp := if k = 5 then Fc else if k = 6 then Fw else if k = 7 then Fo else none'
theorem rr_parts {p : RgV × Bool} {cv wv ov : Value} {Fc Fw Fo : Fp} (hc : intsT p.1.chunks w Fc cv) (hw : wordsT p.1.words w Fw wv) (ho : objsT p.1.objs w Fo ov) (d1 : FDis Fc Fw) (d2 : FDis Fc Fo) (d3 : FDis Fw Fo) :
    Parts w (rrT p) (rgA p cv wv ov).toList (rrF Fc Fw Fo) := by
  refine ⟨rfl, fun k P v hP hv => ?_, fun j k hj hk hjk => ?_⟩
  · have hk := (List.getElem?_eq_some_iff.1 hP).1
    rw [rrT_len] at hk
    have h8 : k = 0 ∨ k = 1 ∨ k = 2 ∨ k = 3 ∨ k = 4 ∨ k = 5 ∨ k = 6 ∨ k = 7 := by omega
    rcases h8 with rfl | rfl | rfl | rfl | rfl | rfl | rfl | rfl <;> cases hP <;> cases hv
    · exact ⟨rfl, fun _ h => h⟩
    · exact ⟨rfl, fun _ h => h⟩
    · exact ⟨rfl, fun _ h => h⟩
    · exact ⟨rfl, fun _ h => h⟩
    · exact ⟨rfl, fun _ h => h⟩
    · exact hc
    · exact hw
    · exact ho
  · intro b h1 h2
    unfold rrF at h1 h2
    by_cases a5 : j = 5 <;> by_cases a6 : j = 6 <;> by_cases a7 : j = 7 <;> by_cases b5 : k = 5 <;> by_cases b6 : k = 6 <;> by_cases b7 : k = 7 <;>
      first
      | omega
      | (simp only [a5, a6, a7, b5, b6, b7, if_true, if_false, Nat.reduceEqDiff] at h1 h2
         first
         | exact h1.elim
         | exact h2.elim
         | exact d1 b h1 h2
         | exact d1 b h2 h1
         | exact d2 b h1 h2
         | exact d2 b h2 h1
         | exact d3 b h1 h2
         | exact d3 b h2 h1)
theorem ld_rr8 {b : Nat} {cs : Array Value} {e : TypeId} (hs : cs.size = 8) (hb : hp w b = some (.cells cs e)) : ldv Tryz.prog 126 (.pointer (some ⟨b, 0, none⟩)) w = some (.agg cs) := aJ (t := 126) ag_126 (by rw [sz_126, hs]) hb
theorem words_at {L : List (List Int)} {wv : Value} (h : ∃ F, wordsT L w F wv) {k : Nat} {l : List Int} (hk : L[k]? = some l) : ∃ b c A c', wv = .slice (some ⟨b, 0, none⟩) L.length c ∧ ldC (hp w b) k = some (.slice A l.length c') ∧ RdV w A (u64s l) := by
  obtain ⟨F, h⟩ := h
  obtain ⟨b, c, v, Fk, hx, _, _, _, hld, hv, _⟩ := isRow.cell h (fun P hP => by obtain ⟨l, _, rfl⟩ := List.mem_map.1 hP; exact good_word l) (k := k) (P := wordT l) (by rw [List.getElem?_map, hk]; rfl)
  obtain ⟨A, c', rfl, hR⟩ := flat_src ⟨Fk, hv⟩
  exact ⟨b, c, A, c', hx, hld, hR⟩
theorem one_parts {P : Th} {v : Value} {Fv : Fp} (h : P w Fv v) : Parts w [P] [v] (fun _ => Fv) := ⟨rfl, fun k Q u hQ hu => by
    have hk := (List.getElem?_eq_some_iff.1 hQ).1
    have : k = 0 := by simp at hk; omega
    subst this
    cases hQ; cases hu
    exact h, fun j k hj hk hjk => by simp at hj hk; omega⟩
theorem under1 {Fv : Fp} (b : Nat) : Fv b ↔ under 1 (fun _ => Fv) b := ⟨fun h => ⟨0, by omega, h⟩, fun ⟨_, _, h⟩ => h⟩
def CpQ (W : World) (x : RfV) (v : Value) (w' : World) : Prop := ∃ g3 F', v = .pointer (some ⟨g3, 0, none⟩) ∧ RfI w' g3 x F' ∧ (∀ k, F' k → W.heap.size ≤ k) ∧ Chg [] W w'
def cp0 (x : RfV) (i : Nat) : RfV := { x with rgs := x.rgs.take i, holds := [] }
def cp2 (x : RfV) (i : Nat) : RfV := { x with holds := x.holds.take i }
def cutW (p : RgV × Bool) (k : Nat) : RgV × Bool := ({ p.1 with words := p.1.words.take k }, p.2)
theorem cutW_all (p : RgV × Bool) : cutW p p.1.words.length = p := by simp [cutW]
theorem rrT_w (p : RgV × Bool) (k k' : Nat) : (rrT (cutW p k)).set 6 (wordsT (p.1.words.take k')) = rrT (cutW p k') := rfl
structure CpB (x : RfV) : Prop where
  r : x.rgs.length ≤ 1000000
  c : ∀ p ∈ x.rgs, p.1.chunks.length ≤ 1000000 ∧ p.1.words.length ≤ 1000000 ∧ p.1.objs.length ≤ 1000000 ∧ ∀ l ∈ p.1.words, l.length ≤ 1000000
  s : x.state.length ≤ 1000000
  g : x.gen.length ≤ 1000000
  d : x.depth.length ≤ 1000000
  h : x.holds.length ≤ 1000000
  k : ∀ l ∈ x.holds, l.length ≤ 1000000
set_option maxHeartbeats 2000000 in
theorem l_rCopy1 (I : RfI W g x F) (B : CpB x) {i : Nat} {p : RgV × Bool} (hi : x.rgs[i]? = some p) {F3 : Fp} (C : RfI Wi g3 (cp0 x i) F3) (cW : Chg [] W Wi) (n3 : ∀ k, F3 k → W.heap.size ≤ k)
    (next : ∀ (w : World) (F3 : Fp), Chg [] W w → RfI w g3 (cp0 x (i + 1)) F3 → (∀ k, F3 k → W.heap.size ≤ k) → P60_0 (.pointer (some ⟨g, 0, none⟩)) (.pointer (some ⟨g3, 0, none⟩)) (.int .i64 ((i : Int) + 1)) w (CpQ W x)) :
    ∀ (d k : Nat) (w : World) (F5 : Fp), Chg [] Wi w → isAt 126 b5 (rrT (cutW p k)) w F5 → (∀ j, F5 j → Wi.heap.size ≤ j) → k + d = p.1.words.length →
      P60_1 (.pointer (some ⟨g, 0, none⟩)) (.pointer (some ⟨g3, 0, none⟩)) (.int .i64 i) (.pointer (some ⟨b5, 0, none⟩)) (.int .i64 k) w (CpQ W x) := by
  have hil := (List.getElem?_eq_some_iff.1 hi).1
  obtain ⟨bc, bw, bo, bl⟩ := B.c p (List.mem_of_getElem? hi)
  have br := B.r
  intro d
  induction d with
  | zero =>
    intro k w F5 cw D n5 hk
    have hk' : k = p.1.words.length := by omega
    subst hk'
    rw [cutW_all] at D
    apply L60_1_ok
    have cWw := cW.trans cw
    obtain ⟨s, gn, r, dd, h, R⟩ := (I.keep cWw).rd
    obtain ⟨Fr, hFr⟩ := R.rT
    obtain ⟨b, c, rfl, cv, wv, ov, Q⟩ := rr_at hFr hi
    obtain ⟨Fw, hFw⟩ := Q.wT
    obtain ⟨Aw, cw', xw, Fsw, rfl, _⟩ := isRow.rd hFw
    have ia := ia_rgs (b := b) (c := c) hil
    have hlt : ¬ ((p.1.words.length : Int) < p.1.words.length) := by omega
    have cd : Chg [] w w.drew := (Chg.refl _ _).drew
    obtain ⟨xs, Fs, hb, hparts, hnu, hF⟩ := D
    obtain ⟨cv5, wv5, ov5, rfl⟩ := parts_rr hparts
    have hb' : hp w b5 = some (.cells (rgA p cv5 wv5 ov5) 126) := by rw [hb]
    obtain ⟨v9, Fk, hsub, hng, hl9, hR9, hput⟩ := isAt.repl C (good_rf _) (k := 9) (P := rrsT (x.rgs.take i)) rfl
    have hl9' : ldC (hp w g3) (0 + 9) = some v9 := aQ cw hl9
    have hR9d := (good_rrs (x.rgs.take i)).frame hR9 (ChgP.of0 (cw.trans cd) none') fun _ _ h => h
    obtain ⟨ys, Gs9, q1, q2, q3, q4⟩ := hR9d
    have hti : (x.rgs.take i).length = i := by rw [List.length_take]; omega
    have lrg : ldv Tryz.prog 126 (.pointer (some ⟨b5, 0, none⟩)) w.drew = some (.agg (rgA p cv5 wv5 ov5)) := ld_rr8 (w := w.drew) rfl hb'
    have ones : ∀ u ∈ (rgA p cv5 wv5 ov5).toList, u.oneCell' = true := fun u hu => by
      obtain ⟨j, hj⟩ := List.getElem?_of_mem hu
      have hjl := (List.getElem?_eq_some_iff.1 hj).1
      obtain ⟨P, hP⟩ : ∃ P, (rrT p)[j]? = some P := ⟨_, List.getElem?_eq_getElem (by rw [rrT_len]; exact hjl)⟩
      exact ((good_rr p P (List.mem_of_getElem? hP)).one (hparts.each j P u hP hj)).2
    simp -implicitDefEqProofs only [L60_1, ah, zS, aA, fa_126_6, aE, ld_84, R.rl, ia, Q.c6, len_84, hlt, aT, hl9', lrg]
    have q1' := q1
    rw [hti] at q1'
    refine ps_109 ones q1' (by omega) (Nat.zero_le _) fun y' w4 ho hg hnb => ?_
    have c4 : Chg [] Wi w.drew := cw.trans cd
    have hpd := hparts.frame (good_rr p) (ChgP.of0 cd none') (fun _ _ h => h)
    obtain ⟨F9, z1, z2, z3⟩ := isRow.grow (G := under (rrT p).length Fs) (m := 1) ⟨ys, Gs9, q1, q2, q3, q4⟩ (good_rrL _) (good_rr p) hpd (fun b => Iff.rfl) (fun k h1 h2 => by
      have a := isAt.lt C (good_rf _) k (hsub k h1)
      have b := n5 k ((hF k).2 (.inr h2))
      omega) (fun xs' h' => by rw [own_unique h' q1, hti]; exact ho) hg hnb
    have u9 : UpdP Fk F9 Wi w4 := by
      refine ⟨⟨z3.os.trans c4.os, z3.tape.trans c4.tape, z3.output.trans c4.output, Nat.le_trans c4.size z3.size, fun k hk hn => (z3.block k (Nat.lt_of_lt_of_le hk c4.size) hn).trans (c4.block k hk (by simp))⟩, fun k hk => ?_⟩
      rcases z2.sub k hk with h | h
      · rcases h with h | h
        · exact .inl h
        · exact .inr (n5 k ((hF k).2 (.inr h)))
      · exact .inr (Nat.le_trans c4.size h)
    have z1' : rrsT (x.rgs.take (i + 1)) w4 F9 y' := by
      have e : x.rgs.take (i + 1) = x.rgs.take i ++ [p] := by rw [List.take_add_one, hi]; rfl
      rw [rrsT, e, List.length_append, List.flatMap_append]
      simpa using z1
    obtain ⟨ok, o1, o2, _, F4, t1, t2⟩ := hput w4 F9 (rrsT (x.rgs.take (i + 1))) y' u9 (good_rrs _) z1'
    rw [st_109 (o := 0 + 9) o1 o2 ok]
    simp -implicitDefEqProofs only [am, aq (n := (i : Int) + 1) (by omega) (by omega), ab]
    exact next _ F4 (chg_updP cW t2 n3) t1 (updP_new cW t2 n3)
  | succ d ih =>
    intro k w F5 cw D n5 hk
    apply L60_1_ok
    have cWw := cW.trans cw
    have cd : Chg [] w w.drew := (Chg.refl _ _).drew
    obtain ⟨s, gn, r, dd, h, R⟩ := (I.keep cWw).rd
    obtain ⟨Fr, hFr⟩ := R.rT
    obtain ⟨b, c, rfl, cv, wv, ov, Q⟩ := rr_at hFr hi
    have hkl : k < p.1.words.length := by omega
    obtain ⟨l, hl⟩ : ∃ l, p.1.words[k]? = some l := ⟨_, List.getElem?_eq_getElem hkl⟩
    obtain ⟨b', c', A, cl, rfl, hlw, hRw⟩ := words_at Q.wT hl
    have ia := ia_rgs (b := b) (c := c) hil
    have iw := ia_84 (b := b') (p := 0) (n := p.1.words.length) (c := c') (j := .i64) (i := (k : Int)) (by omega) (by omega)
    rw [Int.toNat_natCast, Nat.zero_add, Nat.mul_one] at iw
    have hlt : (k : Int) < p.1.words.length := by omega
    obtain ⟨v6, Fk, hsub, hng, hl6, hR6, hput⟩ := isAt.repl D (good_rr _) (k := 6) (P := wordsT (p.1.words.take k)) rfl
    have hl6' : ldC (hp w b5) (0 + 6) = some v6 := hl6
    have hll := bl l (List.mem_of_getElem? hl)
    have hRw' : RdV w.drew A (u64s l) := hRw.keep cd.below
    simp -implicitDefEqProofs only [L60_1, ah, zS, aA, fa_126_6, aE, ld_84, ld_102, R.rl, ia, Q.c6, len_84, hlt, aT, hl6', iw, hlw]
    refine cp_word (by omega) hRw' fun v84 w2 T84 n84 c2 => ?_
    obtain ⟨A84, c84, rfl, _⟩ := flat_src ⟨_, T84⟩
    have c2' := cd.trans c2
    have hR6' := (good_words _).frame hR6 (ChgP.of0 c2' none') fun _ _ h => h
    obtain ⟨ys, Gs6, q1, q2, q3, q4⟩ := hR6'
    have htk : (p.1.words.take k).length = k := by rw [List.length_take]; omega
    have q1' := q1
    rw [htk] at q1'
    refine ps_84 (by simp) q1' (by omega) (Nat.zero_le _) fun y' w4 ho hg hnb => ?_
    obtain ⟨F6, z1, z2, z3⟩ := isRow.grow (G := fun b => (Value.slice A84 l.length c84).ownBlock = some b) (m := 1) ⟨ys, Gs6, q1, q2, q3, q4⟩ (fun P hP => by obtain ⟨l, _, rfl⟩ := List.mem_map.1 hP; exact good_word l) (fun P hP => by rw [List.mem_singleton.1 hP]; exact good_word _) (one_parts T84)
      under1 (fun k h1 h2 => by
        have a := isAt.lt D (good_rr _) k (hsub k h1)
        have b := n84 k h2
        have : w.drew.heap.size = w.heap.size := rfl
        omega) (fun xs' h' => by rw [own_unique h' q1, htk]; exact ho) hg hnb
    have u6 : UpdP Fk F6 w w4 := by
      refine ⟨⟨z3.os.trans c2'.os, z3.tape.trans c2'.tape, z3.output.trans c2'.output, Nat.le_trans c2'.size z3.size, fun k hk hn => (z3.block k (Nat.lt_of_lt_of_le hk c2'.size) hn).trans (c2'.block k hk (by simp))⟩, fun k hk => ?_⟩
      rcases z2.sub k hk with h | h
      · rcases h with h | h
        · exact .inl h
        · exact .inr (n84 k h)
      · exact .inr (Nat.le_trans c2'.size h)
    have z1' : wordsT (p.1.words.take (k + 1)) w4 F6 y' := by
      have e : p.1.words.take (k + 1) = p.1.words.take k ++ [l] := by rw [List.take_add_one, hl]; rfl
      rw [wordsT, e, List.length_append, List.map_append]; exact z1
    obtain ⟨ok, o1, o2, _, F5', t1, t2⟩ := hput w4 F6 (wordsT (p.1.words.take (k + 1))) y' u6 (good_words _) z1'
    rw [st_84 (o := 0 + 6) o1 o2 ok]
    rw [rrT_w] at t1
    simp -implicitDefEqProofs only [am, aq (n := (k : Int) + 1) (by omega) (by omega), ab]
    have := ih (k + 1) _ F5' (chg_updP cw t2 n5) t1 (updP_new cw t2 n5) (by omega)
    rw [Int.natCast_add k 1] at this
    exact this
end
end Go.Proofs.YteapggpkgfiacaaGreat

namespace Go.Proofs.YteapggpkgfiacaaGreat
open Go Ev Go.RowKit

section
variable {W w Wi : World} {g g3 b5 : Nat} {x : RfV} {F : Fp}
theorem rgA_5 {p : RgV × Bool} {a b c v : Value} : (rgA p a b c).setIfInBounds (0 + 5) v = rgA p v b c := rfl
theorem rgA_6 {p : RgV × Bool} {a b c v : Value} : (rgA p a b c).setIfInBounds (0 + 6) v = rgA p a v c := rfl
theorem rgA_7 {p : RgV × Bool} {a b c v : Value} : (rgA p a b c).setIfInBounds (0 + 7) v = rgA p a b v := rfl
theorem l_rCopy2 (I : RfI W g x F) (B : CpB x) : ∀ (d i : Nat) (w : World) (F3 : Fp), Chg [] W w → RfI w g3 (cp2 x i) F3 → (∀ k, F3 k → W.heap.size ≤ k) → i + d = x.holds.length →
    P60_2 (.pointer (some ⟨g, 0, none⟩)) (.pointer (some ⟨g3, 0, none⟩)) (.int .i64 i) w (CpQ W x) := by
  have bh := B.h
  intro d
  induction d with
  | zero =>
    intro i w F3 cW C n3 hi
    apply L60_2_ok
    obtain ⟨s, gn, r, dd, h, R⟩ := (I.keep cW).rd
    obtain ⟨Fh, hFh⟩ := R.hT
    obtain ⟨Ah, ch, xh, Fsh, rfl, _⟩ := isRow.rd hFh
    have hlt : ¬ ((i : Int) < x.holds.length) := by omega
    simp -implicitDefEqProofs only [L60_2, ah, zS, fa_112_6, ld_110, R.hl, len_110, hlt]
    have e : cp2 x i = x := by rw [cp2, List.take_of_length_le (by omega)]
    rw [e] at C
    exact ⟨g3, F3, rfl, C, n3, cW⟩
  | succ d ih =>
    intro i w F3 cW C n3 hi
    apply L60_2_ok
    have cd : Chg [] w w.drew := (Chg.refl _ _).drew
    obtain ⟨s, gn, r, dd, h, R⟩ := (I.keep cW).rd
    obtain ⟨Fh, hFh⟩ := R.hT
    have hil : i < x.holds.length := by omega
    obtain ⟨l, hl⟩ : ∃ l, x.holds[i]? = some l := ⟨_, List.getElem?_eq_getElem hil⟩
    obtain ⟨b, c, v, rfl, hv, hk⟩ := hold_at hFh hl
    obtain ⟨A, cl, rfl, hR⟩ := flat_src hk
    have ia := ia_110 (b := b) (p := 0) (n := x.holds.length) (c := c) (j := .i64) (i := (i : Int)) (by omega) (by omega)
    rw [Int.toNat_natCast, Nat.zero_add, Nat.mul_one] at ia
    have hlt : (i : Int) < x.holds.length := by omega
    obtain ⟨v9, Fk, hsub, hng, hl9, hR9, hput⟩ := isAt.repl C (good_rf _) (k := 11) (P := holdsT (x.holds.take i)) rfl
    have hl9' : ldC (hp w g3) (0 + 11) = some v9 := hl9
    have hll := B.k l (List.mem_of_getElem? hl)
    have hR' : RdV w.drew A (l.flatMap nmC) := hR.keep cd.below
    simp -implicitDefEqProofs only [L60_2, ah, zS, fa_112_6, ld_110, ld_127, R.hl, ia, len_110, hlt, aT, hl9', hv]
    refine cp_keys (by omega) hR' fun v84 w2 T84 n84 c2 => ?_
    obtain ⟨A84, c84, rfl, _⟩ := flat_src ⟨_, T84⟩
    have c2' := cd.trans c2
    have hR9' := (good_holds _).frame hR9 (ChgP.of0 c2' none') fun _ _ h => h
    obtain ⟨ys, Gs6, q1, q2, q3, q4⟩ := hR9'
    have htk : (x.holds.take i).length = i := by rw [List.length_take]; omega
    have q1' := q1
    rw [htk] at q1'
    refine ps_110 (by simp) q1' (by omega) (Nat.zero_le _) fun y' w4 ho hg hnb => ?_
    obtain ⟨F6, z1, z2, z3⟩ := isRow.grow (G := fun b => (Value.slice A84 l.length c84).ownBlock = some b) (m := 1) ⟨ys, Gs6, q1, q2, q3, q4⟩ (good_holdsL _) (fun P hP => by rw [List.mem_singleton.1 hP]; exact good_keys _) (one_parts T84)
      under1 (fun k h1 h2 => by
        have a := isAt.lt C (good_rf _) k (hsub k h1)
        have b := n84 k h2
        have : w.drew.heap.size = w.heap.size := rfl
        omega) (fun xs' h' => by rw [own_unique h' q1, htk]; exact ho) hg hnb
    have u6 : UpdP Fk F6 w w4 := by
      refine ⟨⟨z3.os.trans c2'.os, z3.tape.trans c2'.tape, z3.output.trans c2'.output, Nat.le_trans c2'.size z3.size, fun k hk hn => (z3.block k (Nat.lt_of_lt_of_le hk c2'.size) hn).trans (c2'.block k hk (by simp))⟩, fun k hk => ?_⟩
      rcases z2.sub k hk with h | h
      · rcases h with h | h
        · exact .inl h
        · exact .inr (n84 k h)
      · exact .inr (Nat.le_trans c2'.size h)
    have z1' : holdsT (x.holds.take (i + 1)) w4 F6 y' := by
      have e : x.holds.take (i + 1) = x.holds.take i ++ [l] := by rw [List.take_add_one, hl]; rfl
      rw [holdsT, e, List.length_append, List.map_append]; exact z1
    obtain ⟨ok, o1, o2, _, F5', t1, t2⟩ := hput w4 F6 (holdsT (x.holds.take (i + 1))) y' u6 (good_holds _) z1'
    rw [st_110 (o := 0 + 11) o1 o2 ok]
    simp -implicitDefEqProofs only [am, aq (n := (i : Int) + 1) (by omega) (by omega), ab]
    have := ih (i + 1) _ F5' (chg_updP cW t2 n3) t1 (updP_new cW t2 n3) (by omega)
    rw [Int.natCast_add i 1] at this
    exact this
set_option maxHeartbeats 2000000 in
theorem l_rCopy0 (I : RfI W g x F) (B : CpB x) : ∀ (d i : Nat) (w : World) (F3 : Fp), Chg [] W w → RfI w g3 (cp0 x i) F3 → (∀ k, F3 k → W.heap.size ≤ k) → i + d = x.rgs.length →
    P60_0 (.pointer (some ⟨g, 0, none⟩)) (.pointer (some ⟨g3, 0, none⟩)) (.int .i64 i) w (CpQ W x) := by
  have br := B.r
  intro d
  induction d with
  | zero =>
    intro i w F3 cW C n3 hi
    apply L60_0_ok
    obtain ⟨s, gn, r, dd, h, R⟩ := (I.keep cW).rd
    obtain ⟨Fr, hFr⟩ := R.rT
    obtain ⟨Ah, ch, xh, Fsh, rfl, _⟩ := isRow.rd hFr
    have hlt : ¬ ((i : Int) < x.rgs.length) := by omega
    simp -implicitDefEqProofs only [L60_0, ah, zS, aA, aE, R.rl, len_109, hlt]
    have e : cp0 x i = cp2 x 0 := by rw [cp0, cp2, List.take_of_length_le (by omega)]; rfl
    rw [e] at C
    exact l_rCopy2 I B x.holds.length 0 w F3 cW C n3 (by omega)
  | succ d ih =>
    intro i w F3 cW C n3 hi
    apply L60_0_ok
    obtain ⟨s, gn, r, dd, h, R⟩ := (I.keep cW).rd
    obtain ⟨Fr, hFr⟩ := R.rT
    have hil : i < x.rgs.length := by omega
    obtain ⟨p, hp'⟩ : ∃ p, x.rgs[i]? = some p := ⟨_, List.getElem?_eq_getElem hil⟩
    obtain ⟨bc, bw, bo, bl⟩ := B.c p (List.mem_of_getElem? hp')
    obtain ⟨b, c, rfl, cv, wv, ov, Q⟩ := rr_at hFr hp'
    obtain ⟨Ac, cc, rfl, hRc⟩ := flat_src Q.cT
    obtain ⟨Ao, co, rfl, hRo⟩ := flat_src Q.oT
    obtain ⟨Fw, hFw⟩ := Q.wT
    obtain ⟨Aw, cw, xw, Fsw, rfl, _⟩ := isRow.rd hFw
    have ia := ia_rgs (b := b) (c := c) hil
    have hlt : (i : Int) < x.rgs.length := by omega
    simp -implicitDefEqProofs only [L60_0, ah, zS, aA, aE, R.rl, ia, len_109, hlt, ld_rg Q, al_126]
    rw [st_126 (by rfl) (by rfl) (by rw [aa, if_pos rfl]; rfl) (by rw [aa, if_pos rfl]; rfl), aa, if_pos rfl, ay]
    generalize hw1 : put (w.alloc _) w.heap.size _ _ = w1
    have c1 : Chg [] w w1 := by rw [← hw1]; exact ((Chg.refl _ _).alloc _).put (.inr (Nat.le_refl _)) _ _
    have s1 : w.heap.size < w1.heap.size := by rw [← hw1]; simp
    have a5 : hp w1 w.heap.size = some (.cells (rgA p (.slice Ac p.1.chunks.length cc) (.slice Aw p.1.words.length cw) (.slice Ao p.1.objs.length co)) 126) := by rw [← hw1]; exact ar (by simp) _ _
    clear hw1
    generalize hb5 : w.heap.size = b5 at *
    have f5 : ldC (hp w1 b5) (0 + 5) = some (.slice Ac p.1.chunks.length cc) := by rw [a5]; rfl
    simp -implicitDefEqProofs only [fa_126_5, ld_26, f5, zS]
    refine cp_ints bc (hRc.keep c1.below) fun v5 w2 T5 n5 c2 => ?_
    have a52 := c2.at a5 (by simp)
    have o5 := (aM _).one T5
    rw [st_26 (o := 0 + 5) o5.1 o5.2 (by rw [a52, okC_some]; exact decide_eq_true (by show 0 + 5 + 1 ≤ 8; omega)), a52, bm, ay, rgA_5]
    have p3 := ChgP.put w2 b5 (rgA p v5 (.slice Aw p.1.words.length cw) (.slice Ao p.1.objs.length co)) 126
    have a53 : hp (put w2 b5 (rgA p v5 (.slice Aw p.1.words.length cw) (.slice Ao p.1.objs.length co)) 126) b5 = some (.cells (rgA p v5 (.slice Aw p.1.words.length cw) (.slice Ao p.1.objs.length co)) 126) := ar (av a52) _ _
    have cc3 : Chg [] w (put w2 b5 (rgA p v5 (.slice Aw p.1.words.length cw) (.slice Ao p.1.objs.length co)) 126) := (c1.trans c2).put (.inr (by omega)) _ _
    generalize put w2 b5 (rgA p v5 (.slice Aw p.1.words.length cw) (.slice Ao p.1.objs.length co)) 126 = w3 at *
    have f7 : ldC (hp w3 b5) (0 + 7) = some (.slice Ao p.1.objs.length co) := by rw [a53]; rfl
    simp -implicitDefEqProofs only [fa_126_6, fa_126_7, ld_44, f7, ab]
    refine cp_objs bo (hRo.keep cc3.below) fun v7 w4 T7 n7 c4 => ?_
    have a54 := c4.at a53 (by simp)
    have o7 := (good_objs _).one T7
    rw [st_44 (o := 0 + 7) o7.1 o7.2 (by rw [a54, okC_some]; exact decide_eq_true (by show 0 + 7 + 1 ≤ 8; omega)), a54, bm, ay, rgA_7]
    have a55 : hp (put w4 b5 (rgA p v5 (.slice Aw p.1.words.length cw) v7) 126) b5 = some (.cells (rgA p v5 (.slice Aw p.1.words.length cw) v7) 126) := ar (av a54) _ _
    rw [st_84 (o := 0 + 6) rfl rfl (by rw [a55, okC_some]; exact decide_eq_true (by show 0 + 6 + 1 ≤ 8; omega)), a55, bm, ay, rgA_6, put_put]
    have p6 := ChgP.put w4 b5 (rgA p v5 (.slice none 0 0) v7) 126
    have a56 : hp (put w4 b5 (rgA p v5 (.slice none 0 0) v7) 126) b5 = some (.cells (rgA p v5 (.slice none 0 0) v7) 126) := ar (av a54) _ _
    have cc6 : Chg [] w (put w4 b5 (rgA p v5 (.slice none 0 0) v7) 126) := (cc3.trans c4).put (.inr (by omega)) _ _
    generalize put w4 b5 (rgA p v5 (.slice none 0 0) v7) 126 = w6 at *
    have nb5 : ∀ k, v5.ownBlock = some k → k ≠ b5 := fun k hk => by have := n5 k hk; omega
    have s3 := c2.size
    have s4 := p3.size
    have nb7 : ∀ k, v7.ownBlock = some k → k ≠ b5 := fun k hk => by have := n7 k hk; omega
    have d57 : FDis (fun b => v5.ownBlock = some b) (fun b => v7.ownBlock = some b) := fun k h1 h2 => by
      have := (aM _).lt T5 k h1
      have := n7 k h2
      omega
    have T5' := (aM _).frame ((aM _).frame ((aM _).frame T5 p3 fun k h1 h2 => nb5 k h1 h2) (ChgP.of0 c4 none') fun _ _ h => h) p6 fun k h1 h2 => nb5 k h1 h2
    have T7' := (good_objs _).frame T7 p6 fun k h1 h2 => nb7 k h1 h2
    have hparts : Parts w6 (rrT (cutW p 0)) (rgA (cutW p 0) v5 (.slice none 0 0) v7).toList (rrF (fun b => v5.ownBlock = some b) none' (fun b => v7.ownBlock = some b)) :=
      rr_parts (p := cutW p 0) T5' isRow.nil T7' (fun _ _ h => h) d57 (fun _ h _ => h)
    have hund : ∀ k, under 8 (rrF (fun b => v5.ownBlock = some b) none' (fun b => v7.ownBlock = some b)) k → b5 < k := fun k ⟨j, _, hj⟩ => by
      unfold rrF at hj
      split at hj
      · have := n5 k hj; omega
      · split at hj
        · exact hj.elim
        · split at hj
          · have := n7 k hj; omega
          · exact hj.elim
    have D : isAt 126 b5 (rrT (cutW p 0)) w6 (fun b => b = b5 ∨ under (rrT (cutW p 0)).length (rrF (fun b => v5.ownBlock = some b) none' (fun b => v7.ownBlock = some b)) b) :=
      ⟨_, _, a56, hparts, fun h => by have := hund b5 h; omega, fun _ => Iff.rfl⟩
    have := l_rCopy1 I B hp' C cW n3 (fun w F3 c C' n' => by
      have := ih (i + 1) w F3 c C' n' (by omega)
      rw [Int.natCast_add i 1] at this
      exact this) p.1.words.length 0 w6 _ cc6 D (fun k hk => by
        rw [hb5]
        rcases hk with hk | hk
        · omega
        · exact Nat.le_of_lt (hund k hk)) (by omega)
    exact this
set_option maxHeartbeats 2000000 in
theorem c_rCopy (I : RfI w g x F) (B : CpB x) : CallR Tryz.prog 60 [.pointer (some ⟨g, 0, none⟩)] w (CpQ w x) := by
  apply F60_ok
  have cd : Chg [] w w.drew := (Chg.refl _ _).drew
  obtain ⟨s, gn, r, dd, h, R⟩ := I.rd
  obtain ⟨As, cs, rfl, hRs⟩ := flat_src R.sT
  obtain ⟨Ag, cg, rfl, hRg⟩ := flat_src R.gT
  obtain ⟨Ad, cdd, rfl, hRd⟩ := flat_src R.dT
  have R' := R.keep cd
  have lc : ldv Tryz.prog 23 (.pointer (some ⟨g, 0 + 0, none⟩)) w.drew = some (.agg (cfC x.c).toArray) := by
    rw [ld_23, ldL_take 6 _ (cfC x.c) rfl fun j u hj => by
      rw [R'.c j (by have := (List.getElem?_eq_some_iff.1 hj).1; exact this), hj]]
    rfl
  have hl6 : ldC (hp w g) (0 + 6) = some (.bool x.loose) := R.l
  simp -implicitDefEqProofs only [F60, ah, ab, fa_112_0, fa_112_1, fa_112_2, fa_112_3, fa_112_5, ld_4, ld_26, lc, aT, R.sl, R.gl, R.dl, hl6]
  refine cp_ints B.s (hRs.keep cd.below) fun v2 w2 T2 n2 c2 => ?_
  refine cp_ints B.g (hRg.keep (cd.trans c2).below) fun v3 w3 T3 n3 c3 => ?_
  refine cp_ints B.d (hRd.keep ((cd.trans c2).trans c3).below) fun v4 w4 T4 n4 c4 => ?_
  obtain ⟨A2, k2, rfl, _⟩ := flat_src ⟨_, T2⟩
  obtain ⟨A3, k3, rfl, _⟩ := flat_src ⟨_, T3⟩
  obtain ⟨A4, k4, rfl, _⟩ := flat_src ⟨_, T4⟩
  have hbd : pureRun Tryz.prog (Instr.build 112 #[(0, .agg (cfC x.c).toArray), (1, .bool x.loose), (2, .slice A2 x.state.length k2), (3, .slice A3 x.gen.length k3), (5, .slice A4 x.depth.length k4)]) =
    some (.agg (cfC x.c ++ [Value.bool x.loose, .slice A2 x.state.length k2, .slice A3 x.gen.length k3, .slice none 0 0, .slice A4 x.depth.length k4, .slice none 0 0]).toArray) := bd_112_0_1_2_3_5
  simp -implicitDefEqProofs only [hbd, ak, au, ab]
  have l2 := fun k h => (aM _).lt T2 k h
  have l3 := fun k h => (aM _).lt T3 k h
  have T2' := (aM _).frame T2 (ChgP.of0 (c3.trans c4) none') fun _ _ h => h
  have T3' := (aM _).frame T3 (ChgP.of0 c4 none') fun _ _ h => h
  have s2 := c2.size
  have s3 := c3.size
  have s4 := c4.size
  have hp' := rf_parts (w := w4) (x := cp0 x 0) T2' T3' (Fr := none') (rv := .slice none 0 0) isRow.nil T4 (Fh := none') (hv := .slice none 0 0) isRow.nil (by
    intro i j hi hj hij b h1 h2
    have hi' : i = 0 ∨ i = 1 ∨ i = 2 ∨ i = 3 ∨ i = 4 := by omega
    have hj' : j = 0 ∨ j = 1 ∨ j = 2 ∨ j = 3 ∨ j = 4 := by omega
    have e2 : ∀ b, (Value.slice A2 x.state.length k2).ownBlock = some b → b < w2.heap.size := l2
    have e3 : ∀ b, (Value.slice A3 x.gen.length k3).ownBlock = some b → w2.heap.size ≤ b ∧ b < w3.heap.size := fun b hb => ⟨n3 b hb, l3 b hb⟩
    have e4 : ∀ b, (Value.slice A4 x.depth.length k4).ownBlock = some b → w3.heap.size ≤ b := n4
    rcases hi' with rfl | rfl | rfl | rfl | rfl <;> rcases hj' with rfl | rfl | rfl | rfl | rfl <;> first
      | omega
      | (simp only [if_true, if_false, Nat.reduceEqDiff, none'] at h1 h2; done)
      | (simp only [if_true, if_false, Nat.reduceEqDiff, none'] at h1 h2
         first
         | (have p := e2 b h1; have q := e3 b h2; omega)
         | (have p := e2 b h1; have q := e4 b h2; omega)
         | (have p := e3 b h1; have q := e2 b h2; omega)
         | (have p := e3 b h1; have q := e4 b h2; omega)
         | (have p := e4 b h1; have q := e2 b h2; omega)
         | (have p := e4 b h1; have q := e3 b h2; omega)))
  have cW := (((cd.trans c2).trans c3).trans c4).alloc (.cells (cfC x.c ++ [Value.bool x.loose, .slice A2 x.state.length k2, .slice A3 x.gen.length k3, .slice none 0 0, .slice A4 x.depth.length k4, .slice none 0 0]).toArray 112)
  have C := isAt.new (e := 112) hp' (good_rf _)
  refine l_rCopy0 I B x.rgs.length 0 _ _ cW C (fun k hk => ?_) (by omega)
  have sd : w.drew.heap.size = w.heap.size := rfl
  rcases hk with hk | ⟨j, _, hk⟩
  · omega
  · split at hk
    · exact hk.elim
    · repeat' split at hk
      · have := n2 k hk; omega
      · have := n3 k hk; omega
      · exact hk.elim
      · have := n4 k hk; omega
      · exact hk.elim
theorem cpB_rf {m : MdV} {K : Nat} (Wm : Wf m K) (hK : K ≤ 1000000) (hh : m.hands.length ≤ 1000000) : CpB (toRf m) := by
  have h1 := Wm.rl
  have h2 := Wm.sl
  refine ⟨by simp [toRf]; omega, fun p hp => ?_, by simp [toRf]; omega, by simp [toRf]; omega, by simp [toRf]; omega, by simp [toRf]; omega, fun l hl => ?_⟩
  · simp only [toRf, List.mem_map] at hp
    obtain ⟨r, hr, rfl⟩ := hp
    have R := Wm.rg r hr
    have a := R.cl
    have b := R.wl
    have c := R.ol
    have w2 := Wm.w2
    refine ⟨by simp only; omega, by simp only; omega, by simp only; omega, fun l hl => by have := R.ww l hl; omega⟩
  · simp only [toRf, List.mem_map] at hl
    obtain ⟨d, hd, rfl⟩ := hl
    have D := Wm.hd d hd
    omega
end
end Go.Proofs.YteapggpkgfiacaaGreat

namespace Go.Proofs.YteapggpkgfiacaaGreat
open Go Ev Go.RowKit

theorem Ev.ChgP.seq {F : Fp} {a b c : World} (h : ChgP F a b) (k : ChgP F b c) : ChgP F a c := (UpdP.trans (F := F) (G := F) (H := F) ⟨h, fun _ hk => .inl hk⟩ ⟨k, fun _ hk => .inl hk⟩).chg
theorem mayB_wk {l : List SpV} (h : mayB l = true) {i : Nat} (hi : i < l.length) : 0 ≤ l[i].wk := by
  have hm : mayL l := @of_decide_eq_true _ (Classical.propDecidable _) h
  have := (hm i hi l[i] (List.getElem?_eq_getElem hi)).1
  unfold right at this
  simp only [Bool.and_eq_true, decide_eq_true_eq] at this
  omega
theorem goV_top {rec : MdV → List Int → Int → SkO} {l : List SpV} {top : Int} {m : MdV} {put : List Int} (hr : ∀ m p t, t ≤ top → (rec m p t).2.2.1 ≤ top) : ∀ {is : List Nat} {t : Int}, t ≤ top → (goV rec l top m put is t).2.2.1 ≤ top
  | [], t, h => h
  | i :: is, t, h => by
    unfold goV
    split
    · exact goV_top hr h
    · cases hl : l[i]? with
      | none => exact h
      | some s =>
        simp only
        cases hre : resV l m s with
        | none => exact goV_top hr h
        | some r =>
          simp only
          split
          · exact h
          · split
            · exact goV_top hr (by omega)
            · have h1 := hr (doV m s.wk s.op (handV l s) r).2 (put ++ [(i : Int)]) (t + 1) (by omega)
              generalize rec (doV m s.wk s.op (handV l s) r).2 (put ++ [(i : Int)]) (t + 1) = R at *
              obtain ⟨b, p', t', mn⟩ := R
              cases b with
              | true => exact h1
              | false =>
                cases mn with
                | true => exact h1
                | false => exact goV_top hr h1
theorem findV_top {l : List SpV} {top : Int} : ∀ {f : Nat} {m : MdV} {p : List Int} {t : Int}, t ≤ top → (findV l top f m p t).2.2.1 ≤ top
  | 0, m, p, t, h => h
  | f + 1, m, p, t, h => by
    unfold findV
    split
    · exact h
    · exact goV_top (fun m p t h => findV_top h) h
theorem sli_rd {w : World} {A : Option Addr} {c : Nat} {put : List Int} (h : RdV w A (ints put)) : SlI w (.slice A put.length c) put := ⟨A, c, rfl, fun i hi => by
  obtain ⟨p, hp, hc⟩ := h i (.int .i64 put[i]) (by simp [ints, hi])
  exact ⟨p, hp, by rw [hc, List.getD_eq_getElem?_getD, List.getElem?_eq_getElem hi]; rfl⟩⟩
theorem ap_ints2 {w : World} {A : Option Addr} {c : Nat} {put : List Int} {K : Value → World → Prop} (hl : put.length ≤ 1000) (hR : RdV w A (ints put)) (x : Int)
    (hk : ∀ A' c' w', RdV w' A' (ints (put ++ [x])) → (∀ p, A' = some p → w.heap.size ≤ p.block) → Chg [] w w' → K (.slice A' (put.length + 1) c') w') : effv Tryz.prog (Builtin.append_ #[26, 26] 26 #[(.slice none 0 0), .slice A put.length c]) w fun t115 w => effv Tryz.prog (Instr.buildSlice 26 1 #[(0, .int .i64 x)]) w fun t117 w => effv Tryz.prog (Builtin.append_ #[26, 26] 26 #[t115, t117]) w K := by
  obtain ⟨i, hi, hz, hs, hb⟩ := inf_3
  refine eff_append (base := w.heap.size) (xs := []) (n := 0) (news := ints put) (m := put.length) Tryz.underlying26 hi hz hs rfl (by omega) (World.ownsRow_nil _ _ _ _) (by simp [ints]) (fun j u hj => hR j u hj) (fun u hu => ?_) (by unfold maxLen; omega) (by rw [hb]; omega) (Nat.le_refl _)
    fun x1 w1 o1 g1 => ?_
  · simp only [ints, List.mem_map] at hu
    obtain ⟨y, _, rfl⟩ := hu; rfl
  have c1 : Chg [] w w1 := (Chg.refl _ _).grown g1 fun k hk => by simp [Value.ownBlock] at hk
  rw [List.nil_append, Nat.zero_add] at o1
  refine ps_26 (by simp) o1 (by omega) c1.size fun x2 w2 o2 g2 _ => ?_
  have c2 : Chg [] w w2 := c1.grown g2 fun k hk => .inr (own_ge o1 hk)
  have : ints (put ++ [x]) = ints put ++ [.int .i64 x] := by simp [ints]
  rw [← this] at o2
  obtain ⟨A', c', rfl, hR', hB', _⟩ := ba o2
  exact hk A' c' w2 hR' (fun p hp => (hB' p hp).1) c2
theorem fA_1 {A : Option Addr} {n cs : Nat} {left x : Int} {mn : Bool} : (fA A n cs left mn).setIfInBounds (0 + 1) (.int .i64 x) = fA A n cs x mn := rfl
theorem fA_2 {A : Option Addr} {n cs : Nat} {left : Int} {mn x : Bool} : (fA A n cs left mn).setIfInBounds (0 + 2) (.bool x) = fA A n cs left x := rfl
section
variable {sk : Nat} {A : Option Addr} {cs : Nat} {l : List SpV} {top : Int}
def FP (sk : Nat) (A : Option Addr) (cs : Nat) (l : List SpV) (top : Int) (w0 : World) (r : SkO) (v : Value) (w' : World) : Prop :=
  ∃ Ap cp, v = .tuple #[.slice Ap (if r.1 = true then r.2.1 else []).length cp, .bool r.1] ∧ RdV w' Ap (ints (if r.1 = true then r.2.1 else [])) ∧ (∀ p, Ap = some p → p.block ≠ sk) ∧
    hp w' sk = some (.cells (fA A l.length cs (top - r.2.2.1) r.2.2.2) 71) ∧ ChgP (· = sk) w0 w'
theorem FP.pre {w0 w1 : World} {r : SkO} {v : Value} {w' : World} (h : FP sk A cs l top w1 r v w') (c : ChgP (· = sk) w0 w1) : FP sk A cs l top w0 r v w' := by
  obtain ⟨Ap, cp, a, b, d, e, f⟩ := h
  exact ⟨Ap, cp, a, b, d, e, c.seq f⟩
theorem FP.nil {w0 w' : World} {put : List Int} {t : Int} {mn : Bool} (h : hp w' sk = some (.cells (fA A l.length cs (top - t) mn) 71)) (c : ChgP (· = sk) w0 w') : FP sk A cs l top w0 (false, put, t, mn) (.tuple #[.slice none 0 0, .bool false]) w' :=
  ⟨none, 0, rfl, RdV.nil _ _, fun p hp => (by cases hp), h, c⟩
def FFromC (sk : Nat) (A : Option Addr) (cs : Nat) (l : List SpV) (top : Int) (c : CfV) (f : Nat) : Prop := ∀ (m : MdV) (g : Nat) (F : Fp) (K : Nat) (put : List Int) (t : Int) (Ap : Option Addr) (cp : Nat) (w : World),
  hp w sk = some (.cells (fA A l.length cs (top - t) false) 71) → RdV w A (l.flatMap spC) → RdV w Ap (ints put) → (∀ p, Ap = some p → p.block ≠ sk) → RfI w g (toRf m) F → ¬ F sk → StO m c K → K + f ≤ 900 → put.length + f ≤ 900 → 0 ≤ t → t ≤ top → leftN l put < f →
  CallR Tryz.prog 34 [.pointer (some ⟨sk, 0, none⟩), .pointer (some ⟨g, 0, none⟩), .slice Ap put.length cp] w (FP sk A cs l top w (findV l top f m put t))
set_option maxHeartbeats 4000000 in
theorem l_ffrom (hl : l.length ≤ 12) (hmay : mayB l = true) (hnA : ∀ p, A = some p → l ≠ [] → p.block ≠ sk) (htop : top ≤ 9223372036854775807) {c : CfV} (hc : mayC c = true) {f : Nat} (rec : FFromC sk A cs l top c f) {m : MdV} {g : Nat} {F : Fp} {K : Nat} {put : List Int} (Sm : StO m c K) (hK : K + f ≤ 899) (hp9 : put.length + f ≤ 899) (hleft : leftN l put ≤ f) {W : World} {Ap : Option Addr} {cp : Nat}
    (hA : RdV W A (l.flatMap spC)) (hP : RdV W Ap (ints put)) (hnP : ∀ p, Ap = some p → p.block ≠ sk) (I : RfI W g (toRf m) F) (hF : ¬ F sk) :
    ∀ (d i : Nat) (t : Int) (w : World), hp w sk = some (.cells (fA A l.length cs (top - t) false) 71) → ChgP (· = sk) W w → 0 ≤ t → t ≤ top → i + d = l.length →
    P34_0 (.pointer (some ⟨sk, 0, none⟩)) (.pointer (some ⟨g, 0, none⟩)) (.slice Ap put.length cp) (.int .i64 i) w (FP sk A cs l top W (goV (findV l top f) l top m put (List.range' i d) t)) := by
  have keep : ∀ {w : World}, ChgP (· = sk) W w → RdV w A (l.flatMap spC) ∧ RdV w Ap (ints put) ∧ RfI w g (toRf m) F := fun h =>
    ⟨rd_chgP hA h fun p hp hne => hnA p hp fun e => hne (by rw [e]; rfl), rd_chgP hP h fun p hp _ => hnP p hp, isAt.frame I (good_rf _) h fun b h1 h2 => hF (by rw [← (show b = sk from h2)]; exact h1)⟩
  intro d
  induction d with
  | zero =>
    intro i t w hsk hW ht htt hi
    apply L34_0_ok
    have : ¬ ((i : Int) < l.length) := by omega
    simp -implicitDefEqProofs only [L34_0, ah, zS, fa_71_0, ld_24, fa0 hsk, len_24, this]
    exact FP.nil hsk hW
  | succ d ih =>
    intro i t w hsk hW ht htt hi
    apply L34_0_ok
    have hlt : (i : Int) < l.length := by omega
    have hil : i < l.length := by omega
    obtain ⟨kA, kP, kI⟩ := keep hW
    simp -implicitDefEqProofs only [L34_0, ah, zS, fa_71_0, ld_24, fa0 hsk, len_24, hlt]
    have next : ∀ (t' : Int) (w' : World), hp w' sk = some (.cells (fA A l.length cs (top - t') false) 71) → ChgP (· = sk) W w' → 0 ≤ t' → t' ≤ top →
        P34_1 (.pointer (some ⟨sk, 0, none⟩)) (.pointer (some ⟨g, 0, none⟩)) (.slice Ap put.length cp) (.int .i64 i) w' (FP sk A cs l top W (goV (findV l top f) l top m put (List.range' (i + 1) d) t')) := by
      intro t' w' hsk' hW' ht' htt'
      apply L34_1_ok
      simp -implicitDefEqProofs only [L34_1, am, aq (n := (i : Int) + 1) (by omega) (by omega), zS]
      have := ih (i + 1) t' w' hsk' hW' ht' htt' (by omega)
      rw [Int.natCast_add i 1] at this
      exact this
    have hrange : List.range' i (d + 1) = i :: List.range' (i + 1) d := rfl
    rw [hrange]
    refine (c_fMay (by omega) kA (by omega) hsk (sli_rd kP) hil).mono ?_
    rintro _ w2 ⟨rfl, c2⟩
    have hW2 : ChgP (· = sk) W w2 := hW.seq (ChgP.of0 c2 _)
    have hsk2 := c2.at hsk (by simp)
    cases hn : nextV l put i with
    | false =>
      simp -implicitDefEqProofs only [zS]
      have : goV (findV l top f) l top m put (i :: List.range' (i + 1) d) t = goV (findV l top f) l top m put (List.range' (i + 1) d) t := by
        rw [goV, if_pos hn]
      rw [this]
      exact next t w2 hsk2 hW2 ht htt
    | true =>
    have hgo : goV (findV l top f) l top m put (i :: List.range' (i + 1) d) t = (match resV l m l[i] with
      | none => goV (findV l top f) l top m put (List.range' (i + 1) d) t
      | some r =>
        if top ≤ t then (false, put, t, true) else
        if (doV m l[i].wk l[i].op (handV l l[i]) r).1 = false then goV (findV l top f) l top m put (List.range' (i + 1) d) (t + 1) else
        match findV l top f (doV m l[i].wk l[i].op (handV l l[i]) r).2 (put ++ [(i : Int)]) (t + 1) with
        | (true, p', t', mn) => (true, p', t', mn)
        | (false, p', t', true) => (false, p', t', true)
        | (false, p', t', false) => goV (findV l top f) l top m put (List.range' (i + 1) d) t') := by
      rw [goV, if_neg (by rw [hn]; simp), List.getElem?_eq_getElem hil]
      all_goals rfl
    rw [hgo]
    clear hgo
    obtain ⟨kA2, kP2, kI2⟩ := keep hW2
    obtain ⟨b, o, q1, q2⟩ := sp_at' (c := cs) (j := .i64) (i := i) kA2 hil
    have hwk : 0 ≤ l[i].wk := mayB_wk hmay hil
    have hh := handX_nat hil
    generalize hs : l[i] = s at *
    simp -implicitDefEqProofs only [ah, zS, fa_71_0, ld_24, fa0 hsk2, q1, q2.ld, al_42]
    rw [st_42 (by rfl) (by rfl) (by rw [aa, if_pos rfl]; rfl) (by rw [aa, if_pos rfl]; rfl), aa, if_pos rfl, ay]
    generalize hw3 : Ev.put (w2.alloc _) w2.heap.size (spA s) 42 = w3
    have c3 : Chg [] w2 w3 := by rw [← hw3]; exact ((Chg.refl _ _).alloc _).put (.inr (Nat.le_refl _)) _ _
    have b9 : hp w3 w2.heap.size = some (.cells (spA s) 42) := by rw [← hw3, aR, if_pos rfl, if_pos (by simp)]
    clear hw3
    have skl : sk < w2.heap.size := av hsk2
    generalize hg9 : w2.heap.size = g9 at *
    have hsk3 := c3.at hsk2 (by simp)
    simp -implicitDefEqProofs only [ah, zS, fa_71_0, ld_24, fa0 hsk3]
    refine (c_refHandle (c := cs) (by omega) (kA2.keep c3.below) (i : Int)).mono ?_
    rintro _ w4 ⟨rfl, c4⟩
    rw [hh]
    have b94 := c4.at b9 (by simp)
    simp -implicitDefEqProofs only [al_38]
    rw [st_hn (c := (hnC noH).toArray) (e := 38) (by rw [aa, if_pos rfl]; rfl) rfl]
    generalize hw5 : Ev.put (w4.alloc _) w4.heap.size (hnC (handV l s)).toArray 38 = w5
    have c5 : Chg [] w4 w5 := by rw [← hw5]; exact ((Chg.refl _ _).alloc _).put (.inr (Nat.le_refl _)) _ _
    have b10 : hp w5 w4.heap.size = some (.cells (hnC (handV l s)).toArray 38) := by rw [← hw5, aR, if_pos rfl, if_pos (by simp)]
    clear hw5
    have hg9l : g9 < w4.heap.size := av b94
    generalize hg10 : w4.heap.size = g10 at *
    have b95 := c5.at b94 (by simp)
    simp -implicitDefEqProofs only [zS, fa_42_7, At.ldre b95, al_40]
    rw [st_res (c := _) (e := 40) (by rw [aa, if_pos rfl]) rfl]
    generalize hw6 : Ev.put (w5.alloc _) w5.heap.size (rsC s.re).toArray 40 = w6
    have c6 : Chg [] w5 w6 := by rw [← hw6]; exact ((Chg.refl _ _).alloc _).put (.inr (Nat.le_refl _)) _ _
    have b11 : hp w6 w5.heap.size = some (.cells (rsC s.re).toArray 40) := by rw [← hw6, aR, if_pos rfl, if_pos (by simp)]
    clear hw6
    have hg10l : g10 < w5.heap.size := av b10
    generalize hg11 : w5.heap.size = g11 at *
    have b96 := c6.at b95 (by simp)
    have b106 := c6.at b10 (by simp)
    have c26 : Chg [] w2 w6 := ((c3.trans c4).trans c5).trans c6
    have tryit : ∀ (r : RsV) (w7 : World), Chg [] w2 w7 → hp w7 g9 = some (.cells (spA s) 42) → hp w7 g10 = some (.cells (hnC (handV l s)).toArray 38) → hp w7 g11 = some (.cells (rsC r).toArray 40) →
        P34_2 (.pointer (some ⟨sk, 0, none⟩)) (.pointer (some ⟨g, 0, none⟩)) (.slice Ap put.length cp) (.int .i64 i) (.pointer (some ⟨g9, 0, none⟩)) (.pointer (some ⟨g10, 0, none⟩)) (.pointer (some ⟨g11, 0, none⟩)) w7 (FP sk A cs l top W (
          if top ≤ t then (false, put, t, true) else
          if (doV m s.wk s.op (handV l s) r).1 = false then goV (findV l top f) l top m put (List.range' (i + 1) d) (t + 1) else
          match findV l top f (doV m s.wk s.op (handV l s) r).2 (put ++ [(i : Int)]) (t + 1) with
          | (true, p', t', mn) => (true, p', t', mn)
          | (false, p', t', true) => (false, p', t', true)
          | (false, p', t', false) => goV (findV l top f) l top m put (List.range' (i + 1) d) t')) := by
      intro r w7 c27 b97 b107 b117
      apply L34_2_ok
      have hW7 : ChgP (· = sk) W w7 := hW2.seq (ChgP.of0 c27 _)
      have hsk7 := c27.at hsk2 (by simp)
      have ok : ∀ k, k < 3 → okC (hp w7 sk) (0 + k + 1) = true := fun k hk => by rw [hsk7, okC_some]; exact decide_eq_true (by show 0 + k + 1 ≤ 3; omega)
      by_cases hto : top ≤ t
      · have e0 : (top - t == 0) = true := by rw [show top - t = 0 by omega]; rfl
        simp -implicitDefEqProofs only [L34_2, ah, zS, fa_71_1, fa_71_2, ac, fa1 hsk7, e0]
        rw [aK sz_4 rfl rfl (ok 2 (by omega)), hsk7]
        simp -implicitDefEqProofs only [bm, ay, fA_2, if_pos hto]
        exact FP.nil (ar (av hsk7) _ _) (hW7.seq (ChgP.put _ _ _ _))
      have e0 : (top - t == 0) = false := eqf (by omega)
      simp -implicitDefEqProofs only [L34_2, ah, zS, fa_71_1, fa_71_2, ac, fa1 hsk7, e0, bp_sub, aq (n := top - t - 1) (by omega) (by omega)]
      rw [aK sz_3 rfl rfl (ok 1 (by omega)), hsk7]
      simp -implicitDefEqProofs only [bm, ay, fA_1, if_neg hto]
      have c8 := ChgP.put w7 sk (fA A l.length cs (top - t - 1) false) 71
      have hsk8 : hp (Ev.put w7 sk (fA A l.length cs (top - t - 1) false) 71) sk = some (.cells (fA A l.length cs (top - (t + 1)) false) 71) := by rw [ar (av hsk7), show top - (t + 1) = top - t - 1 by omega]
      have b98 := c8.at b97 (by omega)
      have b108 := c8.at b107 (by omega)
      have b118 := c8.at b117 (by omega)
      generalize Ev.put w7 sk (fA A l.length cs (top - t - 1) false) 71 = w8 at *
      have hW8 := hW7.seq c8
      obtain ⟨kA8, kP8, kI8⟩ := keep hW8
      refine (c_rCopy kI8 (cpB_rf Sm.wf (by omega) (Sm.hands hc))).mono ?_
      rintro _ w9 ⟨g3, F3, rfl, I9, hF3, c9⟩
      have b99 := c9.at b98 (by simp)
      have b109 := c9.at b108 (by simp)
      have b119 := c9.at b118 (by simp)
      have hsk9 := c9.at hsk8 (by simp)
      have f90 : ldC (hp w9 g9) (0 + 0) = some (.int .i64 s.wk) := sp_c b99 0
      simp -implicitDefEqProofs only [zS, fa_42_0, fa_42_2, ac, f90, (at_blk b99).ldop, ld_hn b109, ld_rs b119]
      refine (c_rDo I9 Sm.wf Sm.wn (by omega) s.wk s.op (handV l s) r).mono ?_
      rintro _ w10 ⟨rfl, F4, I10, u10⟩
      have c810 : Chg [] w8 w10 := chg_updP c9 u10 hF3
      have hF4 := updP_new c9 u10 hF3
      have hW10 : ChgP (· = sk) W w10 := hW8.seq (ChgP.of0 c810 _)
      have hsk10 := c810.at hsk8 (by simp)
      cases hdo : (doV m s.wk s.op (handV l s) r).1 with
      | false =>
        simp -implicitDefEqProofs only [zS, if_true]
        exact next (t + 1) w10 hsk10 hW10 (by omega) (by omega)
      | true =>
      simp -implicitDefEqProofs only [zS, if_false, Bool.true_eq_false]
      have kP10 := kP8.keep c810.below
      refine ap_ints2 (by omega) kP10 (i : Int) fun A11 c11 w11 hP11 hB11 c1011 => ?_
      have hlf := leftN_lt hil hn
      have hsk11 := c1011.at hsk10 (by simp)
      have hs8 : sk < w8.heap.size := av hsk8
      have s810 := c810.size
      have hF4s : ¬ F4 sk := fun h => by have := hF4 sk h; omega
      have hlen : put.length + 1 = (put ++ [(i : Int)]).length := by simp
      rw [hlen]
      refine (rec _ g3 F4 (K + 1) (put ++ [(i : Int)]) (t + 1) A11 c11 w11 hsk11 ((kA8.keep c810.below).keep c1011.below) hP11 (fun p hp => by have := hB11 p hp; omega) (I10.keep c1011) hF4s (Sm.doV (by omega) _ _ _ _) (by omega) (by simp; omega) (by omega) (by omega) (by omega)).mono ?_
      rintro v w12 ⟨A12, c12, rfl, hR12, hB12, hsk12, cW12⟩
      have ht' := findV_t (l := l) (top := top) (f := f) (m := (doV m s.wk s.op (handV l s) r).2) (p := put ++ [(i : Int)]) (t := t + 1)
      have htt' := findV_top (l := l) (top := top) (f := f) (m := (doV m s.wk s.op (handV l s) r).2) (p := put ++ [(i : Int)]) (t := t + 1) (by omega)
      have hW12 : ChgP (· = sk) W w12 := (hW10.seq (ChgP.of0 c1011 _)).seq cW12
      generalize findV l top f (doV m s.wk s.op (handV l s) r).2 (put ++ [(i : Int)]) (t + 1) = R at *
      obtain ⟨bb, p', t', mn'⟩ := R
      simp only at hsk12 ht' htt' hR12
      cases bb with
      | true =>
        simp -implicitDefEqProofs only [tup0, tup1, zS, ah, if_true]
        exact ⟨A12, c12, by first | rfl | simp, by simpa using hR12, hB12, hsk12, hW12⟩
      | false =>
      simp -implicitDefEqProofs only [tup0, tup1, zS, ah, fa_71_2, ld_4, fa2 hsk12]
      cases mn' with
      | true =>
        simp -implicitDefEqProofs only [zS]
        exact ⟨A12, c12, by first | rfl | simp, by simpa using hR12, hB12, hsk12, hW12⟩
      | false =>
      simp -implicitDefEqProofs only [zS]
      exact next t' w12 hsk12 hW12 (by omega) htt'
    have f11 : ldC (hp w6 g9) (0 + 11) = some (.int .i64 s.rs) := sp_c b96 11
    have f9 : ldC (hp w6 g9) (0 + 9) = some (.int .i64 s.pt) := sp_c b96 9
    by_cases h1 : s.rs < 0
    case neg =>
      have hr : resV l m s = some s.re := by rw [resV, if_neg (fun h => h1 h.1)]
      rw [hr]
      simp -implicitDefEqProofs only [zS, fa_42_6, ac, f11, h1]
      exact tryit s.re w6 c26 b96 b106 b11
    by_cases h2 : s.pt < 0
    case neg =>
      have hr : resV l m s = some s.re := by rw [resV, if_neg (fun h => h2 h.2)]
      rw [hr]
      simp -implicitDefEqProofs only [zS, fa_42_4, fa_42_6, ac, f11, f9, h1, h2]
      exact tryit s.re w6 c26 b96 b106 b11
    have hr : resV l m s = if (mustV m s.wk s.op (handV l s)).2 = true then some (mustV m s.wk s.op (handV l s)).1 else none := by rw [resV, if_pos ⟨h1, h2⟩]
    have opd : ldv Tryz.prog 36 (.pointer (some ⟨g9, 0 + 2, none⟩)) w6.drew = some (.agg (opC s.op).toArray) := (at_blk (show hp w6.drew g9 = _ from b96)).ldop
    simp -implicitDefEqProofs only [zS, fa_42_2, fa_42_4, fa_42_6, ac, f11, f9, h1, h2, opd]
    refine (c_refMay s.op w6.drew).mono ?_
    rintro _ w7 ⟨rfl, c7⟩
    have c67 : Chg [] w6 w7 := (Chg.refl [] w6).drew.trans c7
    have c27 := c26.trans c67
    have hW7 : ChgP (· = sk) W w7 := hW2.seq (ChgP.of0 c27 _)
    have hsk7 := c27.at hsk2 (by simp)
    have b97 := c67.at b96 (by simp)
    have b107 := c67.at b106 (by simp)
    have b117 := c67.at b11 (by simp)
    cases hmo : mayO s.op with
    | false =>
      simp -implicitDefEqProofs only [zS]
      rw [resV_no Sm ⟨h1, h2⟩ (.inl hmo)]
      exact next t w7 hsk7 hW7 ht htt
    | true =>
    obtain ⟨_, _, kI7⟩ := keep hW7
    obtain ⟨_, _, _, _, _, R7⟩ := kI7.rd
    have hc0 : ldC (hp w7 g) (0 + 0 + 0) = some (.int .i64 c.1) := by
      have := R7.c 0 (by omega)
      rw [show (toRf m).c = c from Sm.mc] at this
      exact this
    have f90 : ldC (hp w7 g9) (0 + 0) = some (.int .i64 s.wk) := sp_c b97 0
    by_cases hw : c.1 ≤ s.wk
    · simp -implicitDefEqProofs only [zS, ah, fa_42_0, fa_112_0, fa_23_0, ac, f90, hc0, aD, ge_iff_le, hw]
      rw [resV_no Sm ⟨h1, h2⟩ (.inr hw)]
      exact next t w7 hsk7 hW7 ht htt
    have opd7 : ldv Tryz.prog 36 (.pointer (some ⟨g9, 0 + 2, none⟩)) w7 = some (.agg (opC s.op).toArray) := (at_blk b97).ldop
    have hmv : mayV m s.wk.toNat s.op = true := by
      have := Sm.wn.cw
      rw [Sm.mc] at this
      rw [mayV, hmo, decide_eq_true (by omega), decide_eq_true (by omega)]; rfl
    have cm := c_rMust kI7 Sm.wf (by omega) hmv (handV l s)
    rw [show ((s.wk.toNat : Nat) : Int) = s.wk by omega] at cm
    simp -implicitDefEqProofs only [zS, ah, fa_42_0, fa_42_2, fa_112_0, fa_23_0, ac, f90, hc0, aD, ge_iff_le, hw, opd7, ld_hn b107]
    refine cm.mono ?_
    rintro _ w8 ⟨rfl, c8⟩
    have b98 := c8.at b97 (by simp)
    have b108 := c8.at b107 (by simp)
    have b118 := c8.at b117 (by simp)
    simp -implicitDefEqProofs only [tup0, tup1, zS, al_40]
    rw [st_res (c := _) (e := 40) (by rw [aa, if_pos rfl]) rfl]
    generalize hw9 : Ev.put (w8.alloc _) w8.heap.size _ 40 = w9
    have c9 : Chg [] w8 w9 := by rw [← hw9]; exact ((Chg.refl _ _).alloc _).put (.inr (Nat.le_refl _)) _ _
    have b12 : hp w9 w8.heap.size = some (.cells (rsC (mustV m s.wk s.op (handV l s)).1).toArray 40) := by rw [← hw9, aR, if_pos rfl, if_pos (by simp)]
    clear hw9
    have c29 := (c27.trans c8).trans c9
    have b119 := c9.at b118 (by simp)
    rw [hr]
    cases hm2 : (mustV m s.wk s.op (handV l s)).2 with
    | false =>
      simp -implicitDefEqProofs only [zS, if_false, Bool.false_eq_true]
      exact next t w9 (c29.at hsk2 (by simp)) (hW2.seq (ChgP.of0 c29 _)) ht htt
    | true =>
      simp -implicitDefEqProofs only [zS, ld_rs b12, st_res b119 rfl, if_true]
      have hg11l : w2.heap.size ≤ g11 := by omega
      refine tryit _ _ (c29.put (.inr hg11l) _ _) ?_ ?_ (ar (av b119) _ _)
      · rw [aR, if_neg (by omega)]; exact c9.at b98 (by simp)
      · rw [aR, if_neg (by omega)]; exact c9.at b108 (by simp)
end
end Go.Proofs.YteapggpkgfiacaaGreat

namespace Go.Proofs.YteapggpkgfiacaaGreat
open Go Ev Go.RowKit

section
variable {l : List SpV} {top t : Int} {m m' : MdV} {put : List Int} {rec : MdV → List Int → Int → SkO} {a b is js : List Nat} {i f : Nat} {s : SpV} {r : RsV} {h : HnV}
end
def hT : HnV := (0, 1, 0, 0, 0)
def oT : HnV := (0, 1, 0, 0, 2)
def pinT (i at' : Int) : SpV := ⟨i, 2, (3, 0, 0, 0, 0, 0), at', at', -1, at', re0'⟩
where re0' : RsV := (0, (0, 0, 0, 0, 0), 0, 0)
def holdT (i at' : Int) : SpV := ⟨i, 3, (5, 0, 0, 0, 0, 0), at', at', -1, at', (0, (0, 0, 0, 0, 0), 0, 0)⟩
def storeT (i v a b d : Int) : SpV := ⟨i, 4, (7, 0, 1, 0, v, 0), a, b, -1, d, (0, (0, 0, 0, 0, 0), 0, 0)⟩
def loadT (x : Int) : SpV := ⟨2, 4, (6, 0, 1, 0, 0, 0), 26, 26, -1, 26, (0, (0, 0, 0, 0, 0), 0, x)⟩
def createT : SpV := ⟨0, 0, (1, 0, 0, 0, 0, 0), 0, 1, -1, 2, (0, hT, 0, 0)⟩
def allocT : SpV := ⟨0, 1, (2, 0, 0, 2, 0, 0), 3, 4, -1, 5, (0, oT, 0, 0)⟩
def sT (v w x : Int) : List SpV := [createT, allocT, pinT 0 6, holdT 0 7, pinT 1 8, holdT 1 9, pinT 2 10, holdT 2 11, storeT 0 v 20 22 24, storeT 1 w 21 23 25, loadT x]
def cT : CfV := (3, 1, 8, 1, 0, 1)
end Go.Proofs.YteapggpkgfiacaaGreat

namespace Go.Proofs.YteapggpkgfiacaaGreat
open Go Ev Go.RowKit

section
variable {v w x top : Int} {f : Nat}
end
end Go.Proofs.YteapggpkgfiacaaGreat

namespace Go.Proofs.YteapggpkgfiacaaGreat
open Go Ev Go.RowKit

theorem spC_one0 (s : SpV) : ∀ u ∈ spC s, u.oneCell' = true := fun u hu => List.all_eq_true.1 (show (spC s).all (·.oneCell') = true from rfl) u hu
theorem rdV_blk {w : World} {b : Nat} {cs : List Value} {e : TypeId} (h : hp w b = some (.cells cs.toArray e)) : RdV w (some ⟨b, 0, none⟩) cs := fun j u hj => by
  refine ⟨_, rfl, ?_⟩
  rw [addr_add, cell_ldC, h, aH, Nat.zero_add]
  simpa using hj
theorem ap_spans {w : World} {A : Option Addr} {n c : Nat} {l : List SpV} {K : Value → World → Prop} (hn : n = l.length) (hl : l.length ≤ 1000) (hR : RdV w A (l.flatMap spC))
    (hk : ∀ A' c' w', RdV w' A' (l.flatMap spC) → Chg [] w w' → K (.slice A' l.length c') w') : effv Tryz.prog (Builtin.append_ #[24, 24] 24 #[(.slice none 0 0), .slice A n c]) w K := by
  obtain ⟨i, hi, hz, hs, hb⟩ := inf_42
  subst hn
  refine eff_append (base := w.heap.size) (xs := []) (n := 0) (news := l.flatMap spC) (m := l.length) Tryz.underlying24 hi hz hs rfl (by omega) (World.ownsRow_nil _ _ _ _) (flat_len spC_len l) (fun j u hj => hR j u hj) (fun u hu => ?_) (by unfold maxLen; omega) (by rw [hb]; omega) (Nat.le_refl _)
    fun x' w1 ho hg => ?_
  · obtain ⟨s, _, hu⟩ := List.mem_flatMap.1 hu
    exact spC_one0 s u hu
  have hc1 : Chg [] w w1 := (Chg.refl _ _).grown hg fun k hk => by simp [Value.ownBlock] at hk
  rw [List.nil_append, Nat.zero_add] at ho
  obtain ⟨A', c', rfl, hR', _⟩ := ba ho
  exact hk A' c' w1 hR' hc1
def re0 : RsV := (0, (0, 0, 0, 0, 0), 0, 0)
def cF : CfV := (1, 1, 8, 1, 0, 1)
def opP : OpV := (3, 0, 0, 0, 0, 0)
def sF (r : RsV) : SpV := ⟨0, 0, opP, 0, 1, -1, 1, r⟩
theorem may_one (r : RsV) : mayB [sF r] = true := mayB_t fun i hi s hs => by
  have hi : i < 1 := hi
  obtain rfl : i = 0 := by omega
  have : sF r = s := Option.some.inj hs
  subst this
  exact ⟨rfl, fun p h => by omega, fun k a h => by omega⟩
end Go.Proofs.YteapggpkgfiacaaGreat

namespace Go.Proofs.YteapggpkgfiacaaGreat
open Go Ev Go.RowKit

theorem top_0 : findTop cF [] 5 = ([], 0) := by
  rw [findTop, if_pos ⟨by decide, mayB_t fun i hi => absurd hi (by simp), by decide⟩]; decide +kernel
theorem top_1 : findTop cF [sF re0] 5 = ([0], 0) := by
  rw [findTop, if_pos ⟨by decide, may_one _, by decide⟩]; decide +kernel
theorem li_len {w : World} {v : Value} {xs : List Int} (h : SlI w v xs) : pureRun Tryz.prog (Builtin.len_ #[26] 3 #[v]) = some (.int .i64 xs.length) := by
  obtain ⟨A, c, rfl, _⟩ := h
  exact len_26
theorem li_at {w : World} {v : Value} {xs : List Int} (h : SlI w v xs) {i : Nat} {y : Int} (hy : xs[i]? = some y) :
    ∃ q : Addr, pureRun Tryz.prog (Instr.indexAt 26 v (.int .i64 (i : Int))) = some (.pointer (some q)) ∧ ldv Tryz.prog 3 (.pointer (some q)) w = some (.int .i64 y) := by
  obtain ⟨A, c, rfl, hR⟩ := h
  exact int_at hR hy
set_option maxHeartbeats 1000000 in
theorem c_first26 (w : World) : CallR Tryz.prog 4 [] w fun v w' => v = .bool true ∧ Chg [] w w' := by
  apply F4_ok
  have hbc : pureRun Tryz.prog (Instr.build 23 #[(0, .int .i64 1), (1, .int .i64 1), (2, .int .i64 8), (3, .int .i64 1), (5, .int .i64 1)]) = some (.agg (cfC cF).toArray) := bd_23_0_1_2_3_5
  have hbs : pureRun Tryz.prog (Instr.build 42 #[(2, .agg (opC opP).toArray), (4, .int .i64 1), (5, .int .i64 (-1)), (6, .int .i64 1)]) = some (.agg (spA (sF re0))) := bd_42_2_4_5_6
  have hbo : pureRun Tryz.prog (Instr.build 36 #[(0, .int .i64 3)]) = some (.agg (opC opP).toArray) := bd_36_0
  have hsl : ∀ (s : SpV) (w : World) (K : Value → World → Prop), effv Tryz.prog (Instr.buildSlice 24 1 #[(0, .agg (spA s))]) w K = K (.slice (some ⟨w.heap.size, 0, none⟩) 1 1) (w.alloc (.cells (spA s) 42)) := fun s w K => bs_24_1
  simp -implicitDefEqProofs only [F4, hbc, ab, al_23]
  rw [st_23 rfl rfl (by rw [aa, if_pos rfl]; rfl) (by rw [aa, if_pos rfl]; rfl), aa, if_pos rfl, ay]
  generalize hw1 : Ev.put (w.alloc _) w.heap.size (cfC cF).toArray 23 = w1
  have c1 : Chg [] w w1 := by rw [← hw1]; exact ((Chg.refl _ _).alloc _).put (.inr (Nat.le_refl _)) _ _
  have b1 : hp w1 w.heap.size = some (.cells (cfC cF).toArray 23) := by rw [← hw1, aR, if_pos rfl, if_pos (by simp)]
  clear hw1
  simp -implicitDefEqProofs only [ld_cf b1, ab]
  refine (c_Find (l := []) (by simp) (A := none) (cs := 0) (RdV.nil _ _) cF (most := 5) (by omega)).mono ?_
  rintro _ w2 ⟨p1, rfl, li1, c2⟩
  rw [top_0] at li1 ⊢
  have b2 := c2.at b1 (by simp)
  simp -implicitDefEqProofs only [tup0, tup1, zS, hbo, hbs, hsl, ld_cf b2]
  have ca : Chg [] w2 (w2.alloc (.cells (spA (sF re0)) 42)) := (Chg.refl _ _).alloc _
  have ra : RdV (w2.alloc (.cells (spA (sF re0)) 42)) (some ⟨w2.heap.size, 0, none⟩) ([sF re0].flatMap spC) := by
    have := rdV_blk (w := w2.alloc (.cells (spA (sF re0)) 42)) (b := w2.heap.size) (cs := spC (sF re0)) (e := 42) (by rw [aa, if_pos rfl]; rfl)
    simpa using this
  refine (c_Find (l := [sF re0]) (by simp) (cs := 1) ra cF (most := 5) (by omega)).mono ?_
  rintro _ w3 ⟨p2, rfl, li2, c3⟩
  rw [top_1] at li2 ⊢
  obtain ⟨q, q1, q2⟩ := li_at li2 (i := 0) (y := 0) rfl
  have q1 : pureRun Tryz.prog (Instr.indexAt 26 p2 (.int .i64 0)) = some (.pointer (some q)) := q1
  simp -implicitDefEqProofs only [tup0, tup1, zS, li_len li1, li_len li2, List.length_nil, List.length_singleton, q1, q2, show (((0 : Nat) : Int) == 0) = true from rfl, show (((1 : Nat) : Int) == 1) = true from rfl]
  exact ⟨trivial, (c1.trans c2).trans (ca.trans c3)⟩
end Go.Proofs.YteapggpkgfiacaaGreat

namespace Go.Proofs.YteapggpkgfiacaaGreat
open Go Ev Go.RowKit

section
variable {sk : Nat} {A : Option Addr} {cs : Nat} {l : List SpV} {top : Int}
theorem c_fFrom (hl : l.length ≤ 12) (hmay : mayB l = true) (hnA : ∀ p, A = some p → l ≠ [] → p.block ≠ sk) (htop : top ≤ 9223372036854775807) {c : CfV} (hc : mayC c = true) : ∀ f : Nat, f ≤ 800 → FFromC sk A cs l top c f
  | 0, _, m, g, F, K, put, t, Ap, cp, w, _, _, _, _, _, _, _, _, _, _, _, hlt => absurd hlt (by omega)
  | f + 1, hf, m, g, F, K, put, t, Ap, cp, w, hsk, hA, hP, hnP, I, hF, Sm, hK, hp9, ht, htt, hlt => by
    apply F34_ok
    simp -implicitDefEqProofs only [F34]
    refine (c_fWhole (by omega) hA (by omega) hsk (sli_rd hP)).step ?_
    unfold findV
    cases ho : overV l put with
    | true =>
      simp -implicitDefEqProofs only [zS, if_true]
      exact ⟨Ap, cp, by first | rfl | simp, by simpa using hP, hnP, hsk, ChgP.refl _ _⟩
    | false =>
      simp -implicitDefEqProofs only [zS, if_false, Bool.false_eq_true]
      rw [List.range_eq_range']
      exact l_ffrom hl hmay hnA htop hc (c_fFrom hl hmay hnA htop hc f (by omega)) Sm (by omega) (by omega) (by omega) hA hP hnP I hF l.length 0 t w hsk (ChgP.refl _ _) ht htt (by omega)
set_option maxHeartbeats 1000000 in
theorem c_fFind {w : World} (hl : l.length ≤ 1000) (hA : RdV w A (l.flatMap spC)) (c : CfV) {most : Int} (hmost : most ≤ 9223372036854775807) : CallR Tryz.prog 19 [.agg (cfC c).toArray, .slice A l.length cs, .int .i64 most] w fun v w' => ∃ pv, v = .tuple #[pv, .int .i64 (findTop c l most).2] ∧ SlI w' pv (findTop c l most).1 ∧ Chg [] w w' := by
  apply F19_ok
  simp -implicitDefEqProofs only [F19, ak, au]
  generalize hw : w.alloc _ = w1
  have c1 : Chg [] w w1 := by rw [← hw]; exact (Chg.refl _ _).alloc _
  have b2 : hp w1 w.heap.size = some (.cells (cfC c).toArray 23) := by rw [← hw, aa, if_pos rfl]
  have s1 : w1.heap.size = w.heap.size + 1 := by rw [← hw, ae]
  clear hw
  have nl : ∀ w', SlI w' (.slice none 0 0) [] := fun w' => ⟨none, 0, rfl, fun i hi => absurd hi (by simp)⟩
  simp -implicitDefEqProofs only [ld_cf b2, ab]
  refine (c_cfMay c w1).mono ?_
  rintro _ w2 ⟨rfl, c2⟩
  have c02 := c1.trans c2
  cases hc : mayC c with
  | false =>
    have hft : findTop c l most = ([], 1) := by rw [findTop, if_neg (by rw [hc]; simp)]
    rw [hft]
    simp -implicitDefEqProofs only [zS]
    exact ⟨_, rfl, nl _, c02⟩
  | true =>
  simp -implicitDefEqProofs only [zS]
  refine (c_RMayRef (by omega) ⟨A, cs, rfl, hA.keep c02.below⟩).mono ?_
  rintro _ w3 ⟨rfl, c3⟩
  have c03 := c02.trans c3
  cases hm : mayB l with
  | false =>
    have hft : findTop c l most = ([], 1) := by rw [findTop, if_neg (by rw [hm]; simp)]
    rw [hft]
    simp -implicitDefEqProofs only [zS]
    exact ⟨_, rfl, nl _, c03⟩
  | true =>
  by_cases h12 : (12 : Int) < l.length
  · have hft : findTop c l most = ([], 1) := by rw [findTop, if_neg (by omega)]
    rw [hft]
    simp -implicitDefEqProofs only [zS, len_24, h12]
    exact ⟨_, rfl, nl _, c03⟩
  have hbd : ∀ t : Int, pureRun Tryz.prog (Instr.build 71 #[(0, .slice A l.length cs), (1, .int .i64 t)]) = some (.agg (fA A l.length cs t false)) := fun t => bd_71_0_1
  have hmx : (if (0 : Int) > most then 0 else most) = max most 0 := by
    by_cases h : (0 : Int) > most
    · rw [if_pos h, Int.max_eq_right (by omega)]
    · rw [if_neg h, Int.max_eq_left (by omega)]
  simp -implicitDefEqProofs only [zS, len_24, h12, pr_max2, hmx, hbd, ak, au]
  generalize hw4 : w3.alloc _ = w4
  have c4 : Chg [] w3 w4 := by rw [← hw4]; exact (Chg.refl _ _).alloc _
  have b4 : hp w4 w3.heap.size = some (.cells (fA A l.length cs (max most 0) false) 71) := by rw [← hw4, aa, if_pos rfl]
  clear hw4
  have b24 := (c2.trans (c3.trans c4)).at b2 (by simp)
  have s3 := c03.size
  simp -implicitDefEqProofs only [ld_cf b24, ab]
  refine (c_rNew c true hc w4).mono ?_
  rintro _ w5 ⟨g, F, rfl, c5, I, hF⟩
  have c05 := (c03.trans c4).trans c5
  have b5 := c5.at b4 (by simp)
  have hs4 : w3.heap.size < w4.heap.size := av b4
  have b5' : hp w5 w3.heap.size = some (.cells (fA A l.length cs (max most 0 - 0) false) 71) := by rw [Int.sub_zero]; exact b5
  have hlf : leftN l [] < l.length + 1 := by
    have := List.countP_le_length (p := fun i : Nat => !([] : List Int).contains (i : Int)) (l := List.range l.length)
    rw [List.length_range] at this
    unfold leftN; omega
  refine (c_fFrom (by omega) hm (fun p hp hne hs => by
      have := rd_lt hA (fun h => hne (by
        cases l with
        | nil => rfl
        | cons a l => simp [spC] at h)) hp
      omega) (by omega) hc (l.length + 1) (by omega) (newM c true) g F 0 [] 0 none 0 w5 b5' (hA.keep c05.below) (RdV.nil _ _) (fun p hp => by cases hp) I (fun h => by have := hF _ h; omega) ⟨wf_new hc true, wn_new hc true, rfl⟩ (by omega) (by simp; omega) (by omega) (by omega) hlf).mono ?_
  rintro v w6 ⟨Ap, cp, rfl, hR, hB, hsk, cW⟩
  have c06 : Chg [] w w6 := ⟨cW.os.trans c05.os, cW.tape.trans c05.tape, cW.output.trans c05.output, Nat.le_trans c05.size cW.size, fun k hk _ => by
    rw [cW.block k (Nat.lt_of_lt_of_le hk c05.size) (by show ¬ k = w3.heap.size; omega)]
    exact c05.block k hk (by simp)⟩
  have hft : findTop c l most = match findV l (max most 0) (l.length + 1) (newM c true) [] 0 with
    | (true, p, _, _) => (p, 0)
    | (false, _, _, true) => ([], 11)
    | (false, _, _, false) => ([], 10) := by rw [findTop, if_pos ⟨hc, hm, by omega⟩]; all_goals rfl
  rw [hft]
  clear hft
  generalize findV l (max most 0) (l.length + 1) (newM c true) [] 0 = R at *
  obtain ⟨bb, p', t', mn⟩ := R
  cases bb with
  | true =>
    simp -implicitDefEqProofs only [tup0, tup1, zS, if_true]
    refine ⟨_, rfl, ?_, c06⟩
    exact sli_rd (by simpa using hR)
  | false =>
    simp -implicitDefEqProofs only [tup0, tup1, zS, ah, fa_71_2, ld_4, fa2 hsk]
    cases mn with
    | true =>
      simp -implicitDefEqProofs only [zS]
      exact ⟨_, rfl, nl _, c06⟩
    | false =>
      simp -implicitDefEqProofs only [zS]
      exact ⟨_, rfl, nl _, c06⟩
end
end Go.Proofs.YteapggpkgfiacaaGreat

namespace Go.Proofs.YteapggpkgfiacaaGreat
open Go Ev Go.RowKit

theorem findTop_bad {c : CfV} {l : List SpV} {most : Int} (h : ¬ (mayC c = true ∧ mayB l = true)) : findTop c l most = ([], 1) := by
  rw [findTop, if_neg (fun h' => h ⟨h'.1, h'.2.1⟩)]
theorem goV_len {l : List SpV} {top : Int} {K : Nat} {rec : MdV → List Int → Int → SkO} {m : MdV} {put : List Int} (hr : ∀ m p t, (rec m p t).2.1.length ≤ p.length + K) : ∀ {is : List Nat} {t : Int}, (goV rec l top m put is t).2.1.length ≤ put.length + 1 + K
  | [], t => by simp only [goV]; omega
  | i :: is, t => by
    unfold goV
    split
    · exact goV_len hr
    · cases hl : l[i]? with
      | none => simp only; omega
      | some s =>
        simp only
        cases hre : resV l m s with
        | none => exact goV_len hr
        | some r =>
          simp only
          split
          · simp only; omega
          · split
            · exact goV_len hr
            · have h1 := hr (doV m s.wk s.op (handV l s) r).2 (put ++ [(i : Int)]) (t + 1)
              rw [List.length_append, List.length_singleton] at h1
              generalize rec (doV m s.wk s.op (handV l s) r).2 (put ++ [(i : Int)]) (t + 1) = R at *
              obtain ⟨b, p', t', mn⟩ := R
              cases b with
              | true => exact h1
              | false =>
                cases mn with
                | true => exact h1
                | false => exact goV_len hr
theorem findV_len {l : List SpV} {top : Int} : ∀ {f : Nat} {m : MdV} {put : List Int} {t : Int}, (findV l top f m put t).2.1.length ≤ put.length + f
  | 0, m, p, t => Nat.le_refl _
  | f + 1, m, p, t => by
    unfold findV
    split
    · simp only; omega
    · have := goV_len (l := l) (top := top) (K := f) (rec := findV l top f) (m := m) (put := p) (fun m p t => findV_len) (is := List.range l.length) (t := t)
      omega
theorem findTop_len {c : CfV} {l : List SpV} {most : Int} : (findTop c l most).1.length ≤ 13 := by
  unfold findTop
  split
  · rename_i h
    have := findV_len (l := l) (top := max most 0) (f := l.length + 1) (m := newM c true) (put := []) (t := 0)
    generalize findV l (max most 0) (l.length + 1) (newM c true) [] 0 = R at *
    obtain ⟨bb, p', t', mn⟩ := R
    cases bb with
    | true => simp only at this ⊢; simp at this; omega
    | false => cases mn <;> simp
  · simp
section
variable {As : Option Addr} {cs : Nat} {l : List SpV}
theorem c_says26 (hl : l.length ≤ 1000) {w : World} (hA : RdV w As (l.flatMap spC)) (c : CfV) {most : Int} (hmost : most ≤ 9223372036854775807) : CallR Tryz.prog 8 [.agg (cfC c).toArray, .slice As l.length cs, .int .i64 most] w fun v w' => v = .bool true ∧ Chg [] w w' := by
  apply F8_ok
  simp -implicitDefEqProofs only [F8, ak, au]
  generalize hw : w.alloc _ = w1
  have c1 : Chg [] w w1 := by rw [← hw]; exact (Chg.refl _ _).alloc _
  have b2 : hp w1 w.heap.size = some (.cells (cfC c).toArray 23) := by rw [← hw, aa, if_pos rfl]
  clear hw
  have b2d : hp w1.drew w.heap.size = some (.cells (cfC c).toArray 23) := b2
  have c1d := c1.drew
  simp -implicitDefEqProofs only [ld_cf b2d, ab]
  refine ap_spans rfl (by omega) (hA.keep c1d.below) fun A' c' w2 hR2 c2 => ?_
  refine callX_chg (R := fun v w' => ∃ pv, v = .tuple #[pv, .int .i64 (findTop c l most).2] ∧ SlI w' pv (findTop c l most).1) ((c_Find (cs := c') hl hR2 c hmost).mono fun v w' ⟨pv, a, b, d⟩ => ⟨⟨pv, a, b⟩, d⟩) fun v w3 hv c3 => ?_
  obtain ⟨pv, rfl, hpv⟩ := hv
  have c03 := (c1d.trans c2).trans c3
  have b3 := (c2.trans c3).at b2d (by simp)
  simp -implicitDefEqProofs only [tup0, tup1, ab, ld_cf b3]
  refine (c_fFind (cs := cs) hl (hA.keep c03.below) c hmost).mono ?_
  rintro _ w4 ⟨qv, rfl, hqv, c4⟩
  simp -implicitDefEqProofs only [tup0, tup1, zS]
  have hlen := findTop_len (c := c) (l := l) (most := most)
  refine (c_SameInts (by omega) (hpv.keep c4.below) hqv).mono ?_
  rintro _ w5 ⟨rfl, c5⟩
  simp -implicitDefEqProofs only [zS]
  exact ⟨by simp, c03.trans (c4.trans (Chg.of_below c5 []))⟩
theorem pr_min2 {P : Program} {ts : Array TypeId} {t : TypeId} {k : IntKind} {a b : Int} : pureRun P (Builtin.min_ ts t #[.int k a, .int k b]) = some (.int k (if b < a then b else a)) := ap fun w => by simp [Builtin.min_, Builtin.min2]
theorem c_searchRaw {n : Nat} (hn : l.length = n) {w : World} (hA : RdV w As (l.flatMap spC)) (c : CfV) (most : Int) : CallR Tryz.prog 3 [.agg (cfC c).toArray, .slice As n cs, .int .i64 most] w fun v w' => v = .bool true ∧ Chg [] w w' := by
  subst hn
  apply F3_ok
  simp -implicitDefEqProofs only [F3, ak, au]
  generalize hw : w.alloc _ = w1
  have c1 : Chg [] w w1 := by rw [← hw]; exact (Chg.refl _ _).alloc _
  have b2 : hp w1 w.heap.size = some (.cells (cfC c).toArray 23) := by rw [← hw, aa, if_pos rfl]
  clear hw
  refine (c_first26 w1).mono ?_
  rintro _ w2 ⟨rfl, c2⟩
  have c02 := c1.trans c2
  simp -implicitDefEqProofs only [zS, len_24]
  by_cases hl : (5 : Int) < l.length
  · simp -implicitDefEqProofs only [zS, hl]
    exact ⟨trivial, c02⟩
  have hl5 : l.length ≤ 5 := by omega
  have b3d : hp w2.drew w.heap.size = some (.cells (cfC c).toArray 23) := c2.at b2 (by simp)
  have c02d := c02.drew
  simp -implicitDefEqProofs only [zS, hl, ld_cf b3d]
  have fin : ∀ w3 : World, Chg [] w2.drew w3 → P3_0 (.slice As l.length cs) (.int .i64 most) (.pointer (some ⟨w.heap.size, 0, none⟩)) (.bool true) w3 fun v w' => v = .bool true ∧ Chg [] w w' := by
    intro w3 c3
    apply L3_0_ok
    simp -implicitDefEqProofs only [L3_0, zS, ld_cf (c3.at b3d (by simp))]
    refine (c_Cut c w3).mono ?_
    rintro _ w4 ⟨rfl, c4⟩
    simp -implicitDefEqProofs only [zS, pr_min2]
    refine (c_says26 (cs := cs) (by omega) (hA.keep ((c02d.trans c3).trans c4).below) (cutC c) (by split <;> omega)).mono ?_
    rintro _ w5 ⟨rfl, c5⟩
    simp -implicitDefEqProofs only [zS]
    exact ⟨trivial, ((c02d.trans c3).trans c4).trans c5⟩
  refine ap_spans rfl (by omega) (hA.keep c02d.below) fun A' c' w3 hR3 c3 => ?_
  refine callX_chg (R := fun v w' => ∃ pv, v = .tuple #[pv, .int .i64 (findTop c l 0).2] ∧ SlI w' pv (findTop c l 0).1) ((c_Find (cs := c') (by omega) hR3 c (by omega)).mono fun v w' ⟨pv, a, b, d⟩ => ⟨⟨pv, a, b⟩, d⟩) fun v w4 hv c4 => ?_
  obtain ⟨pv, rfl, hpv⟩ := hv
  have c34 := c3.trans c4
  simp -implicitDefEqProofs only [tup0, tup1, ab, ld_cf (c34.at b3d (by simp))]
  refine (c_cfMay c w4).mono ?_
  rintro _ w5 ⟨rfl, c5⟩
  have c35 := c34.trans c5
  have bad : ∀ w6 : World, Chg [] w4 w6 → ¬ (mayC c = true ∧ mayB l = true) → SlI w6 pv [] ∧ (findTop c l 0).2 = 1 := fun w6 c6 h => by
    rw [findTop_bad h] at hpv ⊢
    exact ⟨hpv.keep c6.below, rfl⟩
  cases hc : mayC c with
  | false =>
    obtain ⟨z1, z2⟩ := bad w5 c5 (by rw [hc]; simp)
    simp -implicitDefEqProofs only [zS, li_len z1, z2, List.length_nil, Int.natCast_zero, show ((0 : Int) != 0) = false from rfl, show ((1 : Int) != 1) = false from rfl]
    exact fin w5 c35
  | true =>
    simp -implicitDefEqProofs only [zS]
    refine (c_RMayRef (by omega) ⟨As, cs, rfl, hA.keep (c02d.trans c35).below⟩).mono ?_
    rintro _ w6 ⟨rfl, c6⟩
    cases hb : mayB l with
    | false =>
      obtain ⟨z1, z2⟩ := bad w6 (c5.trans c6) (by rw [hb]; simp)
      simp -implicitDefEqProofs only [zS, li_len z1, z2, List.length_nil, Int.natCast_zero, show ((0 : Int) != 0) = false from rfl, show ((1 : Int) != 1) = false from rfl]
      exact fin w6 (c35.trans c6)
    | true =>
      simp -implicitDefEqProofs only [zS]
      exact fin w6 (c35.trans c6)
end
theorem spDecS (ns : List Int) (h : ns.length = 20) : ∃ s : SpV, spC s = List.zipWith Value.int [.i64, .i64, .i64, .i64, .i64, .i64, .u64, .u64, .i64, .i64, .i64, .i64, .i64, .i64, .i64, .i64, .i64, .i64, .i64, .u64] ns := by
  match ns, h with
  | [a, b, c, d, e, f, g, h, i, j, k, l, m, n, o, p, q, r, s, t], _ => exact ⟨⟨a, b, (c, d, e, f, g, h), i, j, k, l, (m, (n, o, p, q, r), s, t)⟩, rfl⟩
theorem open_spans {H : Type} {enc : TypeId × Value → H} {w : World} {base : Nat} {spare : Nat → Bool} {held : Bool} {fuel : Nat} {a : Option Addr} {len cap : Nat} {x : DataW H × List MemPlace}
    (h : DataW.trod enc Tryz.prog w base spare held fuel 24 [.slice a len cap] = some x) : ∃ S : List SpV, S.length = len ∧ RdV w a (S.flatMap spC) ∧ len ≤ cap ∧ cap ≤ maxLen :=
  open_flat (d := 6) (z := 20) (ks := [.i64, .i64, .i64, .i64, .i64, .i64, .u64, .u64, .i64, .i64, .i64, .i64, .i64, .i64, .i64, .i64, .i64, .i64, .i64, .u64]) Tryz.underlying24 (by kernel_rfl) (by kernel_rfl) (fun ns h _ => spDecS ns h) spC_len h
theorem open_cf {H : Type} {enc : TypeId × Value → H} {w : World} {base : Nat} {spare : Nat → Bool} {held : Bool} {fuel : Nat} {cs : Array Value} {x : DataW H × List MemPlace}
    (h : DataW.trod enc Tryz.prog w base spare held fuel 23 cs.toList = some x) : ∃ c : CfV, Value.agg cs = .agg (cfC c).toArray := by
  obtain ⟨ns, g1, g2, g3⟩ := (trod_nums 6 23 [.i64, .i64, .i64, .i64, .i64, .i64] fuel cs.toList x (by kernel_rfl) h).nums
  match ns, g1 with
  | [a, b, c, d, e, f], _ =>
    refine ⟨(a, b, c, d, e, f), ?_⟩
    congr 1
    apply Array.toList_inj.1
    rw [g2]; rfl
theorem lawSearch {W : World} (c : CfV) (cs : Array Value) (h : Value.agg cs = .agg (cfC c).toArray) (A : Option Addr) (n cap : Nat) (S : List SpV) (hS : S.length = n) (hA : RdV W A (S.flatMap spC)) (hc : n ≤ cap) (hm : cap ≤ maxLen) (most : Int) (_ : (Lit.int .i64 most).wf = true) :
    CallR Tryz.prog 3 [.agg cs, .slice A n cap, .int .i64 most] W fun v w' => v = .bool true ∧ Below W.heap.size W w' := by
  rw [h]
  refine (c_searchRaw (cs := cap) hS hA c most).mono ?_
  rintro v w' ⟨rfl, hc⟩
  exact ⟨rfl, hc.below⟩
end Go.Proofs.YteapggpkgfiacaaGreat

