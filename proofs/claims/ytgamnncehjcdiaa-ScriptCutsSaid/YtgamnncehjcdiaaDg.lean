/- Scripts out of bytes: the program's Read. -/
import Derived.Test.YtgamnncehjcdiaaDf
namespace Go.Proofs.Ytgamnncehjcdiaa
open Go Ev Go.RowKit
set_option linter.unusedSimpArgs false
set_option linter.unusedVariables false
set_option maxRecDepth 10000

def nilS : Value := .slice none 0 0
/-- operations that stand in blocks from lo to hi -/
def LO (w : World) (lo hi : Nat) (x : Value) (ops : List OpV) : Prop := ∃ A c, x = .slice A ops.length c ∧ RdV w A (ops.flatMap opC) ∧ ∀ p, A = some p → lo < p.block ∧ p.block < hi
theorem LO.chg {w w' : World} {S : List Nat} {lo hi : Nat} {x : Value} {ops : List OpV} (h : LO w lo hi x ops) (hc : Chg S w w') (hS : ∀ k ∈ S, k ≤ lo ∨ hi ≤ k) : LO w' lo hi x ops := by
  obtain ⟨A, c, h1, h2, h3⟩ := h
  refine ⟨A, c, h1, h2.chg hc fun p hp _ hm => ?_, h3⟩
  have := h3 p hp
  have := hS _ hm
  omega
theorem LO.mono {w : World} {lo hi hi' : Nat} {x : Value} {ops : List OpV} (h : LO w lo hi x ops) (hh : hi ≤ hi') : LO w lo hi' x ops := by
  obtain ⟨A, c, h1, h2, h3⟩ := h
  exact ⟨A, c, h1, h2, fun p hp => ⟨(h3 p hp).1, by have := (h3 p hp).2; omega⟩⟩
theorem LO.of_own {w : World} {lo base : Nat} {x : Value} {ops : List OpV} (h : w.ownsRow base 40 6 x ops.length (ops.flatMap opC)) (hb : lo < base) : LO w lo w.heap.size x ops := by
  obtain ⟨A, c, h1, h2, h3, _⟩ := rdV_of_own h
  exact ⟨A, c, h1, h2, fun p hp => by have := h3 p hp; omega⟩
theorem LO.sl {w : World} {lo hi : Nat} {x : Value} {ops : List OpV} (h : LO w lo hi x ops) : SlO w x ops := by
  obtain ⟨A, c, h1, h2, _⟩ := h
  exact ⟨A, c, h1, h2⟩
/-- lists of operations, value by value -/
def LOs (w : World) (lo hi : Nat) (ds : List Value) (done : List (List OpV)) : Prop := ds.length = done.length ∧ ∀ (j : Nat) (x : Value) (ops : List OpV), ds[j]? = some x → done[j]? = some ops → LO w lo hi x ops
theorem LOs.chg {w w' : World} {S : List Nat} {lo hi : Nat} {ds : List Value} {done : List (List OpV)} (h : LOs w lo hi ds done) (hc : Chg S w w') (hS : ∀ k ∈ S, k ≤ lo ∨ hi ≤ k) : LOs w' lo hi ds done := ⟨h.1, fun j x ops hx ho => (h.2 j x ops hx ho).chg hc hS⟩
theorem LOs.snoc {w : World} {lo hi hi' : Nat} {ds : List Value} {done : List (List OpV)} {x : Value} {ops : List OpV} (h : LOs w lo hi ds done) (hh : hi ≤ hi') (hx : LO w lo hi' x ops) : LOs w lo hi' (ds ++ [x]) (done ++ [ops]) := by
  refine ⟨by simp [h.1], fun j y o hy ho => ?_⟩
  rcases Nat.lt_or_ge j ds.length with hj | hj
  · rw [List.getElem?_append_left hj] at hy
    rw [List.getElem?_append_left (by rw [← h.1]; exact hj)] at ho
    exact (h.2 j y o hy ho).mono hh
  · rw [List.getElem?_append_right hj] at hy
    rw [List.getElem?_append_right (by rw [← h.1]; exact hj), ← h.1] at ho
    have hj0 : j - ds.length = 0 := by
      rcases Nat.eq_zero_or_pos (j - ds.length) with h0 | h0
      · exact h0
      · have := (List.getElem?_eq_some_iff.1 hy).1; simp at this; omega
    rw [hj0] at hy ho
    simp at hy ho
    subst hy; subst ho; exact hx
theorem LOs.nils {w : World} {lo hi : Nat} {ds : List Value} {done : List (List OpV)} (h : LOs w lo hi ds done) : ∀ m, LOs w lo hi (ds ++ List.replicate m nilS) (done ++ List.replicate m [])
  | 0 => by simpa using h
  | m + 1 => by
    have ih := (LOs.nils h m).snoc (Nat.le_refl _) (x := nilS) (ops := []) ⟨none, 0, rfl, RdV.nil _ _, fun p hp => by cases hp⟩
    rw [List.replicate_succ', List.replicate_succ', ← List.append_assoc, ← List.append_assoc]; exact ih
theorem setMid (ds r : List Value) (x y : Value) : ((ds ++ x :: r).toArray).setIfInBounds ds.length y = (ds ++ y :: r).toArray := by
  apply Array.toList_inj.1
  simp [List.set_append_right]
theorem chg_own {w w' : World} {x : Value} (hg : w.grownBy w' x.ownBlock) : Chg x.ownBlock.toList w w' := (Chg.refl _ _).grown hg fun k hk => .inl (by simp [hk])
theorem own_ge {w : World} {base : Nat} {e : TypeId} {z : Nat} {v : Value} {n : Nat} {xs : List Value} (h : w.ownsRow base e z v n xs) : ∀ k ∈ v.ownBlock.toList, base ≤ k := fun k hk => (h.lt k (by simpa using hk)).1
/-- the world of Read, in the midst -/
structure RI (W w : World) (r g2 gv g4 : Nat) (s : Rst) (n : Nat) (vs : List Value) : Prop where
  rs : RS w r s
  by_ : IsBytes s.1
  b2 : hp w g2 = some (.cells #[nilS, nilS] 25)
  bv : hp w gv = some (.cells vs.toArray 27)
  b4 : hp w g4 = some (.cells #[.slice (some ⟨gv, 0, none⟩) n n, nilS] 25)
  o1 : W.heap.size ≤ g2
  o2 : g2 < r
  o3 : r < gv
  o4 : gv < g4
  ch : Chg [] W w
theorem Chg.into {T S : List Nat} {a b c : World} (h : Chg T a b) (k : Chg S b c) (hS : ∀ i ∈ S, i ∈ T ∨ a.heap.size ≤ i) : Chg T a c :=
  ⟨k.os.trans h.os, k.tape.trans h.tape, k.output.trans h.output, Nat.le_trans h.size k.size, fun i hi hn => (k.block i (Nat.lt_of_lt_of_le hi h.size) (fun hm => by rcases hS i hm with h1 | h1; exact hn h1; omega)).trans (h.block i hi hn)⟩
theorem RI.step {W w w' : World} {r g2 gv g4 : Nat} {s s' : Rst} {n : Nat} {vs : List Value} (h : RI W w r g2 gv g4 s n vs) {S : List Nat} (hc : Chg S w w') (hS : ∀ k ∈ S, k = r ∨ g4 < k) (hr : RS w' r s') (hb : IsBytes s'.1) : RI W w' r g2 gv g4 s' n vs := by
  have o1 := h.o1; have o2 := h.o2; have o3 := h.o3; have o4 := h.o4
  exact ⟨hr, hb, hc.at h.b2 (fun hm => by have := hS _ hm; omega), hc.at h.bv (fun hm => by have := hS _ hm; omega), hc.at h.b4 (fun hm => by have := hS _ hm; omega), o1, o2, o3, o4, Chg.into h.ch hc fun k hk => .inr (by have := hS k hk; omega)⟩
theorem RI.setv {W w : World} {r g2 gv g4 : Nat} {s : Rst} {n : Nat} {vs us : List Value} (h : RI W w r g2 gv g4 s n vs) : RI W (put w gv us.toArray 27) r g2 gv g4 s n us := by
  have o1 := h.o1; have o2 := h.o2; have o3 := h.o3; have o4 := h.o4
  have hlt := blk_lt h.bv
  have hc : Chg [gv] w (put w gv us.toArray 27) := (Chg.refl _ _).put (.inl (by simp)) _ _
  exact ⟨h.rs.chg hc (by simp; omega), h.by_, hc.at h.b2 (by simp; omega), by rw [put_heap, if_pos rfl, if_pos hlt], hc.at h.b4 (by simp; omega), o1, o2, o3, o4, Chg.into h.ch hc (by simp; omega)⟩
/-- what it answers -/
def RP (W : World) (o : ScV) (v : Value) (w' : World) : Prop := IsS w' v o ∧ Chg [] W w'
/-- the script is stored into the answer's variable -/
theorem RI.ret {W w : World} {r g2 gv g4 : Nat} {s : Rst} {n : Nat} {ds : List Value} {done : List (List OpV)} {hi : Nat} {xp : Value} {ps : List Int} {K : Value → World → Prop} (b2 : hp w g2 = some (.cells #[nilS, nilS] 25)) (b4 : hp w g4 = some (.cells #[.slice (some ⟨gv, 0, none⟩) n n, xp] 25))
    (bv : hp w gv = some (.cells ds.toArray 27)) (hn : ds.length = n) (hL : LOs w g4 hi ds done) (hx : SlI w xp ps) (hx1 : xp.oneCell' = true) (o1 : W.heap.size ≤ g2) (o2 : g2 < gv) (o4 : gv < g4) (ch : Chg [] W w) (hxb : ∀ A n c, xp = .slice A n c → ∀ p, A = some p → p.block ≠ g2) :
    RP W (done, ps) (.agg #[.slice (some ⟨gv, 0, none⟩) n n, xp]) (put w g2 #[.slice (some ⟨gv, 0, none⟩) n n, xp] 25) := by
  have hc : Chg [g2] w (put w g2 #[.slice (some ⟨gv, 0, none⟩) n n, xp] 25) := (Chg.refl _ _).put (.inl (by simp)) _ _
  refine ⟨⟨⟨some ⟨gv, 0, none⟩, n, ds, xp, by rw [← hL.1, hn], ?_, hL.1, fun j x ops h1 h2 => ((hL.chg hc (by simp; omega)).2 j x ops h1 h2).sl, ?_⟩⟩, Chg.into ch hc (by simp; omega)⟩
  · intro j u hj
    refine ⟨_, rfl, ?_⟩
    rw [addr_add, cell_ldC, hc.at bv (by simp; omega), ldC_some]
    simpa using hj
  · obtain ⟨A, c, rfl, hr⟩ := hx
    refine ⟨A, c, rfl, fun i hi => ?_⟩
    obtain ⟨p, hp, hcell⟩ := hr i hi
    have hbl : (p.add i).block = p.block := by unfold Addr.add; split <;> rfl
    exact ⟨p, hp, hc.cell hcell (by rw [hbl]; simpa using hxb _ _ _ rfl p hp)⟩
theorem retN {w : World} {g2 gv g4 : Nat} {n : Nat} {xp : Value} {K : Value → World → Prop} (b2 : hp w g2 = some (.cells #[nilS, nilS] 25)) (b4 : hp w g4 = some (.cells #[.slice (some ⟨gv, 0, none⟩) n n, xp] 25)) (hx1 : xp.oneCell' = true)
    (hk : K (.agg #[.slice (some ⟨gv, 0, none⟩) n n, xp]) (put w g2 #[.slice (some ⟨gv, 0, none⟩) n n, xp] 25)) :
    wpB (ldv Try.prog 25 (.pointer (some ⟨g4, 0, none⟩)) w) fun t => effu Try.prog (Instr.storeAt 25 (.pointer (some ⟨g2, 0, none⟩)) t) w fun w => wpB (ldv Try.prog 25 (.pointer (some ⟨g2, 0, none⟩)) w) fun r2 => K r2 w := by
  have hlt := blk_lt b2
  simp -implicitDefEqProofs [ld_25, b4, st_25, b2, hx1, hlt]
  exact hk
/-! ### the picks -/
theorem l_picks {W : World} {r g2 gv g4 n : Nat} {ds : List Value} {done : List (List OpV)} {hi : Nat} {A : Option Addr} {c : Nat} {ps : List Int} (hps : ps.length ≤ 1048576) (hpb : IsBytes ps) (hhi : g4 < hi) (o1 : W.heap.size ≤ g2) (o2 : g2 < r) (o3 : r < gv) (o4 : gv < g4) (hn : ds.length = n) (hAr : ∀ p, A = some p → ps ≠ [] → p.block < r) :
    ∀ (e i : Nat) (w : World) (xp : Value), hp w g2 = some (.cells #[nilS, nilS] 25) → hp w gv = some (.cells ds.toArray 27) → hp w g4 = some (.cells #[.slice (some ⟨gv, 0, none⟩) n n, xp] 25) → LOs w g4 hi ds done → RdV w A (u8s ps) → Chg [] W w → hi ≤ w.heap.size →
    w.ownsRow hi 3 1 xp i (ints (ps.take i)) → i + e = ps.length → P20_2 (.pointer (some ⟨g2, 0, none⟩)) (.pointer (some ⟨g4, 0, none⟩)) (.slice A ps.length c) (.int .i64 ps.length) (.int .i64 i) w (RP W (done, ps)) := by
  intro e
  induction e with
  | zero =>
    intro i w xp b2 bv b4 hL hA ch hsz ho hi'
    apply L20_2_ok
    have : ¬ ((i : Int) < ps.length) := by omega
    simp -implicitDefEqProofs only [L20_2, wpB_some', bp_lss, this, decide_false, cnd_false]
    have e1 : ps.take i = ps := List.take_of_length_le (by omega)
    rw [e1] at ho
    obtain ⟨_, A', c', hxp, hrd, _⟩ := rd_of_own ho
    obtain ⟨A'', c'', hxp', _, hge, _⟩ := rdV_of_own ho
    refine retN b2 b4 (by rw [hxp]; rfl) (RI.ret (s := ([], false)) (r := r) (K := fun _ _ => True) b2 b4 bv hn hL ⟨A', c', hxp, hrd⟩ (by rw [hxp]; rfl) o1 (by omega) o4 ch ?_)
    intro B m d hB p hp
    rw [hxp'] at hB
    cases hB
    have := hge p hp
    omega
  | succ e ih =>
    intro i w xp b2 bv b4 hL hA ch hsz ho hi'
    apply L20_2_ok
    have hlt : (i : Int) < ps.length := by omega
    obtain ⟨b, o, q1, q2, _⟩ := hA.elem1 (P := Try.prog) (c := c) (n := ps.length) (i := (i : Int)) (j := .i64) Try.underlying28 sz_5 (by simp) (by omega) (by omega)
    rw [Int.toNat_natCast, u8s_get _ _ (by omega)] at q2
    have hby := hpb (ps.getD i 0) (getD_mem _ _ (by omega))
    have hstep : ps.take (i + 1) = ps.take i ++ [ps.getD i 0] := by
      rw [List.take_add_one]; congr 1
      have : i < ps.length := by omega
      simp [List.getD_eq_getElem?_getD, this]
    generalize ps.getD i 0 = x at *
    simp -implicitDefEqProofs only [L20_2, wpB_some', bp_lss, hlt, decide_true, cnd_true, q1, ld_5, q2, fa_25_1, ld_23, b4, ldC_some, show (#[Value.slice (some ⟨gv, 0, none⟩) n n, xp] : Array Value)[0 + 1]? = some xp from rfl, cv_5_3, wrapi (n := x) (by omega) (by omega)]
    refine ps_23 (by simp) ho (by omega) hsz fun x' w' ho' hg _ => ?_
    have hcw := chg_own hg
    have hge := own_ge ho
    have hone : x'.cells = #[x'] ∧ x'.oneCell' = true := by
      obtain ⟨A', c', hx', _⟩ := rdV_of_own ho'
      rw [hx']; exact ⟨rfl, rfl⟩
    have b4' := hcw.at b4 (fun hm => by have := hge _ hm; omega)
    have hlt4 := blk_lt b4'
    have hcs := hcw.size
    rw [st_23 hone.1 hone.2 (by rw [b4']; rfl), b4']
    simp -implicitDefEqProofs only [bp_add, wpB_some', wrapi (n := (i : Int) + 1) (by omega) (by omega)]
    have hput : Chg [g4] w' (put w' g4 #[.slice (some ⟨gv, 0, none⟩) n n, x'] 25) := (Chg.refl _ _).put (.inl (by simp)) _ _
    have ho2 : (put w' g4 #[.slice (some ⟨gv, 0, none⟩) n n, x'] 25).ownsRow hi 3 1 x' (i + 1) (ints (ps.take (i + 1))) := by
      rw [hstep, ints_append]
      exact ownsRow_chg ho' hput fun k hk hm => by have := own_ge ho' k (by simp [hk]); simp at hm; omega
    have h := ih (i + 1) (put w' g4 #[.slice (some ⟨gv, 0, none⟩) n n, x'] 25) x' (hput.at (hcw.at b2 (fun hm => by have := hge _ hm; omega)) (by simp; omega)) (hput.at (hcw.at bv (fun hm => by have := hge _ hm; omega)) (by simp; omega))
      (by rw [put_heap, if_pos rfl, if_pos hlt4]) ((hL.chg hcw fun k hk => .inr (hge k hk)).chg hput (by simp)) ((hA.chg hcw fun p hp hne hm => by have := hge _ hm; have := hAr p hp (u8s_ne hne); omega).chg hput fun p hp hne hm => by have := hAr p hp (u8s_ne hne); simp at hm; omega)
      (Chg.into (Chg.into ch hcw fun k hk => .inr (by have := hge k hk; omega)) hput (by simp; omega)) (by simp; omega) ho2 (by omega)
    rw [Int.natCast_add i 1] at h
    exact h
end Go.Proofs.Ytgamnncehjcdiaa
