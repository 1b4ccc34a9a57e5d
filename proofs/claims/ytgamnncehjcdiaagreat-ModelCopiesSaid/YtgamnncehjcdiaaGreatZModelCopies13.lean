/- Parts of the proof of ModelCopies, one behind the other. Conditions: none. -/
import Derived.Test.YtgamnncehjcdiaaGreatChecked
import Derived.Eval
import Derived.Test.YtgamnncehjcdiaaGreatZModelCopies12
set_option linter.unusedSimpArgs false
set_option linter.unusedVariables false
set_option maxRecDepth 100000
namespace Go.Proofs.YtgamnncehjcdiaaGreat
open Go Ev Go.RowKit

section
variable {W W1 w w' : World} {E : PlE} {m mx m' : MdV} {Kn : List HnV} {K K' B : Nat} {Fm Fx Fk F' : Fp} {kv : Value} {o : OpV} {h : HnV} {g5 g6 g7 g8 B0 : Nat}
structure PlX (W : World) (E : PlE) (w : World) (m mx : MdV) (Kn : List HnV) (K B : Nat) (Fm Fx Fk : Fp) (kv : Value) : Prop where
  D : PlF W E w m mx Kn K B Fm Fx Fk kv
  at' : hp w E.q = some (.cells #[.slice E.A E.xs.length E.cc, .int .i64 (B : Int)] 37)
theorem PlX.qlt (D : PlX W E w m mx Kn K B Fm Fx Fk kv) : E.q < w.heap.size := D.D.qlt
theorem PlX.keep (D : PlX W E w m mx Kn K B Fm Fx Fk kv) (hc : Chg [] w w') : PlX W E w' m mx Kn K B Fm Fx Fk kv := ⟨D.D.keep hc, hc.at D.at' (by simp)⟩
theorem PlX.put (D1 : PlF W E W1 m mx Kn K B0 Fm Fx Fk kv) (D : PlX W E w m mx Kn K B Fm Fx Fk kv) {x : Nat} (hx : W1.heap.size ≤ x) (c : Array Value) (e : TypeId) : PlX W E (Ev.put w x c e) m mx Kn K B Fm Fx Fk kv :=
  ⟨D1.put D.D hx c e, by rw [ax (by have := D1.qlt; omega)]; exact D.at'⟩
theorem PlX.N (D : PlX W E w m mx Kn K B Fm Fx Fk kv) (hB : B ≤ 1000000) {n : Int} (h0 : 0 < n) (h1 : n ≤ 1000000) {Q : Value → World → Prop} (hk : ∀ w', Chg [E.q] w w' → PlX W E w' m mx Kn K (B + 1) Fm Fx Fk kv → Q (.int .i64 ((sqn E.xs B n : Nat) : Int)) w') :
    CallR Tryz.prog 24 [.pointer (some ⟨E.q, 0, none⟩), .int .i64 n] w Q := by
  refine (c_SeqNf D.at' (D.D.rd.keep D.D.chg.below) (by omega) h0 h1).mono ?_
  rintro v w' ⟨rfl, hs, hc⟩
  exact hk w' hc ⟨D.D.seq hc ⟨_, hs, Nat.le_refl _⟩, hs⟩
theorem PlX.updM (D : PlX W E w m mx Kn K B Fm Fx Fk kv) (i : MdI w' E.g m' F') (u : UpdP Fm F' w w') (hk : K ≤ K') (s : St m' E.c K') : PlX W E w' m' mx Kn K' B F' Fx Fk kv := ⟨D.D.updM i u hk s, (u.keep D.at' D.D.qm).1⟩
theorem PlX.updX (D : PlX W E w m mx Kn K B Fm Fx Fk kv) (i : RfI w' E.gx (toRf m') F') (u : UpdP Fx F' w w') (hk : K ≤ K') (s : St m' E.c K') : PlX W E w' m m' Kn K' B Fm F' Fk kv := ⟨D.D.updX i u hk s, (u.keep D.at' D.D.qx).1⟩
def AskX (W : World) (E : PlE) (W1 : World) (m mx : MdV) (Kn : List HnV) (K T : Nat) (Fm Fx Fk : Fp) (kv : Value) (G : Int → OpV → HnV → Nat → Prop) (v : Value) (w' : World) : Prop :=
  ∃ (n : Int) (o : OpV) (h : HnV) (a : Nat), v = .tuple #[.int .i64 n, .agg (opC o).toArray, .agg (hnC h).toArray] ∧ PlX W E w' m mx Kn K a Fm Fx Fk kv ∧ Chg [E.q] W1 w' ∧ a ≤ T ∧ G n o h a
def litH (xs : List Int) (a : Nat) : HnV := ((sqn xs a 6 : Int) - 1, (sqn xs (a + 1) 3 : Int), (sqn xs (a + 2) 3 : Int), (sqn xs (a + 3) 3 : Int), (sqn xs (a + 4) 3 : Int))
def askH (xs : List Int) (Kn : List HnV) (a : Nat) : HnV × Nat :=
  if Kn.length = 0 then (litH xs a, a + 5)
  else if sqn xs a 10 = 0 then (litH xs (a + 1), a + 6)
  else (Kn.getD (Kn.length - 1 - sqn xs (a + 1) (if (8 : Int) < Kn.length then (8 : Int) else Kn.length)) noH, a + 2)
def askV (c1 : Int) (xs : List Int) (Kn : List HnV) (a : Nat) : Int × OpV × HnV × Nat :=
  let a1 := (genVK xs a).2
  let b := (askH xs Kn a1).2
  ((sqn xs b (c1 + 1) : Int) - (sqn xs (b + 1) 2 : Int), (genVK xs a).1, (askH xs Kn a1).1, b + 2)
def AskG (E : PlE) (Kn : List HnV) (a : Nat) : Int → OpV → HnV → Nat → Prop := fun n o h b => (n, o, h, b) = askV E.c.1 E.xs Kn a
theorem askG_of {b : Nat} (he : askH E.xs Kn (genVK E.xs B).2 = (h, b)) (ho : o = (genVK E.xs B).1) : AskG E Kn B ((sqn E.xs b (E.c.1 + 1) : Int) - (sqn E.xs (b + 1) 2 : Int)) o h (b + 2) := by
  simp only [AskG, askV, he, ho]
set_option maxHeartbeats 2000000 in
theorem l_asksX0 (D1 : PlF W E W1 m mx Kn K B0 Fm Fx Fk kv) (D : PlX W E w m mx Kn K B Fm Fx Fk kv) (hm : mayC E.c = true) (hB : B ≤ 900000) {T : Nat} (hT : B + 2 ≤ T) {G : Int → OpV → HnV → Nat → Prop} (hG : G ((sqn E.xs B (E.c.1 + 1) : Int) - (sqn E.xs (B + 1) 2 : Int)) o h (B + 2)) (hW : Chg [E.q] W1 w)
    {c5 c6 : Array Value} {e5 e6 : TypeId} (h5 : hp w g5 = some (.cells c5 e5)) (s5 : c5.size = 6) (h6 : hp w g6 = some (.cells c6 e6)) (s6 : c6.size = 5) (h7 : hp w g7 = some (.cells (opC o).toArray 39)) (h8 : hp w g8 = some (.cells (hnC h).toArray 25))
    (n5 : W1.heap.size ≤ g5) (n6 : W1.heap.size ≤ g6) (n7 : W1.heap.size ≤ g7) (n8 : W1.heap.size ≤ g8) (ne : g5 ≠ g6) (ne58 : g5 ≠ g8) (ne57 : g5 ≠ g7) :
    P8_0 (.pointer (some ⟨E.gp, 0, none⟩)) (.pointer (some ⟨E.q, 0, none⟩)) (.pointer (some ⟨g5, 0, none⟩)) (.pointer (some ⟨g6, 0, none⟩)) (.pointer (some ⟨g7, 0, none⟩)) (.pointer (some ⟨g8, 0, none⟩)) w (AskX W E W1 m mx Kn K T Fm Fx Fk kv G) := by
  apply L8_0_ok
  obtain ⟨m1, m2, m3, m4⟩ := may_cf hm
  have cd : Chg [] w w.drew := (Chg.refl _ _).drew
  have hq := D1.qlt
  have r1 := sqn_lt E.xs B (n := E.c.1 + 1) (by omega)
  have r2 := sqn_lt E.xs (B + 1) (n := 2) (by decide)
  have Dd := D.keep cd
  have c0 : ldC (hp w E.gp) (0 + 0 + 0) = some (.int .i64 E.c.1) := pl_c D.D (by omega)
  have ldo : ∀ {w' : World} {b : Nat}, hp w' b = some (.cells (opC o).toArray 39) → ldv Tryz.prog 39 (.pointer (some ⟨b, 0, none⟩)) w' = some (.agg (opC o).toArray) := fun hw => aG (t := 39) (c := (opC o).toArray) ag_39 (show (Tryz.prog.info? 39).map (·.size) = some (opC o).toArray.size from sz_39) hw
  have fin : ∀ (w3 : World), Chg [E.q] w.drew w3 → PlX W E w3 m mx Kn K (B + 2) Fm Fx Fk kv →
      effu Tryz.prog (Instr.storeAt 39 (.pointer (some ⟨g5, 0, none⟩)) (.agg (opC o).toArray)) w3 fun w => effu Tryz.prog (Instr.storeAt 25 (.pointer (some ⟨g6, 0, none⟩)) (.agg (hnC h).toArray)) w fun w => wpB (ldv Tryz.prog 39 (.pointer (some ⟨g5, 0, none⟩)) w) fun r5 => wpB (ldv Tryz.prog 25 (.pointer (some ⟨g6, 0, none⟩)) w) fun r6 => AskX W E W1 m mx Kn K T Fm Fx Fk kv G (.tuple #[.int .i64 ((sqn E.xs B (E.c.1 + 1) : Int) - (sqn E.xs (B + 1) 2 : Int)), r5, r6]) w := by
    intro w3 c3 D3
    have k5 := c3.at (show hp w.drew g5 = _ from h5) (by simp; omega)
    have k6 := c3.at (show hp w.drew g6 = _ from h6) (by simp; omega)
    rw [st_39 rfl rfl (by rw [k5, okC_some]; exact decide_eq_true (by omega)) (by rw [k5]; exact s5), k5, aD]
    have k6' : hp (put w3 g5 (opC o).toArray e5) g6 = _ := (ax ne.symm _ _).trans k6
    rw [st_hn k6' s6]
    have j6 : hp (put (put w3 g5 (opC o).toArray e5) g6 (hnC h).toArray e6) g6 = some (.cells (hnC h).toArray e6) := ap (av k6') _ _
    have j5 : hp (put (put w3 g5 (opC o).toArray e5) g6 (hnC h).toArray e6) g5 = some (.cells (opC o).toArray e5) := (ax ne _ _).trans (ap (av k5) _ _)
    have l5 : ldv Tryz.prog 39 (.pointer (some ⟨g5, 0, none⟩)) (put (put w3 g5 (opC o).toArray e5) g6 (hnC h).toArray e6) = some (.agg (opC o).toArray) := aG (t := 39) (c := (opC o).toArray) ag_39 (show (Tryz.prog.info? 39).map (·.size) = some (opC o).toArray.size from sz_39) j5
    have l6 : ldv Tryz.prog 25 (.pointer (some ⟨g6, 0, none⟩)) (put (put w3 g5 (opC o).toArray e5) g6 (hnC h).toArray e6) = some (.agg (hnC h).toArray) := aG (t := 25) (c := (hnC h).toArray) ag_25 (show (Tryz.prog.info? 25).map (·.size) = some (hnC h).toArray.size from sz_25) j6
    rw [l5, l6, ad, ad]
    refine ⟨_, o, h, B + 2, rfl, PlX.put D1 (PlX.put D1 D3 n5 _ _) n6 _ _, ?_, hT, hG⟩
    have cW : Chg [E.q] W1 w3 := (hW.trans (cd.mono (by simp))).trans c3
    exact (cW.put (.inr n5) _ _).put (.inr n6) _ _
  simp -implicitDefEqProofs only [L8_0, zS, fa_46_0, fa_33_0, af, c0, aA, az (n := E.c.1 + 1) (by omega) (by omega), ldo h7, ldo (show hp w.drew g7 = _ from h7), ld_hn h8, ld_hn (show hp w.drew g8 = _ from h8)]
  repeat' (with_reducible apply And.intro)
  all_goals
    refine Dd.N (by omega) (by omega) (by omega) fun v1 k1 D2 => ?_
    have a7 := k1.at (show hp w.drew g7 = _ from h7) (by simp; omega)
    have a8 := k1.at (show hp w.drew g8 = _ from h8) (by simp; omega)
    try simp -implicitDefEqProofs only [ldo a7, ld_hn a8, ad]
    refine D2.N (by omega) (by decide) (by decide) fun v2 k2 D3 => ?_
    have b7 := k2.at a7 (by simp; omega)
    have b8 := k2.at a8 (by simp; omega)
    simp -implicitDefEqProofs only [bp_sub, az (n := (sqn E.xs B (E.c.1 + 1) : Int) - (sqn E.xs (B + 1) 2 : Int)) (by omega) (by omega), ldo b7, ld_hn b8, ad]
    have f := fin v2 (k1.trans k2) D3
    have j5 := (k1.trans k2).at (show hp w.drew g5 = _ from h5) (by simp; omega)
    first
      | exact f
      | (rw [st_39 rfl rfl (by rw [j5, okC_some]; exact decide_eq_true (by omega)) (by rw [j5]; exact s5), j5, aD] at f ⊢
         have i8 : hp (Ev.put v2 g5 (opC o).toArray e5) g8 = _ := (ax ne58.symm _ _).trans b8
         simp -implicitDefEqProofs only [ld_hn i8, ad]
         exact f)
structure AsX (W : World) (E : PlE) (W1 w : World) (m mx : MdV) (Kn : List HnV) (K B : Nat) (Fm Fx Fk : Fp) (kv : Value) (g5 g6 g7 g8 : Nat) (o : OpV) (h : HnV) : Prop where
  D : PlX W E w m mx Kn K B Fm Fx Fk kv
  hW : Chg [E.q] W1 w
  h5 : hp w g5 = some (.cells (opC oZero).toArray 39)
  h6 : hp w g6 = some (.cells (hnC noH).toArray 25)
  h7 : hp w g7 = some (.cells (opC o).toArray 39)
  h8 : hp w g8 = some (.cells (hnC h).toArray 25)
theorem AsX.N (S : AsX W E W1 w m mx Kn K B Fm Fx Fk kv g5 g6 g7 g8 o h) (G : AsN W1 g5 g6 g7 g8) (hq : E.q < W1.heap.size) (hB : B ≤ 900000) {n : Int} (h0 : 0 < n) (h1 : n ≤ 1000000) {Q : Value → World → Prop} (hk : ∀ w', AsX W E W1 w' m mx Kn K (B + 1) Fm Fx Fk kv g5 g6 g7 g8 o h → Q (.int .i64 ((sqn E.xs B n : Nat) : Int)) w') :
    CallR Tryz.prog 24 [.pointer (some ⟨E.q, 0, none⟩), .int .i64 n] w Q := by
  obtain ⟨n5, n6, n7, n8, _⟩ := G
  exact S.D.N (by omega) h0 h1 fun w' hc D' => hk w' ⟨D', S.hW.trans hc, hc.at S.h5 (by simp; omega), hc.at S.h6 (by simp; omega), hc.at S.h7 (by simp; omega), hc.at S.h8 (by simp; omega)⟩
theorem AsX.keep (S : AsX W E W1 w m mx Kn K B Fm Fx Fk kv g5 g6 g7 g8 o h) (hc : Chg [] w w') : AsX W E W1 w' m mx Kn K B Fm Fx Fk kv g5 g6 g7 g8 o h :=
  ⟨S.D.keep hc, S.hW.trans (hc.mono (by simp)), hc.at S.h5 (by simp), hc.at S.h6 (by simp), hc.at S.h7 (by simp), hc.at S.h8 (by simp)⟩
theorem AsX.st (D1 : PlF W E W1 m mx Kn K B0 Fm Fx Fk kv) (S : AsX W E W1 w m mx Kn K B Fm Fx Fk kv g5 g6 g7 g8 o h) (G : AsN W1 g5 g6 g7 g8) (hm : mayC E.c = true) (hB : B ≤ 900000) {T : Nat} (hT : B + 2 ≤ T) {h' : HnV} {P : Int → OpV → HnV → Nat → Prop} (hP : P ((sqn E.xs B (E.c.1 + 1) : Int) - (sqn E.xs (B + 1) 2 : Int)) o h' (B + 2)) :
    effu Tryz.prog (Instr.storeAt 25 (.pointer (some ⟨g8, 0, none⟩)) (.agg (hnC h').toArray)) w fun w => P8_0 (.pointer (some ⟨E.gp, 0, none⟩)) (.pointer (some ⟨E.q, 0, none⟩)) (.pointer (some ⟨g5, 0, none⟩)) (.pointer (some ⟨g6, 0, none⟩)) (.pointer (some ⟨g7, 0, none⟩)) (.pointer (some ⟨g8, 0, none⟩)) w (AskX W E W1 m mx Kn K T Fm Fx Fk kv P) := by
  rw [st_hn S.h8 rfl]
  exact l_asksX0 D1 (PlX.put D1 S.D G.n8 _ _) hm hB hT hP (S.hW.put (.inr G.n8) _ _) ((ax G.e58 _ _).trans S.h5) rfl ((ax G.e68 _ _).trans S.h6) rfl ((ax G.e78 _ _).trans S.h7) (ap (av S.h8) _ _) G.n5 G.n6 G.n7 G.n8 G.e56 G.e58 G.e57
set_option maxHeartbeats 4000000 in
theorem c_asksX (D : PlX W E w m mx Kn K B Fm Fx Fk kv) (hm : mayC E.c = true) (hB : B ≤ 500000) (hK : K ≤ 1000) :
    CallR Tryz.prog 8 [.pointer (some ⟨E.gp, 0, none⟩), .pointer (some ⟨E.q, 0, none⟩)] w (AskX W E w m mx Kn K (B + 22) Fm Fx Fk kv (AskG E Kn B)) := by
  apply F8_ok
  have hq := D.qlt
  simp -implicitDefEqProofs only [F8, al_39, al_25, ae]
  generalize hw : (w.alloc _).alloc _ = w1
  have c1 : Chg [] w w1 := by rw [← hw]; exact ((Chg.refl _ _).alloc _).alloc _
  have z1 : w1.heap.size = w.heap.size + 2 := by rw [← hw, ae, ae]
  have a5 : hp w1 w.heap.size = some (.cells (opC oZero).toArray 39) := by rw [← hw, ac, ae, if_neg (by omega), ac, if_pos rfl]; rfl
  have a6 : hp w1 (w.heap.size + 1) = some (.cells (hnC noH).toArray 25) := by rw [← hw, ac, ae, if_pos rfl]; rfl
  clear hw
  have D0 := D.keep c1
  have sq := D0.at'
  have En : Env w1 E.q E.A E.xs (.slice none 0 0) [] := ⟨D0.D.rd.keep D0.D.chg.below, fun p hp => by have := D.D.ne p hp; have := D.D.nq; omega, ⟨none, 0, [], rfl, fun j u hj => by simp at hj, rfl, fun j x ops hx => by simp at hx, fun p hp => by cases hp⟩, by omega, by simp, fun l hl => by simp at hl, by simp [tot]⟩
  refine (c_genOpF En sq (by omega)).mono ?_
  rintro _ w2 ⟨o, at2, rfl, sq2, ha1, ha2, c2, ho, rfl⟩
  have D2 : PlX W E w2 m mx Kn K (genVK E.xs B).2 Fm Fx Fk kv := ⟨D0.D.seq c2 ⟨_, sq2, Nat.le_refl _⟩, sq2⟩
  have b5 := c2.at a5 (by simp; omega)
  have b6 := c2.at a6 (by simp; omega)
  have s2 := c2.size
  rw [st_39 (b := w2.heap.size) rfl rfl (by rw [ac, if_pos rfl]; rfl) (by rw [ac, if_pos rfl]; rfl), ac, if_pos rfl, aD]
  simp -implicitDefEqProofs only [fa_39_1, fa_39_2, ad]
  generalize hw3 : Ev.put (w2.alloc _) w2.heap.size _ _ = w3
  have c3 : Chg [] w2 w3 := by rw [← hw3]; exact ((Chg.refl _ _).alloc _).put (.inr (Nat.le_refl _)) _ _
  have z3 : w3.heap.size = w2.heap.size + 1 := by rw [← hw3]; simp
  have a7 : hp w3 w2.heap.size = some (.cells (opC o).toArray 39) := by rw [← hw3]; exact ap (by simp) _ _
  clear hw3
  rw [st_3 (o := 0 + 1) rfl rfl (by rw [a7]; rfl), a7, br, aD]
  have a7' := ap (av a7) ((opC o).toArray.setIfInBounds (0 + 1) (.int .i64 0)) 39
  rw [st_3 (o := 0 + 2) rfl rfl (by rw [a7']; rfl), a7', br, aD]
  have e7 : ((opC o).toArray.setIfInBounds (0 + 1) (.int .i64 0)).setIfInBounds (0 + 2) (.int .i64 0) = (opC (o.1, 0, 0, o.2.2.2.1, o.2.2.2.2.1, o.2.2.2.2.2)).toArray := rfl
  rw [e7]
  generalize hw4 : Ev.put (Ev.put w3 _ _ _) _ _ _ = w4
  have c4 : Chg [] w2 w4 := by rw [← hw4]; exact (c3.put (.inr (Nat.le_refl _)) _ _).put (.inr (Nat.le_refl _)) _ _
  have z4 : w4.heap.size = w2.heap.size + 1 := by rw [← hw4]; simpa using z3
  have b7 : hp w4 w2.heap.size = some (.cells (opC (o.1, 0, 0, o.2.2.2.1, o.2.2.2.2.1, o.2.2.2.2.2)).toArray 39) := by rw [← hw4]; exact ap (av a7') _ _
  clear hw4 a7' e7
  simp -implicitDefEqProofs only [bdh_, ad]
  rw [st_hn (c := (hnC noH).toArray) (e := 25) (by rw [ac, if_pos rfl]; rfl) rfl]
  generalize hw5 : Ev.put (w4.alloc _) w4.heap.size _ _ = w5
  have c5 : Chg [] w4 w5 := by rw [← hw5]; exact ((Chg.refl _ _).alloc _).put (.inr (Nat.le_refl _)) _ _
  have b8 : hp w5 w4.heap.size = some (.cells (hnC noH).toArray 25) := by rw [← hw5]; exact ap (by simp) _ _
  clear hw5
  have c25 := c4.trans c5
  have cW : Chg [E.q] w w5 := ((c1.mono (by simp)).trans c2).trans (c25.mono (by simp))
  have S : AsX W E w w5 m mx Kn K (genVK E.xs B).2 Fm Fx Fk kv w.heap.size (w.heap.size + 1) w2.heap.size w4.heap.size (o.1, 0, 0, o.2.2.2.1, o.2.2.2.2.1, o.2.2.2.2.2) noH :=
    ⟨D2.keep c25, cW, c25.at b5 (by simp), c25.at b6 (by simp), c5.at b7 (by simp), b8⟩
  have G : AsN w w.heap.size (w.heap.size + 1) w2.heap.size w4.heap.size := ⟨Nat.le_refl _, by omega, by omega, by omega, by omega, by omega, by omega, by omega, by omega⟩
  clear b8 b7 a7 b5 b6 a5 a6 c5 c25 cW c4 c3 D2 sq2 En sq
  generalize w.heap.size + 1 = g6 at *
  generalize w2.heap.size = g7 at *
  generalize w4.heap.size = g8 at *
  generalize hg5 : w.heap.size = g5 at *
  have lit : ∀ w6 B6, AsX W E w w6 m mx Kn K B6 Fm Fx Fk kv g5 g6 g7 g8 (o.1, 0, 0, o.2.2.2.1, o.2.2.2.2.1, o.2.2.2.2.2) noH → B6 ≤ B + 13 → askH E.xs Kn (genVK E.xs B).2 = (litH E.xs B6, B6 + 5) →
      CallR Tryz.prog 24 [.pointer (some ⟨E.q, 0, none⟩), .int .i64 6] w6 fun t47 u => wpB (bp Tryz.prog .sub 3 t47 (.int .i64 1)) fun t48 =>
        CallR Tryz.prog 24 [.pointer (some ⟨E.q, 0, none⟩), .int .i64 3] u fun t50 u => CallR Tryz.prog 24 [.pointer (some ⟨E.q, 0, none⟩), .int .i64 3] u fun t52 u => CallR Tryz.prog 24 [.pointer (some ⟨E.q, 0, none⟩), .int .i64 3] u fun t54 u => CallR Tryz.prog 24 [.pointer (some ⟨E.q, 0, none⟩), .int .i64 3] u fun t56 u =>
        wpB (pureRun Tryz.prog (Instr.build 25 #[(0, t48), (1, t50), (2, t52), (3, t54), (4, t56)])) fun t57 => effu Tryz.prog (Instr.storeAt 25 (.pointer (some ⟨g8, 0, none⟩)) t57) u fun u =>
        P8_0 (.pointer (some ⟨E.gp, 0, none⟩)) (.pointer (some ⟨E.q, 0, none⟩)) (.pointer (some ⟨g5, 0, none⟩)) (.pointer (some ⟨g6, 0, none⟩)) (.pointer (some ⟨g7, 0, none⟩)) (.pointer (some ⟨g8, 0, none⟩)) u (AskX W E w m mx Kn K (B + 22) Fm Fx Fk kv (AskG E Kn B)) := by
    intro w6 B6 S6 hB6 he
    have r0 := sqn_lt E.xs B6 (n := 6) (by decide)
    refine S6.N G D.qlt (by omega) (by decide) (by decide) fun v0 S7 => ?_
    simp -implicitDefEqProofs only [bp_sub, az (n := ((sqn E.xs B6 6 : Nat) : Int) - 1) (by omega) (by omega), ad]
    refine S7.N G D.qlt (by omega) (by decide) (by decide) fun v1 S8 => ?_
    refine S8.N G D.qlt (by omega) (by decide) (by decide) fun v2 S9 => ?_
    refine S9.N G D.qlt (by omega) (by decide) (by decide) fun v3 S10 => ?_
    refine S10.N G D.qlt (by omega) (by decide) (by decide) fun v4 S11 => ?_
    have hb : pureRun Tryz.prog (Instr.build 25 #[(0, .int .i64 (((sqn E.xs B6 6 : Nat) : Int) - 1)), (1, .int .i64 ((sqn E.xs (B6 + 1) 3 : Nat) : Int)), (2, .int .i64 ((sqn E.xs (B6 + 1 + 1) 3 : Nat) : Int)), (3, .int .i64 ((sqn E.xs (B6 + 1 + 1 + 1) 3 : Nat) : Int)), (4, .int .i64 ((sqn E.xs (B6 + 1 + 1 + 1 + 1) 3 : Nat) : Int))]) = some (.agg (hnC (litH E.xs B6)).toArray) := bd_25_0_1_2_3_4
    rw [hb, ad]
    exact AsX.st D.D S11 G hm (by omega) (by omega) (askG_of he ho)
  obtain ⟨A, ck, hkv, _⟩ := pl_kn S.D.D
  have hk8 := pl_k S.D.D
  rw [hkv] at hk8
  by_cases hn : (0 : Int) < Kn.length
  · simp -implicitDefEqProofs only [zS, fa_46_3, ld_44, hk8, len_44, bp_gtr, hn, gt_iff_lt]
    refine S.N G D.qlt (by omega) (by decide) (by decide) fun v6 S6 => ?_
    have S6d := S6.keep (Chg.refl [] v6).drew
    have k6 := pl_k S6.D.D
    rw [hkv] at k6
    have hn0 : Kn.length ≠ 0 := by omega
    by_cases hr : (0 : Int) < ((sqn E.xs (genVK E.xs B).2 10 : Nat) : Int)
    · have hkl := S.D.D.kl
      obtain ⟨j, hj⟩ : ∃ j : Nat, (if (8 : Int) < Kn.length then (8 : Int) else Kn.length) = j := ⟨(if (8 : Int) < Kn.length then (8 : Int) else Kn.length).toNat, by split <;> omega⟩
      have hj1 : 1 ≤ j ∧ j ≤ 8 ∧ j ≤ Kn.length := by split at hj <;> omega
      have k6d : ldC (hp v6.drew E.gp) (0 + 8) = some (.slice A Kn.length ck) := k6
      have r2 := sqn_lt E.xs ((genVK E.xs B).2 + 1) (n := (j : Int)) (by omega)
      simp -implicitDefEqProofs only [zS, bp_gtr, hr, gt_iff_lt, fa_46_3, ld_44, k6, k6d, len_44, bp_sub, az (n := (Kn.length : Int) - 1) (by omega) (by omega), pr_min, hj]
      repeat' (with_reducible apply And.intro)
      all_goals
        refine S6d.N G D.qlt (by omega) (by omega) (by omega) fun v7 S7 => ?_
        have k7 := pl_k S7.D.D
        rw [hkv] at k7
        obtain ⟨A', ck', hkv', hR⟩ := pl_kn S7.D.D
        rw [hkv] at hkv'
        cases hkv'
        obtain ⟨i, hi⟩ : ∃ i : Nat, (Kn.length : Int) - 1 - ((sqn E.xs ((genVK E.xs B).2 + 1) (j : Int) : Nat) : Int) = i := ⟨((Kn.length : Int) - 1 - ((sqn E.xs ((genVK E.xs B).2 + 1) (j : Int) : Nat) : Int)).toNat, by omega⟩
        have hil : i < Kn.length := by omega
        obtain ⟨bb, oo, q1, _, q3, _⟩ := hR.elem (P := Tryz.prog) (c := ck) (n := Kn.length) (i := (i : Int)) (j := .i64) Tryz.underlying44 sz_25 (by omega) (by rw [bf hnC_len]; exact Nat.le_refl _) (by omega) (by omega)
        rw [Int.toNat_natCast, flat_at hnC_len Kn i hil] at q3
        have l1 : ldv Tryz.prog 25 (.pointer (some ⟨bb, oo, none⟩)) v7 = some (.agg (hnC (Kn[i]'hil)).toArray) := by rw [ld_25, q3]; rfl
        have he : askH E.xs Kn (genVK E.xs B).2 = (Kn[i]'hil, (genVK E.xs B).2 + 2) := by
          unfold askH
          rw [if_neg hn0, if_neg (by omega), hj, show Kn.length - 1 - sqn E.xs ((genVK E.xs B).2 + 1) (j : Int) = i by omega, List.getD_eq_getElem?_getD, List.getElem?_eq_getElem hil]
          rfl
        simp -implicitDefEqProofs only [zS, fa_46_3, ld_44, k7, len_44, bp_sub, az (n := (Kn.length : Int) - 1) (by omega) (by omega), hi, az (n := (i : Int)) (by omega) (by omega), q1, l1]
        exact AsX.st D.D S7 G hm (by omega) (by omega) (askG_of he ho)
    · simp -implicitDefEqProofs only [zS, bp_gtr, hr, gt_iff_lt]
      exact lit _ _ S6 (by omega) (by unfold askH; rw [if_neg hn0, if_pos (by omega)])
  · simp -implicitDefEqProofs only [zS, fa_46_3, ld_44, hk8, len_44, bp_gtr, hn, gt_iff_lt]
    exact lit _ _ S (by omega) (by unfold askH; rw [if_pos (by omega)])
end
end Go.Proofs.YtgamnncehjcdiaaGreat

namespace Go.Proofs.YtgamnncehjcdiaaGreat
open Go Ev Go.RowKit

section
variable {W W1 w w' : World} {E : PlE} {m mx : MdV} {Kn : List HnV} {K B : Nat} {Fm Fx Fk : Fp} {kv : Value} {o : OpV} {h x : HnV} {g8 g9 g10 g14 g16 B0 nn : Nat}
def AnsX (W : World) (E : PlE) (W1 : World) (m mx : MdV) (Kn : List HnV) (K T : Nat) (Fm Fx Fk : Fp) (kv : Value) (G : RsV → Nat → Prop) (v : Value) (w' : World) : Prop :=
  ∃ (r : RsV) (a : Nat), v = .agg (rsC r).toArray ∧ PlX W E w' m mx Kn K a Fm Fx Fk kv ∧ Chg [E.q] W1 w' ∧ a ≤ T ∧ G r a
def ans3V (xs : List Int) (x : HnV) (b : Nat) : RsV × Nat := (if sqn xs b 8 = 0 then codeR 6 else (0, x, 0, 0), b + 1)
def ans1V (mx : MdV) (xs : List Int) (nn : Int) (h x : HnV) (b : Nat) : RsV × Nat :=
  if (objsV mx h.1).length = 0 then ans3V xs x b
  else if sqn xs b 3 = 0 then ans3V xs x (b + 1)
  else ans3V xs (x.1, x.2.1, ((objsV mx h.1).getD ((objsV mx h.1).length - 1) noH).2.2.1, (mustV mx nn (12, 0, 0, 0, 0, 0) (h.1, h.2.1, 0, 0, 0)).1.2.2.1, x.2.2.2.2) (b + 1)
def ans0V (c : CfV) (mx : MdV) (xs : List Int) (nn : Int) (o : OpV) (h : HnV) (b : Nat) : RsV × Nat :=
  if o.1 = 1 then (if sqn xs (b + 1) 6 = 0 then codeR 7 else (0, ((sqn xs b c.2.2.2.1 : Int), laterV (mx.slots.getD (sqn xs b c.2.2.2.1) (0, 0)).2, 0, 0, 0), 0, 0), b + 2)
  else ans1V mx xs nn h (h.1, h.2.1, (sqn xs b c.2.1 : Int), 0, o.2.2.2.1) (b + 1)
def ansV (c : CfV) (mx : MdV) (xs : List Int) (n : Int) (o : OpV) (h : HnV) (a : Nat) : RsV × Nat :=
  if sqn xs a 8 = 0 then ((codesL.getD (sqn xs (a + 1) 6) 0, noH, (sqn xs (a + 2) 2 : Int), (sqn xs (a + 3) 3 : Int)), a + 4)
  else if n < 0 ∨ c.1 ≤ n ∨ mayO o = false then (noR, a + 1)
  else if (mustV mx n o h).2 = true then ((mustV mx n o h).1, a + 1)
  else ans0V c mx xs n o h (a + 1)
structure AnX (W : World) (E : PlE) (W1 w : World) (m mx : MdV) (Kn : List HnV) (K B : Nat) (Fm Fx Fk : Fp) (kv : Value) (g8 g9 g10 : Nat) (o : OpV) (h : HnV) : Prop where
  D1 : ∃ B0, PlF W E W1 m mx Kn K B0 Fm Fx Fk kv
  D : PlX W E w m mx Kn K B Fm Fx Fk kv
  hW : Chg [E.q] W1 w
  h8 : hp w g8 = some (.cells (opC o).toArray 39)
  h9 : hp w g9 = some (.cells (hnC h).toArray 25)
  h10 : hp w g10 = some (.cells (rsC noR).toArray 28)
  n8 : W1.heap.size ≤ g8
  n9 : W1.heap.size ≤ g9
  n10 : W1.heap.size ≤ g10
theorem AnX.qlt (S : AnX W E W1 w m mx Kn K B Fm Fx Fk kv g8 g9 g10 o h) : E.q < W1.heap.size := by
  obtain ⟨B0, D1⟩ := S.D1
  exact D1.qlt
theorem AnX.qch (S : AnX W E W1 w m mx Kn K B Fm Fx Fk kv g8 g9 g10 o h) {B' : Nat} (hc : Chg [E.q] w w') (D : PlX W E w' m mx Kn K B' Fm Fx Fk kv) : AnX W E W1 w' m mx Kn K B' Fm Fx Fk kv g8 g9 g10 o h := by
  have := S.qlt
  have := S.n8
  have := S.n9
  have := S.n10
  exact ⟨S.D1, D, S.hW.trans hc, hc.at S.h8 (by simp; omega), hc.at S.h9 (by simp; omega), hc.at S.h10 (by simp; omega), S.n8, S.n9, S.n10⟩
theorem AnX.N (S : AnX W E W1 w m mx Kn K B Fm Fx Fk kv g8 g9 g10 o h) (hB : B ≤ 900000) {n : Int} (h0 : 0 < n) (h1 : n ≤ 1000000) {Q : Value → World → Prop} (hk : ∀ w', Chg [E.q] w w' → AnX W E W1 w' m mx Kn K (B + 1) Fm Fx Fk kv g8 g9 g10 o h → Q (.int .i64 ((sqn E.xs B n : Nat) : Int)) w') :
    CallR Tryz.prog 24 [.pointer (some ⟨E.q, 0, none⟩), .int .i64 n] w Q :=
  S.D.N (by omega) h0 h1 fun w' hc D' => hk w' hc (S.qch hc D')
theorem AnX.keep (S : AnX W E W1 w m mx Kn K B Fm Fx Fk kv g8 g9 g10 o h) (hc : Chg [] w w') : AnX W E W1 w' m mx Kn K B Fm Fx Fk kv g8 g9 g10 o h :=
  ⟨S.D1, S.D.keep hc, S.hW.trans (hc.mono (by simp)), hc.at S.h8 (by simp), hc.at S.h9 (by simp), hc.at S.h10 (by simp), S.n8, S.n9, S.n10⟩
theorem AnX.put (S : AnX W E W1 w m mx Kn K B Fm Fx Fk kv g8 g9 g10 o h) {y : Nat} (hy : W1.heap.size ≤ y) (y8 : y ≠ g8) (y9 : y ≠ g9) (y10 : y ≠ g10) (c : Array Value) (e : TypeId) : AnX W E W1 (Ev.put w y c e) m mx Kn K B Fm Fx Fk kv g8 g9 g10 o h := by
  obtain ⟨B0, D1⟩ := S.D1
  exact ⟨⟨B0, D1⟩, PlX.put D1 S.D hy _ _, S.hW.put (.inr hy) _ _, (ax y8.symm _ _).trans S.h8, (ax y9.symm _ _).trans S.h9, (ax y10.symm _ _).trans S.h10, S.n8, S.n9, S.n10⟩
theorem AnX.ans (S : AnX W E W1 w m mx Kn K B Fm Fx Fk kv g8 g9 g10 o h) (r : RsV) {T : Nat} (hT : B ≤ T) {G : RsV → Nat → Prop} (hG : G r B) :
    effu Tryz.prog (Instr.storeAt 28 (.pointer (some ⟨g10, 0, none⟩)) (.agg (rsC r).toArray)) w fun w => wpB (ldv Tryz.prog 28 (.pointer (some ⟨g10, 0, none⟩)) w) fun r10 => AnsX W E W1 m mx Kn K T Fm Fx Fk kv G r10 w := by
  obtain ⟨B0, D1⟩ := S.D1
  rw [st_res S.h10 rfl, aZ (ap (av S.h10) _ _), ad]
  exact ⟨r, B, rfl, PlX.put D1 S.D S.n10 _ _, S.hW.put (.inr S.n10) _ _, hT, hG⟩
set_option maxHeartbeats 1000000 in
theorem l_ansX3 (S : AnX W E W1 w m mx Kn K B Fm Fx Fk kv g8 g9 g10 o h) (hB : B ≤ 900000) (h14 : hp w g14 = some (.cells (hnC x).toArray 25)) (n14 : W1.heap.size ≤ g14) {T : Nat} (hT : B + 1 ≤ T) {G : RsV → Nat → Prop} (hG : G (ans3V E.xs x B).1 (ans3V E.xs x B).2) :
    P14_3 (.pointer (some ⟨E.q, 0, none⟩)) (.pointer (some ⟨g10, 0, none⟩)) (.pointer (some ⟨g14, 0, none⟩)) w (AnsX W E W1 m mx Kn K T Fm Fx Fk kv G) := by
  apply L14_3_ok
  have := S.qlt
  simp -implicitDefEqProofs only [L14_3]
  refine S.N (by omega) (by decide) (by decide) fun v1 c1 S1 => ?_
  unfold ans3V at hG
  have k14 := c1.at h14 (by simp; omega)
  by_cases hr : ((sqn E.xs B 8 : Nat) : Int) = 0
  · have e : (((sqn E.xs B 8 : Nat) : Int) == 0) = true := by rw [hr]; rfl
    rw [if_pos (by omega)] at hG
    simp -implicitDefEqProofs only [zS, e, bdr_0]
    exact S1.ans _ hT hG
  · rw [if_neg (by omega)] at hG
    simp -implicitDefEqProofs only [zS, eqf hr, ld_hn k14, bdr_1]
    exact S1.ans _ hT hG
set_option maxHeartbeats 1000000 in
theorem l_ansX2 (S : AnX W E W1 w m mx Kn K B Fm Fx Fk kv g8 g9 g10 o h) (hB : B ≤ 900000) (h14 : hp w g14 = some (.cells (hnC x).toArray 25)) (n14 : W1.heap.size ≤ g14) (e8 : g14 ≠ g8) (e9 : g14 ≠ g9) (e10 : g14 ≠ g10) {r : RsV} (h16 : hp w g16 = some (.cells (rsC r).toArray 28)) {T : Nat} (hT : B + 1 ≤ T) {G : RsV → Nat → Prop} (hG : G (ans3V E.xs (x.1, x.2.1, x.2.2.1, r.2.2.1, x.2.2.2.2) B).1 (ans3V E.xs (x.1, x.2.1, x.2.2.1, r.2.2.1, x.2.2.2.2) B).2) :
    P14_2 (.pointer (some ⟨E.q, 0, none⟩)) (.pointer (some ⟨g10, 0, none⟩)) (.pointer (some ⟨g14, 0, none⟩)) (.pointer (some ⟨g16, 0, none⟩)) w (AnsX W E W1 m mx Kn K T Fm Fx Fk kv G) := by
  apply L14_2_ok
  have e2 : (rsC r).toArray[0 + 6]? = some (.int .i64 r.2.2.1) := rfl
  simp -implicitDefEqProofs only [L14_2, zS, fa_28_2, fa_25_3, af, h16, e2]
  rw [st_3 (o := 0 + 3) rfl rfl (by rw [h14]; rfl), h14, br, aD]
  exact l_ansX3 (x := (x.1, x.2.1, x.2.2.1, r.2.2.1, x.2.2.2.2)) (S.put n14 e8 e9 e10 _ _) hB (ap (av h14) _ _) n14 hT hG
set_option maxHeartbeats 4000000 in
theorem l_ansX1 (S : AnX W E W1 w m mx Kn K B Fm Fx Fk kv g8 g9 g10 o h) (hB : B ≤ 800000) (hK : K ≤ 1000) (hn : (nn : Int) < E.c.1) (h14 : hp w g14 = some (.cells (hnC x).toArray 25)) (n14 : W1.heap.size ≤ g14) (e8 : g14 ≠ g8) (e9 : g14 ≠ g9) (e10 : g14 ≠ g10) {T : Nat} (hT : B + 2 ≤ T) {G : RsV → Nat → Prop} (hG : G (ans1V mx E.xs nn h x B).1 (ans1V mx E.xs nn h x B).2) :
    P14_1 (.pointer (some ⟨E.gp, 0, none⟩)) (.pointer (some ⟨E.q, 0, none⟩)) (.int .i64 nn) (.pointer (some ⟨g9, 0, none⟩)) (.pointer (some ⟨g10, 0, none⟩)) (.pointer (some ⟨g14, 0, none⟩)) w (AnsX W E W1 m mx Kn K T Fm Fx Fk kv G) := by
  apply L14_1_ok
  have hq := S.qlt
  have sW := S.hW.size
  have cd : Chg [] w w.drew := (Chg.refl _ _).drew
  have Sd := S.keep cd
  have kx := pl_x Sd.D.D
  have kxw := pl_x S.D.D
  have u0 : (hnC h).toArray[0 + 0]? = some (.int .i64 h.1) := rfl
  have u1 : (hnC h).toArray[0 + 1]? = some (.int .i64 h.2.1) := rfl
  have hmay : mayV mx nn (12, 0, 0, 0, 0, 0) = true := by
    have h1 := S.D.D.sx.wn.cw
    rw [S.D.D.sx.mc] at h1
    have h2 : mayO (12, 0, 0, 0, 0, 0) = true := by decide
    rw [mayV, h2, decide_eq_true (show (0 : Int) ≤ nn by omega), decide_eq_true (show (nn : Int) < mx.hands.length by omega)]; rfl
  simp -implicitDefEqProofs only [L14_1, zS, fa_46_2, ba, ld_43, af, kx, kxw, S.h9, u0]
  refine (c_rObjects Sd.D.D.X Sd.D.D.sx.wf Sd.D.D.sx.wn (by omega) h.1).mono ?_
  rintro v w2 ⟨⟨A, co, rfl, hR⟩, c2, hfr⟩
  have S2 := Sd.keep c2
  have k14 := (cd.trans c2).at h14 (by simp)
  have s2 := (cd.trans c2).size
  by_cases hl : (0 : Int) < (objsV mx h.1).length
  · simp -implicitDefEqProofs only [zS, len_44, bp_gtr, gt_iff_lt, hl]
    have hl0 : (objsV mx h.1).length ≠ 0 := by omega
    unfold ans1V at hG
    simp only [if_neg hl0] at hG
    refine S2.N (by omega) (by decide) (by decide) fun v3 c3 S3 => ?_
    have j14 := c3.at k14 (by simp; omega)
    by_cases hr : (0 : Int) < ((sqn E.xs B 3 : Nat) : Int)
    · rw [if_neg (by omega)] at hG
      have hol : (objsV mx h.1).length ≤ 1000 := by
        unfold objsV
        split
        · split
          · split
            · rename_i r' hr'
              exact Nat.le_trans (S.D.D.sx.wf.rg r' (List.mem_of_getElem? hr')).ol (by omega)
            · simp
          · simp
        · simp
      obtain ⟨i, hi⟩ : ∃ i : Nat, ((objsV mx h.1).length : Int) - 1 = i := ⟨(objsV mx h.1).length - 1, by omega⟩
      have hne : ∀ p, A = some p → p.block ≠ E.q := fun p hp => by
        have := hfr p _ _ (by rw [hp])
        have : w.drew.heap.size = w.heap.size := rfl
        omega
      have hR3 := hR.chg c3 fun p hp _ => by simpa using hne p hp
      obtain ⟨bb, oo, q1, q2, _⟩ := hR3.elem (P := Tryz.prog) (c := co) (n := (objsV mx h.1).length) (i := (i : Int)) (j := .i64) Tryz.underlying44 sz_25 (by omega) (by rw [bf hnC_len]; exact Nat.le_refl _) (by omega) (by omega)
      have hil : i < (objsV mx h.1).length := by omega
      have hgd : (objsV mx h.1).getD ((objsV mx h.1).length - 1) noH = (objsV mx h.1)[i] := by
        rw [show (objsV mx h.1).length - 1 = i by omega, List.getD_eq_getElem?_getD, List.getElem?_eq_getElem hil]; rfl
      rw [hgd] at hG
      have q22 := q2 2 (by omega)
      have fa5 := flat_at hnC_len (objsV mx h.1) i hil
      have fg := congrArg (fun l : List Value => l[2]?) fa5
      simp only [List.getElem?_take, List.getElem?_drop] at fg
      rw [if_pos (by omega)] at fg
      rw [Int.toNat_natCast, fg] at q22
      have q23 : ldC (hp v3 bb) (oo + 2) = some (.int .i64 ((objsV mx h.1)[i]).2.2.1) := q22
      simp -implicitDefEqProofs only [zS, len_44, bp_gtr, gt_iff_lt, hr, bp_sub, hi, az (n := (i : Int)) (by omega) (by omega), q1, bm, af, q23]
      rw [st_3 (o := 0 + 2) rfl rfl (by rw [j14]; rfl), j14, br, aD]
      have S4 := S3.put n14 e8 e9 e10 ((hnC x).toArray.setIfInBounds (0 + 2) (.int .i64 ((objsV mx h.1)[i]).2.2.1)) 25
      have i14 : hp (Ev.put v3 g14 ((hnC x).toArray.setIfInBounds (0 + 2) (.int .i64 ((objsV mx h.1)[i]).2.2.1)) 25) g14 = some (.cells (hnC (x.1, x.2.1, ((objsV mx h.1)[i]).2.2.1, x.2.2.2.1, x.2.2.2.2)).toArray 25) := ap (av j14) _ _
      generalize Ev.put v3 g14 ((hnC x).toArray.setIfInBounds (0 + 2) (.int .i64 ((objsV mx h.1)[i]).2.2.1)) 25 = w4 at *
      have cd4 : Chg [] w4 w4.drew := (Chg.refl _ _).drew
      have S4d := S4.keep cd4
      have k4 := pl_x S4.D.D
      have k4d := pl_x S4d.D.D
      have i14d := cd4.at i14 (by simp)
      have S4z := S4d.h9
      have S4y := S4.h9
      simp -implicitDefEqProofs only [zS, fa_46_2, bdo_0, ba, fa_25_1, ld_43, af, k4, k4d, S4y, S4z, u0, u1, bdh_01, al_28]
      have fin : ∀ w6 b, Chg [] w4.drew w6 → hp w6 b = some (.cells (rsC (mustV mx nn (12, 0, 0, 0, 0, 0) (h.1, h.2.1, 0, 0, 0)).1).toArray 28) → P14_2 (.pointer (some ⟨E.q, 0, none⟩)) (.pointer (some ⟨g10, 0, none⟩)) (.pointer (some ⟨g14, 0, none⟩)) (.pointer (some ⟨b, 0, none⟩)) w6 (AnsX W E W1 m mx Kn K T Fm Fx Fk kv G) := fun w6 b c6 h6 =>
        l_ansX2 (S4d.keep c6) (by omega) (c6.at i14d (by simp)) n14 e8 e9 e10 h6 (by omega) hG
      repeat' (with_reducible apply And.intro)
      all_goals first
        | (have ca : Chg [] w4.drew (w4.drew.alloc (.cells (rsC noR).toArray 28)) := (Chg.refl _ _).alloc _
           refine (c_rMust (S4d.D.D.X.keep ca) S4d.D.D.sx.wf (by omega) hmay (h.1, h.2.1, 0, 0, 0)).mono ?_
           rintro _ w6 ⟨rfl, c6⟩
           have a6 := c6.at (show hp (w4.drew.alloc (.cells (rsC noR).toArray 28)) w4.drew.heap.size = some (.cells (rsC noR).toArray 28) by rw [ac, if_pos rfl]) (by simp)
           simp -implicitDefEqProofs only [tup0, tup1, zS]
           rw [st_res a6 rfl]
           exact fin _ _ ((ca.trans c6).put (.inr (Nat.le_refl _)) _ _) (ap (av a6) _ _))
        | (refine (c_rMust S4d.D.D.X S4d.D.D.sx.wf (by omega) hmay (h.1, h.2.1, 0, 0, 0)).mono ?_
           rintro _ w6 ⟨rfl, c6⟩
           simp -implicitDefEqProofs only [tup0, tup1, zS, al_28]
           have a6 : hp (w6.alloc (.cells (rsC noR).toArray 28)) w6.heap.size = some (.cells (rsC noR).toArray 28) := by rw [ac, if_pos rfl]
           have ca : Chg [] w6 (w6.alloc (.cells (rsC noR).toArray 28)) := (Chg.refl _ _).alloc _
           erw [st_res a6 rfl]
           exact fin _ _ ((c6.trans ca).put (.inr c6.size) _ _) (ap (av a6) _ _))
    · simp -implicitDefEqProofs only [zS, len_44, bp_gtr, gt_iff_lt, hr]
      rw [if_pos (by omega)] at hG
      exact l_ansX3 S3 (by omega) j14 n14 (by omega) hG
  · simp -implicitDefEqProofs only [zS, len_44, bp_gtr, gt_iff_lt, hl]
    unfold ans1V at hG
    rw [if_pos (by omega)] at hG
    exact l_ansX3 S2 (by omega) k14 n14 (by omega) hG
end
end Go.Proofs.YtgamnncehjcdiaaGreat

namespace Go.Proofs.YtgamnncehjcdiaaGreat
open Go Ev Go.RowKit

section
variable {W W1 w w' : World} {E : PlE} {m mx : MdV} {Kn : List HnV} {K B : Nat} {Fm Fx Fk : Fp} {kv : Value} {o : OpV} {h x : HnV} {g8 g9 g10 g11 B0 nn : Nat}
set_option maxHeartbeats 8000000 in
theorem l_ansX0 (S : AnX W E W1 w m mx Kn K B Fm Fx Fk kv g8 g9 g10 o h) (hm : mayC E.c = true) (hB : B ≤ 700000) (hK : K ≤ 1000) (hn : (nn : Int) < E.c.1) {r : RsV} {t : Bool} (h11 : hp w g11 = some (.cells (rsC r).toArray 28)) {T : Nat} (hT : B + 4 ≤ T) {G : RsV → Nat → Prop} (hGt : t = true → G r B) (hG : t = false → G (ans0V E.c mx E.xs nn o h B).1 (ans0V E.c mx E.xs nn o h B).2) :
    P14_0 (.pointer (some ⟨E.gp, 0, none⟩)) (.pointer (some ⟨E.q, 0, none⟩)) (.int .i64 nn) (.pointer (some ⟨g8, 0, none⟩)) (.pointer (some ⟨g9, 0, none⟩)) (.pointer (some ⟨g10, 0, none⟩)) (.pointer (some ⟨g11, 0, none⟩)) (.bool t) w (AnsX W E W1 m mx Kn K T Fm Fx Fk kv G) := by
  apply L14_0_ok
  obtain ⟨m1, m2, m3, m4⟩ := may_cf hm
  have hq := S.qlt
  cases t with
  | true =>
    simp -implicitDefEqProofs only [L14_0, zS, aZ h11]
    exact S.ans _ (by omega) (hGt rfl)
  | false =>
  have hG := hG rfl
  unfold ans0V at hG
  by_cases k1 : o.1 = 1
  · rw [if_pos k1] at hG
    have s1 := sqn_lt E.xs B (n := E.c.2.2.2.1) (by omega)
    have e1 : (o.1 == 1) = true := by rw [k1]; rfl
    have c3 : ldC (hp w E.gp) (0 + 0 + 3) = some (.int .i64 E.c.2.2.2.1) := pl_c S.D.D (by omega)
    simp -implicitDefEqProofs only [L14_0, zS, aj, af, S.h8, aC, e1, fa_46_0, fa_33_3, c3]
    refine S.N (by omega) (by omega) (by omega) fun v1 c1 S1 => ?_
    refine S1.N (by omega) (by decide) (by decide) fun v2 c2 S2 => ?_
    generalize sqn E.xs (B + 1) 6 = t at *
    generalize sqn E.xs B E.c.2.2.2.1 = s at *
    by_cases ht : (t : Int) = 0
    · rw [if_pos (by omega)] at hG
      have e : ((t : Int) == 0) = true := by rw [ht]; rfl
      simp -implicitDefEqProofs only [zS, e, bdr_0]
      exact S2.ans _ (by omega) hG
    · rw [if_neg (by omega)] at hG
      have kx := pl_x S2.D.D
      obtain ⟨sv, gn, rv, dd, hh, R⟩ := S2.D.D.X.rd
      obtain ⟨A, ca, rfl, hR⟩ := ints_sh R.gT
      have cs := S2.D.D.sx.wn.cs
      rw [S2.D.D.sx.mc] at cs
      have hl : (toRf mx).gen.length = mx.slots.length := by simp [toRf]
      have hsl : s < mx.slots.length := by omega
      have hgd : mx.slots.getD s (0, 0) = mx.slots[s] := by rw [List.getD_eq_getElem?_getD, List.getElem?_eq_getElem hsl]; rfl
      rw [hgd] at hG
      have hgs : (toRf mx).gen[s]? = some (mx.slots[s]).2 := by simp [toRf, hsl]
      obtain ⟨p, p1, p2⟩ := int_at (c := ca) hR hgs
      have hp1 := S2.D.D.sx.wn.gk _ (List.getElem_mem hsl)
      simp -implicitDefEqProofs only [zS, eqf ht, fa_46_2, ld_43, kx, fa_108_3, aY, R.gl, p1]
      rw [← af] at *
      simp -implicitDefEqProofs only [p2, ad]
      refine (c_rLater _ (by omega) v2 (by omega)).step ?_
      simp -implicitDefEqProofs only [bdh_01, bdr_1, ad]
      exact S2.ans _ (by omega) hG
  · rw [if_neg k1] at hG
    have cd : Chg [] w w.drew := (Chg.refl _ _).drew
    have Sd := S.keep cd
    have c1 : ldC (hp w E.gp) (0 + 0 + 1) = some (.int .i64 E.c.2.1) := pl_c S.D.D (by omega)
    have u0 : (hnC h).toArray[0 + 0]? = some (.int .i64 h.1) := rfl
    have u1 : (hnC h).toArray[0 + 1]? = some (.int .i64 h.2.1) := rfl
    have b8 := av S.h8
    have b9 := av S.h9
    have b10 := av S.h10
    have sW := S.hW.size
    have hbd : ∀ a b c d : Int, pureRun Tryz.prog (Instr.build 25 #[(0, .int .i64 a), (1, .int .i64 b), (2, .int .i64 c), (4, .int .i64 d)]) = some (.agg (hnC (a, b, c, 0, d)).toArray) := fun a b c d => bd_25_0_1_2_4
    simp -implicitDefEqProofs only [L14_0, zS, aj, af, S.h8, aC, eqf k1, fa_46_0, fa_33_1, c1, ba, fa_25_1, S.h9, u0, u1, aN, op_3, al_25]
    repeat' (with_reducible apply And.intro)
    all_goals first
      | (have ca : Chg [] w.drew (w.drew.alloc (.cells (hnC noH).toArray 25)) := (Chg.refl _ _).alloc _
         have aa : hp (w.drew.alloc (.cells (hnC noH).toArray 25)) w.drew.heap.size = some (.cells (hnC noH).toArray 25) := by rw [ac, if_pos rfl]
         have szd : w.drew.heap.size = w.heap.size := rfl
         refine (Sd.keep ca).N (by omega) (by omega) (by omega) fun v1 k1 S1 => ?_
         have a1 := k1.at aa (by simp; omega)
         simp -implicitDefEqProofs only [zS, aN, af, S1.h8, op_3, ba, fa_25_1, S1.h9, u0, u1, hbd]
         rw [st_hn a1 rfl]
         exact l_ansX1 (S1.put (by omega) (by omega) (by omega) (by omega) _ _) (by omega) hK hn (ap (av a1) _ _) (by omega) (by omega) (by omega) (by omega) (by omega) hG)
      | (refine Sd.N (by omega) (by omega) (by omega) fun v1 k1 S1 => ?_
         simp -implicitDefEqProofs only [zS, aN, af, S1.h8, op_3, ba, fa_25_1, S1.h9, u0, u1, hbd]
         have szd : w.drew.heap.size = w.heap.size := rfl
         have sz1 := k1.size
         have ca : Chg [] v1 (v1.alloc (.cells (hnC noH).toArray 25)) := (Chg.refl _ _).alloc _
         have aa : hp (v1.alloc (.cells (hnC noH).toArray 25)) v1.heap.size = some (.cells (hnC noH).toArray 25) := by rw [ac, if_pos rfl]
         have S2 := S1.keep ca
         erw [st_hn aa rfl]
         exact l_ansX1 (S2.put (by omega) (by omega) (by omega) (by omega) _ _) (by omega) hK hn (ap (av aa) _ _) (by omega) (by omega) (by omega) (by omega) (by omega) hG)
set_option maxHeartbeats 8000000 in
theorem c_answerX (D : PlX W E w m mx Kn K B Fm Fx Fk kv) (hm : mayC E.c = true) (hB : B ≤ 500000) (hK : K ≤ 1000) (n : Int) (o : OpV) (h : HnV) {G : RsV → Nat → Prop} (hG : G (ansV E.c mx E.xs n o h B).1 (ansV E.c mx E.xs n o h B).2) :
    CallR Tryz.prog 14 [.pointer (some ⟨E.gp, 0, none⟩), .pointer (some ⟨E.q, 0, none⟩), .int .i64 n, .agg (opC o).toArray, .agg (hnC h).toArray] w (AnsX W E w m mx Kn K (B + 6) Fm Fx Fk kv G) := by
  apply F14_ok
  have hq := D.qlt
  simp -implicitDefEqProofs only [F14, aE, aB, al_28, ae]
  generalize hw : ((w.alloc (.cells (opC o).toArray 39)).alloc _).alloc _ = w1
  have c1 : Chg [] w w1 := by rw [← hw]; exact (((Chg.refl _ _).alloc _).alloc _).alloc _
  have b8 : hp w1 w.heap.size = some (.cells (opC o).toArray 39) := by rw [← hw, ac, ae, ae, if_neg (by omega), ac, ae, if_neg (by omega), ac, if_pos rfl]
  have b9 : hp w1 (w.heap.size + 1) = some (.cells (hnC h).toArray 25) := by rw [← hw, ac, ae, ae, if_neg (by omega), ac, ae, if_pos rfl]
  have b10 : hp w1 (w.heap.size + 1 + 1) = some (.cells (rsC noR).toArray 28) := by rw [← hw, ac, ae, ae, if_pos rfl]; rfl
  clear hw
  have S : AnX W E w w1 m mx Kn K B Fm Fx Fk kv w.heap.size (w.heap.size + 1) (w.heap.size + 1 + 1) o h := ⟨⟨B, D.D⟩, D.keep c1, c1.mono (by simp), b8, b9, b10, Nat.le_refl _, by omega, by omega⟩
  clear b8 b9 b10 c1
  generalize w.heap.size + 1 + 1 = g10 at *
  generalize w.heap.size + 1 = g9 at *
  generalize hg8 : w.heap.size = g8 at *
  refine S.N (by omega) (by decide) (by decide) fun v0 k0 S0 => ?_
  unfold ansV at hG
  have h6 := sqn_lt E.xs (B + 1) (n := 6) (by decide)
  have h2 := sqn_lt E.xs (B + 2) (n := 2) (by decide)
  have h3 := sqn_lt E.xs (B + 3) (n := 3) (by decide)
  have hbd : ∀ a b c : Int, pureRun Tryz.prog (Instr.build 28 #[(0, .int .i64 a), (2, .int .i64 b), (3, .int .u64 c)]) = some (.agg (rsC (a, noH, b, c)).toArray) := fun a b c => bd_28_0_2_3
  by_cases hr : ((sqn E.xs B 8 : Nat) : Int) = 0
  · have e0 : (((sqn E.xs B 8 : Nat) : Int) == 0) = true := by rw [hr]; rfl
    rw [if_pos (show sqn E.xs B 8 = 0 by omega)] at hG
    have hqv := S0.D.qlt
    have Sd := S0.keep (Chg.refl [] v0).drew
    simp -implicitDefEqProofs only [zS, e0]
    refine ⟨⟨?_, ?_, ?_⟩, ⟨?_, ?_, ?_⟩, ⟨?_, ?_⟩, ?_⟩
    · rw [bs_104_6]
      have cb : Chg [] v0.drew (v0.drew.alloc (.cells (ints codesL).toArray 23)) := (Chg.refl _ _).alloc _
      have hb : hp (v0.drew.alloc (.cells (ints codesL).toArray 23)) v0.drew.heap.size = some (.cells (ints codesL).toArray 23) := by rw [ac, if_pos rfl]
      have Sb := Sd.keep cb
      have qb := Sd.D.qlt
      have ea : (v0.drew.alloc (.cells #[.int .i64 0, .int .i64 3, .int .i64 4, .int .i64 7, .int .i64 6, .int .i64 2] 23)) = v0.drew.alloc (.cells (ints codesL).toArray 23) := rfl
      rw [ea]
      refine Sb.N (by omega) (by decide) (by decide) fun v1 k1 S1 => ?_
      have hb1 := k1.at hb (by simp; omega)
      try simp -implicitDefEqProofs only [(ak (r := sqn E.xs (B + 1) 6) (by omega)).1, aU, hb1, (ak (r := sqn E.xs (B + 1) 6) (b := 0) (by omega)).2, ad]
      try simp -implicitDefEqProofs only [(ak (r := sqn E.xs (B + 1) 6) (by omega)).1, aU, hb1, (ak (r := sqn E.xs (B + 1) 6) (b := 0) (by omega)).2, ad]
      refine S1.N (by omega) (by decide) (by decide) fun v2 k2 S2 => ?_
      have hb2 := k2.at hb1 (by simp; omega)
      try simp -implicitDefEqProofs only [(ak (r := sqn E.xs (B + 1) 6) (by omega)).1, aU, hb2, (ak (r := sqn E.xs (B + 1) 6) (b := 0) (by omega)).2, ad]
      refine S2.N (by omega) (by decide) (by decide) fun v3 k3 S3 => ?_
      have hb3 := k3.at hb2 (by simp; omega)
      try simp -implicitDefEqProofs only [cv_3_26, wrapu (n := ((sqn E.xs (B + 3) 3 : Nat) : Int)) (by omega) (by omega), ad]
      try simp -implicitDefEqProofs only [(ak (r := sqn E.xs (B + 1) 6) (by omega)).1, aU, hb3, (ak (r := sqn E.xs (B + 1) 6) (b := 0) (by omega)).2, ad]
      simp -implicitDefEqProofs only [(ak (r := sqn E.xs (B + 1) 6) (by omega)).1, aU, hb3, (ak (r := sqn E.xs (B + 1) 6) (b := 0) (by omega)).2, cv_3_26, wrapu (n := ((sqn E.xs (B + 3) 3 : Nat) : Int)) (by omega) (by omega), hbd, ad]
      exact AnX.ans S3 _ (by omega) hG
    · rw [bs_104_6]
      have cb : Chg [] v0.drew (v0.drew.alloc (.cells (ints codesL).toArray 23)) := (Chg.refl _ _).alloc _
      have hb : hp (v0.drew.alloc (.cells (ints codesL).toArray 23)) v0.drew.heap.size = some (.cells (ints codesL).toArray 23) := by rw [ac, if_pos rfl]
      have Sb := Sd.keep cb
      have qb := Sd.D.qlt
      have ea : (v0.drew.alloc (.cells #[.int .i64 0, .int .i64 3, .int .i64 4, .int .i64 7, .int .i64 6, .int .i64 2] 23)) = v0.drew.alloc (.cells (ints codesL).toArray 23) := rfl
      rw [ea]
      refine Sb.N (by omega) (by decide) (by decide) fun v1 k1 S1 => ?_
      have hb1 := k1.at hb (by simp; omega)
      try simp -implicitDefEqProofs only [(ak (r := sqn E.xs (B + 1) 6) (by omega)).1, aU, hb1, (ak (r := sqn E.xs (B + 1) 6) (b := 0) (by omega)).2, ad]
      refine S1.N (by omega) (by decide) (by decide) fun v2 k2 S2 => ?_
      have hb2 := k2.at hb1 (by simp; omega)
      try simp -implicitDefEqProofs only [(ak (r := sqn E.xs (B + 1) 6) (by omega)).1, aU, hb2, (ak (r := sqn E.xs (B + 1) 6) (b := 0) (by omega)).2, ad]
      try simp -implicitDefEqProofs only [(ak (r := sqn E.xs (B + 1) 6) (by omega)).1, aU, hb2, (ak (r := sqn E.xs (B + 1) 6) (b := 0) (by omega)).2, ad]
      refine S2.N (by omega) (by decide) (by decide) fun v3 k3 S3 => ?_
      have hb3 := k3.at hb2 (by simp; omega)
      try simp -implicitDefEqProofs only [cv_3_26, wrapu (n := ((sqn E.xs (B + 3) 3 : Nat) : Int)) (by omega) (by omega), ad]
      try simp -implicitDefEqProofs only [(ak (r := sqn E.xs (B + 1) 6) (by omega)).1, aU, hb3, (ak (r := sqn E.xs (B + 1) 6) (b := 0) (by omega)).2, ad]
      simp -implicitDefEqProofs only [(ak (r := sqn E.xs (B + 1) 6) (by omega)).1, aU, hb3, (ak (r := sqn E.xs (B + 1) 6) (b := 0) (by omega)).2, cv_3_26, wrapu (n := ((sqn E.xs (B + 3) 3 : Nat) : Int)) (by omega) (by omega), hbd, ad]
      exact AnX.ans S3 _ (by omega) hG
    · rw [bs_104_6]
      have cb : Chg [] v0.drew (v0.drew.alloc (.cells (ints codesL).toArray 23)) := (Chg.refl _ _).alloc _
      have hb : hp (v0.drew.alloc (.cells (ints codesL).toArray 23)) v0.drew.heap.size = some (.cells (ints codesL).toArray 23) := by rw [ac, if_pos rfl]
      have Sb := Sd.keep cb
      have qb := Sd.D.qlt
      have ea : (v0.drew.alloc (.cells #[.int .i64 0, .int .i64 3, .int .i64 4, .int .i64 7, .int .i64 6, .int .i64 2] 23)) = v0.drew.alloc (.cells (ints codesL).toArray 23) := rfl
      rw [ea]
      refine Sb.N (by omega) (by decide) (by decide) fun v1 k1 S1 => ?_
      have hb1 := k1.at hb (by simp; omega)
      try simp -implicitDefEqProofs only [(ak (r := sqn E.xs (B + 1) 6) (by omega)).1, aU, hb1, (ak (r := sqn E.xs (B + 1) 6) (b := 0) (by omega)).2, ad]
      refine S1.N (by omega) (by decide) (by decide) fun v2 k2 S2 => ?_
      have hb2 := k2.at hb1 (by simp; omega)
      try simp -implicitDefEqProofs only [(ak (r := sqn E.xs (B + 1) 6) (by omega)).1, aU, hb2, (ak (r := sqn E.xs (B + 1) 6) (b := 0) (by omega)).2, ad]
      refine S2.N (by omega) (by decide) (by decide) fun v3 k3 S3 => ?_
      have hb3 := k3.at hb2 (by simp; omega)
      try simp -implicitDefEqProofs only [cv_3_26, wrapu (n := ((sqn E.xs (B + 3) 3 : Nat) : Int)) (by omega) (by omega), ad]
      try simp -implicitDefEqProofs only [(ak (r := sqn E.xs (B + 1) 6) (by omega)).1, aU, hb3, (ak (r := sqn E.xs (B + 1) 6) (b := 0) (by omega)).2, ad]
      try simp -implicitDefEqProofs only [(ak (r := sqn E.xs (B + 1) 6) (by omega)).1, aU, hb3, (ak (r := sqn E.xs (B + 1) 6) (b := 0) (by omega)).2, ad]
      simp -implicitDefEqProofs only [(ak (r := sqn E.xs (B + 1) 6) (by omega)).1, aU, hb3, (ak (r := sqn E.xs (B + 1) 6) (b := 0) (by omega)).2, cv_3_26, wrapu (n := ((sqn E.xs (B + 3) 3 : Nat) : Int)) (by omega) (by omega), hbd, ad]
      exact AnX.ans S3 _ (by omega) hG
    · refine Sd.N (by omega) (by decide) (by decide) fun v1 k1 S1 => ?_
      rw [bs_104_6]
      have cb : Chg [] v1 (v1.alloc (.cells (ints codesL).toArray 23)) := (Chg.refl _ _).alloc _
      have hb : hp (v1.alloc (.cells (ints codesL).toArray 23)) v1.heap.size = some (.cells (ints codesL).toArray 23) := by rw [ac, if_pos rfl]
      have Sb := S1.keep cb
      have qb := S1.D.qlt
      have ea : (v1.alloc (.cells #[.int .i64 0, .int .i64 3, .int .i64 4, .int .i64 7, .int .i64 6, .int .i64 2] 23)) = v1.alloc (.cells (ints codesL).toArray 23) := rfl
      rw [ea]
      try simp -implicitDefEqProofs only [(ak (r := sqn E.xs (B + 1) 6) (by omega)).1, aU, hb, (ak (r := sqn E.xs (B + 1) 6) (b := 0) (by omega)).2, ad]
      try simp -implicitDefEqProofs only [(ak (r := sqn E.xs (B + 1) 6) (by omega)).1, aU, hb, (ak (r := sqn E.xs (B + 1) 6) (b := 0) (by omega)).2, ad]
      refine Sb.N (by omega) (by decide) (by decide) fun v2 k2 S2 => ?_
      have hb2 := k2.at hb (by simp; omega)
      try simp -implicitDefEqProofs only [(ak (r := sqn E.xs (B + 1) 6) (by omega)).1, aU, hb2, (ak (r := sqn E.xs (B + 1) 6) (b := 0) (by omega)).2, ad]
      refine S2.N (by omega) (by decide) (by decide) fun v3 k3 S3 => ?_
      have hb3 := k3.at hb2 (by simp; omega)
      try simp -implicitDefEqProofs only [cv_3_26, wrapu (n := ((sqn E.xs (B + 3) 3 : Nat) : Int)) (by omega) (by omega), ad]
      try simp -implicitDefEqProofs only [(ak (r := sqn E.xs (B + 1) 6) (by omega)).1, aU, hb3, (ak (r := sqn E.xs (B + 1) 6) (b := 0) (by omega)).2, ad]
      simp -implicitDefEqProofs only [(ak (r := sqn E.xs (B + 1) 6) (by omega)).1, aU, hb3, (ak (r := sqn E.xs (B + 1) 6) (b := 0) (by omega)).2, cv_3_26, wrapu (n := ((sqn E.xs (B + 3) 3 : Nat) : Int)) (by omega) (by omega), hbd, ad]
      exact AnX.ans S3 _ (by omega) hG
    · refine Sd.N (by omega) (by decide) (by decide) fun v1 k1 S1 => ?_
      rw [bs_104_6]
      have cb : Chg [] v1 (v1.alloc (.cells (ints codesL).toArray 23)) := (Chg.refl _ _).alloc _
      have hb : hp (v1.alloc (.cells (ints codesL).toArray 23)) v1.heap.size = some (.cells (ints codesL).toArray 23) := by rw [ac, if_pos rfl]
      have Sb := S1.keep cb
      have qb := S1.D.qlt
      have ea : (v1.alloc (.cells #[.int .i64 0, .int .i64 3, .int .i64 4, .int .i64 7, .int .i64 6, .int .i64 2] 23)) = v1.alloc (.cells (ints codesL).toArray 23) := rfl
      rw [ea]
      try simp -implicitDefEqProofs only [(ak (r := sqn E.xs (B + 1) 6) (by omega)).1, aU, hb, (ak (r := sqn E.xs (B + 1) 6) (b := 0) (by omega)).2, ad]
      refine Sb.N (by omega) (by decide) (by decide) fun v2 k2 S2 => ?_
      have hb2 := k2.at hb (by simp; omega)
      try simp -implicitDefEqProofs only [(ak (r := sqn E.xs (B + 1) 6) (by omega)).1, aU, hb2, (ak (r := sqn E.xs (B + 1) 6) (b := 0) (by omega)).2, ad]
      try simp -implicitDefEqProofs only [(ak (r := sqn E.xs (B + 1) 6) (by omega)).1, aU, hb2, (ak (r := sqn E.xs (B + 1) 6) (b := 0) (by omega)).2, ad]
      refine S2.N (by omega) (by decide) (by decide) fun v3 k3 S3 => ?_
      have hb3 := k3.at hb2 (by simp; omega)
      try simp -implicitDefEqProofs only [cv_3_26, wrapu (n := ((sqn E.xs (B + 3) 3 : Nat) : Int)) (by omega) (by omega), ad]
      try simp -implicitDefEqProofs only [(ak (r := sqn E.xs (B + 1) 6) (by omega)).1, aU, hb3, (ak (r := sqn E.xs (B + 1) 6) (b := 0) (by omega)).2, ad]
      simp -implicitDefEqProofs only [(ak (r := sqn E.xs (B + 1) 6) (by omega)).1, aU, hb3, (ak (r := sqn E.xs (B + 1) 6) (b := 0) (by omega)).2, cv_3_26, wrapu (n := ((sqn E.xs (B + 3) 3 : Nat) : Int)) (by omega) (by omega), hbd, ad]
      exact AnX.ans S3 _ (by omega) hG
    · refine Sd.N (by omega) (by decide) (by decide) fun v1 k1 S1 => ?_
      rw [bs_104_6]
      have cb : Chg [] v1 (v1.alloc (.cells (ints codesL).toArray 23)) := (Chg.refl _ _).alloc _
      have hb : hp (v1.alloc (.cells (ints codesL).toArray 23)) v1.heap.size = some (.cells (ints codesL).toArray 23) := by rw [ac, if_pos rfl]
      have Sb := S1.keep cb
      have qb := S1.D.qlt
      have ea : (v1.alloc (.cells #[.int .i64 0, .int .i64 3, .int .i64 4, .int .i64 7, .int .i64 6, .int .i64 2] 23)) = v1.alloc (.cells (ints codesL).toArray 23) := rfl
      rw [ea]
      try simp -implicitDefEqProofs only [(ak (r := sqn E.xs (B + 1) 6) (by omega)).1, aU, hb, (ak (r := sqn E.xs (B + 1) 6) (b := 0) (by omega)).2, ad]
      refine Sb.N (by omega) (by decide) (by decide) fun v2 k2 S2 => ?_
      have hb2 := k2.at hb (by simp; omega)
      try simp -implicitDefEqProofs only [(ak (r := sqn E.xs (B + 1) 6) (by omega)).1, aU, hb2, (ak (r := sqn E.xs (B + 1) 6) (b := 0) (by omega)).2, ad]
      refine S2.N (by omega) (by decide) (by decide) fun v3 k3 S3 => ?_
      have hb3 := k3.at hb2 (by simp; omega)
      try simp -implicitDefEqProofs only [cv_3_26, wrapu (n := ((sqn E.xs (B + 3) 3 : Nat) : Int)) (by omega) (by omega), ad]
      try simp -implicitDefEqProofs only [(ak (r := sqn E.xs (B + 1) 6) (by omega)).1, aU, hb3, (ak (r := sqn E.xs (B + 1) 6) (b := 0) (by omega)).2, ad]
      try simp -implicitDefEqProofs only [(ak (r := sqn E.xs (B + 1) 6) (by omega)).1, aU, hb3, (ak (r := sqn E.xs (B + 1) 6) (b := 0) (by omega)).2, ad]
      simp -implicitDefEqProofs only [(ak (r := sqn E.xs (B + 1) 6) (by omega)).1, aU, hb3, (ak (r := sqn E.xs (B + 1) 6) (b := 0) (by omega)).2, cv_3_26, wrapu (n := ((sqn E.xs (B + 3) 3 : Nat) : Int)) (by omega) (by omega), hbd, ad]
      exact AnX.ans S3 _ (by omega) hG
    · refine Sd.N (by omega) (by decide) (by decide) fun v1 k1 S1 => ?_
      refine S1.N (by omega) (by decide) (by decide) fun v2 k2 S2 => ?_
      rw [bs_104_6]
      have cb : Chg [] v2 (v2.alloc (.cells (ints codesL).toArray 23)) := (Chg.refl _ _).alloc _
      have hb : hp (v2.alloc (.cells (ints codesL).toArray 23)) v2.heap.size = some (.cells (ints codesL).toArray 23) := by rw [ac, if_pos rfl]
      have Sb := S2.keep cb
      have qb := S2.D.qlt
      have ea : (v2.alloc (.cells #[.int .i64 0, .int .i64 3, .int .i64 4, .int .i64 7, .int .i64 6, .int .i64 2] 23)) = v2.alloc (.cells (ints codesL).toArray 23) := rfl
      rw [ea]
      try simp -implicitDefEqProofs only [(ak (r := sqn E.xs (B + 1) 6) (by omega)).1, aU, hb, (ak (r := sqn E.xs (B + 1) 6) (b := 0) (by omega)).2, ad]
      try simp -implicitDefEqProofs only [(ak (r := sqn E.xs (B + 1) 6) (by omega)).1, aU, hb, (ak (r := sqn E.xs (B + 1) 6) (b := 0) (by omega)).2, ad]
      refine Sb.N (by omega) (by decide) (by decide) fun v3 k3 S3 => ?_
      have hb3 := k3.at hb (by simp; omega)
      try simp -implicitDefEqProofs only [cv_3_26, wrapu (n := ((sqn E.xs (B + 3) 3 : Nat) : Int)) (by omega) (by omega), ad]
      try simp -implicitDefEqProofs only [(ak (r := sqn E.xs (B + 1) 6) (by omega)).1, aU, hb3, (ak (r := sqn E.xs (B + 1) 6) (b := 0) (by omega)).2, ad]
      simp -implicitDefEqProofs only [(ak (r := sqn E.xs (B + 1) 6) (by omega)).1, aU, hb3, (ak (r := sqn E.xs (B + 1) 6) (b := 0) (by omega)).2, cv_3_26, wrapu (n := ((sqn E.xs (B + 3) 3 : Nat) : Int)) (by omega) (by omega), hbd, ad]
      exact AnX.ans S3 _ (by omega) hG
    · refine Sd.N (by omega) (by decide) (by decide) fun v1 k1 S1 => ?_
      refine S1.N (by omega) (by decide) (by decide) fun v2 k2 S2 => ?_
      rw [bs_104_6]
      have cb : Chg [] v2 (v2.alloc (.cells (ints codesL).toArray 23)) := (Chg.refl _ _).alloc _
      have hb : hp (v2.alloc (.cells (ints codesL).toArray 23)) v2.heap.size = some (.cells (ints codesL).toArray 23) := by rw [ac, if_pos rfl]
      have Sb := S2.keep cb
      have qb := S2.D.qlt
      have ea : (v2.alloc (.cells #[.int .i64 0, .int .i64 3, .int .i64 4, .int .i64 7, .int .i64 6, .int .i64 2] 23)) = v2.alloc (.cells (ints codesL).toArray 23) := rfl
      rw [ea]
      try simp -implicitDefEqProofs only [(ak (r := sqn E.xs (B + 1) 6) (by omega)).1, aU, hb, (ak (r := sqn E.xs (B + 1) 6) (b := 0) (by omega)).2, ad]
      refine Sb.N (by omega) (by decide) (by decide) fun v3 k3 S3 => ?_
      have hb3 := k3.at hb (by simp; omega)
      try simp -implicitDefEqProofs only [cv_3_26, wrapu (n := ((sqn E.xs (B + 3) 3 : Nat) : Int)) (by omega) (by omega), ad]
      try simp -implicitDefEqProofs only [(ak (r := sqn E.xs (B + 1) 6) (by omega)).1, aU, hb3, (ak (r := sqn E.xs (B + 1) 6) (b := 0) (by omega)).2, ad]
      try simp -implicitDefEqProofs only [(ak (r := sqn E.xs (B + 1) 6) (by omega)).1, aU, hb3, (ak (r := sqn E.xs (B + 1) 6) (b := 0) (by omega)).2, ad]
      simp -implicitDefEqProofs only [(ak (r := sqn E.xs (B + 1) 6) (by omega)).1, aU, hb3, (ak (r := sqn E.xs (B + 1) 6) (b := 0) (by omega)).2, cv_3_26, wrapu (n := ((sqn E.xs (B + 3) 3 : Nat) : Int)) (by omega) (by omega), hbd, ad]
      exact AnX.ans S3 _ (by omega) hG
    · refine Sd.N (by omega) (by decide) (by decide) fun v1 k1 S1 => ?_
      refine S1.N (by omega) (by decide) (by decide) fun v2 k2 S2 => ?_
      refine S2.N (by omega) (by decide) (by decide) fun v3 k3 S3 => ?_
      try simp -implicitDefEqProofs only [cv_3_26, wrapu (n := ((sqn E.xs (B + 3) 3 : Nat) : Int)) (by omega) (by omega), ad]
      rw [bs_104_6]
      have cb : Chg [] v3 (v3.alloc (.cells (ints codesL).toArray 23)) := (Chg.refl _ _).alloc _
      have hb : hp (v3.alloc (.cells (ints codesL).toArray 23)) v3.heap.size = some (.cells (ints codesL).toArray 23) := by rw [ac, if_pos rfl]
      have Sb := S3.keep cb
      have qb := S3.D.qlt
      have ea : (v3.alloc (.cells #[.int .i64 0, .int .i64 3, .int .i64 4, .int .i64 7, .int .i64 6, .int .i64 2] 23)) = v3.alloc (.cells (ints codesL).toArray 23) := rfl
      rw [ea]
      try simp -implicitDefEqProofs only [(ak (r := sqn E.xs (B + 1) 6) (by omega)).1, aU, hb, (ak (r := sqn E.xs (B + 1) 6) (b := 0) (by omega)).2, ad]
      try simp -implicitDefEqProofs only [(ak (r := sqn E.xs (B + 1) 6) (by omega)).1, aU, hb, (ak (r := sqn E.xs (B + 1) 6) (b := 0) (by omega)).2, ad]
      simp -implicitDefEqProofs only [(ak (r := sqn E.xs (B + 1) 6) (by omega)).1, aU, hb, (ak (r := sqn E.xs (B + 1) 6) (b := 0) (by omega)).2, cv_3_26, wrapu (n := ((sqn E.xs (B + 3) 3 : Nat) : Int)) (by omega) (by omega), hbd, ad]
      exact AnX.ans Sb _ (by omega) hG
  · rw [if_neg (show ¬ sqn E.xs B 8 = 0 by omega)] at hG
    have c0 : ldC (hp v0 E.gp) (0 + 0 + 0) = some (.int .i64 E.c.1) := pl_c S0.D.D (by omega)
    by_cases n0 : n < 0
    · simp -implicitDefEqProofs only [zS, eqf hr, n0, bdr_]
      exact S0.ans _ (by omega) (by rw [if_pos (.inl n0)] at hG; exact hG)
    by_cases n1 : E.c.1 ≤ n
    · simp -implicitDefEqProofs only [zS, eqf hr, n0, fa_46_0, fa_33_0, af, c0, aH, ge_iff_le, n1, bdr_]
      exact S0.ans _ (by omega) (by rw [if_pos (.inr (.inl n1))] at hG; exact hG)
    have ldo : ∀ {w' : World} {b : Nat}, hp w' b = some (.cells (opC o).toArray 39) → ldv Tryz.prog 39 (.pointer (some ⟨b, 0, none⟩)) w' = some (.agg (opC o).toArray) := fun hw => aG (t := 39) (c := (opC o).toArray) ag_39 (show (Tryz.prog.info? 39).map (·.size) = some (opC o).toArray.size from sz_39) hw
    simp -implicitDefEqProofs only [zS, eqf hr, n0, fa_46_0, fa_33_0, af, c0, aH, ge_iff_le, n1, ldo S0.h8]
    refine (c_refMay o v0).mono ?_
    rintro _ v1 ⟨rfl, k1⟩
    have S1 := S0.keep k1
    cases hmo : mayO o with
    | false =>
      simp -implicitDefEqProofs only [zS, bdr_]
      exact S1.ans _ (by omega) (by rw [if_pos (.inr (.inr hmo))] at hG; exact hG)
    | true =>
    rw [if_neg (show ¬ (n < 0 ∨ E.c.1 ≤ n ∨ mayO o = false) by rw [hmo]; simp; omega)] at hG
    obtain ⟨nn, rfl⟩ := Int.eq_ofNat_of_zero_le (show 0 ≤ n by omega)
    have hmay : mayV mx nn o = true := by
      have h1 := S.D.D.sx.wn.cw
      rw [S.D.D.sx.mc] at h1
      rw [mayV, hmo, decide_eq_true (show (0 : Int) ≤ nn by omega), decide_eq_true (show (nn : Int) < mx.hands.length by omega)]; rfl
    have cd : Chg [] v1 v1.drew := (Chg.refl _ _).drew
    have Sd := S1.keep cd
    have kx := pl_x S1.D.D
    have kxd := pl_x Sd.D.D
    simp -implicitDefEqProofs only [zS, fa_46_2, ld_43, kx, kxd, ldo S1.h8, ldo Sd.h8, ld_hn S1.h9, ld_hn Sd.h9, al_28]
    have ca : Chg [] v1.drew (v1.drew.alloc (.cells (rsC noR).toArray 28)) := (Chg.refl _ _).alloc _
    repeat' (with_reducible apply And.intro)
    all_goals first
      | (refine (c_rMust (Sd.D.D.X.keep ca) Sd.D.D.sx.wf (by omega) hmay h).mono ?_
         rintro _ w6 ⟨rfl, c6⟩
         have a6 := c6.at (show hp (v1.drew.alloc (.cells (rsC noR).toArray 28)) v1.drew.heap.size = some (.cells (rsC noR).toArray 28) by rw [ac, if_pos rfl]) (by simp)
         simp -implicitDefEqProofs only [tup0, tup1, zS]
         rw [st_res a6 rfl]
         have cq : Chg [] v1.drew (Ev.put w6 v1.drew.heap.size (rsC (mustV mx nn o h).1).toArray 28) := (ca.trans c6).put (.inr (Nat.le_refl _)) _ _
         exact l_ansX0 (Sd.keep cq) hm (by omega) hK (by omega) (ap (av a6) _ _) (by omega) (fun h => by rw [if_pos h] at hG; exact hG) (fun h => by rw [if_neg (by rw [h]; simp)] at hG; exact hG))
      | (refine (c_rMust Sd.D.D.X Sd.D.D.sx.wf (by omega) hmay h).mono ?_
         rintro _ w6 ⟨rfl, c6⟩
         simp -implicitDefEqProofs only [tup0, tup1, zS, al_28]
         have a6 : hp (w6.alloc (.cells (rsC noR).toArray 28)) w6.heap.size = some (.cells (rsC noR).toArray 28) := by rw [ac, if_pos rfl]
         have ca6 : Chg [] w6 (w6.alloc (.cells (rsC noR).toArray 28)) := (Chg.refl _ _).alloc _
         erw [st_res a6 rfl]
         have cq := (c6.trans ca6).put (.inr c6.size) (rsC (mustV mx nn o h).1).toArray 28
         exact l_ansX0 (Sd.keep cq) hm (by omega) hK (by omega) (ap (av a6) _ _) (by omega) (fun h => by rw [if_pos h] at hG; exact hG) (fun h => by rw [if_neg (by rw [h]; simp)] at hG; exact hG))
end
end Go.Proofs.YtgamnncehjcdiaaGreat

namespace Go.Proofs.YtgamnncehjcdiaaGreat
open Go Ev Go.RowKit

section
variable {w : World} {A : Option Addr} {c n : Nat} {cs : List Value}
theorem rd_none (h : RdV w none cs) : cs = [] := by
  cases cs with
  | nil => rfl
  | cons u us => obtain ⟨p, hp, _⟩ := h 0 u rfl; cases hp
set_option maxHeartbeats 1000000 in
theorem c_clSlot (hR : RdV w A cs) (hl : cs.length = n * 2) (h1 : ∀ u ∈ cs, u.oneCell' = true) (hn : n ≤ 1000000) :
    CallR Tryz.prog 34 [.slice A n c] w fun v w' => w'.ownsRow w.heap.size 77 2 v n cs ∧ Chg [] w w' := by
  apply F34_ok
  cases A with
  | none =>
    have hcs := rd_none hR
    subst hcs
    have hn0 : n = 0 := by simp at hl; omega
    subst hn0
    simp -implicitDefEqProofs only [F34, be_eqlsl Tryz.underlying70, z7z, ad, cnd_true]
    exact ⟨World.ownsRow_nil _ _ _ _, Chg.refl _ _⟩
  | some p =>
    simp -implicitDefEqProofs only [F34, be_eqlsl Tryz.underlying70, z8z, ad, cnd_false]
    obtain ⟨i, hi, hz, hs, hb⟩ := inf_77
    exact eff_clone (size := 2) Tryz.underlying70 hi hz hs rfl (by omega) hl hR h1 (by unfold maxLen; omega) (by rw [hb]; omega) fun x' w' ho hc => ⟨ho, hc⟩
set_option maxHeartbeats 1000000 in
theorem c_clHand (hR : RdV w A cs) (hl : cs.length = n * 2) (h1 : ∀ u ∈ cs, u.oneCell' = true) (hn : n ≤ 1000000) :
    CallR Tryz.prog 35 [.slice A n c] w fun v w' => w'.ownsRow w.heap.size 81 2 v n cs ∧ Chg [] w w' := by
  apply F35_ok
  cases A with
  | none =>
    have hcs := rd_none hR
    subst hcs
    have hn0 : n = 0 := by simp at hl; omega
    subst hn0
    simp -implicitDefEqProofs only [F35, be_eqlsl Tryz.underlying72, z7z, ad, cnd_true]
    exact ⟨World.ownsRow_nil _ _ _ _, Chg.refl _ _⟩
  | some p =>
    simp -implicitDefEqProofs only [F35, be_eqlsl Tryz.underlying72, z8z, ad, cnd_false]
    obtain ⟨i, hi, hz, hs, hb⟩ := inf_81
    exact eff_clone (size := 2) Tryz.underlying72 hi hz hs rfl (by omega) hl hR h1 (by unfold maxLen; omega) (by rw [hb]; omega) fun x' w' ho hc => ⟨ho, hc⟩
set_option maxHeartbeats 1000000 in
theorem c_clName (hR : RdV w A cs) (hl : cs.length = n * 2) (h1 : ∀ u ∈ cs, u.oneCell' = true) (hn : n ≤ 1000000) :
    CallR Tryz.prog 36 [.slice A n c] w fun v w' => w'.ownsRow w.heap.size 84 2 v n cs ∧ Chg [] w w' := by
  apply F36_ok
  cases A with
  | none =>
    have hcs := rd_none hR
    subst hcs
    have hn0 : n = 0 := by simp at hl; omega
    subst hn0
    simp -implicitDefEqProofs only [F36, be_eqlsl Tryz.underlying79, z7z, ad, cnd_true]
    exact ⟨World.ownsRow_nil _ _ _ _, Chg.refl _ _⟩
  | some p =>
    simp -implicitDefEqProofs only [F36, be_eqlsl Tryz.underlying79, z8z, ad, cnd_false]
    obtain ⟨i, hi, hz, hs, hb⟩ := inf_84
    exact eff_clone (size := 2) Tryz.underlying79 hi hz hs rfl (by omega) hl hR h1 (by unfold maxLen; omega) (by rw [hb]; omega) fun x' w' ho hc => ⟨ho, hc⟩
set_option maxHeartbeats 1000000 in
theorem c_clRegion (hR : RdV w A cs) (hl : cs.length = n * 7) (h1 : ∀ u ∈ cs, u.oneCell' = true) (hn : n ≤ 1000000) :
    CallR Tryz.prog 37 [.slice A n c] w fun v w' => w'.ownsRow w.heap.size 88 7 v n cs ∧ Chg [] w w' := by
  apply F37_ok
  cases A with
  | none =>
    have hcs := rd_none hR
    subst hcs
    have hn0 : n = 0 := by simp at hl; omega
    subst hn0
    simp -implicitDefEqProofs only [F37, be_eqlsl Tryz.underlying71, z7z, ad, cnd_true]
    exact ⟨World.ownsRow_nil _ _ _ _, Chg.refl _ _⟩
  | some p =>
    simp -implicitDefEqProofs only [F37, be_eqlsl Tryz.underlying71, z8z, ad, cnd_false]
    obtain ⟨i, hi, hz, hs, hb⟩ := inf_88
    exact eff_clone (size := 7) Tryz.underlying71 hi hz hs rfl (by omega) hl hR h1 (by unfold maxLen; omega) (by rw [hb]; omega) fun x' w' ho hc => ⟨ho, hc⟩
set_option maxHeartbeats 1000000 in
theorem c_clInts (hR : RdV w A cs) (hl : cs.length = n * 1) (h1 : ∀ u ∈ cs, u.oneCell' = true) (hn : n ≤ 1000000) :
    CallR Tryz.prog 38 [.slice A n c] w fun v w' => w'.ownsRow w.heap.size 3 1 v n cs ∧ Chg [] w w' := by
  apply F38_ok
  cases A with
  | none =>
    have hcs := rd_none hR
    subst hcs
    have hn0 : n = 0 := by simp at hl; omega
    subst hn0
    simp -implicitDefEqProofs only [F38, be_eqlsl Tryz.underlying22, z7z, ad, cnd_true]
    exact ⟨World.ownsRow_nil _ _ _ _, Chg.refl _ _⟩
  | some p =>
    simp -implicitDefEqProofs only [F38, be_eqlsl Tryz.underlying22, z8z, ad, cnd_false]
    obtain ⟨i, hi, hz, hs, hb⟩ := inf_3
    exact eff_clone (size := 1) Tryz.underlying22 hi hz hs rfl (by omega) hl hR h1 (by unfold maxLen; omega) (by rw [hb]; omega) fun x' w' ho hc => ⟨ho, hc⟩
set_option maxHeartbeats 1000000 in
theorem c_clHandles (hR : RdV w A cs) (hl : cs.length = n * 5) (h1 : ∀ u ∈ cs, u.oneCell' = true) (hn : n ≤ 1000000) :
    CallR Tryz.prog 39 [.slice A n c] w fun v w' => w'.ownsRow w.heap.size 25 5 v n cs ∧ Chg [] w w' := by
  apply F39_ok
  cases A with
  | none =>
    have hcs := rd_none hR
    subst hcs
    have hn0 : n = 0 := by simp at hl; omega
    subst hn0
    simp -implicitDefEqProofs only [F39, be_eqlsl Tryz.underlying44, z7z, ad, cnd_true]
    exact ⟨World.ownsRow_nil _ _ _ _, Chg.refl _ _⟩
  | some p =>
    simp -implicitDefEqProofs only [F39, be_eqlsl Tryz.underlying44, z8z, ad, cnd_false]
    obtain ⟨i, hi, hz, hs, hb⟩ := inf_25
    exact eff_clone (size := 5) Tryz.underlying44 hi hz hs rfl (by omega) hl hR h1 (by unfold maxLen; omega) (by rw [hb]; omega) fun x' w' ho hc => ⟨ho, hc⟩
set_option maxHeartbeats 1000000 in
theorem c_clWords (hR : RdV w A cs) (hl : cs.length = n * 1) (h1 : ∀ u ∈ cs, u.oneCell' = true) (hn : n ≤ 1000000) :
    CallR Tryz.prog 40 [.slice A n c] w fun v w' => w'.ownsRow w.heap.size 93 1 v n cs ∧ Chg [] w w' := by
  apply F40_ok
  cases A with
  | none =>
    have hcs := rd_none hR
    subst hcs
    have hn0 : n = 0 := by simp at hl; omega
    subst hn0
    simp -implicitDefEqProofs only [F40, be_eqlsl Tryz.underlying86, z7z, ad, cnd_true]
    exact ⟨World.ownsRow_nil _ _ _ _, Chg.refl _ _⟩
  | some p =>
    simp -implicitDefEqProofs only [F40, be_eqlsl Tryz.underlying86, z8z, ad, cnd_false]
    obtain ⟨i, hi, hz, hs, hb⟩ := inf_93
    exact eff_clone (size := 1) Tryz.underlying86 hi hz hs rfl (by omega) hl hR h1 (by unfold maxLen; omega) (by rw [hb]; omega) fun x' w' ho hc => ⟨ho, hc⟩
set_option maxHeartbeats 1000000 in
theorem c_clU64s (hR : RdV w A cs) (hl : cs.length = n * 1) (h1 : ∀ u ∈ cs, u.oneCell' = true) (hn : n ≤ 1000000) :
    CallR Tryz.prog 41 [.slice A n c] w fun v w' => w'.ownsRow w.heap.size 26 1 v n cs ∧ Chg [] w w' := by
  apply F41_ok
  cases A with
  | none =>
    have hcs := rd_none hR
    subst hcs
    have hn0 : n = 0 := by simp at hl; omega
    subst hn0
    simp -implicitDefEqProofs only [F41, be_eqlsl Tryz.underlying93, z7z, ad, cnd_true]
    exact ⟨World.ownsRow_nil _ _ _ _, Chg.refl _ _⟩
  | some p =>
    simp -implicitDefEqProofs only [F41, be_eqlsl Tryz.underlying93, z8z, ad, cnd_false]
    obtain ⟨i, hi, hz, hs, hb⟩ := inf_26
    exact eff_clone (size := 1) Tryz.underlying93 hi hz hs rfl (by omega) hl hR h1 (by unfold maxLen; omega) (by rw [hb]; omega) fun x' w' ho hc => ⟨ho, hc⟩
end
end Go.Proofs.YtgamnncehjcdiaaGreat

namespace Go.Proofs.YtgamnncehjcdiaaGreat
open Go Ev Go.RowKit

section
variable {W w w1 : World} {g3 : Nat} {Ps : List Th} {F : Fp}
structure CpI (W w : World) (e : TypeId) (g3 : Nat) (Ps : List Th) (F : Fp) : Prop where
  chg : Chg [] W w
  I : isAt e g3 Ps w F
  good : ∀ P ∈ Ps, OwnT P
  new : ∀ k, F k → W.heap.size ≤ k
theorem cp_chg {a b c : World} {S : Nat → Prop} (h : Chg [] a b) (k : ChgP S b c) (hs : ∀ x, S x → a.heap.size ≤ x) : Chg [] a c :=
  ⟨k.os.trans h.os, k.tape.trans h.tape, k.output.trans h.output, Nat.le_trans h.size k.size, fun x hx _ => by
    rw [k.block x (Nat.lt_of_lt_of_le hx h.size) fun hf => by have := hs x hf; omega]; exact h.block x hx (by simp)⟩
theorem CpI.keep {e : TypeId} (h : CpI W w e g3 Ps F) (hc : Chg [] w w1) : CpI W w1 e g3 Ps F :=
  ⟨h.chg.trans hc, isAt.frame h.I h.good (ChgP.of0 hc none') (fun _ _ h => h), h.good, h.new⟩
theorem CpI.upd {e : TypeId} (h : CpI W w e g3 Ps F) {Qs : List Th} {F1 : Fp} (i : isAt e g3 Qs w1 F1) (hg : ∀ P ∈ Qs, OwnT P) (u : UpdP F F1 w w1) : CpI W w1 e g3 Qs F1 :=
  ⟨cp_chg h.chg u.chg h.new, i, hg, fun k hk => by
    rcases u.sub k hk with h1 | h1
    · exact h.new k h1
    · have := h.chg.size; omega⟩
theorem mem_setG {Ps : List Th} {k : Nat} {P' : Th} (h : ∀ P ∈ Ps, OwnT P) (hp : OwnT P') : ∀ P ∈ Ps.set k P', OwnT P := fun P hP => by
  rcases List.mem_or_eq_of_mem_set hP with h1 | h1
  · exact h P h1
  · rw [h1]; exact hp
theorem upd_new {Fk F' : Fp} (hc : Chg [] w w1) (hn : ∀ k, F' k → w.heap.size ≤ k) : UpdP Fk F' w w1 := ⟨ChgP.of0 hc Fk, fun k hk => .inr (hn k hk)⟩
theorem CpI.cell {e : TypeId} (h : CpI W w e g3 Ps F) {k : Nat} {P : Th} (hk : Ps[k]? = some P) {F' : Fp} {P' : Th} {v' : Value} (hc : Chg [] w w1) (hn : ∀ k, F' k → w.heap.size ≤ k) (hg : OwnT P') (hv : P' w1 F' v') :
    okC (hp w1 g3) (k + 1) = true ∧ v'.cells = #[v'] ∧ v'.oneCell' = true ∧ ∃ F1, CpI W (put w1 g3 ((getC (hp w1 g3)).setIfInBounds k v') (getE (hp w1 g3))) e g3 (Ps.set k P') F1 := by
  obtain ⟨v, Fk, _, _, _, _, hput⟩ := isAt.repl h.I h.good hk
  obtain ⟨a, b, c, _, F1, d, u⟩ := hput w1 F' P' v' (upd_new hc hn) hg hv
  exact ⟨a, b, c, F1, h.upd d (mem_setG h.good hg) u⟩
theorem CpI.row {e : TypeId} (h : CpI W w e g3 Ps F) {k : Nat} {e' : TypeId} {z n : Nat} {Qs : List Th} (hk : Ps[k]? = some (isRow e' z n Qs)) (hq : ∀ Q ∈ Qs, OwnT Q) {j : Nat} {P : Th} (hj : Qs[j]? = some P) :
    ∃ (b c : Nat) (v : Value) (Fk : Fp), ldC (hp w g3) k = some (.slice (some ⟨b, 0, none⟩) n c) ∧ b ≠ g3 ∧ ldC (hp w b) j = some v ∧ P w Fk v ∧
      ∀ {w1 : World} {F' : Fp} {P' : Th} {v' : Value}, Chg [] w w1 → (∀ k, F' k → w.heap.size ≤ k) → OwnT P' → P' w1 F' v' → okC (hp w1 b) (j + 1) = true ∧ v'.cells = #[v'] ∧ v'.oneCell' = true ∧
        ∃ F1, CpI W (put w1 b ((getC (hp w1 b)).setIfInBounds j v') (getE (hp w1 b))) e g3 (Ps.set k (isRow e' z n (Qs.set j P'))) F1 := by
  obtain ⟨b, c, v, Fk, hl, hbg, _, _, _, _, hld, hv, _, hput⟩ := isAt.row h.I h.good hk hq hj
  refine ⟨b, c, v, Fk, hl, hbg, hld, hv, fun {w1 F' P' v'} hc hn hg hp' => ?_⟩
  obtain ⟨a1, a2, a3, _, F1, d, u⟩ := hput w1 F' P' v' (upd_new hc hn) hg hp'
  exact ⟨a1, a2, a3, F1, h.upd d (mem_setG h.good (bk (mem_setG hq hg))) u⟩
def hdT2 (p : HdV × Option Value) : List Th := [iT p.1.depth, match p.2 with | some u => isV u | none => namesT p.1.holds]
def SrcN (w : World) (L : List NmV) (u : Value) : Prop := ∃ A c, u = .slice A L.length c ∧ RdV w A (L.flatMap nmC)
theorem SrcN.keep {L : List NmV} {u : Value} (h : SrcN w L u) (hc : Chg [] w w1) : SrcN w1 L u := by
  obtain ⟨A, c, rfl, h1⟩ := h
  exact ⟨A, c, rfl, h1.keep hc.below⟩
theorem src_hands {L : List HdV} {x : Value} (h : handsT L w F x) : ∃ (A : Option Addr) (c : Nat) (us : List Value), x = .slice A L.length c ∧ us.length = L.length ∧ (∀ (i : Nat) (d : HdV) (u : Value), L[i]? = some d → us[i]? = some u → SrcN w d.holds u) ∧
    RdV w A ((L.zip us).flatMap fun p => [Value.int .i64 p.1.depth, p.2]) := by
  obtain ⟨A, c, xs, Fs, rfl, hR, hl, hP, _⟩ := isRow.rd h
  have at' : ∀ (i : Nat) (d : HdV), L[i]? = some d → ∃ u Fu, xs[i * 2 + 0]? = some (.int .i64 d.depth) ∧ xs[i * 2 + 1]? = some u ∧ namesT d.holds w Fu u := by
    intro i d hd
    have hi := (List.getElem?_eq_some_iff.1 hd).1
    have g0 := aR (f := hdT) (z := 2) (fun _ => rfl) L i d hd 0 (by omega)
    have g1 := aR (f := hdT) (z := 2) (fun _ => rfl) L i d hd 1 (by omega)
    obtain ⟨v0, h0⟩ : ∃ v, xs[i * 2 + 0]? = some v := ⟨_, List.getElem?_eq_getElem (by omega)⟩
    obtain ⟨v1, h1⟩ : ∃ v, xs[i * 2 + 1]? = some v := ⟨_, List.getElem?_eq_getElem (by omega)⟩
    have e0 := hP.each _ _ _ g0 h0
    have e1 := hP.each _ _ _ g1 h1
    exact ⟨v1, _, by rw [h0, e0.1], h1, e1⟩
  refine ⟨A, c, (List.range L.length).map fun i => xs.getD (i * 2 + 1) (.bool false), rfl, by simp, fun i d u hd hu => ?_, ?_⟩
  · obtain ⟨u', Fu, _, h1, h2⟩ := at' i d hd
    have hi := (List.getElem?_eq_some_iff.1 hd).1
    rw [List.getElem?_map, List.getElem?_range hi] at hu
    have : u = u' := by
      have e := Option.some.inj hu
      rw [← e]; simp only [List.getD_eq_getElem?_getD, h1]; rfl
    subst this
    exact names_sh ⟨Fu, h2⟩
  · have e : ((L.zip ((List.range L.length).map fun i => xs.getD (i * 2 + 1) (.bool false))).flatMap fun p => [Value.int .i64 p.1.depth, p.2]) = xs := by
      apply List.ext_getElem?
      intro j
      have hfl : ((L.zip ((List.range L.length).map fun i => xs.getD (i * 2 + 1) (.bool false))).flatMap fun p => [Value.int .i64 p.1.depth, p.2]).length = L.length * 2 := by
        rw [bf (z := 2) (fun p => rfl)]; simp
      rcases Nat.lt_or_ge j (L.length * 2) with hj | hj
      · obtain ⟨i, k, rfl, hk⟩ : ∃ i k, j = i * 2 + k ∧ k < 2 := ⟨j / 2, j % 2, by omega, by omega⟩
        have hi : i < L.length := by omega
        have hd : L[i]? = some L[i] := List.getElem?_eq_getElem hi
        obtain ⟨u', Fu, h0, h1, h2⟩ := at' i _ hd
        have hz : (L.zip ((List.range L.length).map fun i => xs.getD (i * 2 + 1) (.bool false)))[i]? = some (L[i], u') := by
          rw [List.getElem?_zip_eq_some]
          refine ⟨hd, ?_⟩
          rw [List.getElem?_map, List.getElem?_range hi]
          simp [List.getD_eq_getElem?_getD, h1]
        rw [aR (f := fun p : HdV × Value => [Value.int .i64 p.1.depth, p.2]) (z := 2) (fun _ => rfl) _ i _ hz k hk]
        have : k = 0 ∨ k = 1 := by omega
        rcases this with rfl | rfl
        · exact h0.symm
        · exact h1.symm
      · rw [List.getElem?_eq_none (by omega), List.getElem?_eq_none (by omega)]
    rw [e]; exact hR
end
end Go.Proofs.YtgamnncehjcdiaaGreat

namespace Go.Proofs.YtgamnncehjcdiaaGreat
open Go Ev Go.RowKit

section
variable {W w w1 : World} {g g3 : Nat} {m : MdV} {F : Fp}
def handsT2 (L : List (HdV × Option Value)) : Th := isRow 81 2 L.length (L.flatMap hdT2)
def mdT2 (m : MdV) (sT : Th) (rT : Th) (hT : Th) : List Th := (cfC m.c).map isV ++ [isV (.bool m.loose), sT, rT, hT]
theorem mdT2_full (m : MdV) : mdT2 m (slotsT m.slots) (rgsT m.rgs) (handsT m.hands) = mdT m := rfl
theorem good_md2 {m : MdV} {sT rT hT : Th} (h1 : OwnT sT) (h2 : OwnT rT) (h3 : OwnT hT) : ∀ P ∈ mdT2 m sT rT hT, OwnT P := fun P hP => by
  rcases List.mem_append.1 hP with h | h
  · refine good_ints (fun u hu => ?_) P h
    simp only [cfC, List.mem_cons, List.not_mem_nil, or_false] at hu
    rcases hu with rfl | rfl | rfl | rfl | rfl | rfl <;> exact ⟨_, _, rfl⟩
  · simp only [List.mem_cons, List.not_mem_nil, or_false] at h
    rcases h with rfl | rfl | rfl | rfl
    · exact good_isV ⟨rfl, rfl⟩
    · exact h1
    · exact h2
    · exact h3
theorem mdT2_s (m : MdV) (a b c a' : Th) : (mdT2 m a b c).set 7 a' = mdT2 m a' b c := rfl
theorem mdT2_r (m : MdV) (a b c b' : Th) : (mdT2 m a b c).set 8 b' = mdT2 m a b' c := rfl
theorem mdT2_h (m : MdV) (a b c c' : Th) : (mdT2 m a b c).set 9 c' = mdT2 m a b c' := rfl
theorem cp_first (I : MdI w g m F) : ∃ (sv rv hv : Value) (xs : List Value), hp w g = some (.cells xs.toArray 74) ∧ xs.length = 10 ∧ (xs.toArray.toList.all (·.oneCell') = true) ∧ (∃ Fs, slotsT m.slots w Fs sv) ∧ (∃ Fr, rgsT m.rgs w Fr rv) ∧ (∃ Fh, handsT m.hands w Fh hv) ∧
    ∀ {w1 : World} {b : Nat}, Chg [] w w1 → w.heap.size ≤ b → hp w1 b = some (.cells xs.toArray 74) → CpI w w1 74 b (mdT2 m (isV sv) (isV rv) (isV hv)) (fun k => k = b) := by
  obtain ⟨xs, Fs, h1, h2, h3, h4⟩ := I
  have hl : xs.length = 10 := by rw [← h2.len]; rfl
  obtain ⟨x0, x1, x2, x3, x4, x5, x6, x7, x8, x9, rfl⟩ : ∃ x0 x1 x2 x3 x4 x5 x6 x7 x8 x9, xs = [x0, x1, x2, x3, x4, x5, x6, x7, x8, x9] := by
    match xs, hl with
    | [x0, x1, x2, x3, x4, x5, x6, x7, x8, x9], _ => exact ⟨_, _, _, _, _, _, _, _, _, _, rfl⟩
  have e0 : x0 = .int .i64 m.c.1 := (h2.each 0 _ _ rfl rfl).1
  have e1 : x1 = .int .i64 m.c.2.1 := (h2.each 1 _ _ rfl rfl).1
  have e2 : x2 = .int .i64 m.c.2.2.1 := (h2.each 2 _ _ rfl rfl).1
  have e3 : x3 = .int .i64 m.c.2.2.2.1 := (h2.each 3 _ _ rfl rfl).1
  have e4 : x4 = .int .i64 m.c.2.2.2.2.1 := (h2.each 4 _ _ rfl rfl).1
  have e5 : x5 = .int .i64 m.c.2.2.2.2.2 := (h2.each 5 _ _ rfl rfl).1
  have e6 : x6 = .bool m.loose := (h2.each 6 _ _ rfl rfl).1
  have t7 : slotsT m.slots w (Fs 7) x7 := h2.each 7 _ _ rfl rfl
  have t8 : rgsT m.rgs w (Fs 8) x8 := h2.each 8 _ _ rfl rfl
  have t9 : handsT m.hands w (Fs 9) x9 := h2.each 9 _ _ rfl rfl
  have o7 := (good_slots _).one t7
  have o8 := (good_rgs _).one t8
  have o9 := (good_hands _).one t9
  subst e0 e1 e2 e3 e4 e5 e6
  refine ⟨x7, x8, x9, _, h1, rfl, ?_, ⟨_, t7⟩, ⟨_, t8⟩, ⟨_, t9⟩, fun {w1 b} hc hb hp1 => ?_⟩
  · simp [Value.oneCell']
    exact ⟨o7.2, o8.2, o9.2⟩
  · refine ⟨hc, ⟨_, fun _ => none', hp1, Parts.ofFlat [.int .i64 m.c.1, .int .i64 m.c.2.1, .int .i64 m.c.2.2.1, .int .i64 m.c.2.2.2.1, .int .i64 m.c.2.2.2.2.1, .int .i64 m.c.2.2.2.2.2, .bool m.loose, x7, x8, x9], fun ⟨_, _, h⟩ => h.elim, fun k => ⟨fun h => .inl h, fun h => by rcases h with h | ⟨_, _, h⟩; exact h; exact h.elim⟩⟩, good_md2 (good_isV o7) (good_isV o8) (good_isV o9), fun k hk => by rw [hk]; exact hb⟩
theorem hands2_done {L : List (HdV × Option Value)} (hL : L.length = m.hands.length) (h1 : ∀ (j : Nat) (p : HdV × Option Value), L[j]? = some p → m.hands[j]? = some p.1 ∧ p.2 = none) : handsT2 L = handsT m.hands := by
  have e : L = m.hands.map fun d => (d, none) := by
    apply List.ext_getElem?
    intro j
    rcases Nat.lt_or_ge j L.length with hj | hj
    · obtain ⟨a, b⟩ := h1 j _ (List.getElem?_eq_getElem hj)
      rw [List.getElem?_map, a, List.getElem?_eq_getElem hj, Option.map_some]
      exact congrArg some (Prod.ext rfl b)
    · rw [List.getElem?_eq_none hj, List.getElem?_eq_none (by simpa using (by omega : m.hands.length ≤ j))]
  subst e
  rw [handsT2, handsT, List.length_map, List.flatMap_map]
  rfl
theorem good_hd2 (L : List (HdV × Option Value)) (h : ∀ p ∈ L, ∀ u, p.2 = some u → u.cells = #[u] ∧ u.oneCell' = true) : ∀ P ∈ L.flatMap hdT2, OwnT P := fun P hP => by
  obtain ⟨p, hp, h1⟩ := List.mem_flatMap.1 hP
  simp only [hdT2, List.mem_cons, List.not_mem_nil, or_false] at h1
  rcases h1 with rfl | rfl
  · exact bj _ _
  · cases hp2 : p.2 with
    | none => exact good_names _
    | some u => exact good_isV (h p hp u hp2)
set_option maxHeartbeats 4000000 in
theorem l_copy0 {K : Nat} (Wm : Wf m K) (hK : K ≤ 1000000) {sT rT : Th} {Q : Value → World → Prop} (hn : m.hands.length ≤ 1000000)
    (N : ∀ w F, CpI W w 74 g3 (mdT2 m sT rT (handsT m.hands)) F → P11_0 (.pointer (some ⟨g, 0, none⟩)) (.pointer (some ⟨g3, 0, none⟩)) (.int .i64 m.hands.length) (.int .i64 m.hands.length) w Q) :
    ∀ (t i : Nat) (w : World) (F : Fp) (L : List (HdV × Option Value)), i + t = m.hands.length → L.length = m.hands.length → CpI W w 74 g3 (mdT2 m sT rT (handsT2 L)) F →
      (∀ (j : Nat) (p : HdV × Option Value), L[j]? = some p → m.hands[j]? = some p.1 ∧ (j < i → p.2 = none) ∧ (i ≤ j → ∃ u, p.2 = some u ∧ SrcN W p.1.holds u)) →
      P11_0 (.pointer (some ⟨g, 0, none⟩)) (.pointer (some ⟨g3, 0, none⟩)) (.int .i64 m.hands.length) (.int .i64 i) w Q
  | 0, i, w, F, L, hi, hL, C, hl => by
    have e : i = m.hands.length := by omega
    subst e
    rw [hands2_done hL fun j p hp => ⟨(hl j p hp).1, (hl j p hp).2.1 (by have := (List.getElem?_eq_some_iff.1 hp).1; omega)⟩] at C
    exact N w F C
  | t + 1, i, w, F, L, hi, hL, C, hl => by
    apply L11_0_ok
    have hlt : (i : Int) < m.hands.length := by omega
    obtain ⟨p, hpi⟩ : ∃ p, L[i]? = some p := ⟨_, List.getElem?_eq_getElem (by omega)⟩
    obtain ⟨hm, _, h2⟩ := hl i p hpi
    obtain ⟨u, hu, hS⟩ := h2 (Nat.le_refl _)
    obtain ⟨d, q⟩ := p
    simp only at hu hm hS
    subst hu
    have gq : ∀ Q ∈ L.flatMap hdT2, OwnT Q := good_hd2 L fun p hp u hu => by
      obtain ⟨j, hj⟩ := List.getElem?_of_mem hp
      obtain ⟨_, a, b⟩ := hl j p hj
      rcases Nat.lt_or_ge j i with h | h
      · rw [a h] at hu; cases hu
      · obtain ⟨u', e1, A, c, rfl, _⟩ := b h
        rw [e1] at hu; cases hu
        exact ⟨rfl, rfl⟩
    have Cd := C.keep (Chg.refl [] w).drew
    have hj : (L.flatMap hdT2)[i * 2 + 1]? = some (isV u) := aR (f := hdT2) (z := 2) (fun _ => rfl) L i _ hpi 1 (by omega)
    obtain ⟨b, c, v, Fk, h9, _, hv, hvu, hput⟩ := Cd.row (k := 9) (e' := 81) (z := 2) (n := L.length) (Qs := L.flatMap hdT2) rfl gq hj
    rw [hvu.1] at hv
    obtain ⟨A, ca, rfl, hR⟩ := hS.keep Cd.chg
    rw [hL] at h9
    have h9' : ldC (hp w g3) (0 + 9) = some (.slice (some ⟨b, 0, none⟩) m.hands.length c) := h9
    have hv' : ldC (hp w b) (i * 2 + 1) = some (.slice A d.holds.length ca) := hv
    have ia := ia_72 (b := b) (p := 0) (n := m.hands.length) (c := c) (j := .i64) (i := (i : Int)) (by omega) (by omega)
    rw [Int.toNat_natCast, Nat.zero_add] at ia
    have hD := Wm.hd d (List.mem_of_getElem? hm)
    simp -implicitDefEqProofs only [L11_0, zS, hlt, fa_74_4, ld_72, h9', ia, fa_81_1, ld_79, hv']
    repeat' (with_reducible apply And.intro)
    all_goals
      refine (c_clName hR (bf (enc := nmC) (z := 2) (fun _ => rfl) d.holds) (fun x hx => by obtain ⟨k, y, rfl⟩ := nmC_int _ x hx; rfl) (by omega)).mono ?_
      rintro v2 w2 ⟨ho, c2⟩
      obtain ⟨A2, cc2, rfl, _, hnew, _⟩ := rdV_of_own ho
      have hT : namesT d.holds w2 (fun b => (Value.slice A2 d.holds.length cc2).ownBlock = some b) (.slice A2 d.holds.length cc2) := own_flat ho
      obtain ⟨ok, s1, s2, F1, C1⟩ := hput c2 (fun k hk => by
        cases A2 with
        | none => simp [Value.ownBlock] at hk
        | some p => simp [Value.ownBlock] at hk; rw [← hk]; exact (hnew p rfl).1) (good_names _) hT
      have h9b := aV c2 (show ldC (hp w.drew g3) (0 + 9) = _ from h9)
      try simp -implicitDefEqProofs only [zS, fa_74_4, ld_72, h9b, ia, fa_81_1]
      try simp -implicitDefEqProofs only [zS, ia, fa_81_1]
      rw [st_79 (o := i * 2 + 1) s1 s2 ok]
      apply L11_1_ok
      simp -implicitDefEqProofs only [L11_1, zS, aA, az (n := (i : Int) + 1) (by omega) (by omega)]
      have eset : (L.flatMap hdT2).set (i * 2 + 1) (namesT d.holds) = (L.set i (d, none)).flatMap hdT2 := flatM_setP (f := hdT2) (z := 2) (fun _ => rfl) (by omega) (x' := (d, none)) rfl hpi
      rw [eset, mdT2_h] at C1
      have e2 : isRow 81 2 L.length ((L.set i (d, none)).flatMap hdT2) = handsT2 (L.set i (d, none)) := by rw [handsT2, List.length_set]
      rw [e2] at C1
      have := l_copy0 Wm hK hn N t (i + 1) _ F1 (L.set i (d, none)) (by omega) (by rw [List.length_set]; exact hL) C1 fun j p hp' => by
        by_cases hij : i = j
        · subst hij
          rw [List.getElem?_set, if_pos rfl, if_pos (by omega)] at hp'
          cases hp'
          exact ⟨hm, fun _ => rfl, fun h => by omega⟩
        · rw [List.getElem?_set, if_neg hij] at hp'
          obtain ⟨a, b', c'⟩ := hl j p hp'
          exact ⟨a, fun h => b' (by omega), fun h => c' (by omega)⟩
      rw [Int.natCast_add i 1] at this
      exact this
end
end Go.Proofs.YtgamnncehjcdiaaGreat

namespace Go.Proofs.YtgamnncehjcdiaaGreat
open Go Ev Go.RowKit

section
variable {W w w1 : World} {g g3 : Nat} {m : MdV} {F : Fp}
theorem chg_put {wA wC : World} (hc : Chg [] wA wC) {b : Nat} (hb : b < wA.heap.size) (X : Array Value) (e : TypeId) : Chg [] (put wA b X e) (put wC b X e) := by
  have sz := hc.size
  refine ⟨hc.os, hc.tape, hc.output, by simpa using sz, fun k hk _ => ?_⟩
  have hk' : k < wA.heap.size := by simpa using hk
  by_cases e1 : k = b
  · subst e1
    rw [ap (by omega), ap hb]
  · rw [ax e1, ax e1]
    exact hc.block k hk' (by simp)
def SrcI (w : World) (L : List Int) (u : Value) : Prop := ∃ A c, u = .slice A L.length c ∧ RdV w A (ints L)
def SrcU (w : World) (L : List Int) (u : Value) : Prop := ∃ A c, u = .slice A L.length c ∧ RdV w A (u64s L)
def SrcO (w : World) (L : List HnV) (u : Value) : Prop := ∃ A c, u = .slice A L.length c ∧ RdV w A (L.flatMap hnC)
def SrcW (w : World) (L : List (List Int)) (u : Value) : Prop := ∃ (A : Option Addr) (c : Nat) (vs : List Value), u = .slice A L.length c ∧ vs.length = L.length ∧ RdV w A vs ∧ ∀ (i : Nat) (l : List Int) (v : Value), L[i]? = some l → vs[i]? = some v → SrcU w l v
theorem SrcI.keep {L : List Int} {u : Value} (h : SrcI w L u) (hc : Chg [] w w1) : SrcI w1 L u := by
  obtain ⟨A, c, rfl, h1⟩ := h; exact ⟨A, c, rfl, h1.keep hc.below⟩
theorem SrcU.keep {L : List Int} {u : Value} (h : SrcU w L u) (hc : Chg [] w w1) : SrcU w1 L u := by
  obtain ⟨A, c, rfl, h1⟩ := h; exact ⟨A, c, rfl, h1.keep hc.below⟩
theorem SrcO.keep {L : List HnV} {u : Value} (h : SrcO w L u) (hc : Chg [] w w1) : SrcO w1 L u := by
  obtain ⟨A, c, rfl, h1⟩ := h; exact ⟨A, c, rfl, h1.keep hc.below⟩
theorem SrcW.keep {L : List (List Int)} {u : Value} (h : SrcW w L u) (hc : Chg [] w w1) : SrcW w1 L u := by
  obtain ⟨A, c, vs, rfl, h1, h2, h3⟩ := h; exact ⟨A, c, vs, rfl, h1, h2.keep hc.below, fun i l v a b => (h3 i l v a b).keep hc⟩
theorem src_ints {L : List Int} {x : Value} (h : intsT L w F x) : SrcI w L x := by
  obtain ⟨h1, _⟩ := flat_own h
  obtain ⟨A, c, e, r, _⟩ := rdV_of_own h1
  exact ⟨A, c, e, r⟩
theorem src_word {L : List Int} {x : Value} (h : wordT L w F x) : SrcU w L x := by
  obtain ⟨h1, _⟩ := flat_own h
  obtain ⟨A, c, e, r, _⟩ := rdV_of_own h1
  exact ⟨A, c, e, r⟩
theorem src_words {L : List (List Int)} {x : Value} (h : wordsT L w F x) : SrcW w L x := by
  obtain ⟨A, c, xs, Fs, rfl, hR, hl, hP, _⟩ := isRow.rd h
  refine ⟨A, c, xs, rfl, by omega, hR, fun i l v hi hv => ?_⟩
  exact src_word (hP.each i (wordT l) v (by rw [List.getElem?_map, hi]; rfl) hv)
structure SrcR (w : World) (r : RgV) (u : Value × Value × Value) : Prop where
  sc : SrcI w r.chunks u.1
  sw : SrcW w r.words u.2.1
  so : SrcO w r.objs u.2.2
def rgC2 (p : RgV × Value × Value × Value) : List Value := [.int .i64 p.1.nm.1, .int .i64 p.1.nm.2, .int .i64 p.1.cls, .int .i64 p.1.off, p.2.1, p.2.2.1, p.2.2.2]
set_option maxHeartbeats 1000000 in
theorem src_rgs {L : List RgV} {x : Value} (h : rgsT L w F x) : ∃ (A : Option Addr) (c : Nat) (us : List (Value × Value × Value)), x = .slice A L.length c ∧ us.length = L.length ∧ (∀ (i : Nat) (r : RgV) (u : Value × Value × Value), L[i]? = some r → us[i]? = some u → SrcR w r u) ∧
    RdV w A ((L.zip us).flatMap rgC2) := by
  obtain ⟨A, c, xs, Fs, rfl, hR, hl, hP, _⟩ := isRow.rd h
  have at' : ∀ (i : Nat) (r : RgV), L[i]? = some r → ∀ k, k < 7 → ∃ v P, xs[i * 7 + k]? = some v ∧ (rgT r)[k]? = some P ∧ P w (Fs (i * 7 + k)) v := by
    intro i r hr k hk
    have hi := (List.getElem?_eq_some_iff.1 hr).1
    have gk := aR (f := rgT) (z := 7) (fun _ => rfl) L i r hr k hk
    obtain ⟨v, hv⟩ : ∃ v, xs[i * 7 + k]? = some v := ⟨_, List.getElem?_eq_getElem (by omega)⟩
    obtain ⟨P, hPk⟩ : ∃ P, (rgT r)[k]? = some P := ⟨_, List.getElem?_eq_getElem (by simpa [rgT] using hk)⟩
    exact ⟨v, P, hv, hPk, hP.each _ _ _ (gk.trans hPk) hv⟩
  have all : ∀ (i : Nat) (r : RgV), L[i]? = some r → ∃ u : Value × Value × Value, SrcR w r u ∧ ∀ k, k < 7 → xs[i * 7 + k]? = (rgC2 (r, u))[k]? := by
    intro i r hr
    obtain ⟨v0, P0, x0, p0, t0⟩ := at' i r hr 0 (by omega)
    obtain ⟨v1, P1, x1, p1, t1⟩ := at' i r hr 1 (by omega)
    obtain ⟨v2, P2, x2, p2, t2⟩ := at' i r hr 2 (by omega)
    obtain ⟨v3, P3, x3, p3, t3⟩ := at' i r hr 3 (by omega)
    obtain ⟨v4, P4, x4, p4, t4⟩ := at' i r hr 4 (by omega)
    obtain ⟨v5, P5, x5, p5, t5⟩ := at' i r hr 5 (by omega)
    obtain ⟨v6, P6, x6, p6, t6⟩ := at' i r hr 6 (by omega)
    cases p0; cases p1; cases p2; cases p3; cases p4; cases p5; cases p6
    rw [t0.1] at x0; rw [t1.1] at x1; rw [t2.1] at x2; rw [t3.1] at x3
    refine ⟨(v4, v5, v6), ⟨src_ints t4, src_words t5, objs_sh ⟨_, t6⟩⟩, fun k hk => ?_⟩
    have : k = 0 ∨ k = 1 ∨ k = 2 ∨ k = 3 ∨ k = 4 ∨ k = 5 ∨ k = 6 := by omega
    rcases this with rfl | rfl | rfl | rfl | rfl | rfl | rfl
    · exact x0
    · exact x1
    · exact x2
    · exact x3
    · exact x4
    · exact x5
    · exact x6
  have cho : ∃ us : List (Value × Value × Value), us.length = L.length ∧ ∀ (i : Nat) (r : RgV) (u : Value × Value × Value), L[i]? = some r → us[i]? = some u → SrcR w r u ∧ ∀ k, k < 7 → xs[i * 7 + k]? = (rgC2 (r, u))[k]? := by
    refine ⟨List.ofFn fun i : Fin L.length => Classical.choose (all i.1 L[i.1] (List.getElem?_eq_getElem i.2)), by simp, fun i r u hr hu => ?_⟩
    have hi := (List.getElem?_eq_some_iff.1 hr).1
    have hr' : L[i] = r := by rw [List.getElem?_eq_getElem hi] at hr; exact Option.some.inj hr
    subst hr'
    rw [List.getElem?_ofFn, dif_pos hi] at hu
    rw [← Option.some.inj hu]
    exact Classical.choose_spec (all i L[i] (List.getElem?_eq_getElem hi))
  obtain ⟨us, hus, hc⟩ := cho
  refine ⟨A, c, us, rfl, hus, fun i r u hr hu => (hc i r u hr hu).1, ?_⟩
  have e : (L.zip us).flatMap rgC2 = xs := by
    apply List.ext_getElem?
    intro j
    have hfl : ((L.zip us).flatMap rgC2).length = L.length * 7 := by
      rw [bf (z := 7) (fun p => rfl)]; simp [hus]
    rcases Nat.lt_or_ge j (L.length * 7) with hj | hj
    · obtain ⟨i, k, rfl, hk⟩ : ∃ i k, j = i * 7 + k ∧ k < 7 := ⟨j / 7, j % 7, by omega, by omega⟩
      have hi : i < L.length := by omega
      have hr : L[i]? = some L[i] := List.getElem?_eq_getElem hi
      have hu : us[i]? = some (us[i]'(by omega)) := List.getElem?_eq_getElem (by omega)
      have hz : (L.zip us)[i]? = some (L[i], us[i]'(by omega)) := by
        rw [List.getElem?_zip_eq_some]; exact ⟨hr, hu⟩
      rw [aR (f := rgC2) (z := 7) (fun _ => rfl) _ i _ hz k hk]
      exact ((hc i _ _ hr hu).2 k hk).symm
    · rw [List.getElem?_eq_none (by omega), List.getElem?_eq_none (by omega)]
  rw [e]; exact hR
def wordT2 (p : List Int × Option Value) : Th := match p.2 with | some u => isV u | none => wordT p.1
inductive WSt where
  | old (u : Value)
  | new (L : List (List Int × Option Value))
def wsT (r : RgV) : WSt → Th
  | .old u => isV u
  | .new L => isRow 93 1 L.length (L.map wordT2)
structure RgS where
  r : RgV
  oc : Option Value
  ow : WSt
  oo : Option Value
def rgT2 (p : RgS) : List Th := [iT p.r.nm.1, iT p.r.nm.2, iT p.r.cls, iT p.r.off, match p.oc with | some u => isV u | none => intsT p.r.chunks, wsT p.r p.ow, match p.oo with | some u => isV u | none => objsT p.r.objs]
def rgsT2 (L : List RgS) : Th := isRow 88 7 L.length (L.flatMap rgT2)
end
end Go.Proofs.YtgamnncehjcdiaaGreat

namespace Go.Proofs.YtgamnncehjcdiaaGreat
open Go Ev Go.RowKit

section
variable {W w wA wB wC : World} {g3 : Nat} {Ps : List Th} {F : Fp}
theorem put_put (w : World) (b : Nat) (c c' : Array Value) (e e' : TypeId) : put (put w b c e) b c' e' = put w b c' e' := by
  unfold Ev.put
  simp [Array.setIfInBounds_setIfInBounds]
theorem ldC_lt {w : World} {b j : Nat} {v : Value} (h : ldC (hp w b) j = some v) : b < w.heap.size := by
  rcases Nat.lt_or_ge b w.heap.size with h1 | h1
  · exact h1
  · have h2 : hp w b = none := by simp [hp]; omega
    rw [h2] at h; cases h
theorem CpI.next {e : TypeId} {k : Nat} {e' : TypeId} {z n : Nat} {Qs : List Th} {b : Nat} {X : Array Value} {eb : TypeId} (C : CpI W (put wA b X eb) e g3 Ps F) (hk : Ps[k]? = some (isRow e' z n Qs)) (hq : ∀ Q ∈ Qs, OwnT Q) {j : Nat} {P : Th} (hj : Qs[j]? = some P)
    (hb : b < wA.heap.size) (hbg : b ≠ g3) {c : Nat} (hl : ldC (hp wA g3) k = some (.slice (some ⟨b, 0, none⟩) n c)) (cB : Chg [] wA wB) {F' : Fp} {P' : Th} {v' : Value} (hn : ∀ k, F' k → wA.heap.size ≤ k) (hg : OwnT P') (hv : P' wB F' v') :
    okC (some (.cells X eb)) (j + 1) = true ∧ v'.cells = #[v'] ∧ v'.oneCell' = true ∧ ∃ F1, CpI W (put wB b (X.setIfInBounds j v') eb) e g3 (Ps.set k (isRow e' z n (Qs.set j P'))) F1 := by
  obtain ⟨b2, c2, v, Fk, h1, _, _, _, hput⟩ := C.row hk hq hj
  rw [ax hbg.symm, hl] at h1
  cases h1
  have sB := cB.size
  have hs : hp (put wB b X eb) b = some (.cells X eb) := ap (by omega) _ _
  obtain ⟨a1, a2, a3, F1, C1⟩ := hput (w1 := put wB b X eb) (chg_put cB hb X eb) (fun k hk => by simpa using hn k hk) hg (hg.frame hv (ChgP.put wB b X eb) (fun k h1 h2 => by have := hn k h1; omega))
  rw [hs] at a1
  rw [hs, br, aD, put_put] at C1
  exact ⟨a1, a2, a3, F1, C1⟩
theorem CpI.three {e : TypeId} {k : Nat} {e' : TypeId} {z n : Nat} {Qs : List Th} (C : CpI W w e g3 Ps F) (hk : Ps[k]? = some (isRow e' z n Qs)) (hq : ∀ Q ∈ Qs, OwnT Q) {j1 j2 j3 : Nat} {P1 P2 P3 : Th} (h1 : Qs[j1]? = some P1) (h2 : Qs[j2]? = some P2) (h3 : Qs[j3]? = some P3) (n12 : j1 ≠ j2) (n13 : j1 ≠ j3) (n23 : j2 ≠ j3)
    (cA : Chg [] w wA) (cB : Chg [] wA wB) (cC : Chg [] wB wC) {F1 F2 F3 : Fp} {Q1 Q2 Q3 : Th} {v1 v2 v3 : Value} (f1 : ∀ k, F1 k → w.heap.size ≤ k) (f2 : ∀ k, F2 k → wA.heap.size ≤ k) (f3 : ∀ k, F3 k → wB.heap.size ≤ k)
    (g1 : OwnT Q1) (g2 : OwnT Q2) (g3' : OwnT Q3) (t1 : Q1 wA F1 v1) (t2 : Q2 wB F2 v2) (t3 : Q3 wC F3 v3) :
    ∃ (b c : Nat) (X : Array Value) (eb : TypeId), ldC (hp w g3) k = some (.slice (some ⟨b, 0, none⟩) n c) ∧ b ≠ g3 ∧ (∃ v, ldC (hp w b) j1 = some v ∧ ∃ Fv, P1 w Fv v) ∧ (∃ v, ldC (hp w b) j2 = some v ∧ ∃ Fv, P2 w Fv v) ∧ (∃ v, ldC (hp w b) j3 = some v ∧ ∃ Fv, P3 w Fv v) ∧
      getC (hp w b) = X ∧ getE (hp w b) = eb ∧ okC (hp w b) (j1 + 1) = true ∧ okC (some (.cells (X.setIfInBounds j1 v1) eb)) (j2 + 1) = true ∧ okC (some (.cells ((X.setIfInBounds j1 v1).setIfInBounds j2 v2) eb)) (j3 + 1) = true ∧
      ∃ F', CpI W (put wC b (((X.setIfInBounds j1 v1).setIfInBounds j2 v2).setIfInBounds j3 v3) eb) e g3 (Ps.set k (isRow e' z n (((Qs.set j1 Q1).set j2 Q2).set j3 Q3))) F' := by
  have hkl := (List.getElem?_eq_some_iff.1 hk).1
  obtain ⟨b, c, v, Fk, hl, hbg, hld, hv, hput⟩ := C.row hk hq h1
  obtain ⟨b2, c2, v2', Fk2, hl2, _, hld2, hv2, _⟩ := C.row hk hq h2
  rw [hl] at hl2; cases hl2
  obtain ⟨b3, c3, v3', Fk3, hl3, _, hld3, hv3, _⟩ := C.row hk hq h3
  rw [hl] at hl3; cases hl3
  have hb := ldC_lt hld
  have hbA : hp wA b = hp w b := cA.block b hb (by simp)
  obtain ⟨ok1, _, _, Fa, Ca⟩ := hput cA f1 g1 t1
  rw [hbA] at ok1 Ca
  have sA := cA.size
  have sB := cB.size
  obtain ⟨ok2, _, _, Fb, Cb⟩ := Ca.next (wB := wB) (List.getElem?_set_self hkl) (mem_setG hq g1) (j := j2) (P := P2) (by rw [List.getElem?_set_ne n12]; exact h2) (by omega) hbg (aV cA hl) cB f2 g2 t2
  rw [List.set_set] at Cb
  obtain ⟨ok3, _, _, Fc, Cc⟩ := Cb.next (wB := wC) (List.getElem?_set_self hkl) (mem_setG (mem_setG hq g1) g2) (j := j3) (P := P3) (by rw [List.getElem?_set_ne n23, List.getElem?_set_ne n13]; exact h3) (by omega) hbg (aV cB (aV cA hl)) cC f3 g3' t3
  rw [List.set_set] at Cc
  exact ⟨b, c, _, _, hl, hbg, ⟨v, hld, _, hv⟩, ⟨v2', hld2, _, hv2⟩, ⟨v3', hld3, _, hv3⟩, rfl, rfl, ok1, ok2, ok3, Fc, Cc⟩
end
end Go.Proofs.YtgamnncehjcdiaaGreat

namespace Go.Proofs.YtgamnncehjcdiaaGreat
open Go Ev Go.RowKit

section
variable {W w w1 : World} {g3 : Nat} {Ps : List Th} {F : Fp} {m : MdV}
theorem CpI.inner {e : TypeId} (h : CpI W w e g3 Ps F) {k : Nat} {e' : TypeId} {z n : Nat} {Qs : List Th} (hk : Ps[k]? = some (isRow e' z n Qs)) (hq : ∀ Q ∈ Qs, OwnT Q) {j : Nat} {e2 : TypeId} {z2 n2 : Nat} {Rs : List Th} (hj : Qs[j]? = some (isRow e2 z2 n2 Rs)) (hr : ∀ R ∈ Rs, OwnT R) {l : Nat} {P : Th} (hl : Rs[l]? = some P) :
    ∃ (b c bw cw : Nat) (v : Value) (Fk : Fp), ldC (hp w g3) k = some (.slice (some ⟨b, 0, none⟩) n c) ∧ ldC (hp w b) j = some (.slice (some ⟨bw, 0, none⟩) n2 cw) ∧ ldC (hp w bw) l = some v ∧ P w Fk v ∧ bw ≠ b ∧ bw ≠ g3 ∧
      ∀ {w1 : World} {F' : Fp} {P' : Th} {v' : Value}, Chg [] w w1 → (∀ k, F' k → w.heap.size ≤ k) → OwnT P' → P' w1 F' v' → okC (hp w1 bw) (l + 1) = true ∧ v'.cells = #[v'] ∧ v'.oneCell' = true ∧
        ∃ F1, CpI W (put w1 bw ((getC (hp w1 bw)).setIfInBounds l v') (getE (hp w1 bw))) e g3 (Ps.set k (isRow e' z n (Qs.set j (isRow e2 z2 n2 (Rs.set l P'))))) F1 := by
  obtain ⟨b, c, rv, Fr, h9, _, _, _, hnb, hng, hld, hR, hres, _⟩ := isAt.row h.I h.good hk hq hj
  obtain ⟨bw, cw, v, Fk, hx, hFb, _, _, hld2, hv, _, hst⟩ := isRow.cell hR hr hl
  subst hx
  refine ⟨b, c, bw, cw, v, Fk, h9, hld, hld2, hv, fun e => hnb (e ▸ hFb), fun e => hng (e ▸ hFb), fun {w1 F' P' v'} hc hn hg hp' => ?_⟩
  obtain ⟨ok, F1, hrow, hupd⟩ := hst w1 F' P' v' (upd_new hc hn) hg hp'
  obtain ⟨F2, i2, u2⟩ := hres _ F1 _ hupd hrow
  obtain ⟨o1, o2⟩ := hg.one hp'
  exact ⟨ok, o1, o2, F2, h.upd i2 (mem_setG h.good (bk (mem_setG hq (bk (mem_setG hr hg))))) u2⟩
theorem words2_done (L : List (List Int)) : isRow 93 1 (L.map fun l => (l, (none : Option Value))).length ((L.map fun l => (l, (none : Option Value))).map wordT2) = wordsT L := by
  rw [List.length_map, List.map_map]; rfl
def doneR (r : RgV) : RgS := ⟨r, none, .new (r.words.map fun l => (l, none)), none⟩
theorem doneR_T (r : RgV) : rgT2 (doneR r) = rgT r := by
  have e : wsT r (doneR r).ow = wordsT r.words := words2_done r.words
  simp only [rgT2, rgT, doneR] at e ⊢
  rw [e]
theorem rgs2_done {L : List RgS} (hL : L.length = m.rgs.length) (h1 : ∀ (j : Nat) (p : RgS), L[j]? = some p → ∃ r, m.rgs[j]? = some r ∧ p = doneR r) : rgsT2 L = rgsT m.rgs := by
  have e : L = m.rgs.map doneR := by
    apply List.ext_getElem?
    intro j
    rcases Nat.lt_or_ge j L.length with hj | hj
    · obtain ⟨r, a, b⟩ := h1 j _ (List.getElem?_eq_getElem hj)
      rw [List.getElem?_map, a, List.getElem?_eq_getElem hj, Option.map_some, b]
    · rw [List.getElem?_eq_none hj, List.getElem?_eq_none (by simpa using (by omega : m.rgs.length ≤ j))]
  subst e
  rw [rgsT2, rgsT, List.length_map, List.flatMap_map]
  congr 1
  exact congrArg (fun f => m.rgs.flatMap f) (funext doneR_T)
end
end Go.Proofs.YtgamnncehjcdiaaGreat

namespace Go.Proofs.YtgamnncehjcdiaaGreat
open Go Ev Go.RowKit

section
variable {W w w1 : World} {g g3 : Nat} {m : MdV} {F : Fp}
theorem good_ws2 (L : List (List Int × Option Value)) (h : ∀ p ∈ L, ∀ u, p.2 = some u → u.cells = #[u] ∧ u.oneCell' = true) : ∀ P ∈ L.map wordT2, OwnT P := fun P hP => by
  obtain ⟨p, hp, rfl⟩ := List.mem_map.1 hP
  unfold wordT2
  cases hp2 : p.2 with
  | none => exact good_word _
  | some u => exact good_isV (h p hp u hp2)
set_option maxHeartbeats 4000000 in
theorem l_copy4 {sT hT : Th} {Q : Value → World → Prop} {n i : Nat} {r : RgV} {b c bw cw : Nat} {L0 : List RgS} (hlen : r.words.length ≤ 1000000) (hww : ∀ l ∈ r.words, l.length ≤ 1000000) (hin : (i : Int) + 1 < 1000000000)
    (N : ∀ w F L, CpI W w 74 g3 (mdT2 m sT (rgsT2 L) hT) F → L.length = n → L[i]? = some (doneR r) → (∀ j, j ≠ i → L[j]? = L0[j]?) → P11_2 (.pointer (some ⟨g3, 0, none⟩)) (.int .i64 n) (.int .i64 ((i : Int) + 1)) w Q) :
    ∀ (t kk : Nat) (w : World) (F : Fp) (L : List RgS) (Lw : List (List Int × Option Value)), kk + t = r.words.length → CpI W w 74 g3 (mdT2 m sT (rgsT2 L) hT) F → L.length = n → (∀ Q ∈ L.flatMap rgT2, OwnT Q) → L[i]? = some ⟨r, none, .new Lw, none⟩ → Lw.length = r.words.length → (∀ j, j ≠ i → L[j]? = L0[j]?) →
      (∀ (j : Nat) (p : List Int × Option Value), Lw[j]? = some p → r.words[j]? = some p.1 ∧ (j < kk → p.2 = none) ∧ (kk ≤ j → ∃ u, p.2 = some u ∧ SrcU W p.1 u)) →
      ldC (hp w g3) 8 = some (.slice (some ⟨b, 0, none⟩) n c) → ldC (hp w b) (i * 7 + 5) = some (.slice (some ⟨bw, 0, none⟩) r.words.length cw) →
      P11_4 (.pointer (some ⟨g3, 0, none⟩)) (.pointer (some ⟨b, i * 7, none⟩)) (.int .i64 n) (.int .i64 i) (.slice (some ⟨bw, 0, none⟩) r.words.length cw) (.int .i64 r.words.length) (.int .i64 kk) w Q
  | 0, kk, w, F, L, Lw, hk, C, hL, gL, hLi, hLw, hO, hl, h8, h5 => by
    apply L11_4_ok
    have : ¬ (kk : Int) < r.words.length := by omega
    simp -implicitDefEqProofs only [L11_4, zS, this, aA, az (n := (i : Int) + 1) (by omega) (by omega)]
    refine N w F L C hL ?_ hO
    have e : Lw = r.words.map fun l => (l, none) := by
      apply List.ext_getElem?
      intro j
      rcases Nat.lt_or_ge j Lw.length with hj | hj
      · obtain ⟨a, b', _⟩ := hl j _ (List.getElem?_eq_getElem hj)
        rw [List.getElem?_map, a, List.getElem?_eq_getElem hj, Option.map_some]
        exact congrArg some (Prod.ext rfl (b' (by omega)))
      · rw [List.getElem?_eq_none hj, List.getElem?_eq_none (by simpa using (by omega : r.words.length ≤ j))]
    rw [hLi, e]; rfl
  | t + 1, kk, w, F, L, Lw, hk, C, hL, gL, hLi, hLw, hO, hl, h8, h5 => by
    apply L11_4_ok
    have hlt : (kk : Int) < r.words.length := by omega
    obtain ⟨p, hp'⟩ : ∃ p, Lw[kk]? = some p := ⟨_, List.getElem?_eq_getElem (by omega)⟩
    obtain ⟨hm, _, h2⟩ := hl kk p hp'
    obtain ⟨u, hu, hS⟩ := h2 (Nat.le_refl _)
    obtain ⟨l, q⟩ := p
    simp only at hu hm hS
    subst hu
    have gw : ∀ Q ∈ Lw.map wordT2, OwnT Q := good_ws2 Lw fun p hp u hu => by
      obtain ⟨j, hj⟩ := List.getElem?_of_mem hp
      obtain ⟨_, a, b⟩ := hl j p hj
      rcases Nat.lt_or_ge j kk with h | h
      · rw [a h] at hu; cases hu
      · obtain ⟨u', e1, A, c, rfl, _⟩ := b h
        rw [e1] at hu; cases hu
        exact ⟨rfl, rfl⟩
    have Cd := C.keep (Chg.refl [] w).drew
    have hj : (L.flatMap rgT2)[i * 7 + 5]? = some (isRow 93 1 Lw.length (Lw.map wordT2)) := aR (f := rgT2) (z := 7) (fun _ => rfl) L i _ hLi 5 (by omega)
    have hjw : (Lw.map wordT2)[kk]? = some (isV u) := by rw [List.getElem?_map, hp']; rfl
    obtain ⟨b1, c1, bw1, cw1, v, Fk, q8, q5, qv, hvu, nb, ng, hput⟩ := Cd.inner (k := 8) (e' := 88) (z := 7) (n := L.length) (Qs := L.flatMap rgT2) rfl gL hj gw hjw
    rw [hL, show ldC (hp w.drew g3) 8 = _ from h8] at q8
    cases q8
    rw [hLw, show ldC (hp w.drew b) (i * 7 + 5) = _ from h5] at q5
    cases q5
    rw [hvu.1] at qv
    obtain ⟨A, ca, rfl, hR⟩ := hS.keep Cd.chg
    have qv' : ldC (hp w bw) kk = some (.slice A l.length ca) := qv
    have iaw := ia_86 (b := bw) (p := 0) (n := r.words.length) (c := cw) (j := .i64) (i := (kk : Int)) (by omega) (by omega)
    rw [Int.toNat_natCast, Nat.zero_add, Nat.mul_one] at iaw
    simp -implicitDefEqProofs only [L11_4, zS, hlt, iaw, ld_93, qv', fa_88_4, ld_86, h5]
    repeat' (with_reducible apply And.intro)
    all_goals
      refine (c_clU64s hR (by simp [u64s]) (fun x hx => by obtain ⟨k, y, rfl⟩ := u64s_int _ x hx; rfl) (hww l (List.mem_of_getElem? hm))).mono ?_
      rintro v2 w2 ⟨ho, c2⟩
      obtain ⟨A2, cc2, rfl, _, hnew, _⟩ := rdV_of_own ho
      have hT2 : wordT l w2 (fun b => (Value.slice A2 l.length cc2).ownBlock = some b) (.slice A2 l.length cc2) := own_flat ho
      obtain ⟨ok, s1, s2, F1, C1⟩ := hput c2 (fun k hk => by
        cases A2 with
        | none => simp [Value.ownBlock] at hk
        | some p => simp [Value.ownBlock] at hk; rw [← hk]; exact (hnew p rfl).1) (good_word _) hT2
      have h5b := aV c2 (show ldC (hp w.drew b) (i * 7 + 5) = _ from h5)
      have h8b := aV c2 (show ldC (hp w.drew g3) 8 = _ from h8)
      try simp -implicitDefEqProofs only [zS, fa_88_4, ld_86, h5b, iaw]
      try simp -implicitDefEqProofs only [zS, iaw]
      rw [st_93 (o := kk) s1 s2 ok]
      apply L11_5_ok
      simp -implicitDefEqProofs only [L11_5, zS, aA, az (n := (kk : Int) + 1) (by omega) (by omega)]
      have ew : (Lw.map wordT2).set kk (wordT l) = (Lw.set kk (l, none)).map wordT2 := by rw [List.map_set]; rfl
      have ew2 : isRow 93 1 Lw.length ((Lw.set kk (l, none)).map wordT2) = wsT r (.new (Lw.set kk (l, none))) := by simp only [wsT, List.length_set]
      have eset : (L.flatMap rgT2).set (i * 7 + 5) (wsT r (.new (Lw.set kk (l, none)))) = (L.set i ⟨r, none, .new (Lw.set kk (l, none)), none⟩).flatMap rgT2 := flatM_setP (f := rgT2) (z := 7) (fun _ => rfl) (by omega) (x' := ⟨r, none, .new (Lw.set kk (l, none)), none⟩) rfl hLi
      have e2 : isRow 88 7 L.length ((L.set i ⟨r, none, .new (Lw.set kk (l, none)), none⟩).flatMap rgT2) = rgsT2 (L.set i ⟨r, none, .new (Lw.set kk (l, none)), none⟩) := by rw [rgsT2, List.length_set]
      rw [ew, ew2, eset, e2, mdT2_r] at C1
      have hil := (List.getElem?_eq_some_iff.1 hLi).1
      have := l_copy4 hlen hww hin N t (kk + 1) _ F1 (L.set i ⟨r, none, .new (Lw.set kk (l, none)), none⟩) (Lw.set kk (l, none)) (by omega) C1 (by rw [List.length_set]; exact hL) (by rw [← eset]; exact mem_setG gL (by rw [← ew2, ← ew]; exact bk (mem_setG gw (good_word _)))) (by rw [List.getElem?_set, if_pos rfl, if_pos hil]) (by rw [List.length_set]; exact hLw) (fun j hj => by rw [List.getElem?_set, if_neg (fun h => hj h.symm)]; exact hO j hj) (fun j p hp'' => by
        by_cases hij : kk = j
        · subst hij
          rw [List.getElem?_set, if_pos rfl, if_pos (by omega)] at hp''
          cases hp''
          exact ⟨hm, fun _ => rfl, fun h => by omega⟩
        · rw [List.getElem?_set, if_neg hij] at hp''
          obtain ⟨a, b', c'⟩ := hl j p hp''
          exact ⟨a, fun h => b' (by omega), fun h => c' (by omega)⟩) (by rw [ax ng.symm]; exact h8b) (by rw [ax nb.symm]; exact h5b)
      rw [Int.natCast_add kk 1] at this
      exact this
end
end Go.Proofs.YtgamnncehjcdiaaGreat

namespace Go.Proofs.YtgamnncehjcdiaaGreat
open Go Ev Go.RowKit

section
variable {W w w1 : World} {g g3 : Nat} {m : MdV} {F : Fp}
def oldR (r : RgV) (u : Value × Value × Value) : RgS := ⟨r, some u.1, .old u.2.1, some u.2.2⟩
theorem good_rg2 (L : List RgS) (h : ∀ p ∈ L, (∃ r, p = doneR r) ∨ ∃ r u, p = oldR r u ∧ SrcR W r u) : ∀ P ∈ L.flatMap rgT2, OwnT P := fun P hP => by
  obtain ⟨p, hp, h1⟩ := List.mem_flatMap.1 hP
  rcases h p hp with ⟨r, rfl⟩ | ⟨r, u, rfl, hS⟩
  · rw [doneR_T] at h1; exact good_rg r P h1
  · obtain ⟨⟨A, c, e1, _⟩, ⟨A', c', vs, e2, _⟩, ⟨A'', c'', e3, _⟩⟩ := hS
    simp only [rgT2, oldR, wsT, List.mem_cons, List.not_mem_nil, or_false] at h1
    rcases h1 with rfl | rfl | rfl | rfl | rfl | rfl | rfl
    · exact bj _ _
    · exact bj _ _
    · exact bj _ _
    · exact bj _ _
    · exact good_isV (by rw [e1]; exact ⟨rfl, rfl⟩)
    · exact good_isV (by rw [e2]; exact ⟨rfl, rfl⟩)
    · exact good_isV (by rw [e3]; exact ⟨rfl, rfl⟩)
theorem own_new {w1 : World} {e : TypeId} {z n : Nat} {v : Value} {cs : List Value} {base : Nat} (h : w1.ownsRow base e z v n cs) : ∀ k, v.ownBlock = some k → base ≤ k := fun k hk => by
  obtain ⟨A, c, rfl, _, hn, _⟩ := rdV_of_own h
  cases A with
  | none => simp [Value.ownBlock] at hk
  | some p => simp [Value.ownBlock] at hk; rw [← hk]; exact (hn p rfl).1
set_option maxHeartbeats 8000000 in
theorem l_copy2 {K : Nat} (Wm : Wf m K) (hK : K ≤ 1000000) {sT hT : Th} {Q : Value → World → Prop} (N : ∀ w F, CpI W w 74 g3 (mdT2 m sT (rgsT m.rgs) hT) F → Q (.pointer (some ⟨g3, 0, none⟩)) w) :
    ∀ (t i : Nat) (w : World) (F : Fp) (L : List RgS), i + t = m.rgs.length → L.length = m.rgs.length → CpI W w 74 g3 (mdT2 m sT (rgsT2 L) hT) F →
      (∀ (j : Nat) (p : RgS), L[j]? = some p → ∃ r, m.rgs[j]? = some r ∧ (j < i → p = doneR r) ∧ (i ≤ j → ∃ u, p = oldR r u ∧ SrcR W r u)) →
      P11_2 (.pointer (some ⟨g3, 0, none⟩)) (.int .i64 m.rgs.length) (.int .i64 i) w Q
  | 0, i, w, F, L, hi, hL, C, hl => by
    apply L11_2_ok
    have : ¬ (i : Int) < m.rgs.length := by omega
    simp -implicitDefEqProofs only [L11_2, zS, this]
    rw [rgs2_done hL fun j p hp => by
      obtain ⟨r, a, b, _⟩ := hl j p hp
      exact ⟨r, a, b (by have := (List.getElem?_eq_some_iff.1 hp).1; omega)⟩] at C
    exact N w F C
  | t + 1, i, w, F, L, hi, hL, C, hl => by
    apply L11_2_ok
    have hlt : (i : Int) < m.rgs.length := by omega
    have hrl := Wm.rl
    obtain ⟨p, hp'⟩ : ∃ p, L[i]? = some p := ⟨_, List.getElem?_eq_getElem (by omega)⟩
    obtain ⟨r, hm, _, h2⟩ := hl i p hp'
    obtain ⟨u, rfl, hS⟩ := h2 (Nat.le_refl _)
    have gL : ∀ Q ∈ L.flatMap rgT2, OwnT Q := good_rg2 (W := W) L fun p hp => by
      obtain ⟨j, hj⟩ := List.getElem?_of_mem hp
      obtain ⟨r, _, a, b⟩ := hl j p hj
      rcases Nat.lt_or_ge j i with h | h
      · exact .inl ⟨r, a h⟩
      · obtain ⟨u, e, s⟩ := b h
        exact .inr ⟨r, u, e, s⟩
    have cd : Chg [] w w.drew := (Chg.refl _ _).drew
    have Cd := C.keep cd
    obtain ⟨⟨A, ca, e1, R1⟩, ⟨A', ca', vs, e2, hvl, R2, hvs⟩, ⟨A'', ca'', e3, R3⟩⟩ := hS
    obtain ⟨u1, u2, u3⟩ := u
    simp only at e1 e2 e3
    subst e1 e2 e3
    have j1 : (L.flatMap rgT2)[i * 7 + 4]? = some (isV (.slice A r.chunks.length ca)) := aR (f := rgT2) (z := 7) (fun _ => rfl) L i _ hp' 4 (by omega)
    have j2 : (L.flatMap rgT2)[i * 7 + 6]? = some (isV (.slice A'' r.objs.length ca'')) := aR (f := rgT2) (z := 7) (fun _ => rfl) L i _ hp' 6 (by omega)
    have j3 : (L.flatMap rgT2)[i * 7 + 5]? = some (isV (.slice A' r.words.length ca')) := aR (f := rgT2) (z := 7) (fun _ => rfl) L i _ hp' 5 (by omega)
    obtain ⟨b, c, v, Fk, h8, hbg, hv4, hu4, _⟩ := Cd.row (k := 8) (e' := 88) (z := 7) (n := L.length) (Qs := L.flatMap rgT2) rfl gL j1
    obtain ⟨b2, c2, v', Fk', h8b, _, hv6, hu6, _⟩ := Cd.row (k := 8) (e' := 88) (z := 7) (n := L.length) (Qs := L.flatMap rgT2) rfl gL j2
    rw [h8] at h8b; cases h8b
    obtain ⟨b3, c3, v'', Fk'', h8c, _, hv5, hu5, _⟩ := Cd.row (k := 8) (e' := 88) (z := 7) (n := L.length) (Qs := L.flatMap rgT2) rfl gL j3
    rw [h8] at h8c; cases h8c
    rw [hu4.1] at hv4; rw [hu6.1] at hv6; rw [hu5.1] at hv5
    rw [hL] at h8
    have h8' : ldC (hp w g3) (0 + 8) = some (.slice (some ⟨b, 0, none⟩) m.rgs.length c) := h8
    have hv4' : ldC (hp w b) (i * 7 + 4) = some (.slice A r.chunks.length ca) := hv4
    have hv6' : ldC (hp w b) (i * 7 + 6) = some (.slice A'' r.objs.length ca'') := hv6
    have hv5' : ldC (hp w b) (i * 7 + 5) = some (.slice A' r.words.length ca') := hv5
    have ia := ia_71 (b := b) (p := 0) (n := m.rgs.length) (c := c) (j := .i64) (i := (i : Int)) (by omega) (by omega)
    rw [Int.toNat_natCast, Nat.zero_add] at ia
    have hR := Wm.rg r (List.mem_of_getElem? hm)
    have hcl := hR.cl
    have hol := hR.ol
    have hwl := hR.wl
    have W2 := Wm.w2
    simp -implicitDefEqProofs only [L11_2, zS, hlt, fa_74_3, ld_71, h8', ia, fa_88_3, fa_88_4, fa_88_5, aY, ld_44, ld_86, hv4', hv5', hv6']
    have fin : ∀ (wA wB wC : World) (v1 v2 v3 : Value), Chg [] w.drew wA → Chg [] wA wB → Chg [] wB wC → wA.ownsRow w.drew.heap.size 3 1 v1 r.chunks.length (ints r.chunks) → wB.ownsRow wA.heap.size 25 5 v2 r.objs.length (r.objs.flatMap hnC) → wC.ownsRow wB.heap.size 93 1 v3 r.words.length vs →
        effu Tryz.prog (Instr.storeAt 22 (.pointer (some ⟨b, i * 7 + 4, none⟩)) v1) wC fun w => effu Tryz.prog (Instr.storeAt 44 (.pointer (some ⟨b, i * 7 + 6, none⟩)) v2) w fun w => effu Tryz.prog (Instr.storeAt 86 (.pointer (some ⟨b, i * 7 + 5, none⟩)) v3) w fun w => P11_3 (.pointer (some ⟨g3, 0, none⟩)) (.pointer (some ⟨b, i * 7, none⟩)) (.int .i64 m.rgs.length) (.int .i64 i) w Q := by
      intro wA wB wC v1 v2 v3 cA cB cC o1 o2 o3
      have t1 : intsT r.chunks wA (fun b => v1.ownBlock = some b) v1 := own_flat o1
      have t2 : objsT r.objs wB (fun b => v2.ownBlock = some b) v2 := own_flat o2
      have ev : (r.words.zip (vs.map some)).map wordT2 = vs.map isV := by
        apply List.ext_getElem?
        intro j
        rcases Nat.lt_or_ge j vs.length with hj | hj
        · have hz : (r.words.zip (vs.map some))[j]? = some (r.words[j]'(by omega), some vs[j]) := by
            rw [List.getElem?_zip_eq_some]
            exact ⟨List.getElem?_eq_getElem (by omega), by rw [List.getElem?_map, List.getElem?_eq_getElem hj]; rfl⟩
          rw [List.getElem?_map, hz, List.getElem?_map, List.getElem?_eq_getElem hj]; rfl
        · rw [List.getElem?_eq_none (by simp; omega), List.getElem?_eq_none (by simpa using hj)]
      have hzl : (r.words.zip (vs.map some)).length = r.words.length := by simp [hvl]
      have vone : ∀ x ∈ vs, x.cells = #[x] ∧ x.oneCell' = true := fun x hx => by
        obtain ⟨j, hj⟩ := List.getElem?_of_mem hx
        have hjl := (List.getElem?_eq_some_iff.1 hj).1
        obtain ⟨_, _, e, _⟩ := hvs j _ x (List.getElem?_eq_getElem (by omega)) hj
        rw [e]; exact ⟨rfl, rfl⟩
      have gv : OwnT (isRow 93 1 r.words.length (vs.map isV)) := bk (good_flat vone)
      have t3 : isRow 93 1 r.words.length (vs.map isV) wC (fun b => v3.ownBlock = some b) v3 := own_flat o3
      obtain ⟨b', c', X, eb, q8, _, _, _, _, hX, hE, ok1, ok2, ok3, F', C'⟩ := Cd.three (k := 8) (e' := 88) (z := 7) (n := L.length) (Qs := L.flatMap rgT2) rfl gL j1 j2 j3 (by omega) (by omega) (by omega) cA cB cC (own_new o1) (own_new o2) (own_new o3) (good_intsT _) (aS _) gv t1 t2 t3
      rw [hL, h8] at q8
      cases q8
      have hbl := ldC_lt hv4
      have cAC := (cA.trans cB).trans cC
      have hbC : hp wC b = hp w.drew b := cAC.block b hbl (by simp)
      have szC := cAC.size
      have s1 := (good_intsT _).one t1
      have s2 := (aS _).one t2
      have s3 := gv.one t3
      have hp1 : hp (put wC b (X.setIfInBounds (i * 7 + 4) v1) eb) b = some (.cells (X.setIfInBounds (i * 7 + 4) v1) eb) := ap (by omega) _ _
      have hp2 : hp (put wC b ((X.setIfInBounds (i * 7 + 4) v1).setIfInBounds (i * 7 + 6) v2) eb) b = some (.cells ((X.setIfInBounds (i * 7 + 4) v1).setIfInBounds (i * 7 + 6) v2) eb) := ap (by omega) _ _
      rw [st_22 (o := i * 7 + 4) s1.1 s1.2 (by rw [hbC]; exact ok1), hbC, hX, hE]
      rw [st_44 (o := i * 7 + 6) s2.1 s2.2 (by rw [hp1]; exact ok2), hp1, br, aD, put_put]
      rw [st_86 (o := i * 7 + 5) s3.1 s3.2 (by rw [hp2]; exact ok3), hp2, br, aD, put_put]
      have q1 := flatM_setP (f := rgT2) (z := 7) (fun _ => rfl) (k := 4) (p := intsT r.chunks) (by omega) (x := oldR r (.slice A r.chunks.length ca, .slice A' r.words.length ca', .slice A'' r.objs.length ca'')) (x' := ⟨r, none, .old (.slice A' r.words.length ca'), some (.slice A'' r.objs.length ca'')⟩) rfl hp'
      have hil := (List.getElem?_eq_some_iff.1 hp').1
      have q2 := flatM_setP (f := rgT2) (z := 7) (fun _ => rfl) (k := 6) (p := objsT r.objs) (by omega) (x := ⟨r, none, .old (.slice A' r.words.length ca'), some (.slice A'' r.objs.length ca'')⟩) (x' := ⟨r, none, .old (.slice A' r.words.length ca'), none⟩) rfl (show (L.set i ⟨r, none, .old (.slice A' r.words.length ca'), some (.slice A'' r.objs.length ca'')⟩)[i]? = some _ by rw [List.getElem?_set, if_pos rfl, if_pos hil])
      have q3 := flatM_setP (f := rgT2) (z := 7) (fun _ => rfl) (k := 5) (p := wsT r (.new (r.words.zip (vs.map some)))) (by omega) (x := ⟨r, none, .old (.slice A' r.words.length ca'), none⟩) (x' := ⟨r, none, .new (r.words.zip (vs.map some)), none⟩) rfl (show ((L.set i ⟨r, none, .old (.slice A' r.words.length ca'), some (.slice A'' r.objs.length ca'')⟩).set i ⟨r, none, .old (.slice A' r.words.length ca'), none⟩)[i]? = some _ by rw [List.getElem?_set, if_pos rfl, if_pos (by rw [List.length_set]; exact hil)])
      have ew : isRow 93 1 r.words.length (vs.map isV) = wsT r (.new (r.words.zip (vs.map some))) := by simp only [wsT, hzl, ev]
      rw [q1, q2, ew, q3, List.set_set, List.set_set] at C'
      have e2 : isRow 88 7 L.length ((L.set i ⟨r, none, .new (r.words.zip (vs.map some)), none⟩).flatMap rgT2) = rgsT2 (L.set i ⟨r, none, .new (r.words.zip (vs.map some)), none⟩) := by rw [rgsT2, List.length_set]
      rw [e2, mdT2_r] at C'
      have hG := mem_setG (k := i * 7 + 5) (mem_setG (k := i * 7 + 6) (mem_setG (k := i * 7 + 4) gL (good_intsT r.chunks)) (aS r.objs)) gv
      rw [q1, q2, ew, q3, List.set_set, List.set_set] at hG
      have hLs : (L.set i ⟨r, none, .new (r.words.zip (vs.map some)), none⟩)[i]? = some ⟨r, none, .new (r.words.zip (vs.map some)), none⟩ := by rw [List.getElem?_set, if_pos rfl, if_pos hil]
      have hLo : ∀ j, j ≠ i → (L.set i ⟨r, none, .new (r.words.zip (vs.map some)), none⟩)[j]? = L[j]? := fun j hj => by rw [List.getElem?_set, if_neg (fun h => hj h.symm)]
      have hLl : (L.set i ⟨r, none, .new (r.words.zip (vs.map some)), none⟩).length = m.rgs.length := by rw [List.length_set]; exact hL
      have again : ∀ (w : World) (F : Fp) (L2 : List RgS), CpI W w 74 g3 (mdT2 m sT (rgsT2 L2) hT) F → L2.length = m.rgs.length → L2[i]? = some (doneR r) → (∀ j, j ≠ i → L2[j]? = L[j]?) → P11_2 (.pointer (some ⟨g3, 0, none⟩)) (.int .i64 m.rgs.length) (.int .i64 ((i : Int) + 1)) w Q := by
        intro w F L2 C2 hl2 hd hO2
        have := l_copy2 Wm hK N t (i + 1) w F L2 (by omega) hl2 C2 fun j p hp => by
          by_cases hij : j = i
          · subst hij
            rw [hd] at hp; cases hp
            exact ⟨r, hm, fun _ => rfl, fun h => by omega⟩
          · rw [hO2 j hij] at hp
            obtain ⟨r', a, b, c⟩ := hl j p hp
            exact ⟨r', a, fun h => b (by omega), fun h => c (by omega)⟩
        rw [Int.natCast_add i 1] at this
        exact this
      have hp3 : ∀ Y, hp (put wC b Y eb) b = some (.cells Y eb) := fun Y => ap (by omega) _ _
      have h5f : ldC (hp (put wC b (((X.setIfInBounds (i * 7 + 4) v1).setIfInBounds (i * 7 + 6) v2).setIfInBounds (i * 7 + 5) v3) eb) b) (i * 7 + 5) = some v3 := by
        rw [okC_some, decide_eq_true_eq] at ok3
        rw [hp3, ldC_some, Array.getElem?_setIfInBounds_self_of_lt (by omega)]
      have h8f : ldC (hp (put wC b (((X.setIfInBounds (i * 7 + 4) v1).setIfInBounds (i * 7 + 6) v2).setIfInBounds (i * 7 + 5) v3) eb) g3) 8 = some (.slice (some ⟨b, 0, none⟩) m.rgs.length c) := by
        rw [ax hbg.symm]; exact aV cAC h8
      apply L11_3_ok
      rcases o3.2 with ⟨e3, h0⟩ | ⟨gw, cap, cur, e3, _⟩
      · have hw0 : r.words = [] := List.length_eq_zero_iff.1 h0
        rw [e3] at h5f ⊢
        rw [e3] at C'
        simp -implicitDefEqProofs only [L11_3, zS, fa_88_4, ld_86, h5f, len_86]
        apply L11_4_ok
        simp -implicitDefEqProofs only [L11_4, zS, aA, az (n := (i : Int) + 1) (by omega) (by omega), Int.lt_irrefl, show ¬ ((0 : Int) < ((0 : Nat) : Int)) by decide]
        refine again _ F' _ C' hLl ?_ hLo
        rw [hLs]
        simp only [doneR, hw0, List.zip_nil_left, List.map_nil]
      · rw [e3] at h5f h8f C' ⊢
        simp -implicitDefEqProofs only [L11_3, zS, fa_88_4, ld_86, h5f, len_86]
        refine l_copy4 (L0 := L) (by omega) (fun l hl => by have := hR.ww l hl; omega) (by omega) again r.words.length 0 _ F' _ _ (by omega) C' hLl hG hLs hzl hLo (fun j p hp => ?_) h8f h5f
        rw [List.getElem?_zip_eq_some] at hp
        rw [List.getElem?_map] at hp
        obtain ⟨a, b⟩ := hp
        obtain ⟨u, hu, e⟩ := Option.map_eq_some_iff.1 b
        exact ⟨a, fun h => absurd h (by omega), fun _ => ⟨u, e.symm, hvs j _ u a hu⟩⟩
    repeat'  (with_reducible apply And.intro)
    all_goals
      refine (c_clInts (R1.keep Cd.chg.below) (by simp [ints]) (fun x hx => by obtain ⟨k, y, rfl⟩ := ints_int _ x hx; rfl) (by omega)).mono ?_
      rintro v1 wA ⟨o1, cA⟩
      have a5 := aV cA (show ldC (hp w.drew b) (i * 7 + 5) = _ from hv5)
      have a6 := aV cA (show ldC (hp w.drew b) (i * 7 + 6) = _ from hv6)
      try simp -implicitDefEqProofs only [zS, ld_44, ld_86, a5, a6]
      refine (c_clHandles (R3.keep (Cd.chg.trans cA).below) (bf hnC_len r.objs) (fun x hx => by obtain ⟨k, y, rfl⟩ := hnC_int _ x hx; rfl) (by omega)).mono ?_
      rintro v2 wB ⟨o2, cB⟩
      have b5 := aV cB a5
      try simp -implicitDefEqProofs only [zS, ld_86, b5]
      refine (c_clWords (R2.keep ((Cd.chg.trans cA).trans cB).below) (by omega) (fun x hx => by
        obtain ⟨j, hj⟩ := List.getElem?_of_mem hx
        have hjl := (List.getElem?_eq_some_iff.1 hj).1
        obtain ⟨_, _, e, _⟩ := hvs j _ x (List.getElem?_eq_getElem (by omega)) hj
        rw [e]; rfl) (by omega)).mono ?_
      rintro v3 wC ⟨o3, cC⟩
      try simp -implicitDefEqProofs only [zS, fa_88_3, fa_88_4, fa_88_5]
      exact fin wA wB wC v1 v2 v3 cA cB cC o1 o2 o3
end
end Go.Proofs.YtgamnncehjcdiaaGreat

namespace Go.Proofs.YtgamnncehjcdiaaGreat
open Go Ev Go.RowKit

section
variable {w : World} {g : Nat} {m : MdV} {F : Fp}
theorem hd2_eq (L : List HdV) (us : List Value) : (L.zip (us.map some)).flatMap hdT2 = ((L.zip us).flatMap fun p => [Value.int .i64 p.1.depth, p.2]).map isV := by
  rw [List.zip_map_right, List.flatMap_map, List.map_flatMap]; rfl
theorem rg2_eq (L : List RgV) (us : List (Value × Value × Value)) : ((L.zip us).map fun p => oldR p.1 p.2).flatMap rgT2 = ((L.zip us).flatMap rgC2).map isV := by
  rw [List.flatMap_map, List.map_flatMap]; rfl
set_option maxHeartbeats 4000000 in
theorem c_mCopy {K : Nat} (I : MdI w g m F) (Wm : Wf m K) (hK : K ≤ 1000000) (hn : m.hands.length ≤ 1000000) :
    CallR Tryz.prog 11 [.pointer (some ⟨g, 0, none⟩)] w fun v w' => ∃ g3 F', v = .pointer (some ⟨g3, 0, none⟩) ∧ MdI w' g3 m F' ∧ (∀ k, F' k → w.heap.size ≤ k) ∧ Chg [] w w' := by
  apply F11_ok
  obtain ⟨sv, rv, hv, R⟩ := I.rd
  obtain ⟨sv', rv', hv', xs, h1, hxl, hx1, _, _, _, hfirst⟩ := cp_first I
  have hsl := Wm.sl
  have hrl := Wm.rl
  have W2 := Wm.w2
  have ldm : ldv Tryz.prog 74 (.pointer (some ⟨g, 0, none⟩)) w = some (.agg xs.toArray) := aG (t := 74) ag_74 (by rw [sz_74]; simp [hxl]) h1
  simp -implicitDefEqProofs only [F11, ay, ad, ldm, al_74]
  generalize hwa : w.alloc _ = wa
  have ca : Chg [] w wa := by rw [← hwa]; exact (Chg.refl _ _).alloc _
  obtain ⟨z, ha, hz⟩ : ∃ z : Array Value, hp wa w.heap.size = some (.cells z 74) ∧ z.size = 10 := by rw [← hwa, ac, if_pos rfl]; exact ⟨_, rfl, rfl⟩
  clear hwa
  rw [st_74 (by simp [hxl]) hx1 (by rw [ha, okC_some]; exact decide_eq_true (by omega)) (by rw [ha]; exact hz), ha, aD]
  have c1 : Chg [] w (put wa w.heap.size xs.toArray 74) := ca.put (.inr (Nat.le_refl _)) _ _
  have C0 := hfirst c1 (Nat.le_refl _) (ap (av ha) _ _)
  generalize put wa w.heap.size xs.toArray 74 = w1 at *
  generalize hg3 : w.heap.size = g3 at C0 ⊢
  have R1 := R.keep C0.chg
  simp -implicitDefEqProofs only [ay, ad, fa_74_2, ld_70, R1.sl]
  obtain ⟨Fs, tS⟩ := R1.sT
  obtain ⟨oS, _⟩ := flat_own tS
  obtain ⟨As, cS, rfl, rS, _, _⟩ := rdV_of_own oS
  refine (c_clSlot rS (bf (z := 2) (fun _ => rfl) m.slots) (fun x hx => by obtain ⟨k, y, rfl⟩ := nmC_int _ x hx; rfl) hsl).mono ?_
  rintro v2 w2 ⟨o2, c2⟩
  obtain ⟨ok2, a2, b2, F2, C2⟩ := C0.cell (k := 7) (P := isV sv') rfl (P' := slotsT m.slots) c2 (own_new o2) (good_slots _) (own_flat o2)
  simp -implicitDefEqProofs only [ay, ad, fa_74_2, fa_74_4]
  rw [st_70 (o := 0 + 7) a2 b2 ok2]
  rw [mdT2_s] at C2
  change CpI w (put w2 g3 ((getC (hp w2 g3)).setIfInBounds (0 + 7) v2) (getE (hp w2 g3))) _ _ _ _ at C2
  generalize put w2 g3 ((getC (hp w2 g3)).setIfInBounds (0 + 7) v2) (getE (hp w2 g3)) = w3 at *
  have R2 := R.keep C2.chg
  simp -implicitDefEqProofs only [ay, ad, fa_74_4, ld_72, R2.hl]
  obtain ⟨Fh, tH⟩ := R.hT
  obtain ⟨Ah, cH, us, rfl, hul, hus, rH⟩ := src_hands tH
  have hzl : ((m.hands.zip us).flatMap fun p => [Value.int .i64 p.1.depth, p.2]).length = m.hands.length * 2 := by
    rw [bf (z := 2) (fun p => rfl)]; simp [hul]
  refine (c_clHand (rH.keep C2.chg.below) hzl (fun x hx => ?_) hn).mono ?_
  · obtain ⟨p, hp, hx⟩ := List.mem_flatMap.1 hx
    simp only [List.mem_cons, List.not_mem_nil, or_false] at hx
    rcases hx with rfl | rfl
    · rfl
    · obtain ⟨i, hi⟩ := List.getElem?_of_mem hp
      rw [List.getElem?_zip_eq_some] at hi
      obtain ⟨A, c, e, _⟩ := hus i _ _ hi.1 hi.2
      rw [e]; rfl
  rintro v4 w4 ⟨o4, c4⟩
  have t4 : handsT2 (m.hands.zip (us.map some)) w4 (fun b => v4.ownBlock = some b) v4 := by
    have e := own_flat o4
    rw [← hd2_eq] at e
    have el : (m.hands.zip (us.map some)).length = m.hands.length := by simp [hul]
    unfold handsT2
    rw [el]; exact e
  have gh : OwnT (handsT2 (m.hands.zip (us.map some))) := bk (good_hd2 _ fun p hp u hu => by
    obtain ⟨i, hi⟩ := List.getElem?_of_mem hp
    rw [List.getElem?_zip_eq_some, List.getElem?_map] at hi
    obtain ⟨u', hu', e⟩ := Option.map_eq_some_iff.1 hi.2
    rw [hu] at e; cases e
    obtain ⟨A, c, e, _⟩ := hus i _ _ hi.1 hu'
    rw [e]; exact ⟨rfl, rfl⟩)
  obtain ⟨ok4, a4, b4, F4, C4⟩ := C2.cell (k := 9) (P := isV hv') rfl (P' := handsT2 (m.hands.zip (us.map some))) c4 (own_new o4) gh t4
  rw [st_72 (o := 0 + 9) a4 b4 ok4]
  rw [mdT2_h] at C4
  change CpI w (put w4 g3 ((getC (hp w4 g3)).setIfInBounds (0 + 9) v4) (getE (hp w4 g3))) _ _ _ _ at C4
  obtain ⟨v9, F9, _, _, l9, t9, _⟩ := isAt.repl C4.I C4.good (k := 9) (P := handsT2 (m.hands.zip (us.map some))) rfl
  obtain ⟨A9, c9, xs9, Fs9, e9, _⟩ := isRow.rd t9
  have el : (m.hands.zip (us.map some)).length = m.hands.length := by simp [hul]
  rw [el] at e9
  subst e9
  generalize put w4 g3 ((getC (hp w4 g3)).setIfInBounds (0 + 9) v4) (getE (hp w4 g3)) = w5 at *
  have l9' : ldC (hp w5 g3) (0 + 9) = some (.slice A9 m.hands.length c9) := l9
  simp -implicitDefEqProofs only [ay, ad, fa_74_4, ld_72, l9', len_72]
  refine l_copy0 Wm hK hn (fun w6 F6 C6 => ?_) m.hands.length 0 w5 F4 (m.hands.zip (us.map some)) (by omega) el C4 (fun j p hp => ?_)
  case refine_2 =>
    rw [List.getElem?_zip_eq_some, List.getElem?_map] at hp
    obtain ⟨u', hu', e⟩ := Option.map_eq_some_iff.1 hp.2
    exact ⟨hp.1, fun h => absurd h (by omega), fun _ => ⟨u', e.symm, hus j _ _ hp.1 hu'⟩⟩
  apply L11_0_ok
  have R6 := R.keep C6.chg
  simp -implicitDefEqProofs only [L11_0, zS, Int.lt_irrefl, fa_74_3, ld_71, R6.rl]
  obtain ⟨Fr, tR⟩ := R.rT
  obtain ⟨Ar, cR, ur, rfl, hrl2, hur, rR⟩ := src_rgs tR
  have hzr : ((m.rgs.zip ur).flatMap rgC2).length = m.rgs.length * 7 := by
    rw [bf (z := 7) (fun p => rfl)]; simp [hrl2]
  refine (c_clRegion (rR.keep C6.chg.below) hzr (fun x hx => ?_) (by omega)).mono ?_
  · obtain ⟨p, hp, hx⟩ := List.mem_flatMap.1 hx
    obtain ⟨i, hi⟩ := List.getElem?_of_mem hp
    rw [List.getElem?_zip_eq_some] at hi
    obtain ⟨⟨A, c, e1, _⟩, ⟨A', c', vs, e2, _⟩, ⟨A'', c'', e3, _⟩⟩ := hur i _ _ hi.1 hi.2
    simp only [rgC2, List.mem_cons, List.not_mem_nil, or_false] at hx
    rcases hx with rfl | rfl | rfl | rfl | rfl | rfl | rfl
    · rfl
    · rfl
    · rfl
    · rfl
    · rw [e1]; rfl
    · rw [e2]; rfl
    · rw [e3]; rfl
  rintro v7 w7 ⟨o7, c7⟩
  have hl7 : ((m.rgs.zip ur).map fun p => oldR p.1 p.2).length = m.rgs.length := by simp [hrl2]
  have t7 : rgsT2 ((m.rgs.zip ur).map fun p => oldR p.1 p.2) w7 (fun b => v7.ownBlock = some b) v7 := by
    have e := own_flat o7
    rw [← rg2_eq] at e
    unfold rgsT2
    rw [hl7]; exact e
  have hsrc : ∀ (j : Nat) (p : RgS), ((m.rgs.zip ur).map fun p => oldR p.1 p.2)[j]? = some p → ∃ r u, m.rgs[j]? = some r ∧ p = oldR r u ∧ SrcR w r u := fun j p hp => by
    rw [List.getElem?_map] at hp
    obtain ⟨q, hq, rfl⟩ := Option.map_eq_some_iff.1 hp
    rw [List.getElem?_zip_eq_some] at hq
    exact ⟨q.1, q.2, hq.1, rfl, hur j _ _ hq.1 hq.2⟩
  have gr : OwnT (rgsT2 ((m.rgs.zip ur).map fun p => oldR p.1 p.2)) := bk (good_rg2 (W := w) _ fun p hp => by
    obtain ⟨i, hi⟩ := List.getElem?_of_mem hp
    obtain ⟨r, u, _, e, s⟩ := hsrc i p hi
    exact .inr ⟨r, u, e, s⟩)
  obtain ⟨ok7, a7, b7, F7, C7⟩ := C6.cell (k := 8) (P := isV rv') rfl (P' := rgsT2 ((m.rgs.zip ur).map fun p => oldR p.1 p.2)) c7 (own_new o7) gr t7
  rw [st_71 (o := 0 + 8) a7 b7 ok7]
  rw [mdT2_r] at C7
  change CpI w (put w7 g3 ((getC (hp w7 g3)).setIfInBounds (0 + 8) v7) (getE (hp w7 g3))) _ _ _ _ at C7
  obtain ⟨v8, F8, _, _, l8, t8, _⟩ := isAt.repl C7.I C7.good (k := 8) (P := rgsT2 ((m.rgs.zip ur).map fun p => oldR p.1 p.2)) rfl
  obtain ⟨A8, c8, xs8, Fs8, e8, _⟩ := isRow.rd t8
  rw [hl7] at e8
  subst e8
  generalize put w7 g3 ((getC (hp w7 g3)).setIfInBounds (0 + 8) v7) (getE (hp w7 g3)) = w8 at *
  have l8' : ldC (hp w8 g3) (0 + 8) = some (.slice A8 m.rgs.length c8) := l8
  simp -implicitDefEqProofs only [ay, ad, fa_74_3, ld_71, l8', len_71]
  refine l_copy2 Wm hK (fun w9 F9 C9 => ⟨g3, F9, rfl, (mdT2_full m ▸ C9.I : isAt 74 g3 (mdT m) w9 F9), fun k hk => hg3 ▸ C9.new k hk, C9.chg⟩) m.rgs.length 0 w8 F7 _ (by omega) hl7 C7 (fun j p hp => ?_)
  obtain ⟨r, u, e1, e2, e3⟩ := hsrc j p hp
  exact ⟨r, e1, fun h => absurd h (by omega), fun _ => ⟨u, e2, e3⟩⟩
end
end Go.Proofs.YtgamnncehjcdiaaGreat

namespace Go.Proofs.YtgamnncehjcdiaaGreat
open Go Ev
noncomputable def C12 : Code := (Tryz.f12.body).getD .skip
noncomputable def H12 : Hints := ⟨[(4, [0, 1, 58, 59, 60]), (10, [0, 1, 95, 96])], [], [(1, (.leaf [0, 1, 2, 3, 4, 5, 6, 7, 8, 9, 10, 11, 12, 13, 14, 15, 16, 17, 18, 19, 20, 21, 22, 23, 24, 25, 26, 27, 28, 29, 30, 31, 32, 33, 34, 35, 36, 37, 38, 39, 40, 41, 42, 43, 44])), (6, (.leaf [0, 1, 2, 3, 4, 5, 6, 7, 8, 9, 10, 11, 12, 13, 14, 15, 16, 17, 18, 19, 20, 21, 22, 23, 24]))]⟩
noncomputable def T12_0 : List It := [.lp (nav [1, 1, 0, 1, 4, 5] C12), .blk 0, .jn (nav [1, 1, 1] C12)]
noncomputable def T12_1 : List It := [.lp (nav [1, 1, 1, 0, 1, 4, 5] C12), .blk 2, .jn (nav [1, 1, 1, 1] C12)]
def P12_0 (x0 x1 x58 x59 x60 : Value) (w : World) (Q : Value → World → Prop) : Prop := Part Tryz.prog 12 T12_0 [0, 1, 58, 59, 60] [x0, x1, x58, x59, x60] w Q
def P12_1 (x0 x1 x95 x96 : Value) (w : World) (Q : Value → World → Prop) : Prop := Part Tryz.prog 12 T12_1 [0, 1, 95, 96] [x0, x1, x95, x96] w Q
def F12 (a0 a1 : Value) (w : World) (Q : Value → World → Prop) : Prop :=
  wpB (nilv a0) fun t11 =>
  wpB (pureRun Tryz.prog (Instr.fieldAt 74 t11 0)) fun t12 =>
  wpB (ldv Tryz.prog 33 t12 w.drew) fun t13 =>
  wpB (nilv a1) fun t15 =>
  wpB (pureRun Tryz.prog (Instr.fieldAt 74 t15 0)) fun t16 =>
  wpB (ldv Tryz.prog 33 t16 w.drew) fun t17 =>
  wpB (be Tryz.prog .neq 33 (.tmp 13) (.tmp 17) t13 t17) fun t18 =>
  wpB (gd t18 false (nilv (gv t18 false a0))) fun t21 =>
  wpB (gd t18 false (pureRun Tryz.prog (Instr.fieldAt 74 t21 1))) fun t22 =>
  wpB (gd t18 false (ldv Tryz.prog 4 t22 w.drew)) fun t23 =>
  wpB (gd t18 false (nilv (gv t18 false a1))) fun t25 =>
  wpB (gd t18 false (pureRun Tryz.prog (Instr.fieldAt 74 t25 1))) fun t26 =>
  wpB (gd t18 false (ldv Tryz.prog 4 t26 w.drew)) fun t27 =>
  wpB (gd t18 false (be Tryz.prog .neq 4 (.tmp 23) (.tmp 27) t23 t27)) fun t28 =>
  wpB (pickv t18 (some (.bool true)) (some t28)) fun t29 =>
  wpB (gd t29 false (nilv (gv t29 false a0))) fun t32 =>
  wpB (gd t29 false (pureRun Tryz.prog (Instr.fieldAt 74 t32 2))) fun t33 =>
  wpB (gd t29 false (ldv Tryz.prog 70 t33 w.drew)) fun t34 =>
  wpB (gd t29 false (nilv (gv t29 false a1))) fun t36 =>
  wpB (gd t29 false (pureRun Tryz.prog (Instr.fieldAt 74 t36 2))) fun t37 =>
  wpB (gd t29 false (ldv Tryz.prog 70 t37 w.drew)) fun t38 =>
  gE t29 false (CallR Tryz.prog 42 [t34, t38] w.drew) (fun t39 w =>
  wpB (gd t29 false (pureRun Tryz.prog (Op.unary .not t39))) fun t40 =>
  wpB (pickv t29 (some (.bool true)) (some t40)) fun t41 =>
  wpB (gd t41 false (nilv (gv t41 false a0))) fun t44 =>
  wpB (gd t41 false (pureRun Tryz.prog (Instr.fieldAt 74 t44 3))) fun t45 =>
  wpB (gd t41 false (ldv Tryz.prog 71 t45 w)) fun t46 =>
  wpB (gd t41 false (pureRun Tryz.prog (Builtin.len_ #[71] 3 #[t46]))) fun t47 =>
  wpB (gd t41 false (nilv (gv t41 false a1))) fun t49 =>
  wpB (gd t41 false (pureRun Tryz.prog (Instr.fieldAt 74 t49 3))) fun t50 =>
  wpB (gd t41 false (ldv Tryz.prog 71 t50 w)) fun t51 =>
  wpB (gd t41 false (pureRun Tryz.prog (Builtin.len_ #[71] 3 #[t51]))) fun t52 =>
  wpB (gd t41 false (be Tryz.prog .neq 3 (.tmp 47) (.tmp 52) t47 t52)) fun t53 =>
  wpB (pickv t41 (some (.bool true)) (some t53)) fun t54 =>
  cnd t54
  (Q (.bool false) w)
  (wpB (nilv a0) fun t56 =>
  wpB (pureRun Tryz.prog (Instr.fieldAt 74 t56 4)) fun t57 =>
  wpB (ldv Tryz.prog 72 t57 w) fun t58 =>
  wpB (pureRun Tryz.prog (Builtin.len_ #[72] 3 #[t58])) fun t59 =>
  P12_0 a0 a1 t58 t59 (.int .i64 0) w Q)) w.drew
def L12_0 (x0 x1 x58 x59 x60 : Value) (w : World) (Q : Value → World → Prop) : Prop :=
  wpB (bp Tryz.prog .lss 3 x60 x59) fun t61 =>
  cnd t61
  (wpB (pureRun Tryz.prog (Instr.indexAt 72 x58 x60)) fun t63 =>
  wpB (ldv Tryz.prog 81 t63 w) fun t64 =>
  effv Tryz.prog (Instr.alloc 81 true (.tuple #[])) w fun t6 w =>
  effu Tryz.prog (Instr.storeAt 81 t6 t64) w fun w =>
  wpB (pureRun Tryz.prog (Instr.fieldAt 81 t6 0)) fun t65 =>
  wpB (ldv Tryz.prog 3 t65 w.drew) fun t66 =>
  wpB (nilv x1) fun t68 =>
  wpB (pureRun Tryz.prog (Instr.fieldAt 74 t68 4)) fun t69 =>
  wpB (ldv Tryz.prog 72 t69 w.drew) fun t70 =>
  wpB (pureRun Tryz.prog (Instr.indexAt 72 t70 x60)) fun t72 =>
  wpB (pureRun Tryz.prog (Instr.fieldAt 81 t72 0)) fun t73 =>
  wpB (ldv Tryz.prog 3 t73 w.drew) fun t74 =>
  wpB (be Tryz.prog .neq 3 (.tmp 66) (.tmp 74) t66 t74) fun t75 =>
  wpB (gd t75 false (pureRun Tryz.prog (Instr.fieldAt 81 t6 1))) fun t77 =>
  wpB (gd t75 false (ldv Tryz.prog 79 t77 w.drew)) fun t78 =>
  wpB (gd t75 false (nilv (gv t75 false x1))) fun t80 =>
  wpB (gd t75 false (pureRun Tryz.prog (Instr.fieldAt 74 t80 4))) fun t81 =>
  wpB (gd t75 false (ldv Tryz.prog 72 t81 w.drew)) fun t82 =>
  wpB (gd t75 false (pureRun Tryz.prog (Instr.indexAt 72 t82 (gv t75 false x60)))) fun t84 =>
  wpB (gd t75 false (pureRun Tryz.prog (Instr.fieldAt 81 t84 1))) fun t85 =>
  wpB (gd t75 false (ldv Tryz.prog 79 t85 w.drew)) fun t86 =>
  gE t75 false (CallR Tryz.prog 43 [t78, t86] w.drew) (fun t87 w =>
  wpB (gd t75 false (pureRun Tryz.prog (Op.unary .not t87))) fun t88 =>
  wpB (pickv t75 (some (.bool true)) (some t88)) fun t89 =>
  cnd t89
  (Q (.bool false) w)
  (wpB (bp Tryz.prog .add 3 x60 (.int .i64 1)) fun t90 =>
  P12_0 x0 x1 x58 x59 t90 w Q)) w.drew)
  (wpB (nilv x0) fun t92 =>
  wpB (pureRun Tryz.prog (Instr.fieldAt 74 t92 3)) fun t93 =>
  wpB (ldv Tryz.prog 71 t93 w) fun t94 =>
  wpB (pureRun Tryz.prog (Builtin.len_ #[71] 3 #[t94])) fun t95 =>
  P12_1 x0 x1 t95 (.int .i64 0) w Q)
def L12_1 (x0 x1 x95 x96 : Value) (w : World) (Q : Value → World → Prop) : Prop :=
  wpB (bp Tryz.prog .lss 3 x96 x95) fun t97 =>
  cnd t97
  (wpB (nilv x0) fun t100 =>
  wpB (pureRun Tryz.prog (Instr.fieldAt 74 t100 3)) fun t101 =>
  wpB (ldv Tryz.prog 71 t101 w) fun t102 =>
  wpB (pureRun Tryz.prog (Instr.indexAt 71 t102 x96)) fun t104 =>
  wpB (nilv t104) fun t107 =>
  wpB (pureRun Tryz.prog (Instr.fieldAt 88 t107 0)) fun t108 =>
  wpB (ldv Tryz.prog 84 t108 w) fun t109 =>
  CallR Tryz.prog 44 [x1, t109] w fun t110 w =>
  wpB (be Tryz.prog .eql 89 (.tmp 111) (.const (.pointer none)) t110 (.pointer none)) fun t112 =>
  wpB (gd t112 false (nilv (gv t112 false t104))) fun t118 =>
  wpB (gd t112 false (pureRun Tryz.prog (Instr.fieldAt 88 t118 0))) fun t119 =>
  wpB (gd t112 false (ldv Tryz.prog 84 t119 w)) fun t120 =>
  gE t112 false (CallR Tryz.prog 46 [(gv t112 false x0), t120] w) (fun t121 w =>
  gE t112 false (CallR Tryz.prog 45 [(gv t112 false t104), (gv t112 false t110), t121] w) (fun t122 w =>
  wpB (gd t112 false (pureRun Tryz.prog (Op.unary .not t122))) fun t123 =>
  wpB (pickv t112 (some (.bool true)) (some t123)) fun t124 =>
  cnd t124
  (Q (.bool false) w)
  (wpB (bp Tryz.prog .add 3 x96 (.int .i64 1)) fun t125 =>
  P12_1 x0 x1 x95 t125 w Q)) w) w)
  (Q (.bool true) w)
theorem F12_ok {a0 a1 : Value} {w : World} {Q : Value → World → Prop} (h : F12 a0 a1 w Q) : CallR Tryz.prog 12 [a0, a1] w Q :=
  ah mixed ag Tryz.func12 (c := C12) rfl H12 (Nat.le_of_ble_eq_true rfl) (by kernel_rfl) h
theorem L12_0_ok {x0 x1 x58 x59 x60 : Value} {w : World} {Q : Value → World → Prop} (h : L12_0 x0 x1 x58 x59 x60 w Q) : P12_0 x0 x1 x58 x59 x60 w Q :=
  aQ mixed ag Tryz.func12 H12 (by kernel_rfl) h
theorem L12_1_ok {x0 x1 x95 x96 : Value} {w : World} {Q : Value → World → Prop} (h : L12_1 x0 x1 x95 x96 w Q) : P12_1 x0 x1 x95 x96 w Q :=
  aQ mixed ag Tryz.func12 H12 (by kernel_rfl) h

noncomputable def C42 : Code := (Tryz.f42.body).getD .skip
noncomputable def H42 : Hints := ⟨[(4, [0, 1, 12, 13])], [], [(6, (.leaf [0, 1, 2, 3, 4, 5, 6, 7, 8]))]⟩
noncomputable def T42_0 : List It := [.lp (nav [1, 1, 0, 1, 4, 5] C42), .blk 0, .jn (nav [1, 1, 1] C42)]
def P42_0 (x0 x1 x12 x13 : Value) (w : World) (Q : Value → World → Prop) : Prop := Part Tryz.prog 42 T42_0 [0, 1, 12, 13] [x0, x1, x12, x13] w Q
def F42 (a0 a1 : Value) (w : World) (Q : Value → World → Prop) : Prop :=
  wpB (pureRun Tryz.prog (Builtin.len_ #[70] 3 #[a0])) fun t7 =>
  wpB (pureRun Tryz.prog (Builtin.len_ #[70] 3 #[a1])) fun t9 =>
  wpB (be Tryz.prog .neq 3 (.tmp 7) (.tmp 9) t7 t9) fun t10 =>
  cnd t10
  (Q (.bool false) w)
  (wpB (pureRun Tryz.prog (Builtin.len_ #[70] 3 #[a0])) fun t12 =>
  P42_0 a0 a1 t12 (.int .i64 0) w Q)
def L42_0 (x0 x1 x12 x13 : Value) (w : World) (Q : Value → World → Prop) : Prop :=
  wpB (bp Tryz.prog .lss 3 x13 x12) fun t14 =>
  cnd t14
  (wpB (pureRun Tryz.prog (Instr.indexAt 70 x0 x13)) fun t18 =>
  wpB (ldv Tryz.prog 77 t18 w.drew) fun t19 =>
  wpB (pureRun Tryz.prog (Instr.indexAt 70 x1 x13)) fun t22 =>
  wpB (ldv Tryz.prog 77 t22 w.drew) fun t23 =>
  wpB (be Tryz.prog .neq 77 (.tmp 19) (.tmp 23) t19 t23) fun t24 =>
  cnd t24
  (Q (.bool false) w.drew)
  (wpB (bp Tryz.prog .add 3 x13 (.int .i64 1)) fun t25 =>
  P42_0 x0 x1 x12 t25 w.drew Q))
  (Q (.bool true) w)
theorem F42_ok {a0 a1 : Value} {w : World} {Q : Value → World → Prop} (h : F42 a0 a1 w Q) : CallR Tryz.prog 42 [a0, a1] w Q :=
  ah mixed ag Tryz.func42 (c := C42) rfl H42 (Nat.le_of_ble_eq_true rfl) (by kernel_rfl) h
theorem L42_0_ok {x0 x1 x12 x13 : Value} {w : World} {Q : Value → World → Prop} (h : L42_0 x0 x1 x12 x13 w Q) : P42_0 x0 x1 x12 x13 w Q :=
  aQ mixed ag Tryz.func42 H42 (by kernel_rfl) h

noncomputable def C43 : Code := (Tryz.f43.body).getD .skip
noncomputable def H43 : Hints := ⟨[], [], []⟩
def F43 (a0 a1 : Value) (w : World) (Q : Value → World → Prop) : Prop :=
  wpB (pureRun Tryz.prog (Builtin.len_ #[79] 3 #[a0])) fun t7 =>
  wpB (pureRun Tryz.prog (Builtin.len_ #[79] 3 #[a1])) fun t9 =>
  wpB (be Tryz.prog .eql 3 (.tmp 7) (.tmp 9) t7 t9) fun t10 =>
  evG Tryz.prog (callK (entR 3 113) (some (gv t10 true (.func (.func 67) #[] #[]))) (some [(gv t10 true a1)])) t10 true w fun t15 w =>
  gE t10 true (CallR Tryz.prog 69 [(gv t10 true a0), t15] w) (fun t16 w =>
  wpB (gd t10 true (pureRun Tryz.prog (Op.unary .not t16))) fun t17 =>
  wpB (pickv t10 (some t17) (some (.bool false))) fun t18 =>
  evG Tryz.prog (callK (entR 3 113) (some (gv t18 true (.func (.func 67) #[] #[]))) (some [(gv t18 true a0)])) t18 true w fun t23 w =>
  gE t18 true (CallR Tryz.prog 69 [(gv t18 true a1), t23] w) (fun t24 w =>
  wpB (gd t18 true (pureRun Tryz.prog (Op.unary .not t24))) fun t25 =>
  wpB (pickv t18 (some t25) (some (.bool false))) fun t26 =>
  Q t26 w) w) w
theorem F43_ok {a0 a1 : Value} {w : World} {Q : Value → World → Prop} (h : F43 a0 a1 w Q) : CallR Tryz.prog 43 [a0, a1] w Q :=
  ah mixed ag Tryz.func43 (c := C43) rfl H43 (Nat.le_of_ble_eq_true rfl) (by kernel_rfl) h

noncomputable def C45 : Code := (Tryz.f45.body).getD .skip
noncomputable def H45 : Hints := ⟨[(4, [0, 1, 78, 79, 80])], [(7, [0, 1, 78, 79, 80, 91])], [(1, (.leaf [0, 1, 2, 3, 4, 5, 6, 7, 8, 9, 10, 11, 12, 13, 14, 15, 16, 17, 18, 19, 20, 21, 22, 23, 24, 25, 26, 27, 28, 29, 30, 31, 32, 33, 34, 35, 36, 37, 38, 39, 40, 41, 42, 43, 44, 45, 46, 47, 48, 49, 50, 51, 52, 53, 54, 55, 56, 57, 58, 59, 60, 61, 62, 63, 64, 65])), (6, (.ask 4 2 (.leaf [0, 3, 1, 4, 2, 5, 6, 7]) (.leaf [0, 1, 2, 3, 4, 5, 6, 7])))]⟩
noncomputable def T45_0 : List It := [.lp (nav [1, 1, 0, 1, 4, 5] C45), .blk 0, .jn (nav [1, 1, 1] C45)]
noncomputable def T45_1 : List It := [.jn (nav [1, 1, 0, 1, 4, 5, 1, 1, 0, 4, 1, 1] C45), .blk 1, .jn (nav [1, 1, 0, 1, 4, 5, 1, 1, 1] C45), .lp (nav [1, 1, 0, 1, 4, 5] C45), .blk 0, .jn (nav [1, 1, 1] C45)]
def P45_0 (x0 x1 x78 x79 x80 : Value) (w : World) (Q : Value → World → Prop) : Prop := Part Tryz.prog 45 T45_0 [0, 1, 78, 79, 80] [x0, x1, x78, x79, x80] w Q
def P45_1 (x0 x1 x78 x79 x80 x91 : Value) (w : World) (Q : Value → World → Prop) : Prop := Part Tryz.prog 45 T45_1 [0, 1, 78, 79, 80, 91] [x0, x1, x78, x79, x80, x91] w Q
def F45 (a0 a1 a2 : Value) (w : World) (Q : Value → World → Prop) : Prop :=
  wpB (gd a2 true (nilv (gv a2 true a0))) fun t12 =>
  wpB (gd a2 true (pureRun Tryz.prog (Instr.fieldAt 88 t12 1))) fun t13 =>
  wpB (gd a2 true (ldv Tryz.prog 3 t13 w.drew)) fun t14 =>
  wpB (gd a2 true (nilv (gv a2 true a1))) fun t16 =>
  wpB (gd a2 true (pureRun Tryz.prog (Instr.fieldAt 88 t16 1))) fun t17 =>
  wpB (gd a2 true (ldv Tryz.prog 3 t17 w.drew)) fun t18 =>
  wpB (gd a2 true (be Tryz.prog .neq 3 (.tmp 14) (.tmp 18) t14 t18)) fun t19 =>
  wpB (gd (gv a2 true t19) false (nilv (gv (gv a2 true t19) false a0))) fun t22 =>
  wpB (gd (gv a2 true t19) false (pureRun Tryz.prog (Instr.fieldAt 88 t22 2))) fun t23 =>
  wpB (gd (gv a2 true t19) false (ldv Tryz.prog 3 t23 w.drew)) fun t24 =>
  wpB (gd (gv a2 true t19) false (nilv (gv (gv a2 true t19) false a1))) fun t26 =>
  wpB (gd (gv a2 true t19) false (pureRun Tryz.prog (Instr.fieldAt 88 t26 2))) fun t27 =>
  wpB (gd (gv a2 true t19) false (ldv Tryz.prog 3 t27 w.drew)) fun t28 =>
  wpB (gd (gv a2 true t19) false (be Tryz.prog .neq 3 (.tmp 24) (.tmp 28) t24 t28)) fun t29 =>
  wpB (gd a2 true (pickv (gv a2 true t19) (some (.bool true)) (some t29))) fun t30 =>
  gE (gv a2 true t30) false (CallR Tryz.prog 64 [(gv (gv a2 true t30) false a0)] w.drew) (fun t33 w =>
  gE (gv a2 true t30) false (CallR Tryz.prog 64 [(gv (gv a2 true t30) false a1)] w) (fun t35 w =>
  wpB (gd (gv a2 true t30) false (be Tryz.prog .neq 3 (.tmp 33) (.tmp 35) t33 t35)) fun t36 =>
  wpB (gd a2 true (pickv (gv a2 true t30) (some (.bool true)) (some t36))) fun t37 =>
  wpB (gd (gv a2 true t37) false (nilv (gv (gv a2 true t37) false a0))) fun t40 =>
  wpB (gd (gv a2 true t37) false (pureRun Tryz.prog (Instr.fieldAt 88 t40 3))) fun t41 =>
  wpB (gd (gv a2 true t37) false (ldv Tryz.prog 22 t41 w)) fun t42 =>
  wpB (gd (gv a2 true t37) false (nilv (gv (gv a2 true t37) false a1))) fun t44 =>
  wpB (gd (gv a2 true t37) false (pureRun Tryz.prog (Instr.fieldAt 88 t44 3))) fun t45 =>
  wpB (gd (gv a2 true t37) false (ldv Tryz.prog 22 t45 w)) fun t46 =>
  gE (gv a2 true t37) false (CallR Tryz.prog 70 [t42, t46] w) (fun t47 w =>
  wpB (gd (gv a2 true t37) false (pureRun Tryz.prog (Op.unary .not t47))) fun t48 =>
  wpB (gd a2 true (pickv (gv a2 true t37) (some (.bool true)) (some t48))) fun t49 =>
  wpB (gd (gv a2 true t49) false (nilv (gv (gv a2 true t49) false a0))) fun t52 =>
  wpB (gd (gv a2 true t49) false (pureRun Tryz.prog (Instr.fieldAt 88 t52 5))) fun t53 =>
  wpB (gd (gv a2 true t49) false (ldv Tryz.prog 44 t53 w)) fun t54 =>
  wpB (gd (gv a2 true t49) false (nilv (gv (gv a2 true t49) false a1))) fun t56 =>
  wpB (gd (gv a2 true t49) false (pureRun Tryz.prog (Instr.fieldAt 88 t56 5))) fun t57 =>
  wpB (gd (gv a2 true t49) false (ldv Tryz.prog 44 t57 w)) fun t58 =>
  gE (gv a2 true t49) false (CallR Tryz.prog 71 [t54, t58] w) (fun t59 w =>
  wpB (gd (gv a2 true t49) false (pureRun Tryz.prog (Op.unary .not t59))) fun t60 =>
  wpB (gd a2 true (pickv (gv a2 true t49) (some (.bool true)) (some t60))) fun t61 =>
  wpB (pickv a2 (some t61) (some (.bool false))) fun t62 =>
  wpB (gd t62 false (nilv (gv t62 false a0))) fun t65 =>
  wpB (gd t62 false (pureRun Tryz.prog (Instr.fieldAt 88 t65 5))) fun t66 =>
  wpB (gd t62 false (ldv Tryz.prog 44 t66 w)) fun t67 =>
  wpB (gd t62 false (nilv (gv t62 false a1))) fun t69 =>
  wpB (gd t62 false (pureRun Tryz.prog (Instr.fieldAt 88 t69 5))) fun t70 =>
  wpB (gd t62 false (ldv Tryz.prog 44 t70 w)) fun t71 =>
  gE t62 false (CallR Tryz.prog 72 [t67, t71] w) (fun t72 w =>
  wpB (gd t62 false (pureRun Tryz.prog (Op.unary .not t72))) fun t73 =>
  wpB (pickv t62 (some (.bool true)) (some t73)) fun t74 =>
  cnd t74
  (Q (.bool false) w)
  (wpB (nilv a0) fun t76 =>
  wpB (pureRun Tryz.prog (Instr.fieldAt 88 t76 5)) fun t77 =>
  wpB (ldv Tryz.prog 44 t77 w) fun t78 =>
  wpB (pureRun Tryz.prog (Builtin.len_ #[44] 3 #[t78])) fun t79 =>
  P45_0 a0 a1 t78 t79 (.int .i64 0) w Q)) w) w) w) w) w.drew
def L45_0 (x0 x1 x78 x79 x80 : Value) (w : World) (Q : Value → World → Prop) : Prop :=
  wpB (bp Tryz.prog .lss 3 x80 x79) fun t81 =>
  cnd t81
  (wpB (pureRun Tryz.prog (Instr.indexAt 44 x78 x80)) fun t82 =>
  wpB (ldv Tryz.prog 25 t82 w) fun t83 =>
  effv Tryz.prog (Instr.alloc 25 true (.tuple #[])) w fun t8 w =>
  effu Tryz.prog (Instr.storeAt 25 t8 t83) w fun w =>
  (wpB (ldv Tryz.prog 25 t8 w.drew) fun t85 =>
  wpB (ldv Tryz.prog 25 t8 w.drew) fun t88 =>
  CallR Tryz.prog 74 [x0, t85] w.drew fun t86 w =>
  CallR Tryz.prog 74 [x1, t88] w fun t89 w =>
  CallR Tryz.prog 73 [t86, t89] w fun t90 w =>
  wpB (pureRun Tryz.prog (Op.unary .not t90)) fun t91 =>
  P45_1 x0 x1 x78 x79 x80 t91 w Q) ∧
  (wpB (ldv Tryz.prog 25 t8 w.drew) fun t85_1 =>
  CallR Tryz.prog 74 [x0, t85_1] w.drew fun t86_1 w =>
  wpB (ldv Tryz.prog 25 t8 w) fun t88_1 =>
  CallR Tryz.prog 74 [x1, t88_1] w fun t89_1 w =>
  CallR Tryz.prog 73 [t86_1, t89_1] w fun t90_1 w =>
  wpB (pureRun Tryz.prog (Op.unary .not t90_1)) fun t91_1 =>
  P45_1 x0 x1 x78 x79 x80 t91_1 w Q))
  (Q (.bool true) w)
def L45_1 (x0 x1 x78 x79 x80 x91 : Value) (w : World) (Q : Value → World → Prop) : Prop :=
  cnd x91
  (Q (.bool false) w)
  (wpB (bp Tryz.prog .add 3 x80 (.int .i64 1)) fun t92 =>
  P45_0 x0 x1 x78 x79 t92 w Q)
theorem F45_ok {a0 a1 a2 : Value} {w : World} {Q : Value → World → Prop} (h : F45 a0 a1 a2 w Q) : CallR Tryz.prog 45 [a0, a1, a2] w Q :=
  ah mixed ag Tryz.func45 (c := C45) rfl H45 (Nat.le_of_ble_eq_true rfl) (by kernel_rfl) h
theorem L45_0_ok {x0 x1 x78 x79 x80 : Value} {w : World} {Q : Value → World → Prop} (h : L45_0 x0 x1 x78 x79 x80 w Q) : P45_0 x0 x1 x78 x79 x80 w Q :=
  aQ mixed ag Tryz.func45 H45 (by kernel_rfl) h
theorem L45_1_ok {x0 x1 x78 x79 x80 x91 : Value} {w : World} {Q : Value → World → Prop} (h : L45_1 x0 x1 x78 x79 x80 x91 w Q) : P45_1 x0 x1 x78 x79 x80 x91 w Q :=
  ar mixed ag Tryz.func45 H45 (by kernel_rfl) h

noncomputable def C67 : Code := (Tryz.f67.body).getD .skip
noncomputable def H67 : Hints := ⟨[], [], []⟩
def F67 (a0 : Value) (w : World) (Q : Value → World → Prop) : Prop :=
  effv Tryz.prog (Instr.box 79 a0) w fun t1 w =>
  Q (.func (.func 68) #[] #[t1]) w
theorem F67_ok {a0 : Value} {w : World} {Q : Value → World → Prop} (h : F67 a0 w Q) : CallR Tryz.prog 67 [a0] w Q :=
  ah mixed ag Tryz.func67 (c := C67) rfl H67 (Nat.le_of_ble_eq_true rfl) (by kernel_rfl) h

noncomputable def C68 : Code := (Tryz.f68.body).getD .skip
noncomputable def H68 : Hints := ⟨[], [], []⟩
def F68 (a0 a1 : Value) (w : World) (Q : Value → World → Prop) : Prop :=
  effv Tryz.prog (Instr.box 84 a0) w fun t2 w =>
  wpB (ldv Tryz.prog 79 a1 w) fun t4 =>
  wpB (ldv Tryz.prog 84 t2 w) fun t5 =>
  CallR Tryz.prog 61 [t4, t5] w fun t6 w =>
  wpB (pureRun Tryz.prog (Op.unary .not t6)) fun t7 =>
  Q t7 w
theorem F68_ok {a0 a1 : Value} {w : World} {Q : Value → World → Prop} (h : F68 a0 a1 w Q) : CallR Tryz.prog 68 [a0, a1] w Q :=
  ah mixed ag Tryz.func68 (c := C68) rfl H68 (Nat.le_of_ble_eq_true rfl) (by kernel_rfl) h

noncomputable def C69 : Code := (Tryz.f69.body).getD .skip
noncomputable def H69 : Hints := ⟨[], [], []⟩
def F69 (a0 a1 : Value) (w : World) (Q : Value → World → Prop) : Prop :=
  CallR Tryz.prog 97 [a0, a1] w fun t7 w =>
  wpB (bp Tryz.prog .geq 3 t7 (.int .i64 0)) fun t8 =>
  Q t8 w
theorem F69_ok {a0 a1 : Value} {w : World} {Q : Value → World → Prop} (h : F69 a0 a1 w Q) : CallR Tryz.prog 69 [a0, a1] w Q :=
  ah mixed ag Tryz.func69 (c := C69) rfl H69 (Nat.le_of_ble_eq_true rfl) (by kernel_rfl) h

noncomputable def C70 : Code := (Tryz.f70.body).getD .skip
noncomputable def H70 : Hints := ⟨[], [], []⟩
def F70 (a0 a1 : Value) (w : World) (Q : Value → World → Prop) : Prop :=
  wpB (pureRun Tryz.prog (Builtin.len_ #[22] 3 #[a0])) fun t7 =>
  wpB (pureRun Tryz.prog (Builtin.len_ #[22] 3 #[a1])) fun t9 =>
  wpB (be Tryz.prog .eql 3 (.tmp 7) (.tmp 9) t7 t9) fun t10 =>
  evG Tryz.prog (callK (entR 3 113) (some (gv t10 true (.func (.func 98) #[] #[]))) (some [(gv t10 true a1)])) t10 true w fun t15 w =>
  gE t10 true (CallR Tryz.prog 100 [(gv t10 true a0), t15] w) (fun t16 w =>
  wpB (gd t10 true (pureRun Tryz.prog (Op.unary .not t16))) fun t17 =>
  wpB (pickv t10 (some t17) (some (.bool false))) fun t18 =>
  evG Tryz.prog (callK (entR 3 113) (some (gv t18 true (.func (.func 98) #[] #[]))) (some [(gv t18 true a0)])) t18 true w fun t23 w =>
  gE t18 true (CallR Tryz.prog 100 [(gv t18 true a1), t23] w) (fun t24 w =>
  wpB (gd t18 true (pureRun Tryz.prog (Op.unary .not t24))) fun t25 =>
  wpB (pickv t18 (some t25) (some (.bool false))) fun t26 =>
  Q t26 w) w) w
theorem F70_ok {a0 a1 : Value} {w : World} {Q : Value → World → Prop} (h : F70 a0 a1 w Q) : CallR Tryz.prog 70 [a0, a1] w Q :=
  ah mixed ag Tryz.func70 (c := C70) rfl H70 (Nat.le_of_ble_eq_true rfl) (by kernel_rfl) h

noncomputable def C71 : Code := (Tryz.f71.body).getD .skip
noncomputable def H71 : Hints := ⟨[(4, [0, 1, 12, 13])], [], [(6, (.leaf [0, 1, 2, 3, 4, 5, 6, 7, 8]))]⟩
noncomputable def T71_0 : List It := [.lp (nav [1, 1, 0, 1, 4, 5] C71), .blk 0, .jn (nav [1, 1, 1] C71)]
def P71_0 (x0 x1 x12 x13 : Value) (w : World) (Q : Value → World → Prop) : Prop := Part Tryz.prog 71 T71_0 [0, 1, 12, 13] [x0, x1, x12, x13] w Q
def F71 (a0 a1 : Value) (w : World) (Q : Value → World → Prop) : Prop :=
  wpB (pureRun Tryz.prog (Builtin.len_ #[44] 3 #[a0])) fun t7 =>
  wpB (pureRun Tryz.prog (Builtin.len_ #[44] 3 #[a1])) fun t9 =>
  wpB (be Tryz.prog .neq 3 (.tmp 7) (.tmp 9) t7 t9) fun t10 =>
  cnd t10
  (Q (.bool false) w)
  (wpB (pureRun Tryz.prog (Builtin.len_ #[44] 3 #[a0])) fun t12 =>
  P71_0 a0 a1 t12 (.int .i64 0) w Q)
def L71_0 (x0 x1 x12 x13 : Value) (w : World) (Q : Value → World → Prop) : Prop :=
  wpB (bp Tryz.prog .lss 3 x13 x12) fun t14 =>
  cnd t14
  (wpB (pureRun Tryz.prog (Instr.indexAt 44 x0 x13)) fun t18 =>
  wpB (ldv Tryz.prog 25 t18 w.drew) fun t19 =>
  wpB (pureRun Tryz.prog (Instr.indexAt 44 x1 x13)) fun t22 =>
  wpB (ldv Tryz.prog 25 t22 w.drew) fun t23 =>
  wpB (be Tryz.prog .neq 25 (.tmp 19) (.tmp 23) t19 t23) fun t24 =>
  cnd t24
  (Q (.bool false) w.drew)
  (wpB (bp Tryz.prog .add 3 x13 (.int .i64 1)) fun t25 =>
  P71_0 x0 x1 x12 t25 w.drew Q))
  (Q (.bool true) w)
theorem F71_ok {a0 a1 : Value} {w : World} {Q : Value → World → Prop} (h : F71 a0 a1 w Q) : CallR Tryz.prog 71 [a0, a1] w Q :=
  ah mixed ag Tryz.func71 (c := C71) rfl H71 (Nat.le_of_ble_eq_true rfl) (by kernel_rfl) h
theorem L71_0_ok {x0 x1 x12 x13 : Value} {w : World} {Q : Value → World → Prop} (h : L71_0 x0 x1 x12 x13 w Q) : P71_0 x0 x1 x12 x13 w Q :=
  aQ mixed ag Tryz.func71 H71 (by kernel_rfl) h

noncomputable def C72 : Code := (Tryz.f72.body).getD .skip
noncomputable def H72 : Hints := ⟨[], [], []⟩
def F72 (a0 a1 : Value) (w : World) (Q : Value → World → Prop) : Prop :=
  wpB (pureRun Tryz.prog (Builtin.len_ #[44] 3 #[a0])) fun t7 =>
  wpB (pureRun Tryz.prog (Builtin.len_ #[44] 3 #[a1])) fun t9 =>
  wpB (be Tryz.prog .eql 3 (.tmp 7) (.tmp 9) t7 t9) fun t10 =>
  evG Tryz.prog (callK (entR 3 113) (some (gv t10 true (.func (.func 101) #[] #[]))) (some [(gv t10 true a1)])) t10 true w fun t15 w =>
  gE t10 true (CallR Tryz.prog 104 [(gv t10 true a0), t15] w) (fun t16 w =>
  wpB (gd t10 true (pureRun Tryz.prog (Op.unary .not t16))) fun t17 =>
  wpB (pickv t10 (some t17) (some (.bool false))) fun t18 =>
  evG Tryz.prog (callK (entR 3 113) (some (gv t18 true (.func (.func 101) #[] #[]))) (some [(gv t18 true a0)])) t18 true w fun t23 w =>
  gE t18 true (CallR Tryz.prog 104 [(gv t18 true a1), t23] w) (fun t24 w =>
  wpB (gd t18 true (pureRun Tryz.prog (Op.unary .not t24))) fun t25 =>
  wpB (pickv t18 (some t25) (some (.bool false))) fun t26 =>
  Q t26 w) w) w
theorem F72_ok {a0 a1 : Value} {w : World} {Q : Value → World → Prop} (h : F72 a0 a1 w Q) : CallR Tryz.prog 72 [a0, a1] w Q :=
  ah mixed ag Tryz.func72 (c := C72) rfl H72 (Nat.le_of_ble_eq_true rfl) (by kernel_rfl) h

noncomputable def C73 : Code := (Tryz.f73.body).getD .skip
noncomputable def H73 : Hints := ⟨[(4, [0, 1, 12, 13])], [], [(6, (.leaf [0, 1, 2, 3, 4, 5, 6, 7, 8]))]⟩
noncomputable def T73_0 : List It := [.lp (nav [1, 1, 0, 1, 4, 5] C73), .blk 0, .jn (nav [1, 1, 1] C73)]
def P73_0 (x0 x1 x12 x13 : Value) (w : World) (Q : Value → World → Prop) : Prop := Part Tryz.prog 73 T73_0 [0, 1, 12, 13] [x0, x1, x12, x13] w Q
def F73 (a0 a1 : Value) (w : World) (Q : Value → World → Prop) : Prop :=
  wpB (pureRun Tryz.prog (Builtin.len_ #[93] 3 #[a0])) fun t7 =>
  wpB (pureRun Tryz.prog (Builtin.len_ #[93] 3 #[a1])) fun t9 =>
  wpB (be Tryz.prog .neq 3 (.tmp 7) (.tmp 9) t7 t9) fun t10 =>
  cnd t10
  (Q (.bool false) w)
  (wpB (pureRun Tryz.prog (Builtin.len_ #[93] 3 #[a0])) fun t12 =>
  P73_0 a0 a1 t12 (.int .i64 0) w Q)
def L73_0 (x0 x1 x12 x13 : Value) (w : World) (Q : Value → World → Prop) : Prop :=
  wpB (bp Tryz.prog .lss 3 x13 x12) fun t14 =>
  cnd t14
  (wpB (pureRun Tryz.prog (Instr.indexAt 93 x0 x13)) fun t18 =>
  wpB (ldv Tryz.prog 26 t18 w.drew) fun t19 =>
  wpB (pureRun Tryz.prog (Instr.indexAt 93 x1 x13)) fun t22 =>
  wpB (ldv Tryz.prog 26 t22 w.drew) fun t23 =>
  wpB (be Tryz.prog .neq 26 (.tmp 19) (.tmp 23) t19 t23) fun t24 =>
  cnd t24
  (Q (.bool false) w.drew)
  (wpB (bp Tryz.prog .add 3 x13 (.int .i64 1)) fun t25 =>
  P73_0 x0 x1 x12 t25 w.drew Q))
  (Q (.bool true) w)
theorem F73_ok {a0 a1 : Value} {w : World} {Q : Value → World → Prop} (h : F73 a0 a1 w Q) : CallR Tryz.prog 73 [a0, a1] w Q :=
  ah mixed ag Tryz.func73 (c := C73) rfl H73 (Nat.le_of_ble_eq_true rfl) (by kernel_rfl) h
theorem L73_0_ok {x0 x1 x12 x13 : Value} {w : World} {Q : Value → World → Prop} (h : L73_0 x0 x1 x12 x13 w Q) : P73_0 x0 x1 x12 x13 w Q :=
  aQ mixed ag Tryz.func73 H73 (by kernel_rfl) h

noncomputable def C74 : Code := (Tryz.f74.body).getD .skip
noncomputable def H74 : Hints := ⟨[], [], [(1, (.ask 3 10 (.ask 14 10 (.ask 16 10 (.ask 18 10 (.leaf [0, 1, 2, 4, 5, 6, 8, 13, 15, 17, 3, 7, 9, 14, 16, 18, 19, 10, 11, 12, 20, 21]) (.leaf [0, 1, 2, 4, 5, 6, 8, 13, 15, 17, 3, 7, 9, 14, 16, 10, 11, 12, 18, 19, 20, 21])) (.ask 18 10 (.leaf [0, 1, 2, 4, 5, 6, 8, 13, 15, 17, 3, 7, 9, 14, 18, 10, 11, 12, 16, 19, 20, 21]) (.leaf [0, 1, 2, 4, 5, 6, 8, 13, 15, 17, 3, 7, 9, 14, 10, 11, 12, 16, 18, 19, 20, 21]))) (.ask 16 10 (.ask 18 10 (.leaf [0, 1, 2, 4, 5, 6, 8, 13, 15, 17, 3, 7, 9, 16, 18, 19, 10, 11, 12, 14, 20, 21]) (.leaf [0, 1, 2, 4, 5, 6, 8, 13, 15, 17, 3, 7, 9, 16, 10, 11, 12, 14, 18, 19, 20, 21])) (.ask 18 10 (.leaf [0, 1, 2, 4, 5, 6, 8, 13, 15, 17, 3, 7, 9, 18, 10, 11, 12, 14, 16, 19, 20, 21]) (.leaf [0, 1, 2, 3, 4, 5, 6, 7, 8, 9, 10, 11, 12, 13, 14, 15, 16, 17, 18, 19, 20, 21])))) (.ask 14 10 (.ask 16 10 (.ask 18 10 (.leaf [0, 1, 2, 4, 5, 6, 8, 13, 15, 17, 7, 9, 14, 16, 18, 19, 10, 3, 11, 12, 20, 21]) (.leaf [0, 1, 2, 4, 5, 6, 8, 13, 15, 17, 7, 9, 14, 16, 10, 3, 11, 12, 18, 19, 20, 21])) (.ask 18 10 (.leaf [0, 1, 2, 4, 5, 6, 8, 13, 15, 17, 7, 9, 14, 18, 10, 3, 11, 12, 16, 19, 20, 21]) (.leaf [0, 1, 2, 4, 5, 6, 8, 13, 15, 17, 7, 9, 14, 10, 3, 11, 12, 16, 18, 19, 20, 21]))) (.ask 16 10 (.ask 18 10 (.leaf [0, 1, 2, 4, 5, 6, 8, 13, 15, 17, 7, 9, 16, 18, 19, 10, 3, 11, 12, 14, 20, 21]) (.leaf [0, 1, 2, 4, 5, 6, 8, 13, 15, 17, 7, 9, 16, 10, 3, 11, 12, 14, 18, 19, 20, 21])) (.ask 18 10 (.leaf [0, 1, 2, 4, 5, 6, 8, 13, 15, 17, 7, 9, 18, 10, 3, 11, 12, 14, 16, 19, 20, 21]) (.leaf [0, 1, 2, 4, 5, 6, 8, 13, 15, 17, 7, 9, 10, 3, 11, 12, 14, 16, 18, 19, 20, 21]))))))]⟩
def F74 (a0 a1 : Value) (w : World) (Q : Value → World → Prop) : Prop :=
  effv Tryz.prog (Instr.box 25 a1) w fun t3 w =>
  ((((wpB (nilv a0) fun t6 =>
  wpB (pureRun Tryz.prog (Instr.fieldAt 88 t6 4)) fun t7 =>
  wpB (nilv a0) fun t10 =>
  wpB (pureRun Tryz.prog (Instr.fieldAt 88 t10 3)) fun t11 =>
  wpB (pureRun Tryz.prog (Instr.fieldAt 25 t3 2)) fun t13 =>
  wpB (pureRun Tryz.prog (Instr.fieldAt 25 t3 3)) fun t18 =>
  wpB (pureRun Tryz.prog (Instr.fieldAt 25 t3 3)) fun t20 =>
  wpB (pureRun Tryz.prog (Instr.fieldAt 25 t3 4)) fun t22 =>
  wpB (ldv Tryz.prog 86 t7 w.drew) fun t8 =>
  wpB (ldv Tryz.prog 22 t11 w.drew) fun t12 =>
  wpB (ldv Tryz.prog 3 t13 w.drew) fun t14 =>
  wpB (ldv Tryz.prog 3 t18 w.drew) fun t19 =>
  wpB (ldv Tryz.prog 3 t20 w.drew) fun t21 =>
  wpB (ldv Tryz.prog 3 t22 w.drew) fun t23 =>
  wpB (bp Tryz.prog .add 3 t21 t23) fun t24 =>
  CallR Tryz.prog 77 [t12, t14] w.drew fun t15 w =>
  wpB (pureRun Tryz.prog (Instr.indexAt 86 t8 t15)) fun t16 =>
  wpB (ldv Tryz.prog 93 t16 w) fun t17 =>
  wpB (pureRun Tryz.prog (Instr.sliceAt 93 t17 (some t19) (some t24) none)) fun t25 =>
  Q t25 w) ∧
  (wpB (nilv a0) fun t6_1 =>
  wpB (pureRun Tryz.prog (Instr.fieldAt 88 t6_1 4)) fun t7_1 =>
  wpB (nilv a0) fun t10_1 =>
  wpB (pureRun Tryz.prog (Instr.fieldAt 88 t10_1 3)) fun t11_1 =>
  wpB (pureRun Tryz.prog (Instr.fieldAt 25 t3 2)) fun t13_1 =>
  wpB (pureRun Tryz.prog (Instr.fieldAt 25 t3 3)) fun t18_1 =>
  wpB (pureRun Tryz.prog (Instr.fieldAt 25 t3 3)) fun t20_1 =>
  wpB (pureRun Tryz.prog (Instr.fieldAt 25 t3 4)) fun t22_1 =>
  wpB (ldv Tryz.prog 86 t7_1 w.drew) fun t8_1 =>
  wpB (ldv Tryz.prog 22 t11_1 w.drew) fun t12_1 =>
  wpB (ldv Tryz.prog 3 t13_1 w.drew) fun t14_1 =>
  wpB (ldv Tryz.prog 3 t18_1 w.drew) fun t19_1 =>
  wpB (ldv Tryz.prog 3 t20_1 w.drew) fun t21_1 =>
  CallR Tryz.prog 77 [t12_1, t14_1] w.drew fun t15_1 w =>
  wpB (pureRun Tryz.prog (Instr.indexAt 86 t8_1 t15_1)) fun t16_1 =>
  wpB (ldv Tryz.prog 93 t16_1 w) fun t17_1 =>
  wpB (ldv Tryz.prog 3 t22_1 w) fun t23_1 =>
  wpB (bp Tryz.prog .add 3 t21_1 t23_1) fun t24_1 =>
  wpB (pureRun Tryz.prog (Instr.sliceAt 93 t17_1 (some t19_1) (some t24_1) none)) fun t25_1 =>
  Q t25_1 w)) ∧
  ((wpB (nilv a0) fun t6_2 =>
  wpB (pureRun Tryz.prog (Instr.fieldAt 88 t6_2 4)) fun t7_2 =>
  wpB (nilv a0) fun t10_2 =>
  wpB (pureRun Tryz.prog (Instr.fieldAt 88 t10_2 3)) fun t11_2 =>
  wpB (pureRun Tryz.prog (Instr.fieldAt 25 t3 2)) fun t13_2 =>
  wpB (pureRun Tryz.prog (Instr.fieldAt 25 t3 3)) fun t18_2 =>
  wpB (pureRun Tryz.prog (Instr.fieldAt 25 t3 3)) fun t20_2 =>
  wpB (pureRun Tryz.prog (Instr.fieldAt 25 t3 4)) fun t22_2 =>
  wpB (ldv Tryz.prog 86 t7_2 w.drew) fun t8_2 =>
  wpB (ldv Tryz.prog 22 t11_2 w.drew) fun t12_2 =>
  wpB (ldv Tryz.prog 3 t13_2 w.drew) fun t14_2 =>
  wpB (ldv Tryz.prog 3 t18_2 w.drew) fun t19_2 =>
  wpB (ldv Tryz.prog 3 t22_2 w.drew) fun t23_2 =>
  CallR Tryz.prog 77 [t12_2, t14_2] w.drew fun t15_2 w =>
  wpB (pureRun Tryz.prog (Instr.indexAt 86 t8_2 t15_2)) fun t16_2 =>
  wpB (ldv Tryz.prog 93 t16_2 w) fun t17_2 =>
  wpB (ldv Tryz.prog 3 t20_2 w) fun t21_2 =>
  wpB (bp Tryz.prog .add 3 t21_2 t23_2) fun t24_2 =>
  wpB (pureRun Tryz.prog (Instr.sliceAt 93 t17_2 (some t19_2) (some t24_2) none)) fun t25_2 =>
  Q t25_2 w) ∧
  (wpB (nilv a0) fun t6_3 =>
  wpB (pureRun Tryz.prog (Instr.fieldAt 88 t6_3 4)) fun t7_3 =>
  wpB (nilv a0) fun t10_3 =>
  wpB (pureRun Tryz.prog (Instr.fieldAt 88 t10_3 3)) fun t11_3 =>
  wpB (pureRun Tryz.prog (Instr.fieldAt 25 t3 2)) fun t13_3 =>
  wpB (pureRun Tryz.prog (Instr.fieldAt 25 t3 3)) fun t18_3 =>
  wpB (pureRun Tryz.prog (Instr.fieldAt 25 t3 3)) fun t20_3 =>
  wpB (pureRun Tryz.prog (Instr.fieldAt 25 t3 4)) fun t22_3 =>
  wpB (ldv Tryz.prog 86 t7_3 w.drew) fun t8_3 =>
  wpB (ldv Tryz.prog 22 t11_3 w.drew) fun t12_3 =>
  wpB (ldv Tryz.prog 3 t13_3 w.drew) fun t14_3 =>
  wpB (ldv Tryz.prog 3 t18_3 w.drew) fun t19_3 =>
  CallR Tryz.prog 77 [t12_3, t14_3] w.drew fun t15_3 w =>
  wpB (pureRun Tryz.prog (Instr.indexAt 86 t8_3 t15_3)) fun t16_3 =>
  wpB (ldv Tryz.prog 93 t16_3 w) fun t17_3 =>
  wpB (ldv Tryz.prog 3 t20_3 w) fun t21_3 =>
  wpB (ldv Tryz.prog 3 t22_3 w) fun t23_3 =>
  wpB (bp Tryz.prog .add 3 t21_3 t23_3) fun t24_3 =>
  wpB (pureRun Tryz.prog (Instr.sliceAt 93 t17_3 (some t19_3) (some t24_3) none)) fun t25_3 =>
  Q t25_3 w))) ∧
  (((wpB (nilv a0) fun t6_4 =>
  wpB (pureRun Tryz.prog (Instr.fieldAt 88 t6_4 4)) fun t7_4 =>
  wpB (nilv a0) fun t10_4 =>
  wpB (pureRun Tryz.prog (Instr.fieldAt 88 t10_4 3)) fun t11_4 =>
  wpB (pureRun Tryz.prog (Instr.fieldAt 25 t3 2)) fun t13_4 =>
  wpB (pureRun Tryz.prog (Instr.fieldAt 25 t3 3)) fun t18_4 =>
  wpB (pureRun Tryz.prog (Instr.fieldAt 25 t3 3)) fun t20_4 =>
  wpB (pureRun Tryz.prog (Instr.fieldAt 25 t3 4)) fun t22_4 =>
  wpB (ldv Tryz.prog 86 t7_4 w.drew) fun t8_4 =>
  wpB (ldv Tryz.prog 22 t11_4 w.drew) fun t12_4 =>
  wpB (ldv Tryz.prog 3 t13_4 w.drew) fun t14_4 =>
  wpB (ldv Tryz.prog 3 t20_4 w.drew) fun t21_4 =>
  wpB (ldv Tryz.prog 3 t22_4 w.drew) fun t23_4 =>
  wpB (bp Tryz.prog .add 3 t21_4 t23_4) fun t24_4 =>
  CallR Tryz.prog 77 [t12_4, t14_4] w.drew fun t15_4 w =>
  wpB (pureRun Tryz.prog (Instr.indexAt 86 t8_4 t15_4)) fun t16_4 =>
  wpB (ldv Tryz.prog 93 t16_4 w) fun t17_4 =>
  wpB (ldv Tryz.prog 3 t18_4 w) fun t19_4 =>
  wpB (pureRun Tryz.prog (Instr.sliceAt 93 t17_4 (some t19_4) (some t24_4) none)) fun t25_4 =>
  Q t25_4 w) ∧
  (wpB (nilv a0) fun t6_5 =>
  wpB (pureRun Tryz.prog (Instr.fieldAt 88 t6_5 4)) fun t7_5 =>
  wpB (nilv a0) fun t10_5 =>
  wpB (pureRun Tryz.prog (Instr.fieldAt 88 t10_5 3)) fun t11_5 =>
  wpB (pureRun Tryz.prog (Instr.fieldAt 25 t3 2)) fun t13_5 =>
  wpB (pureRun Tryz.prog (Instr.fieldAt 25 t3 3)) fun t18_5 =>
  wpB (pureRun Tryz.prog (Instr.fieldAt 25 t3 3)) fun t20_5 =>
  wpB (pureRun Tryz.prog (Instr.fieldAt 25 t3 4)) fun t22_5 =>
  wpB (ldv Tryz.prog 86 t7_5 w.drew) fun t8_5 =>
  wpB (ldv Tryz.prog 22 t11_5 w.drew) fun t12_5 =>
  wpB (ldv Tryz.prog 3 t13_5 w.drew) fun t14_5 =>
  wpB (ldv Tryz.prog 3 t20_5 w.drew) fun t21_5 =>
  CallR Tryz.prog 77 [t12_5, t14_5] w.drew fun t15_5 w =>
  wpB (pureRun Tryz.prog (Instr.indexAt 86 t8_5 t15_5)) fun t16_5 =>
  wpB (ldv Tryz.prog 93 t16_5 w) fun t17_5 =>
  wpB (ldv Tryz.prog 3 t18_5 w) fun t19_5 =>
  wpB (ldv Tryz.prog 3 t22_5 w) fun t23_5 =>
  wpB (bp Tryz.prog .add 3 t21_5 t23_5) fun t24_5 =>
  wpB (pureRun Tryz.prog (Instr.sliceAt 93 t17_5 (some t19_5) (some t24_5) none)) fun t25_5 =>
  Q t25_5 w)) ∧
  ((wpB (nilv a0) fun t6_6 =>
  wpB (pureRun Tryz.prog (Instr.fieldAt 88 t6_6 4)) fun t7_6 =>
  wpB (nilv a0) fun t10_6 =>
  wpB (pureRun Tryz.prog (Instr.fieldAt 88 t10_6 3)) fun t11_6 =>
  wpB (pureRun Tryz.prog (Instr.fieldAt 25 t3 2)) fun t13_6 =>
  wpB (pureRun Tryz.prog (Instr.fieldAt 25 t3 3)) fun t18_6 =>
  wpB (pureRun Tryz.prog (Instr.fieldAt 25 t3 3)) fun t20_6 =>
  wpB (pureRun Tryz.prog (Instr.fieldAt 25 t3 4)) fun t22_6 =>
  wpB (ldv Tryz.prog 86 t7_6 w.drew) fun t8_6 =>
  wpB (ldv Tryz.prog 22 t11_6 w.drew) fun t12_6 =>
  wpB (ldv Tryz.prog 3 t13_6 w.drew) fun t14_6 =>
  wpB (ldv Tryz.prog 3 t22_6 w.drew) fun t23_6 =>
  CallR Tryz.prog 77 [t12_6, t14_6] w.drew fun t15_6 w =>
  wpB (pureRun Tryz.prog (Instr.indexAt 86 t8_6 t15_6)) fun t16_6 =>
  wpB (ldv Tryz.prog 93 t16_6 w) fun t17_6 =>
  wpB (ldv Tryz.prog 3 t18_6 w) fun t19_6 =>
  wpB (ldv Tryz.prog 3 t20_6 w) fun t21_6 =>
  wpB (bp Tryz.prog .add 3 t21_6 t23_6) fun t24_6 =>
  wpB (pureRun Tryz.prog (Instr.sliceAt 93 t17_6 (some t19_6) (some t24_6) none)) fun t25_6 =>
  Q t25_6 w) ∧
  (wpB (nilv a0) fun t6_7 =>
  wpB (pureRun Tryz.prog (Instr.fieldAt 88 t6_7 4)) fun t7_7 =>
  wpB (ldv Tryz.prog 86 t7_7 w.drew) fun t8_7 =>
  wpB (nilv a0) fun t10_7 =>
  wpB (pureRun Tryz.prog (Instr.fieldAt 88 t10_7 3)) fun t11_7 =>
  wpB (ldv Tryz.prog 22 t11_7 w.drew) fun t12_7 =>
  wpB (pureRun Tryz.prog (Instr.fieldAt 25 t3 2)) fun t13_7 =>
  wpB (ldv Tryz.prog 3 t13_7 w.drew) fun t14_7 =>
  CallR Tryz.prog 77 [t12_7, t14_7] w.drew fun t15_7 w =>
  wpB (pureRun Tryz.prog (Instr.indexAt 86 t8_7 t15_7)) fun t16_7 =>
  wpB (ldv Tryz.prog 93 t16_7 w) fun t17_7 =>
  wpB (pureRun Tryz.prog (Instr.fieldAt 25 t3 3)) fun t18_7 =>
  wpB (ldv Tryz.prog 3 t18_7 w) fun t19_7 =>
  wpB (pureRun Tryz.prog (Instr.fieldAt 25 t3 3)) fun t20_7 =>
  wpB (ldv Tryz.prog 3 t20_7 w) fun t21_7 =>
  wpB (pureRun Tryz.prog (Instr.fieldAt 25 t3 4)) fun t22_7 =>
  wpB (ldv Tryz.prog 3 t22_7 w) fun t23_7 =>
  wpB (bp Tryz.prog .add 3 t21_7 t23_7) fun t24_7 =>
  wpB (pureRun Tryz.prog (Instr.sliceAt 93 t17_7 (some t19_7) (some t24_7) none)) fun t25_7 =>
  Q t25_7 w)))) ∧
  ((((wpB (nilv a0) fun t6_8 =>
  wpB (pureRun Tryz.prog (Instr.fieldAt 88 t6_8 4)) fun t7_8 =>
  wpB (nilv a0) fun t10_8 =>
  wpB (pureRun Tryz.prog (Instr.fieldAt 88 t10_8 3)) fun t11_8 =>
  wpB (pureRun Tryz.prog (Instr.fieldAt 25 t3 2)) fun t13_8 =>
  wpB (pureRun Tryz.prog (Instr.fieldAt 25 t3 3)) fun t18_8 =>
  wpB (pureRun Tryz.prog (Instr.fieldAt 25 t3 3)) fun t20_8 =>
  wpB (pureRun Tryz.prog (Instr.fieldAt 25 t3 4)) fun t22_8 =>
  wpB (ldv Tryz.prog 22 t11_8 w.drew) fun t12_8 =>
  wpB (ldv Tryz.prog 3 t13_8 w.drew) fun t14_8 =>
  wpB (ldv Tryz.prog 3 t18_8 w.drew) fun t19_8 =>
  wpB (ldv Tryz.prog 3 t20_8 w.drew) fun t21_8 =>
  wpB (ldv Tryz.prog 3 t22_8 w.drew) fun t23_8 =>
  wpB (bp Tryz.prog .add 3 t21_8 t23_8) fun t24_8 =>
  CallR Tryz.prog 77 [t12_8, t14_8] w.drew fun t15_8 w =>
  wpB (ldv Tryz.prog 86 t7_8 w) fun t8_8 =>
  wpB (pureRun Tryz.prog (Instr.indexAt 86 t8_8 t15_8)) fun t16_8 =>
  wpB (ldv Tryz.prog 93 t16_8 w) fun t17_8 =>
  wpB (pureRun Tryz.prog (Instr.sliceAt 93 t17_8 (some t19_8) (some t24_8) none)) fun t25_8 =>
  Q t25_8 w) ∧
  (wpB (nilv a0) fun t6_9 =>
  wpB (pureRun Tryz.prog (Instr.fieldAt 88 t6_9 4)) fun t7_9 =>
  wpB (nilv a0) fun t10_9 =>
  wpB (pureRun Tryz.prog (Instr.fieldAt 88 t10_9 3)) fun t11_9 =>
  wpB (pureRun Tryz.prog (Instr.fieldAt 25 t3 2)) fun t13_9 =>
  wpB (pureRun Tryz.prog (Instr.fieldAt 25 t3 3)) fun t18_9 =>
  wpB (pureRun Tryz.prog (Instr.fieldAt 25 t3 3)) fun t20_9 =>
  wpB (pureRun Tryz.prog (Instr.fieldAt 25 t3 4)) fun t22_9 =>
  wpB (ldv Tryz.prog 22 t11_9 w.drew) fun t12_9 =>
  wpB (ldv Tryz.prog 3 t13_9 w.drew) fun t14_9 =>
  wpB (ldv Tryz.prog 3 t18_9 w.drew) fun t19_9 =>
  wpB (ldv Tryz.prog 3 t20_9 w.drew) fun t21_9 =>
  CallR Tryz.prog 77 [t12_9, t14_9] w.drew fun t15_9 w =>
  wpB (ldv Tryz.prog 86 t7_9 w) fun t8_9 =>
  wpB (pureRun Tryz.prog (Instr.indexAt 86 t8_9 t15_9)) fun t16_9 =>
  wpB (ldv Tryz.prog 93 t16_9 w) fun t17_9 =>
  wpB (ldv Tryz.prog 3 t22_9 w) fun t23_9 =>
  wpB (bp Tryz.prog .add 3 t21_9 t23_9) fun t24_9 =>
  wpB (pureRun Tryz.prog (Instr.sliceAt 93 t17_9 (some t19_9) (some t24_9) none)) fun t25_9 =>
  Q t25_9 w)) ∧
  ((wpB (nilv a0) fun t6_10 =>
  wpB (pureRun Tryz.prog (Instr.fieldAt 88 t6_10 4)) fun t7_10 =>
  wpB (nilv a0) fun t10_10 =>
  wpB (pureRun Tryz.prog (Instr.fieldAt 88 t10_10 3)) fun t11_10 =>
  wpB (pureRun Tryz.prog (Instr.fieldAt 25 t3 2)) fun t13_10 =>
  wpB (pureRun Tryz.prog (Instr.fieldAt 25 t3 3)) fun t18_10 =>
  wpB (pureRun Tryz.prog (Instr.fieldAt 25 t3 3)) fun t20_10 =>
  wpB (pureRun Tryz.prog (Instr.fieldAt 25 t3 4)) fun t22_10 =>
  wpB (ldv Tryz.prog 22 t11_10 w.drew) fun t12_10 =>
  wpB (ldv Tryz.prog 3 t13_10 w.drew) fun t14_10 =>
  wpB (ldv Tryz.prog 3 t18_10 w.drew) fun t19_10 =>
  wpB (ldv Tryz.prog 3 t22_10 w.drew) fun t23_10 =>
  CallR Tryz.prog 77 [t12_10, t14_10] w.drew fun t15_10 w =>
  wpB (ldv Tryz.prog 86 t7_10 w) fun t8_10 =>
  wpB (pureRun Tryz.prog (Instr.indexAt 86 t8_10 t15_10)) fun t16_10 =>
  wpB (ldv Tryz.prog 93 t16_10 w) fun t17_10 =>
  wpB (ldv Tryz.prog 3 t20_10 w) fun t21_10 =>
  wpB (bp Tryz.prog .add 3 t21_10 t23_10) fun t24_10 =>
  wpB (pureRun Tryz.prog (Instr.sliceAt 93 t17_10 (some t19_10) (some t24_10) none)) fun t25_10 =>
  Q t25_10 w) ∧
  (wpB (nilv a0) fun t6_11 =>
  wpB (pureRun Tryz.prog (Instr.fieldAt 88 t6_11 4)) fun t7_11 =>
  wpB (nilv a0) fun t10_11 =>
  wpB (pureRun Tryz.prog (Instr.fieldAt 88 t10_11 3)) fun t11_11 =>
  wpB (pureRun Tryz.prog (Instr.fieldAt 25 t3 2)) fun t13_11 =>
  wpB (pureRun Tryz.prog (Instr.fieldAt 25 t3 3)) fun t18_11 =>
  wpB (pureRun Tryz.prog (Instr.fieldAt 25 t3 3)) fun t20_11 =>
  wpB (pureRun Tryz.prog (Instr.fieldAt 25 t3 4)) fun t22_11 =>
  wpB (ldv Tryz.prog 22 t11_11 w.drew) fun t12_11 =>
  wpB (ldv Tryz.prog 3 t13_11 w.drew) fun t14_11 =>
  wpB (ldv Tryz.prog 3 t18_11 w.drew) fun t19_11 =>
  CallR Tryz.prog 77 [t12_11, t14_11] w.drew fun t15_11 w =>
  wpB (ldv Tryz.prog 86 t7_11 w) fun t8_11 =>
  wpB (pureRun Tryz.prog (Instr.indexAt 86 t8_11 t15_11)) fun t16_11 =>
  wpB (ldv Tryz.prog 93 t16_11 w) fun t17_11 =>
  wpB (ldv Tryz.prog 3 t20_11 w) fun t21_11 =>
  wpB (ldv Tryz.prog 3 t22_11 w) fun t23_11 =>
  wpB (bp Tryz.prog .add 3 t21_11 t23_11) fun t24_11 =>
  wpB (pureRun Tryz.prog (Instr.sliceAt 93 t17_11 (some t19_11) (some t24_11) none)) fun t25_11 =>
  Q t25_11 w))) ∧
  (((wpB (nilv a0) fun t6_12 =>
  wpB (pureRun Tryz.prog (Instr.fieldAt 88 t6_12 4)) fun t7_12 =>
  wpB (nilv a0) fun t10_12 =>
  wpB (pureRun Tryz.prog (Instr.fieldAt 88 t10_12 3)) fun t11_12 =>
  wpB (pureRun Tryz.prog (Instr.fieldAt 25 t3 2)) fun t13_12 =>
  wpB (pureRun Tryz.prog (Instr.fieldAt 25 t3 3)) fun t18_12 =>
  wpB (pureRun Tryz.prog (Instr.fieldAt 25 t3 3)) fun t20_12 =>
  wpB (pureRun Tryz.prog (Instr.fieldAt 25 t3 4)) fun t22_12 =>
  wpB (ldv Tryz.prog 22 t11_12 w.drew) fun t12_12 =>
  wpB (ldv Tryz.prog 3 t13_12 w.drew) fun t14_12 =>
  wpB (ldv Tryz.prog 3 t20_12 w.drew) fun t21_12 =>
  wpB (ldv Tryz.prog 3 t22_12 w.drew) fun t23_12 =>
  wpB (bp Tryz.prog .add 3 t21_12 t23_12) fun t24_12 =>
  CallR Tryz.prog 77 [t12_12, t14_12] w.drew fun t15_12 w =>
  wpB (ldv Tryz.prog 86 t7_12 w) fun t8_12 =>
  wpB (pureRun Tryz.prog (Instr.indexAt 86 t8_12 t15_12)) fun t16_12 =>
  wpB (ldv Tryz.prog 93 t16_12 w) fun t17_12 =>
  wpB (ldv Tryz.prog 3 t18_12 w) fun t19_12 =>
  wpB (pureRun Tryz.prog (Instr.sliceAt 93 t17_12 (some t19_12) (some t24_12) none)) fun t25_12 =>
  Q t25_12 w) ∧
  (wpB (nilv a0) fun t6_13 =>
  wpB (pureRun Tryz.prog (Instr.fieldAt 88 t6_13 4)) fun t7_13 =>
  wpB (nilv a0) fun t10_13 =>
  wpB (pureRun Tryz.prog (Instr.fieldAt 88 t10_13 3)) fun t11_13 =>
  wpB (pureRun Tryz.prog (Instr.fieldAt 25 t3 2)) fun t13_13 =>
  wpB (pureRun Tryz.prog (Instr.fieldAt 25 t3 3)) fun t18_13 =>
  wpB (pureRun Tryz.prog (Instr.fieldAt 25 t3 3)) fun t20_13 =>
  wpB (pureRun Tryz.prog (Instr.fieldAt 25 t3 4)) fun t22_13 =>
  wpB (ldv Tryz.prog 22 t11_13 w.drew) fun t12_13 =>
  wpB (ldv Tryz.prog 3 t13_13 w.drew) fun t14_13 =>
  wpB (ldv Tryz.prog 3 t20_13 w.drew) fun t21_13 =>
  CallR Tryz.prog 77 [t12_13, t14_13] w.drew fun t15_13 w =>
  wpB (ldv Tryz.prog 86 t7_13 w) fun t8_13 =>
  wpB (pureRun Tryz.prog (Instr.indexAt 86 t8_13 t15_13)) fun t16_13 =>
  wpB (ldv Tryz.prog 93 t16_13 w) fun t17_13 =>
  wpB (ldv Tryz.prog 3 t18_13 w) fun t19_13 =>
  wpB (ldv Tryz.prog 3 t22_13 w) fun t23_13 =>
  wpB (bp Tryz.prog .add 3 t21_13 t23_13) fun t24_13 =>
  wpB (pureRun Tryz.prog (Instr.sliceAt 93 t17_13 (some t19_13) (some t24_13) none)) fun t25_13 =>
  Q t25_13 w)) ∧
  ((wpB (nilv a0) fun t6_14 =>
  wpB (pureRun Tryz.prog (Instr.fieldAt 88 t6_14 4)) fun t7_14 =>
  wpB (nilv a0) fun t10_14 =>
  wpB (pureRun Tryz.prog (Instr.fieldAt 88 t10_14 3)) fun t11_14 =>
  wpB (pureRun Tryz.prog (Instr.fieldAt 25 t3 2)) fun t13_14 =>
  wpB (pureRun Tryz.prog (Instr.fieldAt 25 t3 3)) fun t18_14 =>
  wpB (pureRun Tryz.prog (Instr.fieldAt 25 t3 3)) fun t20_14 =>
  wpB (pureRun Tryz.prog (Instr.fieldAt 25 t3 4)) fun t22_14 =>
  wpB (ldv Tryz.prog 22 t11_14 w.drew) fun t12_14 =>
  wpB (ldv Tryz.prog 3 t13_14 w.drew) fun t14_14 =>
  wpB (ldv Tryz.prog 3 t22_14 w.drew) fun t23_14 =>
  CallR Tryz.prog 77 [t12_14, t14_14] w.drew fun t15_14 w =>
  wpB (ldv Tryz.prog 86 t7_14 w) fun t8_14 =>
  wpB (pureRun Tryz.prog (Instr.indexAt 86 t8_14 t15_14)) fun t16_14 =>
  wpB (ldv Tryz.prog 93 t16_14 w) fun t17_14 =>
  wpB (ldv Tryz.prog 3 t18_14 w) fun t19_14 =>
  wpB (ldv Tryz.prog 3 t20_14 w) fun t21_14 =>
  wpB (bp Tryz.prog .add 3 t21_14 t23_14) fun t24_14 =>
  wpB (pureRun Tryz.prog (Instr.sliceAt 93 t17_14 (some t19_14) (some t24_14) none)) fun t25_14 =>
  Q t25_14 w) ∧
  (wpB (nilv a0) fun t6_15 =>
  wpB (pureRun Tryz.prog (Instr.fieldAt 88 t6_15 4)) fun t7_15 =>
  wpB (nilv a0) fun t10_15 =>
  wpB (pureRun Tryz.prog (Instr.fieldAt 88 t10_15 3)) fun t11_15 =>
  wpB (pureRun Tryz.prog (Instr.fieldAt 25 t3 2)) fun t13_15 =>
  wpB (pureRun Tryz.prog (Instr.fieldAt 25 t3 3)) fun t18_15 =>
  wpB (pureRun Tryz.prog (Instr.fieldAt 25 t3 3)) fun t20_15 =>
  wpB (pureRun Tryz.prog (Instr.fieldAt 25 t3 4)) fun t22_15 =>
  wpB (ldv Tryz.prog 22 t11_15 w.drew) fun t12_15 =>
  wpB (ldv Tryz.prog 3 t13_15 w.drew) fun t14_15 =>
  CallR Tryz.prog 77 [t12_15, t14_15] w.drew fun t15_15 w =>
  wpB (ldv Tryz.prog 86 t7_15 w) fun t8_15 =>
  wpB (pureRun Tryz.prog (Instr.indexAt 86 t8_15 t15_15)) fun t16_15 =>
  wpB (ldv Tryz.prog 93 t16_15 w) fun t17_15 =>
  wpB (ldv Tryz.prog 3 t18_15 w) fun t19_15 =>
  wpB (ldv Tryz.prog 3 t20_15 w) fun t21_15 =>
  wpB (ldv Tryz.prog 3 t22_15 w) fun t23_15 =>
  wpB (bp Tryz.prog .add 3 t21_15 t23_15) fun t24_15 =>
  wpB (pureRun Tryz.prog (Instr.sliceAt 93 t17_15 (some t19_15) (some t24_15) none)) fun t25_15 =>
  Q t25_15 w))))
theorem F74_ok {a0 a1 : Value} {w : World} {Q : Value → World → Prop} (h : F74 a0 a1 w Q) : CallR Tryz.prog 74 [a0, a1] w Q :=
  ah mixed ag Tryz.func74 (c := C74) rfl H74 (Nat.le_of_ble_eq_true rfl) (by kernel_rfl) h

noncomputable def C97 : Code := (Tryz.f97.body).getD .skip
noncomputable def H97 : Hints := ⟨[(2, [0, 1, 7, 8])], [], []⟩
noncomputable def T97_0 : List It := [.lp (nav [1, 0, 1, 4, 5] C97), .blk 0, .jn (nav [1, 1] C97)]
def P97_0 (x0 x1 x7 x8 : Value) (w : World) (Q : Value → World → Prop) : Prop := Part Tryz.prog 97 T97_0 [0, 1, 7, 8] [x0, x1, x7, x8] w Q
def F97 (a0 a1 : Value) (w : World) (Q : Value → World → Prop) : Prop :=
  wpB (pureRun Tryz.prog (Builtin.len_ #[79] 3 #[a0])) fun t7 =>
  P97_0 a0 a1 t7 (.int .i64 0) w Q
def L97_0 (x0 x1 x7 x8 : Value) (w : World) (Q : Value → World → Prop) : Prop :=
  wpB (bp Tryz.prog .lss 3 x8 x7) fun t9 =>
  cnd t9
  (wpB (pureRun Tryz.prog (Instr.indexAt 79 x0 x8)) fun t14 =>
  wpB (ldv Tryz.prog 84 t14 w) fun t15 =>
  evP Tryz.prog (callK (entR 3 113) (some x1) (some [t15])) w fun t16 w =>
  cnd t16
  (Q x8 w)
  (wpB (bp Tryz.prog .add 3 x8 (.int .i64 1)) fun t18 =>
  P97_0 x0 x1 x7 t18 w Q))
  (Q (.int .i64 (-1)) w)
theorem F97_ok {a0 a1 : Value} {w : World} {Q : Value → World → Prop} (h : F97 a0 a1 w Q) : CallR Tryz.prog 97 [a0, a1] w Q :=
  ah mixed ag Tryz.func97 (c := C97) rfl H97 (Nat.le_of_ble_eq_true rfl) (by kernel_rfl) h
theorem L97_0_ok {x0 x1 x7 x8 : Value} {w : World} {Q : Value → World → Prop} (h : L97_0 x0 x1 x7 x8 w Q) : P97_0 x0 x1 x7 x8 w Q :=
  aQ mixed ag Tryz.func97 H97 (by kernel_rfl) h

noncomputable def C98 : Code := (Tryz.f98.body).getD .skip
noncomputable def H98 : Hints := ⟨[], [], []⟩
def F98 (a0 : Value) (w : World) (Q : Value → World → Prop) : Prop :=
  effv Tryz.prog (Instr.box 22 a0) w fun t1 w =>
  Q (.func (.func 99) #[] #[t1]) w
theorem F98_ok {a0 : Value} {w : World} {Q : Value → World → Prop} (h : F98 a0 w Q) : CallR Tryz.prog 98 [a0] w Q :=
  ah mixed ag Tryz.func98 (c := C98) rfl H98 (Nat.le_of_ble_eq_true rfl) (by kernel_rfl) h

noncomputable def C99 : Code := (Tryz.f99.body).getD .skip
noncomputable def H99 : Hints := ⟨[], [], []⟩
def F99 (a0 a1 : Value) (w : World) (Q : Value → World → Prop) : Prop :=
  wpB (ldv Tryz.prog 22 a1 w) fun t4 =>
  CallR Tryz.prog 94 [t4, a0] w fun t6 w =>
  wpB (pureRun Tryz.prog (Op.unary .not t6)) fun t7 =>
  Q t7 w
theorem F99_ok {a0 a1 : Value} {w : World} {Q : Value → World → Prop} (h : F99 a0 a1 w Q) : CallR Tryz.prog 99 [a0, a1] w Q :=
  ah mixed ag Tryz.func99 (c := C99) rfl H99 (Nat.le_of_ble_eq_true rfl) (by kernel_rfl) h

noncomputable def C100 : Code := (Tryz.f100.body).getD .skip
noncomputable def H100 : Hints := ⟨[], [], []⟩
def F100 (a0 a1 : Value) (w : World) (Q : Value → World → Prop) : Prop :=
  CallR Tryz.prog 110 [a0, a1] w fun t7 w =>
  wpB (bp Tryz.prog .geq 3 t7 (.int .i64 0)) fun t8 =>
  Q t8 w
theorem F100_ok {a0 a1 : Value} {w : World} {Q : Value → World → Prop} (h : F100 a0 a1 w Q) : CallR Tryz.prog 100 [a0, a1] w Q :=
  ah mixed ag Tryz.func100 (c := C100) rfl H100 (Nat.le_of_ble_eq_true rfl) (by kernel_rfl) h

noncomputable def C101 : Code := (Tryz.f101.body).getD .skip
noncomputable def H101 : Hints := ⟨[], [], []⟩
def F101 (a0 : Value) (w : World) (Q : Value → World → Prop) : Prop :=
  effv Tryz.prog (Instr.box 44 a0) w fun t1 w =>
  Q (.func (.func 102) #[] #[t1]) w
theorem F101_ok {a0 : Value} {w : World} {Q : Value → World → Prop} (h : F101 a0 w Q) : CallR Tryz.prog 101 [a0] w Q :=
  ah mixed ag Tryz.func101 (c := C101) rfl H101 (Nat.le_of_ble_eq_true rfl) (by kernel_rfl) h

noncomputable def C102 : Code := (Tryz.f102.body).getD .skip
noncomputable def H102 : Hints := ⟨[], [], []⟩
def F102 (a0 a1 : Value) (w : World) (Q : Value → World → Prop) : Prop :=
  effv Tryz.prog (Instr.box 25 a0) w fun t2 w =>
  wpB (ldv Tryz.prog 44 a1 w) fun t4 =>
  wpB (ldv Tryz.prog 25 t2 w) fun t5 =>
  CallR Tryz.prog 103 [t4, t5] w fun t6 w =>
  wpB (pureRun Tryz.prog (Op.unary .not t6)) fun t7 =>
  Q t7 w
theorem F102_ok {a0 a1 : Value} {w : World} {Q : Value → World → Prop} (h : F102 a0 a1 w Q) : CallR Tryz.prog 102 [a0, a1] w Q :=
  ah mixed ag Tryz.func102 (c := C102) rfl H102 (Nat.le_of_ble_eq_true rfl) (by kernel_rfl) h

noncomputable def C104 : Code := (Tryz.f104.body).getD .skip
noncomputable def H104 : Hints := ⟨[], [], []⟩
def F104 (a0 a1 : Value) (w : World) (Q : Value → World → Prop) : Prop :=
  CallR Tryz.prog 112 [a0, a1] w fun t7 w =>
  wpB (bp Tryz.prog .geq 3 t7 (.int .i64 0)) fun t8 =>
  Q t8 w
theorem F104_ok {a0 a1 : Value} {w : World} {Q : Value → World → Prop} (h : F104 a0 a1 w Q) : CallR Tryz.prog 104 [a0, a1] w Q :=
  ah mixed ag Tryz.func104 (c := C104) rfl H104 (Nat.le_of_ble_eq_true rfl) (by kernel_rfl) h

noncomputable def C110 : Code := (Tryz.f110.body).getD .skip
noncomputable def H110 : Hints := ⟨[(2, [0, 1, 7, 8])], [], []⟩
noncomputable def T110_0 : List It := [.lp (nav [1, 0, 1, 4, 5] C110), .blk 0, .jn (nav [1, 1] C110)]
def P110_0 (x0 x1 x7 x8 : Value) (w : World) (Q : Value → World → Prop) : Prop := Part Tryz.prog 110 T110_0 [0, 1, 7, 8] [x0, x1, x7, x8] w Q
def F110 (a0 a1 : Value) (w : World) (Q : Value → World → Prop) : Prop :=
  wpB (pureRun Tryz.prog (Builtin.len_ #[22] 3 #[a0])) fun t7 =>
  P110_0 a0 a1 t7 (.int .i64 0) w Q
def L110_0 (x0 x1 x7 x8 : Value) (w : World) (Q : Value → World → Prop) : Prop :=
  wpB (bp Tryz.prog .lss 3 x8 x7) fun t9 =>
  cnd t9
  (wpB (pureRun Tryz.prog (Instr.indexAt 22 x0 x8)) fun t14 =>
  wpB (ldv Tryz.prog 3 t14 w) fun t15 =>
  evP Tryz.prog (callK (entR 3 113) (some x1) (some [t15])) w fun t16 w =>
  cnd t16
  (Q x8 w)
  (wpB (bp Tryz.prog .add 3 x8 (.int .i64 1)) fun t18 =>
  P110_0 x0 x1 x7 t18 w Q))
  (Q (.int .i64 (-1)) w)
theorem F110_ok {a0 a1 : Value} {w : World} {Q : Value → World → Prop} (h : F110 a0 a1 w Q) : CallR Tryz.prog 110 [a0, a1] w Q :=
  ah mixed ag Tryz.func110 (c := C110) rfl H110 (Nat.le_of_ble_eq_true rfl) (by kernel_rfl) h
theorem L110_0_ok {x0 x1 x7 x8 : Value} {w : World} {Q : Value → World → Prop} (h : L110_0 x0 x1 x7 x8 w Q) : P110_0 x0 x1 x7 x8 w Q :=
  aQ mixed ag Tryz.func110 H110 (by kernel_rfl) h

noncomputable def C112 : Code := (Tryz.f112.body).getD .skip
noncomputable def H112 : Hints := ⟨[(2, [0, 1, 7, 8])], [], []⟩
noncomputable def T112_0 : List It := [.lp (nav [1, 0, 1, 4, 5] C112), .blk 0, .jn (nav [1, 1] C112)]
def P112_0 (x0 x1 x7 x8 : Value) (w : World) (Q : Value → World → Prop) : Prop := Part Tryz.prog 112 T112_0 [0, 1, 7, 8] [x0, x1, x7, x8] w Q
def F112 (a0 a1 : Value) (w : World) (Q : Value → World → Prop) : Prop :=
  wpB (pureRun Tryz.prog (Builtin.len_ #[44] 3 #[a0])) fun t7 =>
  P112_0 a0 a1 t7 (.int .i64 0) w Q
def L112_0 (x0 x1 x7 x8 : Value) (w : World) (Q : Value → World → Prop) : Prop :=
  wpB (bp Tryz.prog .lss 3 x8 x7) fun t9 =>
  cnd t9
  (wpB (pureRun Tryz.prog (Instr.indexAt 44 x0 x8)) fun t14 =>
  wpB (ldv Tryz.prog 25 t14 w) fun t15 =>
  evP Tryz.prog (callK (entR 3 113) (some x1) (some [t15])) w fun t16 w =>
  cnd t16
  (Q x8 w)
  (wpB (bp Tryz.prog .add 3 x8 (.int .i64 1)) fun t18 =>
  P112_0 x0 x1 x7 t18 w Q))
  (Q (.int .i64 (-1)) w)
theorem F112_ok {a0 a1 : Value} {w : World} {Q : Value → World → Prop} (h : F112 a0 a1 w Q) : CallR Tryz.prog 112 [a0, a1] w Q :=
  ah mixed ag Tryz.func112 (c := C112) rfl H112 (Nat.le_of_ble_eq_true rfl) (by kernel_rfl) h
theorem L112_0_ok {x0 x1 x7 x8 : Value} {w : World} {Q : Value → World → Prop} (h : L112_0 x0 x1 x7 x8 w Q) : P112_0 x0 x1 x7 x8 w Q :=
  aQ mixed ag Tryz.func112 H112 (by kernel_rfl) h
end Go.Proofs.YtgamnncehjcdiaaGreat

namespace Go.Proofs.YtgamnncehjcdiaaGreat
open Go Ev Go.RowKit

section
theorem evP_call {P : Program} {ent : FuncId → Bool} {g : FuncId} {first cap : Array Value} {vs args : List Value} {w : World} {K : Value → World → Prop} (h : ent g = true) (ha : first.toList ++ vs ++ cap.toList = args) (hc : CallR P g args w K) :
    evP P (callK ent (some (.func (.func g) first cap)) (some vs)) w K := by
  subst ha; simp only [callK, h, cond_true, evP]; exact hc
theorem evG_call {P : Program} {ent : FuncId → Bool} {g : FuncId} {first cap : Array Value} {vs args : List Value} {w : World} {K : Value → World → Prop} (h : ent g = true) (ha : first.toList ++ vs ++ cap.toList = args) (hc : CallR P g args w K) :
    evG P (callK ent (some (.func (.func g) first cap)) (some vs)) (.bool true) true w K := by
  rw [evG_yes rfl]; exact evP_call h ha hc
theorem rdI_of {w : World} {A : Option Addr} {L : List Int} (h : RdV w A (ints L)) : RdI .i64 w A L := fun i hi => by
  obtain ⟨p, hp, hc⟩ := h i (.int .i64 (L.getD i 0)) (by simp only [ints, List.getElem?_map, List.getElem?_eq_getElem hi, List.getD_eq_getElem?_getD]; rfl)
  exact ⟨p, hp, hc⟩
set_option maxHeartbeats 400000 in
theorem c_iHas {w : World} {A : Option Addr} {c : Nat} {L : List Int} (hR : RdI .i64 w A L) (hl : L.length ≤ 1000000) (x : Int) : CallR Tryz.prog 94 [.slice A L.length c, .int .i64 x] w fun v w' => v = .bool (decide (x ∈ L)) ∧ w' = w := by
  apply F94_ok
  simp -implicitDefEqProofs only [F94]
  refine (c_iIndex (c := c) hR hl x).step ?_
  simp -implicitDefEqProofs only [zS, aH]
  exact ⟨by rw [ixOf_mem], trivial⟩
set_option maxHeartbeats 1000000 in
theorem c_al2N {w : World} {A : Option Addr} {c gl : Nat} {e : TypeId} {L : List NmV} (hg : hp w gl = some (.cells #[.slice A L.length c] e)) (hR : RdV w A (L.flatMap nmC)) (hl : L.length ≤ 1000000) (x : NmV) :
    CallR Tryz.prog 68 [.agg (nmC x).toArray, .pointer (some ⟨gl, 0, none⟩)] w fun v w' => v = .bool (!decide (x ∈ L)) ∧ Chg [] w w' := by
  apply F68_ok
  have hbox : hp (w.alloc (.cells (nmC x).toArray 84)) w.heap.size = some (.cells (nmC x).toArray 84) := by rw [ac, if_pos rfl]
  have hc0 : Chg [] w (w.alloc (.cells (nmC x).toArray 84)) := (Chg.refl _ _).alloc _
  simp -implicitDefEqProofs only [F68, aE, aB]
  generalize w.alloc (.cells (nmC x).toArray 84) = w0 at *
  have lg : ldv Tryz.prog 79 (.pointer (some ⟨gl, 0, none⟩)) w0 = some (.slice A L.length c) := by rw [ld_79, hc0.at hg (by simp)]; rfl
  simp -implicitDefEqProofs only [lg, aG (t := 84) (c := (nmC x).toArray) ag_84 (show (Tryz.prog.info? 84).map (·.size) = some (nmC x).toArray.size from sz_84) hbox, ad]
  refine (c_nContains (c := c) (hR.keep hc0.below) hl x).mono ?_
  rintro _ w1 ⟨rfl, c1⟩
  simp -implicitDefEqProofs only [pr_not, ad]
  exact ⟨by trivial, hc0.trans c1⟩
set_option maxHeartbeats 1000000 in
theorem c_ixN {w : World} {A A1 : Option Addr} {c c1 gl : Nat} {e : TypeId} {L L1 : List NmV} (h1 : RdV w A1 (L1.flatMap nmC)) (l1 : L1.length ≤ 1000000) (hg : hp w gl = some (.cells #[.slice A L.length c] e)) (hR : RdV w A (L.flatMap nmC)) (hl : L.length ≤ 1000000) (hs : ∀ x ∈ L1, x ∈ L) :
    CallR Tryz.prog 97 [.slice A1 L1.length c1, .func (.func 68) #[] #[.pointer (some ⟨gl, 0, none⟩)]] w fun v w' => v = .int .i64 (-1) ∧ Chg [] w w' := by
  apply F97_ok
  simp -implicitDefEqProofs only [F97, ad, len_79]
  have main : ∀ (d i : Nat) (w1 : World), Chg [] w w1 → i + d = L1.length →
      P97_0 (.slice A1 L1.length c1) (.func (.func 68) #[] #[.pointer (some ⟨gl, 0, none⟩)]) (.int .i64 L1.length) (.int .i64 i) w1 fun v w' => v = .int .i64 (-1) ∧ Chg [] w w' := by
    intro d
    induction d with
    | zero =>
      intro i w1 hc hi
      apply L97_0_ok
      have : ¬ (i : Int) < L1.length := by omega
      simp -implicitDefEqProofs only [L97_0, zS, this]
      exact ⟨by trivial, hc⟩
    | succ d ih =>
      intro i w1 hc hi
      apply L97_0_ok
      have hlt : (i : Int) < L1.length := by omega
      have hil : i < L1.length := by omega
      obtain ⟨y, hy⟩ : ∃ y, L1[i]? = some y := ⟨_, List.getElem?_eq_getElem hil⟩
      obtain ⟨b, o, q1, _, q3, _⟩ := (h1.keep hc.below).elem (P := Tryz.prog) (c := c1) (n := L1.length) (i := (i : Int)) (j := .i64) Tryz.underlying79 sz_84 (by omega) (by rw [bf nmC_len]; exact Nat.le_refl _) (by omega) (by omega)
      have hyl : L1[i] = y := by rw [List.getElem?_eq_getElem hil] at hy; exact Option.some.inj hy
      rw [Int.toNat_natCast, flat_at nmC_len L1 i hil, hyl] at q3
      have ly : ldv Tryz.prog 84 (.pointer (some ⟨b, o, none⟩)) w1 = some (.agg (nmC y).toArray) := by rw [ld_84, q3]; rfl
      simp -implicitDefEqProofs only [L97_0, zS, hlt, q1, ly]
      refine evP_call rfl rfl ?_
      refine (c_al2N (hc.at hg (by simp)) (hR.keep hc.below) hl y).mono ?_
      rintro _ w2 ⟨rfl, c2⟩
      have hm : decide (y ∈ L) = true := decide_eq_true (hs y (List.mem_of_getElem? hy))
      simp -implicitDefEqProofs only [hm, zS, aA, az (n := (i : Int) + 1) (by omega) (by omega)]
      have := ih (i + 1) w2 (hc.trans c2) (by omega)
      rw [Int.natCast_add i 1] at this
      exact this
  exact main L1.length 0 w (Chg.refl _ _) (by omega)
theorem c_cfN {w : World} {A A1 : Option Addr} {c c1 gl : Nat} {e : TypeId} {L L1 : List NmV} (h1 : RdV w A1 (L1.flatMap nmC)) (l1 : L1.length ≤ 1000000) (hg : hp w gl = some (.cells #[.slice A L.length c] e)) (hR : RdV w A (L.flatMap nmC)) (hl : L.length ≤ 1000000) (hs : ∀ x ∈ L1, x ∈ L) :
    CallR Tryz.prog 69 [.slice A1 L1.length c1, .func (.func 68) #[] #[.pointer (some ⟨gl, 0, none⟩)]] w fun v w' => v = .bool false ∧ Chg [] w w' := by
  apply F69_ok
  simp -implicitDefEqProofs only [F69]
  refine (c_ixN h1 l1 hg hR hl hs).mono ?_
  rintro _ w1 ⟨rfl, c1⟩
  simp -implicitDefEqProofs only [aH, ad]
  exact ⟨rfl, c1⟩
theorem c_al1N (w : World) (A : Option Addr) (n c : Nat) : CallR Tryz.prog 67 [.slice A n c] w fun v w' => v = .func (.func 68) #[] #[.pointer (some ⟨w.heap.size, 0, none⟩)] ∧ hp w' w.heap.size = some (.cells #[.slice A n c] 79) ∧ Chg [] w w' := by
  apply F67_ok
  simp -implicitDefEqProofs only [F67, aE]
  exact ⟨by trivial, by rw [ac, if_pos rfl]; rfl, (Chg.refl _ _).alloc _⟩
set_option maxHeartbeats 1000000 in
theorem c_alN {w : World} {A A1 : Option Addr} {c c1 : Nat} {L : List NmV} (h : RdV w A (L.flatMap nmC)) (h1 : RdV w A1 (L.flatMap nmC)) (hl : L.length ≤ 1000000) :
    CallR Tryz.prog 43 [.slice A L.length c, .slice A1 L.length c1] w fun v w' => v = .bool true ∧ Chg [] w w' := by
  apply F43_ok
  simp -implicitDefEqProofs only [F43, zS, len_79]
  refine evG_call rfl rfl ?_
  refine (c_al1N w A1 L.length c1).mono ?_
  rintro _ w1 ⟨rfl, g1, k1⟩
  try simp -implicitDefEqProofs only [zS]
  refine (c_cfN (h.keep k1.below) hl g1 (h1.keep k1.below) hl fun x hx => hx).mono ?_
  rintro _ w2 ⟨rfl, k2⟩
  simp -implicitDefEqProofs only [zS]
  refine evG_call rfl rfl ?_
  refine (c_al1N w2 A L.length c).mono ?_
  rintro _ w3 ⟨rfl, g3, k3⟩
  have k02 := k1.trans k2
  have k03 := k02.trans k3
  try simp -implicitDefEqProofs only [zS]
  refine (c_cfN (h1.keep k03.below) hl g3 (h.keep k03.below) hl fun x hx => hx).mono ?_
  rintro _ w4 ⟨rfl, k4⟩
  simp -implicitDefEqProofs only [zS]
  exact ⟨by trivial, k03.trans k4⟩
set_option maxHeartbeats 1000000 in
theorem c_al2H {w : World} {A : Option Addr} {c gl : Nat} {e : TypeId} {L : List HnV} (hg : hp w gl = some (.cells #[.slice A L.length c] e)) (hR : RdV w A (L.flatMap hnC)) (hl : L.length ≤ 1000000) (x : HnV) :
    CallR Tryz.prog 102 [.agg (hnC x).toArray, .pointer (some ⟨gl, 0, none⟩)] w fun v w' => v = .bool (!decide (x ∈ L)) ∧ Chg [] w w' := by
  apply F102_ok
  have hbox : hp (w.alloc (.cells (hnC x).toArray 25)) w.heap.size = some (.cells (hnC x).toArray 25) := by rw [ac, if_pos rfl]
  have hc0 : Chg [] w (w.alloc (.cells (hnC x).toArray 25)) := (Chg.refl _ _).alloc _
  simp -implicitDefEqProofs only [F102, aE, aB]
  generalize w.alloc (.cells (hnC x).toArray 25) = w0 at *
  have lg : ldv Tryz.prog 44 (.pointer (some ⟨gl, 0, none⟩)) w0 = some (.slice A L.length c) := by rw [ld_44, hc0.at hg (by simp)]; rfl
  simp -implicitDefEqProofs only [lg, aG (t := 25) (c := (hnC x).toArray) ag_25 (show (Tryz.prog.info? 25).map (·.size) = some (hnC x).toArray.size from sz_25) hbox, ad]
  refine (c_hContains (c := c) (hR.keep hc0.below) hl x).mono ?_
  rintro _ w1 ⟨rfl, c1⟩
  simp -implicitDefEqProofs only [pr_not, ad]
  exact ⟨by trivial, hc0.trans c1⟩
set_option maxHeartbeats 1000000 in
theorem c_ixH {w : World} {A A1 : Option Addr} {c c1 gl : Nat} {e : TypeId} {L L1 : List HnV} (h1 : RdV w A1 (L1.flatMap hnC)) (l1 : L1.length ≤ 1000000) (hg : hp w gl = some (.cells #[.slice A L.length c] e)) (hR : RdV w A (L.flatMap hnC)) (hl : L.length ≤ 1000000) (hs : ∀ x ∈ L1, x ∈ L) :
    CallR Tryz.prog 112 [.slice A1 L1.length c1, .func (.func 102) #[] #[.pointer (some ⟨gl, 0, none⟩)]] w fun v w' => v = .int .i64 (-1) ∧ Chg [] w w' := by
  apply F112_ok
  simp -implicitDefEqProofs only [F112, ad, len_44]
  have main : ∀ (d i : Nat) (w1 : World), Chg [] w w1 → i + d = L1.length →
      P112_0 (.slice A1 L1.length c1) (.func (.func 102) #[] #[.pointer (some ⟨gl, 0, none⟩)]) (.int .i64 L1.length) (.int .i64 i) w1 fun v w' => v = .int .i64 (-1) ∧ Chg [] w w' := by
    intro d
    induction d with
    | zero =>
      intro i w1 hc hi
      apply L112_0_ok
      have : ¬ (i : Int) < L1.length := by omega
      simp -implicitDefEqProofs only [L112_0, zS, this]
      exact ⟨by trivial, hc⟩
    | succ d ih =>
      intro i w1 hc hi
      apply L112_0_ok
      have hlt : (i : Int) < L1.length := by omega
      have hil : i < L1.length := by omega
      obtain ⟨y, hy⟩ : ∃ y, L1[i]? = some y := ⟨_, List.getElem?_eq_getElem hil⟩
      obtain ⟨b, o, q1, _, q3, _⟩ := (h1.keep hc.below).elem (P := Tryz.prog) (c := c1) (n := L1.length) (i := (i : Int)) (j := .i64) Tryz.underlying44 sz_25 (by omega) (by rw [bf hnC_len]; exact Nat.le_refl _) (by omega) (by omega)
      have hyl : L1[i] = y := by rw [List.getElem?_eq_getElem hil] at hy; exact Option.some.inj hy
      rw [Int.toNat_natCast, flat_at hnC_len L1 i hil, hyl] at q3
      have ly : ldv Tryz.prog 25 (.pointer (some ⟨b, o, none⟩)) w1 = some (.agg (hnC y).toArray) := by rw [ld_25, q3]; rfl
      simp -implicitDefEqProofs only [L112_0, zS, hlt, q1, ly]
      refine evP_call rfl rfl ?_
      refine (c_al2H (hc.at hg (by simp)) (hR.keep hc.below) hl y).mono ?_
      rintro _ w2 ⟨rfl, c2⟩
      have hm : decide (y ∈ L) = true := decide_eq_true (hs y (List.mem_of_getElem? hy))
      simp -implicitDefEqProofs only [hm, zS, aA, az (n := (i : Int) + 1) (by omega) (by omega)]
      have := ih (i + 1) w2 (hc.trans c2) (by omega)
      rw [Int.natCast_add i 1] at this
      exact this
  exact main L1.length 0 w (Chg.refl _ _) (by omega)
theorem c_cfH {w : World} {A A1 : Option Addr} {c c1 gl : Nat} {e : TypeId} {L L1 : List HnV} (h1 : RdV w A1 (L1.flatMap hnC)) (l1 : L1.length ≤ 1000000) (hg : hp w gl = some (.cells #[.slice A L.length c] e)) (hR : RdV w A (L.flatMap hnC)) (hl : L.length ≤ 1000000) (hs : ∀ x ∈ L1, x ∈ L) :
    CallR Tryz.prog 104 [.slice A1 L1.length c1, .func (.func 102) #[] #[.pointer (some ⟨gl, 0, none⟩)]] w fun v w' => v = .bool false ∧ Chg [] w w' := by
  apply F104_ok
  simp -implicitDefEqProofs only [F104]
  refine (c_ixH h1 l1 hg hR hl hs).mono ?_
  rintro _ w1 ⟨rfl, c1⟩
  simp -implicitDefEqProofs only [aH, ad]
  exact ⟨rfl, c1⟩
theorem c_al1H (w : World) (A : Option Addr) (n c : Nat) : CallR Tryz.prog 101 [.slice A n c] w fun v w' => v = .func (.func 102) #[] #[.pointer (some ⟨w.heap.size, 0, none⟩)] ∧ hp w' w.heap.size = some (.cells #[.slice A n c] 44) ∧ Chg [] w w' := by
  apply F101_ok
  simp -implicitDefEqProofs only [F101, aE]
  exact ⟨by trivial, by rw [ac, if_pos rfl]; rfl, (Chg.refl _ _).alloc _⟩
set_option maxHeartbeats 1000000 in
theorem c_alH {w : World} {A A1 : Option Addr} {c c1 : Nat} {L : List HnV} (h : RdV w A (L.flatMap hnC)) (h1 : RdV w A1 (L.flatMap hnC)) (hl : L.length ≤ 1000000) :
    CallR Tryz.prog 72 [.slice A L.length c, .slice A1 L.length c1] w fun v w' => v = .bool true ∧ Chg [] w w' := by
  apply F72_ok
  simp -implicitDefEqProofs only [F72, zS, len_44]
  refine evG_call rfl rfl ?_
  refine (c_al1H w A1 L.length c1).mono ?_
  rintro _ w1 ⟨rfl, g1, k1⟩
  try simp -implicitDefEqProofs only [zS]
  refine (c_cfH (h.keep k1.below) hl g1 (h1.keep k1.below) hl fun x hx => hx).mono ?_
  rintro _ w2 ⟨rfl, k2⟩
  simp -implicitDefEqProofs only [zS]
  refine evG_call rfl rfl ?_
  refine (c_al1H w2 A L.length c).mono ?_
  rintro _ w3 ⟨rfl, g3, k3⟩
  have k02 := k1.trans k2
  have k03 := k02.trans k3
  try simp -implicitDefEqProofs only [zS]
  refine (c_cfH (h1.keep k03.below) hl g3 (h.keep k03.below) hl fun x hx => hx).mono ?_
  rintro _ w4 ⟨rfl, k4⟩
  simp -implicitDefEqProofs only [zS]
  exact ⟨by trivial, k03.trans k4⟩
set_option maxHeartbeats 1000000 in
theorem c_al2I {w : World} {A : Option Addr} {c gl : Nat} {e : TypeId} {L : List Int} (hg : hp w gl = some (.cells #[.slice A L.length c] e)) (hR : RdV w A (ints L)) (hl : L.length ≤ 1000000) (x : Int) :
    CallR Tryz.prog 99 [.int .i64 x, .pointer (some ⟨gl, 0, none⟩)] w fun v w' => v = .bool (!decide (x ∈ L)) ∧ Chg [] w w' := by
  apply F99_ok
  have lg : ldv Tryz.prog 22 (.pointer (some ⟨gl, 0, none⟩)) w = some (.slice A L.length c) := by rw [aY, hg]; rfl
  simp -implicitDefEqProofs only [F99, lg, ad]
  refine (c_iHas (c := c) (rdI_of hR) hl x).mono ?_
  rintro _ w1 ⟨rfl, rfl⟩
  simp -implicitDefEqProofs only [pr_not, ad]
  exact ⟨by trivial, Chg.refl _ _⟩
set_option maxHeartbeats 1000000 in
theorem c_ixI {w : World} {A A1 : Option Addr} {c c1 gl : Nat} {e : TypeId} {L L1 : List Int} (h1 : RdV w A1 (ints L1)) (l1 : L1.length ≤ 1000000) (hg : hp w gl = some (.cells #[.slice A L.length c] e)) (hR : RdV w A (ints L)) (hl : L.length ≤ 1000000) (hs : ∀ x ∈ L1, x ∈ L) :
    CallR Tryz.prog 110 [.slice A1 L1.length c1, .func (.func 99) #[] #[.pointer (some ⟨gl, 0, none⟩)]] w fun v w' => v = .int .i64 (-1) ∧ Chg [] w w' := by
  apply F110_ok
  simp -implicitDefEqProofs only [F110, ad, len_22]
  have main : ∀ (d i : Nat) (w1 : World), Chg [] w w1 → i + d = L1.length →
      P110_0 (.slice A1 L1.length c1) (.func (.func 99) #[] #[.pointer (some ⟨gl, 0, none⟩)]) (.int .i64 L1.length) (.int .i64 i) w1 fun v w' => v = .int .i64 (-1) ∧ Chg [] w w' := by
    intro d
    induction d with
    | zero =>
      intro i w1 hc hi
      apply L110_0_ok
      have : ¬ (i : Int) < L1.length := by omega
      simp -implicitDefEqProofs only [L110_0, zS, this]
      exact ⟨by trivial, hc⟩
    | succ d ih =>
      intro i w1 hc hi
      apply L110_0_ok
      have hlt : (i : Int) < L1.length := by omega
      have hil : i < L1.length := by omega
      obtain ⟨y, hy⟩ : ∃ y, L1[i]? = some y := ⟨_, List.getElem?_eq_getElem hil⟩
      obtain ⟨b, o, q1, q3, _⟩ := (h1.keep hc.below).elem1 (P := Tryz.prog) (c := c1) (n := L1.length) (i := (i : Int)) (j := .i64) Tryz.underlying22 sz_3 (by simp [ints]) (by omega) (by omega)
      rw [Int.toNat_natCast, ints, List.getElem?_map, hy, Option.map_some] at q3
      have ly : ldv Tryz.prog 3 (.pointer (some ⟨b, o, none⟩)) w1 = some (.int .i64 y) := by rw [af, q3]
      simp -implicitDefEqProofs only [L110_0, zS, hlt, q1, ly]
      refine evP_call rfl rfl ?_
      refine (c_al2I (hc.at hg (by simp)) (hR.keep hc.below) hl y).mono ?_
      rintro _ w2 ⟨rfl, c2⟩
      have hm : decide (y ∈ L) = true := decide_eq_true (hs y (List.mem_of_getElem? hy))
      simp -implicitDefEqProofs only [hm, zS, aA, az (n := (i : Int) + 1) (by omega) (by omega)]
      have := ih (i + 1) w2 (hc.trans c2) (by omega)
      rw [Int.natCast_add i 1] at this
      exact this
  exact main L1.length 0 w (Chg.refl _ _) (by omega)
theorem c_cfI {w : World} {A A1 : Option Addr} {c c1 gl : Nat} {e : TypeId} {L L1 : List Int} (h1 : RdV w A1 (ints L1)) (l1 : L1.length ≤ 1000000) (hg : hp w gl = some (.cells #[.slice A L.length c] e)) (hR : RdV w A (ints L)) (hl : L.length ≤ 1000000) (hs : ∀ x ∈ L1, x ∈ L) :
    CallR Tryz.prog 100 [.slice A1 L1.length c1, .func (.func 99) #[] #[.pointer (some ⟨gl, 0, none⟩)]] w fun v w' => v = .bool false ∧ Chg [] w w' := by
  apply F100_ok
  simp -implicitDefEqProofs only [F100]
  refine (c_ixI h1 l1 hg hR hl hs).mono ?_
  rintro _ w1 ⟨rfl, c1⟩
  simp -implicitDefEqProofs only [aH, ad]
  exact ⟨rfl, c1⟩
theorem c_al1I (w : World) (A : Option Addr) (n c : Nat) : CallR Tryz.prog 98 [.slice A n c] w fun v w' => v = .func (.func 99) #[] #[.pointer (some ⟨w.heap.size, 0, none⟩)] ∧ hp w' w.heap.size = some (.cells #[.slice A n c] 22) ∧ Chg [] w w' := by
  apply F98_ok
  simp -implicitDefEqProofs only [F98, aE]
  exact ⟨by trivial, by rw [ac, if_pos rfl]; rfl, (Chg.refl _ _).alloc _⟩
set_option maxHeartbeats 1000000 in
theorem c_alI {w : World} {A A1 : Option Addr} {c c1 : Nat} {L : List Int} (h : RdV w A (ints L)) (h1 : RdV w A1 (ints L)) (hl : L.length ≤ 1000000) :
    CallR Tryz.prog 70 [.slice A L.length c, .slice A1 L.length c1] w fun v w' => v = .bool true ∧ Chg [] w w' := by
  apply F70_ok
  simp -implicitDefEqProofs only [F70, zS, len_22]
  refine evG_call rfl rfl ?_
  refine (c_al1I w A1 L.length c1).mono ?_
  rintro _ w1 ⟨rfl, g1, k1⟩
  try simp -implicitDefEqProofs only [zS]
  refine (c_cfI (h.keep k1.below) hl g1 (h1.keep k1.below) hl fun x hx => hx).mono ?_
  rintro _ w2 ⟨rfl, k2⟩
  simp -implicitDefEqProofs only [zS]
  refine evG_call rfl rfl ?_
  refine (c_al1I w2 A L.length c).mono ?_
  rintro _ w3 ⟨rfl, g3, k3⟩
  have k02 := k1.trans k2
  have k03 := k02.trans k3
  try simp -implicitDefEqProofs only [zS]
  refine (c_cfI (h1.keep k03.below) hl g3 (h.keep k03.below) hl fun x hx => hx).mono ?_
  rintro _ w4 ⟨rfl, k4⟩
  simp -implicitDefEqProofs only [zS]
  exact ⟨by trivial, k03.trans k4⟩
set_option maxHeartbeats 1000000 in
theorem c_eqSlot {w : World} {A A1 : Option Addr} {c c1 : Nat} {L : List NmV} (h : RdV w A (L.flatMap nmC)) (h1 : RdV w A1 (L.flatMap nmC)) (hl : L.length ≤ 1000000) :
    CallR Tryz.prog 42 [.slice A L.length c, .slice A1 L.length c1] w fun v w' => v = .bool true ∧ Chg [] w w' := by
  apply F42_ok
  simp -implicitDefEqProofs only [F42, zS, len_70]
  have main : ∀ (d i : Nat) (w1 : World), Chg [] w w1 → i + d = L.length →
      P42_0 (.slice A L.length c) (.slice A1 L.length c1) (.int .i64 L.length) (.int .i64 i) w1 fun v w' => v = .bool true ∧ Chg [] w w' := by
    intro d
    induction d with
    | zero =>
      intro i w1 hc hi
      apply L42_0_ok
      have : ¬ (i : Int) < L.length := by omega
      simp -implicitDefEqProofs only [L42_0, zS, this]
      exact ⟨by trivial, hc⟩
    | succ d ih =>
      intro i w1 hc hi
      apply L42_0_ok
      have hlt : (i : Int) < L.length := by omega
      have hil : i < L.length := by omega
      obtain ⟨y, hy⟩ : ∃ y, L[i]? = some y := ⟨_, List.getElem?_eq_getElem hil⟩
      have hyl : L[i] = y := by rw [List.getElem?_eq_getElem hil] at hy; exact Option.some.inj hy
      obtain ⟨b, o, q1, _, q3, _⟩ := (h.keep hc.drew.below).elem (P := Tryz.prog) (c := c) (n := L.length) (i := (i : Int)) (j := .i64) Tryz.underlying70 sz_77 (by omega) (by rw [bf nmC_len]; exact Nat.le_refl _) (by omega) (by omega)
      rw [Int.toNat_natCast, flat_at nmC_len L i hil, hyl] at q3
      have ly : ldv Tryz.prog 77 (.pointer (some ⟨b, o, none⟩)) w1.drew = some (.agg (nmC y).toArray) := by rw [ld_77, q3]; rfl
      obtain ⟨b', o', q1', _, q3', _⟩ := (h1.keep hc.drew.below).elem (P := Tryz.prog) (c := c1) (n := L.length) (i := (i : Int)) (j := .i64) Tryz.underlying70 sz_77 (by omega) (by rw [bf nmC_len]; exact Nat.le_refl _) (by omega) (by omega)
      rw [Int.toNat_natCast, flat_at nmC_len L i hil, hyl] at q3'
      have ly' : ldv Tryz.prog 77 (.pointer (some ⟨b', o', none⟩)) w1.drew = some (.agg (nmC y).toArray) := by rw [ld_77, q3']; rfl
      have hbe : be Tryz.prog .neq 77 (.tmp 19) (.tmp 23) (.agg (nmC y).toArray) (.agg (nmC y).toArray) = some (.bool false) := be_neq_77.trans (by simp)
      simp -implicitDefEqProofs only [L42_0, zS, hlt, q1, q1', ly, ly', hbe, aA, az (n := (i : Int) + 1) (by omega) (by omega)]
      have := ih (i + 1) w1.drew hc.drew (by omega)
      rw [Int.natCast_add i 1] at this
      exact this
  exact main L.length 0 w (Chg.refl _ _) (by omega)
set_option maxHeartbeats 1000000 in
theorem c_eqHandle {w : World} {A A1 : Option Addr} {c c1 : Nat} {L : List HnV} (h : RdV w A (L.flatMap hnC)) (h1 : RdV w A1 (L.flatMap hnC)) (hl : L.length ≤ 1000000) :
    CallR Tryz.prog 71 [.slice A L.length c, .slice A1 L.length c1] w fun v w' => v = .bool true ∧ Chg [] w w' := by
  apply F71_ok
  simp -implicitDefEqProofs only [F71, zS, len_44]
  have main : ∀ (d i : Nat) (w1 : World), Chg [] w w1 → i + d = L.length →
      P71_0 (.slice A L.length c) (.slice A1 L.length c1) (.int .i64 L.length) (.int .i64 i) w1 fun v w' => v = .bool true ∧ Chg [] w w' := by
    intro d
    induction d with
    | zero =>
      intro i w1 hc hi
      apply L71_0_ok
      have : ¬ (i : Int) < L.length := by omega
      simp -implicitDefEqProofs only [L71_0, zS, this]
      exact ⟨by trivial, hc⟩
    | succ d ih =>
      intro i w1 hc hi
      apply L71_0_ok
      have hlt : (i : Int) < L.length := by omega
      have hil : i < L.length := by omega
      obtain ⟨y, hy⟩ : ∃ y, L[i]? = some y := ⟨_, List.getElem?_eq_getElem hil⟩
      have hyl : L[i] = y := by rw [List.getElem?_eq_getElem hil] at hy; exact Option.some.inj hy
      obtain ⟨b, o, q1, _, q3, _⟩ := (h.keep hc.drew.below).elem (P := Tryz.prog) (c := c) (n := L.length) (i := (i : Int)) (j := .i64) Tryz.underlying44 sz_25 (by omega) (by rw [bf hnC_len]; exact Nat.le_refl _) (by omega) (by omega)
      rw [Int.toNat_natCast, flat_at hnC_len L i hil, hyl] at q3
      have ly : ldv Tryz.prog 25 (.pointer (some ⟨b, o, none⟩)) w1.drew = some (.agg (hnC y).toArray) := by rw [ld_25, q3]; rfl
      obtain ⟨b', o', q1', _, q3', _⟩ := (h1.keep hc.drew.below).elem (P := Tryz.prog) (c := c1) (n := L.length) (i := (i : Int)) (j := .i64) Tryz.underlying44 sz_25 (by omega) (by rw [bf hnC_len]; exact Nat.le_refl _) (by omega) (by omega)
      rw [Int.toNat_natCast, flat_at hnC_len L i hil, hyl] at q3'
      have ly' : ldv Tryz.prog 25 (.pointer (some ⟨b', o', none⟩)) w1.drew = some (.agg (hnC y).toArray) := by rw [ld_25, q3']; rfl
      have hbe : be Tryz.prog .neq 25 (.tmp 19) (.tmp 23) (.agg (hnC y).toArray) (.agg (hnC y).toArray) = some (.bool false) := be_neq_25.trans (by simp)
      simp -implicitDefEqProofs only [L71_0, zS, hlt, q1, q1', ly, ly', hbe, aA, az (n := (i : Int) + 1) (by omega) (by omega)]
      have := ih (i + 1) w1.drew hc.drew (by omega)
      rw [Int.natCast_add i 1] at this
      exact this
  exact main L.length 0 w (Chg.refl _ _) (by omega)
set_option maxHeartbeats 1000000 in
theorem c_eqU64 {w : World} {A A1 : Option Addr} {c c1 : Nat} {L : List Int} (h : RdV w A (u64s L)) (h1 : RdV w A1 (u64s L)) (hl : L.length ≤ 1000000) :
    CallR Tryz.prog 73 [.slice A L.length c, .slice A1 L.length c1] w fun v w' => v = .bool true ∧ Chg [] w w' := by
  apply F73_ok
  simp -implicitDefEqProofs only [F73, zS, len_93]
  have main : ∀ (d i : Nat) (w1 : World), Chg [] w w1 → i + d = L.length →
      P73_0 (.slice A L.length c) (.slice A1 L.length c1) (.int .i64 L.length) (.int .i64 i) w1 fun v w' => v = .bool true ∧ Chg [] w w' := by
    intro d
    induction d with
    | zero =>
      intro i w1 hc hi
      apply L73_0_ok
      have : ¬ (i : Int) < L.length := by omega
      simp -implicitDefEqProofs only [L73_0, zS, this]
      exact ⟨by trivial, hc⟩
    | succ d ih =>
      intro i w1 hc hi
      apply L73_0_ok
      have hlt : (i : Int) < L.length := by omega
      have hil : i < L.length := by omega
      obtain ⟨y, hy⟩ : ∃ y, L[i]? = some y := ⟨_, List.getElem?_eq_getElem hil⟩
      obtain ⟨b, o, q1, q3, _⟩ := (h.keep hc.drew.below).elem1 (P := Tryz.prog) (c := c) (n := L.length) (i := (i : Int)) (j := .i64) Tryz.underlying93 sz_26 (by simp [u64s]) (by omega) (by omega)
      rw [Int.toNat_natCast, u64s, List.getElem?_map, hy, Option.map_some] at q3
      have ly : ldv Tryz.prog 26 (.pointer (some ⟨b, o, none⟩)) w1.drew = some (.int .u64 y) := by rw [ld_26, q3]
      obtain ⟨b', o', q1', q3', _⟩ := (h1.keep hc.drew.below).elem1 (P := Tryz.prog) (c := c1) (n := L.length) (i := (i : Int)) (j := .i64) Tryz.underlying93 sz_26 (by simp [u64s]) (by omega) (by omega)
      rw [Int.toNat_natCast, u64s, List.getElem?_map, hy, Option.map_some] at q3'
      have ly' : ldv Tryz.prog 26 (.pointer (some ⟨b', o', none⟩)) w1.drew = some (.int .u64 y) := by rw [ld_26, q3']
      simp -implicitDefEqProofs only [L73_0, zS, hlt, q1, q1', ly, ly', aA, az (n := (i : Int) + 1) (by omega) (by omega)]
      have := ih (i + 1) w1.drew hc.drew (by omega)
      rw [Int.natCast_add i 1] at this
      exact this
  exact main L.length 0 w (Chg.refl _ _) (by omega)
end
end Go.Proofs.YtgamnncehjcdiaaGreat

namespace Go.Proofs.YtgamnncehjcdiaaGreat
open Go Ev Go.RowKit

section
theorem pr_slice_lh {P : Program} {t e : TypeId} {z n c : Nat} {A : Option Addr} {k : IntKind} {l h : Int} (hs : P.underlying t = some (.slice e)) (hz : (P.info? e).map (·.size) = some z) (h0 : 0 ≤ l) (h1 : l ≤ h) (h2 : h ≤ c) :
    pureRun P (Instr.sliceAt t (.slice A n c) (some (.int k l)) (some (.int k h)) none) = some (.slice (if c = l.toNat then A else A.map (·.add (l.toNat * z))) (h.toNat - l.toNat) (c - l.toNat)) := au fun w => by
  obtain ⟨i, hi, hz⟩ := Option.map_eq_some_iff.1 hz
  have hb : (Instr.sliceBound (.int k h) c .sliceAcap).run P w = .ok h.toNat w := by simp [Instr.sliceBound, asIntOf, show (0 : Int) ≤ h by omega, h2]
  have hb2 : (Instr.sliceBound (.int k l) h.toNat .sliceB).run P w = .ok l.toNat w := by
    have : l ≤ (h.toNat : Int) := by omega
    simp [Instr.sliceBound, asIntOf, h0, this]
    intro h9; omega
  simp [Instr.sliceAt, Instr.slice, run_underlying hs, Instr.sliceBounds, hb, hb2, sizeOf, typeInfo, hi, hz]
theorem words_at {w : World} {F : Fp} {L : List (List Int)} {x : Value} (h : wordsT L w F x) : ∃ (A : Option Addr) (c : Nat) (vs : List Value), x = .slice A L.length c ∧ vs.length = L.length ∧ RdV w A vs ∧ ∀ (i : Nat) (l : List Int) (v : Value), L[i]? = some l → vs[i]? = some v → ∃ A' c', v = .slice A' l.length c' ∧ RdV w A' (u64s l) ∧ l.length ≤ c' := by
  obtain ⟨A, c, xs, Fs, rfl, hR, hl, hP, _⟩ := isRow.rd h
  refine ⟨A, c, xs, rfl, by omega, hR, fun i l v hi hv => ?_⟩
  have h2 : wordT l w (Fs i) v := hP.each i (wordT l) v (by rw [List.getElem?_map, hi]; rfl) hv
  obtain ⟨h1, _⟩ := flat_own h2
  obtain ⟨A', c', e, r, _⟩ := rdV_of_own h1
  refine ⟨A', c', e, r, ?_⟩
  rcases h1.2 with ⟨e1, h0⟩ | ⟨g, cap, cur, e1, _, _, hnc, _⟩
  · omega
  · rw [e1] at e; cases e; exact hnc
def objW (r : RgV) (h : HnV) : List Int := ((chunkW r h.2.2.1).drop h.2.2.2.1.toNat).take h.2.2.2.2.toNat
theorem u64s_drop (L : List Int) (n : Nat) : u64s (L.drop n) = (u64s L).drop n := List.map_drop
theorem u64s_take (L : List Int) (n : Nat) : u64s (L.take n) = (u64s L).take n := List.map_take
set_option maxHeartbeats 4000000 in
theorem c_rgValue {w : World} {b o : Nat} {r : RgV} {cv wv ov : Value} {words : Int} {K : Nat} (R : RgR w b o r cv wv ov) (hW : WfR words K r) (hK : K ≤ 1000000) (hw2 : words ≤ 1024) {h : HnV} (hh : h ∈ r.objs) :
    CallR Tryz.prog 74 [.pointer (some ⟨b, o, none⟩), .agg (hnC h).toArray] w fun v w' => (∃ A c, v = .slice A (objW r h).length c ∧ RdV w' A (u64s (objW r h))) ∧ Chg [] w w' := by
  apply F74_ok
  have hbox : hp (w.alloc (.cells (hnC h).toArray 25)) w.heap.size = some (.cells (hnC h).toArray 25) := by rw [ac, if_pos rfl]
  have hc0 : Chg [] w (w.alloc (.cells (hnC h).toArray 25)) := (Chg.refl _ _).alloc _
  simp -implicitDefEqProofs only [F74, aE, aB]
  generalize w.alloc (.cells (hnC h).toArray 25) = w0 at *
  generalize w.heap.size = gb at *
  have hcd : Chg [] w w0.drew := hc0.drew
  have Rd := R.keep hcd
  obtain ⟨o1, o2, o3, o4⟩ := hW.ob h hh
  obtain ⟨i, hix, hi⟩ := ixOf_at o1
  have hcl := hW.cl
  have hwl := hW.wl
  have hil := (List.getElem?_eq_some_iff.1 hi).1
  obtain ⟨l, hl⟩ : ∃ l, r.words[i]? = some l := ⟨_, List.getElem?_eq_getElem (by omega)⟩
  have hll : (l.length : Int) = words := hW.ww l (List.mem_of_getElem? hl)
  have hcw : chunkW r h.2.2.1 = l := by
    rw [chunkW, hix, Int.toNat_natCast, List.getD_eq_getElem?_getD, hl]; rfl
  obtain ⟨Ac, cc, hcv, hRc⟩ := ints_sh Rd.cT
  obtain ⟨Fw, hFw⟩ := Rd.wT
  obtain ⟨Aw, cw, vs, hwv, hvl, hRw, hvs⟩ := words_at hFw
  obtain ⟨v, hv⟩ : ∃ v, vs[i]? = some v := ⟨_, List.getElem?_eq_getElem (by omega)⟩
  obtain ⟨A', c', rfl, hR', hc'⟩ := hvs i l v hl hv
  have e4 := Rd.c4
  have e5 := Rd.c5
  rw [hcv] at e4
  rw [hwv] at e5
  obtain ⟨b2, o2', q1, q2, _⟩ := hRw.elem1 (P := Tryz.prog) (c := cw) (n := r.words.length) (i := (i : Int)) (j := .i64) Tryz.underlying86 sz_93 (by omega) (by omega) (by omega)
  rw [Int.toNat_natCast, hv] at q2
  have d2 : ldC (hp w0 gb) (0 + 2) = some (.int .i64 h.2.2.1) := by rw [hbox]; rfl
  have d3 : ldC (hp w0 gb) (0 + 3) = some (.int .i64 h.2.2.2.1) := by rw [hbox]; rfl
  have d4 : ldC (hp w0 gb) (0 + 4) = some (.int .i64 h.2.2.2.2) := by rw [hbox]; rfl
  have hsl := pr_slice_lh (P := Tryz.prog) (t := 93) (n := l.length) (c := c') (A := A') (k := .i64) (l := h.2.2.2.1) (h := h.2.2.2.1 + h.2.2.2.2) Tryz.underlying93 sz_26 o2 (by omega) (by omega)
  have hol : (objW r h).length = h.2.2.2.2.toNat := by rw [objW, hcw, List.length_take, List.length_drop]; omega
  have fin : (∃ A c, Value.slice (if c' = h.2.2.2.1.toNat then A' else A'.map (·.add (h.2.2.2.1.toNat * 1))) ((h.2.2.2.1 + h.2.2.2.2).toNat - h.2.2.2.1.toNat) (c' - h.2.2.2.1.toNat) = .slice A (objW r h).length c ∧ RdV w0.drew A (u64s (objW r h))) ∧ Chg [] w w0.drew := by
    refine ⟨⟨(if c' = h.2.2.2.1.toNat then A' else A'.map (·.add (h.2.2.2.1.toNat * 1))), c' - h.2.2.2.1.toNat, ?_, ?_⟩, hcd⟩
    · rw [hol, show (h.2.2.2.1 + h.2.2.2.2).toNat - h.2.2.2.1.toNat = h.2.2.2.2.toNat by omega]
    · rw [objW, hcw, u64s_take, u64s_drop]
      have := hR'.drop c' h.2.2.2.1.toNat 1 (fun e => by simp [u64s]; omega)
      rw [Nat.mul_one] at this ⊢
      exact this.take _
  have hix' : CallR Tryz.prog 77 [.slice Ac r.chunks.length cc, .int .i64 h.2.2.1] w0.drew fun v w' => v = .int .i64 i ∧ w' = w0.drew := hix ▸ c_iIndex (c := cc) hRc (by omega) h.2.2.1
  simp -implicitDefEqProofs only [ay, ad, fa_88_3, fa_88_4, bm, fa_25_3, fa_25_4, ld_86, aY, af, hp_drew, show ldC (hp w0 b) (o + 4) = _ from e4, show ldC (hp w0 b) (o + 5) = _ from e5, d2, d3, d4, aA, az (n := h.2.2.2.1 + h.2.2.2.2) (by omega) (by omega)]
  repeat' (with_reducible apply And.intro)
  all_goals
    refine hix'.step ?_
    simp -implicitDefEqProofs only [q1, ad, ld_93, show ldC (hp w0 b2) o2' = _ from q2, af, hp_drew, d2, d3, d4, aA, az (n := h.2.2.2.1 + h.2.2.2.2) (by omega) (by omega), hsl, bm, fa_25_3, fa_25_4, ld_86, show ldC (hp w0 b) (o + 5) = _ from e5]
    exact fin
set_option maxHeartbeats 4000000 in
theorem l_rgSame {w : World} {b o b' o' : Nat} {r : RgV} {cv wv ov cv' wv' ov' : Value} {words : Int} {K : Nat} (R : RgR w b o r cv wv ov) (R' : RgR w b' o' r cv' wv' ov') (hW : WfR words K r) (hK : K ≤ 1000000) (hw2 : words ≤ 1024) {A : Option Addr} {c : Nat} (hov : RdV w A (r.objs.flatMap hnC)) :
    ∀ (d i : Nat) (w1 : World), Chg [] w w1 → i + d = r.objs.length →
      P45_0 (.pointer (some ⟨b, o, none⟩)) (.pointer (some ⟨b', o', none⟩)) (.slice A r.objs.length c) (.int .i64 r.objs.length) (.int .i64 i) w1 fun v w' => v = .bool true ∧ Chg [] w w'
  | 0, i, w1, hc, hi => by
    apply L45_0_ok
    have : ¬ (i : Int) < r.objs.length := by omega
    simp -implicitDefEqProofs only [L45_0, zS, this]
    exact ⟨by trivial, hc⟩
  | d + 1, i, w1, hc, hi => by
    apply L45_0_ok
    have hol := hW.ol
    have hlt : (i : Int) < r.objs.length := by omega
    have hil : i < r.objs.length := by omega
    obtain ⟨y, hy⟩ : ∃ y, r.objs[i]? = some y := ⟨_, List.getElem?_eq_getElem hil⟩
    obtain ⟨b1, o1, q1, _, q3, _⟩ := (hov.keep hc.below).elem (P := Tryz.prog) (c := c) (n := r.objs.length) (i := (i : Int)) (j := .i64) Tryz.underlying44 sz_25 (by omega) (by rw [bf hnC_len]; exact Nat.le_refl _) (by omega) (by omega)
    have hyl : r.objs[i] = y := by rw [List.getElem?_eq_getElem hil] at hy; exact Option.some.inj hy
    rw [Int.toNat_natCast, flat_at hnC_len r.objs i hil, hyl] at q3
    have ly : ldv Tryz.prog 25 (.pointer (some ⟨b1, o1, none⟩)) w1 = some (.agg (hnC y).toArray) := by rw [ld_25, q3]; rfl
    simp -implicitDefEqProofs only [L45_0, zS, hlt, q1, ly, al_25]
    generalize hwa : w1.alloc _ = wa
    have ca : Chg [] w1 wa := by rw [← hwa]; exact (Chg.refl _ _).alloc _
    obtain ⟨z, ha, hz⟩ : ∃ z : Array Value, hp wa w1.heap.size = some (.cells z 25) ∧ z.size = 5 := by rw [← hwa, ac, if_pos rfl]; exact ⟨_, rfl, rfl⟩
    clear hwa
    rw [st_hn ha hz]
    have hs := ap (av ha) (hnC y).toArray 25
    have c1 : Chg [] w1 (put wa w1.heap.size (hnC y).toArray 25) := ca.put (.inr (Nat.le_refl _)) _ _
    generalize put wa w1.heap.size (hnC y).toArray 25 = w2 at *
    generalize w1.heap.size = gy at *
    have hsd : hp w2.drew gy = some (.cells (hnC y).toArray 25) := hs
    have c2 : Chg [] w w2.drew := (hc.trans c1).drew
    have hym := List.mem_of_getElem? hy
    have hlo : (objW r y).length ≤ 1000000 := by
      obtain ⟨_, _, _, o4⟩ := hW.ob y hym
      rw [objW, List.length_take]; omega
    simp -implicitDefEqProofs only [ld_hn hsd, ad]
    refine ⟨?_, ?_⟩
    all_goals
      refine (c_rgValue (R.keep c2) hW hK hw2 hym).mono ?_
      rintro _ w3 ⟨⟨A3, k3, rfl, R3⟩, c3⟩
      try simp -implicitDefEqProofs only [ld_hn (c3.at hsd (by simp)), ad]
      refine (c_rgValue (R'.keep (c2.trans c3)) hW hK hw2 hym).mono ?_
      rintro _ w4 ⟨⟨A4, k4, rfl, R4⟩, c4⟩
      refine (c_eqU64 (R3.keep c4.below) R4 hlo).mono ?_
      rintro _ w5 ⟨rfl, c5⟩
      simp -implicitDefEqProofs only [pr_not, ad, z3z]
      apply L45_1_ok
      simp -implicitDefEqProofs only [L45_1, zS, aA, az (n := (i : Int) + 1) (by omega) (by omega)]
      have := l_rgSame (c := c) R R' hW hK hw2 hov d (i + 1) w5 (((c2.trans c3).trans c4).trans c5) (by omega)
      rw [Int.natCast_add i 1] at this
      exact this
set_option maxHeartbeats 4000000 in
theorem c_rgSame {w : World} {b o b' o' : Nat} {r : RgV} {cv wv ov cv' wv' ov' : Value} {words : Int} {K : Nat} (R : RgR w b o r cv wv ov) (R' : RgR w b' o' r cv' wv' ov') (hW : WfR words K r) (hK : K ≤ 1000000) (hw2 : words ≤ 1024) (live : Bool) :
    CallR Tryz.prog 45 [.pointer (some ⟨b, o, none⟩), .pointer (some ⟨b', o', none⟩), .bool live] w fun v w' => v = .bool true ∧ Chg [] w w' := by
  apply F45_ok
  have hcl := hW.cl
  have hol := hW.ol
  have cd : Chg [] w w.drew := (Chg.refl _ _).drew
  have Rd := R.keep cd
  have Rd' := R'.keep cd
  obtain ⟨Ao, co, hov, hRo⟩ := objs_sh R.oT
  obtain ⟨Ao', co', hov', hRo'⟩ := objs_sh R'.oT
  have e6 : ∀ {w1 : World}, Chg [] w w1 → ldC (hp w1 b) (o + 6) = some (.slice Ao r.objs.length co) := fun hc => by rw [(R.keep hc).c6, hov]
  have e6' : ∀ {w1 : World}, Chg [] w w1 → ldC (hp w1 b') (o' + 6) = some (.slice Ao' r.objs.length co') := fun hc => by rw [(R'.keep hc).c6, hov']
  cases live with
  | false =>
    simp -implicitDefEqProofs only [F45, zS, fa_88_5, ld_44, e6 (Chg.refl _ _), e6' (Chg.refl _ _), e6 cd, e6' cd]
    refine (c_alH (hRo.keep cd.below) (hRo'.keep cd.below) (by omega)).mono ?_
    rintro _ w1 ⟨rfl, c1⟩
    have c01 := cd.trans c1
    simp -implicitDefEqProofs only [zS, fa_88_5, ld_44, e6 c01, len_44]
    exact l_rgSame R R' hW hK hw2 hRo r.objs.length 0 w1 c01 (by omega)
  | true =>
    have e2 : ldC (hp w b) (o + 2) = some (.int .i64 r.cls) := R.c2
    have e2' : ldC (hp w b') (o' + 2) = some (.int .i64 r.cls) := R'.c2
    have e3 : ldC (hp w b) (o + 3) = some (.int .i64 r.off) := R.c3
    have e3' : ldC (hp w b') (o' + 3) = some (.int .i64 r.off) := R'.c3
    simp -implicitDefEqProofs only [F45, zS, fa_88_1, fa_88_2, af, e2, e2', e3, e3']
    refine (c_mNewest Rd (by omega)).mono ?_
    rintro _ w1 ⟨rfl, c1⟩
    have c01 := cd.trans c1
    refine (c_mNewest (R'.keep c01) (by omega)).mono ?_
    rintro _ w2 ⟨rfl, c2⟩
    have c02 := c01.trans c2
    obtain ⟨F1, t1⟩ := R.cT
    obtain ⟨F1', t1'⟩ := R'.cT
    obtain ⟨Ac, cc, hcv, hRc⟩ := src_ints t1
    obtain ⟨Ac', cc', hcv', hRc'⟩ := src_ints t1'
    have e4 : ldC (hp w2 b) (o + 4) = some (.slice Ac r.chunks.length cc) := by rw [(R.keep c02).c4, hcv]
    have e4' : ldC (hp w2 b') (o' + 4) = some (.slice Ac' r.chunks.length cc') := by rw [(R'.keep c02).c4, hcv']
    simp -implicitDefEqProofs only [zS, fa_88_3, aY, e4, e4']
    refine (c_alI (hRc.keep c02.below) (hRc'.keep c02.below) (by omega)).mono ?_
    rintro _ w3 ⟨rfl, c3⟩
    have c03 := c02.trans c3
    simp -implicitDefEqProofs only [zS, fa_88_5, ld_44, e6 c03, e6' c03]
    refine (c_eqHandle (hRo.keep c03.below) (hRo'.keep c03.below) (by omega)).mono ?_
    rintro _ w4 ⟨rfl, c4⟩
    have c04 := c03.trans c4
    simp -implicitDefEqProofs only [zS, fa_88_5, ld_44, e6 c04, e6' c04]
    refine (c_alH (hRo.keep c04.below) (hRo'.keep c04.below) (by omega)).mono ?_
    rintro _ w5 ⟨rfl, c5⟩
    have c05 := c04.trans c5
    simp -implicitDefEqProofs only [zS, fa_88_5, ld_44, e6 c05, len_44]
    exact l_rgSame R R' hW hK hw2 hRo r.objs.length 0 w5 c05 (by omega)
end
end Go.Proofs.YtgamnncehjcdiaaGreat

namespace Go.Proofs.YtgamnncehjcdiaaGreat
open Go Ev Go.RowKit

section
variable {w : World} {g g' : Nat} {m m' : MdV} {F F' : Fp}
theorem findR_nd {L : List RgV} (hn : (L.map (·.nm)).Nodup) {i : Nat} {r : RgV} (hi : L[i]? = some r) : findR L r.nm = some i := findR_some hi rfl fun j r' hj hr' e => by
  have hil := (List.getElem?_eq_some_iff.1 hi).1
  have hjl := (List.getElem?_eq_some_iff.1 hr').1
  have h1 := List.pairwise_iff_getElem.1 hn j i (by simpa using hjl) (by simpa using hil) hj
  have e1 : L[j] = r' := by rw [List.getElem?_eq_getElem hjl] at hr'; exact Option.some.inj hr'
  have e2 : L[i] = r := by rw [List.getElem?_eq_getElem hil] at hi; exact Option.some.inj hi
  rw [List.getElem_map, List.getElem_map, e1, e2] at h1
  exact h1 e
theorem cf_beq (a b : CfV) : ((a.1 == b.1) && ((a.2.1 == b.2.1) && ((a.2.2.1 == b.2.2.1) && ((a.2.2.2.1 == b.2.2.2.1) && ((a.2.2.2.2.1 == b.2.2.2.2.1) && ((a.2.2.2.2.2 == b.2.2.2.2.2) && true)))))) = decide (a = b) := by
  obtain ⟨a1, a2, a3, a4, a5, a6⟩ := a; obtain ⟨b1, b2, b3, b4, b5, b6⟩ := b
  by_cases h1 : a1 = b1 <;> by_cases h2 : a2 = b2 <;> by_cases h3 : a3 = b3 <;> by_cases h4 : a4 = b4 <;> by_cases h5 : a5 = b5 <;> by_cases h6 : a6 = b6 <;> simp [h1, h2, h3, h4, h5, h6]
theorem be_ncf (x y : Operand) (a b : CfV) : be Tryz.prog .neq 33 x y (.agg (cfC a).toArray) (.agg (cfC b).toArray) = some (.bool (!decide (a = b))) := by
  rw [← cf_beq]; exact be_neq_33
theorem md_cf {s r h : Value} (M : MdR w g m s r h) : ldv Tryz.prog 33 (.pointer (some ⟨g, 0 + 0, none⟩)) w = some (.agg (cfC m.c).toArray) := by
  rw [ld_33, ldL_take 6 (0 + 0) (cfC m.c) rfl fun j u hj => by
    have hj6 : j < 6 := by have := (List.getElem?_eq_some_iff.1 hj).1; simpa [cfC] using this
    rw [show 0 + 0 + j = 0 + j by omega, M.c j hj6]; exact hj]
  rfl
set_option maxHeartbeats 1000000 in
theorem c_mDiff (I : MdI w g m F) (I' : MdI w g' m' F') (h : m.c ≠ m'.c ∨ m.loose ≠ m'.loose) : CallR Tryz.prog 12 [.pointer (some ⟨g, 0, none⟩), .pointer (some ⟨g', 0, none⟩)] w fun v w' => v = .bool false ∧ Chg [] w w' := by
  apply F12_ok
  obtain ⟨s, r, hh, M⟩ := I.rd
  obtain ⟨s', r', hh', M'⟩ := I'.rd
  have cd : Chg [] w w.drew := (Chg.refl _ _).drew
  have Md := M.keep cd
  have Md' := M'.keep cd
  by_cases hc : m.c = m'.c
  · have hl : m.loose ≠ m'.loose := h.resolve_left (fun e => e hc)
    have hl' : (m.loose != m'.loose) = true := by simpa using hl
    simp -implicitDefEqProofs only [F12, zS, fa_74_0, md_cf Md, md_cf Md', be_ncf, decide_eq_true hc, fa_74_1, ld_4, M.l, M'.l, be_neqb Tryz.underlying4, hl']
    exact ⟨by trivial, cd⟩
  · simp -implicitDefEqProofs only [F12, zS, fa_74_0, md_cf Md, md_cf Md', be_ncf, decide_eq_false hc]
    exact ⟨by trivial, cd⟩
set_option maxHeartbeats 4000000 in
theorem c_mSame {K : Nat} (I : MdI w g m F) (I' : MdI w g' m F') (Wm : Wf m K) (hN : (m.rgs.map (·.nm)).Nodup) (hK : K ≤ 1000000) (hn : m.hands.length ≤ 1000000) : CallR Tryz.prog 12 [.pointer (some ⟨g, 0, none⟩), .pointer (some ⟨g', 0, none⟩)] w fun v w' => v = .bool true ∧ Chg [] w w' := by
  apply F12_ok
  obtain ⟨s, r, hh, M⟩ := I.rd
  obtain ⟨s', r', hh', M'⟩ := I'.rd
  have hsl := Wm.sl
  have hrl := Wm.rl
  have W2 := Wm.w2
  have cd : Chg [] w w.drew := (Chg.refl _ _).drew
  have Md := M.keep cd
  have Md' := M'.keep cd
  have regs : ∀ (d i : Nat) (w1 : World), Chg [] w w1 → i + d = m.rgs.length → P12_1 (.pointer (some ⟨g, 0, none⟩)) (.pointer (some ⟨g', 0, none⟩)) (.int .i64 m.rgs.length) (.int .i64 i) w1 fun v w' => v = .bool true ∧ Chg [] w w' := by
    intro d
    induction d with
    | zero =>
      intro i w1 hc hi
      apply L12_1_ok
      have : ¬ (i : Int) < m.rgs.length := by omega
      simp -implicitDefEqProofs only [L12_1, zS, this]
      exact ⟨by trivial, hc⟩
    | succ d ih =>
      intro i w1 hc hi
      apply L12_1_ok
      have hlt : (i : Int) < m.rgs.length := by omega
      obtain ⟨rg, hrg⟩ : ∃ rg, m.rgs[i]? = some rg := ⟨_, List.getElem?_eq_getElem (by omega)⟩
      have hW := Wm.rg rg (List.mem_of_getElem? hrg)
      have M1 := M.keep hc
      have M1' := M'.keep hc
      obtain ⟨Fr, hFr⟩ := M1.rT
      obtain ⟨b, c, hx, cv, wv, ov, R⟩ := rg_at hFr hrg
      obtain ⟨Fr', hFr'⟩ := M1'.rT
      obtain ⟨b', c', hx', cv', wv', ov', R'⟩ := rg_at hFr' hrg
      have hl1 := M1.rl
      rw [hx] at hl1
      have ia := ia_71 (b := b) (p := 0) (n := m.rgs.length) (c := c) (j := .i64) (i := (i : Int)) (by omega) (by omega)
      rw [Int.toNat_natCast, Nat.zero_add] at ia
      have lr := ldL_two (o := i * 7 + 0) R.c0 R.c1
      simp -implicitDefEqProofs only [L12_1, zS, hlt, fa_74_3, ld_71, hl1, ia, fa_88_0, ld_84, lr, Option.map_some]
      refine (c_mRegion M1' rg.nm (by omega)).mono ?_
      rintro v2 w2 ⟨c2, hv⟩
      rcases hv with ⟨hf, _⟩ | ⟨i2, rg2, b2, k2, hf, _, hx2, rfl⟩
      · rw [findR_nd hN hrg] at hf; cases hf
      rw [findR_nd hN hrg] at hf
      cases hf
      rw [hx'] at hx2
      cases hx2
      have R2 := R.keep c2
      have lr2 := ldL_two (o := i * 7 + 0) R2.c0 R2.c1
      simp -implicitDefEqProofs only [zS, be_eqlp Tryz.underlying89, fa_88_0, ld_84, lr2, Option.map_some]
      refine (c_mIsLive (M1.keep c2) rg.nm).mono ?_
      rintro _ w3 ⟨rfl, c3⟩
      try simp -implicitDefEqProofs only [zS]
      refine (c_rgSame (R2.keep c3) ((R'.keep c2).keep c3) hW hK W2 (isLv m rg.nm)).mono ?_
      rintro _ w4 ⟨rfl, c4⟩
      simp -implicitDefEqProofs only [zS, aA, az (n := (i : Int) + 1) (by omega) (by omega)]
      have := ih (i + 1) w4 (((hc.trans c2).trans c3).trans c4) (by omega)
      rw [Int.natCast_add i 1] at this
      exact this
  have hands : ∀ (d i : Nat) (w1 : World), Chg [] w w1 → i + d = m.hands.length → P12_0 (.pointer (some ⟨g, 0, none⟩)) (.pointer (some ⟨g', 0, none⟩)) hh (.int .i64 m.hands.length) (.int .i64 i) w1 fun v w' => v = .bool true ∧ Chg [] w w' := by
    intro d
    induction d with
    | zero =>
      intro i w1 hc hi
      apply L12_0_ok
      have : ¬ (i : Int) < m.hands.length := by omega
      have M1 := M.keep hc
      obtain ⟨A, c, hx⟩ := rgs_sh M1.rT
      have hl1 := M1.rl
      rw [hx] at hl1
      simp -implicitDefEqProofs only [L12_0, zS, this, fa_74_3, ld_71, hl1, len_71]
      exact regs m.rgs.length 0 w1 hc (by omega)
    | succ d ih =>
      intro i w1 hc hi
      apply L12_0_ok
      have hlt : (i : Int) < m.hands.length := by omega
      obtain ⟨hd, hhd⟩ : ∃ hd, m.hands[i]? = some hd := ⟨_, List.getElem?_eq_getElem (by omega)⟩
      have hD := Wm.hd hd (List.mem_of_getElem? hhd)
      have M1 := M.keep hc
      obtain ⟨Fh, hFh⟩ := M1.hT
      obtain ⟨b, c, hx, nv, R⟩ := hd_at hFh hhd
      obtain ⟨A, cA, hnv, hA⟩ := names_sh R.nT
      subst hnv
      have ia := ia_72 (b := b) (p := 0) (n := m.hands.length) (c := c) (j := .i64) (i := (i : Int)) (by omega) (by omega)
      rw [Int.toNat_natCast, Nat.zero_add] at ia
      have lr := ldL_two (o := i * 2) R.c0 R.c1
      rw [hx]
      simp -implicitDefEqProofs only [L12_0, zS, hlt, ia, ld_81, lr, Option.map_some, al_81]
      generalize hwa : w1.alloc _ = wa
      have ca : Chg [] w1 wa := by rw [← hwa]; exact (Chg.refl _ _).alloc _
      obtain ⟨z, ha, hz⟩ : ∃ z : Array Value, hp wa w1.heap.size = some (.cells z 81) ∧ z.size = 2 := by rw [← hwa, ac, if_pos rfl]; exact ⟨_, rfl, rfl⟩
      clear hwa
      rw [st_81 rfl rfl (by rw [ha, okC_some]; exact decide_eq_true (by omega)) (by rw [ha]; exact hz), ha, aD]
      have hs := ap (av ha) [Value.int .i64 hd.depth, .slice A hd.holds.length cA].toArray 81
      have c1 : Chg [] w1 (put wa w1.heap.size [Value.int .i64 hd.depth, .slice A hd.holds.length cA].toArray 81) := ca.put (.inr (Nat.le_refl _)) _ _
      generalize put wa w1.heap.size [Value.int .i64 hd.depth, .slice A hd.holds.length cA].toArray 81 = w2 at *
      generalize w1.heap.size = gy at *
      have c02 := hc.trans c1
      have M2' := M'.keep c02
      obtain ⟨Fh', hFh'⟩ := M2'.hT
      obtain ⟨b', c', hx', nv', R'⟩ := hd_at hFh' hhd
      obtain ⟨A', cA', hnv', hA'⟩ := names_sh R'.nT
      subst hnv'
      have hl2 := M2'.hl
      rw [hx'] at hl2
      have ia' := ia_72 (b := b') (p := 0) (n := m.hands.length) (c := c') (j := .i64) (i := (i : Int)) (by omega) (by omega)
      rw [Int.toNat_natCast, Nat.zero_add] at ia'
      have y0 : ldC (hp w2 gy) (0 + 0) = some (.int .i64 hd.depth) := by rw [hs]; rfl
      have y1 : ldC (hp w2 gy) (0 + 1) = some (.slice A hd.holds.length cA) := by rw [hs]; rfl
      simp -implicitDefEqProofs only [zS, fa_81_0, fa_81_1, af, ld_79, fa_74_4, ld_72, hl2, ia', y0, y1, R'.c0, R'.c1]
      refine (c_alN (hA.keep (c1.trans (Chg.refl [] w2).drew).below) (hA'.keep (Chg.refl [] w2).drew.below) (by omega)).mono ?_
      rintro _ w3 ⟨rfl, c3⟩
      simp -implicitDefEqProofs only [zS, aA, az (n := (i : Int) + 1) (by omega) (by omega)]
      have := ih (i + 1) w3 (c02.drew.trans c3) (by omega)
      rw [Int.natCast_add i 1, hx] at this
      exact this
  obtain ⟨As, cs, rfl, hAs⟩ := slots_sh M.sT
  obtain ⟨As', cs', rfl, hAs'⟩ := slots_sh M'.sT
  obtain ⟨Ar, cr, rfl⟩ := rgs_sh M.rT
  obtain ⟨Ar', cr', rfl⟩ := rgs_sh M'.rT
  simp -implicitDefEqProofs only [F12, zS, fa_74_0, md_cf Md, md_cf Md', be_ncf, fa_74_1, ld_4, M.l, M'.l, be_neqb Tryz.underlying4, fa_74_2, ld_70, M.sl, M'.sl]
  refine (c_eqSlot (hAs.keep cd.below) (hAs'.keep cd.below) hsl).mono ?_
  rintro _ w1 ⟨rfl, c1⟩
  have c01 := cd.trans c1
  obtain ⟨Ah, ch, hxh⟩ := hands_sh (M.keep c01).hT
  have hl1 := (M.keep c01).hl
  simp -implicitDefEqProofs only [zS, fa_74_3, ld_71, (M.keep c01).rl, (M'.keep c01).rl, len_71, fa_74_4, ld_72, hl1]
  have := hands m.hands.length 0 w1 c01 (by omega)
  rw [hxh] at this ⊢
  simp -implicitDefEqProofs only [len_72, ad]
  exact this
end
end Go.Proofs.YtgamnncehjcdiaaGreat

namespace Go.Proofs.YtgamnncehjcdiaaGreat
open Go Ev Go.RowKit

section
variable {W w w' w2 : World} {E : PlE} {m mx m' : MdV} {Kn Kn' : List HnV} {K K' B : Nat} {Fm Fx Fk F' F3 : Fp} {kv kv' : Value} {h : HnV} {o : OpV} {a r : RsV} {g3 g5 g12 g13 g15 g17 : Nat} {n : Int} {x1 : Value} {i : Nat}
theorem tup3_0 (a b c : Value) : pureRun Tryz.prog (Instr.extract (.tuple #[a, b, c]) 0) = some a := by rw [pr_extract]; rfl
theorem tup3_1 (a b c : Value) : pureRun Tryz.prog (Instr.extract (.tuple #[a, b, c]) 1) = some b := by rw [pr_extract]; rfl
theorem tup3_2 (a b c : Value) : pureRun Tryz.prog (Instr.extract (.tuple #[a, b, c]) 2) = some c := by rw [pr_extract]; rfl
theorem hands_len (s : St m E.c K) (hm : mayC E.c = true) : m.hands.length ≤ 1000000 := by
  have := s.wn.cw
  rw [s.mc] at this
  obtain ⟨m1, m2, m3, m4⟩ := may_cf hm
  omega
end
end Go.Proofs.YtgamnncehjcdiaaGreat

namespace Go.Proofs.YtgamnncehjcdiaaGreat
open Go Ev Go.RowKit

section
variable {W w0 w w' : World} {E : PlE} {m mx m' : MdV} {Kn Kn' : List HnV} {K K' B : Nat} {Fm Fx Fk F F' P0 S : Fp} {kv kv' : Value} {o : OpV} {h : HnV} {gp g gx q : Nat} {c : CfV}
def stepV (c : CfV) (xs : List Int) (m : MdV) (Kn : List HnV) (a : Nat) : MdV × List HnV × Nat :=
  let k := askV c.1 xs Kn a
  let r := ansV c m xs k.1 k.2.1 k.2.2.1 k.2.2.2
  ((doV m k.1 k.2.1 k.2.2.1 r.1).2, if (doV m k.1 k.2.1 k.2.2.1 r.1).1 = true ∧ 0 < r.1.2.1.2.1 then Kn ++ [r.1.2.1] else Kn, r.2)
def leadsV (c : CfV) (xs : List Int) : Nat → MdV → List HnV → Nat → MdV × List HnV
  | 0, m, Kn, _ => (m, Kn)
  | t + 1, m, Kn, a => if a < xs.length then leadsV c xs t (stepV c xs m Kn a).1 (stepV c xs m Kn a).2.1 (stepV c xs m Kn a).2.2 else (m, Kn)
def fpS (gp : Nat) (Fm Fx Fk : Fp) : Fp := fun k => k = gp ∨ Fm k ∨ Fx k ∨ Fk k
theorem UpdP.step (U : UpdP P0 F w0 w) (cp : ChgP S w w') (hS : ∀ k, S k → F k ∨ w0.heap.size ≤ k) (hF : ∀ k, F' k → F k ∨ w.heap.size ≤ k) : UpdP P0 F' w0 w' :=
  ⟨⟨cp.os.trans U.chg.os, cp.tape.trans U.chg.tape, cp.output.trans U.chg.output, Nat.le_trans U.chg.size cp.size, fun k hk hn => by
    have s := U.chg.size
    rw [cp.block k (by omega) fun hs => by
      rcases hS k hs with h1 | h1
      · rcases U.sub k h1 with h2 | h2
        · exact hn h2
        · omega
      · omega]
    exact U.chg.block k hk hn⟩, fun k hk => by
    have s := U.chg.size
    rcases hF k hk with h1 | h1
    · exact U.sub k h1
    · exact .inr (by omega)⟩
structure PaS (W w : World) (gp g gx : Nat) (c : CfV) (m : MdV) (Kn : List HnV) (K : Nat) (Fm Fx Fk : Fp) (kv : Value) : Prop where
  chg : Chg [] W w
  hp : Ev.hp w gp = some (.cells (pairA c g gx kv) 46)
  I : MdI w g m Fm
  X : RfI w gx (toRf m) Fx
  kn : objsT Kn w Fk kv
  dmx : FDis Fm Fx
  dmk : FDis Fm Fk
  dxk : FDis Fx Fk
  pm : ¬ Fm gp
  px : ¬ Fx gp
  pk : ¬ Fk gp
  nm : ∀ k, Fm k → W.heap.size ≤ k
  nx : ∀ k, Fx k → W.heap.size ≤ k
  nk : ∀ k, Fk k → W.heap.size ≤ k
  np : W.heap.size ≤ gp
  sm : St m c K
  kl : Kn.length ≤ K
theorem PaS.lt (D : PaS W w gp g gx c m Kn K Fm Fx Fk kv) : ∀ k, fpS gp Fm Fx Fk k → k < w.heap.size := fun k hk => by
  rcases hk with h | h | h | h
  · rw [h]; exact av D.hp
  · exact isAt.lt D.I (aT _) k h
  · exact isAt.lt D.X (bc _) k h
  · exact (aS _).lt D.kn k h
theorem PaS.frame (D : PaS W w gp g gx c m Kn K Fm Fx Fk kv) (hc : Chg [] W w') (cp : ChgP S w w') (hd : FDis (fpS gp Fm Fx Fk) S) : PaS W w' gp g gx c m Kn K Fm Fx Fk kv :=
  ⟨hc, cp.at D.hp fun h => hd gp (.inl rfl) h, isAt.frame D.I (aT _) cp fun k a b => hd k (.inr (.inl a)) b, isAt.frame D.X (bc _) cp fun k a b => hd k (.inr (.inr (.inl a))) b, (aS _).frame D.kn cp fun k a b => hd k (.inr (.inr (.inr a))) b,
    D.dmx, D.dmk, D.dxk, D.pm, D.px, D.pk, D.nm, D.nx, D.nk, D.np, D.sm, D.kl⟩
theorem PaS.keep (D : PaS W w gp g gx c m Kn K Fm Fx Fk kv) (hc : Chg [] w w') : PaS W w' gp g gx c m Kn K Fm Fx Fk kv :=
  D.frame (D.chg.trans hc) (ChgP.of0 hc none') fun k _ h => h
theorem PlF.pas (D : PlF W E w m m Kn K B Fm Fx Fk kv) : PaS W w E.gp E.g E.gx E.c m Kn K Fm Fx Fk kv :=
  ⟨D.chg, D.hp, D.I, D.X, D.kn, D.dmx, D.dmk, D.dxk, D.pm, D.px, D.pk, D.nm, D.nx, D.nk, D.np, D.sm, D.kl⟩
theorem fpM {Fm' : Fp} (u : UpdP Fm Fm' w w') : ∀ k, fpS gp Fm' Fx Fk k → fpS gp Fm Fx Fk k ∨ w.heap.size ≤ k := fun k hk => by
  rcases hk with h | h | h
  · exact .inl (.inl h)
  · rcases u.sub k h with h1 | h1
    · exact .inl (.inr (.inl h1))
    · exact .inr h1
  · exact .inl (.inr (.inr h))
theorem fpX {Fx' : Fp} (u : UpdP Fx Fx' w w') : ∀ k, fpS gp Fm Fx' Fk k → fpS gp Fm Fx Fk k ∨ w.heap.size ≤ k := fun k hk => by
  rcases hk with h | h | h | h
  · exact .inl (.inl h)
  · exact .inl (.inr (.inl h))
  · rcases u.sub k h with h1 | h1
    · exact .inl (.inr (.inr (.inl h1)))
    · exact .inr h1
  · exact .inl (.inr (.inr (.inr h)))
theorem fpK {Fk' : Fp} (u : UpdP Fk Fk' w w') : ∀ k, fpS gp Fm Fx Fk' k → fpS gp Fm Fx Fk k ∨ w.heap.size ≤ k := fun k hk => by
  rcases hk with h | h | h | h
  · exact .inl (.inl h)
  · exact .inl (.inr (.inl h))
  · exact .inl (.inr (.inr (.inl h)))
  · rcases u.sub k h with h1 | h1
    · exact .inl (.inr (.inr (.inr h1)))
    · exact .inr h1
def LeP (W w0 : World) (P0 : Fp) (gp g gx : Nat) (c : CfV) (K : Nat) (r : MdV × List HnV) (v : Value) (w' : World) : Prop :=
  v = .tuple #[] ∧ ∃ Fm Fx Fk kv, PaS W w' gp g gx c r.1 r.2 K Fm Fx Fk kv ∧ UpdP P0 (fpS gp Fm Fx Fk) w0 w'
theorem PaS.more (D : PaS W w gp g gx c m Kn K Fm Fx Fk kv) (h : K ≤ K') : PaS W w gp g gx c m Kn K' Fm Fx Fk kv :=
  ⟨D.chg, D.hp, D.I, D.X, D.kn, D.dmx, D.dmk, D.dxk, D.pm, D.px, D.pk, D.nm, D.nx, D.nk, D.np, D.sm.mono h, Nat.le_trans D.kl h⟩
set_option maxHeartbeats 8000000 in
theorem l_leads0 (hm : mayC E.c = true) (hq0 : w0.heap.size ≤ E.q) {KT : Nat} (hKT : KT ≤ 900) : ∀ (d i : Nat) (w : World) (m : MdV) (Kn : List HnV) (K a : Nat) (Fm Fx Fk : Fp) (kv : Value), i + d = 40 → K + d ≤ KT → a ≤ 50 * i → PlX W E w m m Kn K a Fm Fx Fk kv → UpdP P0 (fpS E.gp Fm Fx Fk) w0 w →
    P16_0 (.pointer (some ⟨E.gp, 0, none⟩)) (.slice E.A E.xs.length E.cc) (.pointer (some ⟨E.q, 0, none⟩)) (.int .i64 i) w (LeP W w0 P0 E.gp E.g E.gx E.c KT (leadsV E.c E.xs d m Kn a))
  | 0, i, w, m, Kn, K, a, Fm, Fx, Fk, kv, hi, hK, ha, D, U => by
    apply L16_0_ok
    have : ¬ (i : Int) < 40 := by omega
    simp -implicitDefEqProofs only [L16_0, zS, this]
    exact ⟨by first | rfl | trivial, Fm, Fx, Fk, kv, D.D.pas.more (by omega), U⟩
  | d + 1, i, w, m, Kn, K, a, Fm, Fx, Fk, kv, hi, hK, ha, D, U => by
    apply L16_0_ok
    obtain ⟨m1, m2, m3, m4⟩ := may_cf hm
    have hlt : (i : Int) < 40 := by omega
    have sq := D.at'
    by_cases hal : (a : Int) < E.xs.length
    · have hal' : a < E.xs.length := by omega
      have eV : leadsV E.c E.xs (d + 1) m Kn a = leadsV E.c E.xs d (stepV E.c E.xs m Kn a).1 (stepV E.c E.xs m Kn a).2.1 (stepV E.c E.xs m Kn a).2.2 := by rw [leadsV, if_pos hal']
      rw [eV]
      simp -implicitDefEqProofs only [L16_0, zS, hlt, fa_37_1, af, sq, t2_1, len_22, hal]
      refine (c_asksX D hm (by omega) (by omega)).mono ?_
      rintro _ w2 ⟨n, o, h, a1, rfl, D2, k2, ha1, hG⟩
      have hV : askV E.c.1 E.xs Kn a = (n, o, h, a1) := hG.symm
      have U2 : UpdP P0 (fpS E.gp Fm Fx Fk) w0 w2 := UpdP.step U (ChgP.of k2) (fun k hk => .inr (by simp only [List.mem_singleton] at hk; omega)) (fun k hk => .inl hk)
      simp -implicitDefEqProofs only [tup3_0, tup3_1, tup3_2, ad, al_39, al_25, ae]
      rw [st_39 (b := w2.heap.size) rfl rfl (by rw [ac, ae, if_neg (by omega), ac, if_pos rfl]; rfl) (by rw [ac, ae, if_neg (by omega), ac, if_pos rfl]; rfl)]
      rw [ac, ae, if_neg (by omega), ac, if_pos rfl, aD]
      rw [st_hn (b := w2.heap.size + 1) (c := (hnC noH).toArray) (e := 25) (by rw [ax (by omega), ac, ae, if_pos rfl]; rfl) rfl]
      generalize hw3 : Ev.put (Ev.put ((w2.alloc _).alloc _) _ _ _) _ _ _ = w3
      have k3 : Chg [] w2 w3 := by rw [← hw3]; exact ((((Chg.refl _ _).alloc _).alloc _).put (.inr (Nat.le_refl _)) _ _).put (.inr (by omega)) _ _
      have a12 : hp w3 w2.heap.size = some (.cells (opC o).toArray 39) := by
        rw [← hw3, ax (by omega)]
        exact ap (by simp only [ae]; omega) _ _
      have a13 : hp w3 (w2.heap.size + 1) = some (.cells (hnC h).toArray 25) := by
        rw [← hw3]
        exact ap (by simp) _ _
      clear hw3
      have lm := isAt.lt D2.D.I (aT _)
      have lx := isAt.lt D2.D.X (bc _)
      have lk := (aS _).lt D2.D.kn
      have lq := D2.qlt
      have lp := D2.D.plt
      have f12 : ¬ Fm w2.heap.size ∧ ¬ Fx w2.heap.size ∧ w2.heap.size ≠ E.q ∧ ¬ Fk w2.heap.size ∧ w2.heap.size ≠ E.gp := ⟨fun h => by have := lm _ h; omega, fun h => by have := lx _ h; omega, by omega, fun h => by have := lk _ h; omega, by omega⟩
      have f13 : ¬ Fm (w2.heap.size + 1) ∧ ¬ Fx (w2.heap.size + 1) ∧ w2.heap.size + 1 ≠ E.q ∧ ¬ Fk (w2.heap.size + 1) ∧ w2.heap.size + 1 ≠ E.gp := ⟨fun h => by have := lm _ h; omega, fun h => by have := lx _ h; omega, by omega, fun h => by have := lk _ h; omega, by omega⟩
      have D3 := D2.keep k3
      have U3 : UpdP P0 (fpS E.gp Fm Fx Fk) w0 w3 := U2.trans (UpdP.of0 k3)
      generalize w2.heap.size + 1 = g13 at *
      generalize w2.heap.size = g12 at *
      simp -implicitDefEqProofs only [ld_op a12, ld_hn a13, ad]
      refine (c_answerX D3 hm (by omega) (by omega) n o h (G := fun r b => ansV E.c m E.xs n o h a1 = (r, b)) rfl).mono ?_
      rintro _ w4 ⟨r, a2, rfl, D4, k4, ha2, hR⟩
      have e12 := k4.at a12 (by simpa using f12.2.2.1)
      have e13 := k4.at a13 (by simpa using f13.2.2.1)
      have U4 : UpdP P0 (fpS E.gp Fm Fx Fk) w0 w4 := UpdP.step U3 (ChgP.of k4) (fun k hk => .inr (by simp only [List.mem_singleton] at hk; omega)) (fun k hk => .inl hk)
      have hS : stepV E.c E.xs m Kn a = ((doV m n o h r).2, if (doV m n o h r).1 = true ∧ 0 < r.2.1.2.1 then Kn ++ [r.2.1] else Kn, a2) := by
        simp only [stepV, hV, hR]
      rw [hS]
      simp -implicitDefEqProofs only [al_28]
      rw [st_res (c := (rsC noR).toArray) (e := 28) (by rw [ac, if_pos rfl]; rfl) rfl]
      generalize hw5 : Ev.put (w4.alloc _) w4.heap.size _ _ = w5
      have k5 : Chg [] w4 w5 := by rw [← hw5]; exact ((Chg.refl _ _).alloc _).put (.inr (Nat.le_refl _)) _ _
      have a17 : hp w5 w4.heap.size = some (.cells (rsC r).toArray 28) := by rw [← hw5]; exact ap (by simp) _ _
      clear hw5
      have n17m : ¬ Fm w4.heap.size := fun h => by have := isAt.lt D4.D.I (aT _) _ h; omega
      have n17x : ¬ Fx w4.heap.size := fun h => by have := isAt.lt D4.D.X (bc _) _ h; omega
      have n17k : ¬ Fk w4.heap.size := fun h => by have := (aS _).lt D4.D.kn _ h; omega
      have n17p : w4.heap.size ≠ E.gp := fun h => by have := D4.D.plt; omega
      generalize w4.heap.size = g17 at *
      have k5d := k5.trans (Chg.refl [] w5).drew
      have D5 := D4.keep k5d
      have U5 : UpdP P0 (fpS E.gp Fm Fx Fk) w0 w5.drew := U4.trans (UpdP.of0 k5d)
      have b12 := k5d.at e12 (by simp)
      have b13 := k5d.at e13 (by simp)
      have b17 := (Chg.refl [] w5).drew.at a17 (by simp)
      have kx := pl_x D5.D
      rw [hp_drew] at kx
      simp -implicitDefEqProofs only [zS, fa_46_2, ld_43, kx, ld_op b12, ld_hn b13, aZ b17]
      refine (c_rDo D5.D.X D5.D.sx.wf D5.D.sx.wn (by omega) n o h r).mono ?_
      rintro _ w6 ⟨rfl, Fx6, X6, u6⟩
      have D6 := D5.updX (K' := K + 1) X6 u6 (by omega) (D5.D.sx.doV (by omega) n o h r)
      have U6 : UpdP P0 (fpS E.gp Fm Fx6 Fk) w0 w6 := UpdP.step U5 u6.chg (fun k hk => .inl (.inr (.inr (.inl hk)))) (fpX u6)
      have j12 := (u6.keep b12 f12.2.1).1
      have j13 := (u6.keep b13 f13.2.1).1
      have j17 := (u6.keep b17 n17x).1
      have r2 : (rsC r).toArray[0 + 1 + 1]? = some (.int .i64 r.2.1.2.1) := rfl
      have fin : ∀ (w7 : World) (Kn' : List HnV) (Fk' : Fp) (kv' : Value), PlX W E w7 m (doV m n o h r).2 Kn' (K + 1) a2 Fm Fx6 Fk' kv' → UpdP P0 (fpS E.gp Fm Fx6 Fk') w0 w7 → hp w7 g12 = some (.cells (opC o).toArray 39) → hp w7 g13 = some (.cells (hnC h).toArray 25) → hp w7 g17 = some (.cells (rsC r).toArray 28) →
          P16_1 (.pointer (some ⟨E.gp, 0, none⟩)) (.slice E.A E.xs.length E.cc) (.pointer (some ⟨E.q, 0, none⟩)) (.int .i64 i) (.int .i64 n) (.pointer (some ⟨g12, 0, none⟩)) (.pointer (some ⟨g13, 0, none⟩)) (.pointer (some ⟨g17, 0, none⟩)) w7 (LeP W w0 P0 E.gp E.g E.gx E.c KT (leadsV E.c E.xs d (doV m n o h r).2 Kn' a2)) := by
        intro w7 Kn' Fk' kv' D7 U7 i12 i13 i17
        apply L16_1_ok
        have cd : Chg [] w7 w7.drew := (Chg.refl _ _).drew
        have D7d := D7.keep cd
        have km := pl_m D7.D
        simp -implicitDefEqProofs only [L16_1, zS, fa_46_1, ld_42, km, ld_op (cd.at i12 (by simp)), ld_hn (cd.at i13 (by simp)), aZ (cd.at i17 (by simp))]
        refine (c_mDo D7d.D.I D.D.sm.wf (by omega) n o h r).mono ?_
        rintro _ w8 ⟨rfl, Fm8, I8, u8⟩
        have D8 := D7d.updM (K' := K + 1) I8 u8 (Nat.le_refl _) (D.D.sm.doV (by omega) n o h r)
        have U8 : UpdP P0 (fpS E.gp Fm8 Fx6 Fk') w0 w8 := UpdP.step (U7.trans (UpdP.of0 cd)) u8.chg (fun k hk => .inl (.inr (.inl hk))) (fpM u8)
        simp -implicitDefEqProofs only [aA, az (n := (i : Int) + 1) (by omega) (by omega), ad]
        have := l_leads0 hm hq0 hKT d (i + 1) w8 (doV m n o h r).2 Kn' (K + 1) a2 Fm8 Fx6 Fk' kv' (by omega) (by omega) (by omega) D8 U8
        rw [Int.natCast_add i 1] at this
        exact this
      cases hd : (doV m n o h r).1 with
      | false =>
        have hS2 : (if false = true ∧ 0 < r.2.1.2.1 then Kn ++ [r.2.1] else Kn) = Kn := if_neg (fun h => by cases h.1)
        simp -implicitDefEqProofs only [zS, hS2]
        exact fin w6 Kn Fk kv D6 U6 j12 j13 j17
      | true =>
        by_cases hg : 0 < r.2.1.2.1
        · have hS2 : (if true = true ∧ 0 < r.2.1.2.1 then Kn ++ [r.2.1] else Kn) = Kn ++ [r.2.1] := if_pos ⟨rfl, hg⟩
          have cd6 : Chg [] w6 w6.drew := (Chg.refl _ _).drew
          have D6d := D6.keep cd6
          have l17d := cd6.at j17 (by simp)
          have lh : ldv Tryz.prog 25 (.pointer (some ⟨g17, 0 + 1, none⟩)) w6.drew = some (.agg (hnC r.2.1).toArray) := by rw [ld_25, l17d, rs_h]; rfl
          have kk := pl_k D6.D
          simp -implicitDefEqProofs only [zS, hS2, fa_28_1, fa_25_1, af, j17, r2, bp_gtr, gt_iff_lt, hg, fa_46_3, ld_44, kk, lh]
          obtain ⟨hown, _⟩ := flat_own D6d.D.kn
          have hkl := D.D.kl
          refine ps_44 (fun u hu => by simp only [List.mem_cons, List.not_mem_nil, or_false] at hu; rcases hu with rfl | rfl | rfl | rfl | rfl <;> rfl) hown (by omega) (Nat.zero_le _) fun x' w7 ho hgr hnb => ?_
          obtain ⟨F2, hr2, hu2⟩ := flat_grown (vs := hnC r.2.1) D6d.D.kn ho hgr hnb
          have hr2' : objsT (Kn ++ [r.2.1]) w7 F2 x' := by
            rw [objsT, List.length_append]
            have e : (Kn ++ [r.2.1]).flatMap hnC = Kn.flatMap hnC ++ hnC r.2.1 := by simp
            rw [e]; exact hr2
          have one := (aS _).one hr2'
          have kp := hu2.keep D6d.D.hp D6d.D.pk
          have D7 := D6d.D.updK (K' := K + 1) hr2' hu2 (Nat.le_refl _) (by simp only [List.length_append, List.length_singleton]; omega)
          have sq7 := (hu2.keep D6d.at' D6d.D.qk).1
          have v12 := (hu2.keep (cd6.at j12 (by simp)) f12.2.2.2.1).1
          have v13 := (hu2.keep (cd6.at j13 (by simp)) f13.2.2.2.1).1
          have v17 := (hu2.keep l17d n17k).1
          have U7 : UpdP P0 (fpS E.gp Fm Fx6 F2) w0 w7 := UpdP.step (U6.trans (UpdP.of0 cd6)) hu2.chg (fun k hk => .inl (.inr (.inr (.inr hk)))) (fpK hu2)
          have U7p : UpdP P0 (fpS E.gp Fm Fx6 F2) w0 (Ev.put w7 E.gp (pairA E.c E.g E.gx x') 46) := UpdP.step U7 (chgP_put _ _ _ _) (fun k hk => .inl (.inl hk)) (fun k hk => .inl hk)
          rw [st_44 (o := 0 + 8) one.1 one.2 (by rw [kp.1]; rfl), kp.1, br, aD]
          exact fin _ (Kn ++ [r.2.1]) F2 x' ⟨D7, (ax D6d.D.pq.symm _ _).trans sq7⟩ U7p ((ax f12.2.2.2.2 _ _).trans v12) ((ax f13.2.2.2.2 _ _).trans v13) ((ax n17p _ _).trans v17)
        · have hS2 : (if true = true ∧ 0 < r.2.1.2.1 then Kn ++ [r.2.1] else Kn) = Kn := if_neg (fun h => hg h.2)
          simp -implicitDefEqProofs only [zS, hS2, fa_28_1, fa_25_1, af, j17, r2, bp_gtr, gt_iff_lt, hg]
          exact fin w6 Kn Fk kv D6 U6 j12 j13 j17
    · have eV : leadsV E.c E.xs (d + 1) m Kn a = (m, Kn) := by rw [leadsV, if_neg (by omega)]
      rw [eV]
      simp -implicitDefEqProofs only [L16_0, zS, hlt, fa_37_1, af, sq, t2_1, len_22, hal]
      exact ⟨by first | rfl | trivial, Fm, Fx, Fk, kv, D.D.pas.more (by omega), U⟩
end
end Go.Proofs.YtgamnncehjcdiaaGreat

namespace Go.Proofs.YtgamnncehjcdiaaGreat
open Go Ev Go.RowKit

section
variable {W w w' : World}
set_option maxHeartbeats 2000000 in
theorem c_mConfigS (a : Int) (w : World) : CallR Tryz.prog 7 [.int .i64 a] w fun v w' => ∃ c : CfV, v = .agg (cfC c).toArray ∧ mayC c = true ∧ c.2.2.1 ≤ 16 ∧ Chg [] w w' := by
  apply F7_ok
  have nb : ∀ {m : Int} (a : Int) (w : World), 0 < m → m ≤ 1000 → ∀ K : Value → World → Prop, (∀ x : Int, K (.int .i64 x) w) → CallR Tryz.prog 23 [.int .i64 a, .int .i64 m] w K := by
    intro m a w h0 h1 K hK
    exact (c_Number a m w h0 (by omega)).step (hK _)
  have s2 : (cfC (0, 0, 0, 0, 0, 0)).toArray.size = 6 := rfl
  simp -implicitDefEqProofs only [F7, al_33]
  generalize hw1 : w.alloc _ = w1
  have c1 : Chg [] w w1 := by rw [← hw1]; exact (Chg.refl _ _).alloc _
  have a2 : hp w1 w.heap.size = some (.cells (cfC (0, 0, 0, 0, 0, 0)).toArray 33) := by rw [← hw1, ac, if_pos rfl]; rfl
  clear hw1
  refine nb _ _ (by decide) (by decide) _ fun x0 => ?_
  simp -implicitDefEqProofs only [bp_quo (show (4 : Int) ≠ 0 by decide), ad]
  refine nb _ _ (by decide) (by decide) _ fun x1 => ?_
  simp -implicitDefEqProofs only [bp_quo (show (32 : Int) ≠ 0 by decide), ad]
  refine nb _ _ (by decide) (by decide) _ fun x2 => ?_
  simp -implicitDefEqProofs only [bp_quo (show (64 : Int) ≠ 0 by decide), ad]
  refine nb _ _ (by decide) (by decide) _ fun x3 => ?_
  simp -implicitDefEqProofs only [bp_quo (show (256 : Int) ≠ 0 by decide), ad]
  refine nb _ _ (by decide) (by decide) _ fun x4 => ?_
  simp -implicitDefEqProofs only [bp_quo (show (1024 : Int) ≠ 0 by decide), ad]
  refine nb _ _ (by decide) (by decide) _ fun x5 => ?_
  simp -implicitDefEqProofs only [bs_22_6, bd_37_0, ad, aE, aB]
  generalize hwa : w1.alloc _ = wa
  have ca : Chg [] w1 wa := by rw [← hwa]; exact (Chg.refl _ _).alloc _
  have sa : wa.heap.size = w1.heap.size + 1 := by rw [← hwa, ae]
  have aa : hp wa w1.heap.size = some (.cells (ints [x0, x1, x2, x3, x4, x5]).toArray 3) := by rw [← hwa, ac, if_pos rfl]; rfl
  clear hwa
  generalize hwb : wa.alloc _ = wb
  have cb : Chg [] wa wb := by rw [← hwb]; exact (Chg.refl _ _).alloc _
  have ab : hp wb wa.heap.size = some (.cells #[.slice (some ⟨w1.heap.size, 0, none⟩) 6 6, .int .i64 0] 37) := by rw [← hwb, ac, if_pos rfl]
  clear hwb
  have D0 : NmW wa.heap.size (some ⟨w1.heap.size, 0, none⟩) 6 [x0, x1, x2, x3, x4, x5] 0 wb := ⟨⟨0, ab, Nat.le_refl _⟩, (lit_rd aa).keep cb.below, fun p hp => by cases hp; simp only; omega⟩
  have b2 := cb.at (ca.at a2 (by simp)) (by simp)
  have s1 := av a2
  have cwb : Chg [] w wb := (c1.trans ca).trans cb
  have ne2 : w.heap.size ≠ wa.heap.size := by omega
  generalize hq : wa.heap.size = q at *
  have qn : w.heap.size ≤ q := by omega
  have fin : ∀ {w1 : World}, Chg [q] wb w1 → Chg [] w w1 := fun hc => ⟨hc.os.trans cwb.os, hc.tape.trans cwb.tape, hc.output.trans cwb.output, Nat.le_trans cwb.size hc.size, fun k hk _ => by
    rw [hc.block k (Nat.lt_of_lt_of_le hk cwb.size) (by simp; omega)]; exact cwb.block k hk (by simp)⟩
  refine D0.N (by omega) (by decide) (by decide) fun r0 v0 h0 k0 D1 => ?_
  simp -implicitDefEqProofs only [aA, ad, az (n := 1 + (r0 : Int)) (by omega) (by omega)]
  refine D1.N (by omega) (by decide) (by decide) fun r1 v1 h1 k1 D2 => ?_
  simp -implicitDefEqProofs only [aA, ad, az (n := 1 + (r1 : Int)) (by omega) (by omega)]
  refine D2.N (by omega) (by decide) (by decide) fun r2 v2 h2 k2 D3 => ?_
  simp -implicitDefEqProofs only [aA, bp_mul, ad, az (n := 8 * (r2 : Int)) (by omega) (by omega), az (n := 8 + 8 * (r2 : Int)) (by omega) (by omega)]
  refine D3.N (by omega) (by decide) (by decide) fun r3 v3 h3 k3 D4 => ?_
  simp -implicitDefEqProofs only [aA, ad, az (n := 1 + (r3 : Int)) (by omega) (by omega)]
  refine D4.N (by omega) (by decide) (by decide) fun r4 v4 h4 k4 D5 => ?_
  refine D5.N (by omega) (by decide) (by decide) fun r5 v5 h5 k5 D6 => ?_
  have kk : Chg [q] wb v5 := k0.trans (k1.trans (k2.trans (k3.trans (k4.trans k5))))
  have b5 := kk.at b2 (by simpa using ne2)
  have hbc : pureRun Tryz.prog (Instr.build 33 #[(0, .int .i64 (1 + (r0 : Int))), (1, .int .i64 (1 + (r1 : Int))), (2, .int .i64 (8 + 8 * (r2 : Int))), (3, .int .i64 (1 + (r3 : Int))), (4, .int .i64 r4), (5, .int .i64 (1 + (r5 : Int)))]) = some (.agg (cfC (1 + (r0 : Int), 1 + (r1 : Int), 8 + 8 * (r2 : Int), 1 + (r3 : Int), (r4 : Int), 1 + (r5 : Int))).toArray) := bd_33_0_1_2_3_4_5
  simp -implicitDefEqProofs only [aA, ad, az (n := 1 + (r5 : Int)) (by omega) (by omega), hbc]
  rw [st_33 rfl rfl (by rw [b5]; rfl) (by rw [b5]; rfl), b5, aD, ld_cf (ap (av b5) _ _), ad]
  refine ⟨_, rfl, ?_, by simp only; omega, (fin kk).put (.inr (Nat.le_refl _)) _ _⟩
  simp only [mayC, Bool.and_eq_true, decide_eq_true_eq]
  omega
end
section
variable {m : MdV}
theorem setWord_l (m : MdV) (h : HnV) (n y : Int) : (setWordV m h n y).loose = m.loose := by
  unfold setWordV
  repeat' split
  all_goals rfl
theorem does_l (m : MdV) (w : Int) (o : OpV) (h : HnV) : (doesV m w o h).loose = m.loose := by
  unfold doesV
  repeat' split
  all_goals first
    | rfl
    | exact setWord_l _ _ _ _
theorem creates_l (m : MdV) (x : Int) (r : RsV) : (createsV m x r).2.loose = m.loose := by
  unfold createsV
  repeat' split
  all_goals rfl
theorem gives_l (m : MdV) (x : Int) (h : HnV) (r : RsV) : (givesV m x h r).2.loose = m.loose := by
  unfold givesV
  split
  · rfl
  split
  · rfl
  simp only
  repeat' split
  all_goals rfl
theorem do_l (m : MdV) (w : Int) (o : OpV) (h : HnV) (r : RsV) : (doV m w o h r).2.loose = m.loose := by
  unfold doV
  split
  · rfl
  split
  · split
    · simp only
      split
      · exact does_l _ _ _ _
      · rfl
    · rfl
  split
  · exact creates_l _ _ _
  · exact gives_l _ _ _ _
theorem leads_l (c : CfV) (xs : List Int) : ∀ (t : Nat) (m : MdV) (Kn : List HnV) (a : Nat), (leadsV c xs t m Kn a).1.loose = m.loose
  | 0, _, _, _ => rfl
  | t + 1, m, Kn, a => by
    unfold leadsV
    split
    · rw [leads_l c xs t]; exact do_l _ _ _ _ _
    · rfl
end
section
variable {W w w' : World} {m : MdV} {Kn : List HnV} {K : Nat} {Fm Fx Fk Fm' Fx' Fk' : Fp} {kv kv' : Value} {gp g gx gp' g' gx' g8 : Nat} {c : CfV} {A A2 : Option Addr} {cc cc2 : Nat} {xs ys : List Int}
set_option maxHeartbeats 2000000 in
theorem c_leads (D : PaS W w gp g gx c m Kn K Fm Fx Fk kv) (hm : mayC c = true) (hR : RdI .i64 W A xs) (hK : K + 40 ≤ 900) :
    CallR Tryz.prog 16 [.pointer (some ⟨gp, 0, none⟩), .slice A xs.length cc] w (LeP W w (fpS gp Fm Fx Fk) gp g gx c (K + 40) (leadsV c xs 40 m Kn 0)) := by
  apply F16_ok
  simp -implicitDefEqProofs only [F16, bd_37_0, ad, aE, aB]
  generalize hw1 : w.alloc _ = w1
  have c1 : Chg [] w w1 := by rw [← hw1]; exact (Chg.refl _ _).alloc _
  have aq : hp w1 w.heap.size = some (.cells #[.slice A xs.length cc, .int .i64 ((0 : Nat) : Int)] 37) := by rw [← hw1, ac, if_pos rfl]; rfl
  clear hw1
  have U1 : UpdP (fpS gp Fm Fx Fk) (fpS gp Fm Fx Fk) w w1 := UpdP.of0 c1
  by_cases hx : xs = []
  · subst hx
    apply L16_0_ok
    have hlt : (0 : Int) < 40 := by omega
    have hal : ¬ ((0 : Nat) : Int) < ([] : List Int).length := by simp
    simp -implicitDefEqProofs only [L16_0, zS, hlt, fa_37_1, af, aq, t2_1, len_22, hal]
    exact ⟨by first | rfl | trivial, Fm, Fx, Fk, kv, (D.keep c1).more (by omega), U1⟩
  · have ne : ∀ p, A = some p → p.block < W.heap.size := fun p hp => by
      obtain ⟨q, hq, hc⟩ := hR 0 (List.length_pos_iff.2 hx)
      rw [hp] at hq; cases hq
      have := cell_lt hc
      rwa [blk_add] at this
    have lt := D.lt
    have D1 := D.keep c1
    have hs := D.chg.size
    have E : PlF W ⟨gp, g, gx, w.heap.size, c, A, cc, xs⟩ w1 m m Kn K 0 Fm Fx Fk kv :=
      ⟨D1.chg, D1.hp, D1.I, D1.X, D1.kn, ⟨0, aq, Nat.le_refl _⟩, hR, ne, D.dmx, D.dmk, D.dxk, D.pm, D.px, D.pk, fun h => by have := lt _ (.inr (.inl h)); simp only at this; omega, fun h => by have := lt _ (.inr (.inr (.inl h))); simp only at this; omega, fun h => by have := lt _ (.inr (.inr (.inr h))); simp only at this; omega,
        by have := lt gp (.inl rfl); simp only; omega, D.nm, D.nx, D.nk, D.np, hs, D.sm, D.sm, D.kl⟩
    exact l_leads0 (E := ⟨gp, g, gx, w.heap.size, c, A, cc, xs⟩) hm (Nat.le_refl _) hK 40 0 w1 m Kn K 0 Fm Fx Fk kv rfl (Nat.le_refl _) (Nat.zero_le _) ⟨E, aq⟩ U1
theorem mkPaS {W1 : World} (P : PairN W1 w gp g gx c (newM c false) Fm Fx) (hm : mayC c = true) (hW : W.heap.size ≤ W1.heap.size) (hc : Chg [] W w) : PaS W w gp g gx c (newM c false) [] 0 Fm Fx none' (.slice none 0 0) :=
  ⟨hc, P.hp, P.I, P.X, isRow.nil, P.dis, fun k h1 h2 => h2.elim, fun k h1 h2 => h2.elim, P.pm, P.px, fun h => h.elim, fun k h => Nat.le_trans hW (P.nm k h), fun k h => Nat.le_trans hW (P.nx k h), fun k h => h.elim, Nat.le_trans hW P.np, ⟨wf_new hm false, wn_new hm false, rfl⟩, Nat.le_refl _⟩
theorem pas_m (D : PaS W w gp g gx c m Kn K Fm Fx Fk kv) : ldC (hp w gp) (0 + 6) = some (.pointer (some ⟨g, 0, none⟩)) := by rw [D.hp]; rfl
theorem cf_at2 (c : CfV) : (cfC c).toArray[0 + 2]? = some (.int .i64 c.2.2.1) := rfl
theorem cf_set2 (c : CfV) (x : Int) : (cfC c).toArray.setIfInBounds (0 + 2) (.int .i64 x) = (cfC (c.1, c.2.1, x, c.2.2.2)).toArray := rfl
set_option maxHeartbeats 8000000 in
theorem l_copies0 (h8 : hp W g8 = some (.cells (cfC c).toArray 33)) (hm : mayC c = true) (h16 : c.2.2.1 ≤ 16) (Dp : PaS W w gp g gx c (newM c false) [] 0 Fm Fx Fk kv) (Dr : PaS W w gp' g' gx' c (newM c false) [] 0 Fm' Fx' Fk' kv') (dis : FDis (fpS gp Fm Fx Fk) (fpS gp' Fm' Fx' Fk')) (hR1 : RdI .i64 W A xs) (hR2 : RdI .i64 W A2 ys) :
    P4_0 (.slice A xs.length cc) (.slice A2 ys.length cc2) (.bool true) (.pointer (some ⟨g8, 0, none⟩)) (.pointer (some ⟨gp, 0, none⟩)) (.pointer (some ⟨gp', 0, none⟩)) w fun v w' => v = .bool true ∧ Chg [] W w' := by
  apply L4_0_ok
  simp -implicitDefEqProofs only [L4_0, zS, be_eqlp Tryz.underlying30]
  refine (c_leads Dp hm hR1 (by omega)).mono ?_
  rintro _ w1 ⟨rfl, Fm1, Fx1, Fk1, kv1, Dp1, U1⟩
  have Dr1 := Dr.frame Dp1.chg U1.chg fun k a b => dis k b a
  have dis1 : FDis (fpS gp Fm1 Fx1 Fk1) (fpS gp' Fm' Fx' Fk') := U1.dis dis Dr.lt
  refine (c_leads Dr1 hm hR1 (by omega)).mono ?_
  rintro _ w2 ⟨rfl, Fm2, Fx2, Fk2, kv2, Dr2, U2⟩
  have Dp2 := Dp1.frame Dr2.chg U2.chg dis1
  have dis2 : FDis (fpS gp' Fm2 Fx2 Fk2) (fpS gp Fm1 Fx1 Fk1) := U2.dis (fun k a b => dis1 k b a) Dp1.lt
  have hloose : (leadsV c xs 40 (newM c false) [] 0).1.loose = false := leads_l c xs 40 _ _ _
  generalize leadsV c xs 40 (newM c false) [] 0 = R at *
  obtain ⟨M, Kn⟩ := R
  simp only at hloose
  have hwf := Dp2.sm.wf
  have hnd := Dp2.sm.wn.nd
  have hl := hands_len (E := ⟨gp, g, gx, 0, c, A, cc, xs⟩) Dp2.sm hm
  simp -implicitDefEqProofs only [ay, ad, fa_46_1, ld_42, pas_m Dp2]
  refine (c_mCopy Dp2.I hwf (by omega) hl).mono ?_
  rintro _ w3 ⟨g3, F3, rfl, X3, new3, c3⟩
  have cd3 : Chg [] w3 w3.drew := (Chg.refl _ _).drew
  have Dp3 := Dp2.keep c3
  have d3p : FDis F3 (fpS gp Fm1 Fx1 Fk1) := fun k a b => by have := new3 k a; have := Dp2.lt k b; omega
  simp -implicitDefEqProofs only [zS, be_eqlp Tryz.underlying42, fa_46_1, ld_42, pas_m Dp3]
  refine (c_mSame (X3.keep cd3) (Dp3.keep cd3).I hwf hnd (by omega) hl).mono ?_
  rintro _ w4 ⟨rfl, c4⟩
  have k4 := c3.trans (cd3.trans c4)
  simp -implicitDefEqProofs only [zS, fa_46_1, ld_42, pas_m (Dp2.keep k4)]
  refine (c_mSame (Dp2.keep k4).I (X3.keep (cd3.trans c4)) hwf hnd (by omega) hl).mono ?_
  rintro _ w5 ⟨rfl, c5⟩
  have k5 := k4.trans c5
  simp -implicitDefEqProofs only [zS, fa_46_1, ld_42, pas_m (Dp2.keep k5), pas_m (Dr2.keep k5)]
  refine (c_mSame (Dp2.keep k5).I (Dr2.keep k5).I hwf hnd (by omega) hl).mono ?_
  rintro _ w6 ⟨rfl, c6⟩
  have k6 := k5.trans c6
  have X6 := X3.keep ((cd3.trans c4).trans (c5.trans c6))
  simp -implicitDefEqProofs only [zS]
  obtain ⟨s6, r6, h6, R6⟩ := X6.rd
  refine (c_mSpare R6 hwf.sl).mono ?_
  rintro _ w7 ⟨rfl, c7⟩
  refine (c_mDepth (R6.keep c7) 0).step ?_
  have k7 := k6.trans c7
  have X7 := X6.keep c7
  have Dp7 := Dp2.keep k7
  have Dr7 := Dr2.keep k7
  refine (c_leads Dp7 hm hR2 (by omega)).mono ?_
  rintro _ w8 ⟨rfl, Fm8, Fx8, Fk8, kv8, Dp8, U8⟩
  have X8 : MdI w8 g3 M F3 := isAt.frame X7 (aT _) U8.chg d3p
  have Dr8 := Dr7.frame Dp8.chg U8.chg dis2
  have i8 := Dp8.chg.at h8 (by simp)
  simp -implicitDefEqProofs only [ld_cf i8, ad]
  refine (c_mLoose c w8).mono ?_
  rintro _ w9 ⟨c9, hv9⟩
  rcases hv9 with ⟨hf, _⟩ | ⟨_, gy, Fy, rfl, Y9, _⟩
  · rw [hm] at hf; cases hf
  have i9 := c9.at i8 (by simp)
  simp -implicitDefEqProofs only [tup0, tup1, ld_cf i9, ad, al_33]
  generalize hwa : w9.alloc _ = wa
  have ca : Chg [] w9 wa := by rw [← hwa]; exact (Chg.refl _ _).alloc _
  obtain ⟨z, ha, hz⟩ : ∃ z : Array Value, hp wa w9.heap.size = some (.cells z 33) ∧ z.size = 6 := by rw [← hwa, ac, if_pos rfl]; exact ⟨_, rfl, rfl⟩
  clear hwa
  rw [st_33 rfl rfl (by rw [ha, okC_some]; exact decide_eq_true (by omega)) (by rw [ha]; exact hz), ha, aD]
  have hs := ap (av ha) (cfC c).toArray 33
  have cb : Chg [] w9 (put wa w9.heap.size (cfC c).toArray 33) := ca.put (.inr (Nat.le_refl _)) _ _
  generalize put wa w9.heap.size (cfC c).toArray 33 = wb at *
  obtain ⟨m1, m2, m3, m4⟩ := may_cf hm
  have hm' := hm
  simp only [mayC, Bool.and_eq_true, decide_eq_true_eq] at hm'
  simp -implicitDefEqProofs only [fa_33_2, af, hs, ldC_some, cf_at2, ad, aA, az (n := c.2.2.1 + 8) (by omega) (by omega)]
  rw [st_3 (o := 0 + 2) rfl rfl (by rw [hs]; rfl), hs, br, aD, cf_set2]
  have hs2 := ap (av hs) (cfC (c.1, c.2.1, c.2.2.1 + 8, c.2.2.2)).toArray 33
  have cbb : Chg [] w9 (put wb w9.heap.size (cfC (c.1, c.2.1, c.2.2.1 + 8, c.2.2.2)).toArray 33) := cb.put (.inr (Nat.le_refl _)) _ _
  generalize put wb w9.heap.size (cfC (c.1, c.2.1, c.2.2.1 + 8, c.2.2.2)).toArray 33 = wc at *
  simp -implicitDefEqProofs only [ld_cf hs2, ad]
  have hbig : mayC (c.1, c.2.1, c.2.2.1 + 8, c.2.2.2) = true := by
    simp only [mayC, Bool.and_eq_true, decide_eq_true_eq]
    omega
  refine (c_mNew (c.1, c.2.1, c.2.2.1 + 8, c.2.2.2) wc).mono ?_
  rintro _ wd ⟨cdd, hvd⟩
  rcases hvd with ⟨hf, _⟩ | ⟨_, gz, Fz, rfl, Zd, _⟩
  · rw [hbig] at hf; cases hf
  have kd : Chg [] w8 wd := c9.trans (cbb.trans cdd)
  have Xd := X8.keep kd
  have Drd := Dr8.keep kd
  have Yd := Y9.keep (cbb.trans cdd)
  have call : Chg [] W wd := Dp8.chg.trans kd
  simp -implicitDefEqProofs only [tup0, tup1, zS]
  obtain ⟨sd, rd, hd, Rd⟩ := Xd.rd
  refine (c_mSpare Rd hwf.sl).mono ?_
  rintro _ we ⟨rfl, ce⟩
  simp -implicitDefEqProofs only [zS]
  refine (c_mDepth (Rd.keep ce) 0).step ?_
  simp -implicitDefEqProofs only [zS, fa_46_1, ld_42, pas_m (Drd.keep ce)]
  refine (c_mSame (Xd.keep ce) (Drd.keep ce).I hwf hnd (by omega) hl).mono ?_
  rintro _ wf ⟨rfl, cf⟩
  simp -implicitDefEqProofs only [zS, be_neqp Tryz.underlying42]
  refine (c_mDiff ((Xd.keep ce).keep cf) ((Yd.keep ce).keep cf) (.inr (by rw [hloose]; simp [newM]))).mono ?_
  rintro _ wg ⟨rfl, cg⟩
  simp -implicitDefEqProofs only [zS]
  refine (c_mDiff (((Zd.keep ce).keep cf).keep cg) (((Xd.keep ce).keep cf).keep cg) (.inl (by
    rw [Dp2.sm.mc]
    intro e
    have : c.2.2.1 + 8 = c.2.2.1 := congrArg (fun x : CfV => x.2.2.1) e
    omega))).mono ?_
  rintro _ wh ⟨rfl, ch⟩
  simp -implicitDefEqProofs only [zS]
  exact ⟨by trivial, call.trans ((ce.trans cf).trans (cg.trans ch))⟩
set_option maxHeartbeats 4000000 in
theorem c_copies (a0 : Int) (hR1 : RdI .i64 w A xs) (hR2 : RdI .i64 w A2 ys) : CallR Tryz.prog 4 [.int .i64 a0, .slice A xs.length cc, .slice A2 ys.length cc2] w fun v w' => v = .bool true ∧ Chg [] w w' := by
  apply F4_ok
  simp -implicitDefEqProofs only [F4]
  refine (c_mFirst w).mono ?_
  rintro _ w1 ⟨rfl, c1⟩
  by_cases hl : (300 : Int) < xs.length
  · simp -implicitDefEqProofs only [zS, len_22, hl, gt_iff_lt]
    exact ⟨by first | rfl | trivial, c1⟩
  by_cases hl2 : (300 : Int) < ys.length
  · simp -implicitDefEqProofs only [zS, len_22, hl, hl2, gt_iff_lt]
    exact ⟨by first | rfl | trivial, c1⟩
  simp -implicitDefEqProofs only [zS, len_22, hl, hl2, gt_iff_lt]
  refine (c_mConfigS a0 w1).mono ?_
  rintro _ w2 ⟨c, rfl, hm, h16, c2⟩
  simp -implicitDefEqProofs only [al_33]
  generalize hwa : w2.alloc _ = wa
  have ca : Chg [] w2 wa := by rw [← hwa]; exact (Chg.refl _ _).alloc _
  obtain ⟨z, ha, hz⟩ : ∃ z : Array Value, hp wa w2.heap.size = some (.cells z 33) ∧ z.size = 6 := by rw [← hwa, ac, if_pos rfl]; exact ⟨_, rfl, rfl⟩
  clear hwa
  rw [st_33 rfl rfl (by rw [ha, okC_some]; exact decide_eq_true (by omega)) (by rw [ha]; exact hz), ha, aD]
  have hs := ap (av ha) (cfC c).toArray 33
  have cb : Chg [] w2 (put wa w2.heap.size (cfC c).toArray 33) := ca.put (.inr (Nat.le_refl _)) _ _
  generalize put wa w2.heap.size (cfC c).toArray 33 = wb at *
  generalize w2.heap.size = g8 at *
  have cd : Chg [] wb wb.drew := (Chg.refl _ _).drew
  have hsd := cd.at hs (by simp)
  have c02 := c1.trans c2
  have cW : Chg [] w wb.drew := c02.trans (cb.trans cd)
  have szd : wb.drew.heap.size = wb.heap.size := rfl
  simp -implicitDefEqProofs only [ld_cf hsd, ad]
  refine ⟨?_, ?_⟩
  all_goals
    refine (c_made24 (loose := false) hm wb.drew).mono ?_
    rintro _ w3 ⟨gp, g, gx, Fm, Fx, rfl, P⟩
    try simp -implicitDefEqProofs only [ld_cf (P.chg.at hsd (by simp)), ad]
    refine (c_made24 (loose := false) hm w3).mono ?_
    rintro _ w4 ⟨gp', g', gx', Fm', Fx', rfl, P'⟩
    have Dp := (mkPaS (W := wb.drew) P hm (Nat.le_refl _) P.chg).keep P'.chg
    have Dr := mkPaS (W := wb.drew) P' hm P.chg.size (P.chg.trans P'.chg)
    have dis : FDis (fpS gp Fm Fx none') (fpS gp' Fm' Fx' none') := fun k a b => by
      have l1 := (mkPaS (W := wb.drew) P hm (Nat.le_refl _) P.chg).lt k a
      rcases b with h | h | h | h
      · have := P'.np; omega
      · have := P'.nm k h; omega
      · have := P'.nx k h; omega
      · exact h.elim
    refine (l_copies0 hsd hm h16 Dp Dr dis (hR1.keep cW.below) (hR2.keep cW.below)).mono ?_
    rintro _ w5 ⟨rfl, c5⟩
    exact ⟨rfl, cW.trans c5⟩
theorem lawCopies {W : World} (a0 : Int) (_ : (Lit.int .i64 a0).wf = true) (A : Option Addr) (n c : Nat) (zs : List Int) (h : InInts .i64 W A n c zs) (A2 : Option Addr) (n2 c2 : Nat) (zs2 : List Int) (h' : InInts .i64 W A2 n2 c2 zs2) :
    CallR Tryz.prog 4 [.int .i64 a0, .slice A n c, .slice A2 n2 c2] W fun v w' => v = .bool true ∧ Below W.heap.size W w' := by
  obtain ⟨h1, h2, h3, _, _⟩ := h.rd
  obtain ⟨h1', h2', h3', _, _⟩ := h'.rd
  generalize zs.take n = xs at h1 h2
  generalize zs2.take n2 = ys at h1' h2'
  subst h2 h2'
  exact (c_copies a0 h1 h1').mono fun _ _ h => ⟨h.1, h.2.below⟩
end
end Go.Proofs.YtgamnncehjcdiaaGreat

