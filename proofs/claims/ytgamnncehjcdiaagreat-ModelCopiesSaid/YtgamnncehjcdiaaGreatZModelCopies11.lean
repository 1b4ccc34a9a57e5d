/- Parts of the proof of ModelCopies, one behind the other. Conditions: none. -/
import Derived.Test.YtgamnncehjcdiaaGreatChecked
import Derived.Eval
import Derived.Test.YtgamnncehjcdiaaGreatZModelCopies10
set_option linter.unusedSimpArgs false
set_option linter.unusedVariables false
set_option maxRecDepth 100000
namespace Go.Proofs.YtgamnncehjcdiaaGreat
open Go Ev Go.RowKit

section
variable {W w : World} {g g5 b i k : Nat} {m : MdV} {F : Fp} {K : Nat} {r : RgV}
theorem own_unique {e : TypeId} {z n : Nat} {x : Value} {xs ys : List Value} {p q : Nat} (h : w.ownsRow p e z x n xs) (k : w.ownsRow q e z x n ys) : xs = ys := by
  rcases h.2 with ⟨rfl, rfl⟩ | ⟨g, cap, cur, rfl, _, hg, _, _, _, ht⟩
  · have h1 := h.1; have h2 := k.1
    simp at h1 h2
    rw [h1, h2]
  · rcases k.2 with ⟨h0, _⟩ | ⟨g', cap', cur', h0, _, hg', _, _, _, ht'⟩
    · cases h0
    · cases h0
      rw [hg] at hg'
      cases hg'
      rw [← ht, ← ht']
theorem Ev.UpdP.keep {F F' : Fp} {w w1 : World} (u : UpdP F F' w w1) {x : Nat} {o : Obj} (hx : hp w x = some o) (hn : ¬ F x) : hp w1 x = some o ∧ ¬ F' x := by
  refine ⟨u.chg.at hx hn, fun h => ?_⟩
  rcases u.sub x h with h1 | h1
  · exact hn h1
  · have := av hx; omega
theorem slots_blk (I : MdI w g m F) {n c : Nat} (hl : ldC (hp w g) (0 + 7) = some (.slice (some ⟨b, 0, none⟩) n c)) : b ≠ g ∧ F b := by
  obtain ⟨v, Fk, hg, hng, hsub, hld, hS, _⟩ := isAt.cell I (aT m) (k := 7) (P := slotsT m.slots) rfl
  rw [show ldC (hp w g) 7 = _ from hl] at hld
  cases hld
  obtain ⟨xs, Fs, _, _, _, h4⟩ := hS
  have hb := (h4 b).2 (.inl rfl)
  exact ⟨fun e => hng (by rw [← e]; exact hb), hsub b hb⟩
theorem st_slot {x y : Value} {o : Nat} {L : World → Prop} (h1 : x.oneCell' = true) (h2 : y.oneCell' = true) (hx : x.cells = #[x]) (hy : y.cells = #[y]) (ok : okC (hp w b) (o + 2) = true) : effu Tryz.prog (Instr.storeAt 77 (.pointer (some ⟨b, o, none⟩)) (.agg #[x, y])) w L = L (put w b (((getC (hp w b)).setIfInBounds o x).setIfInBounds (o + 1) y) (getE (hp w b))) := by
  exact effu_store (v := .agg #[x, y]) sz_77 rfl (by show (List.all [x, y] _) = true; simp [h1, h2]) (by decide) ok
theorem MdI.slotSet2 (I : MdI w g m F) {p p' : NmV} (hp' : m.slots[i]? = some p) :
    ∃ b c, ldC (hp w g) (0 + 7) = some (.slice (some ⟨b, 0, none⟩) m.slots.length c) ∧ b ≠ g ∧ F b ∧ okC (hp w b) (i * 2 + 2) = true ∧
      ∃ F', MdI (put w b (((getC (hp w b)).setIfInBounds (i * 2) (.int .i64 p'.1)).setIfInBounds (i * 2 + 1) (.int .i64 p'.2)) (getE (hp w b))) g { m with slots := m.slots.set i p' } F' ∧ UpdP F F' w (put w b (((getC (hp w b)).setIfInBounds (i * 2) (.int .i64 p'.1)).setIfInBounds (i * 2 + 1) (.int .i64 p'.2)) (getE (hp w b))) := by
  obtain ⟨b, c, hl, ok, F1, h1, h2⟩ := I.slotSet hp' (p' := (p'.1, p.2)) (k := 0) (x := p'.1) (by omega) rfl
  obtain ⟨hbg, hFb⟩ := slots_blk I hl
  have hp2 : ({ m with slots := m.slots.set i (p'.1, p.2) } : MdV).slots[i]? = some (p'.1, p.2) := by
    show (m.slots.set _ _)[_]? = _
    rw [List.getElem?_set, if_pos rfl, if_pos (List.getElem?_eq_some_iff.1 hp').1]
  obtain ⟨b2, c2, hl2, ok2, F2, h3, h4⟩ := h1.slotSet hp2 (p' := p') (k := 1) (x := p'.2) (by omega) rfl
  have hln : ({ m with slots := m.slots.set i (p'.1, p.2) } : MdV).slots.length = m.slots.length := by simp
  rw [hln, ax (Ne.symm hbg), hl] at hl2
  cases hl2
  obtain ⟨cc, e, hb, hle⟩ := okC_cases ok
  have hlt := av hb
  rw [hb] at h3 h4 ok2 h2
  rw [br, aD, ap hlt] at h3 h4 ok2
  rw [br, aD, put_put] at h3 h4
  have es : ({ m with slots := m.slots.set i p' } : MdV) = { ({ m with slots := m.slots.set i (p'.1, p.2) } : MdV) with slots := ({ m with slots := m.slots.set i (p'.1, p.2) } : MdV).slots.set i p' } := by simp [List.set_set]
  refine ⟨b, c, hl, hbg, hFb, ?_, F2, ?_, ?_⟩
  · rw [hb, okC_some]
    rw [okC_some, decide_eq_true_eq] at ok2
    simp at ok2
    exact decide_eq_true ok2
  · rw [hb, es]; exact h3
  · rw [hb]
    exact UpdP.trans h2 h4
theorem MdI.rgPut (I : MdI w g m F) {n c : Nat} (hb : ldC (hp w g) (0 + 8) = some (.slice (some ⟨b, 0, none⟩) n c)) (hr : m.rgs[i]? = some r) (hk : k < 7) {P : Th} (hP : (rgT r)[k]? = some P) :
    ∃ v Fk, (∀ x, Fk x → F x) ∧ F b ∧ ¬ Fk b ∧ ldC (hp w b) (i * 7 + k) = some v ∧ P w Fk v ∧
      ∀ w1 F' P' v' r', UpdP Fk F' w w1 → OwnT P' → P' w1 F' v' → rgT r' = (rgT r).set k P' → okC (hp w1 b) (i * 7 + k + 1) = true ∧ v'.cells = #[v'] ∧ v'.oneCell' = true ∧
        ldC (hp (put w1 b ((getC (hp w1 b)).setIfInBounds (i * 7 + k) v') (getE (hp w1 b))) g) (0 + 8) = some (.slice (some ⟨b, 0, none⟩) n c) ∧
        ∃ F1, MdI (put w1 b ((getC (hp w1 b)).setIfInBounds (i * 7 + k) v') (getE (hp w1 b))) g { m with rgs := m.rgs.set i r' } F1 ∧ UpdP F F1 w (put w1 b ((getC (hp w1 b)).setIfInBounds (i * 7 + k) v') (getE (hp w1 b))) := by
  obtain ⟨rv, Fr, hg, hng, hsub, hld, hR, hres, _⟩ := isAt.cell I (aT m) (k := 8) (P := rgsT m.rgs) rfl
  have hP' : (m.rgs.flatMap rgT)[i * 7 + k]? = some P := (aR rgT_len m.rgs i r hr k hk).trans hP
  obtain ⟨b', c', v, Fk, hx, hFb, hnb, hsub2, hld2, hv, h3, h4⟩ := isRow.cell hR (good_rgL m.rgs) hP'
  rw [show ldC (hp w g) 8 = _ from hb, hx] at hld
  cases hld
  have hbg : b ≠ g := fun e => hng (by rw [← e]; exact hFb)
  refine ⟨v, Fk, fun x hx => hsub x (hsub2 x hx), hsub b hFb, hnb, hld2, hv, fun w1 F' P' v' r' u hg' hpp hr' => ?_⟩
  obtain ⟨ok, F1, hrow, hupd⟩ := h4 w1 F' P' v' u hg' hpp
  rw [flatM_setP rgT_len hk hr' hr] at hrow
  have hrow' : rgsT (m.rgs.set i r') (put w1 b ((getC (hp w1 b)).setIfInBounds (i * 7 + k) v') (getE (hp w1 b))) F1 rv := by rw [rgsT, List.length_set]; exact hrow
  obtain ⟨F2, e1, e2⟩ := hres _ F1 (rgsT (m.rgs.set i r')) hupd hrow'
  obtain ⟨one1, one2⟩ := hg'.one hpp
  refine ⟨ok, one1, one2, ?_, F2, e1, e2⟩
  rw [ax (Ne.symm hbg)]
  have : hp w1 g = hp w g := u.chg.block g (by
    rcases Nat.lt_or_ge g w.heap.size with h | h
    · exact h
    · have h2 : hp w g = none := by simp [hp]; omega
      rw [h2] at hb; cases hb) fun h => hng (hsub2 g h)
  rw [this]; exact hb
theorem MdI.rgsPut (I : MdI w g m F) : ∃ v Fk, (∀ x, Fk x → F x) ∧ ldC (hp w g) (0 + 8) = some v ∧ rgsT m.rgs w Fk v ∧
    ∀ w1 F' v' rgs', UpdP Fk F' w w1 → rgsT rgs' w1 F' v' → okC (hp w1 g) (0 + 8 + 1) = true ∧ v'.cells = #[v'] ∧ v'.oneCell' = true ∧
      ∃ F1, MdI (put w1 g ((getC (hp w1 g)).setIfInBounds (0 + 8) v') (getE (hp w1 g))) g { m with rgs := rgs' } F1 ∧ UpdP F F1 w (put w1 g ((getC (hp w1 g)).setIfInBounds (0 + 8) v') (getE (hp w1 g))) := by
  obtain ⟨rv, Fr, hg, hng, hsub, hld, hR, _, hput⟩ := isAt.cell I (aT m) (k := 8) (P := rgsT m.rgs) rfl
  refine ⟨rv, Fr, hsub, hld, hR, fun w1 F' v' rgs' u hv' => ?_⟩
  obtain ⟨ok, F1, h1, h2⟩ := hput w1 F' (rgsT rgs') v' u (good_rgs rgs') hv'
  obtain ⟨one1, one2⟩ := (good_rgs rgs').one hv'
  exact ⟨ok, one1, one2, F1, h1, h2⟩
theorem rgs_grown {L : List RgV} {w' : World} {x x' : Value} {xs : List Value} (h : rgsT L w F x) (hown : w.ownsRow 0 88 7 x L.length xs) (nm : NmV) (cls : Int)
    (ho : w'.ownsRow 0 88 7 x' (L.length + 1) (xs ++ [.int .i64 nm.1, .int .i64 nm.2, .int .i64 cls, .int .i64 0, .slice none 0 0, .slice none 0 0, .slice none 0 0])) (hg : w.grownBy w' x.ownBlock) (hnb : NewB w x x') :
    ∃ F', rgsT (L ++ [⟨nm, cls, 0, [], [], []⟩]) w' F' x' ∧ UpdP F F' w w' := by
  have hy : Parts w (rgT ⟨nm, cls, 0, [], [], []⟩) [.int .i64 nm.1, .int .i64 nm.2, .int .i64 cls, .int .i64 0, .slice none 0 0, .slice none 0 0, .slice none 0 0] (fun _ => none') := by
    refine ⟨rfl, fun k P v hP hv => ?_, fun _ _ _ _ _ b hb _ => hb⟩
    have hk := (List.getElem?_eq_some_iff.1 hP).1
    rw [rgT_len] at hk
    have hk' : k = 0 ∨ k = 1 ∨ k = 2 ∨ k = 3 ∨ k = 4 ∨ k = 5 ∨ k = 6 := by omega
    rcases hk' with rfl | rfl | rfl | rfl | rfl | rfl | rfl <;> cases hP <;> cases hv
    · exact ⟨rfl, fun _ h => h⟩
    · exact ⟨rfl, fun _ h => h⟩
    · exact ⟨rfl, fun _ h => h⟩
    · exact ⟨rfl, fun _ h => h⟩
    · exact isRow.nil
    · exact isRow.nil
    · exact isRow.nil
  obtain ⟨F', h1, h2, _⟩ := isRow.grow (G := none') (m := 1) h (good_rgL L) (good_rg _) hy (fun b => ⟨fun h => h.elim, fun ⟨_, _, h⟩ => h⟩) (fun _ _ h => h) (fun xs' h' => by rw [own_unique h' hown]; exact ho) hg hnb
  refine ⟨F', ?_, ⟨h2.chg.mono fun k hk => hk.resolve_right id, fun k hk => (h2.sub k hk).imp (·.resolve_right id) id⟩⟩
  rw [rgsT, List.length_append, List.flatMap_append]
  simpa using h1
theorem rs_beq (a b : RsV) : ((a.1 == b.1) && (((a.2.1.1 == b.2.1.1) && ((a.2.1.2.1 == b.2.1.2.1) && ((a.2.1.2.2.1 == b.2.1.2.2.1) && ((a.2.1.2.2.2.1 == b.2.1.2.2.2.1) && ((a.2.1.2.2.2.2 == b.2.1.2.2.2.2) && (true)))))) && ((a.2.2.1 == b.2.2.1) && ((a.2.2.2 == b.2.2.2) && (true))))) = decide (a = b) := by
  obtain ⟨a1, ⟨a2, a3, a4, a5, a6⟩, a7, a8⟩ := a; obtain ⟨b1, ⟨b2, b3, b4, b5, b6⟩, b7, b8⟩ := b
  by_cases h1 : a1 = b1 <;> by_cases h2 : a2 = b2 <;> by_cases h3 : a3 = b3 <;> by_cases h4 : a4 = b4 <;> by_cases h5 : a5 = b5 <;> by_cases h6 : a6 = b6 <;> by_cases h7 : a7 = b7 <;> by_cases h8 : a8 = b8 <;> simp [h1, h2, h3, h4, h5, h6, h7, h8]
theorem be_rs {x y : Operand} (a b : RsV) : be Tryz.prog .eql 28 x y (.agg (rsC a).toArray) (.agg (rsC b).toArray) = some (.bool (decide (a = b))) := by rw [← rs_beq]; exact be_eql_28
theorem be_nrs {x y : Operand} (a b : RsV) : be Tryz.prog .neq 28 x y (.agg (rsC a).toArray) (.agg (rsC b).toArray) = some (.bool (!decide (a = b))) := by rw [← rs_beq]; exact be_neq_28
set_option maxHeartbeats 1000000 in
theorem c_mTaken {s rv hh : Value} (M : MdR w g m s rv hh) (Wm : Wf m K) (hK : K ≤ 1000000) (x : Int) : CallR Tryz.prog 65 [.pointer (some ⟨g, 0, none⟩), .int .i64 x] w fun v w' => v = .bool (takenV m x) ∧ Chg [] w w' := by
  apply F65_ok
  obtain ⟨A, c, hr⟩ := rgs_sh M.rT
  have hrl := M.rl
  rw [hr] at hrl
  have hl := Nat.le_trans Wm.rl hK
  simp -implicitDefEqProofs only [F65, zS, ay, fa_74_3, ld_71, hrl, len_71]
  have main : ∀ (d i : Nat) (w1 : World), Chg [] w w1 → (∀ (j : Nat) (r : RgV), j < i → m.rgs[j]? = some r → (isLv m r.nm && decide (x ∈ r.chunks)) = false) → i + d = m.rgs.length →
      P65_0 (.pointer (some ⟨g, 0, none⟩)) (.int .i64 x) (.slice A m.rgs.length c) (.int .i64 m.rgs.length) (.int .i64 i) w1 fun v w' => v = .bool (takenV m x) ∧ Chg [] w w' := by
    intro d
    induction d with
    | zero =>
      intro i w1 hc hn hi
      apply L65_0_ok
      have : ¬ (i : Int) < m.rgs.length := by omega
      simp -implicitDefEqProofs only [L65_0, zS, this]
      refine ⟨?_, hc⟩
      have : takenV m x = false := by
        rw [takenV, List.any_eq_false]
        intro r hr
        obtain ⟨j, hj⟩ := List.getElem?_of_mem hr
        rw [hn j r (by have := (List.getElem?_eq_some_iff.1 hj).1; omega) hj]; simp
      rw [this]
    | succ d ih =>
      intro i w1 hc hn hi
      apply L65_0_ok
      have hlt : (i : Int) < m.rgs.length := by omega
      obtain ⟨rg, hrg⟩ : ∃ rg, m.rgs[i]? = some rg := ⟨_, List.getElem?_eq_getElem (by omega)⟩
      obtain ⟨Fr, hF⟩ := (M.keep hc).rT
      obtain ⟨b, c', hx, cv, wv, ov, R⟩ := rg_at hF hrg
      rw [hr] at hx
      cases hx
      have ia := ia_71 (b := b) (p := 0) (n := m.rgs.length) (c := c) (j := .i64) (i := (i : Int)) (by omega) (by omega)
      rw [Int.toNat_natCast, Nat.zero_add] at ia
      have lr : ldL (hp w1 b) (i * 7) 7 = some [.int .i64 rg.nm.1, .int .i64 rg.nm.2, .int .i64 rg.cls, .int .i64 rg.off, cv, wv, ov] := ldL_take 7 _ _ rfl fun j u hj => by
        have hj' := (List.getElem?_eq_some_iff.1 hj).1
        simp at hj'
        have h7 : j = 0 ∨ j = 1 ∨ j = 2 ∨ j = 3 ∨ j = 4 ∨ j = 5 ∨ j = 6 := by omega
        rcases h7 with rfl | rfl | rfl | rfl | rfl | rfl | rfl <;> cases hj
        · exact R.c0
        · exact R.c1
        · exact R.c2
        · exact R.c3
        · exact R.c4
        · exact R.c5
        · exact R.c6
      obtain ⟨Fc, hFc⟩ := R.cT
      obtain ⟨Fw, hFw⟩ := R.wT
      obtain ⟨Fo, hFo⟩ := R.oT
      have one1 := ((good_intsT _).one hFc).2
      have one2 := ((good_words _).one hFw).2
      have one3 := ((aS _).one hFo).2
      simp -implicitDefEqProofs only [L65_0, zS, hlt, ia, ld_88, lr, Option.map_some, al_88]
      rw [st_88 (by rfl) (by show (List.all [_, _, _, _, cv, wv, ov] _) = true; have oi : ∀ (k : IntKind) (x : Int), (Value.int k x).oneCell' = true := fun _ _ => rfl; simp [one1, one2, one3, oi]) (by rw [ac, if_pos rfl]; rfl) (by rw [ac, if_pos rfl]; rfl), ac, if_pos rfl, aD]
      generalize hw2 : put (w1.alloc _) w1.heap.size _ _ = w2
      have c2 : Chg [] w1 w2 := by rw [← hw2]; exact ((Chg.refl _ _).alloc _).put (.inr (Nat.le_refl _)) _ _
      have a6 : hp w2 w1.heap.size = some (.cells #[.int .i64 rg.nm.1, .int .i64 rg.nm.2, .int .i64 rg.cls, .int .i64 rg.off, cv, wv, ov] 88) := by rw [← hw2]; exact ap (by simp) _ _
      clear hw2
      have c02 := hc.trans c2
      have ln : ldL (some (Obj.cells #[.int .i64 rg.nm.1, .int .i64 rg.nm.2, .int .i64 rg.cls, .int .i64 rg.off, cv, wv, ov] 88)) (0 + 0) 2 = some [.int .i64 rg.nm.1, .int .i64 rg.nm.2] := rfl
      simp -implicitDefEqProofs only [fa_88_0, ld_84, a6, ln, Option.map_some, ad]
      refine (c_mIsLive (M.keep c02) rg.nm).mono ?_
      rintro _ w3 ⟨rfl, c3⟩
      have c03 := c02.trans c3
      have a63 := c3.at a6 (by simp)
      have next : (isLv m rg.nm && decide (x ∈ rg.chunks)) = false → P65_0 (.pointer (some ⟨g, 0, none⟩)) (.int .i64 x) (.slice (some ⟨b, 0, none⟩) m.rgs.length c) (.int .i64 m.rgs.length) (.int .i64 ((i : Int) + 1)) w3 fun v w' => v = .bool (takenV m x) ∧ Chg [] w w' := by
        intro hf
        have := ih (i + 1) w3 c03 (fun j r hj hr => by
          rcases Nat.lt_or_ge j i with h1 | h1
          · exact hn j r h1 hr
          · have : j = i := by omega
            subst this
            rw [hrg] at hr; cases hr; exact hf) (by omega)
        rw [Int.natCast_add i 1] at this
        exact this
      cases hlv : isLv m rg.nm with
      | false =>
        simp -implicitDefEqProofs only [zS, aA, az (n := (i : Int) + 1) (by omega) (by omega)]
        exact next (by rw [hlv]; rfl)
      | true =>
        obtain ⟨A', c', hcv, hR⟩ := ints_sh ⟨_, hFc⟩
        have e4 : (#[Value.int .i64 rg.nm.1, .int .i64 rg.nm.2, .int .i64 rg.cls, .int .i64 rg.off, cv, wv, ov])[0 + 4]? = some (.slice A' rg.chunks.length c') := by rw [hcv]; rfl
        simp -implicitDefEqProofs only [zS, fa_88_3, aY, a63, e4]
        apply F94_ok
        simp -implicitDefEqProofs only [F94]
        have hR3 : RdI .i64 w3 A' rg.chunks := hR.keep (c2.trans c3).below
        have hcl : rg.chunks.length ≤ 1000000 := Nat.le_trans (Wm.rg rg (List.mem_of_getElem? hrg)).cl hK
        refine (c_iIndex (c := c') hR3 hcl x).step ?_
        have hge : decide (ixOf rg.chunks x ≥ 0) = decide (x ∈ rg.chunks) := ixOf_mem _ _
        simp -implicitDefEqProofs only [zS, aH]
        by_cases hm : x ∈ rg.chunks
        · rw [decide_eq_true hm] at hge
          have hge' := of_decide_eq_true hge
          simp -implicitDefEqProofs only [zS, hge', aH]
          refine ⟨?_, c03⟩
          have : takenV m x = true := by
            rw [takenV, List.any_eq_true]
            exact ⟨rg, List.mem_of_getElem? hrg, by rw [hlv, decide_eq_true hm]; rfl⟩
          rw [this]
        · rw [decide_eq_false hm] at hge
          have hge' := of_decide_eq_false hge
          simp -implicitDefEqProofs only [zS, hge', aH, aA, az (n := (i : Int) + 1) (by omega) (by omega)]
          exact next (by rw [decide_eq_false hm]; simp)
  exact main m.rgs.length 0 w (Chg.refl _ _) (fun j r hj => by omega) (by omega)
end
end Go.Proofs.YtgamnncehjcdiaaGreat

namespace Go.Proofs.YtgamnncehjcdiaaGreat
open Go Ev Go.RowKit

section
variable {W w : World} {g g5 : Nat} {m : MdV} {F : Fp} {K : Nat} {r : RsV} {cls : Int} {p : NmV}
theorem MdI.notF (I : MdI W g m F) {x : Nat} (h : W.heap.size ≤ x) : ¬ F x := fun hx => by have := isAt.lt I (aT m) x hx; omega
theorem rs_0 (r : RsV) : (rsC r).toArray[0 + 0]? = some (.int .i64 r.1) := rfl
theorem rs_1 (r : RsV) : (rsC r).toArray[0 + 1 + 0]? = some (.int .i64 r.2.1.1) := rfl
theorem rs_3 (r : RsV) : (rsC r).toArray[0 + 1 + 2]? = some (.int .i64 r.2.1.2.2.1) := rfl
theorem rs_h (r : RsV) (e : TypeId) : ldL (some (Obj.cells (rsC r).toArray e)) (0 + 1) 5 = some (hnC r.2.1) := rfl
set_option maxHeartbeats 1000000 in
theorem l_creates0 (hc : Chg [] W w) (IW : MdI W g m F) (Wm : Wf m K) (hK : K + 1 ≤ 1000000) (n5 : W.heap.size ≤ g5) (h5 : hp w g5 = some (.cells (rsC r).toArray 28)) (r7 : r ≠ codeR 7) (hs : 0 ≤ r.2.1.1 ∧ r.2.1.1 < m.slots.length) (hp' : m.slots[r.2.1.1.toNat]? = some p) (p0 : p.1 = 0) :
    P32_0 (.pointer (some ⟨g, 0, none⟩)) (.int .i64 cls) (.pointer (some ⟨g5, 0, none⟩)) (.int .i64 (laterV p.2)) w fun v w' => v = .bool (createsV m cls r).1 ∧ ∃ F', MdI w' g (createsV m cls r).2 F' ∧ UpdP F F' W w' := by
  apply L32_0_ok
  have I := IW.keep hc
  have cv : createsV m cls r = if r = (0, (r.2.1.1, laterV p.2, 0, 0, 0), 0, 0) then
        (true, { m with slots := m.slots.set r.2.1.1.toNat (1, laterV p.2), rgs := m.rgs ++ [⟨(r.2.1.1, laterV p.2), cls, 0, [], [], []⟩] }) else (false, m) := by
    rw [createsV, if_neg r7, if_pos hs, hp']
    simp only [ne_eq, p0, not_true_eq_false, if_false]
  have hbe : be Tryz.prog .neq 28 (.tmp 54) (.tmp 60) (.agg (rsC r).toArray) (.agg #[.int .i64 0, .int .i64 r.2.1.1, .int .i64 (laterV p.2), .int .i64 0, .int .i64 0, .int .i64 0, .int .i64 0, .int .u64 0]) = some (.bool (!decide (r = (0, (r.2.1.1, laterV p.2, 0, 0, 0), 0, 0)))) := be_nrs r (0, (r.2.1.1, laterV p.2, 0, 0, 0), 0, 0)
  simp -implicitDefEqProofs only [L32_0, aZ h5, ad, fa_28_1, ba, af, h5, ldC_some, rs_1, bd_25_0_1, bd_28_1, hbe]
  by_cases hr : r = (0, (r.2.1.1, laterV p.2, 0, 0, 0), 0, 0)
  · rw [if_pos hr] at cv
    rw [cv]
    have cd : Chg [] w w.drew := (Chg.refl _ _).drew
    obtain ⟨b1, c1, hl, hbg, hFb, ok, F1, h1, h2⟩ := (I.keep cd).slotSet2 (p' := (1, laterV p.2)) hp'
    have ia := ia_70 (b := b1) (p := 0) (n := m.slots.length) (c := c1) (j := .i64) (i := r.2.1.1) hs.1 hs.2
    rw [Nat.zero_add] at ia
    simp -implicitDefEqProofs only [decide_eq_true hr, zS, fa_74_2, ld_70, show ldC (hp w g) (0 + 7) = _ from hl, h5, rs_1, bd_77_0_1, ia]
    rw [st_slot (o := r.2.1.1.toNat * 2) rfl rfl rfl rfl ok]
    have k5 := h2.keep (show hp w.drew g5 = _ from h5) (IW.notF n5)
    generalize put w.drew b1 _ _ = w1 at *
    have cd1 : Chg [] w1 w1.drew := (Chg.refl _ _).drew
    have k5d : hp w1.drew g5 = some (.cells (rsC r).toArray 28) := k5.1
    have fin : ∀ w2, Chg [] w1 w2 → ∃ (v : Value) (Fk : Fp), ldC (hp w2 g) (0 + 8) = some v ∧ (∀ x, Fk x → F1 x) ∧
        ∀ {Q : Value → World → Prop}, (∀ x' w3, okC (hp w3 g) (0 + 8 + 1) = true → x'.cells = #[x'] → x'.oneCell' = true →
            (∃ F', MdI (put w3 g ((getC (hp w3 g)).setIfInBounds (0 + 8) x') (getE (hp w3 g))) g { m with slots := m.slots.set r.2.1.1.toNat (1, laterV p.2), rgs := m.rgs ++ [⟨(r.2.1.1, laterV p.2), cls, 0, [], [], []⟩] } F' ∧ UpdP F F' W (put w3 g ((getC (hp w3 g)).setIfInBounds (0 + 8) x') (getE (hp w3 g)))) → Q x' w3) →
          effv Tryz.prog (Instr.buildSlice 71 1 #[(0, .agg #[.int .i64 r.2.1.1, .int .i64 (laterV p.2), .int .i64 cls, .int .i64 0, .slice none 0 0, .slice none 0 0, .slice none 0 0])]) w2 fun y w3 => effv Tryz.prog (Builtin.append_ #[71, 71] 71 #[v, y]) w3 Q := by
      intro w2 c2
      obtain ⟨v, Fk, hsub, hld, hR, hput⟩ := (h1.keep c2).rgsPut
      refine ⟨v, Fk, hld, hsub, fun {Q} hQ => ?_⟩
      obtain ⟨xs, Fs, q1, q2, q3, q4⟩ := hR
      have hlen : ({ m with slots := m.slots.set r.2.1.1.toNat (1, laterV p.2) } : MdV).rgs.length = m.rgs.length := rfl
      rw [hlen] at q1
      have hrl := Wm.rl
      refine ps_71 (fun u hu => by simp only [List.mem_cons, List.not_mem_nil, or_false] at hu; rcases hu with rfl | rfl | rfl | rfl | rfl | rfl | rfl <;> rfl) q1 (by omega) (Nat.zero_le _) fun x' w3 ho hg hnb => ?_
      obtain ⟨F3, r1, r2⟩ := rgs_grown (nm := (r.2.1.1, laterV p.2)) (cls := cls) (L := m.rgs) ⟨xs, Fs, q1, q2, q3, q4⟩ q1 ho hg hnb
      obtain ⟨ok3, s1, s2, F4, t1, t2⟩ := hput w3 F3 x' _ r2 r1
      exact hQ x' w3 ok3 s1 s2 ⟨F4, t1, (h2.pre (hc.trans cd)).trans (t2.pre c2)⟩
    obtain ⟨v0, Fk0, hv0, hs0, _⟩ := fin w1 (Chg.refl _ _)
    have en : nmOf r.2.1 = (r.2.1.1, laterV p.2) := by
      have := congrArg (fun x : RsV => x.2.1.2.1) hr
      simp only at this
      rw [nmOf, this]
    constructor
    · simp -implicitDefEqProofs only [zS, fa_74_3, ld_71, hv0, fa_28_1, ld_25, k5.1, rs_h, Option.map_some]
      refine (c_mNameOf r.2.1 w1.drew).mono ?_
      rintro _ w2 ⟨rfl, c2⟩
      obtain ⟨v, Fk, hv, hsub, hf⟩ := fin w2 (cd1.trans c2)
      rw [aV (cd1.trans c2) hv0] at hv
      cases hv
      have en' : (nmC (r.2.1.1, r.2.1.2.1)).toArray = #[.int .i64 r.2.1.1, .int .i64 (laterV p.2)] := by
        have := congrArg (fun x : NmV => (nmC x).toArray) en
        exact this
      simp -implicitDefEqProofs only [zS, en', bd_88_0_1]
      refine hf fun x' w3 ok s1 s2 hx => ?_
      rw [st_71 (o := 0 + 8) s1 s2 ok]
      apply L32_1_ok
      exact ⟨rfl, hx⟩
    · simp -implicitDefEqProofs only [zS, fa_74_3, fa_28_1, ld_25, k5.1, rs_h, Option.map_some]
      refine (c_mNameOf r.2.1 w1.drew).mono ?_
      rintro _ w2 ⟨rfl, c2⟩
      obtain ⟨v, Fk, hv, hsub, hf⟩ := fin w2 (cd1.trans c2)
      have en' : (nmC (r.2.1.1, r.2.1.2.1)).toArray = #[.int .i64 r.2.1.1, .int .i64 (laterV p.2)] := by
        have := congrArg (fun x : NmV => (nmC x).toArray) en
        exact this
      simp -implicitDefEqProofs only [zS, en', bd_88_0_1, ld_71, hv]
      refine hf fun x' w3 ok s1 s2 hx => ?_
      rw [st_71 (o := 0 + 8) s1 s2 ok]
      apply L32_1_ok
      exact ⟨rfl, hx⟩
  · rw [if_neg hr] at cv
    simp -implicitDefEqProofs only [decide_eq_false hr, zS]
    rw [cv]
    exact ⟨rfl, F, I, UpdP.of0 hc⟩
set_option maxHeartbeats 1000000 in
theorem c_mCreates (I : MdI w g m F) (Wm : Wf m K) (hK : K + 1 ≤ 1000000) (cls : Int) (r : RsV) :
    CallR Tryz.prog 32 [.pointer (some ⟨g, 0, none⟩), .int .i64 cls, .agg (rsC r).toArray] w fun v w' => v = .bool (createsV m cls r).1 ∧ ∃ F', MdI w' g (createsV m cls r).2 F' ∧ UpdP F F' w w' := by
  apply F32_ok
  have h5 : hp (w.alloc (.cells (rsC r).toArray 28)) w.heap.size = some (.cells (rsC r).toArray 28) := by rw [ac, if_pos rfl]
  have c0 : Chg [] w (w.alloc (.cells (rsC r).toArray 28)) := (Chg.refl _ _).alloc _
  simp -implicitDefEqProofs only [F32, aE, aB]
  generalize w.alloc (.cells (rsC r).toArray 28) = w0 at *
  have hsz : w.heap.size ≤ w.heap.size := Nat.le_refl _
  generalize hg5 : w.heap.size = g5 at *
  have n5 : w.heap.size ≤ g5 := by omega
  obtain ⟨_, _, _, M⟩ := (I.keep c0).rd
  have hbe : be Tryz.prog .eql 28 (.tmp 9) (.tmp 10) (.agg (rsC r).toArray) (.agg #[.int .i64 7, .int .i64 0, .int .i64 0, .int .i64 0, .int .i64 0, .int .i64 0, .int .i64 0, .int .u64 0]) = some (.bool (decide (r = codeR 7))) := be_rs r (codeR 7)
  simp -implicitDefEqProofs only [aZ h5, ad, bd_28_0, hbe]
  by_cases r7 : r = codeR 7
  · have cv : createsV m cls r = (m.loose || decide (spareN m.slots = 0), m) := by rw [createsV, if_pos r7]
    simp -implicitDefEqProofs only [decide_eq_true r7, zS, fa_74_1, ld_4, M.l]
    rw [cv]
    by_cases hlo : m.loose = true
    · simp -implicitDefEqProofs only [hlo, zS]
      exact ⟨by simp, F, I.keep c0, UpdP.of0 c0⟩
    · have hlf : m.loose = false := by simpa using hlo
      simp -implicitDefEqProofs only [hlf, zS]
      refine (c_mSpare M Wm.sl).mono ?_
      rintro _ w1 ⟨rfl, c1⟩
      simp -implicitDefEqProofs only [zS]
      refine ⟨?_, F, I.keep (c0.trans c1), UpdP.of0 (c0.trans c1)⟩
      by_cases hz : spareN m.slots = 0
      · rw [hz]; rfl
      · rw [eqf (show (spareN m.slots : Int) ≠ 0 by omega), decide_eq_false hz]; rfl
  · have cd : Chg [] w0 w0.drew := (Chg.refl _ _).drew
    have cvn : ¬ (0 ≤ r.2.1.1 ∧ r.2.1.1 < m.slots.length) → createsV m cls r = (false, m) := fun h => by rw [createsV, if_neg r7, if_neg h]
    have I1 := I.keep (c0.trans cd)
    have MD := M.keep cd
    simp -implicitDefEqProofs only [decide_eq_false r7, zS, fa_28_1, ba, af, h5, rs_1]
    refine (c_mSlot MD r.2.1.1).step ?_
    by_cases hs : 0 ≤ r.2.1.1 ∧ r.2.1.1 < m.slots.length
    · obtain ⟨p, hp'⟩ : ∃ p, m.slots[r.2.1.1.toNat]? = some p := ⟨_, List.getElem?_eq_getElem (by omega)⟩
      obtain ⟨A, c, hsl, hR⟩ := slots_sh MD.sT
      obtain ⟨b, o, q1, q2, q3⟩ := slot_at (c := c) hR hp'
      have hcast : ((r.2.1.1.toNat : Nat) : Int) = r.2.1.1 := by omega
      rw [hcast] at q1
      have l7 := MD.sl
      rw [hsl] at l7
      have l7' : ldC (hp w0 g) (0 + 7) = some (.slice A m.slots.length c) := l7
      have q2' : ldC (hp w0 b) (o + 0) = some (.int .i64 p.1) := q2
      have q3' : ldC (hp w0 b) (o + 1) = some (.int .i64 p.2) := q3
      by_cases p0 : p.1 = 0
      · have pg := Wm.sg p (List.mem_of_getElem? hp')
        have e0 : (p.1 != 0) = false := by rw [p0]; rfl
        have fin : ∀ x, laterV p.2 = x → P32_0 (.pointer (some ⟨g, 0, none⟩)) (.int .i64 cls) (.pointer (some ⟨g5, 0, none⟩)) (.int .i64 x) w0.drew.drew fun v w' => v = .bool (createsV m cls r).1 ∧ ∃ F', MdI w' g (createsV m cls r).2 F' ∧ UpdP F F' w w' := by
          rintro x rfl
          exact l_creates0 (c0.drew.drew) I Wm hK n5 (show hp w0.drew.drew g5 = _ from h5) r7 hs hp' p0
        by_cases hlt : p.2 < 4294967295
        · have f := fin (p.2 + 1) (by rw [laterV, if_pos hlt])
          simp -implicitDefEqProofs only [zS, hs, and_self, z1z, fa_74_2, ld_70, l7', fa_28_1, ba, af, h5, rs_1, q1, fa_77_0, fa_77_1, q2', q3', e0, hlt, aA, az (n := p.2 + 1) (by omega) (by omega)]
          exact f
        · have f := fin 0 (by rw [laterV, if_neg hlt])
          simp -implicitDefEqProofs only [zS, hs, and_self, z1z, fa_74_2, ld_70, l7', fa_28_1, ba, af, h5, rs_1, q1, fa_77_0, fa_77_1, q2', q3', e0, hlt]
          exact f
      · have e0 : (p.1 != 0) = true := bne_iff_ne.2 p0
        have cv : createsV m cls r = (false, m) := by
          rw [createsV, if_neg r7, if_pos hs, hp']
          simp only [ne_eq, p0, not_false_eq_true, if_true]
        simp -implicitDefEqProofs only [zS, hs, and_self, z1z, fa_74_2, ld_70, l7', fa_28_1, ba, af, h5, rs_1, q1, fa_77_0, q2', e0]
        rw [cv]
        exact ⟨by first | rfl | trivial, F, I1, UpdP.of0 (c0.trans cd)⟩
    · simp -implicitDefEqProofs only [zS, hs, z2z]
      rw [cvn hs]
      exact ⟨by first | rfl | trivial, F, I1, UpdP.of0 (c0.trans cd)⟩
end
end Go.Proofs.YtgamnncehjcdiaaGreat

namespace Go.Proofs.YtgamnncehjcdiaaGreat
open Go Ev Go.RowKit

section
variable {W w : World} {g g7 g11 b c i : Nat} {m : MdV} {F F0 : Fp} {K : Nat} {r : RsV} {x : RgV} {want : HnV} {need : Int}
theorem ld_hn {h : HnV} {g : Nat} {e : TypeId} (hb : hp w g = some (.cells (hnC h).toArray e)) : ldv Tryz.prog 25 (.pointer (some ⟨g, 0, none⟩)) w = some (.agg (hnC h).toArray) := aG (t := 25) (c := (hnC h).toArray) ag_25 (show (Tryz.prog.info? 25).map (·.size) = some (hnC h).toArray.size from sz_25) hb
theorem set_rg {i : Nat} {x y : RgV} (m : MdV) : { ({ m with rgs := m.rgs.set i x } : MdV) with rgs := ({ m with rgs := m.rgs.set i x } : MdV).rgs.set i y } = { m with rgs := m.rgs.set i y } := by simp [List.set_set]
theorem at_set {i : Nat} {x y : RgV} (hi : m.rgs[i]? = some x) : ({ m with rgs := m.rgs.set i y } : MdV).rgs[i]? = some y := by
  show (m.rgs.set i y)[i]? = _
  rw [List.getElem?_set, if_pos rfl, if_pos (List.getElem?_eq_some_iff.1 hi).1]
theorem own_alloc_u64s (n : Nat) (hn : n ≤ maxLen) : wordT (List.replicate n 0) (w.alloc (.cells (u64s (List.replicate n 0)).toArray 26)) (fun b => b = w.heap.size) (.slice (some ⟨w.heap.size, 0, none⟩) n n) := by
  have h : (w.alloc (.cells (u64s (List.replicate n 0)).toArray 26)).ownsRow 0 26 1 (.slice (some ⟨w.heap.size, 0, none⟩) n n) n (u64s (List.replicate n 0)) :=
    ⟨by simp [u64s], .inr ⟨w.heap.size, n, _, rfl, Nat.zero_le _, heap_alloc_new w _, Nat.le_refl _, hn, by simp [u64s], by simp [u64s]⟩⟩
  have h2 := own_flat h
  have e : (fun b => (Value.slice (some ⟨w.heap.size, 0, none⟩) n n).ownBlock = some b) = (fun b => b = w.heap.size) := by
    funext b
    simp [Value.ownBlock, eq_comm]
  rw [e] at h2
  rw [wordT, List.length_replicate]
  exact h2
set_option maxHeartbeats 1000000 in
theorem l_gives1 (U : UpdP F0 F W w) (I : MdI w g m F) (hb : ldC (hp w g) (0 + 8) = some (.slice (some ⟨b, 0, none⟩) m.rgs.length c)) (hi : m.rgs[i]? = some x) (hol : x.objs.length ≤ 1000000) (h11 : hp w g11 = some (.cells (hnC want).toArray 25)) :
    P33_1 (.pointer (some ⟨b, i * 7, none⟩)) (.pointer (some ⟨g11, 0, none⟩)) w fun v w' => v = .bool true ∧ ∃ F', MdI w' g { m with rgs := m.rgs.set i { x with objs := x.objs ++ [want] } } F' ∧ UpdP F0 F' W w' := by
  apply L33_1_ok
  have cd : Chg [] w w.drew := (Chg.refl _ _).drew
  obtain ⟨v, Fk, hsub, hFb, hnb, hld, hv, hput⟩ := (I.keep cd).rgPut (hb := aV cd hb) hi (k := 6) (by omega) (P := objsT x.objs) rfl
  have h11d : hp w.drew g11 = some (.cells (hnC want).toArray 25) := h11
  simp -implicitDefEqProofs only [L33_1, zS, fa_88_5, ld_44, show ldC (hp w b) (i * 7 + 6) = _ from hld, ld_hn h11d]
  obtain ⟨hown, _⟩ := flat_own hv
  refine ps_44 (fun u hu => by simp only [List.mem_cons, List.not_mem_nil, or_false] at hu; rcases hu with rfl | rfl | rfl | rfl | rfl <;> rfl) hown (by omega) (Nat.zero_le _) fun x' w2 ho hg hnb => ?_
  obtain ⟨F2, hr2, hu2⟩ := flat_grown (vs := hnC want) hv ho hg hnb
  have hr2' : objsT (x.objs ++ [want]) w2 F2 x' := by
    rw [objsT, List.length_append]
    have e : (x.objs ++ [want]).flatMap hnC = x.objs.flatMap hnC ++ hnC want := by simp
    rw [e]; exact hr2
  obtain ⟨ok, s1, s2, _, F3, t1, t2⟩ := hput w2 F2 (objsT (x.objs ++ [want])) x' { x with objs := x.objs ++ [want] } hu2 (aS _) hr2' rfl
  rw [st_44 (o := i * 7 + 6) s1 s2 ok]
  exact ⟨by first | rfl | trivial, F3, t1, U.trans (t2.pre cd)⟩
set_option maxHeartbeats 2000000 in
theorem l_gives0 (U : UpdP F0 F W w) (I : MdI w g m F) (Wm : Wf m K) (hK : K + 1 ≤ 1000000) (hb : ldC (hp w g) (0 + 8) = some (.slice (some ⟨b, 0, none⟩) m.rgs.length c)) (hi : m.rgs[i]? = some x) (hol : x.objs.length ≤ 1000000)
    (h7 : hp w g7 = some (.cells (rsC r).toArray 28)) (h11 : hp w g11 = some (.cells (hnC want).toArray 25)) (n11 : ¬ F g11) :
    P33_0 (.pointer (some ⟨g, 0, none⟩)) (.pointer (some ⟨g7, 0, none⟩)) (.pointer (some ⟨b, i * 7, none⟩)) (.int .i64 need) (.pointer (some ⟨g11, 0, none⟩)) (.bool (rfitsV x m.c.2.2.1 need)) w fun v w' =>
      v = .bool (if r = (0, want, 0, 0) then true else false) ∧ ∃ F', MdI w' g (if r = (0, want, 0, 0) then { m with rgs := m.rgs.set i (growV m.c.2.2.1 need x want) } else m) F' ∧ UpdP F0 F' W w' := by
  apply L33_0_ok
  have hbe : be Tryz.prog .neq 28 (.tmp 74) (.tmp 76) (.agg (rsC r).toArray) (.agg (rsC (0, want, 0, 0)).toArray) = some (.bool (!decide (r = (0, want, 0, 0)))) := be_nrs r (0, want, 0, 0)
  have hbd : pureRun Tryz.prog (Instr.build 28 #[(1, .agg (hnC want).toArray)]) = some (.agg (rsC (0, want, 0, 0)).toArray) := bd_28_1
  have W1 := Wm.w1
  have W2 := Wm.w2
  have R := Wm.rg x (List.mem_of_getElem? hi)
  simp -implicitDefEqProofs only [L33_0, aZ h7, ld_hn h11, hbd, hbe, ad]
  by_cases hr : r = (0, want, 0, 0)
  · rw [if_pos hr, if_pos hr]
    cases hf : rfitsV x m.c.2.2.1 need with
    | true =>
      obtain ⟨f1, f2, f3, f4⟩ := fits_need hf
      obtain ⟨v, Fk, hsub, hFb, hnb, hld, hv, hput⟩ := I.rgPut (hb := hb) hi (k := 3) (by omega) (P := iT x.off) rfl
      rw [hv.1] at hld
      obtain ⟨ok, s1, s2, hb1, F1, t1, t2⟩ := hput w none' (iT (x.off + need)) (.int .i64 (x.off + need)) { x with off := x.off + need } (UpdP.none hv.2 w) (bj _ _) ⟨rfl, fun _ h => h⟩ rfl
      simp -implicitDefEqProofs only [decide_eq_true hr, zS, fa_88_2, af, hld, aA, az (n := x.off + need) (by omega) (by omega)]
      rw [st_3 (o := i * 7 + 3) s1 s2 ok]
      have k11 := t2.keep h11 n11
      have hln : ({ m with rgs := m.rgs.set i { x with off := x.off + need } } : MdV).rgs.length = m.rgs.length := by simp
      have := l_gives1 (U.trans t2) t1 (hb := by rw [hln]; exact hb1) (at_set hi) hol k11.1
      rw [set_rg] at this
      have eg : growV m.c.2.2.1 need x want = { x with off := x.off + need, objs := x.objs ++ [want] } := by rw [growV, hf]; rfl
      rw [eg]
      exact this
    | false =>
      have cd : Chg [] w w.drew := (Chg.refl _ _).drew
      obtain ⟨v, Fk, hsub, hFb, hnb, hld, hv, hput⟩ := (I.keep cd).rgPut (hb := aV cd hb) hi (k := 4) (by omega) (P := intsT x.chunks) rfl
      have h11d : hp w.drew g11 = some (.cells (hnC want).toArray 25) := h11
      have e2 : (hnC want).toArray[0 + 2]? = some (.int .i64 want.2.2.1) := rfl
      simp -implicitDefEqProofs only [decide_eq_true hr, zS, fa_88_3, bm, aY, af, show ldC (hp w b) (i * 7 + 4) = _ from hld, h11, e2]
      obtain ⟨hown, _⟩ := flat_own hv
      have hcl := R.cl
      refine ps_22 (fun u hu => by simp only [List.mem_cons, List.not_mem_nil, or_false] at hu; rcases hu with rfl; rfl) hown (by omega) (Nat.zero_le _) fun x1 w2 ho hg hnb => ?_
      obtain ⟨F2, hr2, hu2⟩ := flat_grown (vs := [Value.int .i64 want.2.2.1]) hv ho hg hnb
      have hr2' : intsT (x.chunks ++ [want.2.2.1]) w2 F2 x1 := by
        rw [intsT, List.length_append]
        have e : ints (x.chunks ++ [want.2.2.1]) = ints x.chunks ++ [Value.int .i64 want.2.2.1] := by simp [ints]
        rw [e]; exact hr2
      obtain ⟨ok, s1, s2, hb1, F3, t1, t2⟩ := hput w2 F2 (intsT (x.chunks ++ [want.2.2.1])) x1 { x with chunks := x.chunks ++ [want.2.2.1] } hu2 (good_intsT _) hr2' rfl
      rw [st_22 (o := i * 7 + 4) s1 s2 ok]
      have k11 := t2.keep h11d n11
      have U1 := U.trans (t2.pre cd)
      generalize put w2 b _ _ = w3 at *
      generalize hx1 : ({ x with chunks := x.chunks ++ [want.2.2.1] } : RgV) = y1 at *
      have hi1 := at_set (m := m) (y := y1) hi
      have hln1 : ({ m with rgs := m.rgs.set i y1 } : MdV).rgs.length = m.rgs.length := by simp
      generalize hm1 : ({ m with rgs := m.rgs.set i y1 } : MdV) = m1 at *
      have hc1 : m1.c = m.c := by rw [← hm1]
      have cd3 : Chg [] w3 w3.drew := (Chg.refl _ _).drew
      obtain ⟨v5, Fk5, hsub5, _, _, hld5, hv5, hput5⟩ := (t1.keep cd3).rgPut (hb := aV cd3 hb1) hi1 (k := 5) (by omega) (P := wordsT y1.words) rfl
      obtain ⟨_, _, _, M3⟩ := t1.rd
      have hw2 : ldC (hp w3 g) (0 + 0 + 2) = some (.int .i64 ((m.c.2.2.1.toNat : Nat) : Int)) := by
        have := M3.c 2 (by omega)
        rw [hc1] at this
        rw [show ((m.c.2.2.1.toNat : Nat) : Int) = m.c.2.2.1 by omega]
        exact this
      obtain ⟨iu, hiu, hzu, hsu, hbu⟩ := inf_26
      generalize hn : m.c.2.2.1.toNat = n at *
      have hn' : (n : Int) = m.c.2.2.1 := by omega
      simp -implicitDefEqProofs only [zS, fa_88_4, fa_74_0, fa_33_2, ld_86, af, show ldC (hp w3 b) (i * 7 + 5) = _ from hld5, hw2, effv_make (P := Tryz.prog) (kl := .i64) (kc := .i64) (n := n) Tryz.underlying93 hiu hzu (by rw [hsu]; omega) (by rw [hbu]; omega) (by omega)]
      have hmc : madeCells (Value.int .u64 0).cells (n * iu.size) = (u64s (List.replicate n 0)).toArray := by
        apply Array.toList_inj.1
        rw [hsu, Nat.mul_one]
        have := toList_madeCells_one (Value.int .u64 0) n
        rw [u64s, List.map_replicate]
        exact this
      rw [hmc]
      have n3 : w3.drew.heap.size = w3.heap.size := rfl
      have ob := own_alloc_u64s (w := w3.drew) n (by unfold maxLen; omega)
      generalize hwA : w3.drew.alloc (.cells (u64s (List.replicate n 0)).toArray 26) = wA at *
      have cA : Chg [] w3.drew wA := by rw [← hwA]; exact (Chg.refl _ _).alloc _
      have sA : wA.heap.size = w3.heap.size + 1 := by rw [← hwA, ae, n3]
      have hv5A := (good_words y1.words).frame hv5 (ChgP.of0 cA none') (fun _ _ h => h)
      obtain ⟨xs, Fs, q1, q2, q3, q4⟩ := hv5A
      have hyw : y1.words.length ≤ 1000000 := by rw [← hx1]; have := R.wl; simp only; omega
      refine ps_86 (fun u hu => by simp only [List.mem_cons, List.not_mem_nil, or_false] at hu; rcases hu with rfl; rfl) q1 (by omega) (Nat.zero_le _) fun x2 w4 ho2 hg2 hnb2 => ?_
      have hy : Parts wA [wordT (List.replicate n 0)] [.slice (some ⟨w3.drew.heap.size, 0, none⟩) n n] (fun _ => fun b => b = w3.drew.heap.size) := ⟨rfl, fun k P v hP hv => by
        have hk := (List.getElem?_eq_some_iff.1 hP).1
        have : k = 0 := by simp at hk; omega
        subst this
        cases hP; cases hv
        exact ob, fun j k hj hk hjk => by simp at hj hk; omega⟩
      have hF5 : ∀ k, Fk5 k → k < w3.heap.size := fun k hk => isAt.lt (t1.keep cd3) (aT m1) k (hsub5 k hk)
      obtain ⟨F5, g1, g2, _⟩ := isRow.grow (G := fun b => b = w3.drew.heap.size) (m := 1) ⟨xs, Fs, q1, q2, q3, q4⟩ (fun P hP => by obtain ⟨l, _, rfl⟩ := List.mem_map.1 hP; exact good_word l) (fun P hP => by rw [List.mem_singleton.1 hP]; exact good_word _) hy
        (fun b => ⟨fun h => ⟨0, by simp, h⟩, fun ⟨_, _, h⟩ => h⟩) (fun k hk hk2 => by have := hF5 k hk; omega) (fun xs' h' => by rw [own_unique h' q1]; exact ho2) hg2 hnb2
      have hu5 : UpdP Fk5 F5 w3.drew w4 := by
        refine ⟨⟨g2.chg.os.trans cA.os, g2.chg.tape.trans cA.tape, g2.chg.output.trans cA.output, by have := g2.chg.size; omega, fun k hk hn => ?_⟩, fun k hk => ?_⟩
        · rw [g2.chg.block k (by omega) (fun h => by rcases h with h | h; exact hn h; omega)]
          exact cA.block k hk (by simp)
        · rcases g2.sub k hk with h | h
          · rcases h with h | h
            · exact .inl h
            · exact .inr (by omega)
          · exact .inr (by omega)
      have g1' : wordsT (y1.words ++ [List.replicate n 0]) w4 F5 x2 := by
        rw [wordsT, List.length_append, List.map_append]; exact g1
      obtain ⟨ok5, s51, s52, hb5, F6, t51, t52⟩ := hput5 w4 F5 (wordsT (y1.words ++ [List.replicate n 0])) x2 { y1 with words := y1.words ++ [List.replicate n 0] } hu5 (good_words _) g1' rfl
      rw [st_86 (o := i * 7 + 5) s51 s52 ok5]
      have k113 := t52.keep (show hp w3.drew g11 = _ from k11.1) k11.2
      have U2 := U1.trans (t52.pre cd3)
      have em2 : ({ m1 with rgs := m1.rgs.set i { y1 with words := y1.words ++ [List.replicate n 0] } } : MdV) = { m with rgs := m.rgs.set i { y1 with words := y1.words ++ [List.replicate n 0] } } := by rw [← hm1]; exact set_rg m
      rw [em2] at t51
      generalize put w4 b _ _ = w5 at *
      generalize hy2 : ({ y1 with words := y1.words ++ [List.replicate n 0] } : RgV) = y2 at *
      have hi2 := at_set (m := m) (y := y2) hi
      obtain ⟨_, _, _, M5⟩ := t51.rd
      have hw5 : ldC (hp w5 g) (0 + 0 + 2) = some (.int .i64 m.c.2.2.1) := M5.c 2 (by omega)
      simp -implicitDefEqProofs only [zS, fa_74_0, fa_33_2, af, hw5]
      refine (c_sAfter m.c.2.2.1 need w5).step ?_
      obtain ⟨v3, Fk3, hsub3, _, _, hld3, hv3, hput3⟩ := t51.rgPut (hb := hb5) hi2 (k := 3) (by omega) (P := iT y2.off) rfl
      obtain ⟨ok3, s31, s32, hb3, F7, t31, t32⟩ := hput3 w5 none' (iT (afterV m.c.2.2.1 need)) (.int .i64 (afterV m.c.2.2.1 need)) { y2 with off := afterV m.c.2.2.1 need } (UpdP.none hv3.2 w5) (bj _ _) ⟨rfl, fun _ h => h⟩ rfl
      simp -implicitDefEqProofs only [zS, fa_88_2]
      rw [st_3 (o := i * 7 + 3) s31 s32 ok3]
      have k114 := t32.keep k113.1 k113.2
      rw [set_rg] at t31
      have hi3 := at_set (m := m) (y := { y2 with off := afterV m.c.2.2.1 need }) hi
      have hol3 : ({ y2 with off := afterV m.c.2.2.1 need } : RgV).objs.length ≤ 1000000 := by rw [← hy2, ← hx1]; exact hol
      have := l_gives1 (U2.trans t32) t31 (hb := by
        have hln : ({ m with rgs := m.rgs.set i { y2 with off := afterV m.c.2.2.1 need } } : MdV).rgs.length = m.rgs.length := by simp
        rw [hln]; exact hb3) hi3 hol3 k114.1
      rw [set_rg] at this
      have eg : growV m.c.2.2.1 need x want = { ({ y2 with off := afterV m.c.2.2.1 need } : RgV) with objs := ({ y2 with off := afterV m.c.2.2.1 need } : RgV).objs ++ [want] } := by
        rw [growV, hf, ← hy2, ← hx1, hn]; rfl
      rw [eg]
      exact this
  · rw [if_neg hr, if_neg hr]
    simp -implicitDefEqProofs only [decide_eq_false hr, zS]
    exact ⟨by first | rfl | trivial, F, I, U⟩
end
end Go.Proofs.YtgamnncehjcdiaaGreat

namespace Go.Proofs.YtgamnncehjcdiaaGreat
open Go Ev Go.RowKit

section
variable {w : World} {g : Nat} {m : MdV} {F : Fp} {K : Nat}
set_option maxHeartbeats 2000000 in
theorem c_mGives (I : MdI w g m F) (Wm : Wf m K) (hK : K + 1 ≤ 1000000) (n : Int) (h : HnV) (r : RsV) {i : Nat} (hf : findR m.rgs (nmOf h) = some i) :
    CallR Tryz.prog 33 [.pointer (some ⟨g, 0, none⟩), .int .i64 n, .agg (hnC h).toArray, .agg (rsC r).toArray] w fun v w' => v = .bool (givesV m n h r).1 ∧ ∃ F', MdI w' g (givesV m n h r).2 F' ∧ UpdP F F' w w' := by
  apply F33_ok
  obtain ⟨x, hi, hnm⟩ := findR_at hf
  have R := Wm.rg x (List.mem_of_getElem? hi)
  have W1 := Wm.w1
  have W2 := Wm.w2
  have gv : givesV m n h r = if rfitsV x m.c.2.2.1 (roundV x.cls n) = false ∧ r = codeR 6 then (true, m)
      else if rfitsV x m.c.2.2.1 (roundV x.cls n) = false ∧ (r.2.1.2.2.1 < 0 ∨ m.c.2.1 ≤ r.2.1.2.2.1 ∨ takenV m r.2.1.2.2.1 = true) then (false, m)
      else if r = (0, wantV m.c.2.2.1 (roundV x.cls n) n x h r.2.1.2.2.1, 0, 0) then (true, { m with rgs := m.rgs.set i (growV m.c.2.2.1 (roundV x.cls n) x (wantV m.c.2.2.1 (roundV x.cls n) n x h r.2.1.2.2.1)) })
      else (false, m) := by
    rw [givesV, hf]; simp only [hi]
  simp -implicitDefEqProofs only [F33, aE, aB, ae]
  generalize hw : (w.alloc (.cells (hnC h).toArray 25)).alloc _ = w1
  have c1 : Chg [] w w1 := by rw [← hw]; exact ((Chg.refl _ _).alloc _).alloc _
  have a6 : hp w1 w.heap.size = some (.cells (hnC h).toArray 25) := by rw [← hw, ac, ae, if_neg (by omega), ac, if_pos rfl]
  have a7 : hp w1 (w.heap.size + 1) = some (.cells (rsC r).toArray 28) := by rw [← hw, ac, ae, if_pos rfl]
  clear hw
  obtain ⟨_, _, _, M⟩ := I.rd
  simp -implicitDefEqProofs only [ld_hn a6, ad]
  refine (c_mNameOf h w1).mono ?_
  rintro _ w2 ⟨rfl, c2⟩
  have c02 := c1.trans c2
  refine (c_mRegion (M.keep c02) (h.1, h.2.1) (Nat.le_trans Wm.rl (by omega))).mono ?_
  rintro v w3 ⟨c3, hv⟩
  have c03 := c02.trans c3
  have hf' : findR m.rgs (h.1, h.2.1) = some i := hf
  rw [hf'] at hv
  rcases hv with ⟨hv, _⟩ | ⟨i', rg, b, c, hi', hrg, hrow, rfl⟩
  · cases hv
  cases hi'
  rw [hi] at hrg
  cases hrg
  have hb3 : ∀ w', Chg [] w w' → ldC (hp w' g) (0 + 8) = some (.slice (some ⟨b, 0, none⟩) m.rgs.length c) := fun w' k => by
    rw [← hrow]; exact (M.keep k).rl
  obtain ⟨G, hG⟩ := (M.keep c03).rT
  obtain ⟨b', c', hx, cv, wv, ov, R3⟩ := rg_at hG hi
  rw [hrow] at hx
  cases hx
  have k2 := c2.trans c3
  have f6 := k2.at a6 (by simp)
  have f7 := k2.at a7 (by simp)
  simp -implicitDefEqProofs only [zS, fa_88_1, af, R3.c2]
  refine (c_sRound x.cls n w3).step ?_
  have e0 : (hnC h).toArray[0 + 0]? = some (.int .i64 h.1) := rfl
  have e1 : (hnC h).toArray[0 + 1]? = some (.int .i64 h.2.1) := rfl
  simp -implicitDefEqProofs only [zS, ba, fa_25_1, bm, fa_28_1, af, f6, f7, e0, e1, rs_3, bd_25_0_1_2_4, al_25]
  rw [st_25 (by rfl) (by rfl) (by rw [ac, if_pos rfl]; rfl) (by rw [ac, if_pos rfl]; rfl), ac, if_pos rfl, aD]
  generalize hw4 : put (w3.alloc _) w3.heap.size _ _ = w4
  have c4 : Chg [] w3 w4 := by rw [← hw4]; exact ((Chg.refl _ _).alloc _).put (.inr (Nat.le_refl _)) _ _
  have a11 : hp w4 w3.heap.size = some (.cells (hnC (h.1, h.2.1, r.2.1.2.2.1, 0, n)).toArray 25) := by rw [← hw4]; exact ap (by simp) _ _
  clear hw4
  have c04 := c03.trans c4
  have s3 := c03.size
  have f74 := c4.at f7 (by simp)
  have hw4 : ∀ w', Chg [] w w' → ldC (hp w' g) (0 + 0 + 2) = some (.int .i64 m.c.2.2.1) := fun w' k => (M.keep k).c 2 (by omega)
  have hw1 : ∀ w', Chg [] w w' → ldC (hp w' g) (0 + 0 + 1) = some (.int .i64 m.c.2.1) := fun w' k => (M.keep k).c 1 (by omega)
  simp -implicitDefEqProofs only [zS, fa_74_0, fa_33_2, af, hw4 _ c04]
  refine (c_mFits (R3.keep c4) m.c.2.2.1 (roundV x.cls n)).step ?_
  have nF : ∀ {y}, w.heap.size ≤ y → ¬ F y := fun hy => I.notF hy
  have hol : x.objs.length ≤ 1000000 := Nat.le_trans R.ol (by omega)
  have c34 : Chg [] w3 w4 := c4
  have tail : ∀ (want : HnV) w6, Chg [] w3 w6 → hp w6 w3.heap.size = some (.cells (hnC want).toArray 25) →
      P33_0 (.pointer (some ⟨g, 0, none⟩)) (.pointer (some ⟨w.heap.size + 1, 0, none⟩)) (.pointer (some ⟨b, i * 7, none⟩)) (.int .i64 (roundV x.cls n)) (.pointer (some ⟨w3.heap.size, 0, none⟩)) (.bool (rfitsV x m.c.2.2.1 (roundV x.cls n))) w6 fun v w' =>
        v = .bool (if r = (0, want, 0, 0) then true else false) ∧ ∃ F', MdI w' g (if r = (0, want, 0, 0) then { m with rgs := m.rgs.set i (growV m.c.2.2.1 (roundV x.cls n) x want) } else m) F' ∧ UpdP F F' w w' := by
    intro want w6 c6 h11
    have c06 := c03.trans c6
    exact l_gives0 (UpdP.of0 c06) (I.keep c06) Wm hK (hb3 _ c06) hi hol (c6.at f7 (by simp)) h11 (nF (by omega))
  cases hfit : rfitsV x m.c.2.2.1 (roundV x.cls n) with
  | true =>
    rw [hfit] at tail
    obtain ⟨f1, f2, f3, f4⟩ := fits_need hfit
    have ew : wantV m.c.2.2.1 (roundV x.cls n) n x h r.2.1.2.2.1 = (h.1, h.2.1, newV x.chunks, x.off, n) := by rw [wantV, hfit]; rfl
    rw [hfit, ew] at gv
    simp only [Bool.true_eq_false, false_and, if_false] at gv
    have tl : ∀ w6, Chg [] w3 w6 → hp w6 w3.heap.size = some (.cells (hnC (h.1, h.2.1, newV x.chunks, x.off, n)).toArray 25) →
        P33_0 (.pointer (some ⟨g, 0, none⟩)) (.pointer (some ⟨w.heap.size + 1, 0, none⟩)) (.pointer (some ⟨b, i * 7, none⟩)) (.int .i64 (roundV x.cls n)) (.pointer (some ⟨w3.heap.size, 0, none⟩)) (.bool true) w6 fun v w' => v = .bool (givesV m n h r).1 ∧ ∃ F', MdI w' g (givesV m n h r).2 F' ∧ UpdP F F' w w' := by
      intro w6 c6 h11
      have t := tail _ w6 c6 h11
      rw [gv]
      by_cases hr : r = (0, (h.1, h.2.1, newV x.chunks, x.off, n), 0, 0)
      · rw [if_pos hr, if_pos hr] at t; rw [if_pos hr]; exact t
      · rw [if_neg hr, if_neg hr] at t; rw [if_neg hr]; exact t
    have cd : Chg [] w4 w4.drew := (Chg.refl _ _).drew
    have R4 := R3.keep c4
    have cn := c_mNewest (R4.keep cd) (Nat.le_trans R.cl (by omega))
    have st2 : ∀ w5 L, hp w5 w3.heap.size = some (.cells (hnC (h.1, h.2.1, r.2.1.2.2.1, 0, n)).toArray 25) → effu Tryz.prog (Instr.storeAt 3 (.pointer (some ⟨w3.heap.size, 0 + 2, none⟩)) (.int .i64 (newV x.chunks))) w5 L = L (put w5 w3.heap.size (hnC (h.1, h.2.1, newV x.chunks, 0, n)).toArray 25) := by
      intro w5 L h5
      rw [st_3 (o := 0 + 2) rfl rfl (by rw [h5]; rfl), h5]; rfl
    have st3 : ∀ w5 L, hp w5 w3.heap.size = some (.cells (hnC (h.1, h.2.1, newV x.chunks, 0, n)).toArray 25) → effu Tryz.prog (Instr.storeAt 3 (.pointer (some ⟨w3.heap.size, 0 + 3, none⟩)) (.int .i64 x.off)) w5 L = L (put w5 w3.heap.size (hnC (h.1, h.2.1, newV x.chunks, x.off, n)).toArray 25) := by
      intro w5 L h5
      rw [st_3 (o := 0 + 3) rfl rfl (by rw [h5]; rfl), h5]; rfl
    simp -implicitDefEqProofs only [zS, fa_88_2, af, show ldC (hp w4 b) (i * 7 + 3) = _ from R4.c3]
    repeat' (with_reducible apply And.intro)
    all_goals
      refine cn.mono ?_
      rintro _ w5 ⟨rfl, c5⟩
      have c35 := c34.trans (cd.trans c5)
      have h5 := c5.at (show hp w4.drew w3.heap.size = _ from a11) (by simp)
      have R5 := (R3.keep c35).c3
      have h6 : hp (put w5 w3.heap.size (hnC (h.1, h.2.1, newV x.chunks, 0, n)).toArray 25) w3.heap.size = _ := ap (av h5) _ _
      have c36 : Chg [] w3 (put w5 w3.heap.size (hnC (h.1, h.2.1, newV x.chunks, 0, n)).toArray 25) := c35.put (.inr (Nat.le_refl _)) _ _
      have R6 := (R3.keep c36).c3
      simp -implicitDefEqProofs only [zS, fa_88_2, bm, fa_25_3, af, R5]
      rw [st2 _ _ h5]
      simp -implicitDefEqProofs only [zS, fa_88_2, bm, fa_25_3, af, R6, st3 _ _ h6]
      exact tl _ (c36.put (.inr (Nat.le_refl _)) _ _) (ap (av h6) _ _)
  | false =>
    rw [hfit] at tail
    have ew : wantV m.c.2.2.1 (roundV x.cls n) n x h r.2.1.2.2.1 = (h.1, h.2.1, r.2.1.2.2.1, 0, n) := by rw [wantV, hfit]; rfl
    rw [hfit, ew] at gv
    simp only [true_and] at gv
    have hbe : be Tryz.prog .eql 28 (.tmp 51) (.tmp 52) (.agg (rsC r).toArray) (.agg #[.int .i64 6, .int .i64 0, .int .i64 0, .int .i64 0, .int .i64 0, .int .i64 0, .int .i64 0, .int .u64 0]) = some (.bool (decide (r = codeR 6))) := be_rs r (codeR 6)
    simp -implicitDefEqProofs only [zS, aZ f74, bd_28_0, hbe]
    by_cases r6 : r = codeR 6
    · rw [if_pos r6] at gv
      simp -implicitDefEqProofs only [decide_eq_true r6, zS]
      rw [gv]
      exact ⟨by first | rfl | trivial, F, I.keep c04, UpdP.of0 c04⟩
    rw [if_neg r6] at gv
    have cd : Chg [] w4 w4.drew := (Chg.refl _ _).drew
    have e2 : (hnC (h.1, h.2.1, r.2.1.2.2.1, 0, n)).toArray[0 + 2]? = some (.int .i64 r.2.1.2.2.1) := rfl
    by_cases n0 : r.2.1.2.2.1 < 0
    · rw [if_pos (.inl n0)] at gv
      simp -implicitDefEqProofs only [decide_eq_false r6, zS, bm, af, a11, e2, n0]
      rw [gv]
      exact ⟨by first | rfl | trivial, F, I.keep (c04.trans cd), UpdP.of0 (c04.trans cd)⟩
    by_cases n1 : m.c.2.1 ≤ r.2.1.2.2.1
    · rw [if_pos (.inr (.inl n1))] at gv
      simp -implicitDefEqProofs only [decide_eq_false r6, zS, bm, af, a11, e2, n0, fa_74_0, fa_33_1, hw1 _ c04, aH, n1, ge_iff_le]
      rw [gv]
      exact ⟨by first | rfl | trivial, F, I.keep (c04.trans cd), UpdP.of0 (c04.trans cd)⟩
    simp -implicitDefEqProofs only [decide_eq_false r6, zS, bm, af, a11, e2, n0, fa_74_0, fa_33_1, hw1 _ c04, aH, n1, ge_iff_le]
    refine (c_mTaken (M.keep (c04.trans cd)) Wm (by omega) r.2.1.2.2.1).mono ?_
    rintro _ w5 ⟨rfl, c5⟩
    have c35 := c34.trans (cd.trans c5)
    have h5 := c5.at (show hp w4.drew w3.heap.size = _ from a11) (by simp)
    cases ht : takenV m r.2.1.2.2.1 with
    | true =>
      rw [if_pos (.inr (.inr ht))] at gv
      simp -implicitDefEqProofs only [zS]
      rw [gv]
      exact ⟨by first | rfl | trivial, F, I.keep (c03.trans c35), UpdP.of0 (c03.trans c35)⟩
    | false =>
      rw [if_neg (by rintro (h1 | h1 | h1); exact n0 h1; exact n1 h1; rw [ht] at h1; cases h1)] at gv
      simp -implicitDefEqProofs only [zS]
      have t := tail _ w5 c35 h5
      rw [gv]
      by_cases hr : r = (0, (h.1, h.2.1, r.2.1.2.2.1, 0, n), 0, 0)
      · rw [if_pos hr, if_pos hr] at t; rw [if_pos hr]; exact t
      · rw [if_neg hr, if_neg hr] at t; rw [if_neg hr]; exact t
set_option maxHeartbeats 1000000 in
theorem c_mDo (I : MdI w g m F) (Wm : Wf m K) (hK : K + 1 ≤ 1000000) (n : Int) (o : OpV) (h : HnV) (r : RsV) :
    CallR Tryz.prog 10 [.pointer (some ⟨g, 0, none⟩), .int .i64 n, .agg (opC o).toArray, .agg (hnC h).toArray, .agg (rsC r).toArray] w fun v w' => v = .bool (doV m n o h r).1 ∧ ∃ F', MdI w' g (doV m n o h r).2 F' ∧ UpdP F F' w w' := by
  apply F10_ok
  simp -implicitDefEqProofs only [F10, aE, aB, ae]
  generalize hw : ((w.alloc (.cells (opC o).toArray 39)).alloc _).alloc _ = w1
  have c1 : Chg [] w w1 := by rw [← hw]; exact (((Chg.refl _ _).alloc _).alloc _).alloc _
  have a7 : hp w1 w.heap.size = some (.cells (opC o).toArray 39) := by rw [← hw, ac, ae, ae, if_neg (by omega), ac, ae, if_neg (by omega), ac, if_pos rfl]
  have a8 : hp w1 (w.heap.size + 1) = some (.cells (hnC h).toArray 25) := by rw [← hw, ac, ae, ae, if_neg (by omega), ac, ae, if_pos rfl]
  have a9 : hp w1 (w.heap.size + 1 + 1) = some (.cells (rsC r).toArray 28) := by rw [← hw, ac, ae, ae, if_pos rfl]
  clear hw
  have ldo : ∀ w', hp w' w.heap.size = some (.cells (opC o).toArray 39) → ldv Tryz.prog 39 (.pointer (some ⟨w.heap.size, 0, none⟩)) w' = some (.agg (opC o).toArray) := fun w' hw => aG (t := 39) (c := (opC o).toArray) ag_39 (show (Tryz.prog.info? 39).map (·.size) = some (opC o).toArray.size from sz_39) hw
  obtain ⟨_, _, _, M⟩ := I.rd
  simp -implicitDefEqProofs only [ad, ldo _ a7]
  refine (c_mMay (M.keep c1) n o).mono ?_
  rintro _ w2 ⟨rfl, c2⟩
  have c02 := c1.trans c2
  have b7 := c2.at a7 (by simp)
  have b8 := c2.at a8 (by simp)
  cases hm : mayV m n o with
  | false =>
    simp -implicitDefEqProofs only [zS]
    have e : doV m n o h r = (false, m) := by rw [doV, if_pos hm]
    rw [e]
    exact ⟨by first | rfl | trivial, F, I.keep c02, UpdP.of0 c02⟩
  | true =>
    obtain ⟨d, hd⟩ := may_hd hm
    simp -implicitDefEqProofs only [zS, ldo _ b7, ld_hn b8]
    refine (c_mMust (I.keep c02) Wm (by omega) n o h).mono ?_
    rintro _ w3 ⟨rfl, c3⟩
    have c13 := c2.trans c3
    have c03 := c1.trans c13
    simp -implicitDefEqProofs only [tup0, tup1, zS, al_28]
    rw [st_res (c := (rsC noR).toArray) (e := 28) (by rw [ac, if_pos rfl]; rfl) rfl]
    generalize hw4 : put (w3.alloc _) w3.heap.size _ _ = w4
    have c4 : Chg [] w3 w4 := by rw [← hw4]; exact ((Chg.refl _ _).alloc _).put (.inr (Nat.le_refl _)) _ _
    have a11 : hp w4 w3.heap.size = some (.cells (rsC (mustV m n o h).1).toArray 28) := by rw [← hw4]; exact ap (by simp) _ _
    clear hw4
    have c14 := c13.trans c4
    have c04 := c1.trans c14
    have d7 := c14.at a7 (by simp)
    have d8 := c14.at a8 (by simp)
    have d9 := c14.at a9 (by simp)
    have hbe : be Tryz.prog .neq 28 (.tmp 27) (.tmp 28) (.agg (rsC r).toArray) (.agg (rsC (mustV m n o h).1).toArray) = some (.bool (!decide (r = (mustV m n o h).1))) := be_nrs r _
    cases hi : (mustV m n o h).2 with
    | true =>
      simp -implicitDefEqProofs only [zS, aZ d9, aZ a11, hbe]
      have ed : doV m n o h r = if r = (mustV m n o h).1 then (true, if r.1 = 0 then doesV m n o h else m) else (false, m) := by rw [doV, if_neg (by rw [hm]; simp), if_pos hi]
      by_cases hr : r = (mustV m n o h).1
      · rw [if_pos hr] at ed
        simp -implicitDefEqProofs only [decide_eq_true hr, zS, fa_28_0, aU, d9, rs_0]
        by_cases h0 : r.1 = 0
        · rw [if_pos h0] at ed
          have e0 : (r.1 == 0) = true := by rw [h0]; rfl
          have hrf := must_fine hm hd (by rw [← hr]; exact h0)
          simp -implicitDefEqProofs only [e0, zS, ldo _ d7, ld_hn d8]
          refine (c_mDoes (I.keep c04) Wm (by omega) hm hd hrf).mono ?_
          rintro _ w5 ⟨rfl, F5, i5, u5⟩
          apply L10_0_ok
          rw [ed]
          exact ⟨rfl, F5, i5, u5.pre c04⟩
        · rw [if_neg h0] at ed
          simp -implicitDefEqProofs only [eqf h0, zS]
          apply L10_0_ok
          rw [ed]
          exact ⟨rfl, F, I.keep c04, UpdP.of0 c04⟩
      · rw [if_neg hr] at ed
        simp -implicitDefEqProofs only [decide_eq_false hr, zS]
        rw [ed]
        exact ⟨by first | rfl | trivial, F, I.keep c04, UpdP.of0 c04⟩
    | false =>
      obtain ⟨hrf, hk⟩ := must_open hm hd hi
      have ed : doV m n o h r = if o.1 = 1 then createsV m o.2.2.2.1 r else givesV m o.2.2.2.1 h r := by rw [doV, if_neg (by rw [hm]; simp), if_neg (by rw [hi]; simp)]
      by_cases k1 : o.1 = 1
      · rw [if_pos k1] at ed
        have q : (o.1 == 1) = true := by rw [k1]; rfl
        simp -implicitDefEqProofs only [zS, aj, aN, af, d7, aC, op_3, q, aZ d9]
        refine (c_mCreates (I.keep c04) Wm hK o.2.2.2.1 r).mono ?_
        rintro _ w5 ⟨rfl, F5, i5, u5⟩
        rw [ed]
        exact ⟨rfl, F5, i5, u5.pre c04⟩
      · rw [if_neg k1] at ed
        obtain ⟨i, x, hf, _, _, _⟩ := region_ok hrf (by omega)
        simp -implicitDefEqProofs only [zS, aj, aN, af, d7, aC, op_3, eqf k1, aZ d9, ld_hn d8]
        refine (c_mGives (I.keep c04) Wm hK o.2.2.2.1 h r hf).mono ?_
        rintro _ w5 ⟨rfl, F5, i5, u5⟩
        rw [ed]
        exact ⟨rfl, F5, i5, u5.pre c04⟩
end
end Go.Proofs.YtgamnncehjcdiaaGreat

namespace Go.Proofs.YtgamnncehjcdiaaGreat
open Go Ev Go.RowKit

section
variable {w : World} {g : Nat} {m : MdV} {F : Fp} {K : Nat}
theorem c_layWithin (n a b : Int) (w : World) : CallR Tryz.prog 89 [.int .i64 n, .int .i64 a, .int .i64 b] w fun v w' => v = .bool (decide (a ≤ n ∧ n ≤ b)) ∧ w' = w := by
  apply F89_ok
  by_cases h1 : a ≤ n
  · simp -implicitDefEqProofs only [F89, zS, aH, bp_leq, h1, ge_iff_le, true_and, and_self]
  · simp -implicitDefEqProofs only [F89, zS, aH, bp_leq, h1, ge_iff_le, false_and, and_self]
def mayC (c : CfV) : Bool := decide (1 ≤ c.1 ∧ c.1 ≤ 64) && (decide (1 ≤ c.2.1 ∧ c.2.1 ≤ 4096) && (decide (8 ≤ c.2.2.1 ∧ c.2.2.1 ≤ 1024) && (decide (c.2.2.1 % 8 = 0) && (decide (1 ≤ c.2.2.2.1 ∧ c.2.2.2.1 ≤ 4096) && (decide (0 ≤ c.2.2.2.2.1 ∧ c.2.2.2.2.1 ≤ 64) && decide (1 ≤ c.2.2.2.2.2 ∧ c.2.2.2.2.2 ≤ 8))))))
theorem cf_0 (c : CfV) : (cfC c).toArray[0 + 0]? = some (.int .i64 c.1) := rfl
theorem cf_1 (c : CfV) : (cfC c).toArray[0 + 1]? = some (.int .i64 c.2.1) := rfl
theorem cf_2 (c : CfV) : (cfC c).toArray[0 + 2]? = some (.int .i64 c.2.2.1) := rfl
theorem cf_3 (c : CfV) : (cfC c).toArray[0 + 3]? = some (.int .i64 c.2.2.2.1) := rfl
theorem cf_4 (c : CfV) : (cfC c).toArray[0 + 4]? = some (.int .i64 c.2.2.2.2.1) := rfl
theorem cf_5 (c : CfV) : (cfC c).toArray[0 + 5]? = some (.int .i64 c.2.2.2.2.2) := rfl
theorem ld_cf {c : CfV} {g : Nat} {e : TypeId} (hb : hp w g = some (.cells (cfC c).toArray e)) : ldv Tryz.prog 33 (.pointer (some ⟨g, 0, none⟩)) w = some (.agg (cfC c).toArray) := aG (t := 33) (c := (cfC c).toArray) ag_33 (show (Tryz.prog.info? 33).map (·.size) = some (cfC c).toArray.size from sz_33) hb
set_option maxHeartbeats 1000000 in
theorem c_layMay (c : CfV) (w : World) : CallR Tryz.prog 56 [.agg (cfC c).toArray] w fun v w' => v = .bool (mayC c) ∧ Chg [] w w' := by
  apply F56_ok
  have b1 : hp (w.alloc (.cells (cfC c).toArray 33)) w.heap.size = some (.cells (cfC c).toArray 33) := by rw [ac, if_pos rfl]
  have c0 : Chg [] w (w.alloc (.cells (cfC c).toArray 33)) := (Chg.refl _ _).alloc _
  simp -implicitDefEqProofs only [F56, aE, aB]
  generalize w.alloc (.cells (cfC c).toArray 33) = w0 at *
  simp -implicitDefEqProofs only [zS, fa_33_0, af, b1, cf_0]
  refine (c_layWithin _ _ _ w0).step ?_
  by_cases h1 : 1 ≤ c.1 ∧ c.1 ≤ 64
  · simp -implicitDefEqProofs only [decide_eq_true h1, zS, fa_33_1, af, b1, cf_1]
    refine (c_layWithin _ _ _ w0).step ?_
    by_cases h2 : 1 ≤ c.2.1 ∧ c.2.1 ≤ 4096
    · simp -implicitDefEqProofs only [decide_eq_true h2, zS, fa_33_2, af, b1, cf_2]
      refine (c_layWithin _ _ _ w0).step ?_
      by_cases h3 : 8 ≤ c.2.2.1 ∧ c.2.2.1 ≤ 1024
      · have hm : c.2.2.1.tmod 8 = c.2.2.1 % 8 := Int.tmod_eq_emod_of_nonneg (by omega)
        by_cases h4 : c.2.2.1 % 8 = 0
        · have e4 : (c.2.2.1 % 8 == 0) = true := by rw [h4]; rfl
          simp -implicitDefEqProofs only [decide_eq_true h3, zS, fa_33_2, fa_33_3, af, b1, cf_2, cf_3, bp_rem (show (8 : Int) ≠ 0 by decide), hm, e4]
          refine (c_layWithin _ _ _ w0).step ?_
          by_cases h5 : 1 ≤ c.2.2.2.1 ∧ c.2.2.2.1 ≤ 4096
          · simp -implicitDefEqProofs only [decide_eq_true h5, zS, fa_33_4, af, b1, cf_4]
            refine (c_layWithin _ _ _ w0).step ?_
            by_cases h6 : 0 ≤ c.2.2.2.2.1 ∧ c.2.2.2.2.1 ≤ 64
            · simp -implicitDefEqProofs only [decide_eq_true h6, zS, fa_33_5, af, b1, cf_5]
              refine (c_layWithin _ _ _ w0).step ?_
              by_cases h7 : 1 ≤ c.2.2.2.2.2 ∧ c.2.2.2.2.2 ≤ 8
              · simp -implicitDefEqProofs only [decide_eq_true h7, zS]
                exact ⟨by simp [mayC, h1, h2, h3, h4, h5, h6, h7], c0⟩
              · simp -implicitDefEqProofs only [decide_eq_false h7, zS]
                exact ⟨by rw [mayC, decide_eq_false h7]; simp, c0⟩
            · simp -implicitDefEqProofs only [decide_eq_false h6, zS]
              exact ⟨by rw [mayC, decide_eq_false h6]; simp, c0⟩
          · simp -implicitDefEqProofs only [decide_eq_false h5, zS]
            exact ⟨by rw [mayC, decide_eq_false h5]; simp, c0⟩
        · simp -implicitDefEqProofs only [decide_eq_true h3, zS, fa_33_2, af, b1, cf_2, bp_rem (show (8 : Int) ≠ 0 by decide), hm, eqf h4]
          exact ⟨by rw [mayC, decide_eq_false h4]; simp, c0⟩
      · simp -implicitDefEqProofs only [decide_eq_false h3, zS]
        exact ⟨by rw [mayC, decide_eq_false h3]; simp, c0⟩
    · simp -implicitDefEqProofs only [decide_eq_false h2, zS]
      exact ⟨by rw [mayC, decide_eq_false h2]; simp, c0⟩
  · simp -implicitDefEqProofs only [decide_eq_false h1, zS]
    exact ⟨by rw [mayC, decide_eq_false h1]; simp, c0⟩
def newM (c : CfV) (loose : Bool) : MdV := ⟨c, loose, List.replicate c.2.2.2.1.toNat (0, 0), [], List.replicate c.1.toNat ⟨0, []⟩⟩
theorem may_cf {c : CfV} (h : mayC c = true) : (1 ≤ c.1 ∧ c.1 ≤ 64) ∧ (1 ≤ c.2.1 ∧ c.2.1 ≤ 4096) ∧ (8 ≤ c.2.2.1 ∧ c.2.2.1 ≤ 1024) ∧ (1 ≤ c.2.2.2.1 ∧ c.2.2.2.1 ≤ 4096) := by
  simp only [mayC, Bool.and_eq_true, decide_eq_true_eq] at h
  exact ⟨h.1, h.2.1, h.2.2.1, h.2.2.2.2.1⟩
theorem wf_new {c : CfV} (h : mayC c = true) (l : Bool) : Wf (newM c l) 0 := by
  obtain ⟨h1, h2, h3, h4⟩ := may_cf h
  refine ⟨by show 1 ≤ c.2.2.1; omega, h3.2, by simp only [newM, List.length_replicate]; omega, fun p hp => ?_, fun d hd => ?_, Nat.le_refl _, fun r hr => by cases hr⟩
  · rw [List.eq_of_mem_replicate hp]; exact ⟨Int.le_refl _, by decide⟩
  · rw [List.eq_of_mem_replicate hd]; exact ⟨Int.le_refl _, by decide, Nat.zero_le _⟩
theorem made_flat {zs : List Value} {z : Nat} (hz : zs.length = z) (h0 : 0 < z) (n : Nat) : madeCells zs.toArray (n * z) = ((List.replicate n ()).flatMap fun _ => zs).toArray := by
  apply Array.ext_getElem?
  intro k
  rcases Nat.lt_or_ge k (n * z) with hk | hk
  · have hq : k / z < n := by rw [Nat.div_lt_iff_lt_mul h0]; exact hk
    have hm := Nat.mod_lt k h0
    have hkk : k = k / z * z + k % z := by rw [Nat.mul_comm]; exact (Nat.div_add_mod k z).symm
    have e := aR (f := fun _ : Unit => zs) (fun _ => hz) (List.replicate n ()) (k / z) () (by simp [hq]) (k % z) hm
    rw [← hkk] at e
    have e1 : (((List.replicate n ()).flatMap fun _ => zs).toArray)[k]? = zs[k % z]? := by rw [List.getElem?_toArray, e]
    rw [e1, List.getElem?_eq_getElem (by omega)]
    simp only [madeCells, Array.getElem?_map, Array.getElem?_range, hk, if_true, Option.map_some, List.size_toArray, hz]
    rw [getElem!_pos _ _ (by simp [hz]; exact hm)]
    simp
  · have e1 : ((List.replicate n ()).flatMap fun _ => zs).length = n * z := by rw [flatM_len (z := z) (fun _ => hz)]; simp
    rw [Array.getElem?_eq_none (by simp [madeCells]; omega), Array.getElem?_eq_none (by rw [List.size_toArray, e1]; exact hk)]
theorem row_new {e : TypeId} (n : Nat) (hn : n ≤ maxLen) (a b : Value) : (w.alloc (.cells ((List.replicate n ()).flatMap fun _ => [a, b]).toArray e)).ownsRow 0 e 2 (.slice (some ⟨w.heap.size, 0, none⟩) n n) n ((List.replicate n ()).flatMap fun _ => [a, b]) := by
  have hl : ((List.replicate n ()).flatMap fun _ => [a, b]).length = n * 2 := by rw [flatM_len (z := 2) (fun _ => rfl)]; simp
  exact ⟨hl, .inr ⟨w.heap.size, n, _, rfl, Nat.zero_le _, heap_alloc_new w _, Nat.le_refl _, hn, by rw [List.size_toArray]; exact hl, by simp [List.take_of_length_le (show ((List.replicate n ()).flatMap fun _ => [a, b]).length ≤ n * 2 by rw [hl]; exact Nat.le_refl _)]⟩⟩
theorem own_of_row {n : Nat} : (fun b => (Value.slice (some ⟨w.heap.size, 0, none⟩) n n).ownBlock = some b) = (fun b => b = w.heap.size) := by
  funext b
  simp [Value.ownBlock, eq_comm]
theorem slots_new (n : Nat) (hn : n ≤ maxLen) : slotsT (List.replicate n (0, 0)) (w.alloc (.cells ((List.replicate n ()).flatMap fun _ => [Value.int .i64 0, Value.int .i64 0]).toArray 77)) (fun b => b = w.heap.size) (.slice (some ⟨w.heap.size, 0, none⟩) n n) := by
  have h2 := own_flat (row_new (w := w) (e := 77) n hn (.int .i64 0) (.int .i64 0))
  rw [own_of_row] at h2
  have e : (List.replicate n ((0 : Int), (0 : Int))).flatMap nmC = (List.replicate n ()).flatMap fun _ => [Value.int .i64 0, Value.int .i64 0] := by
    induction n with
    | zero => rfl
    | succ n ih => rw [List.replicate_succ, List.replicate_succ, List.flatMap_cons, List.flatMap_cons, ih (by omega) (own_of_row ▸ own_flat (row_new n (by omega) _ _))]; rfl
  rw [slotsT, List.length_replicate, e]
  exact h2
theorem hands_new (n : Nat) (hn : n ≤ maxLen) : handsT (List.replicate n ⟨0, []⟩) (w.alloc (.cells ((List.replicate n ()).flatMap fun _ => [Value.int .i64 0, Value.slice none 0 0]).toArray 81)) (fun b => b = w.heap.size) (.slice (some ⟨w.heap.size, 0, none⟩) n n) := by
  have h := row_new (w := w) (e := 81) n hn (.int .i64 0) (.slice none 0 0)
  refine ⟨_, fun _ => none', by rw [List.length_replicate]; exact h, ⟨?_, fun k P v hP hv => ?_, fun _ _ _ _ _ b hb _ => hb⟩, fun b ⟨_, _, hb⟩ => hb.elim, fun b => ⟨fun hb => .inl (by rw [hb]; rfl), fun hb => ?_⟩⟩
  · rw [flatM_len (z := 2) hdT_len, flatM_len (z := 2) (fun _ => rfl)]; simp
  · have hk := (List.getElem?_eq_some_iff.1 hP).1
    rw [flatM_len (z := 2) hdT_len, List.length_replicate] at hk
    have hq : k / 2 < n := by omega
    have hkk : k = k / 2 * 2 + k % 2 := by omega
    rw [hkk] at hP hv
    rw [aR hdT_len _ (k / 2) ⟨0, []⟩ (by simp [hq]) (k % 2) (by omega)] at hP
    rw [aR (z := 2) (f := fun _ : Unit => [Value.int .i64 0, Value.slice none 0 0]) (fun _ => rfl) _ (k / 2) () (by simp [hq]) (k % 2) (by omega)] at hv
    have h2 : k % 2 = 0 ∨ k % 2 = 1 := by omega
    rcases h2 with h2 | h2 <;> rw [h2] at hP hv <;> cases hP <;> cases hv
    · exact ⟨rfl, fun _ h => h⟩
    · exact isRow.nil
  · rcases hb with hb | ⟨_, _, hb⟩
    · simp [Value.ownBlock] at hb; exact hb.symm
    · exact hb.elim
theorem model_parts {c : CfV} {S R H : List Value} {m : MdV} {sv rv hv : Value} {Fs Fr Fh : Fp} (hm : m.c = c) (hs : slotsT m.slots w Fs sv) (hr : rgsT m.rgs w Fr rv) (hh : handsT m.hands w Fh hv) (d1 : FDis Fs Fr) (d2 : FDis Fs Fh) (d3 : FDis Fr Fh) :
    Parts w (mdT m) (cfC c ++ [.bool m.loose, sv, rv, hv]) (fun k => if k = 7 then Fs else if k = 8 then Fr else if k = 9 then Fh else none') := by
  subst hm
  refine ⟨rfl, fun k P v hP hv' => ?_, fun j k hj hk hjk b h1 h2 => ?_⟩
  · have hk := (List.getElem?_eq_some_iff.1 hP).1
    have hk' : (mdT m).length = 10 := rfl
    rw [hk'] at hk
    have h10 : k = 0 ∨ k = 1 ∨ k = 2 ∨ k = 3 ∨ k = 4 ∨ k = 5 ∨ k = 6 ∨ k = 7 ∨ k = 8 ∨ k = 9 := by omega
    rcases h10 with rfl | rfl | rfl | rfl | rfl | rfl | rfl | rfl | rfl | rfl <;> cases hP <;> cases hv'
    · exact ⟨rfl, fun _ h => h⟩
    · exact ⟨rfl, fun _ h => h⟩
    · exact ⟨rfl, fun _ h => h⟩
    · exact ⟨rfl, fun _ h => h⟩
    · exact ⟨rfl, fun _ h => h⟩
    · exact ⟨rfl, fun _ h => h⟩
    · exact ⟨rfl, fun _ h => h⟩
    · exact hs
    · exact hr
    · exact hh
  · have e : ∀ k, (if k = 7 then Fs else if k = 8 then Fr else if k = 9 then Fh else none') b → (k = 7 ∧ Fs b) ∨ (k = 8 ∧ Fr b) ∨ (k = 9 ∧ Fh b) := by
      intro k h
      split at h
      · exact .inl ⟨by assumption, h⟩
      split at h
      · exact .inr (.inl ⟨by assumption, h⟩)
      split at h
      · exact .inr (.inr ⟨by assumption, h⟩)
      · exact h.elim
    rcases e j h1 with ⟨a1, a2⟩ | ⟨a1, a2⟩ | ⟨a1, a2⟩ <;> rcases e k h2 with ⟨b1, b2⟩ | ⟨b1, b2⟩ | ⟨b1, b2⟩
    · omega
    · exact d1 b a2 b2
    · exact d2 b a2 b2
    · exact d1 b b2 a2
    · omega
    · exact d3 b a2 b2
    · exact d2 b b2 a2
    · exact d3 b b2 a2
    · omega
end
end Go.Proofs.YtgamnncehjcdiaaGreat

namespace Go.Proofs.YtgamnncehjcdiaaGreat
open Go Ev Go.RowKit

section
variable {w : World} {g : Nat} {m : MdV} {F : Fp} {K : Nat}
def Made (w : World) (c : CfV) (m : MdV) (v : Value) (w' : World) : Prop := Chg [] w w' ∧ ((mayC c = false ∧ v = .tuple #[.pointer none, .int .i64 1]) ∨ (mayC c = true ∧ ∃ g F, v = .tuple #[.pointer (some ⟨g, 0, none⟩), .int .i64 0] ∧ MdI w' g m F ∧ ∀ k, F k → w.heap.size ≤ k))
set_option maxHeartbeats 1000000 in
theorem c_mNew (c : CfV) (w : World) : CallR Tryz.prog 20 [.agg (cfC c).toArray] w fun v w' => Made w c (newM c false) v w' := by
  apply F20_ok
  have b1 : hp (w.alloc (.cells (cfC c).toArray 33)) w.heap.size = some (.cells (cfC c).toArray 33) := by rw [ac, if_pos rfl]
  have c0 : Chg [] w (w.alloc (.cells (cfC c).toArray 33)) := (Chg.refl _ _).alloc _
  simp -implicitDefEqProofs only [F20, aE, aB]
  generalize w.alloc (.cells (cfC c).toArray 33) = w0 at *
  simp -implicitDefEqProofs only [ld_cf b1, ad]
  refine (c_layMay c w0).mono ?_
  rintro _ w1 ⟨rfl, k1⟩
  have c1 := c0.trans k1
  have b2 := k1.at b1 (by simp)
  cases hm : mayC c with
  | false =>
    simp -implicitDefEqProofs only [zS]
    exact ⟨c1, .inl ⟨hm, by first | rfl | trivial⟩⟩
  | true =>
    obtain ⟨h1, h2, h3, h4⟩ := may_cf hm
    have b2d : hp w1.drew w.heap.size = some (.cells (cfC c).toArray 33) := b2
    have cd := c1.drew
    obtain ⟨is, his, hzs, hss, hbs⟩ := inf_77
    obtain ⟨ih, hih, hzh, hsh, hbh⟩ := inf_81
    have e3 : (cfC c).toArray[0 + 3]? = some (.int .i64 ((c.2.2.2.1.toNat : Nat) : Int)) := by rw [cf_3]; congr; omega
    have e0 : (cfC c).toArray[0 + 0]? = some (.int .i64 ((c.1.toNat : Nat) : Int)) := by rw [cf_0]; congr; omega
    have nm : newM c false = ⟨c, false, List.replicate c.2.2.2.1.toNat (0, 0), [], List.replicate c.1.toNat ⟨0, []⟩⟩ := rfl
    have l1 : c.2.2.2.1.toNat ≤ 4096 := by omega
    have l2 : c.1.toNat ≤ 64 := by omega
    generalize c.2.2.2.1.toNat = ns at *
    generalize c.1.toNat = nh at *
    have mks : madeCells (Value.agg #[.int .i64 0, .int .i64 0]).cells (ns * is.size) = ((List.replicate ns ()).flatMap fun _ => [Value.int .i64 0, Value.int .i64 0]).toArray := by rw [hss]; exact made_flat (zs := [Value.int .i64 0, Value.int .i64 0]) rfl (by decide) ns
    have mkh : madeCells (Value.agg #[.int .i64 0, .slice none 0 0]).cells (nh * ih.size) = ((List.replicate nh ()).flatMap fun _ => [Value.int .i64 0, Value.slice none 0 0]).toArray := by rw [hsh]; exact made_flat (zs := [Value.int .i64 0, Value.slice none 0 0]) rfl (by decide) nh
    have fin : ∀ (w2 : World) (Fs Fh : Fp) (sb hb : Nat), Chg [] w w2 → slotsT (List.replicate ns (0, 0)) w2 Fs (.slice (some ⟨sb, 0, none⟩) ns ns) → handsT (List.replicate nh ⟨0, []⟩) w2 Fh (.slice (some ⟨hb, 0, none⟩) nh nh) → FDis Fs Fh → (∀ k, Fs k → w.heap.size ≤ k) → (∀ k, Fh k → w.heap.size ≤ k) →
        Made w c (newM c false) (.tuple #[.pointer (some ⟨w2.heap.size, 0, none⟩), .int .i64 0]) (w2.alloc (.cells (cfC c ++ [Value.bool false, Value.slice (some ⟨sb, 0, none⟩) ns ns, Value.slice none 0 0, Value.slice (some ⟨hb, 0, none⟩) nh nh]).toArray 74)) := by
      intro w2 Fs Fh sb hb c2 hs hh hd ns' nh'
      have hp' := model_parts (S := []) (R := []) (H := []) (m := newM c false) (c := c) (rv := .slice none 0 0) (Fr := none') rfl (by rw [nm]; exact hs) (by rw [nm]; exact isRow.nil) (by rw [nm]; exact hh) (fun _ _ h => h) hd (fun _ h _ => h)
      refine ⟨c2.alloc _, .inr ⟨hm, w2.heap.size, _, rfl, isAt.new hp' (aT _), fun k hk => ?_⟩⟩
      rcases hk with hk | ⟨j, _, hk⟩
      · rw [hk]; exact c2.size
      · split at hk
        · exact ns' k hk
        split at hk
        · exact hk.elim
        split at hk
        · exact nh' k hk
        · exact hk.elim
    have len2 : maxLen = maxLen := rfl
    have hml : ns ≤ maxLen ∧ nh ≤ maxLen := by unfold maxLen; omega
    simp -implicitDefEqProofs only [zS, fa_33_3, fa_33_0, af, ld_cf b2d, b2, e3, e0, effv_make (P := Tryz.prog) (kl := .i64) (kc := .i64) (n := ns) Tryz.underlying70 his hzs (by rw [hss]; omega) (by rw [hbs]; omega) (by omega), effv_make (P := Tryz.prog) (kl := .i64) (kc := .i64) (n := nh) Tryz.underlying72 hih hzh (by rw [hsh]; omega) (by rw [hbh]; omega) (by omega), mks, mkh]
    have hbd : ∀ a b, pureRun Tryz.prog (Instr.build 74 #[(0, .agg (cfC c).toArray), (2, .slice (some ⟨a, 0, none⟩) ns ns), (4, .slice (some ⟨b, 0, none⟩) nh nh)]) = some (.agg (cfC c ++ [Value.bool false, Value.slice (some ⟨a, 0, none⟩) ns ns, Value.slice none 0 0, Value.slice (some ⟨b, 0, none⟩) nh nh]).toArray) := fun a b => bd_74_0_2_4
    simp -implicitDefEqProofs only [hbd, ad, aE, aB]
    have sz : w.heap.size ≤ w1.drew.heap.size := cd.size
    constructor
    · have s1 := slots_new (w := w1.drew) ns hml.1
      generalize hwA : w1.drew.alloc (.cells ((List.replicate ns ()).flatMap fun _ => [Value.int .i64 0, Value.int .i64 0]).toArray 77) = wA at *
      have cA : Chg [] w1.drew wA := by rw [← hwA]; exact (Chg.refl _ _).alloc _
      have sA : wA.heap.size = w1.drew.heap.size + 1 := by rw [← hwA, ae]
      have h1 := hands_new (w := wA) nh hml.2
      have cB : Chg [] wA (wA.alloc (.cells ((List.replicate nh ()).flatMap fun _ => [Value.int .i64 0, Value.slice none 0 0]).toArray 81)) := (Chg.refl _ _).alloc _
      exact fin _ _ _ _ _ ((cd.trans cA).trans cB) ((good_slots _).frame s1 (ChgP.of0 cB none') fun _ _ h => h) h1 (fun k h1 h2 => by omega) (fun k hk => by omega) (fun k hk => by omega)
    · have s1 := hands_new (w := w1.drew) nh hml.2
      generalize hwA : w1.drew.alloc (.cells ((List.replicate nh ()).flatMap fun _ => [Value.int .i64 0, Value.slice none 0 0]).toArray 81) = wA at *
      have cA : Chg [] w1.drew wA := by rw [← hwA]; exact (Chg.refl _ _).alloc _
      have sA : wA.heap.size = w1.drew.heap.size + 1 := by rw [← hwA, ae]
      have h1 := slots_new (w := wA) ns hml.1
      have cB : Chg [] wA (wA.alloc (.cells ((List.replicate ns ()).flatMap fun _ => [Value.int .i64 0, Value.int .i64 0]).toArray 77)) := (Chg.refl _ _).alloc _
      exact fin _ _ _ _ _ ((cd.trans cA).trans cB) h1 ((good_hands _).frame s1 (ChgP.of0 cB none') fun _ _ h => h) (fun k h1 h2 => by omega) (fun k hk => by omega) (fun k hk => by omega)
set_option maxHeartbeats 1000000 in
theorem c_mLoose (c : CfV) (w : World) : CallR Tryz.prog 19 [.agg (cfC c).toArray] w fun v w' => Made w c (newM c true) v w' := by
  apply F19_ok
  have b1 : hp (w.alloc (.cells (cfC c).toArray 33)) w.heap.size = some (.cells (cfC c).toArray 33) := by rw [ac, if_pos rfl]
  have c0 : Chg [] w (w.alloc (.cells (cfC c).toArray 33)) := (Chg.refl _ _).alloc _
  have s0 : (w.alloc (.cells (cfC c).toArray 33)).heap.size = w.heap.size + 1 := ae _ _
  simp -implicitDefEqProofs only [F19, aE, aB]
  generalize w.alloc (.cells (cfC c).toArray 33) = w0 at *
  simp -implicitDefEqProofs only [ld_cf b1, ad]
  refine (c_mNew c w0).mono ?_
  rintro v w1 ⟨k1, hv⟩
  have c1 := c0.trans k1
  rcases hv with ⟨hm, rfl⟩ | ⟨hm, g, F, rfl, I, hF⟩
  · have e : ((1 : Int) == 0) = false := rfl
    simp -implicitDefEqProofs only [tup0, tup1, zS, e]
    apply L19_0_ok
    exact ⟨c1, .inl ⟨hm, rfl⟩⟩
  · obtain ⟨v, Fk, hg, hng, hsub, hld, hv, _, hput⟩ := isAt.cell I (aT _) (k := 6) (P := isV (.bool false)) rfl
    obtain ⟨ok, F1, h1, h2⟩ := hput w1 none' (isV (.bool true)) (.bool true) (UpdP.none hv.2 w1) (good_isV ⟨rfl, rfl⟩) ⟨rfl, fun _ h => h⟩
    have e : ((0 : Int) == 0) = true := rfl
    simp -implicitDefEqProofs only [tup0, tup1, zS, e, fa_74_1]
    rw [st_4 (o := 0 + 6) rfl rfl ok]
    apply L19_0_ok
    refine ⟨⟨h2.chg.os.trans c1.os, h2.chg.tape.trans c1.tape, h2.chg.output.trans c1.output, Nat.le_trans c1.size h2.chg.size, fun k hk _ => ?_⟩, .inr ⟨hm, g, F1, rfl, h1, fun k hk => ?_⟩⟩
    · rw [h2.chg.block k (Nat.lt_of_lt_of_le hk c1.size) fun h => by have := hF k h; omega]
      exact c1.block k hk (by simp)
    · have := c1.size
      rcases h2.sub k hk with h | h
      · have := hF k h; omega
      · omega
end
end Go.Proofs.YtgamnncehjcdiaaGreat

namespace Go.Proofs.YtgamnncehjcdiaaGreat
open Go Ev
noncomputable def C14 : Code := (Tryz.f14.body).getD .skip
noncomputable def H14 : Hints := ⟨[], [(6, [0, 1, 2, 8, 9, 10, 11, 12]), (14, [0, 1, 2, 9, 10, 14]), (18, [1, 10, 14, 16]), (19, [1, 10, 14])], [(2, (.ask 0 2 (.ask 4 6 (.leaf [0, 1, 2, 3, 4, 5, 6, 7, 8, 9, 10, 11]) (.ask 4 8 (.leaf [1, 5, 7, 0, 2, 3, 6, 4, 8, 9, 10, 11]) (.leaf [1, 5, 7, 0, 2, 3, 6, 8, 9, 4, 10, 11]))) (.ask 0 6 (.ask 4 6 (.leaf [1, 5, 7, 2, 0, 3, 4, 6, 8, 9, 10, 11]) (.ask 4 8 (.leaf [1, 5, 7, 2, 0, 3, 6, 4, 8, 9, 10, 11]) (.leaf [1, 5, 7, 2, 0, 3, 6, 8, 9, 4, 10, 11]))) (.ask 0 8 (.ask 4 8 (.leaf [1, 5, 7, 2, 6, 0, 3, 4, 8, 9, 10, 11]) (.leaf [1, 5, 7, 2, 6, 0, 3, 8, 9, 4, 10, 11])) (.leaf [1, 5, 7, 2, 6, 8, 9, 0, 3, 4, 10, 11]))))), (5, (.ask 11 7 (.leaf [0, 1, 2, 4, 3, 5, 6, 11, 7, 8, 9, 10, 12, 13]) (.leaf [0, 1, 2, 3, 4, 5, 6, 7, 8, 9, 10, 11, 12, 13]))), (13, (.ask 1 10 (.ask 3 10 (.ask 12 10 (.ask 14 10 (.leaf [0, 2, 4, 5, 6, 7, 8, 11, 1, 3, 9, 12, 14, 10, 13, 15]) (.leaf [0, 2, 4, 5, 6, 7, 8, 11, 1, 3, 9, 12, 10, 13, 14, 15])) (.ask 14 10 (.leaf [0, 2, 4, 5, 6, 7, 8, 11, 1, 3, 9, 14, 10, 12, 13, 15]) (.leaf [0, 1, 2, 3, 4, 5, 6, 7, 8, 9, 10, 11, 12, 13, 14, 15]))) (.ask 12 10 (.ask 14 10 (.leaf [0, 2, 4, 5, 6, 7, 8, 11, 1, 9, 12, 14, 10, 3, 13, 15]) (.leaf [0, 2, 4, 5, 6, 7, 8, 11, 1, 9, 12, 10, 3, 13, 14, 15])) (.ask 14 10 (.leaf [0, 2, 4, 5, 6, 7, 8, 11, 1, 9, 14, 10, 3, 12, 13, 15]) (.leaf [0, 2, 4, 5, 6, 7, 8, 11, 1, 9, 10, 3, 12, 13, 14, 15])))) (.ask 3 10 (.ask 12 10 (.ask 14 10 (.leaf [0, 2, 4, 5, 6, 7, 8, 11, 3, 9, 12, 14, 10, 1, 13, 15]) (.leaf [0, 2, 4, 5, 6, 7, 8, 11, 3, 9, 12, 10, 1, 13, 14, 15])) (.ask 14 10 (.leaf [0, 2, 4, 5, 6, 7, 8, 11, 3, 9, 14, 10, 1, 12, 13, 15]) (.leaf [0, 2, 4, 5, 6, 7, 8, 11, 3, 9, 10, 1, 12, 13, 14, 15]))) (.ask 12 10 (.ask 14 10 (.leaf [0, 2, 4, 5, 6, 7, 8, 11, 9, 12, 14, 10, 1, 3, 13, 15]) (.leaf [0, 2, 4, 5, 6, 7, 8, 11, 9, 12, 10, 1, 3, 13, 14, 15])) (.ask 14 10 (.leaf [0, 2, 4, 5, 6, 7, 8, 11, 9, 14, 10, 1, 3, 12, 13, 15]) (.leaf [0, 2, 4, 5, 6, 7, 8, 11, 9, 10, 1, 3, 12, 13, 14, 15])))))), (14, (.leaf [0, 1, 2, 3, 4, 5, 6, 7])), (17, (.ask 15 11 (.leaf [0, 1, 2, 4, 5, 6, 8, 3, 7, 9, 10, 15, 11, 12, 13, 14, 16, 17]) (.leaf [0, 1, 2, 3, 4, 5, 6, 7, 8, 9, 10, 11, 12, 13, 14, 15, 16, 17])))]⟩
noncomputable def T14_0 : List It := [.jn (nav [1, 1, 1, 1] C14)]
noncomputable def T14_1 : List It := [.jn (nav [1, 1, 1, 1, 1, 1, 1] C14)]
noncomputable def T14_2 : List It := [.jn (nav [1, 1, 1, 1, 1, 1, 1, 1, 0, 1, 2, 1, 1] C14), .jn (nav [1, 1, 1, 1, 1, 1, 1, 1, 1] C14)]
noncomputable def T14_3 : List It := [.jn (nav [1, 1, 1, 1, 1, 1, 1, 1, 1] C14)]
def P14_0 (x0 x1 x2 x8 x9 x10 x11 x12 : Value) (w : World) (Q : Value → World → Prop) : Prop := Part Tryz.prog 14 T14_0 [0, 1, 2, 8, 9, 10, 11, 12] [x0, x1, x2, x8, x9, x10, x11, x12] w Q
def P14_1 (x0 x1 x2 x9 x10 x14 : Value) (w : World) (Q : Value → World → Prop) : Prop := Part Tryz.prog 14 T14_1 [0, 1, 2, 9, 10, 14] [x0, x1, x2, x9, x10, x14] w Q
def P14_2 (x1 x10 x14 x16 : Value) (w : World) (Q : Value → World → Prop) : Prop := Part Tryz.prog 14 T14_2 [1, 10, 14, 16] [x1, x10, x14, x16] w Q
def P14_3 (x1 x10 x14 : Value) (w : World) (Q : Value → World → Prop) : Prop := Part Tryz.prog 14 T14_3 [1, 10, 14] [x1, x10, x14] w Q
def F14 (a0 a1 a2 a3 a4 : Value) (w : World) (Q : Value → World → Prop) : Prop :=
  effv Tryz.prog (Instr.box 39 a3) w fun t8 w =>
  effv Tryz.prog (Instr.box 25 a4) w fun t9 w =>
  effv Tryz.prog (Instr.alloc 28 true (.tuple #[])) w fun t10 w =>
  CallR Tryz.prog 24 [a1, (.int .i64 8)] w fun t19 w =>
  wpB (be Tryz.prog .eql 3 (.tmp 19) (.const (.int .i64 0)) t19 (.int .i64 0)) fun t20 =>
  cnd t20
  (((effv Tryz.prog (Instr.buildSlice 104 6 #[(0, (.int .i64 0)), (1, (.int .i64 3)), (2, (.int .i64 4)), (3, (.int .i64 7)), (4, (.int .i64 6)), (5, (.int .i64 2))]) w.drew fun t21 w =>
  CallR Tryz.prog 24 [a1, (.int .i64 6)] w fun t23 w =>
  wpB (pureRun Tryz.prog (Instr.indexAt 104 t21 t23)) fun t24 =>
  wpB (ldv Tryz.prog 23 t24 w) fun t25 =>
  CallR Tryz.prog 24 [a1, (.int .i64 2)] w fun t27 w =>
  CallR Tryz.prog 24 [a1, (.int .i64 3)] w fun t29 w =>
  wpB (pureRun Tryz.prog (convert 3 26 t29)) fun t30 =>
  wpB (pureRun Tryz.prog (Instr.build 28 #[(0, t25), (2, t27), (3, t30)])) fun t31 =>
  effu Tryz.prog (Instr.storeAt 28 t10 t31) w fun w =>
  wpB (ldv Tryz.prog 28 t10 w) fun r10 => Q r10 w) ∧
  ((effv Tryz.prog (Instr.buildSlice 104 6 #[(0, (.int .i64 0)), (1, (.int .i64 3)), (2, (.int .i64 4)), (3, (.int .i64 7)), (4, (.int .i64 6)), (5, (.int .i64 2))]) w.drew fun t21_1 w =>
  CallR Tryz.prog 24 [a1, (.int .i64 6)] w fun t23_1 w =>
  wpB (pureRun Tryz.prog (Instr.indexAt 104 t21_1 t23_1)) fun t24_1 =>
  CallR Tryz.prog 24 [a1, (.int .i64 2)] w fun t27_1 w =>
  wpB (ldv Tryz.prog 23 t24_1 w) fun t25_1 =>
  CallR Tryz.prog 24 [a1, (.int .i64 3)] w fun t29_1 w =>
  wpB (pureRun Tryz.prog (convert 3 26 t29_1)) fun t30_1 =>
  wpB (pureRun Tryz.prog (Instr.build 28 #[(0, t25_1), (2, t27_1), (3, t30_1)])) fun t31_1 =>
  effu Tryz.prog (Instr.storeAt 28 t10 t31_1) w fun w =>
  wpB (ldv Tryz.prog 28 t10 w) fun r10_1 => Q r10_1 w) ∧
  (effv Tryz.prog (Instr.buildSlice 104 6 #[(0, (.int .i64 0)), (1, (.int .i64 3)), (2, (.int .i64 4)), (3, (.int .i64 7)), (4, (.int .i64 6)), (5, (.int .i64 2))]) w.drew fun t21_2 w =>
  CallR Tryz.prog 24 [a1, (.int .i64 6)] w fun t23_2 w =>
  wpB (pureRun Tryz.prog (Instr.indexAt 104 t21_2 t23_2)) fun t24_2 =>
  CallR Tryz.prog 24 [a1, (.int .i64 2)] w fun t27_2 w =>
  CallR Tryz.prog 24 [a1, (.int .i64 3)] w fun t29_2 w =>
  wpB (pureRun Tryz.prog (convert 3 26 t29_2)) fun t30_2 =>
  wpB (ldv Tryz.prog 23 t24_2 w) fun t25_2 =>
  wpB (pureRun Tryz.prog (Instr.build 28 #[(0, t25_2), (2, t27_2), (3, t30_2)])) fun t31_2 =>
  effu Tryz.prog (Instr.storeAt 28 t10 t31_2) w fun w =>
  wpB (ldv Tryz.prog 28 t10 w) fun r10_2 => Q r10_2 w))) ∧
  (((CallR Tryz.prog 24 [a1, (.int .i64 6)] w.drew fun t23_3 w =>
  effv Tryz.prog (Instr.buildSlice 104 6 #[(0, (.int .i64 0)), (1, (.int .i64 3)), (2, (.int .i64 4)), (3, (.int .i64 7)), (4, (.int .i64 6)), (5, (.int .i64 2))]) w fun t21_3 w =>
  wpB (pureRun Tryz.prog (Instr.indexAt 104 t21_3 t23_3)) fun t24_3 =>
  wpB (ldv Tryz.prog 23 t24_3 w) fun t25_3 =>
  CallR Tryz.prog 24 [a1, (.int .i64 2)] w fun t27_3 w =>
  CallR Tryz.prog 24 [a1, (.int .i64 3)] w fun t29_3 w =>
  wpB (pureRun Tryz.prog (convert 3 26 t29_3)) fun t30_3 =>
  wpB (pureRun Tryz.prog (Instr.build 28 #[(0, t25_3), (2, t27_3), (3, t30_3)])) fun t31_3 =>
  effu Tryz.prog (Instr.storeAt 28 t10 t31_3) w fun w =>
  wpB (ldv Tryz.prog 28 t10 w) fun r10_3 => Q r10_3 w) ∧
  ((CallR Tryz.prog 24 [a1, (.int .i64 6)] w.drew fun t23_4 w =>
  effv Tryz.prog (Instr.buildSlice 104 6 #[(0, (.int .i64 0)), (1, (.int .i64 3)), (2, (.int .i64 4)), (3, (.int .i64 7)), (4, (.int .i64 6)), (5, (.int .i64 2))]) w fun t21_4 w =>
  wpB (pureRun Tryz.prog (Instr.indexAt 104 t21_4 t23_4)) fun t24_4 =>
  CallR Tryz.prog 24 [a1, (.int .i64 2)] w fun t27_4 w =>
  wpB (ldv Tryz.prog 23 t24_4 w) fun t25_4 =>
  CallR Tryz.prog 24 [a1, (.int .i64 3)] w fun t29_4 w =>
  wpB (pureRun Tryz.prog (convert 3 26 t29_4)) fun t30_4 =>
  wpB (pureRun Tryz.prog (Instr.build 28 #[(0, t25_4), (2, t27_4), (3, t30_4)])) fun t31_4 =>
  effu Tryz.prog (Instr.storeAt 28 t10 t31_4) w fun w =>
  wpB (ldv Tryz.prog 28 t10 w) fun r10_4 => Q r10_4 w) ∧
  (CallR Tryz.prog 24 [a1, (.int .i64 6)] w.drew fun t23_5 w =>
  effv Tryz.prog (Instr.buildSlice 104 6 #[(0, (.int .i64 0)), (1, (.int .i64 3)), (2, (.int .i64 4)), (3, (.int .i64 7)), (4, (.int .i64 6)), (5, (.int .i64 2))]) w fun t21_5 w =>
  wpB (pureRun Tryz.prog (Instr.indexAt 104 t21_5 t23_5)) fun t24_5 =>
  CallR Tryz.prog 24 [a1, (.int .i64 2)] w fun t27_5 w =>
  CallR Tryz.prog 24 [a1, (.int .i64 3)] w fun t29_5 w =>
  wpB (pureRun Tryz.prog (convert 3 26 t29_5)) fun t30_5 =>
  wpB (ldv Tryz.prog 23 t24_5 w) fun t25_5 =>
  wpB (pureRun Tryz.prog (Instr.build 28 #[(0, t25_5), (2, t27_5), (3, t30_5)])) fun t31_5 =>
  effu Tryz.prog (Instr.storeAt 28 t10 t31_5) w fun w =>
  wpB (ldv Tryz.prog 28 t10 w) fun r10_5 => Q r10_5 w))) ∧
  (((CallR Tryz.prog 24 [a1, (.int .i64 6)] w.drew fun t23_6 w =>
  CallR Tryz.prog 24 [a1, (.int .i64 2)] w fun t27_6 w =>
  effv Tryz.prog (Instr.buildSlice 104 6 #[(0, (.int .i64 0)), (1, (.int .i64 3)), (2, (.int .i64 4)), (3, (.int .i64 7)), (4, (.int .i64 6)), (5, (.int .i64 2))]) w fun t21_6 w =>
  wpB (pureRun Tryz.prog (Instr.indexAt 104 t21_6 t23_6)) fun t24_6 =>
  wpB (ldv Tryz.prog 23 t24_6 w) fun t25_6 =>
  CallR Tryz.prog 24 [a1, (.int .i64 3)] w fun t29_6 w =>
  wpB (pureRun Tryz.prog (convert 3 26 t29_6)) fun t30_6 =>
  wpB (pureRun Tryz.prog (Instr.build 28 #[(0, t25_6), (2, t27_6), (3, t30_6)])) fun t31_6 =>
  effu Tryz.prog (Instr.storeAt 28 t10 t31_6) w fun w =>
  wpB (ldv Tryz.prog 28 t10 w) fun r10_6 => Q r10_6 w) ∧
  (CallR Tryz.prog 24 [a1, (.int .i64 6)] w.drew fun t23_7 w =>
  CallR Tryz.prog 24 [a1, (.int .i64 2)] w fun t27_7 w =>
  effv Tryz.prog (Instr.buildSlice 104 6 #[(0, (.int .i64 0)), (1, (.int .i64 3)), (2, (.int .i64 4)), (3, (.int .i64 7)), (4, (.int .i64 6)), (5, (.int .i64 2))]) w fun t21_7 w =>
  wpB (pureRun Tryz.prog (Instr.indexAt 104 t21_7 t23_7)) fun t24_7 =>
  CallR Tryz.prog 24 [a1, (.int .i64 3)] w fun t29_7 w =>
  wpB (pureRun Tryz.prog (convert 3 26 t29_7)) fun t30_7 =>
  wpB (ldv Tryz.prog 23 t24_7 w) fun t25_7 =>
  wpB (pureRun Tryz.prog (Instr.build 28 #[(0, t25_7), (2, t27_7), (3, t30_7)])) fun t31_7 =>
  effu Tryz.prog (Instr.storeAt 28 t10 t31_7) w fun w =>
  wpB (ldv Tryz.prog 28 t10 w) fun r10_7 => Q r10_7 w)) ∧
  (CallR Tryz.prog 24 [a1, (.int .i64 6)] w.drew fun t23_8 w =>
  CallR Tryz.prog 24 [a1, (.int .i64 2)] w fun t27_8 w =>
  CallR Tryz.prog 24 [a1, (.int .i64 3)] w fun t29_8 w =>
  wpB (pureRun Tryz.prog (convert 3 26 t29_8)) fun t30_8 =>
  effv Tryz.prog (Instr.buildSlice 104 6 #[(0, (.int .i64 0)), (1, (.int .i64 3)), (2, (.int .i64 4)), (3, (.int .i64 7)), (4, (.int .i64 6)), (5, (.int .i64 2))]) w fun t21_8 w =>
  wpB (pureRun Tryz.prog (Instr.indexAt 104 t21_8 t23_8)) fun t24_8 =>
  wpB (ldv Tryz.prog 23 t24_8 w) fun t25_8 =>
  wpB (pureRun Tryz.prog (Instr.build 28 #[(0, t25_8), (2, t27_8), (3, t30_8)])) fun t31_8 =>
  effu Tryz.prog (Instr.storeAt 28 t10 t31_8) w fun w =>
  wpB (ldv Tryz.prog 28 t10 w) fun r10_8 => Q r10_8 w))))
  (wpB (bp Tryz.prog .lss 3 a2 (.int .i64 0)) fun t33 =>
  wpB (gd t33 false (nilv (gv t33 false a0))) fun t37 =>
  wpB (gd t33 false (pureRun Tryz.prog (Instr.fieldAt 46 t37 0))) fun t38 =>
  wpB (gd t33 false (pureRun Tryz.prog (Instr.fieldAt 33 t38 0))) fun t39 =>
  wpB (gd t33 false (ldv Tryz.prog 3 t39 w)) fun t40 =>
  wpB (gd t33 false (bp Tryz.prog .geq 3 (gv t33 false a2) t40)) fun t41 =>
  wpB (pickv t33 (some (.bool true)) (some t41)) fun t42 =>
  wpB (gd t42 false (ldv Tryz.prog 39 t8 w)) fun t44 =>
  gE t42 false (CallR Tryz.prog 9 [t44] w) (fun t45 w =>
  wpB (gd t42 false (pureRun Tryz.prog (Op.unary .not t45))) fun t46 =>
  wpB (pickv t42 (some (.bool true)) (some t46)) fun t47 =>
  cnd t47
  (wpB (pureRun Tryz.prog (Instr.build 28 #[])) fun t48 =>
  effu Tryz.prog (Instr.storeAt 28 t10 t48) w fun w =>
  wpB (ldv Tryz.prog 28 t10 w) fun r10_9 => Q r10_9 w)
  ((wpB (nilv a0) fun t51 =>
  wpB (pureRun Tryz.prog (Instr.fieldAt 46 t51 2)) fun t52 =>
  wpB (ldv Tryz.prog 43 t52 w.drew) fun t53 =>
  wpB (ldv Tryz.prog 39 t8 w.drew) fun t55 =>
  wpB (ldv Tryz.prog 25 t9 w.drew) fun t56 =>
  effv Tryz.prog (Instr.alloc 28 true (.tuple #[])) w.drew fun t11 w =>
  CallR Tryz.prog 50 [t53, a2, t55, t56] w fun t57 w =>
  wpB (pureRun Tryz.prog (Instr.extract t57 0)) fun t58 =>
  wpB (pureRun Tryz.prog (Instr.extract t57 1)) fun t59 =>
  effu Tryz.prog (Instr.storeAt 28 t11 t58) w fun w =>
  P14_0 a0 a1 a2 t8 t9 t10 t11 t59 w Q) ∧
  (wpB (nilv a0) fun t51_1 =>
  wpB (pureRun Tryz.prog (Instr.fieldAt 46 t51_1 2)) fun t52_1 =>
  wpB (ldv Tryz.prog 43 t52_1 w.drew) fun t53_1 =>
  wpB (ldv Tryz.prog 39 t8 w.drew) fun t55_1 =>
  wpB (ldv Tryz.prog 25 t9 w.drew) fun t56_1 =>
  CallR Tryz.prog 50 [t53_1, a2, t55_1, t56_1] w.drew fun t57_1 w =>
  wpB (pureRun Tryz.prog (Instr.extract t57_1 0)) fun t58_1 =>
  wpB (pureRun Tryz.prog (Instr.extract t57_1 1)) fun t59_1 =>
  effv Tryz.prog (Instr.alloc 28 true (.tuple #[])) w fun t11_1 w =>
  effu Tryz.prog (Instr.storeAt 28 t11_1 t58_1) w fun w =>
  P14_0 a0 a1 a2 t8 t9 t10 t11_1 t59_1 w Q))) w)
def L14_0 (x0 x1 x2 x8 x9 x10 x11 x12 : Value) (w : World) (Q : Value → World → Prop) : Prop :=
  cnd x12
  (wpB (ldv Tryz.prog 28 x11 w) fun t61 =>
  effu Tryz.prog (Instr.storeAt 28 x10 t61) w fun w =>
  wpB (ldv Tryz.prog 28 x10 w) fun r10 => Q r10 w)
  (wpB (pureRun Tryz.prog (Instr.fieldAt 39 x8 0)) fun t62 =>
  wpB (ldv Tryz.prog 3 t62 w) fun t63 =>
  wpB (be Tryz.prog .eql 3 (.tmp 63) (.const (.int .i64 1)) t63 (.int .i64 1)) fun t64 =>
  cnd t64
  (wpB (nilv x0) fun t67 =>
  wpB (pureRun Tryz.prog (Instr.fieldAt 46 t67 0)) fun t68 =>
  wpB (pureRun Tryz.prog (Instr.fieldAt 33 t68 3)) fun t69 =>
  wpB (ldv Tryz.prog 3 t69 w) fun t70 =>
  CallR Tryz.prog 24 [x1, t70] w fun t71 w =>
  CallR Tryz.prog 24 [x1, (.int .i64 6)] w fun t73 w =>
  wpB (be Tryz.prog .eql 3 (.tmp 73) (.const (.int .i64 0)) t73 (.int .i64 0)) fun t74 =>
  cnd t74
  (wpB (pureRun Tryz.prog (Instr.build 28 #[(0, (.int .i64 7))])) fun t75 =>
  effu Tryz.prog (Instr.storeAt 28 x10 t75) w fun w =>
  wpB (ldv Tryz.prog 28 x10 w) fun r10_1 => Q r10_1 w)
  (wpB (nilv x0) fun t78 =>
  wpB (pureRun Tryz.prog (Instr.fieldAt 46 t78 2)) fun t79 =>
  wpB (ldv Tryz.prog 43 t79 w) fun t80 =>
  wpB (nilv t80) fun t81 =>
  wpB (pureRun Tryz.prog (Instr.fieldAt 108 t81 3)) fun t82 =>
  wpB (ldv Tryz.prog 22 t82 w) fun t83 =>
  wpB (pureRun Tryz.prog (Instr.indexAt 22 t83 t71)) fun t85 =>
  wpB (ldv Tryz.prog 3 t85 w) fun t86 =>
  CallR Tryz.prog 51 [t86] w fun t87 w =>
  wpB (pureRun Tryz.prog (Instr.build 25 #[(0, t71), (1, t87)])) fun t88 =>
  wpB (pureRun Tryz.prog (Instr.build 28 #[(1, t88)])) fun t89 =>
  effu Tryz.prog (Instr.storeAt 28 x10 t89) w fun w =>
  wpB (ldv Tryz.prog 28 x10 w) fun r10_2 => Q r10_2 w))
  (((((wpB (pureRun Tryz.prog (Instr.fieldAt 25 x9 0)) fun t90 =>
  wpB (pureRun Tryz.prog (Instr.fieldAt 25 x9 1)) fun t92 =>
  wpB (nilv x0) fun t96 =>
  wpB (pureRun Tryz.prog (Instr.fieldAt 46 t96 0)) fun t97 =>
  wpB (pureRun Tryz.prog (Instr.fieldAt 33 t97 1)) fun t98 =>
  wpB (pureRun Tryz.prog (Instr.fieldAt 39 x8 3)) fun t101 =>
  wpB (ldv Tryz.prog 3 t90 w.drew) fun t91 =>
  wpB (ldv Tryz.prog 3 t92 w.drew) fun t93 =>
  wpB (ldv Tryz.prog 3 t98 w.drew) fun t99 =>
  wpB (ldv Tryz.prog 3 t101 w.drew) fun t102 =>
  effv Tryz.prog (Instr.alloc 25 true (.tuple #[])) w.drew fun t14 w =>
  CallR Tryz.prog 24 [x1, t99] w fun t100 w =>
  wpB (pureRun Tryz.prog (Instr.build 25 #[(0, t91), (1, t93), (2, t100), (4, t102)])) fun t103 =>
  effu Tryz.prog (Instr.storeAt 25 t14 t103) w fun w =>
  P14_1 x0 x1 x2 x9 x10 t14 w Q) ∧
  (wpB (pureRun Tryz.prog (Instr.fieldAt 25 x9 0)) fun t90_1 =>
  wpB (pureRun Tryz.prog (Instr.fieldAt 25 x9 1)) fun t92_1 =>
  wpB (nilv x0) fun t96_1 =>
  wpB (pureRun Tryz.prog (Instr.fieldAt 46 t96_1 0)) fun t97_1 =>
  wpB (pureRun Tryz.prog (Instr.fieldAt 33 t97_1 1)) fun t98_1 =>
  wpB (pureRun Tryz.prog (Instr.fieldAt 39 x8 3)) fun t101_1 =>
  wpB (ldv Tryz.prog 3 t90_1 w.drew) fun t91_1 =>
  wpB (ldv Tryz.prog 3 t92_1 w.drew) fun t93_1 =>
  wpB (ldv Tryz.prog 3 t98_1 w.drew) fun t99_1 =>
  wpB (ldv Tryz.prog 3 t101_1 w.drew) fun t102_1 =>
  CallR Tryz.prog 24 [x1, t99_1] w.drew fun t100_1 w =>
  wpB (pureRun Tryz.prog (Instr.build 25 #[(0, t91_1), (1, t93_1), (2, t100_1), (4, t102_1)])) fun t103_1 =>
  effv Tryz.prog (Instr.alloc 25 true (.tuple #[])) w fun t14_1 w =>
  effu Tryz.prog (Instr.storeAt 25 t14_1 t103_1) w fun w =>
  P14_1 x0 x1 x2 x9 x10 t14_1 w Q)) ∧
  ((wpB (pureRun Tryz.prog (Instr.fieldAt 25 x9 0)) fun t90_2 =>
  wpB (pureRun Tryz.prog (Instr.fieldAt 25 x9 1)) fun t92_2 =>
  wpB (nilv x0) fun t96_2 =>
  wpB (pureRun Tryz.prog (Instr.fieldAt 46 t96_2 0)) fun t97_2 =>
  wpB (pureRun Tryz.prog (Instr.fieldAt 33 t97_2 1)) fun t98_2 =>
  wpB (pureRun Tryz.prog (Instr.fieldAt 39 x8 3)) fun t101_2 =>
  wpB (ldv Tryz.prog 3 t90_2 w.drew) fun t91_2 =>
  wpB (ldv Tryz.prog 3 t92_2 w.drew) fun t93_2 =>
  wpB (ldv Tryz.prog 3 t98_2 w.drew) fun t99_2 =>
  effv Tryz.prog (Instr.alloc 25 true (.tuple #[])) w.drew fun t14_2 w =>
  CallR Tryz.prog 24 [x1, t99_2] w fun t100_2 w =>
  wpB (ldv Tryz.prog 3 t101_2 w) fun t102_2 =>
  wpB (pureRun Tryz.prog (Instr.build 25 #[(0, t91_2), (1, t93_2), (2, t100_2), (4, t102_2)])) fun t103_2 =>
  effu Tryz.prog (Instr.storeAt 25 t14_2 t103_2) w fun w =>
  P14_1 x0 x1 x2 x9 x10 t14_2 w Q) ∧
  (wpB (pureRun Tryz.prog (Instr.fieldAt 25 x9 0)) fun t90_3 =>
  wpB (ldv Tryz.prog 3 t90_3 w.drew) fun t91_3 =>
  wpB (pureRun Tryz.prog (Instr.fieldAt 25 x9 1)) fun t92_3 =>
  wpB (ldv Tryz.prog 3 t92_3 w.drew) fun t93_3 =>
  wpB (nilv x0) fun t96_3 =>
  wpB (pureRun Tryz.prog (Instr.fieldAt 46 t96_3 0)) fun t97_3 =>
  wpB (pureRun Tryz.prog (Instr.fieldAt 33 t97_3 1)) fun t98_3 =>
  wpB (ldv Tryz.prog 3 t98_3 w.drew) fun t99_3 =>
  CallR Tryz.prog 24 [x1, t99_3] w.drew fun t100_3 w =>
  wpB (pureRun Tryz.prog (Instr.fieldAt 39 x8 3)) fun t101_3 =>
  wpB (ldv Tryz.prog 3 t101_3 w) fun t102_3 =>
  wpB (pureRun Tryz.prog (Instr.build 25 #[(0, t91_3), (1, t93_3), (2, t100_3), (4, t102_3)])) fun t103_3 =>
  effv Tryz.prog (Instr.alloc 25 true (.tuple #[])) w fun t14_3 w =>
  effu Tryz.prog (Instr.storeAt 25 t14_3 t103_3) w fun w =>
  P14_1 x0 x1 x2 x9 x10 t14_3 w Q))) ∧
  (((wpB (pureRun Tryz.prog (Instr.fieldAt 25 x9 0)) fun t90_4 =>
  wpB (pureRun Tryz.prog (Instr.fieldAt 25 x9 1)) fun t92_4 =>
  wpB (nilv x0) fun t96_4 =>
  wpB (pureRun Tryz.prog (Instr.fieldAt 46 t96_4 0)) fun t97_4 =>
  wpB (pureRun Tryz.prog (Instr.fieldAt 33 t97_4 1)) fun t98_4 =>
  wpB (pureRun Tryz.prog (Instr.fieldAt 39 x8 3)) fun t101_4 =>
  wpB (ldv Tryz.prog 3 t90_4 w.drew) fun t91_4 =>
  wpB (ldv Tryz.prog 3 t98_4 w.drew) fun t99_4 =>
  wpB (ldv Tryz.prog 3 t101_4 w.drew) fun t102_4 =>
  effv Tryz.prog (Instr.alloc 25 true (.tuple #[])) w.drew fun t14_4 w =>
  CallR Tryz.prog 24 [x1, t99_4] w fun t100_4 w =>
  wpB (ldv Tryz.prog 3 t92_4 w) fun t93_4 =>
  wpB (pureRun Tryz.prog (Instr.build 25 #[(0, t91_4), (1, t93_4), (2, t100_4), (4, t102_4)])) fun t103_4 =>
  effu Tryz.prog (Instr.storeAt 25 t14_4 t103_4) w fun w =>
  P14_1 x0 x1 x2 x9 x10 t14_4 w Q) ∧
  (wpB (pureRun Tryz.prog (Instr.fieldAt 25 x9 0)) fun t90_5 =>
  wpB (pureRun Tryz.prog (Instr.fieldAt 25 x9 1)) fun t92_5 =>
  wpB (nilv x0) fun t96_5 =>
  wpB (pureRun Tryz.prog (Instr.fieldAt 46 t96_5 0)) fun t97_5 =>
  wpB (pureRun Tryz.prog (Instr.fieldAt 33 t97_5 1)) fun t98_5 =>
  wpB (pureRun Tryz.prog (Instr.fieldAt 39 x8 3)) fun t101_5 =>
  wpB (ldv Tryz.prog 3 t90_5 w.drew) fun t91_5 =>
  wpB (ldv Tryz.prog 3 t98_5 w.drew) fun t99_5 =>
  wpB (ldv Tryz.prog 3 t101_5 w.drew) fun t102_5 =>
  CallR Tryz.prog 24 [x1, t99_5] w.drew fun t100_5 w =>
  wpB (ldv Tryz.prog 3 t92_5 w) fun t93_5 =>
  wpB (pureRun Tryz.prog (Instr.build 25 #[(0, t91_5), (1, t93_5), (2, t100_5), (4, t102_5)])) fun t103_5 =>
  effv Tryz.prog (Instr.alloc 25 true (.tuple #[])) w fun t14_5 w =>
  effu Tryz.prog (Instr.storeAt 25 t14_5 t103_5) w fun w =>
  P14_1 x0 x1 x2 x9 x10 t14_5 w Q)) ∧
  ((wpB (pureRun Tryz.prog (Instr.fieldAt 25 x9 0)) fun t90_6 =>
  wpB (pureRun Tryz.prog (Instr.fieldAt 25 x9 1)) fun t92_6 =>
  wpB (nilv x0) fun t96_6 =>
  wpB (pureRun Tryz.prog (Instr.fieldAt 46 t96_6 0)) fun t97_6 =>
  wpB (pureRun Tryz.prog (Instr.fieldAt 33 t97_6 1)) fun t98_6 =>
  wpB (pureRun Tryz.prog (Instr.fieldAt 39 x8 3)) fun t101_6 =>
  wpB (ldv Tryz.prog 3 t90_6 w.drew) fun t91_6 =>
  wpB (ldv Tryz.prog 3 t98_6 w.drew) fun t99_6 =>
  effv Tryz.prog (Instr.alloc 25 true (.tuple #[])) w.drew fun t14_6 w =>
  CallR Tryz.prog 24 [x1, t99_6] w fun t100_6 w =>
  wpB (ldv Tryz.prog 3 t92_6 w) fun t93_6 =>
  wpB (ldv Tryz.prog 3 t101_6 w) fun t102_6 =>
  wpB (pureRun Tryz.prog (Instr.build 25 #[(0, t91_6), (1, t93_6), (2, t100_6), (4, t102_6)])) fun t103_6 =>
  effu Tryz.prog (Instr.storeAt 25 t14_6 t103_6) w fun w =>
  P14_1 x0 x1 x2 x9 x10 t14_6 w Q) ∧
  (wpB (pureRun Tryz.prog (Instr.fieldAt 25 x9 0)) fun t90_7 =>
  wpB (pureRun Tryz.prog (Instr.fieldAt 25 x9 1)) fun t92_7 =>
  wpB (nilv x0) fun t96_7 =>
  wpB (pureRun Tryz.prog (Instr.fieldAt 46 t96_7 0)) fun t97_7 =>
  wpB (pureRun Tryz.prog (Instr.fieldAt 33 t97_7 1)) fun t98_7 =>
  wpB (pureRun Tryz.prog (Instr.fieldAt 39 x8 3)) fun t101_7 =>
  wpB (ldv Tryz.prog 3 t90_7 w.drew) fun t91_7 =>
  wpB (ldv Tryz.prog 3 t98_7 w.drew) fun t99_7 =>
  CallR Tryz.prog 24 [x1, t99_7] w.drew fun t100_7 w =>
  wpB (ldv Tryz.prog 3 t92_7 w) fun t93_7 =>
  wpB (ldv Tryz.prog 3 t101_7 w) fun t102_7 =>
  wpB (pureRun Tryz.prog (Instr.build 25 #[(0, t91_7), (1, t93_7), (2, t100_7), (4, t102_7)])) fun t103_7 =>
  effv Tryz.prog (Instr.alloc 25 true (.tuple #[])) w fun t14_7 w =>
  effu Tryz.prog (Instr.storeAt 25 t14_7 t103_7) w fun w =>
  P14_1 x0 x1 x2 x9 x10 t14_7 w Q)))) ∧
  ((((wpB (pureRun Tryz.prog (Instr.fieldAt 25 x9 0)) fun t90_8 =>
  wpB (pureRun Tryz.prog (Instr.fieldAt 25 x9 1)) fun t92_8 =>
  wpB (nilv x0) fun t96_8 =>
  wpB (pureRun Tryz.prog (Instr.fieldAt 46 t96_8 0)) fun t97_8 =>
  wpB (pureRun Tryz.prog (Instr.fieldAt 33 t97_8 1)) fun t98_8 =>
  wpB (pureRun Tryz.prog (Instr.fieldAt 39 x8 3)) fun t101_8 =>
  wpB (ldv Tryz.prog 3 t92_8 w.drew) fun t93_8 =>
  wpB (ldv Tryz.prog 3 t98_8 w.drew) fun t99_8 =>
  wpB (ldv Tryz.prog 3 t101_8 w.drew) fun t102_8 =>
  effv Tryz.prog (Instr.alloc 25 true (.tuple #[])) w.drew fun t14_8 w =>
  CallR Tryz.prog 24 [x1, t99_8] w fun t100_8 w =>
  wpB (ldv Tryz.prog 3 t90_8 w) fun t91_8 =>
  wpB (pureRun Tryz.prog (Instr.build 25 #[(0, t91_8), (1, t93_8), (2, t100_8), (4, t102_8)])) fun t103_8 =>
  effu Tryz.prog (Instr.storeAt 25 t14_8 t103_8) w fun w =>
  P14_1 x0 x1 x2 x9 x10 t14_8 w Q) ∧
  (wpB (pureRun Tryz.prog (Instr.fieldAt 25 x9 0)) fun t90_9 =>
  wpB (pureRun Tryz.prog (Instr.fieldAt 25 x9 1)) fun t92_9 =>
  wpB (nilv x0) fun t96_9 =>
  wpB (pureRun Tryz.prog (Instr.fieldAt 46 t96_9 0)) fun t97_9 =>
  wpB (pureRun Tryz.prog (Instr.fieldAt 33 t97_9 1)) fun t98_9 =>
  wpB (pureRun Tryz.prog (Instr.fieldAt 39 x8 3)) fun t101_9 =>
  wpB (ldv Tryz.prog 3 t92_9 w.drew) fun t93_9 =>
  wpB (ldv Tryz.prog 3 t98_9 w.drew) fun t99_9 =>
  wpB (ldv Tryz.prog 3 t101_9 w.drew) fun t102_9 =>
  CallR Tryz.prog 24 [x1, t99_9] w.drew fun t100_9 w =>
  wpB (ldv Tryz.prog 3 t90_9 w) fun t91_9 =>
  wpB (pureRun Tryz.prog (Instr.build 25 #[(0, t91_9), (1, t93_9), (2, t100_9), (4, t102_9)])) fun t103_9 =>
  effv Tryz.prog (Instr.alloc 25 true (.tuple #[])) w fun t14_9 w =>
  effu Tryz.prog (Instr.storeAt 25 t14_9 t103_9) w fun w =>
  P14_1 x0 x1 x2 x9 x10 t14_9 w Q)) ∧
  ((wpB (pureRun Tryz.prog (Instr.fieldAt 25 x9 0)) fun t90_10 =>
  wpB (pureRun Tryz.prog (Instr.fieldAt 25 x9 1)) fun t92_10 =>
  wpB (nilv x0) fun t96_10 =>
  wpB (pureRun Tryz.prog (Instr.fieldAt 46 t96_10 0)) fun t97_10 =>
  wpB (pureRun Tryz.prog (Instr.fieldAt 33 t97_10 1)) fun t98_10 =>
  wpB (pureRun Tryz.prog (Instr.fieldAt 39 x8 3)) fun t101_10 =>
  wpB (ldv Tryz.prog 3 t92_10 w.drew) fun t93_10 =>
  wpB (ldv Tryz.prog 3 t98_10 w.drew) fun t99_10 =>
  effv Tryz.prog (Instr.alloc 25 true (.tuple #[])) w.drew fun t14_10 w =>
  CallR Tryz.prog 24 [x1, t99_10] w fun t100_10 w =>
  wpB (ldv Tryz.prog 3 t90_10 w) fun t91_10 =>
  wpB (ldv Tryz.prog 3 t101_10 w) fun t102_10 =>
  wpB (pureRun Tryz.prog (Instr.build 25 #[(0, t91_10), (1, t93_10), (2, t100_10), (4, t102_10)])) fun t103_10 =>
  effu Tryz.prog (Instr.storeAt 25 t14_10 t103_10) w fun w =>
  P14_1 x0 x1 x2 x9 x10 t14_10 w Q) ∧
  (wpB (pureRun Tryz.prog (Instr.fieldAt 25 x9 0)) fun t90_11 =>
  wpB (pureRun Tryz.prog (Instr.fieldAt 25 x9 1)) fun t92_11 =>
  wpB (nilv x0) fun t96_11 =>
  wpB (pureRun Tryz.prog (Instr.fieldAt 46 t96_11 0)) fun t97_11 =>
  wpB (pureRun Tryz.prog (Instr.fieldAt 33 t97_11 1)) fun t98_11 =>
  wpB (pureRun Tryz.prog (Instr.fieldAt 39 x8 3)) fun t101_11 =>
  wpB (ldv Tryz.prog 3 t92_11 w.drew) fun t93_11 =>
  wpB (ldv Tryz.prog 3 t98_11 w.drew) fun t99_11 =>
  CallR Tryz.prog 24 [x1, t99_11] w.drew fun t100_11 w =>
  wpB (ldv Tryz.prog 3 t90_11 w) fun t91_11 =>
  wpB (ldv Tryz.prog 3 t101_11 w) fun t102_11 =>
  wpB (pureRun Tryz.prog (Instr.build 25 #[(0, t91_11), (1, t93_11), (2, t100_11), (4, t102_11)])) fun t103_11 =>
  effv Tryz.prog (Instr.alloc 25 true (.tuple #[])) w fun t14_11 w =>
  effu Tryz.prog (Instr.storeAt 25 t14_11 t103_11) w fun w =>
  P14_1 x0 x1 x2 x9 x10 t14_11 w Q))) ∧
  (((wpB (pureRun Tryz.prog (Instr.fieldAt 25 x9 0)) fun t90_12 =>
  wpB (pureRun Tryz.prog (Instr.fieldAt 25 x9 1)) fun t92_12 =>
  wpB (nilv x0) fun t96_12 =>
  wpB (pureRun Tryz.prog (Instr.fieldAt 46 t96_12 0)) fun t97_12 =>
  wpB (pureRun Tryz.prog (Instr.fieldAt 33 t97_12 1)) fun t98_12 =>
  wpB (pureRun Tryz.prog (Instr.fieldAt 39 x8 3)) fun t101_12 =>
  wpB (ldv Tryz.prog 3 t98_12 w.drew) fun t99_12 =>
  wpB (ldv Tryz.prog 3 t101_12 w.drew) fun t102_12 =>
  effv Tryz.prog (Instr.alloc 25 true (.tuple #[])) w.drew fun t14_12 w =>
  CallR Tryz.prog 24 [x1, t99_12] w fun t100_12 w =>
  wpB (ldv Tryz.prog 3 t90_12 w) fun t91_12 =>
  wpB (ldv Tryz.prog 3 t92_12 w) fun t93_12 =>
  wpB (pureRun Tryz.prog (Instr.build 25 #[(0, t91_12), (1, t93_12), (2, t100_12), (4, t102_12)])) fun t103_12 =>
  effu Tryz.prog (Instr.storeAt 25 t14_12 t103_12) w fun w =>
  P14_1 x0 x1 x2 x9 x10 t14_12 w Q) ∧
  (wpB (pureRun Tryz.prog (Instr.fieldAt 25 x9 0)) fun t90_13 =>
  wpB (pureRun Tryz.prog (Instr.fieldAt 25 x9 1)) fun t92_13 =>
  wpB (nilv x0) fun t96_13 =>
  wpB (pureRun Tryz.prog (Instr.fieldAt 46 t96_13 0)) fun t97_13 =>
  wpB (pureRun Tryz.prog (Instr.fieldAt 33 t97_13 1)) fun t98_13 =>
  wpB (pureRun Tryz.prog (Instr.fieldAt 39 x8 3)) fun t101_13 =>
  wpB (ldv Tryz.prog 3 t98_13 w.drew) fun t99_13 =>
  wpB (ldv Tryz.prog 3 t101_13 w.drew) fun t102_13 =>
  CallR Tryz.prog 24 [x1, t99_13] w.drew fun t100_13 w =>
  wpB (ldv Tryz.prog 3 t90_13 w) fun t91_13 =>
  wpB (ldv Tryz.prog 3 t92_13 w) fun t93_13 =>
  wpB (pureRun Tryz.prog (Instr.build 25 #[(0, t91_13), (1, t93_13), (2, t100_13), (4, t102_13)])) fun t103_13 =>
  effv Tryz.prog (Instr.alloc 25 true (.tuple #[])) w fun t14_13 w =>
  effu Tryz.prog (Instr.storeAt 25 t14_13 t103_13) w fun w =>
  P14_1 x0 x1 x2 x9 x10 t14_13 w Q)) ∧
  ((wpB (pureRun Tryz.prog (Instr.fieldAt 25 x9 0)) fun t90_14 =>
  wpB (pureRun Tryz.prog (Instr.fieldAt 25 x9 1)) fun t92_14 =>
  wpB (nilv x0) fun t96_14 =>
  wpB (pureRun Tryz.prog (Instr.fieldAt 46 t96_14 0)) fun t97_14 =>
  wpB (pureRun Tryz.prog (Instr.fieldAt 33 t97_14 1)) fun t98_14 =>
  wpB (pureRun Tryz.prog (Instr.fieldAt 39 x8 3)) fun t101_14 =>
  wpB (ldv Tryz.prog 3 t98_14 w.drew) fun t99_14 =>
  effv Tryz.prog (Instr.alloc 25 true (.tuple #[])) w.drew fun t14_14 w =>
  CallR Tryz.prog 24 [x1, t99_14] w fun t100_14 w =>
  wpB (ldv Tryz.prog 3 t90_14 w) fun t91_14 =>
  wpB (ldv Tryz.prog 3 t92_14 w) fun t93_14 =>
  wpB (ldv Tryz.prog 3 t101_14 w) fun t102_14 =>
  wpB (pureRun Tryz.prog (Instr.build 25 #[(0, t91_14), (1, t93_14), (2, t100_14), (4, t102_14)])) fun t103_14 =>
  effu Tryz.prog (Instr.storeAt 25 t14_14 t103_14) w fun w =>
  P14_1 x0 x1 x2 x9 x10 t14_14 w Q) ∧
  (wpB (pureRun Tryz.prog (Instr.fieldAt 25 x9 0)) fun t90_15 =>
  wpB (pureRun Tryz.prog (Instr.fieldAt 25 x9 1)) fun t92_15 =>
  wpB (nilv x0) fun t96_15 =>
  wpB (pureRun Tryz.prog (Instr.fieldAt 46 t96_15 0)) fun t97_15 =>
  wpB (pureRun Tryz.prog (Instr.fieldAt 33 t97_15 1)) fun t98_15 =>
  wpB (pureRun Tryz.prog (Instr.fieldAt 39 x8 3)) fun t101_15 =>
  wpB (ldv Tryz.prog 3 t98_15 w.drew) fun t99_15 =>
  CallR Tryz.prog 24 [x1, t99_15] w.drew fun t100_15 w =>
  wpB (ldv Tryz.prog 3 t90_15 w) fun t91_15 =>
  wpB (ldv Tryz.prog 3 t92_15 w) fun t93_15 =>
  wpB (ldv Tryz.prog 3 t101_15 w) fun t102_15 =>
  wpB (pureRun Tryz.prog (Instr.build 25 #[(0, t91_15), (1, t93_15), (2, t100_15), (4, t102_15)])) fun t103_15 =>
  effv Tryz.prog (Instr.alloc 25 true (.tuple #[])) w fun t14_15 w =>
  effu Tryz.prog (Instr.storeAt 25 t14_15 t103_15) w fun w =>
  P14_1 x0 x1 x2 x9 x10 t14_15 w Q))))))
def L14_1 (x0 x1 x2 x9 x10 x14 : Value) (w : World) (Q : Value → World → Prop) : Prop :=
  wpB (nilv x0) fun t105 =>
  wpB (pureRun Tryz.prog (Instr.fieldAt 46 t105 2)) fun t106 =>
  wpB (ldv Tryz.prog 43 t106 w.drew) fun t107 =>
  wpB (pureRun Tryz.prog (Instr.fieldAt 25 x9 0)) fun t108 =>
  wpB (ldv Tryz.prog 3 t108 w.drew) fun t109 =>
  CallR Tryz.prog 52 [t107, t109] w.drew fun t110 w =>
  wpB (pureRun Tryz.prog (Builtin.len_ #[44] 3 #[t110])) fun t112 =>
  wpB (bp Tryz.prog .gtr 3 t112 (.int .i64 0)) fun t113 =>
  gE t113 true (CallR Tryz.prog 24 [(gv t113 true x1), (.int .i64 3)] w) (fun t116 w =>
  wpB (gd t113 true (bp Tryz.prog .gtr 3 t116 (.int .i64 0))) fun t117 =>
  wpB (pickv t113 (some t117) (some (.bool false))) fun t118 =>
  cnd t118
  (wpB (pureRun Tryz.prog (Builtin.len_ #[44] 3 #[t110])) fun t121 =>
  wpB (bp Tryz.prog .sub 3 t121 (.int .i64 1)) fun t122 =>
  wpB (pureRun Tryz.prog (Instr.indexAt 44 t110 t122)) fun t123 =>
  wpB (pureRun Tryz.prog (Instr.fieldAt 25 t123 2)) fun t124 =>
  wpB (ldv Tryz.prog 3 t124 w) fun t125 =>
  wpB (pureRun Tryz.prog (Instr.fieldAt 25 x14 2)) fun t126 =>
  effu Tryz.prog (Instr.storeAt 3 t126 t125) w fun w =>
  (wpB (nilv x0) fun t129 =>
  wpB (pureRun Tryz.prog (Instr.fieldAt 46 t129 2)) fun t130 =>
  wpB (pureRun Tryz.prog (Instr.build 39 #[(0, (.int .i64 12))])) fun t133 =>
  wpB (pureRun Tryz.prog (Instr.fieldAt 25 x9 0)) fun t134 =>
  wpB (pureRun Tryz.prog (Instr.fieldAt 25 x9 1)) fun t136 =>
  wpB (ldv Tryz.prog 43 t130 w.drew) fun t131 =>
  wpB (ldv Tryz.prog 3 t134 w.drew) fun t135 =>
  wpB (ldv Tryz.prog 3 t136 w.drew) fun t137 =>
  wpB (pureRun Tryz.prog (Instr.build 25 #[(0, t135), (1, t137)])) fun t138 =>
  effv Tryz.prog (Instr.alloc 28 true (.tuple #[])) w.drew fun t16 w =>
  CallR Tryz.prog 50 [t131, x2, t133, t138] w fun t139 w =>
  wpB (pureRun Tryz.prog (Instr.extract t139 0)) fun t140 =>
  wpB (pureRun Tryz.prog (Instr.extract t139 1)) fun t141 =>
  effu Tryz.prog (Instr.storeAt 28 t16 t140) w fun w =>
  P14_2 x1 x10 x14 t16 w Q) ∧
  (wpB (nilv x0) fun t129_1 =>
  wpB (pureRun Tryz.prog (Instr.fieldAt 46 t129_1 2)) fun t130_1 =>
  wpB (ldv Tryz.prog 43 t130_1 w.drew) fun t131_1 =>
  wpB (pureRun Tryz.prog (Instr.build 39 #[(0, (.int .i64 12))])) fun t133_1 =>
  wpB (pureRun Tryz.prog (Instr.fieldAt 25 x9 0)) fun t134_1 =>
  wpB (ldv Tryz.prog 3 t134_1 w.drew) fun t135_1 =>
  wpB (pureRun Tryz.prog (Instr.fieldAt 25 x9 1)) fun t136_1 =>
  wpB (ldv Tryz.prog 3 t136_1 w.drew) fun t137_1 =>
  wpB (pureRun Tryz.prog (Instr.build 25 #[(0, t135_1), (1, t137_1)])) fun t138_1 =>
  CallR Tryz.prog 50 [t131_1, x2, t133_1, t138_1] w.drew fun t139_1 w =>
  wpB (pureRun Tryz.prog (Instr.extract t139_1 0)) fun t140_1 =>
  wpB (pureRun Tryz.prog (Instr.extract t139_1 1)) fun t141_1 =>
  effv Tryz.prog (Instr.alloc 28 true (.tuple #[])) w fun t16_1 w =>
  effu Tryz.prog (Instr.storeAt 28 t16_1 t140_1) w fun w =>
  P14_2 x1 x10 x14 t16_1 w Q))
  (P14_3 x1 x10 x14 w Q)) w
def L14_2 (x1 x10 x14 x16 : Value) (w : World) (Q : Value → World → Prop) : Prop :=
  wpB (pureRun Tryz.prog (Instr.fieldAt 28 x16 2)) fun t142 =>
  wpB (ldv Tryz.prog 3 t142 w) fun t143 =>
  wpB (pureRun Tryz.prog (Instr.fieldAt 25 x14 3)) fun t144 =>
  effu Tryz.prog (Instr.storeAt 3 t144 t143) w fun w =>
  P14_3 x1 x10 x14 w Q
def L14_3 (x1 x10 x14 : Value) (w : World) (Q : Value → World → Prop) : Prop :=
  CallR Tryz.prog 24 [x1, (.int .i64 8)] w fun t146 w =>
  wpB (be Tryz.prog .eql 3 (.tmp 146) (.const (.int .i64 0)) t146 (.int .i64 0)) fun t147 =>
  cnd t147
  (wpB (pureRun Tryz.prog (Instr.build 28 #[(0, (.int .i64 6))])) fun t148 =>
  effu Tryz.prog (Instr.storeAt 28 x10 t148) w fun w =>
  wpB (ldv Tryz.prog 28 x10 w) fun r10 => Q r10 w)
  (wpB (ldv Tryz.prog 25 x14 w) fun t149 =>
  wpB (pureRun Tryz.prog (Instr.build 28 #[(1, t149)])) fun t150 =>
  effu Tryz.prog (Instr.storeAt 28 x10 t150) w fun w =>
  wpB (ldv Tryz.prog 28 x10 w) fun r10_1 => Q r10_1 w)
theorem F14_ok {a0 a1 a2 a3 a4 : Value} {w : World} {Q : Value → World → Prop} (h : F14 a0 a1 a2 a3 a4 w Q) : CallR Tryz.prog 14 [a0, a1, a2, a3, a4] w Q :=
  ah mixed ag Tryz.func14 (c := C14) rfl H14 (Nat.le_of_ble_eq_true rfl) (by kernel_rfl) h
theorem L14_0_ok {x0 x1 x2 x8 x9 x10 x11 x12 : Value} {w : World} {Q : Value → World → Prop} (h : L14_0 x0 x1 x2 x8 x9 x10 x11 x12 w Q) : P14_0 x0 x1 x2 x8 x9 x10 x11 x12 w Q :=
  ar mixed ag Tryz.func14 H14 (by kernel_rfl) h
theorem L14_1_ok {x0 x1 x2 x9 x10 x14 : Value} {w : World} {Q : Value → World → Prop} (h : L14_1 x0 x1 x2 x9 x10 x14 w Q) : P14_1 x0 x1 x2 x9 x10 x14 w Q :=
  ar mixed ag Tryz.func14 H14 (by kernel_rfl) h
theorem L14_2_ok {x1 x10 x14 x16 : Value} {w : World} {Q : Value → World → Prop} (h : L14_2 x1 x10 x14 x16 w Q) : P14_2 x1 x10 x14 x16 w Q :=
  ar mixed ag Tryz.func14 H14 (by kernel_rfl) h
theorem L14_3_ok {x1 x10 x14 : Value} {w : World} {Q : Value → World → Prop} (h : L14_3 x1 x10 x14 w Q) : P14_3 x1 x10 x14 w Q :=
  ar mixed ag Tryz.func14 H14 (by kernel_rfl) h

noncomputable def C15 : Code := (Tryz.f15.body).getD .skip
noncomputable def H15 : Hints := ⟨[], [(9, [])], []⟩
noncomputable def T15_0 : List It := [.jn (nav [1, 1, 1, 0, 4, 1, 2, 1, 1] C15), .blk 0, .jn (nav [1, 1, 1, 1] C15)]
def P15_0 (w : World) (Q : Value → World → Prop) : Prop := Part Tryz.prog 15 T15_0 [] [] w Q
def F15 (a0 a1 a2 a3 a4 : Value) (w : World) (Q : Value → World → Prop) : Prop :=
  effv Tryz.prog (Instr.box 39 a2) w fun t7 w =>
  effv Tryz.prog (Instr.box 25 a3) w fun t8 w =>
  effv Tryz.prog (Instr.box 28 a4) w fun t9 w =>
  wpB (ldv Tryz.prog 39 t7 w) fun t13 =>
  CallR Tryz.prog 9 [t13] w fun t14 w =>
  wpB (pureRun Tryz.prog (Op.unary .not t14)) fun t15 =>
  wpB (gd t15 false (bp Tryz.prog .lss 3 (gv t15 false a1) (.int .i64 0))) fun t18 =>
  wpB (pickv t15 (some (.bool true)) (some t18)) fun t19 =>
  wpB (gd t19 false (nilv (gv t19 false a0))) fun t23 =>
  wpB (gd t19 false (pureRun Tryz.prog (Instr.fieldAt 108 t23 0))) fun t24 =>
  wpB (gd t19 false (pureRun Tryz.prog (Instr.fieldAt 33 t24 0))) fun t25 =>
  wpB (gd t19 false (ldv Tryz.prog 3 t25 w)) fun t26 =>
  wpB (gd t19 false (bp Tryz.prog .geq 3 (gv t19 false a1) t26)) fun t27 =>
  wpB (pickv t19 (some (.bool true)) (some t27)) fun t28 =>
  cnd t28
  (Q (.bool false) w)
  (wpB (ldv Tryz.prog 39 t7 w) fun t32 =>
  wpB (ldv Tryz.prog 25 t8 w) fun t33 =>
  CallR Tryz.prog 50 [a0, a1, t32, t33] w fun t34 w =>
  wpB (pureRun Tryz.prog (Instr.extract t34 0)) fun t35 =>
  wpB (pureRun Tryz.prog (Instr.extract t34 1)) fun t36 =>
  effv Tryz.prog (Instr.alloc 28 true (.tuple #[])) w fun t11 w =>
  effu Tryz.prog (Instr.storeAt 28 t11 t35) w fun w =>
  cnd t36
  (wpB (ldv Tryz.prog 28 t9 w) fun t39 =>
  wpB (ldv Tryz.prog 28 t11 w) fun t40 =>
  wpB (be Tryz.prog .neq 28 (.tmp 39) (.tmp 40) t39 t40) fun t41 =>
  cnd t41
  (Q (.bool false) w)
  (wpB (pureRun Tryz.prog (Instr.fieldAt 28 t9 0)) fun t42 =>
  wpB (ldv Tryz.prog 23 t42 w) fun t43 =>
  wpB (be Tryz.prog .eql 23 (.tmp 43) (.const (.int .i64 0)) t43 (.int .i64 0)) fun t44 =>
  cnd t44
  (wpB (ldv Tryz.prog 39 t7 w) fun t47 =>
  wpB (ldv Tryz.prog 25 t8 w) fun t48 =>
  CallR Tryz.prog 53 [a0, a1, t47, t48] w fun t49 w =>
  P15_0 w Q)
  (P15_0 w Q)))
  (wpB (pureRun Tryz.prog (Instr.fieldAt 39 t7 0)) fun t51 =>
  wpB (ldv Tryz.prog 3 t51 w) fun t52 =>
  wpB (be Tryz.prog .eql 3 (.tmp 52) (.const (.int .i64 1)) t52 (.int .i64 1)) fun t53 =>
  cnd t53
  (wpB (ldv Tryz.prog 39 t7 w) fun t55 =>
  wpB (ldv Tryz.prog 28 t9 w) fun t56 =>
  CallR Tryz.prog 54 [a0, t55, t56] w fun t57 w =>
  Q t57 w)
  (wpB (ldv Tryz.prog 39 t7 w) fun t59 =>
  wpB (ldv Tryz.prog 25 t8 w) fun t60 =>
  wpB (ldv Tryz.prog 28 t9 w) fun t61 =>
  CallR Tryz.prog 55 [a0, t59, t60, t61] w fun t62 w =>
  Q t62 w)))
def L15_0 (w : World) (Q : Value → World → Prop) : Prop :=
  Q (.bool true) w
theorem F15_ok {a0 a1 a2 a3 a4 : Value} {w : World} {Q : Value → World → Prop} (h : F15 a0 a1 a2 a3 a4 w Q) : CallR Tryz.prog 15 [a0, a1, a2, a3, a4] w Q :=
  ah mixed ag Tryz.func15 (c := C15) rfl H15 (Nat.le_of_ble_eq_true rfl) (by kernel_rfl) h
theorem L15_0_ok {w : World} {Q : Value → World → Prop} (h : L15_0  w Q) : P15_0  w Q :=
  ar mixed ag Tryz.func15 H15 (by kernel_rfl) h

noncomputable def C22 : Code := (Tryz.f22.body).getD .skip
noncomputable def H22 : Hints := ⟨[], [], [(1, (.ask 4 7 (.ask 4 10 (.ask 4 13 (.ask 7 10 (.ask 7 13 (.ask 10 13 (.leaf [1, 2, 5, 8, 11, 0, 3, 6, 9, 12, 4, 7, 10, 13, 14, 15, 16]) (.leaf [1, 2, 5, 8, 11, 0, 3, 6, 9, 12, 4, 7, 13, 10, 14, 15, 16])) (.leaf [1, 2, 5, 8, 11, 0, 3, 6, 9, 12, 4, 13, 7, 10, 14, 15, 16])) (.ask 10 13 (.ask 7 13 (.leaf [1, 2, 5, 8, 11, 0, 3, 6, 9, 12, 4, 10, 7, 13, 14, 15, 16]) (.leaf [1, 2, 5, 8, 11, 0, 3, 6, 9, 12, 4, 10, 13, 7, 14, 15, 16])) (.leaf [1, 2, 5, 8, 11, 0, 3, 6, 9, 12, 4, 13, 10, 7, 14, 15, 16]))) (.ask 7 10 (.leaf [1, 2, 5, 8, 11, 0, 3, 6, 9, 12, 13, 4, 7, 10, 14, 15, 16]) (.leaf [1, 2, 5, 8, 11, 0, 3, 6, 9, 12, 13, 4, 10, 7, 14, 15, 16]))) (.ask 10 13 (.ask 4 13 (.ask 7 13 (.leaf [1, 2, 5, 8, 11, 0, 3, 6, 9, 12, 10, 4, 7, 13, 14, 15, 16]) (.leaf [1, 2, 5, 8, 11, 0, 3, 6, 9, 12, 10, 4, 13, 7, 14, 15, 16])) (.leaf [1, 2, 5, 8, 11, 0, 3, 6, 9, 12, 10, 13, 4, 7, 14, 15, 16])) (.leaf [1, 2, 5, 8, 11, 0, 3, 6, 9, 12, 13, 10, 4, 7, 14, 15, 16]))) (.ask 7 10 (.ask 7 13 (.ask 4 10 (.ask 4 13 (.ask 10 13 (.leaf [1, 2, 5, 8, 11, 0, 3, 6, 9, 12, 7, 4, 10, 13, 14, 15, 16]) (.leaf [1, 2, 5, 8, 11, 0, 3, 6, 9, 12, 7, 4, 13, 10, 14, 15, 16])) (.leaf [1, 2, 5, 8, 11, 0, 3, 6, 9, 12, 7, 13, 4, 10, 14, 15, 16])) (.ask 10 13 (.ask 4 13 (.leaf [1, 2, 5, 8, 11, 0, 3, 6, 9, 12, 7, 10, 4, 13, 14, 15, 16]) (.leaf [1, 2, 5, 8, 11, 0, 3, 6, 9, 12, 7, 10, 13, 4, 14, 15, 16])) (.leaf [1, 2, 5, 8, 11, 0, 3, 6, 9, 12, 7, 13, 10, 4, 14, 15, 16]))) (.ask 4 10 (.leaf [1, 2, 5, 8, 11, 0, 3, 6, 9, 12, 13, 7, 4, 10, 14, 15, 16]) (.leaf [1, 2, 5, 8, 11, 0, 3, 6, 9, 12, 13, 7, 10, 4, 14, 15, 16]))) (.ask 10 13 (.ask 7 13 (.ask 4 13 (.leaf [1, 2, 5, 8, 11, 0, 3, 6, 9, 12, 10, 7, 4, 13, 14, 15, 16]) (.leaf [1, 2, 5, 8, 11, 0, 3, 6, 9, 12, 10, 7, 13, 4, 14, 15, 16])) (.leaf [1, 2, 5, 8, 11, 0, 3, 6, 9, 12, 10, 13, 7, 4, 14, 15, 16])) (.leaf [1, 2, 5, 8, 11, 0, 3, 6, 9, 12, 13, 10, 7, 4, 14, 15, 16])))))]⟩
def F22 (a0 a1 : Value) (w : World) (Q : Value → World → Prop) : Prop :=
  effv Tryz.prog (Instr.box 33 a0) w fun t2 w =>
  ((((((wpB (pureRun Tryz.prog (Instr.fieldAt 33 t2 3)) fun t7 =>
  wpB (pureRun Tryz.prog (Instr.fieldAt 33 t2 3)) fun t10 =>
  wpB (pureRun Tryz.prog (Instr.fieldAt 33 t2 0)) fun t13 =>
  wpB (pureRun Tryz.prog (Instr.fieldAt 33 t2 0)) fun t16 =>
  wpB (ldv Tryz.prog 33 t2 w.drew) fun t5 =>
  wpB (ldv Tryz.prog 3 t7 w.drew) fun t8 =>
  wpB (ldv Tryz.prog 3 t10 w.drew) fun t11 =>
  wpB (ldv Tryz.prog 3 t13 w.drew) fun t14 =>
  wpB (ldv Tryz.prog 3 t16 w.drew) fun t17 =>
  effv Tryz.prog (Instr.makeSlice 22 t8 t8) w.drew fun t9 w =>
  effv Tryz.prog (Instr.makeSlice 22 t11 t11) w fun t12 w =>
  effv Tryz.prog (Instr.makeSlice 22 t14 t14) w fun t15 w =>
  effv Tryz.prog (Instr.makeSlice 106 t17 t17) w fun t18 w =>
  wpB (pureRun Tryz.prog (Instr.build 108 #[(0, t5), (1, a1), (2, t9), (3, t12), (5, t15), (6, t18)])) fun t19 =>
  effv Tryz.prog (Instr.box 108 t19) w fun t20 w =>
  Q t20 w) ∧
  (wpB (pureRun Tryz.prog (Instr.fieldAt 33 t2 3)) fun t7_1 =>
  wpB (pureRun Tryz.prog (Instr.fieldAt 33 t2 3)) fun t10_1 =>
  wpB (pureRun Tryz.prog (Instr.fieldAt 33 t2 0)) fun t13_1 =>
  wpB (pureRun Tryz.prog (Instr.fieldAt 33 t2 0)) fun t16_1 =>
  wpB (ldv Tryz.prog 33 t2 w.drew) fun t5_1 =>
  wpB (ldv Tryz.prog 3 t7_1 w.drew) fun t8_1 =>
  wpB (ldv Tryz.prog 3 t10_1 w.drew) fun t11_1 =>
  wpB (ldv Tryz.prog 3 t13_1 w.drew) fun t14_1 =>
  wpB (ldv Tryz.prog 3 t16_1 w.drew) fun t17_1 =>
  effv Tryz.prog (Instr.makeSlice 22 t8_1 t8_1) w.drew fun t9_1 w =>
  effv Tryz.prog (Instr.makeSlice 22 t11_1 t11_1) w fun t12_1 w =>
  effv Tryz.prog (Instr.makeSlice 106 t17_1 t17_1) w fun t18_1 w =>
  effv Tryz.prog (Instr.makeSlice 22 t14_1 t14_1) w fun t15_1 w =>
  wpB (pureRun Tryz.prog (Instr.build 108 #[(0, t5_1), (1, a1), (2, t9_1), (3, t12_1), (5, t15_1), (6, t18_1)])) fun t19_1 =>
  effv Tryz.prog (Instr.box 108 t19_1) w fun t20_1 w =>
  Q t20_1 w)) ∧
  (wpB (pureRun Tryz.prog (Instr.fieldAt 33 t2 3)) fun t7_2 =>
  wpB (pureRun Tryz.prog (Instr.fieldAt 33 t2 3)) fun t10_2 =>
  wpB (pureRun Tryz.prog (Instr.fieldAt 33 t2 0)) fun t13_2 =>
  wpB (pureRun Tryz.prog (Instr.fieldAt 33 t2 0)) fun t16_2 =>
  wpB (ldv Tryz.prog 33 t2 w.drew) fun t5_2 =>
  wpB (ldv Tryz.prog 3 t7_2 w.drew) fun t8_2 =>
  wpB (ldv Tryz.prog 3 t10_2 w.drew) fun t11_2 =>
  wpB (ldv Tryz.prog 3 t13_2 w.drew) fun t14_2 =>
  wpB (ldv Tryz.prog 3 t16_2 w.drew) fun t17_2 =>
  effv Tryz.prog (Instr.makeSlice 22 t8_2 t8_2) w.drew fun t9_2 w =>
  effv Tryz.prog (Instr.makeSlice 106 t17_2 t17_2) w fun t18_2 w =>
  effv Tryz.prog (Instr.makeSlice 22 t11_2 t11_2) w fun t12_2 w =>
  effv Tryz.prog (Instr.makeSlice 22 t14_2 t14_2) w fun t15_2 w =>
  wpB (pureRun Tryz.prog (Instr.build 108 #[(0, t5_2), (1, a1), (2, t9_2), (3, t12_2), (5, t15_2), (6, t18_2)])) fun t19_2 =>
  effv Tryz.prog (Instr.box 108 t19_2) w fun t20_2 w =>
  Q t20_2 w)) ∧
  (((wpB (pureRun Tryz.prog (Instr.fieldAt 33 t2 3)) fun t7_3 =>
  wpB (pureRun Tryz.prog (Instr.fieldAt 33 t2 3)) fun t10_3 =>
  wpB (pureRun Tryz.prog (Instr.fieldAt 33 t2 0)) fun t13_3 =>
  wpB (pureRun Tryz.prog (Instr.fieldAt 33 t2 0)) fun t16_3 =>
  wpB (ldv Tryz.prog 33 t2 w.drew) fun t5_3 =>
  wpB (ldv Tryz.prog 3 t7_3 w.drew) fun t8_3 =>
  wpB (ldv Tryz.prog 3 t10_3 w.drew) fun t11_3 =>
  wpB (ldv Tryz.prog 3 t13_3 w.drew) fun t14_3 =>
  wpB (ldv Tryz.prog 3 t16_3 w.drew) fun t17_3 =>
  effv Tryz.prog (Instr.makeSlice 22 t8_3 t8_3) w.drew fun t9_3 w =>
  effv Tryz.prog (Instr.makeSlice 22 t14_3 t14_3) w fun t15_3 w =>
  effv Tryz.prog (Instr.makeSlice 22 t11_3 t11_3) w fun t12_3 w =>
  effv Tryz.prog (Instr.makeSlice 106 t17_3 t17_3) w fun t18_3 w =>
  wpB (pureRun Tryz.prog (Instr.build 108 #[(0, t5_3), (1, a1), (2, t9_3), (3, t12_3), (5, t15_3), (6, t18_3)])) fun t19_3 =>
  effv Tryz.prog (Instr.box 108 t19_3) w fun t20_3 w =>
  Q t20_3 w) ∧
  (wpB (pureRun Tryz.prog (Instr.fieldAt 33 t2 3)) fun t7_4 =>
  wpB (pureRun Tryz.prog (Instr.fieldAt 33 t2 3)) fun t10_4 =>
  wpB (pureRun Tryz.prog (Instr.fieldAt 33 t2 0)) fun t13_4 =>
  wpB (pureRun Tryz.prog (Instr.fieldAt 33 t2 0)) fun t16_4 =>
  wpB (ldv Tryz.prog 33 t2 w.drew) fun t5_4 =>
  wpB (ldv Tryz.prog 3 t7_4 w.drew) fun t8_4 =>
  wpB (ldv Tryz.prog 3 t10_4 w.drew) fun t11_4 =>
  wpB (ldv Tryz.prog 3 t13_4 w.drew) fun t14_4 =>
  wpB (ldv Tryz.prog 3 t16_4 w.drew) fun t17_4 =>
  effv Tryz.prog (Instr.makeSlice 22 t8_4 t8_4) w.drew fun t9_4 w =>
  effv Tryz.prog (Instr.makeSlice 22 t14_4 t14_4) w fun t15_4 w =>
  effv Tryz.prog (Instr.makeSlice 106 t17_4 t17_4) w fun t18_4 w =>
  effv Tryz.prog (Instr.makeSlice 22 t11_4 t11_4) w fun t12_4 w =>
  wpB (pureRun Tryz.prog (Instr.build 108 #[(0, t5_4), (1, a1), (2, t9_4), (3, t12_4), (5, t15_4), (6, t18_4)])) fun t19_4 =>
  effv Tryz.prog (Instr.box 108 t19_4) w fun t20_4 w =>
  Q t20_4 w)) ∧
  (wpB (pureRun Tryz.prog (Instr.fieldAt 33 t2 3)) fun t7_5 =>
  wpB (pureRun Tryz.prog (Instr.fieldAt 33 t2 3)) fun t10_5 =>
  wpB (pureRun Tryz.prog (Instr.fieldAt 33 t2 0)) fun t13_5 =>
  wpB (pureRun Tryz.prog (Instr.fieldAt 33 t2 0)) fun t16_5 =>
  wpB (ldv Tryz.prog 33 t2 w.drew) fun t5_5 =>
  wpB (ldv Tryz.prog 3 t7_5 w.drew) fun t8_5 =>
  wpB (ldv Tryz.prog 3 t10_5 w.drew) fun t11_5 =>
  wpB (ldv Tryz.prog 3 t13_5 w.drew) fun t14_5 =>
  wpB (ldv Tryz.prog 3 t16_5 w.drew) fun t17_5 =>
  effv Tryz.prog (Instr.makeSlice 22 t8_5 t8_5) w.drew fun t9_5 w =>
  effv Tryz.prog (Instr.makeSlice 106 t17_5 t17_5) w fun t18_5 w =>
  effv Tryz.prog (Instr.makeSlice 22 t14_5 t14_5) w fun t15_5 w =>
  effv Tryz.prog (Instr.makeSlice 22 t11_5 t11_5) w fun t12_5 w =>
  wpB (pureRun Tryz.prog (Instr.build 108 #[(0, t5_5), (1, a1), (2, t9_5), (3, t12_5), (5, t15_5), (6, t18_5)])) fun t19_5 =>
  effv Tryz.prog (Instr.box 108 t19_5) w fun t20_5 w =>
  Q t20_5 w))) ∧
  ((wpB (pureRun Tryz.prog (Instr.fieldAt 33 t2 3)) fun t7_6 =>
  wpB (pureRun Tryz.prog (Instr.fieldAt 33 t2 3)) fun t10_6 =>
  wpB (pureRun Tryz.prog (Instr.fieldAt 33 t2 0)) fun t13_6 =>
  wpB (pureRun Tryz.prog (Instr.fieldAt 33 t2 0)) fun t16_6 =>
  wpB (ldv Tryz.prog 33 t2 w.drew) fun t5_6 =>
  wpB (ldv Tryz.prog 3 t7_6 w.drew) fun t8_6 =>
  wpB (ldv Tryz.prog 3 t10_6 w.drew) fun t11_6 =>
  wpB (ldv Tryz.prog 3 t13_6 w.drew) fun t14_6 =>
  wpB (ldv Tryz.prog 3 t16_6 w.drew) fun t17_6 =>
  effv Tryz.prog (Instr.makeSlice 106 t17_6 t17_6) w.drew fun t18_6 w =>
  effv Tryz.prog (Instr.makeSlice 22 t8_6 t8_6) w fun t9_6 w =>
  effv Tryz.prog (Instr.makeSlice 22 t11_6 t11_6) w fun t12_6 w =>
  effv Tryz.prog (Instr.makeSlice 22 t14_6 t14_6) w fun t15_6 w =>
  wpB (pureRun Tryz.prog (Instr.build 108 #[(0, t5_6), (1, a1), (2, t9_6), (3, t12_6), (5, t15_6), (6, t18_6)])) fun t19_6 =>
  effv Tryz.prog (Instr.box 108 t19_6) w fun t20_6 w =>
  Q t20_6 w) ∧
  (wpB (pureRun Tryz.prog (Instr.fieldAt 33 t2 3)) fun t7_7 =>
  wpB (pureRun Tryz.prog (Instr.fieldAt 33 t2 3)) fun t10_7 =>
  wpB (pureRun Tryz.prog (Instr.fieldAt 33 t2 0)) fun t13_7 =>
  wpB (pureRun Tryz.prog (Instr.fieldAt 33 t2 0)) fun t16_7 =>
  wpB (ldv Tryz.prog 33 t2 w.drew) fun t5_7 =>
  wpB (ldv Tryz.prog 3 t7_7 w.drew) fun t8_7 =>
  wpB (ldv Tryz.prog 3 t10_7 w.drew) fun t11_7 =>
  wpB (ldv Tryz.prog 3 t13_7 w.drew) fun t14_7 =>
  wpB (ldv Tryz.prog 3 t16_7 w.drew) fun t17_7 =>
  effv Tryz.prog (Instr.makeSlice 106 t17_7 t17_7) w.drew fun t18_7 w =>
  effv Tryz.prog (Instr.makeSlice 22 t8_7 t8_7) w fun t9_7 w =>
  effv Tryz.prog (Instr.makeSlice 22 t14_7 t14_7) w fun t15_7 w =>
  effv Tryz.prog (Instr.makeSlice 22 t11_7 t11_7) w fun t12_7 w =>
  wpB (pureRun Tryz.prog (Instr.build 108 #[(0, t5_7), (1, a1), (2, t9_7), (3, t12_7), (5, t15_7), (6, t18_7)])) fun t19_7 =>
  effv Tryz.prog (Instr.box 108 t19_7) w fun t20_7 w =>
  Q t20_7 w))) ∧
  ((((wpB (pureRun Tryz.prog (Instr.fieldAt 33 t2 3)) fun t7_8 =>
  wpB (pureRun Tryz.prog (Instr.fieldAt 33 t2 3)) fun t10_8 =>
  wpB (pureRun Tryz.prog (Instr.fieldAt 33 t2 0)) fun t13_8 =>
  wpB (pureRun Tryz.prog (Instr.fieldAt 33 t2 0)) fun t16_8 =>
  wpB (ldv Tryz.prog 33 t2 w.drew) fun t5_8 =>
  wpB (ldv Tryz.prog 3 t7_8 w.drew) fun t8_8 =>
  wpB (ldv Tryz.prog 3 t10_8 w.drew) fun t11_8 =>
  wpB (ldv Tryz.prog 3 t13_8 w.drew) fun t14_8 =>
  wpB (ldv Tryz.prog 3 t16_8 w.drew) fun t17_8 =>
  effv Tryz.prog (Instr.makeSlice 22 t14_8 t14_8) w.drew fun t15_8 w =>
  effv Tryz.prog (Instr.makeSlice 22 t8_8 t8_8) w fun t9_8 w =>
  effv Tryz.prog (Instr.makeSlice 22 t11_8 t11_8) w fun t12_8 w =>
  effv Tryz.prog (Instr.makeSlice 106 t17_8 t17_8) w fun t18_8 w =>
  wpB (pureRun Tryz.prog (Instr.build 108 #[(0, t5_8), (1, a1), (2, t9_8), (3, t12_8), (5, t15_8), (6, t18_8)])) fun t19_8 =>
  effv Tryz.prog (Instr.box 108 t19_8) w fun t20_8 w =>
  Q t20_8 w) ∧
  (wpB (pureRun Tryz.prog (Instr.fieldAt 33 t2 3)) fun t7_9 =>
  wpB (pureRun Tryz.prog (Instr.fieldAt 33 t2 3)) fun t10_9 =>
  wpB (pureRun Tryz.prog (Instr.fieldAt 33 t2 0)) fun t13_9 =>
  wpB (pureRun Tryz.prog (Instr.fieldAt 33 t2 0)) fun t16_9 =>
  wpB (ldv Tryz.prog 33 t2 w.drew) fun t5_9 =>
  wpB (ldv Tryz.prog 3 t7_9 w.drew) fun t8_9 =>
  wpB (ldv Tryz.prog 3 t10_9 w.drew) fun t11_9 =>
  wpB (ldv Tryz.prog 3 t13_9 w.drew) fun t14_9 =>
  wpB (ldv Tryz.prog 3 t16_9 w.drew) fun t17_9 =>
  effv Tryz.prog (Instr.makeSlice 22 t14_9 t14_9) w.drew fun t15_9 w =>
  effv Tryz.prog (Instr.makeSlice 22 t8_9 t8_9) w fun t9_9 w =>
  effv Tryz.prog (Instr.makeSlice 106 t17_9 t17_9) w fun t18_9 w =>
  effv Tryz.prog (Instr.makeSlice 22 t11_9 t11_9) w fun t12_9 w =>
  wpB (pureRun Tryz.prog (Instr.build 108 #[(0, t5_9), (1, a1), (2, t9_9), (3, t12_9), (5, t15_9), (6, t18_9)])) fun t19_9 =>
  effv Tryz.prog (Instr.box 108 t19_9) w fun t20_9 w =>
  Q t20_9 w)) ∧
  (wpB (pureRun Tryz.prog (Instr.fieldAt 33 t2 3)) fun t7_10 =>
  wpB (pureRun Tryz.prog (Instr.fieldAt 33 t2 3)) fun t10_10 =>
  wpB (pureRun Tryz.prog (Instr.fieldAt 33 t2 0)) fun t13_10 =>
  wpB (pureRun Tryz.prog (Instr.fieldAt 33 t2 0)) fun t16_10 =>
  wpB (ldv Tryz.prog 33 t2 w.drew) fun t5_10 =>
  wpB (ldv Tryz.prog 3 t7_10 w.drew) fun t8_10 =>
  wpB (ldv Tryz.prog 3 t10_10 w.drew) fun t11_10 =>
  wpB (ldv Tryz.prog 3 t13_10 w.drew) fun t14_10 =>
  wpB (ldv Tryz.prog 3 t16_10 w.drew) fun t17_10 =>
  effv Tryz.prog (Instr.makeSlice 22 t14_10 t14_10) w.drew fun t15_10 w =>
  effv Tryz.prog (Instr.makeSlice 106 t17_10 t17_10) w fun t18_10 w =>
  effv Tryz.prog (Instr.makeSlice 22 t8_10 t8_10) w fun t9_10 w =>
  effv Tryz.prog (Instr.makeSlice 22 t11_10 t11_10) w fun t12_10 w =>
  wpB (pureRun Tryz.prog (Instr.build 108 #[(0, t5_10), (1, a1), (2, t9_10), (3, t12_10), (5, t15_10), (6, t18_10)])) fun t19_10 =>
  effv Tryz.prog (Instr.box 108 t19_10) w fun t20_10 w =>
  Q t20_10 w)) ∧
  (wpB (pureRun Tryz.prog (Instr.fieldAt 33 t2 3)) fun t7_11 =>
  wpB (pureRun Tryz.prog (Instr.fieldAt 33 t2 3)) fun t10_11 =>
  wpB (pureRun Tryz.prog (Instr.fieldAt 33 t2 0)) fun t13_11 =>
  wpB (pureRun Tryz.prog (Instr.fieldAt 33 t2 0)) fun t16_11 =>
  wpB (ldv Tryz.prog 33 t2 w.drew) fun t5_11 =>
  wpB (ldv Tryz.prog 3 t7_11 w.drew) fun t8_11 =>
  wpB (ldv Tryz.prog 3 t10_11 w.drew) fun t11_11 =>
  wpB (ldv Tryz.prog 3 t13_11 w.drew) fun t14_11 =>
  wpB (ldv Tryz.prog 3 t16_11 w.drew) fun t17_11 =>
  effv Tryz.prog (Instr.makeSlice 106 t17_11 t17_11) w.drew fun t18_11 w =>
  effv Tryz.prog (Instr.makeSlice 22 t14_11 t14_11) w fun t15_11 w =>
  effv Tryz.prog (Instr.makeSlice 22 t8_11 t8_11) w fun t9_11 w =>
  effv Tryz.prog (Instr.makeSlice 22 t11_11 t11_11) w fun t12_11 w =>
  wpB (pureRun Tryz.prog (Instr.build 108 #[(0, t5_11), (1, a1), (2, t9_11), (3, t12_11), (5, t15_11), (6, t18_11)])) fun t19_11 =>
  effv Tryz.prog (Instr.box 108 t19_11) w fun t20_11 w =>
  Q t20_11 w))) ∧
  ((((((wpB (pureRun Tryz.prog (Instr.fieldAt 33 t2 3)) fun t7_12 =>
  wpB (pureRun Tryz.prog (Instr.fieldAt 33 t2 3)) fun t10_12 =>
  wpB (pureRun Tryz.prog (Instr.fieldAt 33 t2 0)) fun t13_12 =>
  wpB (pureRun Tryz.prog (Instr.fieldAt 33 t2 0)) fun t16_12 =>
  wpB (ldv Tryz.prog 33 t2 w.drew) fun t5_12 =>
  wpB (ldv Tryz.prog 3 t7_12 w.drew) fun t8_12 =>
  wpB (ldv Tryz.prog 3 t10_12 w.drew) fun t11_12 =>
  wpB (ldv Tryz.prog 3 t13_12 w.drew) fun t14_12 =>
  wpB (ldv Tryz.prog 3 t16_12 w.drew) fun t17_12 =>
  effv Tryz.prog (Instr.makeSlice 22 t11_12 t11_12) w.drew fun t12_12 w =>
  effv Tryz.prog (Instr.makeSlice 22 t8_12 t8_12) w fun t9_12 w =>
  effv Tryz.prog (Instr.makeSlice 22 t14_12 t14_12) w fun t15_12 w =>
  effv Tryz.prog (Instr.makeSlice 106 t17_12 t17_12) w fun t18_12 w =>
  wpB (pureRun Tryz.prog (Instr.build 108 #[(0, t5_12), (1, a1), (2, t9_12), (3, t12_12), (5, t15_12), (6, t18_12)])) fun t19_12 =>
  effv Tryz.prog (Instr.box 108 t19_12) w fun t20_12 w =>
  Q t20_12 w) ∧
  (wpB (pureRun Tryz.prog (Instr.fieldAt 33 t2 3)) fun t7_13 =>
  wpB (pureRun Tryz.prog (Instr.fieldAt 33 t2 3)) fun t10_13 =>
  wpB (pureRun Tryz.prog (Instr.fieldAt 33 t2 0)) fun t13_13 =>
  wpB (pureRun Tryz.prog (Instr.fieldAt 33 t2 0)) fun t16_13 =>
  wpB (ldv Tryz.prog 33 t2 w.drew) fun t5_13 =>
  wpB (ldv Tryz.prog 3 t7_13 w.drew) fun t8_13 =>
  wpB (ldv Tryz.prog 3 t10_13 w.drew) fun t11_13 =>
  wpB (ldv Tryz.prog 3 t13_13 w.drew) fun t14_13 =>
  wpB (ldv Tryz.prog 3 t16_13 w.drew) fun t17_13 =>
  effv Tryz.prog (Instr.makeSlice 22 t11_13 t11_13) w.drew fun t12_13 w =>
  effv Tryz.prog (Instr.makeSlice 22 t8_13 t8_13) w fun t9_13 w =>
  effv Tryz.prog (Instr.makeSlice 106 t17_13 t17_13) w fun t18_13 w =>
  effv Tryz.prog (Instr.makeSlice 22 t14_13 t14_13) w fun t15_13 w =>
  wpB (pureRun Tryz.prog (Instr.build 108 #[(0, t5_13), (1, a1), (2, t9_13), (3, t12_13), (5, t15_13), (6, t18_13)])) fun t19_13 =>
  effv Tryz.prog (Instr.box 108 t19_13) w fun t20_13 w =>
  Q t20_13 w)) ∧
  (wpB (pureRun Tryz.prog (Instr.fieldAt 33 t2 3)) fun t7_14 =>
  wpB (pureRun Tryz.prog (Instr.fieldAt 33 t2 3)) fun t10_14 =>
  wpB (pureRun Tryz.prog (Instr.fieldAt 33 t2 0)) fun t13_14 =>
  wpB (pureRun Tryz.prog (Instr.fieldAt 33 t2 0)) fun t16_14 =>
  wpB (ldv Tryz.prog 33 t2 w.drew) fun t5_14 =>
  wpB (ldv Tryz.prog 3 t7_14 w.drew) fun t8_14 =>
  wpB (ldv Tryz.prog 3 t10_14 w.drew) fun t11_14 =>
  wpB (ldv Tryz.prog 3 t13_14 w.drew) fun t14_14 =>
  wpB (ldv Tryz.prog 3 t16_14 w.drew) fun t17_14 =>
  effv Tryz.prog (Instr.makeSlice 22 t11_14 t11_14) w.drew fun t12_14 w =>
  effv Tryz.prog (Instr.makeSlice 106 t17_14 t17_14) w fun t18_14 w =>
  effv Tryz.prog (Instr.makeSlice 22 t8_14 t8_14) w fun t9_14 w =>
  effv Tryz.prog (Instr.makeSlice 22 t14_14 t14_14) w fun t15_14 w =>
  wpB (pureRun Tryz.prog (Instr.build 108 #[(0, t5_14), (1, a1), (2, t9_14), (3, t12_14), (5, t15_14), (6, t18_14)])) fun t19_14 =>
  effv Tryz.prog (Instr.box 108 t19_14) w fun t20_14 w =>
  Q t20_14 w)) ∧
  (((wpB (pureRun Tryz.prog (Instr.fieldAt 33 t2 3)) fun t7_15 =>
  wpB (pureRun Tryz.prog (Instr.fieldAt 33 t2 3)) fun t10_15 =>
  wpB (pureRun Tryz.prog (Instr.fieldAt 33 t2 0)) fun t13_15 =>
  wpB (pureRun Tryz.prog (Instr.fieldAt 33 t2 0)) fun t16_15 =>
  wpB (ldv Tryz.prog 33 t2 w.drew) fun t5_15 =>
  wpB (ldv Tryz.prog 3 t7_15 w.drew) fun t8_15 =>
  wpB (ldv Tryz.prog 3 t10_15 w.drew) fun t11_15 =>
  wpB (ldv Tryz.prog 3 t13_15 w.drew) fun t14_15 =>
  wpB (ldv Tryz.prog 3 t16_15 w.drew) fun t17_15 =>
  effv Tryz.prog (Instr.makeSlice 22 t11_15 t11_15) w.drew fun t12_15 w =>
  effv Tryz.prog (Instr.makeSlice 22 t14_15 t14_15) w fun t15_15 w =>
  effv Tryz.prog (Instr.makeSlice 22 t8_15 t8_15) w fun t9_15 w =>
  effv Tryz.prog (Instr.makeSlice 106 t17_15 t17_15) w fun t18_15 w =>
  wpB (pureRun Tryz.prog (Instr.build 108 #[(0, t5_15), (1, a1), (2, t9_15), (3, t12_15), (5, t15_15), (6, t18_15)])) fun t19_15 =>
  effv Tryz.prog (Instr.box 108 t19_15) w fun t20_15 w =>
  Q t20_15 w) ∧
  (wpB (pureRun Tryz.prog (Instr.fieldAt 33 t2 3)) fun t7_16 =>
  wpB (pureRun Tryz.prog (Instr.fieldAt 33 t2 3)) fun t10_16 =>
  wpB (pureRun Tryz.prog (Instr.fieldAt 33 t2 0)) fun t13_16 =>
  wpB (pureRun Tryz.prog (Instr.fieldAt 33 t2 0)) fun t16_16 =>
  wpB (ldv Tryz.prog 33 t2 w.drew) fun t5_16 =>
  wpB (ldv Tryz.prog 3 t7_16 w.drew) fun t8_16 =>
  wpB (ldv Tryz.prog 3 t10_16 w.drew) fun t11_16 =>
  wpB (ldv Tryz.prog 3 t13_16 w.drew) fun t14_16 =>
  wpB (ldv Tryz.prog 3 t16_16 w.drew) fun t17_16 =>
  effv Tryz.prog (Instr.makeSlice 22 t11_16 t11_16) w.drew fun t12_16 w =>
  effv Tryz.prog (Instr.makeSlice 22 t14_16 t14_16) w fun t15_16 w =>
  effv Tryz.prog (Instr.makeSlice 106 t17_16 t17_16) w fun t18_16 w =>
  effv Tryz.prog (Instr.makeSlice 22 t8_16 t8_16) w fun t9_16 w =>
  wpB (pureRun Tryz.prog (Instr.build 108 #[(0, t5_16), (1, a1), (2, t9_16), (3, t12_16), (5, t15_16), (6, t18_16)])) fun t19_16 =>
  effv Tryz.prog (Instr.box 108 t19_16) w fun t20_16 w =>
  Q t20_16 w)) ∧
  (wpB (pureRun Tryz.prog (Instr.fieldAt 33 t2 3)) fun t7_17 =>
  wpB (pureRun Tryz.prog (Instr.fieldAt 33 t2 3)) fun t10_17 =>
  wpB (pureRun Tryz.prog (Instr.fieldAt 33 t2 0)) fun t13_17 =>
  wpB (pureRun Tryz.prog (Instr.fieldAt 33 t2 0)) fun t16_17 =>
  wpB (ldv Tryz.prog 33 t2 w.drew) fun t5_17 =>
  wpB (ldv Tryz.prog 3 t7_17 w.drew) fun t8_17 =>
  wpB (ldv Tryz.prog 3 t10_17 w.drew) fun t11_17 =>
  wpB (ldv Tryz.prog 3 t13_17 w.drew) fun t14_17 =>
  wpB (ldv Tryz.prog 3 t16_17 w.drew) fun t17_17 =>
  effv Tryz.prog (Instr.makeSlice 22 t11_17 t11_17) w.drew fun t12_17 w =>
  effv Tryz.prog (Instr.makeSlice 106 t17_17 t17_17) w fun t18_17 w =>
  effv Tryz.prog (Instr.makeSlice 22 t14_17 t14_17) w fun t15_17 w =>
  effv Tryz.prog (Instr.makeSlice 22 t8_17 t8_17) w fun t9_17 w =>
  wpB (pureRun Tryz.prog (Instr.build 108 #[(0, t5_17), (1, a1), (2, t9_17), (3, t12_17), (5, t15_17), (6, t18_17)])) fun t19_17 =>
  effv Tryz.prog (Instr.box 108 t19_17) w fun t20_17 w =>
  Q t20_17 w))) ∧
  ((wpB (pureRun Tryz.prog (Instr.fieldAt 33 t2 3)) fun t7_18 =>
  wpB (pureRun Tryz.prog (Instr.fieldAt 33 t2 3)) fun t10_18 =>
  wpB (pureRun Tryz.prog (Instr.fieldAt 33 t2 0)) fun t13_18 =>
  wpB (pureRun Tryz.prog (Instr.fieldAt 33 t2 0)) fun t16_18 =>
  wpB (ldv Tryz.prog 33 t2 w.drew) fun t5_18 =>
  wpB (ldv Tryz.prog 3 t7_18 w.drew) fun t8_18 =>
  wpB (ldv Tryz.prog 3 t10_18 w.drew) fun t11_18 =>
  wpB (ldv Tryz.prog 3 t13_18 w.drew) fun t14_18 =>
  wpB (ldv Tryz.prog 3 t16_18 w.drew) fun t17_18 =>
  effv Tryz.prog (Instr.makeSlice 106 t17_18 t17_18) w.drew fun t18_18 w =>
  effv Tryz.prog (Instr.makeSlice 22 t11_18 t11_18) w fun t12_18 w =>
  effv Tryz.prog (Instr.makeSlice 22 t8_18 t8_18) w fun t9_18 w =>
  effv Tryz.prog (Instr.makeSlice 22 t14_18 t14_18) w fun t15_18 w =>
  wpB (pureRun Tryz.prog (Instr.build 108 #[(0, t5_18), (1, a1), (2, t9_18), (3, t12_18), (5, t15_18), (6, t18_18)])) fun t19_18 =>
  effv Tryz.prog (Instr.box 108 t19_18) w fun t20_18 w =>
  Q t20_18 w) ∧
  (wpB (pureRun Tryz.prog (Instr.fieldAt 33 t2 3)) fun t7_19 =>
  wpB (pureRun Tryz.prog (Instr.fieldAt 33 t2 3)) fun t10_19 =>
  wpB (pureRun Tryz.prog (Instr.fieldAt 33 t2 0)) fun t13_19 =>
  wpB (pureRun Tryz.prog (Instr.fieldAt 33 t2 0)) fun t16_19 =>
  wpB (ldv Tryz.prog 33 t2 w.drew) fun t5_19 =>
  wpB (ldv Tryz.prog 3 t7_19 w.drew) fun t8_19 =>
  wpB (ldv Tryz.prog 3 t10_19 w.drew) fun t11_19 =>
  wpB (ldv Tryz.prog 3 t13_19 w.drew) fun t14_19 =>
  wpB (ldv Tryz.prog 3 t16_19 w.drew) fun t17_19 =>
  effv Tryz.prog (Instr.makeSlice 106 t17_19 t17_19) w.drew fun t18_19 w =>
  effv Tryz.prog (Instr.makeSlice 22 t11_19 t11_19) w fun t12_19 w =>
  effv Tryz.prog (Instr.makeSlice 22 t14_19 t14_19) w fun t15_19 w =>
  effv Tryz.prog (Instr.makeSlice 22 t8_19 t8_19) w fun t9_19 w =>
  wpB (pureRun Tryz.prog (Instr.build 108 #[(0, t5_19), (1, a1), (2, t9_19), (3, t12_19), (5, t15_19), (6, t18_19)])) fun t19_19 =>
  effv Tryz.prog (Instr.box 108 t19_19) w fun t20_19 w =>
  Q t20_19 w))) ∧
  ((((wpB (pureRun Tryz.prog (Instr.fieldAt 33 t2 3)) fun t7_20 =>
  wpB (pureRun Tryz.prog (Instr.fieldAt 33 t2 3)) fun t10_20 =>
  wpB (pureRun Tryz.prog (Instr.fieldAt 33 t2 0)) fun t13_20 =>
  wpB (pureRun Tryz.prog (Instr.fieldAt 33 t2 0)) fun t16_20 =>
  wpB (ldv Tryz.prog 33 t2 w.drew) fun t5_20 =>
  wpB (ldv Tryz.prog 3 t7_20 w.drew) fun t8_20 =>
  wpB (ldv Tryz.prog 3 t10_20 w.drew) fun t11_20 =>
  wpB (ldv Tryz.prog 3 t13_20 w.drew) fun t14_20 =>
  wpB (ldv Tryz.prog 3 t16_20 w.drew) fun t17_20 =>
  effv Tryz.prog (Instr.makeSlice 22 t14_20 t14_20) w.drew fun t15_20 w =>
  effv Tryz.prog (Instr.makeSlice 22 t11_20 t11_20) w fun t12_20 w =>
  effv Tryz.prog (Instr.makeSlice 22 t8_20 t8_20) w fun t9_20 w =>
  effv Tryz.prog (Instr.makeSlice 106 t17_20 t17_20) w fun t18_20 w =>
  wpB (pureRun Tryz.prog (Instr.build 108 #[(0, t5_20), (1, a1), (2, t9_20), (3, t12_20), (5, t15_20), (6, t18_20)])) fun t19_20 =>
  effv Tryz.prog (Instr.box 108 t19_20) w fun t20_20 w =>
  Q t20_20 w) ∧
  (wpB (pureRun Tryz.prog (Instr.fieldAt 33 t2 3)) fun t7_21 =>
  wpB (pureRun Tryz.prog (Instr.fieldAt 33 t2 3)) fun t10_21 =>
  wpB (pureRun Tryz.prog (Instr.fieldAt 33 t2 0)) fun t13_21 =>
  wpB (pureRun Tryz.prog (Instr.fieldAt 33 t2 0)) fun t16_21 =>
  wpB (ldv Tryz.prog 33 t2 w.drew) fun t5_21 =>
  wpB (ldv Tryz.prog 3 t7_21 w.drew) fun t8_21 =>
  wpB (ldv Tryz.prog 3 t10_21 w.drew) fun t11_21 =>
  wpB (ldv Tryz.prog 3 t13_21 w.drew) fun t14_21 =>
  wpB (ldv Tryz.prog 3 t16_21 w.drew) fun t17_21 =>
  effv Tryz.prog (Instr.makeSlice 22 t14_21 t14_21) w.drew fun t15_21 w =>
  effv Tryz.prog (Instr.makeSlice 22 t11_21 t11_21) w fun t12_21 w =>
  effv Tryz.prog (Instr.makeSlice 106 t17_21 t17_21) w fun t18_21 w =>
  effv Tryz.prog (Instr.makeSlice 22 t8_21 t8_21) w fun t9_21 w =>
  wpB (pureRun Tryz.prog (Instr.build 108 #[(0, t5_21), (1, a1), (2, t9_21), (3, t12_21), (5, t15_21), (6, t18_21)])) fun t19_21 =>
  effv Tryz.prog (Instr.box 108 t19_21) w fun t20_21 w =>
  Q t20_21 w)) ∧
  (wpB (pureRun Tryz.prog (Instr.fieldAt 33 t2 3)) fun t7_22 =>
  wpB (pureRun Tryz.prog (Instr.fieldAt 33 t2 3)) fun t10_22 =>
  wpB (pureRun Tryz.prog (Instr.fieldAt 33 t2 0)) fun t13_22 =>
  wpB (pureRun Tryz.prog (Instr.fieldAt 33 t2 0)) fun t16_22 =>
  wpB (ldv Tryz.prog 33 t2 w.drew) fun t5_22 =>
  wpB (ldv Tryz.prog 3 t7_22 w.drew) fun t8_22 =>
  wpB (ldv Tryz.prog 3 t10_22 w.drew) fun t11_22 =>
  wpB (ldv Tryz.prog 3 t13_22 w.drew) fun t14_22 =>
  wpB (ldv Tryz.prog 3 t16_22 w.drew) fun t17_22 =>
  effv Tryz.prog (Instr.makeSlice 22 t14_22 t14_22) w.drew fun t15_22 w =>
  effv Tryz.prog (Instr.makeSlice 106 t17_22 t17_22) w fun t18_22 w =>
  effv Tryz.prog (Instr.makeSlice 22 t11_22 t11_22) w fun t12_22 w =>
  effv Tryz.prog (Instr.makeSlice 22 t8_22 t8_22) w fun t9_22 w =>
  wpB (pureRun Tryz.prog (Instr.build 108 #[(0, t5_22), (1, a1), (2, t9_22), (3, t12_22), (5, t15_22), (6, t18_22)])) fun t19_22 =>
  effv Tryz.prog (Instr.box 108 t19_22) w fun t20_22 w =>
  Q t20_22 w)) ∧
  (wpB (pureRun Tryz.prog (Instr.fieldAt 33 t2 3)) fun t7_23 =>
  wpB (pureRun Tryz.prog (Instr.fieldAt 33 t2 3)) fun t10_23 =>
  wpB (pureRun Tryz.prog (Instr.fieldAt 33 t2 0)) fun t13_23 =>
  wpB (pureRun Tryz.prog (Instr.fieldAt 33 t2 0)) fun t16_23 =>
  wpB (ldv Tryz.prog 33 t2 w.drew) fun t5_23 =>
  wpB (ldv Tryz.prog 3 t7_23 w.drew) fun t8_23 =>
  wpB (ldv Tryz.prog 3 t10_23 w.drew) fun t11_23 =>
  wpB (ldv Tryz.prog 3 t13_23 w.drew) fun t14_23 =>
  wpB (ldv Tryz.prog 3 t16_23 w.drew) fun t17_23 =>
  effv Tryz.prog (Instr.makeSlice 106 t17_23 t17_23) w.drew fun t18_23 w =>
  effv Tryz.prog (Instr.makeSlice 22 t14_23 t14_23) w fun t15_23 w =>
  effv Tryz.prog (Instr.makeSlice 22 t11_23 t11_23) w fun t12_23 w =>
  effv Tryz.prog (Instr.makeSlice 22 t8_23 t8_23) w fun t9_23 w =>
  wpB (pureRun Tryz.prog (Instr.build 108 #[(0, t5_23), (1, a1), (2, t9_23), (3, t12_23), (5, t15_23), (6, t18_23)])) fun t19_23 =>
  effv Tryz.prog (Instr.box 108 t19_23) w fun t20_23 w =>
  Q t20_23 w)))
theorem F22_ok {a0 a1 : Value} {w : World} {Q : Value → World → Prop} (h : F22 a0 a1 w Q) : CallR Tryz.prog 22 [a0, a1] w Q :=
  ah mixed ag Tryz.func22 (c := C22) rfl H22 (Nat.le_of_ble_eq_true rfl) (by kernel_rfl) h

noncomputable def C50 : Code := (Tryz.f50.body).getD .skip
noncomputable def H50 : Hints := ⟨[], [(6, [0, 1, 6, 7, 8, 10]), (41, [8, 11])], [(12, (.leaf [0, 1, 2, 3, 4, 5, 6, 7, 8, 9, 10, 11, 12, 13]))]⟩
noncomputable def T50_0 : List It := [.jn (nav [1, 1, 1, 1] C50)]
noncomputable def T50_1 : List It := [.jn (nav [1, 1, 1, 1, 1, 1] C50)]
def P50_0 (x0 x1 x6 x7 x8 x10 : Value) (w : World) (Q : Value → World → Prop) : Prop := Part Tryz.prog 50 T50_0 [0, 1, 6, 7, 8, 10] [x0, x1, x6, x7, x8, x10] w Q
def P50_1 (x8 x11 : Value) (w : World) (Q : Value → World → Prop) : Prop := Part Tryz.prog 50 T50_1 [8, 11] [x8, x11] w Q
def F50 (a0 a1 a2 a3 : Value) (w : World) (Q : Value → World → Prop) : Prop :=
  effv Tryz.prog (Instr.box 39 a2) w fun t6 w =>
  effv Tryz.prog (Instr.box 25 a3) w fun t7 w =>
  effv Tryz.prog (Instr.alloc 28 true (.tuple #[])) w fun t8 w =>
  wpB (ldv Tryz.prog 39 t6 w) fun t13 =>
  wpB (ldv Tryz.prog 25 t7 w) fun t14 =>
  CallR Tryz.prog 78 [a0, t13, t14] w fun t15 w =>
  wpB (pureRun Tryz.prog (Op.unary .not t15)) fun t16 =>
  cnd t16
  (wpB (pureRun Tryz.prog (Instr.build 28 #[(0, (.int .i64 2))])) fun t17 =>
  effu Tryz.prog (Instr.storeAt 28 t8 t17) w fun w =>
  wpB (ldv Tryz.prog 28 t8 w) fun r8 => Q (.tuple #[r8, (.bool true)]) w)
  (wpB (pureRun Tryz.prog (Instr.fieldAt 39 t6 0)) fun t18 =>
  wpB (ldv Tryz.prog 3 t18 w) fun t19 =>
  CallR Tryz.prog 29 [t19] w fun t20 w =>
  wpB (be Tryz.prog .neq 3 (.tmp 20) (.const (.int .i64 0)) t20 (.int .i64 0)) fun t21 =>
  cnd t21
  (wpB (pureRun Tryz.prog (Instr.fieldAt 25 t7 0)) fun t23 =>
  wpB (ldv Tryz.prog 3 t23 w) fun t24 =>
  wpB (pureRun Tryz.prog (Instr.fieldAt 25 t7 1)) fun t25 =>
  wpB (ldv Tryz.prog 3 t25 w) fun t26 =>
  CallR Tryz.prog 79 [a0, t24, t26] w fun t27 w =>
  P50_0 a0 a1 t6 t7 t8 t27 w Q)
  (P50_0 a0 a1 t6 t7 t8 (.int .i64 (-1)) w Q))
def L50_0 (x0 x1 x6 x7 x8 x10 : Value) (w : World) (Q : Value → World → Prop) : Prop :=
  wpB (pureRun Tryz.prog (Instr.fieldAt 39 x6 0)) fun t28 =>
  wpB (ldv Tryz.prog 3 t28 w) fun t29 =>
  wpB (be Tryz.prog .eql 3 (.tmp 29) (.const (.int .i64 1)) t29 (.int .i64 1)) fun t37 =>
  cnd t37
  (wpB (pureRun Tryz.prog (Instr.build 28 #[])) fun t38 =>
  effu Tryz.prog (Instr.storeAt 28 x8 t38) w fun w =>
  wpB (ldv Tryz.prog 28 x8 w) fun r8 => Q (.tuple #[r8, (.bool false)]) w)
  (wpB (be Tryz.prog .eql 3 (.tmp 29) (.const (.int .i64 2)) t29 (.int .i64 2)) fun t40 =>
  cnd t40
  (wpB (pureRun Tryz.prog (Instr.fieldAt 39 x6 3)) fun t42 =>
  wpB (ldv Tryz.prog 3 t42 w.drew) fun t43 =>
  wpB (bp Tryz.prog .lss 3 t43 (.int .i64 1)) fun t44 =>
  wpB (gd t44 false (pureRun Tryz.prog (Instr.fieldAt 39 x6 3))) fun t46 =>
  wpB (gd t44 false (ldv Tryz.prog 3 t46 w.drew)) fun t47 =>
  wpB (gd t44 false (nilv (gv t44 false x0))) fun t49 =>
  wpB (gd t44 false (pureRun Tryz.prog (Instr.fieldAt 108 t49 0))) fun t50 =>
  wpB (gd t44 false (pureRun Tryz.prog (Instr.fieldAt 33 t50 2))) fun t51 =>
  wpB (gd t44 false (ldv Tryz.prog 3 t51 w.drew)) fun t52 =>
  wpB (gd t44 false (bp Tryz.prog .gtr 3 t47 t52)) fun t53 =>
  wpB (pickv t44 (some (.bool true)) (some t53)) fun t54 =>
  cnd t54
  (wpB (pureRun Tryz.prog (Instr.build 28 #[(0, (.int .i64 5))])) fun t55 =>
  effu Tryz.prog (Instr.storeAt 28 x8 t55) w.drew fun w =>
  wpB (ldv Tryz.prog 28 x8 w) fun r8_1 => Q (.tuple #[r8_1, (.bool true)]) w)
  (wpB (nilv x0) fun t58 =>
  wpB (pureRun Tryz.prog (Instr.fieldAt 108 t58 4)) fun t59 =>
  wpB (ldv Tryz.prog 105 t59 w.drew) fun t60 =>
  wpB (pureRun Tryz.prog (Instr.indexAt 105 t60 x10)) fun t62 =>
  wpB (pureRun Tryz.prog (Instr.fieldAt 130 t62 4)) fun t63 =>
  wpB (ldv Tryz.prog 4 t63 w.drew) fun t64 =>
  wpB (pureRun Tryz.prog (Op.unary .not t64)) fun t65 =>
  cnd t65
  (wpB (pureRun Tryz.prog (Instr.build 28 #[(0, (.int .i64 3))])) fun t66 =>
  effu Tryz.prog (Instr.storeAt 28 x8 t66) w.drew fun w =>
  wpB (ldv Tryz.prog 28 x8 w) fun r8_2 => Q (.tuple #[r8_2, (.bool true)]) w)
  (wpB (pureRun Tryz.prog (Instr.build 28 #[])) fun t67 =>
  effu Tryz.prog (Instr.storeAt 28 x8 t67) w.drew fun w =>
  wpB (ldv Tryz.prog 28 x8 w) fun r8_3 => Q (.tuple #[r8_3, (.bool false)]) w)))
  (wpB (be Tryz.prog .eql 3 (.tmp 29) (.const (.int .i64 3)) t29 (.int .i64 3)) fun t69 =>
  cnd t69
  (wpB (nilv x0) fun t71 =>
  wpB (pureRun Tryz.prog (Instr.fieldAt 108 t71 5)) fun t72 =>
  wpB (ldv Tryz.prog 22 t72 w) fun t73 =>
  wpB (pureRun Tryz.prog (Instr.indexAt 22 t73 x1)) fun t75 =>
  wpB (ldv Tryz.prog 3 t75 w) fun t76 =>
  wpB (be Tryz.prog .eql 3 (.tmp 76) (.const (.int .i64 15)) t76 (.int .i64 15)) fun t77 =>
  cnd t77
  (P50_1 x8 (.int .i64 8) w Q)
  (P50_1 x8 (.int .i64 0) w Q))
  (wpB (be Tryz.prog .eql 3 (.tmp 29) (.const (.int .i64 4)) t29 (.int .i64 4)) fun t79 =>
  cnd t79
  (wpB (nilv x0) fun t81 =>
  wpB (pureRun Tryz.prog (Instr.fieldAt 108 t81 5)) fun t82 =>
  wpB (ldv Tryz.prog 22 t82 w) fun t83 =>
  wpB (pureRun Tryz.prog (Instr.indexAt 22 t83 x1)) fun t85 =>
  wpB (ldv Tryz.prog 3 t85 w) fun t86 =>
  wpB (be Tryz.prog .eql 3 (.tmp 86) (.const (.int .i64 0)) t86 (.int .i64 0)) fun t87 =>
  cnd t87
  (P50_1 x8 (.int .i64 4) w Q)
  (P50_1 x8 (.int .i64 0) w Q))
  (wpB (be Tryz.prog .eql 3 (.tmp 29) (.const (.int .i64 5)) t29 (.int .i64 5)) fun t89 =>
  cnd t89
  (wpB (nilv x0) fun t92 =>
  wpB (pureRun Tryz.prog (Instr.fieldAt 108 t92 5)) fun t93 =>
  wpB (ldv Tryz.prog 22 t93 w) fun t94 =>
  wpB (pureRun Tryz.prog (Instr.indexAt 22 t94 x1)) fun t96 =>
  wpB (ldv Tryz.prog 3 t96 w) fun t97 =>
  wpB (be Tryz.prog .eql 3 (.tmp 97) (.const (.int .i64 0)) t97 (.int .i64 0)) fun t98 =>
  cnd t98
  (P50_1 x8 (.int .i64 4) w Q)
  (wpB (pureRun Tryz.prog (Instr.fieldAt 25 x7 0)) fun t102 =>
  wpB (ldv Tryz.prog 3 t102 w) fun t103 =>
  wpB (pureRun Tryz.prog (Instr.fieldAt 25 x7 1)) fun t104 =>
  wpB (ldv Tryz.prog 3 t104 w) fun t105 =>
  CallR Tryz.prog 80 [x0, x1, t103, t105] w fun t106 w =>
  cnd t106
  (P50_1 x8 (.int .i64 0) w Q)
  (wpB (nilv x0) fun t109 =>
  wpB (pureRun Tryz.prog (Instr.fieldAt 108 t109 6)) fun t110 =>
  wpB (ldv Tryz.prog 106 t110 w) fun t111 =>
  wpB (pureRun Tryz.prog (Instr.indexAt 106 t111 x1)) fun t113 =>
  wpB (ldv Tryz.prog 131 t113 w) fun t114 =>
  wpB (pureRun Tryz.prog (Builtin.len_ #[131] 3 #[t114])) fun t115 =>
  wpB (be Tryz.prog .eql 3 (.tmp 115) (.const (.int .i64 8)) t115 (.int .i64 8)) fun t116 =>
  cnd t116
  (P50_1 x8 (.int .i64 8) w Q)
  (wpB (nilv x0) fun t119 =>
  wpB (pureRun Tryz.prog (Instr.fieldAt 108 t119 4)) fun t120 =>
  wpB (ldv Tryz.prog 105 t120 w) fun t121 =>
  wpB (pureRun Tryz.prog (Instr.indexAt 105 t121 x10)) fun t123 =>
  wpB (pureRun Tryz.prog (Instr.fieldAt 130 t123 4)) fun t124 =>
  wpB (ldv Tryz.prog 4 t124 w) fun t125 =>
  wpB (pureRun Tryz.prog (Op.unary .not t125)) fun t126 =>
  cnd t126
  (P50_1 x8 (.int .i64 3) w Q)
  (P50_1 x8 (.int .i64 0) w Q)))))
  (wpB (be Tryz.prog .eql 3 (.tmp 29) (.const (.int .i64 10)) t29 (.int .i64 10)) fun t128 =>
  cnd t128
  (wpB (nilv x0) fun t130 =>
  wpB (pureRun Tryz.prog (Instr.fieldAt 108 t130 4)) fun t131 =>
  wpB (ldv Tryz.prog 105 t131 w) fun t132 =>
  wpB (pureRun Tryz.prog (Instr.indexAt 105 t132 x10)) fun t134 =>
  wpB (pureRun Tryz.prog (Instr.fieldAt 130 t134 4)) fun t135 =>
  wpB (ldv Tryz.prog 4 t135 w) fun t136 =>
  wpB (pureRun Tryz.prog (Op.unary .not t136)) fun t137 =>
  cnd t137
  (P50_1 x8 (.int .i64 3) w Q)
  (P50_1 x8 (.int .i64 0) w Q))
  (wpB (be Tryz.prog .eql 3 (.tmp 29) (.const (.int .i64 12)) t29 (.int .i64 12)) fun t139 =>
  cnd t139
  (wpB (nilv x0) fun t141 =>
  wpB (pureRun Tryz.prog (Instr.fieldAt 108 t141 4)) fun t142 =>
  wpB (ldv Tryz.prog 105 t142 w) fun t143 =>
  wpB (pureRun Tryz.prog (Instr.indexAt 105 t143 x10)) fun t145 =>
  wpB (pureRun Tryz.prog (Instr.fieldAt 130 t145 4)) fun t146 =>
  wpB (ldv Tryz.prog 4 t146 w) fun t147 =>
  wpB (pureRun Tryz.prog (Op.unary .not t147)) fun t148 =>
  cnd t148
  (wpB (pureRun Tryz.prog (Instr.build 28 #[(0, (.int .i64 3))])) fun t149 =>
  effu Tryz.prog (Instr.storeAt 28 x8 t149) w fun w =>
  wpB (ldv Tryz.prog 28 x8 w) fun r8_4 => Q (.tuple #[r8_4, (.bool true)]) w)
  (wpB (nilv x0) fun t151 =>
  wpB (pureRun Tryz.prog (Instr.fieldAt 108 t151 4)) fun t152 =>
  wpB (ldv Tryz.prog 105 t152 w) fun t153 =>
  wpB (pureRun Tryz.prog (Instr.indexAt 105 t153 x10)) fun t155 =>
  wpB (pureRun Tryz.prog (Instr.fieldAt 130 t155 3)) fun t156 =>
  wpB (ldv Tryz.prog 3 t156 w) fun t157 =>
  wpB (pureRun Tryz.prog (Instr.build 28 #[(2, t157)])) fun t158 =>
  effu Tryz.prog (Instr.storeAt 28 x8 t158) w fun w =>
  wpB (ldv Tryz.prog 28 x8 w) fun r8_5 => Q (.tuple #[r8_5, (.bool true)]) w))
  (wpB (be Tryz.prog .eql 3 (.tmp 29) (.const (.int .i64 11)) t29 (.int .i64 11)) fun t160 =>
  cnd t160
  (P50_1 x8 (.int .i64 0) w Q)
  (wpB (ldv Tryz.prog 39 x6 w) fun t33 =>
  wpB (ldv Tryz.prog 25 x7 w) fun t34 =>
  CallR Tryz.prog 81 [x0, x1, x10, t33, t34] w fun t35 w =>
  effu Tryz.prog (Instr.storeAt 28 x8 t35) w fun w =>
  wpB (ldv Tryz.prog 28 x8 w) fun r8_6 => Q (.tuple #[r8_6, (.bool true)]) w))))))))
def L50_1 (x8 x11 : Value) (w : World) (Q : Value → World → Prop) : Prop :=
  wpB (pureRun Tryz.prog (Instr.build 28 #[(0, x11)])) fun t162 =>
  effu Tryz.prog (Instr.storeAt 28 x8 t162) w fun w =>
  wpB (ldv Tryz.prog 28 x8 w) fun r8 => Q (.tuple #[r8, (.bool true)]) w
theorem F50_ok {a0 a1 a2 a3 : Value} {w : World} {Q : Value → World → Prop} (h : F50 a0 a1 a2 a3 w Q) : CallR Tryz.prog 50 [a0, a1, a2, a3] w Q :=
  ah mixed ag Tryz.func50 (c := C50) rfl H50 (Nat.le_of_ble_eq_true rfl) (by kernel_rfl) h
theorem L50_0_ok {x0 x1 x6 x7 x8 x10 : Value} {w : World} {Q : Value → World → Prop} (h : L50_0 x0 x1 x6 x7 x8 x10 w Q) : P50_0 x0 x1 x6 x7 x8 x10 w Q :=
  ar mixed ag Tryz.func50 H50 (by kernel_rfl) h
theorem L50_1_ok {x8 x11 : Value} {w : World} {Q : Value → World → Prop} (h : L50_1 x8 x11 w Q) : P50_1 x8 x11 w Q :=
  ar mixed ag Tryz.func50 H50 (by kernel_rfl) h

noncomputable def C51 : Code := (Tryz.f51.body).getD .skip
noncomputable def H51 : Hints := ⟨[], [], []⟩
def F51 (a0 : Value) (w : World) (Q : Value → World → Prop) : Prop :=
  wpB (bp Tryz.prog .geq 3 a0 (.int .i64 4294967295)) fun t4 =>
  cnd t4
  (Q (.int .i64 0) w)
  (wpB (bp Tryz.prog .add 3 a0 (.int .i64 1)) fun t6 =>
  Q t6 w)
theorem F51_ok {a0 : Value} {w : World} {Q : Value → World → Prop} (h : F51 a0 w Q) : CallR Tryz.prog 51 [a0] w Q :=
  ah mixed ag Tryz.func51 (c := C51) rfl H51 (Nat.le_of_ble_eq_true rfl) (by kernel_rfl) h

noncomputable def C52 : Code := (Tryz.f52.body).getD .skip
noncomputable def H52 : Hints := ⟨[], [], [(4, (.ask 3 7 (.leaf [0, 1, 2, 3, 4, 5, 6, 7, 8, 9, 10, 11, 12]) (.leaf [0, 1, 2, 4, 5, 6, 7, 3, 8, 9, 10, 11, 12])))]⟩
def F52 (a0 a1 : Value) (w : World) (Q : Value → World → Prop) : Prop :=
  CallR Tryz.prog 82 [a0, a1] w fun t10 w =>
  wpB (pureRun Tryz.prog (Instr.extract t10 0)) fun t11 =>
  wpB (pureRun Tryz.prog (Instr.extract t10 1)) fun t12 =>
  wpB (pureRun Tryz.prog (Op.unary .not t12)) fun t14 =>
  cnd t14
  (Q (.slice none 0 0) w)
  ((wpB (nilv a0) fun t16 =>
  wpB (pureRun Tryz.prog (Instr.fieldAt 108 t16 4)) fun t17 =>
  wpB (ldv Tryz.prog 105 t17 w.drew) fun t18 =>
  CallR Tryz.prog 79 [a0, a1, t11] w.drew fun t22 w =>
  wpB (pureRun Tryz.prog (Instr.indexAt 105 t18 t22)) fun t23 =>
  wpB (pureRun Tryz.prog (Instr.fieldAt 130 t23 7)) fun t24 =>
  wpB (ldv Tryz.prog 44 t24 w) fun t25 =>
  effv Tryz.prog (Builtin.append_ #[44, 44] 44 #[(.slice none 0 0), t25]) w fun t26 w =>
  Q t26 w) ∧
  (wpB (nilv a0) fun t16_1 =>
  wpB (pureRun Tryz.prog (Instr.fieldAt 108 t16_1 4)) fun t17_1 =>
  CallR Tryz.prog 79 [a0, a1, t11] w.drew fun t22_1 w =>
  wpB (ldv Tryz.prog 105 t17_1 w) fun t18_1 =>
  wpB (pureRun Tryz.prog (Instr.indexAt 105 t18_1 t22_1)) fun t23_1 =>
  wpB (pureRun Tryz.prog (Instr.fieldAt 130 t23_1 7)) fun t24_1 =>
  wpB (ldv Tryz.prog 44 t24_1 w) fun t25_1 =>
  effv Tryz.prog (Builtin.append_ #[44, 44] 44 #[(.slice none 0 0), t25_1]) w fun t26_1 w =>
  Q t26_1 w))
theorem F52_ok {a0 a1 : Value} {w : World} {Q : Value → World → Prop} (h : F52 a0 a1 w Q) : CallR Tryz.prog 52 [a0, a1] w Q :=
  ah mixed ag Tryz.func52 (c := C52) rfl H52 (Nat.le_of_ble_eq_true rfl) (by kernel_rfl) h

noncomputable def C53 : Code := (Tryz.f53.body).getD .skip
noncomputable def H53 : Hints := ⟨[], [(4, [0, 1, 6, 7, 8]), (22, [0, 6, 7, 8, 117]), (23, [0, 6, 8, 9, 10])], [(13, (.ask 3 18 (.leaf [0, 1, 2, 3, 4, 5, 6, 7, 8, 9, 10, 11, 12, 13, 14, 15, 16, 17, 18, 19, 20]) (.leaf [0, 1, 2, 4, 5, 6, 7, 9, 12, 14, 8, 10, 11, 13, 15, 16, 17, 18, 3, 19, 20]))), (16, (.leaf [0, 1, 2, 3, 4, 5, 6, 7])), (18, (.leaf [0, 1, 2, 3, 4, 5, 6, 7])), (22, (.ask 11 9 (.ask 13 9 (.leaf [0, 1, 2, 4, 7, 10, 12, 3, 5, 6, 8, 11, 13, 14, 9, 15, 16]) (.leaf [0, 1, 2, 4, 7, 10, 12, 3, 5, 6, 8, 11, 9, 15, 13, 14, 16])) (.ask 13 9 (.leaf [0, 1, 2, 4, 7, 10, 12, 3, 5, 6, 8, 13, 9, 15, 11, 14, 16]) (.leaf [0, 1, 2, 3, 4, 5, 6, 7, 8, 9, 10, 11, 12, 13, 14, 15, 16])))), (25, (.leaf [0, 1, 2, 3, 4, 5, 6, 7, 8, 9, 10, 11, 12, 13, 14, 15])), (27, (.leaf [0, 1, 2, 3, 4, 5, 6, 7, 8, 9, 10, 11, 12, 13, 14, 15, 16, 17])), (29, (.leaf [0, 1, 2, 3, 4, 5, 6, 7, 8, 9, 10, 11, 12, 13, 14, 15]))]⟩
noncomputable def T53_0 : List It := [.jn (nav [1, 1, 1] C53)]
noncomputable def T53_1 : List It := [.jn (nav [1, 1, 1, 1, 4, 1, 3, 1, 3, 1, 3, 1, 3, 1] C53), .blk 0]
noncomputable def T53_2 : List It := [.jn (nav [1, 1, 1, 1, 4, 1, 3, 1, 3, 1, 3, 1, 3, 1, 2, 1] C53), .blk 0]
def P53_0 (x0 x1 x6 x7 x8 : Value) (w : World) (Q : Value → World → Prop) : Prop := Part Tryz.prog 53 T53_0 [0, 1, 6, 7, 8] [x0, x1, x6, x7, x8] w Q
def P53_1 (x0 x6 x7 x8 x117 : Value) (w : World) (Q : Value → World → Prop) : Prop := Part Tryz.prog 53 T53_1 [0, 6, 7, 8, 117] [x0, x6, x7, x8, x117] w Q
def P53_2 (x0 x6 x8 x9 x10 : Value) (w : World) (Q : Value → World → Prop) : Prop := Part Tryz.prog 53 T53_2 [0, 6, 8, 9, 10] [x0, x6, x8, x9, x10] w Q
def F53 (a0 a1 a2 a3 : Value) (w : World) (Q : Value → World → Prop) : Prop :=
  effv Tryz.prog (Instr.box 39 a2) w fun t6 w =>
  effv Tryz.prog (Instr.box 25 a3) w fun t7 w =>
  wpB (pureRun Tryz.prog (Instr.fieldAt 39 t6 0)) fun t12 =>
  wpB (ldv Tryz.prog 3 t12 w) fun t13 =>
  CallR Tryz.prog 29 [t13] w fun t14 w =>
  wpB (be Tryz.prog .neq 3 (.tmp 14) (.const (.int .i64 0)) t14 (.int .i64 0)) fun t15 =>
  cnd t15
  (wpB (pureRun Tryz.prog (Instr.fieldAt 25 t7 0)) fun t17 =>
  wpB (ldv Tryz.prog 3 t17 w) fun t18 =>
  wpB (pureRun Tryz.prog (Instr.fieldAt 25 t7 1)) fun t19 =>
  wpB (ldv Tryz.prog 3 t19 w) fun t20 =>
  CallR Tryz.prog 79 [a0, t18, t20] w fun t21 w =>
  P53_0 a0 a1 t6 t7 t21 w Q)
  (P53_0 a0 a1 t6 t7 (.int .i64 (-1)) w Q)
def L53_0 (x0 x1 x6 x7 x8 : Value) (w : World) (Q : Value → World → Prop) : Prop :=
  wpB (pureRun Tryz.prog (Instr.fieldAt 39 x6 0)) fun t22 =>
  wpB (ldv Tryz.prog 3 t22 w) fun t23 =>
  wpB (be Tryz.prog .eql 3 (.tmp 23) (.const (.int .i64 3)) t23 (.int .i64 3)) fun t25 =>
  cnd t25
  (wpB (nilv x0) fun t27 =>
  wpB (pureRun Tryz.prog (Instr.fieldAt 108 t27 5)) fun t28 =>
  wpB (ldv Tryz.prog 22 t28 w) fun t29 =>
  wpB (pureRun Tryz.prog (Instr.indexAt 22 t29 x1)) fun t31 =>
  wpB (ldv Tryz.prog 3 t31 w) fun t32 =>
  wpB (bp Tryz.prog .add 3 t32 (.int .i64 1)) fun t33 =>
  wpB (pureRun Tryz.prog (Instr.indexAt 22 t29 x1)) fun t34 =>
  effu Tryz.prog (Instr.storeAt 3 t34 t33) w fun w =>
  Q (.tuple #[]) w)
  (wpB (be Tryz.prog .eql 3 (.tmp 23) (.const (.int .i64 4)) t23 (.int .i64 4)) fun t36 =>
  cnd t36
  (wpB (nilv x0) fun t38 =>
  wpB (pureRun Tryz.prog (Instr.fieldAt 108 t38 5)) fun t39 =>
  wpB (ldv Tryz.prog 22 t39 w) fun t40 =>
  wpB (pureRun Tryz.prog (Instr.indexAt 22 t40 x1)) fun t42 =>
  wpB (ldv Tryz.prog 3 t42 w) fun t43 =>
  wpB (bp Tryz.prog .sub 3 t43 (.int .i64 1)) fun t44 =>
  wpB (pureRun Tryz.prog (Instr.indexAt 22 t40 x1)) fun t45 =>
  effu Tryz.prog (Instr.storeAt 3 t45 t44) w fun w =>
  wpB (nilv x0) fun t47 =>
  wpB (pureRun Tryz.prog (Instr.fieldAt 108 t47 5)) fun t48 =>
  wpB (ldv Tryz.prog 22 t48 w) fun t49 =>
  wpB (pureRun Tryz.prog (Instr.indexAt 22 t49 x1)) fun t51 =>
  wpB (ldv Tryz.prog 3 t51 w) fun t52 =>
  wpB (be Tryz.prog .eql 3 (.tmp 52) (.const (.int .i64 0)) t52 (.int .i64 0)) fun t53 =>
  cnd t53
  (wpB (nilv x0) fun t55 =>
  wpB (pureRun Tryz.prog (Instr.fieldAt 108 t55 6)) fun t56 =>
  wpB (ldv Tryz.prog 106 t56 w) fun t57 =>
  wpB (pureRun Tryz.prog (Instr.indexAt 106 t57 x1)) fun t59 =>
  effu Tryz.prog (Instr.storeAt 131 t59 (.slice none 0 0)) w fun w =>
  Q (.tuple #[]) w)
  (Q (.tuple #[]) w))
  (wpB (be Tryz.prog .eql 3 (.tmp 23) (.const (.int .i64 5)) t23 (.int .i64 5)) fun t61 =>
  cnd t61
  (wpB (pureRun Tryz.prog (Instr.fieldAt 25 x7 0)) fun t64 =>
  wpB (ldv Tryz.prog 3 t64 w) fun t65 =>
  wpB (pureRun Tryz.prog (Instr.fieldAt 25 x7 1)) fun t66 =>
  wpB (ldv Tryz.prog 3 t66 w) fun t67 =>
  CallR Tryz.prog 80 [x0, x1, t65, t67] w fun t68 w =>
  wpB (pureRun Tryz.prog (Op.unary .not t68)) fun t69 =>
  cnd t69
  ((wpB (nilv x0) fun t71 =>
  wpB (pureRun Tryz.prog (Instr.fieldAt 108 t71 6)) fun t72 =>
  wpB (ldv Tryz.prog 106 t72 w.drew) fun t73 =>
  wpB (nilv x0) fun t76 =>
  wpB (pureRun Tryz.prog (Instr.fieldAt 108 t76 6)) fun t77 =>
  wpB (ldv Tryz.prog 106 t77 w.drew) fun t78 =>
  wpB (pureRun Tryz.prog (Instr.indexAt 106 t78 x1)) fun t80 =>
  wpB (ldv Tryz.prog 131 t80 w.drew) fun t81 =>
  wpB (pureRun Tryz.prog (Instr.fieldAt 25 x7 0)) fun t82 =>
  wpB (ldv Tryz.prog 3 t82 w.drew) fun t83 =>
  wpB (pureRun Tryz.prog (Instr.fieldAt 25 x7 1)) fun t84 =>
  wpB (ldv Tryz.prog 3 t84 w.drew) fun t85 =>
  wpB (pureRun Tryz.prog (Instr.build 136 #[(0, t83), (1, t85)])) fun t86 =>
  effv Tryz.prog (Instr.buildSlice 131 1 #[(0, t86)]) w.drew fun t87 w =>
  effv Tryz.prog (Builtin.append_ #[131, 131] 131 #[t81, t87]) w fun t88 w =>
  wpB (pureRun Tryz.prog (Instr.indexAt 106 t73 x1)) fun t89 =>
  effu Tryz.prog (Instr.storeAt 131 t89 t88) w fun w =>
  Q (.tuple #[]) w) ∧
  (wpB (nilv x0) fun t71_1 =>
  wpB (pureRun Tryz.prog (Instr.fieldAt 108 t71_1 6)) fun t72_1 =>
  wpB (nilv x0) fun t76_1 =>
  wpB (pureRun Tryz.prog (Instr.fieldAt 108 t76_1 6)) fun t77_1 =>
  wpB (pureRun Tryz.prog (Instr.fieldAt 25 x7 0)) fun t82_1 =>
  wpB (pureRun Tryz.prog (Instr.fieldAt 25 x7 1)) fun t84_1 =>
  wpB (ldv Tryz.prog 106 t77_1 w.drew) fun t78_1 =>
  wpB (pureRun Tryz.prog (Instr.indexAt 106 t78_1 x1)) fun t80_1 =>
  wpB (ldv Tryz.prog 131 t80_1 w.drew) fun t81_1 =>
  wpB (ldv Tryz.prog 3 t82_1 w.drew) fun t83_1 =>
  wpB (ldv Tryz.prog 3 t84_1 w.drew) fun t85_1 =>
  wpB (pureRun Tryz.prog (Instr.build 136 #[(0, t83_1), (1, t85_1)])) fun t86_1 =>
  effv Tryz.prog (Instr.buildSlice 131 1 #[(0, t86_1)]) w.drew fun t87_1 w =>
  effv Tryz.prog (Builtin.append_ #[131, 131] 131 #[t81_1, t87_1]) w fun t88_1 w =>
  wpB (ldv Tryz.prog 106 t72_1 w) fun t73_1 =>
  wpB (pureRun Tryz.prog (Instr.indexAt 106 t73_1 x1)) fun t89_1 =>
  effu Tryz.prog (Instr.storeAt 131 t89_1 t88_1) w fun w =>
  Q (.tuple #[]) w))
  (Q (.tuple #[]) w))
  (wpB (be Tryz.prog .eql 3 (.tmp 23) (.const (.int .i64 10)) t23 (.int .i64 10)) fun t91 =>
  cnd t91
  (wpB (nilv x0) fun t93 =>
  wpB (pureRun Tryz.prog (Instr.fieldAt 108 t93 4)) fun t94 =>
  wpB (ldv Tryz.prog 105 t94 w) fun t95 =>
  wpB (pureRun Tryz.prog (Instr.indexAt 105 t95 x8)) fun t97 =>
  wpB (pureRun Tryz.prog (Instr.fieldAt 130 t97 4)) fun t98 =>
  effu Tryz.prog (Instr.storeAt 4 t98 (.bool false)) w fun w =>
  wpB (nilv x0) fun t100 =>
  wpB (pureRun Tryz.prog (Instr.fieldAt 108 t100 2)) fun t101 =>
  wpB (ldv Tryz.prog 22 t101 w.drew) fun t102 =>
  wpB (pureRun Tryz.prog (Instr.fieldAt 25 x7 0)) fun t103 =>
  wpB (ldv Tryz.prog 3 t103 w.drew) fun t104 =>
  wpB (pureRun Tryz.prog (Instr.indexAt 22 t102 t104)) fun t105 =>
  effu Tryz.prog (Instr.storeAt 3 t105 (.int .i64 2)) w.drew fun w =>
  wpB (nilv x0) fun t107 =>
  wpB (pureRun Tryz.prog (Instr.fieldAt 108 t107 1)) fun t108 =>
  wpB (ldv Tryz.prog 4 t108 w) fun t109 =>
  cnd t109
  (wpB (nilv x0) fun t111 =>
  wpB (pureRun Tryz.prog (Instr.fieldAt 108 t111 2)) fun t112 =>
  wpB (ldv Tryz.prog 22 t112 w.drew) fun t113 =>
  wpB (pureRun Tryz.prog (Instr.fieldAt 25 x7 0)) fun t114 =>
  wpB (ldv Tryz.prog 3 t114 w.drew) fun t115 =>
  wpB (pureRun Tryz.prog (Instr.indexAt 22 t113 t115)) fun t116 =>
  effu Tryz.prog (Instr.storeAt 3 t116 (.int .i64 0)) w.drew fun w =>
  Q (.tuple #[]) w)
  (Q (.tuple #[]) w))
  (wpB (be Tryz.prog .eql 3 (.tmp 23) (.const (.int .i64 7)) t23 (.int .i64 7)) fun t118 =>
  cnd t118
  (P53_1 x0 x6 x7 x8 t118 w Q)
  (wpB (be Tryz.prog .eql 3 (.tmp 23) (.const (.int .i64 8)) t23 (.int .i64 8)) fun t119 =>
  cnd t119
  (P53_1 x0 x6 x7 x8 t119 w Q)
  (wpB (be Tryz.prog .eql 3 (.tmp 23) (.const (.int .i64 9)) t23 (.int .i64 9)) fun t120 =>
  P53_1 x0 x6 x7 x8 t120 w Q))))))
def L53_1 (x0 x6 x7 x8 x117 : Value) (w : World) (Q : Value → World → Prop) : Prop :=
  cnd x117
  (((wpB (nilv x0) fun t122 =>
  wpB (pureRun Tryz.prog (Instr.fieldAt 108 t122 4)) fun t123 =>
  wpB (pureRun Tryz.prog (Instr.fieldAt 25 x7 2)) fun t128 =>
  wpB (pureRun Tryz.prog (Instr.fieldAt 25 x7 3)) fun t131 =>
  wpB (pureRun Tryz.prog (Instr.fieldAt 39 x6 3)) fun t133 =>
  wpB (ldv Tryz.prog 105 t123 w.drew) fun t124 =>
  wpB (pureRun Tryz.prog (Instr.indexAt 105 t124 x8)) fun t126 =>
  wpB (ldv Tryz.prog 130 t126 w.drew) fun t127 =>
  wpB (ldv Tryz.prog 3 t128 w.drew) fun t129 =>
  wpB (ldv Tryz.prog 3 t131 w.drew) fun t132 =>
  wpB (ldv Tryz.prog 3 t133 w.drew) fun t134 =>
  wpB (bp Tryz.prog .add 3 t132 t134) fun t135 =>
  CallR Tryz.prog 83 [t127, t129] w.drew fun t130 w =>
  P53_2 x0 x6 x8 t130 t135 w Q) ∧
  (wpB (nilv x0) fun t122_1 =>
  wpB (pureRun Tryz.prog (Instr.fieldAt 108 t122_1 4)) fun t123_1 =>
  wpB (pureRun Tryz.prog (Instr.fieldAt 25 x7 2)) fun t128_1 =>
  wpB (pureRun Tryz.prog (Instr.fieldAt 25 x7 3)) fun t131_1 =>
  wpB (pureRun Tryz.prog (Instr.fieldAt 39 x6 3)) fun t133_1 =>
  wpB (ldv Tryz.prog 105 t123_1 w.drew) fun t124_1 =>
  wpB (pureRun Tryz.prog (Instr.indexAt 105 t124_1 x8)) fun t126_1 =>
  wpB (ldv Tryz.prog 130 t126_1 w.drew) fun t127_1 =>
  wpB (ldv Tryz.prog 3 t128_1 w.drew) fun t129_1 =>
  wpB (ldv Tryz.prog 3 t131_1 w.drew) fun t132_1 =>
  CallR Tryz.prog 83 [t127_1, t129_1] w.drew fun t130_1 w =>
  wpB (ldv Tryz.prog 3 t133_1 w) fun t134_1 =>
  wpB (bp Tryz.prog .add 3 t132_1 t134_1) fun t135_1 =>
  P53_2 x0 x6 x8 t130_1 t135_1 w Q)) ∧
  ((wpB (nilv x0) fun t122_2 =>
  wpB (pureRun Tryz.prog (Instr.fieldAt 108 t122_2 4)) fun t123_2 =>
  wpB (pureRun Tryz.prog (Instr.fieldAt 25 x7 2)) fun t128_2 =>
  wpB (pureRun Tryz.prog (Instr.fieldAt 25 x7 3)) fun t131_2 =>
  wpB (pureRun Tryz.prog (Instr.fieldAt 39 x6 3)) fun t133_2 =>
  wpB (ldv Tryz.prog 105 t123_2 w.drew) fun t124_2 =>
  wpB (pureRun Tryz.prog (Instr.indexAt 105 t124_2 x8)) fun t126_2 =>
  wpB (ldv Tryz.prog 130 t126_2 w.drew) fun t127_2 =>
  wpB (ldv Tryz.prog 3 t128_2 w.drew) fun t129_2 =>
  wpB (ldv Tryz.prog 3 t133_2 w.drew) fun t134_2 =>
  CallR Tryz.prog 83 [t127_2, t129_2] w.drew fun t130_2 w =>
  wpB (ldv Tryz.prog 3 t131_2 w) fun t132_2 =>
  wpB (bp Tryz.prog .add 3 t132_2 t134_2) fun t135_2 =>
  P53_2 x0 x6 x8 t130_2 t135_2 w Q) ∧
  (wpB (nilv x0) fun t122_3 =>
  wpB (pureRun Tryz.prog (Instr.fieldAt 108 t122_3 4)) fun t123_3 =>
  wpB (ldv Tryz.prog 105 t123_3 w.drew) fun t124_3 =>
  wpB (pureRun Tryz.prog (Instr.indexAt 105 t124_3 x8)) fun t126_3 =>
  wpB (ldv Tryz.prog 130 t126_3 w.drew) fun t127_3 =>
  wpB (pureRun Tryz.prog (Instr.fieldAt 25 x7 2)) fun t128_3 =>
  wpB (ldv Tryz.prog 3 t128_3 w.drew) fun t129_3 =>
  CallR Tryz.prog 83 [t127_3, t129_3] w.drew fun t130_3 w =>
  wpB (pureRun Tryz.prog (Instr.fieldAt 25 x7 3)) fun t131_3 =>
  wpB (ldv Tryz.prog 3 t131_3 w) fun t132_3 =>
  wpB (pureRun Tryz.prog (Instr.fieldAt 39 x6 3)) fun t133_3 =>
  wpB (ldv Tryz.prog 3 t133_3 w) fun t134_3 =>
  wpB (bp Tryz.prog .add 3 t132_3 t134_3) fun t135_3 =>
  P53_2 x0 x6 x8 t130_3 t135_3 w Q)))
  (Q (.tuple #[]) w)
def L53_2 (x0 x6 x8 x9 x10 : Value) (w : World) (Q : Value → World → Prop) : Prop :=
  wpB (nilv x0) fun t137 =>
  wpB (pureRun Tryz.prog (Instr.fieldAt 108 t137 4)) fun t138 =>
  wpB (ldv Tryz.prog 105 t138 w) fun t139 =>
  wpB (pureRun Tryz.prog (Instr.indexAt 105 t139 x8)) fun t141 =>
  wpB (pureRun Tryz.prog (Instr.fieldAt 130 t141 6)) fun t142 =>
  wpB (ldv Tryz.prog 86 t142 w) fun t143 =>
  wpB (pureRun Tryz.prog (Instr.indexAt 86 t143 x9)) fun t145 =>
  wpB (ldv Tryz.prog 93 t145 w) fun t146 =>
  wpB (pureRun Tryz.prog (Instr.indexAt 93 t146 x10)) fun t148 =>
  wpB (ldv Tryz.prog 26 t148 w) fun t149 =>
  wpB (pureRun Tryz.prog (Instr.fieldAt 39 x6 0)) fun t151 =>
  wpB (ldv Tryz.prog 3 t151 w) fun t152 =>
  wpB (be Tryz.prog .eql 3 (.tmp 152) (.const (.int .i64 7)) t152 (.int .i64 7)) fun t153 =>
  cnd t153
  (wpB (nilv x0) fun t155 =>
  wpB (pureRun Tryz.prog (Instr.fieldAt 108 t155 4)) fun t156 =>
  wpB (ldv Tryz.prog 105 t156 w.drew) fun t157 =>
  wpB (pureRun Tryz.prog (Instr.indexAt 105 t157 x8)) fun t159 =>
  wpB (pureRun Tryz.prog (Instr.fieldAt 130 t159 6)) fun t160 =>
  wpB (ldv Tryz.prog 86 t160 w.drew) fun t161 =>
  wpB (pureRun Tryz.prog (Instr.indexAt 86 t161 x9)) fun t163 =>
  wpB (ldv Tryz.prog 93 t163 w.drew) fun t164 =>
  wpB (pureRun Tryz.prog (Instr.fieldAt 39 x6 4)) fun t166 =>
  wpB (ldv Tryz.prog 26 t166 w.drew) fun t167 =>
  wpB (pureRun Tryz.prog (Instr.indexAt 93 t164 x10)) fun t168 =>
  effu Tryz.prog (Instr.storeAt 26 t168 t167) w.drew fun w =>
  Q (.tuple #[]) w)
  (wpB (pureRun Tryz.prog (Instr.fieldAt 39 x6 0)) fun t170 =>
  wpB (ldv Tryz.prog 3 t170 w) fun t171 =>
  wpB (be Tryz.prog .eql 3 (.tmp 171) (.const (.int .i64 8)) t171 (.int .i64 8)) fun t172 =>
  cnd t172
  (wpB (nilv x0) fun t174 =>
  wpB (pureRun Tryz.prog (Instr.fieldAt 108 t174 4)) fun t175 =>
  wpB (ldv Tryz.prog 105 t175 w.drew) fun t176 =>
  wpB (pureRun Tryz.prog (Instr.indexAt 105 t176 x8)) fun t178 =>
  wpB (pureRun Tryz.prog (Instr.fieldAt 130 t178 6)) fun t179 =>
  wpB (ldv Tryz.prog 86 t179 w.drew) fun t180 =>
  wpB (pureRun Tryz.prog (Instr.indexAt 86 t180 x9)) fun t182 =>
  wpB (ldv Tryz.prog 93 t182 w.drew) fun t183 =>
  wpB (pureRun Tryz.prog (Instr.fieldAt 39 x6 4)) fun t186 =>
  wpB (ldv Tryz.prog 26 t186 w.drew) fun t187 =>
  wpB (bp Tryz.prog .add 26 t149 t187) fun t188 =>
  wpB (pureRun Tryz.prog (Instr.indexAt 93 t183 x10)) fun t189 =>
  effu Tryz.prog (Instr.storeAt 26 t189 t188) w.drew fun w =>
  Q (.tuple #[]) w)
  (wpB (pureRun Tryz.prog (Instr.fieldAt 39 x6 4)) fun t192 =>
  wpB (ldv Tryz.prog 26 t192 w) fun t193 =>
  wpB (be Tryz.prog .eql 26 (.tmp 191) (.tmp 193) t149 t193) fun t194 =>
  cnd t194
  (wpB (nilv x0) fun t196 =>
  wpB (pureRun Tryz.prog (Instr.fieldAt 108 t196 4)) fun t197 =>
  wpB (ldv Tryz.prog 105 t197 w.drew) fun t198 =>
  wpB (pureRun Tryz.prog (Instr.indexAt 105 t198 x8)) fun t200 =>
  wpB (pureRun Tryz.prog (Instr.fieldAt 130 t200 6)) fun t201 =>
  wpB (ldv Tryz.prog 86 t201 w.drew) fun t202 =>
  wpB (pureRun Tryz.prog (Instr.indexAt 86 t202 x9)) fun t204 =>
  wpB (ldv Tryz.prog 93 t204 w.drew) fun t205 =>
  wpB (pureRun Tryz.prog (Instr.fieldAt 39 x6 5)) fun t207 =>
  wpB (ldv Tryz.prog 26 t207 w.drew) fun t208 =>
  wpB (pureRun Tryz.prog (Instr.indexAt 93 t205 x10)) fun t209 =>
  effu Tryz.prog (Instr.storeAt 26 t209 t208) w.drew fun w =>
  Q (.tuple #[]) w)
  (Q (.tuple #[]) w)))
theorem F53_ok {a0 a1 a2 a3 : Value} {w : World} {Q : Value → World → Prop} (h : F53 a0 a1 a2 a3 w Q) : CallR Tryz.prog 53 [a0, a1, a2, a3] w Q :=
  ah mixed ag Tryz.func53 (c := C53) rfl H53 (Nat.le_of_ble_eq_true rfl) (by kernel_rfl) h
theorem L53_0_ok {x0 x1 x6 x7 x8 : Value} {w : World} {Q : Value → World → Prop} (h : L53_0 x0 x1 x6 x7 x8 w Q) : P53_0 x0 x1 x6 x7 x8 w Q :=
  ar mixed ag Tryz.func53 H53 (by kernel_rfl) h
theorem L53_1_ok {x0 x6 x7 x8 x117 : Value} {w : World} {Q : Value → World → Prop} (h : L53_1 x0 x6 x7 x8 x117 w Q) : P53_1 x0 x6 x7 x8 x117 w Q :=
  ar mixed ag Tryz.func53 H53 (by kernel_rfl) h
theorem L53_2_ok {x0 x6 x8 x9 x10 : Value} {w : World} {Q : Value → World → Prop} (h : L53_2 x0 x6 x8 x9 x10 w Q) : P53_2 x0 x6 x8 x9 x10 w Q :=
  ar mixed ag Tryz.func53 H53 (by kernel_rfl) h

noncomputable def C54 : Code := (Tryz.f54.body).getD .skip
noncomputable def H54 : Hints := ⟨[], [], [(9, (.leaf [0, 1, 2, 3, 4, 5, 6, 7, 8, 9, 10, 11, 12, 13, 14])), (10, (.leaf [0, 1, 2, 3, 4, 5, 6, 7, 8, 9, 10, 11, 12, 13, 14]))]⟩
def F54 (a0 a1 a2 : Value) (w : World) (Q : Value → World → Prop) : Prop :=
  effv Tryz.prog (Instr.box 39 a1) w fun t4 w =>
  effv Tryz.prog (Instr.box 28 a2) w fun t5 w =>
  wpB (ldv Tryz.prog 28 t5 w) fun t9 =>
  wpB (pureRun Tryz.prog (Instr.build 28 #[(0, (.int .i64 7))])) fun t10 =>
  wpB (be Tryz.prog .eql 28 (.tmp 9) (.tmp 10) t9 t10) fun t11 =>
  cnd t11
  (wpB (nilv a0) fun t13 =>
  wpB (pureRun Tryz.prog (Instr.fieldAt 108 t13 1)) fun t14 =>
  wpB (ldv Tryz.prog 4 t14 w) fun t15 =>
  gE t15 false (CallR Tryz.prog 84 [(gv t15 false a0)] w) (fun t18 w =>
  wpB (gd t15 false (be Tryz.prog .eql 3 (.tmp 18) (.const (.int .i64 0)) t18 (.int .i64 0))) fun t19 =>
  wpB (pickv t15 (some (.bool true)) (some t19)) fun t20 =>
  Q t20 w) w)
  (wpB (pureRun Tryz.prog (Instr.fieldAt 28 t5 1)) fun t21 =>
  wpB (pureRun Tryz.prog (Instr.fieldAt 25 t21 0)) fun t22 =>
  wpB (ldv Tryz.prog 3 t22 w) fun t23 =>
  wpB (bp Tryz.prog .lss 3 t23 (.int .i64 0)) fun t25 =>
  wpB (gd t25 false (nilv (gv t25 false a0))) fun t29 =>
  wpB (gd t25 false (pureRun Tryz.prog (Instr.fieldAt 108 t29 0))) fun t30 =>
  wpB (gd t25 false (pureRun Tryz.prog (Instr.fieldAt 33 t30 3))) fun t31 =>
  wpB (gd t25 false (ldv Tryz.prog 3 t31 w)) fun t32 =>
  wpB (gd t25 false (bp Tryz.prog .geq 3 (gv t25 false t23) t32)) fun t33 =>
  wpB (pickv t25 (some (.bool true)) (some t33)) fun t34 =>
  wpB (gd t34 false (nilv (gv t34 false a0))) fun t37 =>
  wpB (gd t34 false (pureRun Tryz.prog (Instr.fieldAt 108 t37 2))) fun t38 =>
  wpB (gd t34 false (ldv Tryz.prog 22 t38 w)) fun t39 =>
  wpB (gd t34 false (pureRun Tryz.prog (Instr.indexAt 22 t39 (gv t34 false t23)))) fun t41 =>
  wpB (gd t34 false (ldv Tryz.prog 3 t41 w)) fun t42 =>
  wpB (gd t34 false (be Tryz.prog .neq 3 (.tmp 42) (.const (.int .i64 0)) t42 (.int .i64 0))) fun t43 =>
  wpB (pickv t34 (some (.bool true)) (some t43)) fun t44 =>
  cnd t44
  (Q (.bool false) w)
  (wpB (nilv a0) fun t46 =>
  wpB (pureRun Tryz.prog (Instr.fieldAt 108 t46 3)) fun t47 =>
  wpB (ldv Tryz.prog 22 t47 w) fun t48 =>
  wpB (pureRun Tryz.prog (Instr.indexAt 22 t48 t23)) fun t50 =>
  wpB (ldv Tryz.prog 3 t50 w) fun t51 =>
  CallR Tryz.prog 51 [t51] w fun t52 w =>
  wpB (ldv Tryz.prog 28 t5 w) fun t53 =>
  wpB (pureRun Tryz.prog (Instr.build 25 #[(0, t23), (1, t52)])) fun t56 =>
  wpB (pureRun Tryz.prog (Instr.build 28 #[(1, t56)])) fun t57 =>
  wpB (be Tryz.prog .neq 28 (.tmp 53) (.tmp 57) t53 t57) fun t58 =>
  cnd t58
  (Q (.bool false) w)
  (wpB (nilv a0) fun t60 =>
  wpB (pureRun Tryz.prog (Instr.fieldAt 108 t60 2)) fun t61 =>
  wpB (ldv Tryz.prog 22 t61 w.drew) fun t62 =>
  wpB (nilv a0) fun t65 =>
  wpB (pureRun Tryz.prog (Instr.fieldAt 108 t65 3)) fun t66 =>
  wpB (ldv Tryz.prog 22 t66 w.drew) fun t67 =>
  wpB (pureRun Tryz.prog (Instr.indexAt 22 t62 t23)) fun t70 =>
  effu Tryz.prog (Instr.storeAt 3 t70 (.int .i64 1)) w.drew fun w =>
  wpB (pureRun Tryz.prog (Instr.indexAt 22 t67 t23)) fun t71 =>
  effu Tryz.prog (Instr.storeAt 3 t71 t52) w fun w =>
  wpB (nilv a0) fun t74 =>
  wpB (pureRun Tryz.prog (Instr.fieldAt 108 t74 4)) fun t75 =>
  wpB (ldv Tryz.prog 105 t75 w.drew) fun t76 =>
  wpB (pureRun Tryz.prog (Instr.fieldAt 39 t4 3)) fun t79 =>
  wpB (ldv Tryz.prog 3 t79 w.drew) fun t80 =>
  wpB (pureRun Tryz.prog (Instr.build 130 #[(0, t23), (1, t52), (2, t80), (4, (.bool true))])) fun t81 =>
  effv Tryz.prog (Instr.buildSlice 105 1 #[(0, t81)]) w.drew fun t82 w =>
  effv Tryz.prog (Builtin.append_ #[105, 105] 105 #[t76, t82]) w fun t83 w =>
  wpB (nilv a0) fun t84 =>
  wpB (pureRun Tryz.prog (Instr.fieldAt 108 t84 4)) fun t85 =>
  effu Tryz.prog (Instr.storeAt 105 t85 t83) w fun w =>
  Q (.bool true) w)))
theorem F54_ok {a0 a1 a2 : Value} {w : World} {Q : Value → World → Prop} (h : F54 a0 a1 a2 w Q) : CallR Tryz.prog 54 [a0, a1, a2] w Q :=
  ah mixed ag Tryz.func54 (c := C54) rfl H54 (Nat.le_of_ble_eq_true rfl) (by kernel_rfl) h

noncomputable def C55 : Code := (Tryz.f55.body).getD .skip
noncomputable def H55 : Hints := ⟨[], [(9, [0, 7, 9, 10, 11, 12]), (16, [0, 9, 11, 12]), (17, [0, 9, 11, 12]), (18, [0, 9, 11]), (19, [])], [(6, (.leaf [0, 1, 2, 3, 4, 5, 6, 7, 8, 9, 10, 11])), (8, (.ask 23 29 (.ask 27 29 (.leaf [0, 1, 2, 3, 4, 5, 6, 7, 8, 9, 10, 11, 12, 13, 14, 15, 16, 17, 18, 19, 20, 21, 22, 23, 24, 25, 26, 27, 28, 29, 30, 31]) (.leaf [0, 1, 2, 4, 8, 9, 10, 12, 20, 21, 22, 24, 3, 5, 6, 7, 11, 13, 14, 15, 16, 17, 18, 19, 28, 23, 25, 26, 29, 27, 30, 31])) (.leaf [0, 1, 2, 4, 8, 9, 10, 12, 20, 21, 22, 24, 3, 5, 6, 7, 11, 13, 14, 15, 16, 17, 18, 19, 28, 29, 23, 25, 26, 27, 30, 31]))), (12, (.leaf [0, 1, 2, 3, 4, 5, 6, 7, 8, 9, 10, 11, 12, 13, 14, 15, 16, 17])), (13, (.leaf [0, 1, 2, 3, 4, 5, 6, 7, 8, 9, 10, 11, 12, 13, 14, 15, 16, 17, 18])), (15, (.ask 3 16 (.leaf [0, 1, 2, 3, 4, 5, 6, 7, 8, 9, 10, 11, 12, 13, 14, 15, 16, 17, 18, 19]) (.leaf [0, 1, 2, 4, 5, 6, 7, 9, 13, 8, 10, 11, 12, 14, 15, 16, 3, 17, 18, 19]))), (16, (.ask 3 20 (.leaf [0, 1, 2, 3, 4, 5, 6, 7, 8, 9, 10, 11, 12, 13, 14, 15, 16, 17, 18, 19, 20, 21, 22, 23]) (.leaf [0, 1, 2, 4, 5, 6, 7, 9, 13, 14, 15, 16, 8, 10, 11, 12, 17, 18, 19, 20, 3, 21, 22, 23]))), (17, (.ask 3 11 (.leaf [0, 1, 2, 3, 4, 5, 6, 7, 8, 9, 10, 11, 12, 13, 14]) (.leaf [0, 1, 2, 4, 5, 6, 7, 8, 10, 9, 11, 3, 12, 13, 14]))), (18, (.ask 3 15 (.leaf [0, 1, 2, 3, 4, 5, 6, 7, 8, 9, 10, 11, 12, 13, 14, 15, 16, 17, 18]) (.leaf [0, 1, 2, 4, 5, 6, 7, 9, 8, 10, 11, 12, 13, 14, 15, 3, 16, 17, 18])))]⟩
noncomputable def T55_0 : List It := [.jn (nav [1, 1, 1, 1, 1, 1, 1] C55)]
noncomputable def T55_1 : List It := [.jn (nav [1, 1, 1, 1, 1, 1, 1, 1, 1] C55)]
noncomputable def T55_2 : List It := [.jn (nav [1, 1, 1, 1, 1, 1, 1, 1, 0, 1, 3, 1, 1] C55), .jn (nav [1, 1, 1, 1, 1, 1, 1, 1, 1] C55)]
noncomputable def T55_3 : List It := [.jn (nav [1, 1, 1, 1, 1, 1, 1, 1, 1, 1] C55)]
noncomputable def T55_4 : List It := [.jn (nav [1, 1, 1, 1, 1, 1, 1, 1, 0, 1, 3, 1, 1, 1] C55), .jn (nav [1, 1, 1, 1, 1, 1, 1, 1, 1] C55)]
def P55_0 (x0 x7 x9 x10 x11 x12 : Value) (w : World) (Q : Value → World → Prop) : Prop := Part Tryz.prog 55 T55_0 [0, 7, 9, 10, 11, 12] [x0, x7, x9, x10, x11, x12] w Q
def P55_1 (x0 x9 x11 : Value) (w : World) (Q : Value → World → Prop) : Prop := Part Tryz.prog 55 T55_1 [0, 9, 11] [x0, x9, x11] w Q
def P55_2 (x0 x9 x11 x12 : Value) (w : World) (Q : Value → World → Prop) : Prop := Part Tryz.prog 55 T55_2 [0, 9, 11, 12] [x0, x9, x11, x12] w Q
def P55_3 (w : World) (Q : Value → World → Prop) : Prop := Part Tryz.prog 55 T55_3 [] [] w Q
def P55_4 (x0 x9 x11 x12 : Value) (w : World) (Q : Value → World → Prop) : Prop := Part Tryz.prog 55 T55_4 [0, 9, 11, 12] [x0, x9, x11, x12] w Q
def F55 (a0 a1 a2 a3 : Value) (w : World) (Q : Value → World → Prop) : Prop :=
  effv Tryz.prog (Instr.box 39 a1) w fun t5 w =>
  effv Tryz.prog (Instr.box 25 a2) w fun t6 w =>
  effv Tryz.prog (Instr.box 28 a3) w fun t7 w =>
  wpB (pureRun Tryz.prog (Instr.fieldAt 25 t6 0)) fun t14 =>
  wpB (ldv Tryz.prog 3 t14 w) fun t15 =>
  wpB (pureRun Tryz.prog (Instr.fieldAt 25 t6 1)) fun t16 =>
  wpB (ldv Tryz.prog 3 t16 w) fun t17 =>
  CallR Tryz.prog 79 [a0, t15, t17] w fun t18 w =>
  wpB (pureRun Tryz.prog (Instr.fieldAt 39 t5 3)) fun t21 =>
  wpB (ldv Tryz.prog 3 t21 w) fun t22 =>
  CallR Tryz.prog 85 [a0, t18, t22] w fun t23 w =>
  wpB (ldv Tryz.prog 28 t7 w) fun t24 =>
  wpB (pureRun Tryz.prog (Instr.build 28 #[(0, (.int .i64 6))])) fun t25 =>
  wpB (be Tryz.prog .eql 28 (.tmp 24) (.tmp 25) t24 t25) fun t26 =>
  cnd t26
  (wpB (pureRun Tryz.prog (Op.unary .not t23)) fun t28 =>
  Q t28 w)
  (wpB (pureRun Tryz.prog (Instr.fieldAt 25 t6 0)) fun t29 =>
  wpB (ldv Tryz.prog 3 t29 w) fun t30 =>
  wpB (pureRun Tryz.prog (Instr.fieldAt 25 t6 1)) fun t31 =>
  wpB (ldv Tryz.prog 3 t31 w) fun t32 =>
  wpB (pureRun Tryz.prog (Instr.fieldAt 28 t7 1)) fun t33 =>
  wpB (pureRun Tryz.prog (Instr.fieldAt 25 t33 2)) fun t34 =>
  wpB (ldv Tryz.prog 3 t34 w) fun t35 =>
  wpB (pureRun Tryz.prog (Instr.fieldAt 39 t5 3)) fun t36 =>
  wpB (ldv Tryz.prog 3 t36 w) fun t37 =>
  wpB (pureRun Tryz.prog (Instr.build 25 #[(0, t30), (1, t32), (2, t35), (4, t37)])) fun t38 =>
  effv Tryz.prog (Instr.alloc 25 true (.tuple #[])) w fun t11 w =>
  effu Tryz.prog (Instr.storeAt 25 t11 t38) w fun w =>
  wpB (nilv a0) fun t40 =>
  wpB (pureRun Tryz.prog (Instr.fieldAt 108 t40 4)) fun t41 =>
  wpB (ldv Tryz.prog 105 t41 w.drew) fun t42 =>
  wpB (pureRun Tryz.prog (Instr.indexAt 105 t42 t18)) fun t44 =>
  wpB (pureRun Tryz.prog (Instr.fieldAt 130 t44 2)) fun t45 =>
  wpB (ldv Tryz.prog 3 t45 w.drew) fun t46 =>
  wpB (pureRun Tryz.prog (Instr.fieldAt 39 t5 3)) fun t47 =>
  wpB (ldv Tryz.prog 3 t47 w.drew) fun t48 =>
  CallR Tryz.prog 86 [t46, t48] w.drew fun t49 w =>
  cnd t23
  (((wpB (nilv a0) fun t52 =>
  wpB (pureRun Tryz.prog (Instr.fieldAt 108 t52 4)) fun t53 =>
  wpB (ldv Tryz.prog 105 t53 w.drew) fun t54 =>
  wpB (pureRun Tryz.prog (Instr.indexAt 105 t54 t18)) fun t56 =>
  wpB (pureRun Tryz.prog (Instr.fieldAt 130 t56 5)) fun t57 =>
  wpB (ldv Tryz.prog 22 t57 w.drew) fun t58 =>
  wpB (nilv a0) fun t60 =>
  wpB (pureRun Tryz.prog (Instr.fieldAt 108 t60 4)) fun t61 =>
  wpB (ldv Tryz.prog 105 t61 w.drew) fun t62 =>
  wpB (pureRun Tryz.prog (Instr.indexAt 105 t62 t18)) fun t64 =>
  wpB (pureRun Tryz.prog (Instr.fieldAt 130 t64 5)) fun t65 =>
  wpB (ldv Tryz.prog 22 t65 w.drew) fun t66 =>
  wpB (pureRun Tryz.prog (Builtin.len_ #[22] 3 #[t66])) fun t67 =>
  wpB (bp Tryz.prog .sub 3 t67 (.int .i64 1)) fun t68 =>
  wpB (pureRun Tryz.prog (Instr.indexAt 22 t58 t68)) fun t69 =>
  wpB (ldv Tryz.prog 3 t69 w.drew) fun t70 =>
  wpB (nilv a0) fun t72 =>
  wpB (pureRun Tryz.prog (Instr.fieldAt 108 t72 4)) fun t73 =>
  wpB (ldv Tryz.prog 105 t73 w.drew) fun t74 =>
  wpB (pureRun Tryz.prog (Instr.indexAt 105 t74 t18)) fun t76 =>
  wpB (pureRun Tryz.prog (Instr.fieldAt 130 t76 3)) fun t77 =>
  wpB (ldv Tryz.prog 3 t77 w.drew) fun t78 =>
  wpB (pureRun Tryz.prog (Instr.fieldAt 25 t11 2)) fun t79 =>
  effu Tryz.prog (Instr.storeAt 3 t79 t70) w.drew fun w =>
  wpB (pureRun Tryz.prog (Instr.fieldAt 25 t11 3)) fun t80 =>
  effu Tryz.prog (Instr.storeAt 3 t80 t78) w fun w =>
  P55_0 a0 t7 t18 t23 t11 t49 w Q) ∧
  (wpB (nilv a0) fun t52_1 =>
  wpB (pureRun Tryz.prog (Instr.fieldAt 108 t52_1 4)) fun t53_1 =>
  wpB (nilv a0) fun t60_1 =>
  wpB (pureRun Tryz.prog (Instr.fieldAt 108 t60_1 4)) fun t61_1 =>
  wpB (nilv a0) fun t72_1 =>
  wpB (pureRun Tryz.prog (Instr.fieldAt 108 t72_1 4)) fun t73_1 =>
  wpB (ldv Tryz.prog 105 t53_1 w.drew) fun t54_1 =>
  wpB (pureRun Tryz.prog (Instr.indexAt 105 t54_1 t18)) fun t56_1 =>
  wpB (pureRun Tryz.prog (Instr.fieldAt 130 t56_1 5)) fun t57_1 =>
  wpB (ldv Tryz.prog 22 t57_1 w.drew) fun t58_1 =>
  wpB (ldv Tryz.prog 105 t61_1 w.drew) fun t62_1 =>
  wpB (pureRun Tryz.prog (Instr.indexAt 105 t62_1 t18)) fun t64_1 =>
  wpB (pureRun Tryz.prog (Instr.fieldAt 130 t64_1 5)) fun t65_1 =>
  wpB (ldv Tryz.prog 22 t65_1 w.drew) fun t66_1 =>
  wpB (pureRun Tryz.prog (Builtin.len_ #[22] 3 #[t66_1])) fun t67_1 =>
  wpB (bp Tryz.prog .sub 3 t67_1 (.int .i64 1)) fun t68_1 =>
  wpB (pureRun Tryz.prog (Instr.indexAt 22 t58_1 t68_1)) fun t69_1 =>
  wpB (ldv Tryz.prog 3 t69_1 w.drew) fun t70_1 =>
  wpB (pureRun Tryz.prog (Instr.fieldAt 25 t11 2)) fun t79_1 =>
  wpB (ldv Tryz.prog 105 t73_1 w.drew) fun t74_1 =>
  wpB (pureRun Tryz.prog (Instr.indexAt 105 t74_1 t18)) fun t76_1 =>
  wpB (pureRun Tryz.prog (Instr.fieldAt 130 t76_1 3)) fun t77_1 =>
  effu Tryz.prog (Instr.storeAt 3 t79_1 t70_1) w.drew fun w =>
  wpB (ldv Tryz.prog 3 t77_1 w) fun t78_1 =>
  wpB (pureRun Tryz.prog (Instr.fieldAt 25 t11 3)) fun t80_1 =>
  effu Tryz.prog (Instr.storeAt 3 t80_1 t78_1) w fun w =>
  P55_0 a0 t7 t18 t23 t11 t49 w Q)) ∧
  (wpB (nilv a0) fun t52_2 =>
  wpB (pureRun Tryz.prog (Instr.fieldAt 108 t52_2 4)) fun t53_2 =>
  wpB (nilv a0) fun t60_2 =>
  wpB (pureRun Tryz.prog (Instr.fieldAt 108 t60_2 4)) fun t61_2 =>
  wpB (nilv a0) fun t72_2 =>
  wpB (pureRun Tryz.prog (Instr.fieldAt 108 t72_2 4)) fun t73_2 =>
  wpB (ldv Tryz.prog 105 t53_2 w.drew) fun t54_2 =>
  wpB (pureRun Tryz.prog (Instr.indexAt 105 t54_2 t18)) fun t56_2 =>
  wpB (pureRun Tryz.prog (Instr.fieldAt 130 t56_2 5)) fun t57_2 =>
  wpB (ldv Tryz.prog 22 t57_2 w.drew) fun t58_2 =>
  wpB (ldv Tryz.prog 105 t61_2 w.drew) fun t62_2 =>
  wpB (pureRun Tryz.prog (Instr.indexAt 105 t62_2 t18)) fun t64_2 =>
  wpB (pureRun Tryz.prog (Instr.fieldAt 130 t64_2 5)) fun t65_2 =>
  wpB (ldv Tryz.prog 22 t65_2 w.drew) fun t66_2 =>
  wpB (pureRun Tryz.prog (Builtin.len_ #[22] 3 #[t66_2])) fun t67_2 =>
  wpB (bp Tryz.prog .sub 3 t67_2 (.int .i64 1)) fun t68_2 =>
  wpB (pureRun Tryz.prog (Instr.indexAt 22 t58_2 t68_2)) fun t69_2 =>
  wpB (ldv Tryz.prog 3 t69_2 w.drew) fun t70_2 =>
  wpB (pureRun Tryz.prog (Instr.fieldAt 25 t11 2)) fun t79_2 =>
  effu Tryz.prog (Instr.storeAt 3 t79_2 t70_2) w.drew fun w =>
  wpB (ldv Tryz.prog 105 t73_2 w) fun t74_2 =>
  wpB (pureRun Tryz.prog (Instr.indexAt 105 t74_2 t18)) fun t76_2 =>
  wpB (pureRun Tryz.prog (Instr.fieldAt 130 t76_2 3)) fun t77_2 =>
  wpB (ldv Tryz.prog 3 t77_2 w) fun t78_2 =>
  wpB (pureRun Tryz.prog (Instr.fieldAt 25 t11 3)) fun t80_2 =>
  effu Tryz.prog (Instr.storeAt 3 t80_2 t78_2) w fun w =>
  P55_0 a0 t7 t18 t23 t11 t49 w Q))
  (P55_0 a0 t7 t18 t23 t11 t49 w Q))
def L55_0 (x0 x7 x9 x10 x11 x12 : Value) (w : World) (Q : Value → World → Prop) : Prop :=
  wpB (ldv Tryz.prog 28 x7 w) fun t81 =>
  wpB (ldv Tryz.prog 25 x11 w) fun t82 =>
  wpB (pureRun Tryz.prog (Instr.build 28 #[(1, t82)])) fun t83 =>
  wpB (be Tryz.prog .neq 28 (.tmp 81) (.tmp 83) t81 t83) fun t84 =>
  cnd t84
  (Q (.bool false) w)
  (cnd x10
  (wpB (nilv x0) fun t87 =>
  wpB (pureRun Tryz.prog (Instr.fieldAt 108 t87 4)) fun t88 =>
  wpB (ldv Tryz.prog 105 t88 w.drew) fun t89 =>
  wpB (nilv x0) fun t92 =>
  wpB (pureRun Tryz.prog (Instr.fieldAt 108 t92 4)) fun t93 =>
  wpB (ldv Tryz.prog 105 t93 w.drew) fun t94 =>
  wpB (pureRun Tryz.prog (Instr.indexAt 105 t94 x9)) fun t96 =>
  wpB (pureRun Tryz.prog (Instr.fieldAt 130 t96 3)) fun t97 =>
  wpB (ldv Tryz.prog 3 t97 w.drew) fun t98 =>
  wpB (bp Tryz.prog .add 3 t98 x12) fun t100 =>
  wpB (pureRun Tryz.prog (Instr.indexAt 105 t89 x9)) fun t101 =>
  wpB (pureRun Tryz.prog (Instr.fieldAt 130 t101 3)) fun t102 =>
  effu Tryz.prog (Instr.storeAt 3 t102 t100) w.drew fun w =>
  P55_1 x0 x9 x11 w Q)
  (wpB (pureRun Tryz.prog (Instr.fieldAt 25 x11 2)) fun t103 =>
  wpB (ldv Tryz.prog 3 t103 w.drew) fun t104 =>
  wpB (bp Tryz.prog .lss 3 t104 (.int .i64 0)) fun t105 =>
  wpB (gd t105 false (pureRun Tryz.prog (Instr.fieldAt 25 x11 2))) fun t107 =>
  wpB (gd t105 false (ldv Tryz.prog 3 t107 w.drew)) fun t108 =>
  wpB (gd t105 false (nilv (gv t105 false x0))) fun t110 =>
  wpB (gd t105 false (pureRun Tryz.prog (Instr.fieldAt 108 t110 0))) fun t111 =>
  wpB (gd t105 false (pureRun Tryz.prog (Instr.fieldAt 33 t111 1))) fun t112 =>
  wpB (gd t105 false (ldv Tryz.prog 3 t112 w.drew)) fun t113 =>
  wpB (gd t105 false (bp Tryz.prog .geq 3 t108 t113)) fun t114 =>
  wpB (pickv t105 (some (.bool true)) (some t114)) fun t115 =>
  wpB (gd t115 false (pureRun Tryz.prog (Instr.fieldAt 25 x11 2))) fun t118 =>
  wpB (gd t115 false (ldv Tryz.prog 3 t118 w.drew)) fun t119 =>
  gE t115 false (CallR Tryz.prog 87 [(gv t115 false x0), t119] w.drew) (fun t120 w =>
  wpB (pickv t115 (some (.bool true)) (some t120)) fun t121 =>
  cnd t121
  (Q (.bool false) w)
  ((wpB (nilv x0) fun t123 =>
  wpB (pureRun Tryz.prog (Instr.fieldAt 108 t123 4)) fun t124 =>
  wpB (ldv Tryz.prog 105 t124 w.drew) fun t125 =>
  wpB (nilv x0) fun t128 =>
  wpB (pureRun Tryz.prog (Instr.fieldAt 108 t128 4)) fun t129 =>
  wpB (ldv Tryz.prog 105 t129 w.drew) fun t130 =>
  wpB (pureRun Tryz.prog (Instr.indexAt 105 t130 x9)) fun t132 =>
  wpB (pureRun Tryz.prog (Instr.fieldAt 130 t132 5)) fun t133 =>
  wpB (ldv Tryz.prog 22 t133 w.drew) fun t134 =>
  wpB (pureRun Tryz.prog (Instr.fieldAt 25 x11 2)) fun t135 =>
  wpB (ldv Tryz.prog 3 t135 w.drew) fun t136 =>
  effv Tryz.prog (Instr.buildSlice 22 1 #[(0, t136)]) w.drew fun t137 w =>
  effv Tryz.prog (Builtin.append_ #[22, 22] 22 #[t134, t137]) w fun t138 w =>
  wpB (pureRun Tryz.prog (Instr.indexAt 105 t125 x9)) fun t139 =>
  wpB (pureRun Tryz.prog (Instr.fieldAt 130 t139 5)) fun t140 =>
  effu Tryz.prog (Instr.storeAt 22 t140 t138) w fun w =>
  P55_2 x0 x9 x11 x12 w Q) ∧
  (wpB (nilv x0) fun t123_1 =>
  wpB (pureRun Tryz.prog (Instr.fieldAt 108 t123_1 4)) fun t124_1 =>
  wpB (nilv x0) fun t128_1 =>
  wpB (pureRun Tryz.prog (Instr.fieldAt 108 t128_1 4)) fun t129_1 =>
  wpB (pureRun Tryz.prog (Instr.fieldAt 25 x11 2)) fun t135_1 =>
  wpB (ldv Tryz.prog 105 t129_1 w.drew) fun t130_1 =>
  wpB (pureRun Tryz.prog (Instr.indexAt 105 t130_1 x9)) fun t132_1 =>
  wpB (pureRun Tryz.prog (Instr.fieldAt 130 t132_1 5)) fun t133_1 =>
  wpB (ldv Tryz.prog 22 t133_1 w.drew) fun t134_1 =>
  wpB (ldv Tryz.prog 3 t135_1 w.drew) fun t136_1 =>
  effv Tryz.prog (Instr.buildSlice 22 1 #[(0, t136_1)]) w.drew fun t137_1 w =>
  effv Tryz.prog (Builtin.append_ #[22, 22] 22 #[t134_1, t137_1]) w fun t138_1 w =>
  wpB (ldv Tryz.prog 105 t124_1 w) fun t125_1 =>
  wpB (pureRun Tryz.prog (Instr.indexAt 105 t125_1 x9)) fun t139_1 =>
  wpB (pureRun Tryz.prog (Instr.fieldAt 130 t139_1 5)) fun t140_1 =>
  effu Tryz.prog (Instr.storeAt 22 t140_1 t138_1) w fun w =>
  P55_2 x0 x9 x11 x12 w Q))) w.drew))
def L55_1 (x0 x9 x11 : Value) (w : World) (Q : Value → World → Prop) : Prop :=
  (wpB (nilv x0) fun t179 =>
  wpB (pureRun Tryz.prog (Instr.fieldAt 108 t179 4)) fun t180 =>
  wpB (ldv Tryz.prog 105 t180 w.drew) fun t181 =>
  wpB (nilv x0) fun t184 =>
  wpB (pureRun Tryz.prog (Instr.fieldAt 108 t184 4)) fun t185 =>
  wpB (ldv Tryz.prog 105 t185 w.drew) fun t186 =>
  wpB (pureRun Tryz.prog (Instr.indexAt 105 t186 x9)) fun t188 =>
  wpB (pureRun Tryz.prog (Instr.fieldAt 130 t188 7)) fun t189 =>
  wpB (ldv Tryz.prog 44 t189 w.drew) fun t190 =>
  wpB (ldv Tryz.prog 25 x11 w.drew) fun t191 =>
  effv Tryz.prog (Instr.buildSlice 44 1 #[(0, t191)]) w.drew fun t192 w =>
  effv Tryz.prog (Builtin.append_ #[44, 44] 44 #[t190, t192]) w fun t193 w =>
  wpB (pureRun Tryz.prog (Instr.indexAt 105 t181 x9)) fun t194 =>
  wpB (pureRun Tryz.prog (Instr.fieldAt 130 t194 7)) fun t195 =>
  effu Tryz.prog (Instr.storeAt 44 t195 t193) w fun w =>
  P55_3 w Q) ∧
  (wpB (nilv x0) fun t179_1 =>
  wpB (pureRun Tryz.prog (Instr.fieldAt 108 t179_1 4)) fun t180_1 =>
  wpB (nilv x0) fun t184_1 =>
  wpB (pureRun Tryz.prog (Instr.fieldAt 108 t184_1 4)) fun t185_1 =>
  wpB (ldv Tryz.prog 105 t185_1 w.drew) fun t186_1 =>
  wpB (pureRun Tryz.prog (Instr.indexAt 105 t186_1 x9)) fun t188_1 =>
  wpB (pureRun Tryz.prog (Instr.fieldAt 130 t188_1 7)) fun t189_1 =>
  wpB (ldv Tryz.prog 44 t189_1 w.drew) fun t190_1 =>
  wpB (ldv Tryz.prog 25 x11 w.drew) fun t191_1 =>
  effv Tryz.prog (Instr.buildSlice 44 1 #[(0, t191_1)]) w.drew fun t192_1 w =>
  effv Tryz.prog (Builtin.append_ #[44, 44] 44 #[t190_1, t192_1]) w fun t193_1 w =>
  wpB (ldv Tryz.prog 105 t180_1 w) fun t181_1 =>
  wpB (pureRun Tryz.prog (Instr.indexAt 105 t181_1 x9)) fun t194_1 =>
  wpB (pureRun Tryz.prog (Instr.fieldAt 130 t194_1 7)) fun t195_1 =>
  effu Tryz.prog (Instr.storeAt 44 t195_1 t193_1) w fun w =>
  P55_3 w Q)
def L55_2 (x0 x9 x11 x12 : Value) (w : World) (Q : Value → World → Prop) : Prop :=
  (wpB (nilv x0) fun t142 =>
  wpB (pureRun Tryz.prog (Instr.fieldAt 108 t142 4)) fun t143 =>
  wpB (ldv Tryz.prog 105 t143 w.drew) fun t144 =>
  wpB (nilv x0) fun t147 =>
  wpB (pureRun Tryz.prog (Instr.fieldAt 108 t147 4)) fun t148 =>
  wpB (ldv Tryz.prog 105 t148 w.drew) fun t149 =>
  wpB (pureRun Tryz.prog (Instr.indexAt 105 t149 x9)) fun t151 =>
  wpB (pureRun Tryz.prog (Instr.fieldAt 130 t151 6)) fun t152 =>
  wpB (ldv Tryz.prog 86 t152 w.drew) fun t153 =>
  wpB (nilv x0) fun t155 =>
  wpB (pureRun Tryz.prog (Instr.fieldAt 108 t155 0)) fun t156 =>
  wpB (pureRun Tryz.prog (Instr.fieldAt 33 t156 2)) fun t157 =>
  wpB (ldv Tryz.prog 3 t157 w.drew) fun t158 =>
  effv Tryz.prog (Instr.makeSlice 93 t158 t158) w.drew fun t159 w =>
  effv Tryz.prog (Instr.buildSlice 86 1 #[(0, t159)]) w fun t160 w =>
  effv Tryz.prog (Builtin.append_ #[86, 86] 86 #[t153, t160]) w fun t161 w =>
  wpB (pureRun Tryz.prog (Instr.indexAt 105 t144 x9)) fun t162 =>
  wpB (pureRun Tryz.prog (Instr.fieldAt 130 t162 6)) fun t163 =>
  effu Tryz.prog (Instr.storeAt 86 t163 t161) w fun w =>
  P55_4 x0 x9 x11 x12 w Q) ∧
  (wpB (nilv x0) fun t142_1 =>
  wpB (pureRun Tryz.prog (Instr.fieldAt 108 t142_1 4)) fun t143_1 =>
  wpB (nilv x0) fun t147_1 =>
  wpB (pureRun Tryz.prog (Instr.fieldAt 108 t147_1 4)) fun t148_1 =>
  wpB (nilv x0) fun t155_1 =>
  wpB (pureRun Tryz.prog (Instr.fieldAt 108 t155_1 0)) fun t156_1 =>
  wpB (pureRun Tryz.prog (Instr.fieldAt 33 t156_1 2)) fun t157_1 =>
  wpB (ldv Tryz.prog 105 t148_1 w.drew) fun t149_1 =>
  wpB (pureRun Tryz.prog (Instr.indexAt 105 t149_1 x9)) fun t151_1 =>
  wpB (pureRun Tryz.prog (Instr.fieldAt 130 t151_1 6)) fun t152_1 =>
  wpB (ldv Tryz.prog 86 t152_1 w.drew) fun t153_1 =>
  wpB (ldv Tryz.prog 3 t157_1 w.drew) fun t158_1 =>
  effv Tryz.prog (Instr.makeSlice 93 t158_1 t158_1) w.drew fun t159_1 w =>
  effv Tryz.prog (Instr.buildSlice 86 1 #[(0, t159_1)]) w fun t160_1 w =>
  effv Tryz.prog (Builtin.append_ #[86, 86] 86 #[t153_1, t160_1]) w fun t161_1 w =>
  wpB (ldv Tryz.prog 105 t143_1 w) fun t144_1 =>
  wpB (pureRun Tryz.prog (Instr.indexAt 105 t144_1 x9)) fun t162_1 =>
  wpB (pureRun Tryz.prog (Instr.fieldAt 130 t162_1 6)) fun t163_1 =>
  effu Tryz.prog (Instr.storeAt 86 t163_1 t161_1) w fun w =>
  P55_4 x0 x9 x11 x12 w Q)
def L55_3 (w : World) (Q : Value → World → Prop) : Prop :=
  Q (.bool true) w
def L55_4 (x0 x9 x11 x12 : Value) (w : World) (Q : Value → World → Prop) : Prop :=
  (wpB (nilv x0) fun t165 =>
  wpB (pureRun Tryz.prog (Instr.fieldAt 108 t165 4)) fun t166 =>
  wpB (ldv Tryz.prog 105 t166 w.drew) fun t167 =>
  wpB (nilv x0) fun t170 =>
  wpB (pureRun Tryz.prog (Instr.fieldAt 108 t170 0)) fun t171 =>
  wpB (pureRun Tryz.prog (Instr.fieldAt 33 t171 2)) fun t172 =>
  wpB (ldv Tryz.prog 3 t172 w.drew) fun t173 =>
  CallR Tryz.prog 88 [t173, x12] w.drew fun t175 w =>
  wpB (pureRun Tryz.prog (Instr.indexAt 105 t167 x9)) fun t176 =>
  wpB (pureRun Tryz.prog (Instr.fieldAt 130 t176 3)) fun t177 =>
  effu Tryz.prog (Instr.storeAt 3 t177 t175) w fun w =>
  P55_1 x0 x9 x11 w Q) ∧
  (wpB (nilv x0) fun t165_1 =>
  wpB (pureRun Tryz.prog (Instr.fieldAt 108 t165_1 4)) fun t166_1 =>
  wpB (nilv x0) fun t170_1 =>
  wpB (pureRun Tryz.prog (Instr.fieldAt 108 t170_1 0)) fun t171_1 =>
  wpB (pureRun Tryz.prog (Instr.fieldAt 33 t171_1 2)) fun t172_1 =>
  wpB (ldv Tryz.prog 3 t172_1 w.drew) fun t173_1 =>
  CallR Tryz.prog 88 [t173_1, x12] w.drew fun t175_1 w =>
  wpB (ldv Tryz.prog 105 t166_1 w) fun t167_1 =>
  wpB (pureRun Tryz.prog (Instr.indexAt 105 t167_1 x9)) fun t176_1 =>
  wpB (pureRun Tryz.prog (Instr.fieldAt 130 t176_1 3)) fun t177_1 =>
  effu Tryz.prog (Instr.storeAt 3 t177_1 t175_1) w fun w =>
  P55_1 x0 x9 x11 w Q)
theorem F55_ok {a0 a1 a2 a3 : Value} {w : World} {Q : Value → World → Prop} (h : F55 a0 a1 a2 a3 w Q) : CallR Tryz.prog 55 [a0, a1, a2, a3] w Q :=
  ah mixed ag Tryz.func55 (c := C55) rfl H55 (Nat.le_of_ble_eq_true rfl) (by kernel_rfl) h
theorem L55_0_ok {x0 x7 x9 x10 x11 x12 : Value} {w : World} {Q : Value → World → Prop} (h : L55_0 x0 x7 x9 x10 x11 x12 w Q) : P55_0 x0 x7 x9 x10 x11 x12 w Q :=
  ar mixed ag Tryz.func55 H55 (by kernel_rfl) h
theorem L55_1_ok {x0 x9 x11 : Value} {w : World} {Q : Value → World → Prop} (h : L55_1 x0 x9 x11 w Q) : P55_1 x0 x9 x11 w Q :=
  ar mixed ag Tryz.func55 H55 (by kernel_rfl) h
theorem L55_2_ok {x0 x9 x11 x12 : Value} {w : World} {Q : Value → World → Prop} (h : L55_2 x0 x9 x11 x12 w Q) : P55_2 x0 x9 x11 x12 w Q :=
  ar mixed ag Tryz.func55 H55 (by kernel_rfl) h
theorem L55_3_ok {w : World} {Q : Value → World → Prop} (h : L55_3  w Q) : P55_3  w Q :=
  ar mixed ag Tryz.func55 H55 (by kernel_rfl) h
theorem L55_4_ok {x0 x9 x11 x12 : Value} {w : World} {Q : Value → World → Prop} (h : L55_4 x0 x9 x11 x12 w Q) : P55_4 x0 x9 x11 x12 w Q :=
  ar mixed ag Tryz.func55 H55 (by kernel_rfl) h

noncomputable def C78 : Code := (Tryz.f78.body).getD .skip
noncomputable def H78 : Hints := ⟨[], [], []⟩
def F78 (a0 a1 a2 : Value) (w : World) (Q : Value → World → Prop) : Prop :=
  effv Tryz.prog (Instr.box 39 a1) w fun t4 w =>
  effv Tryz.prog (Instr.box 25 a2) w fun t5 w =>
  wpB (ldv Tryz.prog 25 t5 w) fun t11 =>
  CallR Tryz.prog 105 [a0, t11] w fun t12 w =>
  wpB (pureRun Tryz.prog (Instr.extract t12 0)) fun t13 =>
  wpB (pureRun Tryz.prog (Instr.extract t12 1)) fun t14 =>
  wpB (pureRun Tryz.prog (Instr.fieldAt 39 t4 0)) fun t15 =>
  wpB (ldv Tryz.prog 3 t15 w) fun t16 =>
  CallR Tryz.prog 29 [t16] w fun t17 w =>
  wpB (be Tryz.prog .eql 3 (.tmp 17) (.const (.int .i64 1)) t17 (.int .i64 1)) fun t19 =>
  cnd t19
  (Q t13 w)
  (wpB (be Tryz.prog .eql 3 (.tmp 17) (.const (.int .i64 2)) t17 (.int .i64 2)) fun t22 =>
  cnd t22
  (Q t14 w)
  (wpB (be Tryz.prog .eql 3 (.tmp 17) (.const (.int .i64 3)) t17 (.int .i64 3)) fun t25 =>
  cnd t25
  (wpB (pickv t13 (some (.bool true)) (some (gv t13 false t14))) fun t29 =>
  Q t29 w)
  (Q (.bool true) w)))
theorem F78_ok {a0 a1 a2 : Value} {w : World} {Q : Value → World → Prop} (h : F78 a0 a1 a2 w Q) : CallR Tryz.prog 78 [a0, a1, a2] w Q :=
  ah mixed ag Tryz.func78 (c := C78) rfl H78 (Nat.le_of_ble_eq_true rfl) (by kernel_rfl) h

noncomputable def C79 : Code := (Tryz.f79.body).getD .skip
noncomputable def H79 : Hints := ⟨[(2, [0, 1, 2, 7])], [], []⟩
noncomputable def T79_0 : List It := [.lp (nav [1, 0, 1, 4, 5] C79), .blk 0, .jn (nav [1, 1] C79)]
def P79_0 (x0 x1 x2 x7 : Value) (w : World) (Q : Value → World → Prop) : Prop := Part Tryz.prog 79 T79_0 [0, 1, 2, 7] [x0, x1, x2, x7] w Q
def F79 (a0 a1 a2 : Value) (w : World) (Q : Value → World → Prop) : Prop :=
  P79_0 a0 a1 a2 (.int .i64 0) w Q
def L79_0 (x0 x1 x2 x7 : Value) (w : World) (Q : Value → World → Prop) : Prop :=
  wpB (nilv x0) fun t10 =>
  wpB (pureRun Tryz.prog (Instr.fieldAt 108 t10 4)) fun t11 =>
  wpB (ldv Tryz.prog 105 t11 w) fun t12 =>
  wpB (pureRun Tryz.prog (Builtin.len_ #[105] 3 #[t12])) fun t13 =>
  wpB (bp Tryz.prog .lss 3 x7 t13) fun t14 =>
  cnd t14
  (wpB (nilv x0) fun t18 =>
  wpB (pureRun Tryz.prog (Instr.fieldAt 108 t18 4)) fun t19 =>
  wpB (ldv Tryz.prog 105 t19 w) fun t20 =>
  wpB (pureRun Tryz.prog (Instr.indexAt 105 t20 x7)) fun t22 =>
  wpB (pureRun Tryz.prog (Instr.fieldAt 130 t22 0)) fun t23 =>
  wpB (ldv Tryz.prog 3 t23 w) fun t24 =>
  wpB (be Tryz.prog .eql 3 (.tmp 24) (.tmp 25) t24 x1) fun t26 =>
  wpB (gd t26 true (nilv (gv t26 true x0))) fun t29 =>
  wpB (gd t26 true (pureRun Tryz.prog (Instr.fieldAt 108 t29 4))) fun t30 =>
  wpB (gd t26 true (ldv Tryz.prog 105 t30 w)) fun t31 =>
  wpB (gd t26 true (pureRun Tryz.prog (Instr.indexAt 105 t31 (gv t26 true x7)))) fun t33 =>
  wpB (gd t26 true (pureRun Tryz.prog (Instr.fieldAt 130 t33 1))) fun t34 =>
  wpB (gd t26 true (ldv Tryz.prog 3 t34 w)) fun t35 =>
  wpB (gd t26 true (be Tryz.prog .eql 3 (.tmp 35) (.tmp 36) t35 (gv t26 true x2))) fun t37 =>
  wpB (pickv t26 (some t37) (some (.bool false))) fun t38 =>
  cnd t38
  (Q x7 w)
  (wpB (bp Tryz.prog .add 3 x7 (.int .i64 1)) fun t16 =>
  P79_0 x0 x1 x2 t16 w Q))
  (Q (.int .i64 (-1)) w)
theorem F79_ok {a0 a1 a2 : Value} {w : World} {Q : Value → World → Prop} (h : F79 a0 a1 a2 w Q) : CallR Tryz.prog 79 [a0, a1, a2] w Q :=
  ah mixed ag Tryz.func79 (c := C79) rfl H79 (Nat.le_of_ble_eq_true rfl) (by kernel_rfl) h
theorem L79_0_ok {x0 x1 x2 x7 : Value} {w : World} {Q : Value → World → Prop} (h : L79_0 x0 x1 x2 x7 w Q) : P79_0 x0 x1 x2 x7 w Q :=
  aQ mixed ag Tryz.func79 H79 (by kernel_rfl) h

noncomputable def C80 : Code := (Tryz.f80.body).getD .skip
noncomputable def H80 : Hints := ⟨[(2, [0, 1, 2, 3, 9])], [], []⟩
noncomputable def T80_0 : List It := [.lp (nav [1, 0, 1, 4, 5] C80), .blk 0, .jn (nav [1, 1] C80)]
def P80_0 (x0 x1 x2 x3 x9 : Value) (w : World) (Q : Value → World → Prop) : Prop := Part Tryz.prog 80 T80_0 [0, 1, 2, 3, 9] [x0, x1, x2, x3, x9] w Q
def F80 (a0 a1 a2 a3 : Value) (w : World) (Q : Value → World → Prop) : Prop :=
  P80_0 a0 a1 a2 a3 (.int .i64 0) w Q
def L80_0 (x0 x1 x2 x3 x9 : Value) (w : World) (Q : Value → World → Prop) : Prop :=
  wpB (nilv x0) fun t12 =>
  wpB (pureRun Tryz.prog (Instr.fieldAt 108 t12 6)) fun t13 =>
  wpB (ldv Tryz.prog 106 t13 w) fun t14 =>
  wpB (pureRun Tryz.prog (Instr.indexAt 106 t14 x1)) fun t16 =>
  wpB (ldv Tryz.prog 131 t16 w) fun t17 =>
  wpB (pureRun Tryz.prog (Builtin.len_ #[131] 3 #[t17])) fun t18 =>
  wpB (bp Tryz.prog .lss 3 x9 t18) fun t19 =>
  cnd t19
  (wpB (nilv x0) fun t23 =>
  wpB (pureRun Tryz.prog (Instr.fieldAt 108 t23 6)) fun t24 =>
  wpB (ldv Tryz.prog 106 t24 w) fun t25 =>
  wpB (pureRun Tryz.prog (Instr.indexAt 106 t25 x1)) fun t27 =>
  wpB (ldv Tryz.prog 131 t27 w) fun t28 =>
  wpB (pureRun Tryz.prog (Instr.indexAt 131 t28 x9)) fun t30 =>
  wpB (ldv Tryz.prog 136 t30 w) fun t31 =>
  wpB (pureRun Tryz.prog (Instr.build 136 #[(0, x2), (1, x3)])) fun t34 =>
  wpB (be Tryz.prog .eql 136 (.tmp 31) (.tmp 34) t31 t34) fun t35 =>
  cnd t35
  (Q (.bool true) w)
  (wpB (bp Tryz.prog .add 3 x9 (.int .i64 1)) fun t21 =>
  P80_0 x0 x1 x2 x3 t21 w Q))
  (Q (.bool false) w)
theorem F80_ok {a0 a1 a2 a3 : Value} {w : World} {Q : Value → World → Prop} (h : F80 a0 a1 a2 a3 w Q) : CallR Tryz.prog 80 [a0, a1, a2, a3] w Q :=
  ah mixed ag Tryz.func80 (c := C80) rfl H80 (Nat.le_of_ble_eq_true rfl) (by kernel_rfl) h
theorem L80_0_ok {x0 x1 x2 x3 x9 : Value} {w : World} {Q : Value → World → Prop} (h : L80_0 x0 x1 x2 x3 x9 w Q) : P80_0 x0 x1 x2 x3 x9 w Q :=
  aQ mixed ag Tryz.func80 H80 (by kernel_rfl) h

noncomputable def C81 : Code := (Tryz.f81.body).getD .skip
noncomputable def H81 : Hints := ⟨[], [(6, [8, 10, 11]), (9, [8, 10, 11, 57, 58]), (13, [10])], [(5, (.ask 3 17 (.ask 7 17 (.ask 21 17 (.ask 23 17 (.leaf [0, 1, 2, 4, 8, 9, 10, 12, 15, 20, 22, 3, 5, 6, 7, 11, 13, 14, 16, 21, 23, 24, 17, 18, 19, 25, 26, 27]) (.leaf [0, 1, 2, 4, 8, 9, 10, 12, 15, 20, 22, 3, 5, 6, 7, 11, 13, 14, 16, 21, 17, 18, 19, 23, 24, 25, 26, 27])) (.ask 23 17 (.leaf [0, 1, 2, 4, 8, 9, 10, 12, 15, 20, 22, 3, 5, 6, 7, 11, 13, 14, 16, 23, 17, 18, 19, 21, 24, 25, 26, 27]) (.leaf [0, 1, 2, 3, 4, 5, 6, 7, 8, 9, 10, 11, 12, 13, 14, 15, 16, 17, 18, 19, 20, 21, 22, 23, 24, 25, 26, 27]))) (.ask 21 17 (.ask 23 17 (.leaf [0, 1, 2, 4, 8, 9, 10, 12, 15, 20, 22, 3, 5, 6, 11, 13, 14, 16, 21, 23, 24, 17, 7, 18, 19, 25, 26, 27]) (.leaf [0, 1, 2, 4, 8, 9, 10, 12, 15, 20, 22, 3, 5, 6, 11, 13, 14, 16, 21, 17, 7, 18, 19, 23, 24, 25, 26, 27])) (.ask 23 17 (.leaf [0, 1, 2, 4, 8, 9, 10, 12, 15, 20, 22, 3, 5, 6, 11, 13, 14, 16, 23, 17, 7, 18, 19, 21, 24, 25, 26, 27]) (.leaf [0, 1, 2, 4, 8, 9, 10, 12, 15, 20, 22, 3, 5, 6, 11, 13, 14, 16, 17, 7, 18, 19, 21, 23, 24, 25, 26, 27])))) (.ask 21 17 (.ask 23 17 (.leaf [0, 1, 2, 4, 8, 9, 10, 12, 15, 20, 22, 11, 13, 14, 16, 21, 23, 24, 17, 3, 5, 6, 7, 18, 19, 25, 26, 27]) (.leaf [0, 1, 2, 4, 8, 9, 10, 12, 15, 20, 22, 11, 13, 14, 16, 21, 17, 3, 5, 6, 7, 18, 19, 23, 24, 25, 26, 27])) (.ask 23 17 (.leaf [0, 1, 2, 4, 8, 9, 10, 12, 15, 20, 22, 11, 13, 14, 16, 23, 17, 3, 5, 6, 7, 18, 19, 21, 24, 25, 26, 27]) (.leaf [0, 1, 2, 4, 8, 9, 10, 12, 15, 20, 22, 11, 13, 14, 16, 17, 3, 5, 6, 7, 18, 19, 21, 23, 24, 25, 26, 27])))))]⟩
noncomputable def T81_0 : List It := [.jn (nav [1, 1, 1] C81)]
noncomputable def T81_1 : List It := [.jn (nav [1, 1, 1, 0, 1, 4, 1] C81), .blk 1, .jn (nav [1, 1, 1, 1] C81)]
noncomputable def T81_2 : List It := [.jn (nav [1, 1, 1, 1] C81)]
def P81_0 (x8 x10 x11 : Value) (w : World) (Q : Value → World → Prop) : Prop := Part Tryz.prog 81 T81_0 [8, 10, 11] [x8, x10, x11] w Q
def P81_1 (x8 x10 x11 x57 x58 : Value) (w : World) (Q : Value → World → Prop) : Prop := Part Tryz.prog 81 T81_1 [8, 10, 11, 57, 58] [x8, x10, x11, x57, x58] w Q
def P81_2 (x10 : Value) (w : World) (Q : Value → World → Prop) : Prop := Part Tryz.prog 81 T81_2 [10] [x10] w Q
def F81 (a0 a1 a2 a3 a4 : Value) (w : World) (Q : Value → World → Prop) : Prop :=
  effv Tryz.prog (Instr.box 39 a3) w fun t8 w =>
  effv Tryz.prog (Instr.box 25 a4) w fun t9 w =>
  effv Tryz.prog (Instr.alloc 28 true (.tuple #[])) w fun t10 w =>
  wpB (pureRun Tryz.prog (Instr.fieldAt 25 t9 0)) fun t15 =>
  wpB (ldv Tryz.prog 3 t15 w) fun t16 =>
  wpB (pureRun Tryz.prog (Instr.fieldAt 25 t9 1)) fun t17 =>
  wpB (ldv Tryz.prog 3 t17 w) fun t18 =>
  CallR Tryz.prog 80 [a0, a1, t16, t18] w fun t19 w =>
  wpB (pureRun Tryz.prog (Op.unary .not t19)) fun t20 =>
  cnd t20
  (wpB (pureRun Tryz.prog (Instr.build 28 #[(0, (.int .i64 4))])) fun t21 =>
  effu Tryz.prog (Instr.storeAt 28 t10 t21) w fun w =>
  wpB (ldv Tryz.prog 28 t10 w) fun r10 => Q r10 w)
  (wpB (pureRun Tryz.prog (Instr.fieldAt 39 t8 3)) fun t23 =>
  wpB (ldv Tryz.prog 3 t23 w) fun t24 =>
  wpB (pureRun Tryz.prog (Instr.fieldAt 25 t9 4)) fun t25 =>
  wpB (ldv Tryz.prog 3 t25 w) fun t26 =>
  wpB (bp Tryz.prog .geq 3 t24 t26) fun t27 =>
  cnd t27
  (wpB (pureRun Tryz.prog (Instr.build 28 #[(0, (.int .i64 5))])) fun t28 =>
  effu Tryz.prog (Instr.storeAt 28 t10 t28) w fun w =>
  wpB (ldv Tryz.prog 28 t10 w) fun r10_1 => Q r10_1 w)
  (((((wpB (nilv a0) fun t30 =>
  wpB (pureRun Tryz.prog (Instr.fieldAt 108 t30 4)) fun t31 =>
  wpB (nilv a0) fun t38 =>
  wpB (pureRun Tryz.prog (Instr.fieldAt 108 t38 4)) fun t39 =>
  wpB (pureRun Tryz.prog (Instr.fieldAt 25 t9 2)) fun t44 =>
  wpB (pureRun Tryz.prog (Instr.fieldAt 25 t9 3)) fun t49 =>
  wpB (pureRun Tryz.prog (Instr.fieldAt 39 t8 3)) fun t51 =>
  wpB (ldv Tryz.prog 105 t31 w.drew) fun t32 =>
  wpB (pureRun Tryz.prog (Instr.indexAt 105 t32 a2)) fun t34 =>
  wpB (pureRun Tryz.prog (Instr.fieldAt 130 t34 6)) fun t35 =>
  wpB (ldv Tryz.prog 86 t35 w.drew) fun t36 =>
  wpB (ldv Tryz.prog 105 t39 w.drew) fun t40 =>
  wpB (pureRun Tryz.prog (Instr.indexAt 105 t40 a2)) fun t42 =>
  wpB (ldv Tryz.prog 130 t42 w.drew) fun t43 =>
  wpB (ldv Tryz.prog 3 t44 w.drew) fun t45 =>
  wpB (ldv Tryz.prog 3 t49 w.drew) fun t50 =>
  wpB (ldv Tryz.prog 3 t51 w.drew) fun t52 =>
  wpB (bp Tryz.prog .add 3 t50 t52) fun t53 =>
  CallR Tryz.prog 83 [t43, t45] w.drew fun t46 w =>
  wpB (pureRun Tryz.prog (Instr.indexAt 86 t36 t46)) fun t47 =>
  wpB (ldv Tryz.prog 93 t47 w) fun t48 =>
  wpB (pureRun Tryz.prog (Instr.indexAt 93 t48 t53)) fun t54 =>
  wpB (ldv Tryz.prog 26 t54 w) fun t55 =>
  P81_0 t8 t10 t55 w Q) ∧
  (wpB (nilv a0) fun t30_1 =>
  wpB (pureRun Tryz.prog (Instr.fieldAt 108 t30_1 4)) fun t31_1 =>
  wpB (nilv a0) fun t38_1 =>
  wpB (pureRun Tryz.prog (Instr.fieldAt 108 t38_1 4)) fun t39_1 =>
  wpB (pureRun Tryz.prog (Instr.fieldAt 25 t9 2)) fun t44_1 =>
  wpB (pureRun Tryz.prog (Instr.fieldAt 25 t9 3)) fun t49_1 =>
  wpB (pureRun Tryz.prog (Instr.fieldAt 39 t8 3)) fun t51_1 =>
  wpB (ldv Tryz.prog 105 t31_1 w.drew) fun t32_1 =>
  wpB (pureRun Tryz.prog (Instr.indexAt 105 t32_1 a2)) fun t34_1 =>
  wpB (pureRun Tryz.prog (Instr.fieldAt 130 t34_1 6)) fun t35_1 =>
  wpB (ldv Tryz.prog 86 t35_1 w.drew) fun t36_1 =>
  wpB (ldv Tryz.prog 105 t39_1 w.drew) fun t40_1 =>
  wpB (pureRun Tryz.prog (Instr.indexAt 105 t40_1 a2)) fun t42_1 =>
  wpB (ldv Tryz.prog 130 t42_1 w.drew) fun t43_1 =>
  wpB (ldv Tryz.prog 3 t44_1 w.drew) fun t45_1 =>
  wpB (ldv Tryz.prog 3 t49_1 w.drew) fun t50_1 =>
  CallR Tryz.prog 83 [t43_1, t45_1] w.drew fun t46_1 w =>
  wpB (pureRun Tryz.prog (Instr.indexAt 86 t36_1 t46_1)) fun t47_1 =>
  wpB (ldv Tryz.prog 93 t47_1 w) fun t48_1 =>
  wpB (ldv Tryz.prog 3 t51_1 w) fun t52_1 =>
  wpB (bp Tryz.prog .add 3 t50_1 t52_1) fun t53_1 =>
  wpB (pureRun Tryz.prog (Instr.indexAt 93 t48_1 t53_1)) fun t54_1 =>
  wpB (ldv Tryz.prog 26 t54_1 w) fun t55_1 =>
  P81_0 t8 t10 t55_1 w Q)) ∧
  ((wpB (nilv a0) fun t30_2 =>
  wpB (pureRun Tryz.prog (Instr.fieldAt 108 t30_2 4)) fun t31_2 =>
  wpB (nilv a0) fun t38_2 =>
  wpB (pureRun Tryz.prog (Instr.fieldAt 108 t38_2 4)) fun t39_2 =>
  wpB (pureRun Tryz.prog (Instr.fieldAt 25 t9 2)) fun t44_2 =>
  wpB (pureRun Tryz.prog (Instr.fieldAt 25 t9 3)) fun t49_2 =>
  wpB (pureRun Tryz.prog (Instr.fieldAt 39 t8 3)) fun t51_2 =>
  wpB (ldv Tryz.prog 105 t31_2 w.drew) fun t32_2 =>
  wpB (pureRun Tryz.prog (Instr.indexAt 105 t32_2 a2)) fun t34_2 =>
  wpB (pureRun Tryz.prog (Instr.fieldAt 130 t34_2 6)) fun t35_2 =>
  wpB (ldv Tryz.prog 86 t35_2 w.drew) fun t36_2 =>
  wpB (ldv Tryz.prog 105 t39_2 w.drew) fun t40_2 =>
  wpB (pureRun Tryz.prog (Instr.indexAt 105 t40_2 a2)) fun t42_2 =>
  wpB (ldv Tryz.prog 130 t42_2 w.drew) fun t43_2 =>
  wpB (ldv Tryz.prog 3 t44_2 w.drew) fun t45_2 =>
  wpB (ldv Tryz.prog 3 t51_2 w.drew) fun t52_2 =>
  CallR Tryz.prog 83 [t43_2, t45_2] w.drew fun t46_2 w =>
  wpB (pureRun Tryz.prog (Instr.indexAt 86 t36_2 t46_2)) fun t47_2 =>
  wpB (ldv Tryz.prog 93 t47_2 w) fun t48_2 =>
  wpB (ldv Tryz.prog 3 t49_2 w) fun t50_2 =>
  wpB (bp Tryz.prog .add 3 t50_2 t52_2) fun t53_2 =>
  wpB (pureRun Tryz.prog (Instr.indexAt 93 t48_2 t53_2)) fun t54_2 =>
  wpB (ldv Tryz.prog 26 t54_2 w) fun t55_2 =>
  P81_0 t8 t10 t55_2 w Q) ∧
  (wpB (nilv a0) fun t30_3 =>
  wpB (pureRun Tryz.prog (Instr.fieldAt 108 t30_3 4)) fun t31_3 =>
  wpB (ldv Tryz.prog 105 t31_3 w.drew) fun t32_3 =>
  wpB (pureRun Tryz.prog (Instr.indexAt 105 t32_3 a2)) fun t34_3 =>
  wpB (pureRun Tryz.prog (Instr.fieldAt 130 t34_3 6)) fun t35_3 =>
  wpB (ldv Tryz.prog 86 t35_3 w.drew) fun t36_3 =>
  wpB (nilv a0) fun t38_3 =>
  wpB (pureRun Tryz.prog (Instr.fieldAt 108 t38_3 4)) fun t39_3 =>
  wpB (ldv Tryz.prog 105 t39_3 w.drew) fun t40_3 =>
  wpB (pureRun Tryz.prog (Instr.indexAt 105 t40_3 a2)) fun t42_3 =>
  wpB (ldv Tryz.prog 130 t42_3 w.drew) fun t43_3 =>
  wpB (pureRun Tryz.prog (Instr.fieldAt 25 t9 2)) fun t44_3 =>
  wpB (ldv Tryz.prog 3 t44_3 w.drew) fun t45_3 =>
  CallR Tryz.prog 83 [t43_3, t45_3] w.drew fun t46_3 w =>
  wpB (pureRun Tryz.prog (Instr.indexAt 86 t36_3 t46_3)) fun t47_3 =>
  wpB (ldv Tryz.prog 93 t47_3 w) fun t48_3 =>
  wpB (pureRun Tryz.prog (Instr.fieldAt 25 t9 3)) fun t49_3 =>
  wpB (ldv Tryz.prog 3 t49_3 w) fun t50_3 =>
  wpB (pureRun Tryz.prog (Instr.fieldAt 39 t8 3)) fun t51_3 =>
  wpB (ldv Tryz.prog 3 t51_3 w) fun t52_3 =>
  wpB (bp Tryz.prog .add 3 t50_3 t52_3) fun t53_3 =>
  wpB (pureRun Tryz.prog (Instr.indexAt 93 t48_3 t53_3)) fun t54_3 =>
  wpB (ldv Tryz.prog 26 t54_3 w) fun t55_3 =>
  P81_0 t8 t10 t55_3 w Q))) ∧
  (((wpB (nilv a0) fun t30_4 =>
  wpB (pureRun Tryz.prog (Instr.fieldAt 108 t30_4 4)) fun t31_4 =>
  wpB (nilv a0) fun t38_4 =>
  wpB (pureRun Tryz.prog (Instr.fieldAt 108 t38_4 4)) fun t39_4 =>
  wpB (pureRun Tryz.prog (Instr.fieldAt 25 t9 2)) fun t44_4 =>
  wpB (pureRun Tryz.prog (Instr.fieldAt 25 t9 3)) fun t49_4 =>
  wpB (pureRun Tryz.prog (Instr.fieldAt 39 t8 3)) fun t51_4 =>
  wpB (ldv Tryz.prog 105 t31_4 w.drew) fun t32_4 =>
  wpB (pureRun Tryz.prog (Instr.indexAt 105 t32_4 a2)) fun t34_4 =>
  wpB (pureRun Tryz.prog (Instr.fieldAt 130 t34_4 6)) fun t35_4 =>
  wpB (ldv Tryz.prog 105 t39_4 w.drew) fun t40_4 =>
  wpB (pureRun Tryz.prog (Instr.indexAt 105 t40_4 a2)) fun t42_4 =>
  wpB (ldv Tryz.prog 130 t42_4 w.drew) fun t43_4 =>
  wpB (ldv Tryz.prog 3 t44_4 w.drew) fun t45_4 =>
  wpB (ldv Tryz.prog 3 t49_4 w.drew) fun t50_4 =>
  wpB (ldv Tryz.prog 3 t51_4 w.drew) fun t52_4 =>
  wpB (bp Tryz.prog .add 3 t50_4 t52_4) fun t53_4 =>
  CallR Tryz.prog 83 [t43_4, t45_4] w.drew fun t46_4 w =>
  wpB (ldv Tryz.prog 86 t35_4 w) fun t36_4 =>
  wpB (pureRun Tryz.prog (Instr.indexAt 86 t36_4 t46_4)) fun t47_4 =>
  wpB (ldv Tryz.prog 93 t47_4 w) fun t48_4 =>
  wpB (pureRun Tryz.prog (Instr.indexAt 93 t48_4 t53_4)) fun t54_4 =>
  wpB (ldv Tryz.prog 26 t54_4 w) fun t55_4 =>
  P81_0 t8 t10 t55_4 w Q) ∧
  (wpB (nilv a0) fun t30_5 =>
  wpB (pureRun Tryz.prog (Instr.fieldAt 108 t30_5 4)) fun t31_5 =>
  wpB (nilv a0) fun t38_5 =>
  wpB (pureRun Tryz.prog (Instr.fieldAt 108 t38_5 4)) fun t39_5 =>
  wpB (pureRun Tryz.prog (Instr.fieldAt 25 t9 2)) fun t44_5 =>
  wpB (pureRun Tryz.prog (Instr.fieldAt 25 t9 3)) fun t49_5 =>
  wpB (pureRun Tryz.prog (Instr.fieldAt 39 t8 3)) fun t51_5 =>
  wpB (ldv Tryz.prog 105 t31_5 w.drew) fun t32_5 =>
  wpB (pureRun Tryz.prog (Instr.indexAt 105 t32_5 a2)) fun t34_5 =>
  wpB (pureRun Tryz.prog (Instr.fieldAt 130 t34_5 6)) fun t35_5 =>
  wpB (ldv Tryz.prog 105 t39_5 w.drew) fun t40_5 =>
  wpB (pureRun Tryz.prog (Instr.indexAt 105 t40_5 a2)) fun t42_5 =>
  wpB (ldv Tryz.prog 130 t42_5 w.drew) fun t43_5 =>
  wpB (ldv Tryz.prog 3 t44_5 w.drew) fun t45_5 =>
  wpB (ldv Tryz.prog 3 t49_5 w.drew) fun t50_5 =>
  CallR Tryz.prog 83 [t43_5, t45_5] w.drew fun t46_5 w =>
  wpB (ldv Tryz.prog 86 t35_5 w) fun t36_5 =>
  wpB (pureRun Tryz.prog (Instr.indexAt 86 t36_5 t46_5)) fun t47_5 =>
  wpB (ldv Tryz.prog 93 t47_5 w) fun t48_5 =>
  wpB (ldv Tryz.prog 3 t51_5 w) fun t52_5 =>
  wpB (bp Tryz.prog .add 3 t50_5 t52_5) fun t53_5 =>
  wpB (pureRun Tryz.prog (Instr.indexAt 93 t48_5 t53_5)) fun t54_5 =>
  wpB (ldv Tryz.prog 26 t54_5 w) fun t55_5 =>
  P81_0 t8 t10 t55_5 w Q)) ∧
  ((wpB (nilv a0) fun t30_6 =>
  wpB (pureRun Tryz.prog (Instr.fieldAt 108 t30_6 4)) fun t31_6 =>
  wpB (nilv a0) fun t38_6 =>
  wpB (pureRun Tryz.prog (Instr.fieldAt 108 t38_6 4)) fun t39_6 =>
  wpB (pureRun Tryz.prog (Instr.fieldAt 25 t9 2)) fun t44_6 =>
  wpB (pureRun Tryz.prog (Instr.fieldAt 25 t9 3)) fun t49_6 =>
  wpB (pureRun Tryz.prog (Instr.fieldAt 39 t8 3)) fun t51_6 =>
  wpB (ldv Tryz.prog 105 t31_6 w.drew) fun t32_6 =>
  wpB (pureRun Tryz.prog (Instr.indexAt 105 t32_6 a2)) fun t34_6 =>
  wpB (pureRun Tryz.prog (Instr.fieldAt 130 t34_6 6)) fun t35_6 =>
  wpB (ldv Tryz.prog 105 t39_6 w.drew) fun t40_6 =>
  wpB (pureRun Tryz.prog (Instr.indexAt 105 t40_6 a2)) fun t42_6 =>
  wpB (ldv Tryz.prog 130 t42_6 w.drew) fun t43_6 =>
  wpB (ldv Tryz.prog 3 t44_6 w.drew) fun t45_6 =>
  wpB (ldv Tryz.prog 3 t51_6 w.drew) fun t52_6 =>
  CallR Tryz.prog 83 [t43_6, t45_6] w.drew fun t46_6 w =>
  wpB (ldv Tryz.prog 86 t35_6 w) fun t36_6 =>
  wpB (pureRun Tryz.prog (Instr.indexAt 86 t36_6 t46_6)) fun t47_6 =>
  wpB (ldv Tryz.prog 93 t47_6 w) fun t48_6 =>
  wpB (ldv Tryz.prog 3 t49_6 w) fun t50_6 =>
  wpB (bp Tryz.prog .add 3 t50_6 t52_6) fun t53_6 =>
  wpB (pureRun Tryz.prog (Instr.indexAt 93 t48_6 t53_6)) fun t54_6 =>
  wpB (ldv Tryz.prog 26 t54_6 w) fun t55_6 =>
  P81_0 t8 t10 t55_6 w Q) ∧
  (wpB (nilv a0) fun t30_7 =>
  wpB (pureRun Tryz.prog (Instr.fieldAt 108 t30_7 4)) fun t31_7 =>
  wpB (nilv a0) fun t38_7 =>
  wpB (pureRun Tryz.prog (Instr.fieldAt 108 t38_7 4)) fun t39_7 =>
  wpB (pureRun Tryz.prog (Instr.fieldAt 25 t9 2)) fun t44_7 =>
  wpB (pureRun Tryz.prog (Instr.fieldAt 25 t9 3)) fun t49_7 =>
  wpB (pureRun Tryz.prog (Instr.fieldAt 39 t8 3)) fun t51_7 =>
  wpB (ldv Tryz.prog 105 t31_7 w.drew) fun t32_7 =>
  wpB (pureRun Tryz.prog (Instr.indexAt 105 t32_7 a2)) fun t34_7 =>
  wpB (pureRun Tryz.prog (Instr.fieldAt 130 t34_7 6)) fun t35_7 =>
  wpB (ldv Tryz.prog 105 t39_7 w.drew) fun t40_7 =>
  wpB (pureRun Tryz.prog (Instr.indexAt 105 t40_7 a2)) fun t42_7 =>
  wpB (ldv Tryz.prog 130 t42_7 w.drew) fun t43_7 =>
  wpB (ldv Tryz.prog 3 t44_7 w.drew) fun t45_7 =>
  CallR Tryz.prog 83 [t43_7, t45_7] w.drew fun t46_7 w =>
  wpB (ldv Tryz.prog 86 t35_7 w) fun t36_7 =>
  wpB (pureRun Tryz.prog (Instr.indexAt 86 t36_7 t46_7)) fun t47_7 =>
  wpB (ldv Tryz.prog 93 t47_7 w) fun t48_7 =>
  wpB (ldv Tryz.prog 3 t49_7 w) fun t50_7 =>
  wpB (ldv Tryz.prog 3 t51_7 w) fun t52_7 =>
  wpB (bp Tryz.prog .add 3 t50_7 t52_7) fun t53_7 =>
  wpB (pureRun Tryz.prog (Instr.indexAt 93 t48_7 t53_7)) fun t54_7 =>
  wpB (ldv Tryz.prog 26 t54_7 w) fun t55_7 =>
  P81_0 t8 t10 t55_7 w Q)))) ∧
  (((wpB (nilv a0) fun t30_8 =>
  wpB (pureRun Tryz.prog (Instr.fieldAt 108 t30_8 4)) fun t31_8 =>
  wpB (nilv a0) fun t38_8 =>
  wpB (pureRun Tryz.prog (Instr.fieldAt 108 t38_8 4)) fun t39_8 =>
  wpB (pureRun Tryz.prog (Instr.fieldAt 25 t9 2)) fun t44_8 =>
  wpB (pureRun Tryz.prog (Instr.fieldAt 25 t9 3)) fun t49_8 =>
  wpB (pureRun Tryz.prog (Instr.fieldAt 39 t8 3)) fun t51_8 =>
  wpB (ldv Tryz.prog 105 t39_8 w.drew) fun t40_8 =>
  wpB (pureRun Tryz.prog (Instr.indexAt 105 t40_8 a2)) fun t42_8 =>
  wpB (ldv Tryz.prog 130 t42_8 w.drew) fun t43_8 =>
  wpB (ldv Tryz.prog 3 t44_8 w.drew) fun t45_8 =>
  wpB (ldv Tryz.prog 3 t49_8 w.drew) fun t50_8 =>
  wpB (ldv Tryz.prog 3 t51_8 w.drew) fun t52_8 =>
  wpB (bp Tryz.prog .add 3 t50_8 t52_8) fun t53_8 =>
  CallR Tryz.prog 83 [t43_8, t45_8] w.drew fun t46_8 w =>
  wpB (ldv Tryz.prog 105 t31_8 w) fun t32_8 =>
  wpB (pureRun Tryz.prog (Instr.indexAt 105 t32_8 a2)) fun t34_8 =>
  wpB (pureRun Tryz.prog (Instr.fieldAt 130 t34_8 6)) fun t35_8 =>
  wpB (ldv Tryz.prog 86 t35_8 w) fun t36_8 =>
  wpB (pureRun Tryz.prog (Instr.indexAt 86 t36_8 t46_8)) fun t47_8 =>
  wpB (ldv Tryz.prog 93 t47_8 w) fun t48_8 =>
  wpB (pureRun Tryz.prog (Instr.indexAt 93 t48_8 t53_8)) fun t54_8 =>
  wpB (ldv Tryz.prog 26 t54_8 w) fun t55_8 =>
  P81_0 t8 t10 t55_8 w Q) ∧
  (wpB (nilv a0) fun t30_9 =>
  wpB (pureRun Tryz.prog (Instr.fieldAt 108 t30_9 4)) fun t31_9 =>
  wpB (nilv a0) fun t38_9 =>
  wpB (pureRun Tryz.prog (Instr.fieldAt 108 t38_9 4)) fun t39_9 =>
  wpB (pureRun Tryz.prog (Instr.fieldAt 25 t9 2)) fun t44_9 =>
  wpB (pureRun Tryz.prog (Instr.fieldAt 25 t9 3)) fun t49_9 =>
  wpB (pureRun Tryz.prog (Instr.fieldAt 39 t8 3)) fun t51_9 =>
  wpB (ldv Tryz.prog 105 t39_9 w.drew) fun t40_9 =>
  wpB (pureRun Tryz.prog (Instr.indexAt 105 t40_9 a2)) fun t42_9 =>
  wpB (ldv Tryz.prog 130 t42_9 w.drew) fun t43_9 =>
  wpB (ldv Tryz.prog 3 t44_9 w.drew) fun t45_9 =>
  wpB (ldv Tryz.prog 3 t49_9 w.drew) fun t50_9 =>
  CallR Tryz.prog 83 [t43_9, t45_9] w.drew fun t46_9 w =>
  wpB (ldv Tryz.prog 105 t31_9 w) fun t32_9 =>
  wpB (pureRun Tryz.prog (Instr.indexAt 105 t32_9 a2)) fun t34_9 =>
  wpB (pureRun Tryz.prog (Instr.fieldAt 130 t34_9 6)) fun t35_9 =>
  wpB (ldv Tryz.prog 86 t35_9 w) fun t36_9 =>
  wpB (pureRun Tryz.prog (Instr.indexAt 86 t36_9 t46_9)) fun t47_9 =>
  wpB (ldv Tryz.prog 93 t47_9 w) fun t48_9 =>
  wpB (ldv Tryz.prog 3 t51_9 w) fun t52_9 =>
  wpB (bp Tryz.prog .add 3 t50_9 t52_9) fun t53_9 =>
  wpB (pureRun Tryz.prog (Instr.indexAt 93 t48_9 t53_9)) fun t54_9 =>
  wpB (ldv Tryz.prog 26 t54_9 w) fun t55_9 =>
  P81_0 t8 t10 t55_9 w Q)) ∧
  ((wpB (nilv a0) fun t30_10 =>
  wpB (pureRun Tryz.prog (Instr.fieldAt 108 t30_10 4)) fun t31_10 =>
  wpB (nilv a0) fun t38_10 =>
  wpB (pureRun Tryz.prog (Instr.fieldAt 108 t38_10 4)) fun t39_10 =>
  wpB (pureRun Tryz.prog (Instr.fieldAt 25 t9 2)) fun t44_10 =>
  wpB (pureRun Tryz.prog (Instr.fieldAt 25 t9 3)) fun t49_10 =>
  wpB (pureRun Tryz.prog (Instr.fieldAt 39 t8 3)) fun t51_10 =>
  wpB (ldv Tryz.prog 105 t39_10 w.drew) fun t40_10 =>
  wpB (pureRun Tryz.prog (Instr.indexAt 105 t40_10 a2)) fun t42_10 =>
  wpB (ldv Tryz.prog 130 t42_10 w.drew) fun t43_10 =>
  wpB (ldv Tryz.prog 3 t44_10 w.drew) fun t45_10 =>
  wpB (ldv Tryz.prog 3 t51_10 w.drew) fun t52_10 =>
  CallR Tryz.prog 83 [t43_10, t45_10] w.drew fun t46_10 w =>
  wpB (ldv Tryz.prog 105 t31_10 w) fun t32_10 =>
  wpB (pureRun Tryz.prog (Instr.indexAt 105 t32_10 a2)) fun t34_10 =>
  wpB (pureRun Tryz.prog (Instr.fieldAt 130 t34_10 6)) fun t35_10 =>
  wpB (ldv Tryz.prog 86 t35_10 w) fun t36_10 =>
  wpB (pureRun Tryz.prog (Instr.indexAt 86 t36_10 t46_10)) fun t47_10 =>
  wpB (ldv Tryz.prog 93 t47_10 w) fun t48_10 =>
  wpB (ldv Tryz.prog 3 t49_10 w) fun t50_10 =>
  wpB (bp Tryz.prog .add 3 t50_10 t52_10) fun t53_10 =>
  wpB (pureRun Tryz.prog (Instr.indexAt 93 t48_10 t53_10)) fun t54_10 =>
  wpB (ldv Tryz.prog 26 t54_10 w) fun t55_10 =>
  P81_0 t8 t10 t55_10 w Q) ∧
  (wpB (nilv a0) fun t30_11 =>
  wpB (pureRun Tryz.prog (Instr.fieldAt 108 t30_11 4)) fun t31_11 =>
  wpB (nilv a0) fun t38_11 =>
  wpB (pureRun Tryz.prog (Instr.fieldAt 108 t38_11 4)) fun t39_11 =>
  wpB (pureRun Tryz.prog (Instr.fieldAt 25 t9 2)) fun t44_11 =>
  wpB (pureRun Tryz.prog (Instr.fieldAt 25 t9 3)) fun t49_11 =>
  wpB (pureRun Tryz.prog (Instr.fieldAt 39 t8 3)) fun t51_11 =>
  wpB (ldv Tryz.prog 105 t39_11 w.drew) fun t40_11 =>
  wpB (pureRun Tryz.prog (Instr.indexAt 105 t40_11 a2)) fun t42_11 =>
  wpB (ldv Tryz.prog 130 t42_11 w.drew) fun t43_11 =>
  wpB (ldv Tryz.prog 3 t44_11 w.drew) fun t45_11 =>
  CallR Tryz.prog 83 [t43_11, t45_11] w.drew fun t46_11 w =>
  wpB (ldv Tryz.prog 105 t31_11 w) fun t32_11 =>
  wpB (pureRun Tryz.prog (Instr.indexAt 105 t32_11 a2)) fun t34_11 =>
  wpB (pureRun Tryz.prog (Instr.fieldAt 130 t34_11 6)) fun t35_11 =>
  wpB (ldv Tryz.prog 86 t35_11 w) fun t36_11 =>
  wpB (pureRun Tryz.prog (Instr.indexAt 86 t36_11 t46_11)) fun t47_11 =>
  wpB (ldv Tryz.prog 93 t47_11 w) fun t48_11 =>
  wpB (ldv Tryz.prog 3 t49_11 w) fun t50_11 =>
  wpB (ldv Tryz.prog 3 t51_11 w) fun t52_11 =>
  wpB (bp Tryz.prog .add 3 t50_11 t52_11) fun t53_11 =>
  wpB (pureRun Tryz.prog (Instr.indexAt 93 t48_11 t53_11)) fun t54_11 =>
  wpB (ldv Tryz.prog 26 t54_11 w) fun t55_11 =>
  P81_0 t8 t10 t55_11 w Q)))))
def L81_0 (x8 x10 x11 : Value) (w : World) (Q : Value → World → Prop) : Prop :=
  wpB (pureRun Tryz.prog (Instr.fieldAt 39 x8 0)) fun t56 =>
  wpB (ldv Tryz.prog 3 t56 w) fun t57 =>
  wpB (be Tryz.prog .eql 3 (.tmp 57) (.const (.int .i64 6)) t57 (.int .i64 6)) fun t59 =>
  cnd t59
  (P81_1 x8 x10 x11 t57 t59 w Q)
  (wpB (be Tryz.prog .eql 3 (.tmp 57) (.const (.int .i64 8)) t57 (.int .i64 8)) fun t60 =>
  P81_1 x8 x10 x11 t57 t60 w Q)
def L81_1 (x8 x10 x11 x57 x58 : Value) (w : World) (Q : Value → World → Prop) : Prop :=
  cnd x58
  (wpB (pureRun Tryz.prog (Instr.build 28 #[(3, x11)])) fun t62 =>
  effu Tryz.prog (Instr.storeAt 28 x10 t62) w fun w =>
  wpB (ldv Tryz.prog 28 x10 w) fun r10 => Q r10 w)
  (wpB (be Tryz.prog .eql 3 (.tmp 57) (.const (.int .i64 9)) x57 (.int .i64 9)) fun t64 =>
  cnd t64
  (wpB (pureRun Tryz.prog (Instr.fieldAt 39 x8 4)) fun t66 =>
  wpB (ldv Tryz.prog 26 t66 w) fun t67 =>
  wpB (be Tryz.prog .eql 26 (.tmp 65) (.tmp 67) x11 t67) fun t68 =>
  cnd t68
  (wpB (pureRun Tryz.prog (Instr.build 28 #[(2, (.int .i64 1))])) fun t69 =>
  effu Tryz.prog (Instr.storeAt 28 x10 t69) w fun w =>
  wpB (ldv Tryz.prog 28 x10 w) fun r10_1 => Q r10_1 w)
  (P81_2 x10 w Q))
  (P81_2 x10 w Q))
def L81_2 (x10 : Value) (w : World) (Q : Value → World → Prop) : Prop :=
  wpB (pureRun Tryz.prog (Instr.build 28 #[])) fun t70 =>
  effu Tryz.prog (Instr.storeAt 28 x10 t70) w fun w =>
  wpB (ldv Tryz.prog 28 x10 w) fun r10 => Q r10 w
theorem F81_ok {a0 a1 a2 a3 a4 : Value} {w : World} {Q : Value → World → Prop} (h : F81 a0 a1 a2 a3 a4 w Q) : CallR Tryz.prog 81 [a0, a1, a2, a3, a4] w Q :=
  ah mixed ag Tryz.func81 (c := C81) rfl H81 (Nat.le_of_ble_eq_true rfl) (by kernel_rfl) h
theorem L81_0_ok {x8 x10 x11 : Value} {w : World} {Q : Value → World → Prop} (h : L81_0 x8 x10 x11 w Q) : P81_0 x8 x10 x11 w Q :=
  ar mixed ag Tryz.func81 H81 (by kernel_rfl) h
theorem L81_1_ok {x8 x10 x11 x57 x58 : Value} {w : World} {Q : Value → World → Prop} (h : L81_1 x8 x10 x11 x57 x58 w Q) : P81_1 x8 x10 x11 x57 x58 w Q :=
  ar mixed ag Tryz.func81 H81 (by kernel_rfl) h
theorem L81_2_ok {x10 : Value} {w : World} {Q : Value → World → Prop} (h : L81_2 x10 w Q) : P81_2 x10 w Q :=
  ar mixed ag Tryz.func81 H81 (by kernel_rfl) h

noncomputable def C82 : Code := (Tryz.f82.body).getD .skip
noncomputable def H82 : Hints := ⟨[], [], []⟩
def F82 (a0 a1 : Value) (w : World) (Q : Value → World → Prop) : Prop :=
  wpB (bp Tryz.prog .lss 3 a1 (.int .i64 0)) fun t7 =>
  wpB (gd t7 false (nilv (gv t7 false a0))) fun t11 =>
  wpB (gd t7 false (pureRun Tryz.prog (Instr.fieldAt 108 t11 0))) fun t12 =>
  wpB (gd t7 false (pureRun Tryz.prog (Instr.fieldAt 33 t12 3))) fun t13 =>
  wpB (gd t7 false (ldv Tryz.prog 3 t13 w)) fun t14 =>
  wpB (gd t7 false (bp Tryz.prog .geq 3 (gv t7 false a1) t14)) fun t15 =>
  wpB (pickv t7 (some (.bool true)) (some t15)) fun t16 =>
  wpB (gd t16 false (nilv (gv t16 false a0))) fun t19 =>
  wpB (gd t16 false (pureRun Tryz.prog (Instr.fieldAt 108 t19 2))) fun t20 =>
  wpB (gd t16 false (ldv Tryz.prog 22 t20 w)) fun t21 =>
  wpB (gd t16 false (pureRun Tryz.prog (Instr.indexAt 22 t21 (gv t16 false a1)))) fun t23 =>
  wpB (gd t16 false (ldv Tryz.prog 3 t23 w)) fun t24 =>
  wpB (gd t16 false (be Tryz.prog .neq 3 (.tmp 24) (.const (.int .i64 1)) t24 (.int .i64 1))) fun t25 =>
  wpB (pickv t16 (some (.bool true)) (some t25)) fun t26 =>
  cnd t26
  (Q (.tuple #[(.int .i64 0), (.bool false)]) w)
  (wpB (nilv a0) fun t28 =>
  wpB (pureRun Tryz.prog (Instr.fieldAt 108 t28 3)) fun t29 =>
  wpB (ldv Tryz.prog 22 t29 w) fun t30 =>
  wpB (pureRun Tryz.prog (Instr.indexAt 22 t30 a1)) fun t32 =>
  wpB (ldv Tryz.prog 3 t32 w) fun t33 =>
  Q (.tuple #[t33, (.bool true)]) w)
theorem F82_ok {a0 a1 : Value} {w : World} {Q : Value → World → Prop} (h : F82 a0 a1 w Q) : CallR Tryz.prog 82 [a0, a1] w Q :=
  ah mixed ag Tryz.func82 (c := C82) rfl H82 (Nat.le_of_ble_eq_true rfl) (by kernel_rfl) h

noncomputable def C83 : Code := (Tryz.f83.body).getD .skip
noncomputable def H83 : Hints := ⟨[(2, [1, 2, 5])], [], []⟩
noncomputable def T83_0 : List It := [.lp (nav [1, 0, 1, 4, 5] C83), .blk 0, .jn (nav [1, 1] C83)]
def P83_0 (x1 x2 x5 : Value) (w : World) (Q : Value → World → Prop) : Prop := Part Tryz.prog 83 T83_0 [1, 2, 5] [x1, x2, x5] w Q
def F83 (a0 a1 : Value) (w : World) (Q : Value → World → Prop) : Prop :=
  effv Tryz.prog (Instr.box 130 a0) w fun t2 w =>
  P83_0 a1 t2 (.int .i64 0) w Q
def L83_0 (x1 x2 x5 : Value) (w : World) (Q : Value → World → Prop) : Prop :=
  wpB (pureRun Tryz.prog (Instr.fieldAt 130 x2 5)) fun t7 =>
  wpB (ldv Tryz.prog 22 t7 w) fun t8 =>
  wpB (pureRun Tryz.prog (Builtin.len_ #[22] 3 #[t8])) fun t9 =>
  wpB (bp Tryz.prog .lss 3 x5 t9) fun t10 =>
  cnd t10
  (wpB (pureRun Tryz.prog (Instr.fieldAt 130 x2 5)) fun t13 =>
  wpB (ldv Tryz.prog 22 t13 w) fun t14 =>
  wpB (pureRun Tryz.prog (Instr.indexAt 22 t14 x5)) fun t16 =>
  wpB (ldv Tryz.prog 3 t16 w) fun t17 =>
  wpB (be Tryz.prog .eql 3 (.tmp 17) (.tmp 18) t17 x1) fun t19 =>
  cnd t19
  (Q x5 w)
  (wpB (bp Tryz.prog .add 3 x5 (.int .i64 1)) fun t12 =>
  P83_0 x1 x2 t12 w Q))
  (Q (.int .i64 (-1)) w)
theorem F83_ok {a0 a1 : Value} {w : World} {Q : Value → World → Prop} (h : F83 a0 a1 w Q) : CallR Tryz.prog 83 [a0, a1] w Q :=
  ah mixed ag Tryz.func83 (c := C83) rfl H83 (Nat.le_of_ble_eq_true rfl) (by kernel_rfl) h
theorem L83_0_ok {x1 x2 x5 : Value} {w : World} {Q : Value → World → Prop} (h : L83_0 x1 x2 x5 w Q) : P83_0 x1 x2 x5 w Q :=
  aQ mixed ag Tryz.func83 H83 (by kernel_rfl) h

noncomputable def C84 : Code := (Tryz.f84.body).getD .skip
noncomputable def H84 : Hints := ⟨[(3, [0, 3, 4])], [(4, [0, 3, 4])], []⟩
noncomputable def T84_0 : List It := [.lp (nav [1, 1, 0, 1, 4, 5] C84), .blk 0, .jn (nav [1, 1, 1] C84)]
noncomputable def T84_1 : List It := [.jn (nav [1, 1, 0, 1, 4, 5, 1, 1] C84), .lp (nav [1, 1, 0, 1, 4, 5] C84), .blk 0, .jn (nav [1, 1, 1] C84)]
def P84_0 (x0 x3 x4 : Value) (w : World) (Q : Value → World → Prop) : Prop := Part Tryz.prog 84 T84_0 [0, 3, 4] [x0, x3, x4] w Q
def P84_1 (x0 x3 x4 : Value) (w : World) (Q : Value → World → Prop) : Prop := Part Tryz.prog 84 T84_1 [0, 3, 4] [x0, x3, x4] w Q
def F84 (a0 : Value) (w : World) (Q : Value → World → Prop) : Prop :=
  P84_0 a0 (.int .i64 0) (.int .i64 0) w Q
def L84_0 (x0 x3 x4 : Value) (w : World) (Q : Value → World → Prop) : Prop :=
  wpB (nilv x0) fun t7 =>
  wpB (pureRun Tryz.prog (Instr.fieldAt 108 t7 2)) fun t8 =>
  wpB (ldv Tryz.prog 22 t8 w) fun t9 =>
  wpB (pureRun Tryz.prog (Builtin.len_ #[22] 3 #[t9])) fun t10 =>
  wpB (bp Tryz.prog .lss 3 x4 t10) fun t11 =>
  cnd t11
  (wpB (nilv x0) fun t15 =>
  wpB (pureRun Tryz.prog (Instr.fieldAt 108 t15 2)) fun t16 =>
  wpB (ldv Tryz.prog 22 t16 w) fun t17 =>
  wpB (pureRun Tryz.prog (Instr.indexAt 22 t17 x4)) fun t19 =>
  wpB (ldv Tryz.prog 3 t19 w) fun t20 =>
  wpB (be Tryz.prog .eql 3 (.tmp 20) (.const (.int .i64 0)) t20 (.int .i64 0)) fun t21 =>
  cnd t21
  (wpB (bp Tryz.prog .add 3 x3 (.int .i64 1)) fun t23 =>
  P84_1 x0 t23 x4 w Q)
  (P84_1 x0 x3 x4 w Q))
  (Q x3 w)
def L84_1 (x0 x3 x4 : Value) (w : World) (Q : Value → World → Prop) : Prop :=
  wpB (bp Tryz.prog .add 3 x4 (.int .i64 1)) fun t13 =>
  P84_0 x0 x3 t13 w Q
theorem F84_ok {a0 : Value} {w : World} {Q : Value → World → Prop} (h : F84 a0 w Q) : CallR Tryz.prog 84 [a0] w Q :=
  ah mixed ag Tryz.func84 (c := C84) rfl H84 (Nat.le_of_ble_eq_true rfl) (by kernel_rfl) h
theorem L84_0_ok {x0 x3 x4 : Value} {w : World} {Q : Value → World → Prop} (h : L84_0 x0 x3 x4 w Q) : P84_0 x0 x3 x4 w Q :=
  aQ mixed ag Tryz.func84 H84 (by kernel_rfl) h
theorem L84_1_ok {x0 x3 x4 : Value} {w : World} {Q : Value → World → Prop} (h : L84_1 x0 x3 x4 w Q) : P84_1 x0 x3 x4 w Q :=
  ar mixed ag Tryz.func84 H84 (by kernel_rfl) h

noncomputable def C85 : Code := (Tryz.f85.body).getD .skip
noncomputable def H85 : Hints := ⟨[], [], [(2, (.ask 9 15 (.ask 11 15 (.leaf [0, 1, 2, 3, 4, 5, 6, 7, 8, 9, 10, 11, 12, 13, 14, 15, 16, 17, 18]) (.leaf [0, 1, 2, 3, 4, 5, 6, 7, 8, 10, 12, 14, 9, 13, 15, 11, 16, 17, 18])) (.ask 11 15 (.leaf [0, 1, 2, 3, 4, 5, 6, 7, 8, 10, 12, 14, 11, 13, 15, 9, 16, 17, 18]) (.leaf [0, 1, 2, 3, 4, 5, 6, 7, 8, 10, 12, 14, 13, 15, 9, 11, 16, 17, 18]))))]⟩
def F85 (a0 a1 a2 : Value) (w : World) (Q : Value → World → Prop) : Prop :=
  wpB (nilv a0) fun t9 =>
  wpB (pureRun Tryz.prog (Instr.fieldAt 108 t9 4)) fun t10 =>
  wpB (ldv Tryz.prog 105 t10 w) fun t11 =>
  wpB (pureRun Tryz.prog (Instr.indexAt 105 t11 a1)) fun t13 =>
  wpB (ldv Tryz.prog 130 t13 w) fun t14 =>
  effv Tryz.prog (Instr.alloc 130 true (.tuple #[])) w fun t7 w =>
  effu Tryz.prog (Instr.storeAt 130 t7 t14) w fun w =>
  ((wpB (pureRun Tryz.prog (Instr.fieldAt 130 t7 5)) fun t15 =>
  wpB (ldv Tryz.prog 22 t15 w.drew) fun t16 =>
  wpB (pureRun Tryz.prog (Builtin.len_ #[22] 3 #[t16])) fun t17 =>
  wpB (bp Tryz.prog .gtr 3 t17 (.int .i64 0)) fun t18 =>
  wpB (gd t18 true (nilv (gv t18 true a0))) fun t21 =>
  wpB (gd t18 true (pureRun Tryz.prog (Instr.fieldAt 108 t21 0))) fun t22 =>
  wpB (gd t18 true (pureRun Tryz.prog (Instr.fieldAt 33 t22 2))) fun t23 =>
  wpB (gd t18 true (ldv Tryz.prog 3 t23 w.drew)) fun t24 =>
  wpB (gd t18 true (pureRun Tryz.prog (Instr.fieldAt 130 t7 3))) fun t25 =>
  wpB (gd t18 true (ldv Tryz.prog 3 t25 w.drew)) fun t26 =>
  wpB (gd t18 true (pureRun Tryz.prog (Instr.fieldAt 130 t7 2))) fun t27 =>
  wpB (gd t18 true (ldv Tryz.prog 3 t27 w.drew)) fun t28 =>
  gE t18 true (CallR Tryz.prog 86 [t28, (gv t18 true a2)] w.drew) (fun t30 w =>
  gE t18 true (CallR Tryz.prog 106 [t24, t26, t30] w) (fun t31 w =>
  wpB (pickv t18 (some t31) (some (.bool false))) fun t32 =>
  Q t32 w) w) w.drew) ∧
  (wpB (pureRun Tryz.prog (Instr.fieldAt 130 t7 5)) fun t15_1 =>
  wpB (ldv Tryz.prog 22 t15_1 w.drew) fun t16_1 =>
  wpB (pureRun Tryz.prog (Builtin.len_ #[22] 3 #[t16_1])) fun t17_1 =>
  wpB (bp Tryz.prog .gtr 3 t17_1 (.int .i64 0)) fun t18_1 =>
  wpB (gd t18_1 true (nilv (gv t18_1 true a0))) fun t21_1 =>
  wpB (gd t18_1 true (pureRun Tryz.prog (Instr.fieldAt 108 t21_1 0))) fun t22_1 =>
  wpB (gd t18_1 true (pureRun Tryz.prog (Instr.fieldAt 33 t22_1 2))) fun t23_1 =>
  wpB (gd t18_1 true (pureRun Tryz.prog (Instr.fieldAt 130 t7 3))) fun t25_1 =>
  wpB (gd t18_1 true (pureRun Tryz.prog (Instr.fieldAt 130 t7 2))) fun t27_1 =>
  wpB (gd t18_1 true (ldv Tryz.prog 3 t23_1 w.drew)) fun t24_1 =>
  wpB (gd t18_1 true (ldv Tryz.prog 3 t27_1 w.drew)) fun t28_1 =>
  gE t18_1 true (CallR Tryz.prog 86 [t28_1, (gv t18_1 true a2)] w.drew) (fun t30_1 w =>
  wpB (gd t18_1 true (ldv Tryz.prog 3 t25_1 w)) fun t26_1 =>
  gE t18_1 true (CallR Tryz.prog 106 [t24_1, t26_1, t30_1] w) (fun t31_1 w =>
  wpB (pickv t18_1 (some t31_1) (some (.bool false))) fun t32_1 =>
  Q t32_1 w) w) w.drew)) ∧
  ((wpB (pureRun Tryz.prog (Instr.fieldAt 130 t7 5)) fun t15_2 =>
  wpB (ldv Tryz.prog 22 t15_2 w.drew) fun t16_2 =>
  wpB (pureRun Tryz.prog (Builtin.len_ #[22] 3 #[t16_2])) fun t17_2 =>
  wpB (bp Tryz.prog .gtr 3 t17_2 (.int .i64 0)) fun t18_2 =>
  wpB (gd t18_2 true (nilv (gv t18_2 true a0))) fun t21_2 =>
  wpB (gd t18_2 true (pureRun Tryz.prog (Instr.fieldAt 108 t21_2 0))) fun t22_2 =>
  wpB (gd t18_2 true (pureRun Tryz.prog (Instr.fieldAt 33 t22_2 2))) fun t23_2 =>
  wpB (gd t18_2 true (pureRun Tryz.prog (Instr.fieldAt 130 t7 3))) fun t25_2 =>
  wpB (gd t18_2 true (pureRun Tryz.prog (Instr.fieldAt 130 t7 2))) fun t27_2 =>
  wpB (gd t18_2 true (ldv Tryz.prog 3 t25_2 w.drew)) fun t26_2 =>
  wpB (gd t18_2 true (ldv Tryz.prog 3 t27_2 w.drew)) fun t28_2 =>
  gE t18_2 true (CallR Tryz.prog 86 [t28_2, (gv t18_2 true a2)] w.drew) (fun t30_2 w =>
  wpB (gd t18_2 true (ldv Tryz.prog 3 t23_2 w)) fun t24_2 =>
  gE t18_2 true (CallR Tryz.prog 106 [t24_2, t26_2, t30_2] w) (fun t31_2 w =>
  wpB (pickv t18_2 (some t31_2) (some (.bool false))) fun t32_2 =>
  Q t32_2 w) w) w.drew) ∧
  (wpB (pureRun Tryz.prog (Instr.fieldAt 130 t7 5)) fun t15_3 =>
  wpB (ldv Tryz.prog 22 t15_3 w.drew) fun t16_3 =>
  wpB (pureRun Tryz.prog (Builtin.len_ #[22] 3 #[t16_3])) fun t17_3 =>
  wpB (bp Tryz.prog .gtr 3 t17_3 (.int .i64 0)) fun t18_3 =>
  wpB (gd t18_3 true (nilv (gv t18_3 true a0))) fun t21_3 =>
  wpB (gd t18_3 true (pureRun Tryz.prog (Instr.fieldAt 108 t21_3 0))) fun t22_3 =>
  wpB (gd t18_3 true (pureRun Tryz.prog (Instr.fieldAt 33 t22_3 2))) fun t23_3 =>
  wpB (gd t18_3 true (pureRun Tryz.prog (Instr.fieldAt 130 t7 3))) fun t25_3 =>
  wpB (gd t18_3 true (pureRun Tryz.prog (Instr.fieldAt 130 t7 2))) fun t27_3 =>
  wpB (gd t18_3 true (ldv Tryz.prog 3 t27_3 w.drew)) fun t28_3 =>
  gE t18_3 true (CallR Tryz.prog 86 [t28_3, (gv t18_3 true a2)] w.drew) (fun t30_3 w =>
  wpB (gd t18_3 true (ldv Tryz.prog 3 t23_3 w)) fun t24_3 =>
  wpB (gd t18_3 true (ldv Tryz.prog 3 t25_3 w)) fun t26_3 =>
  gE t18_3 true (CallR Tryz.prog 106 [t24_3, t26_3, t30_3] w) (fun t31_3 w =>
  wpB (pickv t18_3 (some t31_3) (some (.bool false))) fun t32_3 =>
  Q t32_3 w) w) w.drew))
theorem F85_ok {a0 a1 a2 : Value} {w : World} {Q : Value → World → Prop} (h : F85 a0 a1 a2 w Q) : CallR Tryz.prog 85 [a0, a1, a2] w Q :=
  ah mixed ag Tryz.func85 (c := C85) rfl H85 (Nat.le_of_ble_eq_true rfl) (by kernel_rfl) h

noncomputable def C86 : Code := (Tryz.f86.body).getD .skip
noncomputable def H86 : Hints := ⟨[(5, [0, 1, 5, 6]), (8, [1, 5])], [], []⟩
noncomputable def T86_0 : List It := [.lp (nav [1, 1, 1, 0, 1, 4, 5] C86), .blk 0, .jn (nav [1, 1, 1, 1] C86)]
noncomputable def T86_1 : List It := [.lp (nav [1, 1, 1, 1, 0, 4, 5] C86), .blk 2, .jn (nav [1, 1, 1, 1, 1] C86)]
def P86_0 (x0 x1 x5 x6 : Value) (w : World) (Q : Value → World → Prop) : Prop := Part Tryz.prog 86 T86_0 [0, 1, 5, 6] [x0, x1, x5, x6] w Q
def P86_1 (x1 x5 : Value) (w : World) (Q : Value → World → Prop) : Prop := Part Tryz.prog 86 T86_1 [1, 5] [x1, x5] w Q
def F86 (a0 a1 : Value) (w : World) (Q : Value → World → Prop) : Prop :=
  CallR Tryz.prog 107 [a1, (.int .i64 1), (.int .i64 1024)] w fun t8 w =>
  wpB (pureRun Tryz.prog (Op.unary .not t8)) fun t9 =>
  cnd t9
  (Q (.int .i64 0) w)
  (P86_0 a0 a1 (.int .i64 1) (.int .i64 0) w Q)
def L86_0 (x0 x1 x5 x6 : Value) (w : World) (Q : Value → World → Prop) : Prop :=
  wpB (bp Tryz.prog .lss 3 x6 x0) fun t12 =>
  wpB (gd t12 true (bp Tryz.prog .lss 3 (gv t12 true x6) (.int .i64 3))) fun t15 =>
  wpB (pickv t12 (some t15) (some (.bool false))) fun t16 =>
  cnd t16
  (wpB (bp Tryz.prog .mul 3 (.int .i64 2) x5) fun t20 =>
  wpB (bp Tryz.prog .add 3 x6 (.int .i64 1)) fun t18 =>
  P86_0 x0 x1 t20 t18 w Q)
  (P86_1 x1 x5 w Q)
def L86_1 (x1 x5 : Value) (w : World) (Q : Value → World → Prop) : Prop :=
  wpB (bp Tryz.prog .rem 3 x1 x5) fun t23 =>
  wpB (be Tryz.prog .neq 3 (.tmp 23) (.const (.int .i64 0)) t23 (.int .i64 0)) fun t24 =>
  cnd t24
  (wpB (bp Tryz.prog .add 3 x1 (.int .i64 1)) fun t26 =>
  P86_1 t26 x5 w Q)
  (Q x1 w)
theorem F86_ok {a0 a1 : Value} {w : World} {Q : Value → World → Prop} (h : F86 a0 a1 w Q) : CallR Tryz.prog 86 [a0, a1] w Q :=
  ah mixed ag Tryz.func86 (c := C86) rfl H86 (Nat.le_of_ble_eq_true rfl) (by kernel_rfl) h
theorem L86_0_ok {x0 x1 x5 x6 : Value} {w : World} {Q : Value → World → Prop} (h : L86_0 x0 x1 x5 x6 w Q) : P86_0 x0 x1 x5 x6 w Q :=
  aQ mixed ag Tryz.func86 H86 (by kernel_rfl) h
theorem L86_1_ok {x1 x5 : Value} {w : World} {Q : Value → World → Prop} (h : L86_1 x1 x5 w Q) : P86_1 x1 x5 w Q :=
  aQ mixed ag Tryz.func86 H86 (by kernel_rfl) h

noncomputable def C87 : Code := (Tryz.f87.body).getD .skip
noncomputable def H87 : Hints := ⟨[(2, [0, 1, 5])], [], []⟩
noncomputable def T87_0 : List It := [.lp (nav [1, 0, 1, 4, 5] C87), .blk 0, .jn (nav [1, 1] C87)]
def P87_0 (x0 x1 x5 : Value) (w : World) (Q : Value → World → Prop) : Prop := Part Tryz.prog 87 T87_0 [0, 1, 5] [x0, x1, x5] w Q
def F87 (a0 a1 : Value) (w : World) (Q : Value → World → Prop) : Prop :=
  P87_0 a0 a1 (.int .i64 0) w Q
def L87_0 (x0 x1 x5 : Value) (w : World) (Q : Value → World → Prop) : Prop :=
  wpB (nilv x0) fun t8 =>
  wpB (pureRun Tryz.prog (Instr.fieldAt 108 t8 4)) fun t9 =>
  wpB (ldv Tryz.prog 105 t9 w) fun t10 =>
  wpB (pureRun Tryz.prog (Builtin.len_ #[105] 3 #[t10])) fun t11 =>
  wpB (bp Tryz.prog .lss 3 x5 t11) fun t12 =>
  cnd t12
  (wpB (nilv x0) fun t16 =>
  wpB (pureRun Tryz.prog (Instr.fieldAt 108 t16 4)) fun t17 =>
  wpB (ldv Tryz.prog 105 t17 w) fun t18 =>
  wpB (pureRun Tryz.prog (Instr.indexAt 105 t18 x5)) fun t20 =>
  wpB (pureRun Tryz.prog (Instr.fieldAt 130 t20 4)) fun t21 =>
  wpB (ldv Tryz.prog 4 t21 w) fun t22 =>
  wpB (gd t22 true (nilv (gv t22 true x0))) fun t25 =>
  wpB (gd t22 true (pureRun Tryz.prog (Instr.fieldAt 108 t25 4))) fun t26 =>
  wpB (gd t22 true (ldv Tryz.prog 105 t26 w)) fun t27 =>
  wpB (gd t22 true (pureRun Tryz.prog (Instr.indexAt 105 t27 (gv t22 true x5)))) fun t29 =>
  wpB (gd t22 true (ldv Tryz.prog 130 t29 w)) fun t30 =>
  gE t22 true (CallR Tryz.prog 83 [t30, (gv t22 true x1)] w) (fun t32 w =>
  wpB (gd t22 true (bp Tryz.prog .geq 3 t32 (.int .i64 0))) fun t33 =>
  wpB (pickv t22 (some t33) (some (.bool false))) fun t34 =>
  cnd t34
  (Q (.bool true) w)
  (wpB (bp Tryz.prog .add 3 x5 (.int .i64 1)) fun t14 =>
  P87_0 x0 x1 t14 w Q)) w)
  (Q (.bool false) w)
theorem F87_ok {a0 a1 : Value} {w : World} {Q : Value → World → Prop} (h : F87 a0 a1 w Q) : CallR Tryz.prog 87 [a0, a1] w Q :=
  ah mixed ag Tryz.func87 (c := C87) rfl H87 (Nat.le_of_ble_eq_true rfl) (by kernel_rfl) h
theorem L87_0_ok {x0 x1 x5 : Value} {w : World} {Q : Value → World → Prop} (h : L87_0 x0 x1 x5 w Q) : P87_0 x0 x1 x5 w Q :=
  aQ mixed ag Tryz.func87 H87 (by kernel_rfl) h

noncomputable def C88 : Code := (Tryz.f88.body).getD .skip
noncomputable def H88 : Hints := ⟨[], [], []⟩
def F88 (a0 a1 : Value) (w : World) (Q : Value → World → Prop) : Prop :=
  CallR Tryz.prog 108 [a0, a1] w fun t7 w =>
  wpB (pureRun Tryz.prog (Op.unary .not t7)) fun t8 =>
  cnd t8
  (Q (.int .i64 0) w)
  (CallR Tryz.prog 109 [a0, a1] w fun t11 w =>
  cnd t11
  (Q a0 w)
  (Q a1 w))
theorem F88_ok {a0 a1 : Value} {w : World} {Q : Value → World → Prop} (h : F88 a0 a1 w Q) : CallR Tryz.prog 88 [a0, a1] w Q :=
  ah mixed ag Tryz.func88 (c := C88) rfl H88 (Nat.le_of_ble_eq_true rfl) (by kernel_rfl) h

noncomputable def C105 : Code := (Tryz.f105.body).getD .skip
noncomputable def H105 : Hints := ⟨[(6, [0, 3, 6, 7, 8])], [], [(8, (.leaf [0, 1, 2, 3, 4, 5, 6, 7, 8, 9, 10, 11, 12]))]⟩
noncomputable def T105_0 : List It := [.lp (nav [1, 1, 1, 1, 0, 1, 4, 5] C105), .blk 0, .jn (nav [1, 1, 1, 1, 1] C105)]
def P105_0 (x0 x3 x6 x7 x8 : Value) (w : World) (Q : Value → World → Prop) : Prop := Part Tryz.prog 105 T105_0 [0, 3, 6, 7, 8] [x0, x3, x6, x7, x8] w Q
def F105 (a0 a1 : Value) (w : World) (Q : Value → World → Prop) : Prop :=
  effv Tryz.prog (Instr.box 25 a1) w fun t3 w =>
  wpB (pureRun Tryz.prog (Instr.fieldAt 25 t3 0)) fun t10 =>
  wpB (ldv Tryz.prog 3 t10 w) fun t11 =>
  wpB (pureRun Tryz.prog (Instr.fieldAt 25 t3 1)) fun t12 =>
  wpB (ldv Tryz.prog 3 t12 w) fun t13 =>
  CallR Tryz.prog 79 [a0, t11, t13] w fun t14 w =>
  wpB (bp Tryz.prog .lss 3 t14 (.int .i64 0)) fun t16 =>
  cnd t16
  (Q (.tuple #[(.bool false), (.bool false)]) w)
  (wpB (pureRun Tryz.prog (Instr.fieldAt 25 t3 2)) fun t17 =>
  wpB (ldv Tryz.prog 3 t17 w) fun t18 =>
  wpB (be Tryz.prog .eql 3 (.tmp 18) (.const (.int .i64 0)) t18 (.int .i64 0)) fun t19 =>
  wpB (gd t19 true (pureRun Tryz.prog (Instr.fieldAt 25 t3 3))) fun t21 =>
  wpB (gd t19 true (ldv Tryz.prog 3 t21 w)) fun t22 =>
  wpB (gd t19 true (be Tryz.prog .eql 3 (.tmp 22) (.const (.int .i64 0)) t22 (.int .i64 0))) fun t23 =>
  wpB (pickv t19 (some t23) (some (.bool false))) fun t24 =>
  wpB (gd t24 true (pureRun Tryz.prog (Instr.fieldAt 25 t3 4))) fun t26 =>
  wpB (gd t24 true (ldv Tryz.prog 3 t26 w)) fun t27 =>
  wpB (gd t24 true (be Tryz.prog .eql 3 (.tmp 27) (.const (.int .i64 0)) t27 (.int .i64 0))) fun t28 =>
  wpB (pickv t24 (some t28) (some (.bool false))) fun t29 =>
  P105_0 a0 t3 t14 t29 (.int .i64 0) w Q)
def L105_0 (x0 x3 x6 x7 x8 : Value) (w : World) (Q : Value → World → Prop) : Prop :=
  wpB (nilv x0) fun t32 =>
  wpB (pureRun Tryz.prog (Instr.fieldAt 108 t32 4)) fun t33 =>
  wpB (ldv Tryz.prog 105 t33 w) fun t34 =>
  wpB (pureRun Tryz.prog (Instr.indexAt 105 t34 x6)) fun t36 =>
  wpB (pureRun Tryz.prog (Instr.fieldAt 130 t36 7)) fun t37 =>
  wpB (ldv Tryz.prog 44 t37 w) fun t38 =>
  wpB (pureRun Tryz.prog (Builtin.len_ #[44] 3 #[t38])) fun t39 =>
  wpB (bp Tryz.prog .lss 3 x8 t39) fun t40 =>
  cnd t40
  (wpB (nilv x0) fun t44 =>
  wpB (pureRun Tryz.prog (Instr.fieldAt 108 t44 4)) fun t45 =>
  wpB (ldv Tryz.prog 105 t45 w.drew) fun t46 =>
  wpB (pureRun Tryz.prog (Instr.indexAt 105 t46 x6)) fun t48 =>
  wpB (pureRun Tryz.prog (Instr.fieldAt 130 t48 7)) fun t49 =>
  wpB (ldv Tryz.prog 44 t49 w.drew) fun t50 =>
  wpB (pureRun Tryz.prog (Instr.indexAt 44 t50 x8)) fun t52 =>
  wpB (ldv Tryz.prog 25 t52 w.drew) fun t53 =>
  wpB (ldv Tryz.prog 25 x3 w.drew) fun t54 =>
  wpB (be Tryz.prog .eql 25 (.tmp 53) (.tmp 54) t53 t54) fun t55 =>
  cnd t55
  (Q (.tuple #[x7, (.bool true)]) w.drew)
  (wpB (bp Tryz.prog .add 3 x8 (.int .i64 1)) fun t42 =>
  P105_0 x0 x3 x6 x7 t42 w.drew Q))
  (Q (.tuple #[x7, (.bool false)]) w)
theorem F105_ok {a0 a1 : Value} {w : World} {Q : Value → World → Prop} (h : F105 a0 a1 w Q) : CallR Tryz.prog 105 [a0, a1] w Q :=
  ah mixed ag Tryz.func105 (c := C105) rfl H105 (Nat.le_of_ble_eq_true rfl) (by kernel_rfl) h
theorem L105_0_ok {x0 x3 x6 x7 x8 : Value} {w : World} {Q : Value → World → Prop} (h : L105_0 x0 x3 x6 x7 x8 w Q) : P105_0 x0 x3 x6 x7 x8 w Q :=
  aQ mixed ag Tryz.func105 H105 (by kernel_rfl) h

noncomputable def C106 : Code := (Tryz.f106.body).getD .skip
noncomputable def H106 : Hints := ⟨[], [], []⟩
def F106 (a0 a1 a2 : Value) (w : World) (Q : Value → World → Prop) : Prop :=
  CallR Tryz.prog 108 [a0, a2] w fun t9 w =>
  gE t9 true (CallR Tryz.prog 109 [(gv t9 true a0), (gv t9 true a2)] w) (fun t13 w =>
  wpB (gd t9 true (pureRun Tryz.prog (Op.unary .not t13))) fun t14 =>
  wpB (pickv t9 (some t14) (some (.bool false))) fun t15 =>
  wpB (gd t15 true (bp Tryz.prog .geq 3 (gv t15 true a1) (.int .i64 0))) fun t18 =>
  wpB (pickv t15 (some t18) (some (.bool false))) fun t19 =>
  wpB (gd t19 true (bp Tryz.prog .sub 3 (gv t19 true a0) (gv t19 true a2))) fun t24 =>
  wpB (gd t19 true (bp Tryz.prog .leq 3 (gv t19 true a1) t24)) fun t25 =>
  wpB (pickv t19 (some t25) (some (.bool false))) fun t26 =>
  Q t26 w) w
theorem F106_ok {a0 a1 a2 : Value} {w : World} {Q : Value → World → Prop} (h : F106 a0 a1 a2 w Q) : CallR Tryz.prog 106 [a0, a1, a2] w Q :=
  ah mixed ag Tryz.func106 (c := C106) rfl H106 (Nat.le_of_ble_eq_true rfl) (by kernel_rfl) h

noncomputable def C107 : Code := (Tryz.f107.body).getD .skip
noncomputable def H107 : Hints := ⟨[], [], []⟩
def F107 (a0 a1 a2 : Value) (w : World) (Q : Value → World → Prop) : Prop :=
  wpB (bp Tryz.prog .geq 3 a0 a1) fun t9 =>
  wpB (gd t9 true (bp Tryz.prog .leq 3 (gv t9 true a0) (gv t9 true a2))) fun t13 =>
  wpB (pickv t9 (some t13) (some (.bool false))) fun t14 =>
  Q t14 w
theorem F107_ok {a0 a1 a2 : Value} {w : World} {Q : Value → World → Prop} (h : F107 a0 a1 a2 w Q) : CallR Tryz.prog 107 [a0, a1, a2] w Q :=
  ah mixed ag Tryz.func107 (c := C107) rfl H107 (Nat.le_of_ble_eq_true rfl) (by kernel_rfl) h

noncomputable def C108 : Code := (Tryz.f108.body).getD .skip
noncomputable def H108 : Hints := ⟨[], [], []⟩
def F108 (a0 a1 : Value) (w : World) (Q : Value → World → Prop) : Prop :=
  CallR Tryz.prog 107 [a0, (.int .i64 1), (.int .i64 1024)] w fun t6 w =>
  gE t6 true (CallR Tryz.prog 107 [(gv t6 true a1), (.int .i64 1), (gv t6 true a0)] w) (fun t10 w =>
  wpB (pickv t6 (some t10) (some (.bool false))) fun t11 =>
  Q t11 w) w
theorem F108_ok {a0 a1 : Value} {w : World} {Q : Value → World → Prop} (h : F108 a0 a1 w Q) : CallR Tryz.prog 108 [a0, a1] w Q :=
  ah mixed ag Tryz.func108 (c := C108) rfl H108 (Nat.le_of_ble_eq_true rfl) (by kernel_rfl) h

noncomputable def C109 : Code := (Tryz.f109.body).getD .skip
noncomputable def H109 : Hints := ⟨[], [], []⟩
def F109 (a0 a1 : Value) (w : World) (Q : Value → World → Prop) : Prop :=
  CallR Tryz.prog 108 [a0, a1] w fun t7 w =>
  wpB (gd t7 true (bp Tryz.prog .sub 3 (gv t7 true a0) (gv t7 true a1))) fun t12 =>
  wpB (gd t7 true (bp Tryz.prog .gtr 3 (gv t7 true a1) t12)) fun t13 =>
  wpB (pickv t7 (some t13) (some (.bool false))) fun t14 =>
  Q t14 w
theorem F109_ok {a0 a1 : Value} {w : World} {Q : Value → World → Prop} (h : F109 a0 a1 w Q) : CallR Tryz.prog 109 [a0, a1] w Q :=
  ah mixed ag Tryz.func109 (c := C109) rfl H109 (Nat.le_of_ble_eq_true rfl) (by kernel_rfl) h
end Go.Proofs.YtgamnncehjcdiaaGreat

namespace Go.Proofs.YtgamnncehjcdiaaGreat.Ev
open Go Go.RowKit

theorem isAt.row {e : TypeId} {g : Nat} {Ps : List Th} {w : World} {F : Fp} (I : isAt e g Ps w F) (hg : ∀ P ∈ Ps, OwnT P) {k : Nat} {e' : TypeId} {z n : Nat} {Qs : List Th} (hk : Ps[k]? = some (isRow e' z n Qs)) (hq : ∀ Q ∈ Qs, OwnT Q) {j : Nat} {P : Th} (hj : Qs[j]? = some P) :
    ∃ (b c : Nat) (v : Value) (Fk : Fp), ldC (hp w g) k = some (.slice (some ⟨b, 0, none⟩) n c) ∧ b ≠ g ∧ F b ∧ (∀ x, Fk x → F x) ∧ ¬ Fk b ∧ ¬ Fk g ∧ ldC (hp w b) j = some v ∧ P w Fk v ∧
      (∀ w1 F' P', UpdP Fk F' w w1 → P' w1 F' v → ∃ F1, isAt e g (Ps.set k (isRow e' z n (Qs.set j P'))) w1 F1 ∧ UpdP F F1 w w1) ∧
      (∀ w1 F' P' v', UpdP Fk F' w w1 → OwnT P' → P' w1 F' v' → okC (hp w1 b) (j + 1) = true ∧ v'.cells = #[v'] ∧ v'.oneCell' = true ∧ hp w1 g = hp w g ∧
        ∃ F1, isAt e g (Ps.set k (isRow e' z n (Qs.set j P'))) (put w1 b ((getC (hp w1 b)).setIfInBounds j v') (getE (hp w1 b))) F1 ∧ UpdP F F1 w (put w1 b ((getC (hp w1 b)).setIfInBounds j v') (getE (hp w1 b)))) := by
  obtain ⟨rv, Fr, hFg, hng, hsub, hld, hR, hres, _⟩ := isAt.cell I hg hk
  obtain ⟨b, c, v, Fk, hx, hFb, hnb, hsub2, hld2, hv, h3, h4⟩ := isRow.cell hR hq hj
  subst hx
  have hbg : b ≠ g := fun e => hng (by rw [← e]; exact hFb)
  have hkg : ¬ Fk g := fun h => hng (hsub2 g h)
  refine ⟨b, c, v, Fk, hld, hbg, hsub b hFb, fun x hx => hsub x (hsub2 x hx), hnb, hkg, hld2, hv, fun w1 F' P' u hp' => ?_, fun w1 F' P' v' u hg' hp' => ?_⟩
  · obtain ⟨F1, hrow, hupd⟩ := h3 w1 F' P' u hp'
    obtain ⟨F2, e1, e2⟩ := hres _ F1 _ hupd hrow
    exact ⟨F2, e1, e2⟩
  · obtain ⟨ok, F1, hrow, hupd⟩ := h4 w1 F' P' v' u hg' hp'
    obtain ⟨F2, e1, e2⟩ := hres _ F1 _ hupd hrow
    obtain ⟨o1, o2⟩ := hg'.one hp'
    refine ⟨ok, o1, o2, ?_, F2, e1, e2⟩
    exact u.chg.block g (by
      rcases Nat.lt_or_ge g w.heap.size with h | h
      · exact h
      · have h2 : hp w g = none := by simp [hp]; omega
        rw [h2] at hld; cases hld) hkg
theorem isAt.repl {e : TypeId} {g : Nat} {Ps : List Th} {w : World} {F : Fp} (I : isAt e g Ps w F) (hg : ∀ P ∈ Ps, OwnT P) {k : Nat} {P : Th} (hk : Ps[k]? = some P) :
    ∃ (v : Value) (Fk : Fp), (∀ x, Fk x → F x) ∧ ¬ Fk g ∧ ldC (hp w g) k = some v ∧ P w Fk v ∧
      ∀ w1 F' P' v', UpdP Fk F' w w1 → OwnT P' → P' w1 F' v' → okC (hp w1 g) (k + 1) = true ∧ v'.cells = #[v'] ∧ v'.oneCell' = true ∧ hp w1 g = hp w g ∧
        ∃ F1, isAt e g (Ps.set k P') (put w1 g ((getC (hp w1 g)).setIfInBounds k v') (getE (hp w1 g))) F1 ∧ UpdP F F1 w (put w1 g ((getC (hp w1 g)).setIfInBounds k v') (getE (hp w1 g))) := by
  obtain ⟨v, Fk, hFg, hng, hsub, hld, hv, _, hput⟩ := isAt.cell I hg hk
  refine ⟨v, Fk, hsub, hng, hld, hv, fun w1 F' P' v' u hg' hp' => ?_⟩
  obtain ⟨ok, F1, h1, h2⟩ := hput w1 F' P' v' u hg' hp'
  obtain ⟨o1, o2⟩ := hg'.one hp'
  refine ⟨ok, o1, o2, u.chg.block g (by
    rcases Nat.lt_or_ge g w.heap.size with h | h
    · exact h
    · have h2 : hp w g = none := by simp [hp]; omega
      rw [h2] at hld; cases hld) hng, F1, h1, h2⟩
end Go.Proofs.YtgamnncehjcdiaaGreat.Ev

namespace Go.Proofs.YtgamnncehjcdiaaGreat
open Go Ev Go.RowKit

structure RfV where
  c : CfV
  loose : Bool
  state : List Int
  gen : List Int
  rgs : List (RgV × Bool)
  depth : List Int
  holds : List (List NmV)
def keysT (L : List NmV) : Th := isRow 136 2 L.length ((L.flatMap nmC).map isV)
def rrT (p : RgV × Bool) : List Th := [iT p.1.nm.1, iT p.1.nm.2, iT p.1.cls, iT p.1.off, isV (.bool p.2), intsT p.1.chunks, wordsT p.1.words, objsT p.1.objs]
def rrsT (L : List (RgV × Bool)) : Th := isRow 130 8 L.length (L.flatMap rrT)
def holdsT (L : List (List NmV)) : Th := isRow 131 1 L.length (L.map keysT)
def rfT (x : RfV) : List Th := (cfC x.c).map isV ++ [isV (.bool x.loose), intsT x.state, intsT x.gen, rrsT x.rgs, intsT x.depth, holdsT x.holds]
def RfI (w : World) (g : Nat) (x : RfV) (F : Fp) : Prop := isAt 108 g (rfT x) w F
def toRf (m : MdV) : RfV := ⟨m.c, m.loose, m.slots.map (·.1), m.slots.map (·.2), m.rgs.map fun r => (r, isLv m r.nm), m.hands.map (·.depth), m.hands.map (·.holds)⟩
theorem good_keys (L : List NmV) : OwnT (keysT L) := bk (good_ints (nmC_int L))
theorem good_rr (p : RgV × Bool) : ∀ P ∈ rrT p, OwnT P := fun P hP => by
  simp only [rrT, List.mem_cons, List.not_mem_nil, or_false] at hP
  rcases hP with rfl | rfl | rfl | rfl | rfl | rfl | rfl | rfl
  · exact bj _ _
  · exact bj _ _
  · exact bj _ _
  · exact bj _ _
  · exact good_isV ⟨rfl, rfl⟩
  · exact good_intsT _
  · exact good_words _
  · exact aS _
theorem good_rrL (L : List (RgV × Bool)) : ∀ P ∈ L.flatMap rrT, OwnT P := fun P hP => by
  obtain ⟨r, _, hr⟩ := List.mem_flatMap.1 hP; exact good_rr r P hr
theorem good_rrs (L : List (RgV × Bool)) : OwnT (rrsT L) := bk (good_rrL L)
theorem good_holdsL (L : List (List NmV)) : ∀ P ∈ L.map keysT, OwnT P := fun P hP => by
  obtain ⟨l, _, rfl⟩ := List.mem_map.1 hP; exact good_keys l
theorem good_holds (L : List (List NmV)) : OwnT (holdsT L) := bk (good_holdsL L)
theorem bc (x : RfV) : ∀ P ∈ rfT x, OwnT P := fun P hP => by
  rcases List.mem_append.1 hP with h | h
  · refine good_ints (fun u hu => ?_) P h
    simp only [cfC, List.mem_cons, List.not_mem_nil, or_false] at hu
    rcases hu with rfl | rfl | rfl | rfl | rfl | rfl <;> exact ⟨_, _, rfl⟩
  · simp only [List.mem_cons, List.not_mem_nil, or_false] at h
    rcases h with rfl | rfl | rfl | rfl | rfl | rfl
    · exact good_isV ⟨rfl, rfl⟩
    · exact good_intsT _
    · exact good_intsT _
    · exact good_rrs _
    · exact good_intsT _
    · exact good_holds _
theorem rrT_len (p : RgV × Bool) : (rrT p).length = 8 := rfl
theorem RfI.keep {w w' : World} {g : Nat} {x : RfV} {F : Fp} (h : RfI w g x F) (hc : Chg [] w w') : RfI w' g x F := isAt.frame h (bc x) (ChgP.of0 hc none') fun _ _ h => h
structure RfR (w : World) (g : Nat) (x : RfV) (s gn r d h : Value) : Prop where
  c : ∀ k, k < 6 → ldC (hp w g) (0 + 0 + k) = (cfC x.c)[k]?
  l : ldC (hp w g) (0 + 6) = some (.bool x.loose)
  sl : ldC (hp w g) (0 + 7) = some s
  gl : ldC (hp w g) (0 + 8) = some gn
  rl : ldC (hp w g) (0 + 9) = some r
  dl : ldC (hp w g) (0 + 10) = some d
  hl : ldC (hp w g) (0 + 11) = some h
  sT : ∃ F, intsT x.state w F s
  gT : ∃ F, intsT x.gen w F gn
  rT : ∃ F, rrsT x.rgs w F r
  dT : ∃ F, intsT x.depth w F d
  hT : ∃ F, holdsT x.holds w F h
theorem RfI.rd {w : World} {g : Nat} {x : RfV} {F : Fp} (h : RfI w g x F) : ∃ s gn r d hh, RfR w g x s gn r d hh := by
  obtain ⟨sv, _, _, _, _, hs, hS, _⟩ := isAt.cell h (bc x) (k := 7) (P := intsT x.state) rfl
  obtain ⟨gv, _, _, _, _, hg, hG, _⟩ := isAt.cell h (bc x) (k := 8) (P := intsT x.gen) rfl
  obtain ⟨rv, _, _, _, _, hr, hR, _⟩ := isAt.cell h (bc x) (k := 9) (P := rrsT x.rgs) rfl
  obtain ⟨dv, _, _, _, _, hd, hD, _⟩ := isAt.cell h (bc x) (k := 10) (P := intsT x.depth) rfl
  obtain ⟨hv, _, _, _, _, hh, hH, _⟩ := isAt.cell h (bc x) (k := 11) (P := holdsT x.holds) rfl
  obtain ⟨lv, _, _, _, _, hl, hL, _⟩ := isAt.cell h (bc x) (k := 6) (P := isV (.bool x.loose)) rfl
  refine ⟨sv, gv, rv, dv, hv, fun k hk => ?_, hl.trans (by rw [hL.1]), hs, hg, hr, hd, hh, ⟨_, hS⟩, ⟨_, hG⟩, ⟨_, hR⟩, ⟨_, hD⟩, ⟨_, hH⟩⟩
  obtain ⟨u, hu⟩ : ∃ u, (cfC x.c)[k]? = some u := ⟨_, List.getElem?_eq_getElem (by simpa [cfC] using hk)⟩
  have hP : (rfT x)[k]? = some (isV u) := by
    rw [rfT, List.getElem?_append_left (by simpa [cfC] using hk), List.getElem?_map, hu]; rfl
  obtain ⟨cv, _, _, _, _, hc, hC, _⟩ := isAt.cell h (bc x) hP
  rw [show 0 + 0 + k = k by omega, hc, hC.1, hu]
structure RrR (w : World) (b o : Nat) (p : RgV × Bool) (cv wv ov : Value) : Prop where
  c0 : ldC (hp w b) (o + 0) = some (.int .i64 p.1.nm.1)
  c1 : ldC (hp w b) (o + 1) = some (.int .i64 p.1.nm.2)
  c2 : ldC (hp w b) (o + 2) = some (.int .i64 p.1.cls)
  c3 : ldC (hp w b) (o + 3) = some (.int .i64 p.1.off)
  c4 : ldC (hp w b) (o + 4) = some (.bool p.2)
  c5 : ldC (hp w b) (o + 5) = some cv
  c6 : ldC (hp w b) (o + 6) = some wv
  c7 : ldC (hp w b) (o + 7) = some ov
  cT : ∃ F, intsT p.1.chunks w F cv
  wT : ∃ F, wordsT p.1.words w F wv
  oT : ∃ F, objsT p.1.objs w F ov
theorem rr_at {w : World} {L : List (RgV × Bool)} {F : Fp} {x : Value} (h : rrsT L w F x) {i : Nat} {r : RgV × Bool} (hr : L[i]? = some r) : ∃ b c, x = .slice (some ⟨b, 0, none⟩) L.length c ∧ ∃ cv wv ov, RrR w b (i * 8) r cv wv ov := by
  have get : ∀ k, k < 8 → (L.flatMap rrT)[i * 8 + k]? = (rrT r)[k]? := fun k hk => aR rrT_len L i r hr k hk
  obtain ⟨b, c, v0, F0, e0, _, _, _, l0, t0, _⟩ := isRow.cell h (good_rrL L) (get 0 (by omega))
  obtain ⟨b1, c1, v1, F1, e1, _, _, _, l1, t1, _⟩ := isRow.cell h (good_rrL L) (get 1 (by omega))
  obtain ⟨b2, c2, v2, F2, e2, _, _, _, l2, t2, _⟩ := isRow.cell h (good_rrL L) (get 2 (by omega))
  obtain ⟨b3, c3, v3, F3, e3, _, _, _, l3, t3, _⟩ := isRow.cell h (good_rrL L) (get 3 (by omega))
  obtain ⟨b4, c4, v4, F4, e4, _, _, _, l4, t4, _⟩ := isRow.cell h (good_rrL L) (get 4 (by omega))
  obtain ⟨b5, c5, v5, F5, e5, _, _, _, l5, t5, _⟩ := isRow.cell h (good_rrL L) (get 5 (by omega))
  obtain ⟨b6, c6, v6, F6, e6, _, _, _, l6, t6, _⟩ := isRow.cell h (good_rrL L) (get 6 (by omega))
  obtain ⟨b7, c7, v7, F7, e7, _, _, _, l7, t7, _⟩ := isRow.cell h (good_rrL L) (get 7 (by omega))
  subst e0
  cases e1; cases e2; cases e3; cases e4; cases e5; cases e6; cases e7
  rw [t0.1] at l0; rw [t1.1] at l1; rw [t2.1] at l2; rw [t3.1] at l3; rw [t4.1] at l4
  exact ⟨b, c, rfl, v5, v6, v7, l0, l1, l2, l3, l4, l5, l6, l7, ⟨F5, t5⟩, ⟨F6, t6⟩, ⟨F7, t7⟩⟩
theorem RrR.keep {w w' : World} {b o : Nat} {p : RgV × Bool} {cv wv ov : Value} (k : RrR w b o p cv wv ov) (hc : Chg [] w w') : RrR w' b o p cv wv ov := by
  obtain ⟨F, hF⟩ := k.cT
  obtain ⟨G, hG⟩ := k.wT
  obtain ⟨H, hH⟩ := k.oT
  exact ⟨aV hc k.c0, aV hc k.c1, aV hc k.c2, aV hc k.c3, aV hc k.c4, aV hc k.c5, aV hc k.c6, aV hc k.c7,
    ⟨F, (good_intsT _).frame hF (ChgP.of0 hc none') fun _ _ h => h⟩, ⟨G, (good_words _).frame hG (ChgP.of0 hc none') fun _ _ h => h⟩, ⟨H, (aS _).frame hH (ChgP.of0 hc none') fun _ _ h => h⟩⟩
theorem RfR.keep {w w' : World} {g : Nat} {x : RfV} {s gn r d h : Value} (k : RfR w g x s gn r d h) (hc : Chg [] w w') : RfR w' g x s gn r d h := by
  have e : hp w' g = hp w g := hc.block g (by
    rcases Nat.lt_or_ge g w.heap.size with h1 | h1
    · exact h1
    · have h2 : hp w g = none := by simp [hp]; omega
      have := k.l
      rw [h2] at this; cases this) (by simp)
  have ck : ∀ {L v}, (∃ F, intsT L w F v) → ∃ F, intsT L w' F v := fun ⟨F, hF⟩ => ⟨F, (good_intsT _).frame hF (ChgP.of0 hc none') fun _ _ h => h⟩
  obtain ⟨G, hG⟩ := k.rT
  obtain ⟨H, hH⟩ := k.hT
  exact ⟨fun i hi => by rw [e]; exact k.c i hi, by rw [e]; exact k.l, by rw [e]; exact k.sl, by rw [e]; exact k.gl, by rw [e]; exact k.rl, by rw [e]; exact k.dl, by rw [e]; exact k.hl, ck k.sT, ck k.gT,
    ⟨G, (good_rrs _).frame hG (ChgP.of0 hc none') fun _ _ h => h⟩, ck k.dT, ⟨H, (good_holds _).frame hH (ChgP.of0 hc none') fun _ _ h => h⟩⟩
end Go.Proofs.YtgamnncehjcdiaaGreat

namespace Go.Proofs.YtgamnncehjcdiaaGreat
open Go Ev Go.RowKit

theorem c_rIn (n a b : Int) (w : World) : CallR Tryz.prog 107 [.int .i64 n, .int .i64 a, .int .i64 b] w fun v w' => v = .bool (decide (a ≤ n ∧ n ≤ b)) ∧ w' = w := by
  apply F107_ok
  by_cases h1 : a ≤ n
  · simp -implicitDefEqProofs only [F107, zS, aH, bp_leq, h1, ge_iff_le, true_and, and_self]
  · simp -implicitDefEqProofs only [F107, zS, aH, bp_leq, h1, ge_iff_le, false_and, and_self]
theorem c_rRight (a n : Int) (w : World) : CallR Tryz.prog 108 [.int .i64 a, .int .i64 n] w fun v w' => v = .bool (rightV a n) ∧ w' = w := by
  apply F108_ok
  simp -implicitDefEqProofs only [F108]
  refine (c_rIn a 1 1024 w).step ?_
  by_cases h1 : 1 ≤ a ∧ a ≤ 1024
  · simp -implicitDefEqProofs only [decide_eq_true h1, zS]
    refine (c_rIn n 1 a w).step ?_
    simp -implicitDefEqProofs only [zS]
    exact ⟨by simp [rightV, h1.1, h1.2], trivial⟩
  · simp -implicitDefEqProofs only [decide_eq_false h1, zS]
    refine ⟨?_, trivial⟩
    rw [rightV, decide_eq_false (fun h => h1 ⟨h.1, h.2.1⟩)]
theorem c_rAlone (a n : Int) (w : World) : CallR Tryz.prog 109 [.int .i64 a, .int .i64 n] w fun v w' => v = .bool (aloneV a n) ∧ w' = w := by
  apply F109_ok
  simp -implicitDefEqProofs only [F109]
  refine (c_rRight a n w).step ?_
  cases hr : rightV a n with
  | true =>
    have := right_iff hr
    simp -implicitDefEqProofs only [zS, bp_sub, az (n := a - n) (by omega) (by omega)]
    refine ⟨?_, trivial⟩
    rw [aloneV, hr, Bool.true_and]
    congr 2
    exact propext ⟨fun h => by omega, fun h => by omega⟩
  | false =>
    simp -implicitDefEqProofs only [zS]
    exact ⟨by simp [aloneV, hr], trivial⟩
theorem c_rFits2 (a off n : Int) (w : World) : CallR Tryz.prog 106 [.int .i64 a, .int .i64 off, .int .i64 n] w fun v w' => v = .bool (fitsV a off n) ∧ w' = w := by
  apply F106_ok
  simp -implicitDefEqProofs only [F106]
  refine (c_rRight a n w).step ?_
  cases hr : rightV a n with
  | true =>
    have := right_iff hr
    simp -implicitDefEqProofs only [zS]
    refine (c_rAlone a n w).step ?_
    cases ha : aloneV a n with
    | true =>
      simp -implicitDefEqProofs only [zS]
      exact ⟨by simp [fitsV, ha], trivial⟩
    | false =>
      by_cases h0 : 0 ≤ off
      · simp -implicitDefEqProofs only [zS, aH, bp_leq, bp_sub, h0, ge_iff_le, az (n := a - n) (by omega) (by omega)]
        exact ⟨by simp [fitsV, hr, ha, h0], trivial⟩
      · simp -implicitDefEqProofs only [zS, aH, h0, ge_iff_le]
        exact ⟨by simp [fitsV, h0], trivial⟩
  | false =>
    simp -implicitDefEqProofs only [zS]
    exact ⟨by simp [fitsV, hr], trivial⟩
theorem c_rAfter (a n : Int) (w : World) : CallR Tryz.prog 88 [.int .i64 a, .int .i64 n] w fun v w' => v = .int .i64 (afterV a n) ∧ w' = w := by
  apply F88_ok
  simp -implicitDefEqProofs only [F88]
  refine (c_rRight a n w).step ?_
  cases hr : rightV a n with
  | true =>
    simp -implicitDefEqProofs only [zS]
    refine (c_rAlone a n w).step ?_
    cases ha : aloneV a n with
    | true => simp -implicitDefEqProofs only [zS]; exact ⟨by simp [afterV, hr, ha], trivial⟩
    | false => simp -implicitDefEqProofs only [zS]; exact ⟨by simp [afterV, hr, ha], trivial⟩
  | false => simp -implicitDefEqProofs only [zS]; exact ⟨by simp [afterV, hr], trivial⟩
theorem round_step {k n : Int} (hk : k = 1 ∨ k = 2 ∨ k = 4 ∨ k = 8) (h0 : 0 < n) : (n % k = 0 → roundS k n = n) ∧ (n % k ≠ 0 → roundS k (n + 1) = roundS k n ∧ n < roundS k n) := by
  unfold roundS
  rcases hk with rfl | rfl | rfl | rfl <;> constructor <;> intro h <;> (try constructor) <;> omega
theorem l_rRound1 {k : Int} (hk : k = 1 ∨ k = 2 ∨ k = 4 ∨ k = 8) (w : World) : ∀ (d : Nat) (n : Int), 0 < n → n ≤ 2000 → roundS k n - n ≤ d → P86_1 (.int .i64 n) (.int .i64 k) w fun v w' => v = .int .i64 (roundS k n) ∧ w' = w
  | d, n, h0, h1, hd => by
    apply L86_1_ok
    obtain ⟨s1, s2⟩ := round_step hk h0
    have hm : n.tmod k = n % k := Int.tmod_eq_emod_of_nonneg (by omega)
    by_cases hz : n % k = 0
    · have e : (n % k != 0) = false := by rw [hz]; rfl
      simp -implicitDefEqProofs only [L86_1, bp_rem (show k ≠ 0 by omega), hm, zS, e]
      rw [s1 hz]
      exact ⟨rfl, trivial⟩
    · have e : (n % k != 0) = true := bne_iff_ne.2 hz
      obtain ⟨s3, s4⟩ := s2 hz
      simp -implicitDefEqProofs only [L86_1, bp_rem (show k ≠ 0 by omega), hm, zS, e, aA, az (n := n + 1) (by omega) (by omega)]
      match d with
      | 0 => omega
      | d + 1 =>
        have hb : roundS k n ≤ 2000 ∨ 2000 < roundS k n := by omega
        have := l_rRound1 hk w d (n + 1) (by omega) (by
          rcases hb with hb | hb
          · omega
          · unfold roundS at hb s4
            rcases hk with rfl | rfl | rfl | rfl <;> omega) (by rw [s3]; omega)
        rw [s3] at this
        exact this
theorem c_rRound (cls n : Int) (w : World) : CallR Tryz.prog 86 [.int .i64 cls, .int .i64 n] w fun v w' => v = .int .i64 (roundV cls n) ∧ w' = w := by
  apply F86_ok
  simp -implicitDefEqProofs only [F86]
  refine (c_rIn n 1 1024 w).step ?_
  by_cases hn : 1 ≤ n ∧ n ≤ 1024
  · have rv : roundV cls n = roundS (stepOf cls) n := by rw [roundV, if_neg (by omega)]
    simp -implicitDefEqProofs only [decide_eq_true hn, zS]
    rw [rv]
    have fin : ∀ k, k = 1 ∨ k = 2 ∨ k = 4 ∨ k = 8 → stepOf cls = k → P86_1 (.int .i64 n) (.int .i64 k) w fun v w' => v = .int .i64 (roundS (stepOf cls) n) ∧ w' = w := fun k hk e => by
      rw [e]; exact l_rRound1 hk w (roundS k n - n).toNat n (by omega) (by omega) (by omega)
    apply L86_0_ok
    by_cases c0 : 0 < cls
    · simp -implicitDefEqProofs only [L86_0, zS, c0, show (0 : Int) < 3 by decide, bp_mul, aA, show IntKind.i64.wrap (2 * 1) = 2 by decide, show IntKind.i64.wrap (0 + 1) = 1 by decide]
      apply L86_0_ok
      by_cases c1 : 1 < cls
      · simp -implicitDefEqProofs only [L86_0, zS, c1, show (1 : Int) < 3 by decide, bp_mul, aA, show IntKind.i64.wrap (2 * 2) = 4 by decide, show IntKind.i64.wrap (1 + 1) = 2 by decide]
        apply L86_0_ok
        by_cases c2 : 2 < cls
        · simp -implicitDefEqProofs only [L86_0, zS, c2, show (2 : Int) < 3 by decide, bp_mul, aA, show IntKind.i64.wrap (2 * 4) = 8 by decide, show IntKind.i64.wrap (2 + 1) = 3 by decide]
          apply L86_0_ok
          by_cases c3 : 3 < cls
          · simp -implicitDefEqProofs only [L86_0, zS, c3, show ¬ (3 : Int) < 3 by decide]
            exact fin 8 (by omega) (by rw [stepOf, if_neg (by omega), if_neg (by omega), if_neg (by omega)])
          · simp -implicitDefEqProofs only [L86_0, zS, c3]
            exact fin 8 (by omega) (by rw [stepOf, if_neg (by omega), if_neg (by omega), if_neg (by omega)])
        · simp -implicitDefEqProofs only [L86_0, zS, c2]
          exact fin 4 (by omega) (by rw [stepOf, if_neg (by omega), if_neg (by omega), if_pos (by omega)])
      · simp -implicitDefEqProofs only [L86_0, zS, c1]
        exact fin 2 (by omega) (by rw [stepOf, if_neg (by omega), if_pos (by omega)])
    · simp -implicitDefEqProofs only [L86_0, zS, c0]
      exact fin 1 (by omega) (by rw [stepOf, if_pos (by omega)])
  · simp -implicitDefEqProofs only [decide_eq_false hn, zS]
    exact ⟨by rw [roundV, if_pos (by omega)], trivial⟩
theorem c_rLater (n : Int) (hn : n ≤ 4294967295) (w : World) (h0 : 0 ≤ n) : CallR Tryz.prog 51 [.int .i64 n] w fun v w' => v = .int .i64 (laterV n) ∧ w' = w := by
  apply F51_ok
  by_cases h : n ≥ 4294967295
  · simp -implicitDefEqProofs only [F51, zS, aH, h]
    exact ⟨by rw [laterV, if_neg (by omega)], trivial⟩
  · simp -implicitDefEqProofs only [F51, zS, aH, h, aA, az (n := n + 1) (by omega) (by omega)]
    exact ⟨by rw [laterV, if_pos (by omega)], trivial⟩
section
variable {w : World} {g : Nat} {x : RfV} {s gn r d h : Value}
theorem int_at {w : World} {A : Option Addr} {c : Nat} {L : List Int} (hR : RdI .i64 w A L) {i : Nat} {y : Int} (hy : L[i]? = some y) :
    ∃ q : Addr, pureRun Tryz.prog (Instr.indexAt 22 (.slice A L.length c) (.int .i64 (i : Int))) = some (.pointer (some q)) ∧ ldv Tryz.prog 3 (.pointer (some q)) w = some (.int .i64 y) := by
  have hil := (List.getElem?_eq_some_iff.1 hy).1
  obtain ⟨q, q1, q2⟩ := hR.at (P := Tryz.prog) (c := c) (j := .i64) Tryz.underlying22 Tryz.underlying3 sz_3 (i := (i : Int)) (by omega) (by omega)
  have hg : L.getD i 0 = y := by rw [List.getD_eq_getElem?_getD, hy]; rfl
  rw [Int.toNat_natCast, hg] at q2
  exact ⟨q, q1, q2⟩
def ixR (o : Option Nat) : Int := match o with | some i => (i : Int) | none => -1
def findX (L : List (RgV × Bool)) (n : NmV) : Option Nat := findR (L.map (·.1)) n
set_option maxHeartbeats 1000000 in
theorem c_rFind (R : RfR w g x s gn r d h) (n : NmV) (hl : x.rgs.length ≤ 1000000) : CallR Tryz.prog 79 [.pointer (some ⟨g, 0, none⟩), .int .i64 n.1, .int .i64 n.2] w fun v w' => v = .int .i64 (ixR (findX x.rgs n)) ∧ w' = w := by
  apply F79_ok
  simp -implicitDefEqProofs only [F79]
  obtain ⟨Fr, hFr⟩ := R.rT
  have main : ∀ (d i : Nat), (∀ (j : Nat) (p : RgV × Bool), j < i → x.rgs[j]? = some p → p.1.nm ≠ n) → i + d = x.rgs.length →
      P79_0 (.pointer (some ⟨g, 0, none⟩)) (.int .i64 n.1) (.int .i64 n.2) (.int .i64 i) w fun v w' => v = .int .i64 (ixR (findX x.rgs n)) ∧ w' = w := by
    intro d
    induction d with
    | zero =>
      intro i hn hi
      apply L79_0_ok
      obtain ⟨A, c, _, _, e, _⟩ := isRow.rd hFr
      have hrl := R.rl
      rw [e] at hrl
      have : ¬ (i : Int) < x.rgs.length := by omega
      simp -implicitDefEqProofs only [L79_0, zS, aJ, aM, hrl, len_105, this]
      have : findX x.rgs n = none := findR_none fun j r hj => by
        rw [List.getElem?_map] at hj
        cases hq : x.rgs[j]? with
        | none => rw [hq] at hj; cases hj
        | some p => rw [hq] at hj; cases hj; exact hn j p (by have := (List.getElem?_eq_some_iff.1 hq).1; omega) hq
      rw [this]
      exact ⟨rfl, trivial⟩
    | succ d ih =>
      intro i hn hi
      apply L79_0_ok
      have hlt : (i : Int) < x.rgs.length := by omega
      obtain ⟨p, hp'⟩ : ∃ p, x.rgs[i]? = some p := ⟨_, List.getElem?_eq_getElem (by omega)⟩
      obtain ⟨b, c, rfl, cv, wv, ov, Q⟩ := rr_at hFr hp'
      have ia := ia_105 (b := b) (p := 0) (n := x.rgs.length) (c := c) (j := .i64) (i := (i : Int)) (by omega) (by omega)
      rw [Int.toNat_natCast, Nat.zero_add] at ia
      have next : p.1.nm ≠ n → P79_0 (.pointer (some ⟨g, 0, none⟩)) (.int .i64 n.1) (.int .i64 n.2) (.int .i64 ((i : Int) + 1)) w fun v w' => v = .int .i64 (ixR (findX x.rgs n)) ∧ w' = w := by
        intro hne
        have := ih (i + 1) (fun j r hj hr => by
          rcases Nat.lt_or_ge j i with h1 | h1
          · exact hn j r h1 hr
          · have : j = i := by omega
            subst this
            rw [hp'] at hr; cases hr; exact hne) (by omega)
        rw [Int.natCast_add i 1] at this
        exact this
      by_cases h1 : p.1.nm.1 = n.1
      · have e1 : (p.1.nm.1 == n.1) = true := by rw [h1]; exact beq_self_eq_true _
        by_cases h2 : p.1.nm.2 = n.2
        · have e2 : (p.1.nm.2 == n.2) = true := by rw [h2]; exact beq_self_eq_true _
          simp -implicitDefEqProofs only [L79_0, zS, aJ, aM, R.rl, len_105, hlt, ia, fa_130_0, fa_130_1, af, Q.c0, Q.c1, e1, e2]
          have : findX x.rgs n = some i := findR_some (r := p.1) (by rw [List.getElem?_map, hp']; rfl) (Prod.ext h1 h2) fun j r hj hr => by
            rw [List.getElem?_map] at hr
            cases hq : x.rgs[j]? with
            | none => rw [hq] at hr; cases hr
            | some p => rw [hq] at hr; cases hr; exact hn j p hj hq
          rw [this]
          exact ⟨rfl, trivial⟩
        · simp -implicitDefEqProofs only [L79_0, zS, aJ, aM, R.rl, len_105, hlt, ia, fa_130_0, fa_130_1, af, Q.c0, Q.c1, e1, eqf h2, aA, az (n := (i : Int) + 1) (by omega) (by omega)]
          exact next fun e => h2 (by rw [e])
      · simp -implicitDefEqProofs only [L79_0, zS, aJ, aM, R.rl, len_105, hlt, ia, fa_130_0, af, Q.c0, eqf h1, aA, az (n := (i : Int) + 1) (by omega) (by omega)]
        exact next fun e => h1 (by rw [e])
  exact main x.rgs.length 0 (fun j p hj => by omega) (by omega)
def spareI (L : List Int) : Nat := (L.filter fun p => decide (p = 0)).length
set_option maxHeartbeats 1000000 in
theorem c_rSpare (R : RfR w g x s gn r d h) (hl : x.state.length ≤ 1000000) : CallR Tryz.prog 84 [.pointer (some ⟨g, 0, none⟩)] w fun v w' => v = .int .i64 (spareI x.state) ∧ w' = w := by
  apply F84_ok
  simp -implicitDefEqProofs only [F84]
  obtain ⟨A, c, rfl, hR⟩ := ints_sh R.sT
  have main : ∀ (d i : Nat), i + d = x.state.length → P84_0 (.pointer (some ⟨g, 0, none⟩)) (.int .i64 (spareI (x.state.take i))) (.int .i64 i) w fun v w' => v = .int .i64 (spareI x.state) ∧ w' = w := by
    intro d
    induction d with
    | zero =>
      intro i hi
      apply L84_0_ok
      have : ¬ (i : Int) < x.state.length := by omega
      simp -implicitDefEqProofs only [L84_0, zS, fa_108_2, aY, R.sl, len_22, this]
      rw [List.take_of_length_le (by omega)]
      exact ⟨rfl, trivial⟩
    | succ d ih =>
      intro i hi
      apply L84_0_ok
      have hlt : (i : Int) < x.state.length := by omega
      have hil : i < x.state.length := by omega
      obtain ⟨q, q1, q2⟩ := int_at (c := c) hR (List.getElem?_eq_getElem hil)
      have hsn : spareI (x.state.take (i + 1)) = spareI (x.state.take i) + if x.state[i] = 0 then 1 else 0 := by
        rw [List.take_add_one, List.getElem?_eq_getElem hil]
        simp only [spareI, Option.toList_some, List.filter_append, List.length_append]
        by_cases h : x.state[i] = 0 <;> simp [h]
      have hle : spareI (x.state.take i) ≤ i := by
        have := List.length_filter_le (fun p : Int => decide (p = 0)) (x.state.take i)
        simp only [spareI]; simp at this ⊢; omega
      have one : ∀ k : Nat, k = spareI (x.state.take (i + 1)) → P84_1 (.pointer (some ⟨g, 0, none⟩)) (.int .i64 k) (.int .i64 i) w fun v w' => v = .int .i64 (spareI x.state) ∧ w' = w := by
        rintro k rfl
        apply L84_1_ok
        simp -implicitDefEqProofs only [L84_1, zS, aA, az (n := (i : Int) + 1) (by omega) (by omega)]
        have := ih (i + 1) (by omega)
        rw [Int.natCast_add i 1] at this
        exact this
      generalize x.state[i] = y at *
      by_cases h0 : y = 0
      · have e1 : (y == 0) = true := by rw [h0]; rfl
        simp -implicitDefEqProofs only [L84_0, zS, fa_108_2, aY, R.sl, len_22, hlt, q1, q2, e1, aA, az (n := (spareI (x.state.take i) : Int) + 1) (by omega) (by omega)]
        have := one (spareI (x.state.take i) + 1) (by rw [hsn, if_pos h0])
        rw [Int.natCast_add _ 1] at this
        exact this
      · simp -implicitDefEqProofs only [L84_0, zS, fa_108_2, aY, R.sl, len_22, hlt, q1, q2, eqf h0]
        exact one _ (by rw [hsn, if_neg h0]; rfl)
  exact main x.state.length 0 (by omega)
end
end Go.Proofs.YtgamnncehjcdiaaGreat

