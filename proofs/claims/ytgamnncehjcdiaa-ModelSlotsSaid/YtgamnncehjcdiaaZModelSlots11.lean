/- Parts of the proof of ModelSlots, one behind the other. Conditions: none. -/
import Derived.Test.YtgamnncehjcdiaaChecked
import Derived.Eval
import Derived.Test.YtgamnncehjcdiaaZModelSlots10
namespace Go.Proofs.Ytgamnncehjcdiaa
open Go Ev Go.RowKit
set_option linter.unusedSimpArgs false
set_option linter.unusedVariables false
set_option maxRecDepth 10000

theorem flatM_setP {α β : Type} {f : α → List β} {z : Nat} (h : ∀ x, (f x).length = z) {k : Nat} {p : β} (hk : k < z) {x x' : α} (hx : f x' = (f x).set k p) {L : List α} {i : Nat} (hi : L[i]? = some x) : (L.flatMap f).set (i * z + k) p = (L.set i x').flatMap f := flatM_set h hk hx L i hi
/-- a cell of a region -/
theorem MdI.rgCell {w : World} {g : Nat} {m : MdV} {F : Fp} (h : MdI w g m F) {i : Nat} {r : RgV} (hr : m.rgs[i]? = some r) {k : Nat} (hk : k < 7) {P : Th} (hP : (rgT r)[k]? = some P) :
    ∃ b c v Fk, ldC (hp w g) (0 + 8) = some (.slice (some ⟨b, 0, none⟩) m.rgs.length c) ∧ ¬ Fk b ∧ (∀ x, Fk x → F x) ∧ F b ∧ b ≠ g ∧ ldC (hp w b) (i * 7 + k) = some v ∧ P w Fk v ∧
      (∀ w1 F' P' r', UpdP Fk F' w w1 → P' w1 F' v → rgT r' = (rgT r).set k P' → ∃ F1, MdI w1 g { m with rgs := m.rgs.set i r' } F1 ∧ UpdP F F1 w w1) ∧
      (∀ w1 F' P' v' r', UpdP Fk F' w w1 → OwnT P' → P' w1 F' v' → rgT r' = (rgT r).set k P' → okC (hp w1 b) (i * 7 + k + 1) = true ∧ ∃ F1, MdI (put w1 b ((getC (hp w1 b)).setIfInBounds (i * 7 + k) v') (getE (hp w1 b))) g { m with rgs := m.rgs.set i r' } F1 ∧ UpdP F F1 w (put w1 b ((getC (hp w1 b)).setIfInBounds (i * 7 + k) v') (getE (hp w1 b)))) := by
  obtain ⟨rv, Fr, hg, hng, hsub, hld, hR, hres, _⟩ := isAt.cell h (good_md m) (k := 8) (P := rgsT m.rgs) rfl
  have hP' : (m.rgs.flatMap rgT)[i * 7 + k]? = some P := (flatM_get rgT_len m.rgs i r hr k hk).trans hP
  obtain ⟨b, c, v, Fk, hx, hFb, hnb, hsub2, hld2, hv, h3, h4⟩ := isRow.cell hR (good_rgL m.rgs) hP'
  refine ⟨b, c, v, Fk, by rw [← hx]; exact hld, hnb, fun x hx => hsub x (hsub2 x hx), hsub b hFb, fun e => hng (by rw [← e]; exact hFb), hld2, hv, fun w1 F' P' r' u hp hr' => ?_, fun w1 F' P' v' r' u hg' hpp hr' => ?_⟩
  · obtain ⟨F1, hrow, hupd⟩ := h3 w1 F' P' u hp
    rw [flatM_setP rgT_len hk hr' hr] at hrow
    have hrow' : rgsT (m.rgs.set i r') w1 F1 rv := by rw [rgsT, List.length_set]; exact hrow
    obtain ⟨F2, e1, e2⟩ := hres w1 F1 (rgsT (m.rgs.set i r')) hupd hrow'
    exact ⟨F2, e1, e2⟩
  · obtain ⟨ok, F1, hrow, hupd⟩ := h4 w1 F' P' v' u hg' hpp
    rw [flatM_setP rgT_len hk hr' hr] at hrow
    have hrow' : rgsT (m.rgs.set i r') (put w1 b ((getC (hp w1 b)).setIfInBounds (i * 7 + k) v') (getE (hp w1 b))) F1 rv := by rw [rgsT, List.length_set]; exact hrow
    obtain ⟨F2, e1, e2⟩ := hres _ F1 (rgsT (m.rgs.set i r')) hupd hrow'
    exact ⟨ok, F2, e1, e2⟩
/-- a cell of a hand -/
theorem MdI.hdCell {w : World} {g : Nat} {m : MdV} {F : Fp} (h : MdI w g m F) {i : Nat} {d : HdV} (hd : m.hands[i]? = some d) {k : Nat} (hk : k < 2) {P : Th} (hP : (hdT d)[k]? = some P) :
    ∃ b c v Fk, ldC (hp w g) (0 + 9) = some (.slice (some ⟨b, 0, none⟩) m.hands.length c) ∧ ¬ Fk b ∧ (∀ x, Fk x → F x) ∧ F b ∧ b ≠ g ∧ ldC (hp w b) (i * 2 + k) = some v ∧ P w Fk v ∧
      (∀ w1 F' P' v' d', UpdP Fk F' w w1 → OwnT P' → P' w1 F' v' → hdT d' = (hdT d).set k P' → okC (hp w1 b) (i * 2 + k + 1) = true ∧ ∃ F1, MdI (put w1 b ((getC (hp w1 b)).setIfInBounds (i * 2 + k) v') (getE (hp w1 b))) g { m with hands := m.hands.set i d' } F1 ∧ UpdP F F1 w (put w1 b ((getC (hp w1 b)).setIfInBounds (i * 2 + k) v') (getE (hp w1 b)))) := by
  obtain ⟨rv, Fr, hg, hng, hsub, hld, hR, hres, _⟩ := isAt.cell h (good_md m) (k := 9) (P := handsT m.hands) rfl
  have hP' : (m.hands.flatMap hdT)[i * 2 + k]? = some P := (flatM_get hdT_len m.hands i d hd k hk).trans hP
  obtain ⟨b, c, v, Fk, hx, hFb, hnb, hsub2, hld2, hv, h3, h4⟩ := isRow.cell hR (good_hdL m.hands) hP'
  refine ⟨b, c, v, Fk, by rw [← hx]; exact hld, hnb, fun x hx => hsub x (hsub2 x hx), hsub b hFb, fun e => hng (by rw [← e]; exact hFb), hld2, hv, fun w1 F' P' v' d' u hg' hpp hr' => ?_⟩
  obtain ⟨ok, F1, hrow, hupd⟩ := h4 w1 F' P' v' u hg' hpp
  rw [flatM_setP hdT_len hk hr' hd] at hrow
  have hrow' : handsT (m.hands.set i d') (put w1 b ((getC (hp w1 b)).setIfInBounds (i * 2 + k) v') (getE (hp w1 b))) F1 rv := by rw [handsT, List.length_set]; exact hrow
  obtain ⟨F2, e1, e2⟩ := hres _ F1 (handsT (m.hands.set i d')) hupd hrow'
  exact ⟨ok, F2, e1, e2⟩
end Go.Proofs.Ytgamnncehjcdiaa

namespace Go.Proofs.Ytgamnncehjcdiaa
open Go Ev Go.RowKit
set_option linter.unusedSimpArgs false
set_option linter.unusedVariables false
set_option maxRecDepth 10000

/-- an answer: code, handle, number, word -/
abbrev RsV := Int × HnV × Int × Int
def rsC (r : RsV) : List Value := [.int .i64 r.1, .int .i64 r.2.1.1, .int .i64 r.2.1.2.1, .int .i64 r.2.1.2.2.1, .int .i64 r.2.1.2.2.2.1, .int .i64 r.2.1.2.2.2.2, .int .i64 r.2.2.1, .int .u64 r.2.2.2]
def noH : HnV := (0, 0, 0, 0, 0)
def noR : RsV := (0, noH, 0, 0)
def codeR (c : Int) : RsV := (c, noH, 0, 0)
def nmOf (h : HnV) : NmV := (h.1, h.2.1)
def rgOf (m : MdV) (n : NmV) : Option RgV := (findR m.rgs n).bind (m.rgs[·]?)
/-- the words of a region's chunk -/
def chunkW (r : RgV) (ch : Int) : List Int := r.words.getD (ixOf r.chunks ch).toNat []
def wordV (m : MdV) (h : HnV) (n : Int) : Int := match rgOf m (nmOf h) with
  | some r => (chunkW r h.2.2.1).getD (h.2.2.2.1 + n).toNat 0
  | none => 0
def setW (r : RgV) (h : HnV) (n x : Int) : RgV := { r with words := r.words.set (ixOf r.chunks h.2.2.1).toNat ((chunkW r h.2.2.1).set (h.2.2.2.1 + n).toNat x) }
def setWordV (m : MdV) (h : HnV) (n x : Int) : MdV := match findR m.rgs (nmOf h) with
  | some i => (match m.rgs[i]? with | some r => { m with rgs := m.rgs.set i (setW r h n x) } | none => m)
  | none => m
/-- the answer of one that is not refused, and of which the answer is not open -/
def mustB (m : MdV) (o : OpV) (h : HnV) : RsV :=
  if o.1 = 6 ∨ o.1 = 8 then (0, noH, 0, wordV m h o.2.2.2.1)
  else if o.1 = 9 then (0, noH, if wordV m h o.2.2.2.1 = o.2.2.2.2.1 then 1 else 0, 0)
  else if o.1 = 12 then (0, noH, (match rgOf m (nmOf h) with | some r => r.off | none => 0), 0)
  else noR
/-- the answer that alone is right -/
def mustV (m : MdV) (w : Int) (o : OpV) (h : HnV) : RsV × Bool :=
  if mayV m w o = false then (noR, false)
  else match m.hands[w.toNat]? with
  | none => (noR, false)
  | some d =>
    if refusesV m d o h ≠ 0 then (codeR (refusesV m d o h), true)
    else if o.1 = 1 ∨ o.1 = 2 then (noR, false)
    else (mustB m o h, true)
def setHd (m : MdV) (w : Int) (d : HdV) : MdV := { m with hands := m.hands.set w.toNat d }
/-- what an operation does of which the answer is Fine -/
def doesV (m : MdV) (w : Int) (o : OpV) (h : HnV) : MdV := match m.hands[w.toNat]? with
  | none => m
  | some d =>
    if o.1 = 3 then setHd m w { d with depth := d.depth + 1 }
    else if o.1 = 4 then setHd m w (if d.depth - 1 = 0 then { depth := 0, holds := [] } else { d with depth := d.depth - 1 })
    else if o.1 = 5 then (if holdsV d h then m else setHd m w { d with holds := d.holds ++ [nmOf h] })
    else if o.1 = 7 then setWordV m h o.2.2.2.1 o.2.2.2.2.1
    else if o.1 = 8 then setWordV m h o.2.2.2.1 (IntKind.u64.wrap (wordV m h o.2.2.2.1 + o.2.2.2.2.1))
    else if o.1 = 9 then (if wordV m h o.2.2.2.1 = o.2.2.2.2.1 then setWordV m h o.2.2.2.1 o.2.2.2.2.2 else m)
    else if o.1 = 10 then (match m.slots[h.1.toNat]? with | some p => { m with slots := m.slots.set h.1.toNat (if m.loose then 0 else 2, p.2) } | none => m)
    else m
def laterV (g : Int) : Int := if g < 4294967295 then g + 1 else 0
/-- a Create's answer -/
def createsV (m : MdV) (cls : Int) (r : RsV) : Bool × MdV :=
  if r = codeR 7 then (m.loose || decide (spareN m.slots = 0), m)
  else if 0 ≤ r.2.1.1 ∧ r.2.1.1 < m.slots.length then (match m.slots[r.2.1.1.toNat]? with
    | some p => if p.1 ≠ 0 then (false, m) else if r = (0, (r.2.1.1, laterV p.2, 0, 0, 0), 0, 0) then
        (true, { m with slots := m.slots.set r.2.1.1.toNat (1, laterV p.2), rgs := m.rgs ++ [⟨(r.2.1.1, laterV p.2), cls, 0, [], [], []⟩] }) else (false, m)
    | none => (false, m))
  else (false, m)
def takenV (m : MdV) (ch : Int) : Bool := m.rgs.any fun r => isLv m r.nm && decide (ch ∈ r.chunks)
/-- a region, grown by an object -/
def growV (words need : Int) (r : RgV) (want : HnV) : RgV :=
  if rfitsV r words need then { r with off := r.off + need, objs := r.objs ++ [want] }
  else { r with chunks := r.chunks ++ [want.2.2.1], words := r.words ++ [List.replicate words.toNat 0], off := afterV words need, objs := r.objs ++ [want] }
def wantV (words need n : Int) (r : RgV) (h : HnV) (ch : Int) : HnV := if rfitsV r words need then (h.1, h.2.1, newV r.chunks, r.off, n) else (h.1, h.2.1, ch, 0, n)
/-- an Alloc's answer -/
def givesV (m : MdV) (n : Int) (h : HnV) (r : RsV) : Bool × MdV := match findR m.rgs (nmOf h) with
  | none => (false, m)
  | some i => match m.rgs[i]? with
    | none => (false, m)
    | some x =>
      let need := roundV x.cls n
      let fits := rfitsV x m.c.2.2.1 need
      let want := wantV m.c.2.2.1 need n x h r.2.1.2.2.1
      if fits = false ∧ r = codeR 6 then (true, m)
      else if fits = false ∧ (r.2.1.2.2.1 < 0 ∨ m.c.2.1 ≤ r.2.1.2.2.1 ∨ takenV m r.2.1.2.2.1 = true) then (false, m)
      else if r = (0, want, 0, 0) then (true, { m with rgs := m.rgs.set i (growV m.c.2.2.1 need x want) })
      else (false, m)
/-- an operation, and an answer: may it be, and what comes of it -/
def doV (m : MdV) (w : Int) (o : OpV) (h : HnV) (r : RsV) : Bool × MdV :=
  if mayV m w o = false then (false, m)
  else if (mustV m w o h).2 = true then
    (if r = (mustV m w o h).1 then (true, if r.1 = 0 then doesV m w o h else m) else (false, m))
  else if o.1 = 1 then createsV m o.2.2.2.1 r
  else givesV m o.2.2.2.1 h r
/-- a region as it can be, of so many words a chunk, at most so many chunks, objects -/
structure WfR (words : Int) (k : Nat) (r : RgV) : Prop where
  cl : r.chunks.length ≤ k
  wl : r.words.length = r.chunks.length
  ww : ∀ L ∈ r.words, (L.length : Int) = words
  ol : r.objs.length ≤ k
  ob : ∀ h ∈ r.objs, h.2.2.1 ∈ r.chunks ∧ 0 ≤ h.2.2.2.1 ∧ 1 ≤ h.2.2.2.2 ∧ h.2.2.2.1 + h.2.2.2.2 ≤ words
  of0 : 0 ≤ r.off
  ofw : r.off ≤ words
structure Wf (m : MdV) (k : Nat) : Prop where
  w1 : 1 ≤ m.c.2.2.1
  w2 : m.c.2.2.1 ≤ 1024
  sl : m.slots.length ≤ 1000000
  sg : ∀ p ∈ m.slots, 0 ≤ p.2 ∧ p.2 ≤ 4294967295
  hd : ∀ d ∈ m.hands, 0 ≤ d.depth ∧ d.depth ≤ 15 ∧ d.holds.length ≤ 8
  rl : m.rgs.length ≤ k
  rg : ∀ r ∈ m.rgs, WfR m.c.2.2.1 k r
theorem Wf.small {m : MdV} {k : Nat} (h : Wf m k) (hk : k ≤ 1000000) : Small m :=
  ⟨Nat.le_trans h.rl hk, fun r hr => Nat.le_trans (h.rg r hr).ol hk, fun d hd => by have := (h.hd d hd).2.2; omega⟩
theorem WfR.mono {words : Int} {k l : Nat} {r : RgV} (h : WfR words k r) (hl : k ≤ l) : WfR words l r := ⟨Nat.le_trans h.cl hl, h.wl, h.ww, Nat.le_trans h.ol hl, h.ob, h.of0, h.ofw⟩
theorem Wf.mono {m : MdV} {k l : Nat} (h : Wf m k) (hl : k ≤ l) : Wf m l := ⟨h.w1, h.w2, h.sl, h.sg, h.hd, Nat.le_trans h.rl hl, fun r hr => (h.rg r hr).mono hl⟩
theorem findR_at {L : List RgV} {n : NmV} {i : Nat} (h : findR L n = some i) : ∃ r, L[i]? = some r ∧ r.nm = n := by
  rw [findR, List.findIdx?_eq_some_iff_getElem] at h
  obtain ⟨hi, hp, _⟩ := h
  exact ⟨L[i], List.getElem?_eq_getElem hi, by simpa using hp⟩
theorem ixOf_at {α : Type} [DecidableEq α] {L : List α} {x : α} (h : x ∈ L) : ∃ i : Nat, ixOf L x = i ∧ L[i]? = some x := by
  have h1 := ixOf_mem L x
  rw [decide_eq_true h, decide_eq_true_eq] at h1
  unfold ixOf at h1 ⊢
  split at h1
  · rename_i i hi
    rw [List.findIdx?_eq_some_iff_getElem] at hi
    obtain ⟨hl, hp, _⟩ := hi
    exact ⟨i, rfl, by rw [List.getElem?_eq_getElem hl]; simpa using hp⟩
  · omega
theorem WfR.setW {words : Int} {k : Nat} {r : RgV} (h : WfR words k r) (a : HnV) (n x : Int) : WfR words k (setW r a n x) := by
  refine ⟨h.cl, by simp [Go.Proofs.Ytgamnncehjcdiaa.setW, h.wl], fun L hL => ?_, h.ol, h.ob, h.of0, h.ofw⟩
  rcases List.mem_or_eq_of_mem_set hL with h1 | h1
  · exact h.ww L h1
  · rw [h1, List.length_set]
    by_cases hi : (ixOf r.chunks a.2.2.1).toNat < r.words.length
    · apply h.ww; rw [chunkW, List.getD_eq_getElem?_getD, List.getElem?_eq_getElem hi]; exact List.getElem_mem hi
    · rw [Go.Proofs.Ytgamnncehjcdiaa.setW, List.set_eq_of_length_le (by omega)] at hL
      have e : chunkW r a.2.2.1 = [] := by rw [chunkW, List.getD_eq_getElem?_getD, List.getElem?_eq_none (by omega)]; rfl
      rw [e] at h1
      simp at h1
      have := h.ww L hL
      rw [h1] at this
      rw [e]; exact this
theorem mem_set {α : Type} {p : α → Prop} {L : List α} {i : Nat} {x : α} (h : ∀ y ∈ L, p y) (hx : p x) : ∀ y ∈ L.set i x, p y := fun y hy => by
  rcases List.mem_or_eq_of_mem_set hy with h1 | h1
  · exact h y h1
  · rw [h1]; exact hx
theorem Wf.setRg {m : MdV} {k : Nat} (h : Wf m k) {i : Nat} {r : RgV} (hr : WfR m.c.2.2.1 k r) : Wf { m with rgs := m.rgs.set i r } k :=
  ⟨h.w1, h.w2, h.sl, h.sg, h.hd, by simpa using h.rl, mem_set h.rg hr⟩
theorem Wf.setHd {m : MdV} {k : Nat} (h : Wf m k) {w : Int} {d : HdV} (hd : 0 ≤ d.depth ∧ d.depth ≤ 15 ∧ d.holds.length ≤ 8) : Wf (setHd m w d) k :=
  ⟨h.w1, h.w2, h.sl, h.sg, mem_set h.hd hd, h.rl, h.rg⟩
theorem Wf.setSl {m : MdV} {k : Nat} (h : Wf m k) {i : Nat} {p : NmV} (hp : 0 ≤ p.2 ∧ p.2 ≤ 4294967295) : Wf { m with slots := m.slots.set i p } k :=
  ⟨h.w1, h.w2, by simpa using h.sl, mem_set h.sg hp, h.hd, h.rl, h.rg⟩
theorem Wf.setWord {m : MdV} {k : Nat} (h : Wf m k) (a : HnV) (n x : Int) : Wf (setWordV m a n x) k := by
  unfold setWordV
  split
  · split
    · rename_i r hr
      exact h.setRg ((h.rg r (List.mem_of_getElem? hr)).setW a n x)
    · exact h
  · exact h
theorem later_ok {g : Int} (h : 0 ≤ g) : 0 ≤ laterV g ∧ laterV g ≤ 4294967295 := by unfold laterV; split <;> omega
theorem Wf.back {m : MdV} {k : Nat} (h : Wf m k) (n : Int) : Wf (backV m n).2 k := by
  unfold backV
  split
  · split
    · rename_i p hp
      split
      · exact h.setSl (h.sg p (List.mem_of_getElem? hp))
      · exact h
    · exact h
  · exact h
theorem right_need {words need : Int} (h : rightV words need = true) : 1 ≤ need ∧ need ≤ words := by have := right_iff h; omega
theorem fits_need {r : RgV} {words need : Int} (h : rfitsV r words need = true) : 0 < r.chunks.length ∧ 1 ≤ need ∧ 0 ≤ r.off ∧ r.off + need ≤ words := by
  simp only [rfitsV, fitsV, Bool.and_eq_true, Bool.not_eq_true', decide_eq_true_eq] at h
  have := right_need h.2.1
  omega
theorem after_ok {words need : Int} (hw : 0 ≤ words) : 0 ≤ afterV words need ∧ afterV words need ≤ words := by
  unfold afterV
  split
  · rename_i h
    have := right_need h
    split <;> omega
  · omega
theorem newV_mem {l : List Int} (h : 0 < l.length) : newV l ∈ l := by
  rw [newV, if_neg (by omega), List.getD_eq_getElem?_getD, List.getElem?_eq_getElem (by omega)]
  exact List.getElem_mem _
theorem round_ge {cls n : Int} (h1 : 1 ≤ n) (h2 : n ≤ 1024) : n ≤ roundV cls n ∧ roundV cls n ≤ 1031 := by
  rw [roundV, if_neg (by omega)]
  have : stepOf cls = 1 ∨ stepOf cls = 2 ∨ stepOf cls = 4 ∨ stepOf cls = 8 := by unfold stepOf; repeat' split; all_goals omega
  unfold roundS
  rcases this with h | h | h | h <;> rw [h] <;> omega
theorem WfR.grow {words : Int} {k : Nat} {r : RgV} (h : WfR words k r) (hw : 0 ≤ words) {n need : Int} (hn : 1 ≤ n) (hnw : n ≤ words) (hnn : n ≤ need) (a : HnV) (ch : Int) : WfR words (k + 1) (growV words need r (wantV words need n r a ch)) := by
  unfold growV wantV
  cases hf : rfitsV r words need with
  | true =>
    obtain ⟨f1, f2, f3, f4⟩ := fits_need hf
    simp only [if_true]
    refine ⟨by have := h.cl; simp only; omega, h.wl, h.ww, by have := h.ol; simp; omega, fun x hx => ?_, by show 0 ≤ r.off + need; omega, f4⟩
    rcases List.mem_append.1 hx with h1 | h1
    · exact h.ob x h1
    · rw [List.mem_singleton.1 h1]
      exact ⟨newV_mem f1, f3, hn, by show r.off + n ≤ words; omega⟩
  | false =>
    simp only [Bool.false_eq_true, if_false]
    refine ⟨by have := h.cl; simp; omega, by simp [h.wl], fun L hL => ?_, by have := h.ol; simp; omega, fun x hx => ?_, (after_ok hw).1, (after_ok hw).2⟩
    · rcases List.mem_append.1 hL with h1 | h1
      · exact h.ww L h1
      · rw [List.mem_singleton.1 h1, List.length_replicate]; omega
    · rcases List.mem_append.1 hx with h1 | h1
      · have := h.ob x h1
        exact ⟨List.mem_append_left _ this.1, this.2⟩
      · rw [List.mem_singleton.1 h1]
        exact ⟨List.mem_append_right _ (by simp), by show (0 : Int) ≤ 0; omega, hn, by show 0 + n ≤ words; omega⟩
theorem may_n {m : MdV} {w : Int} {o : OpV} (h : mayV m w o = true) : 0 ≤ w ∧ w < m.hands.length ∧ 0 ≤ o.2.2.2.1 := by
  simp only [mayV, mayO, Bool.and_eq_true, decide_eq_true_eq] at h
  exact ⟨h.1, h.2.1, h.2.2.2.2.2.1.1⟩
theorem refuses_n {m : MdV} {d : HdV} {o : OpV} {h : HnV} (hr : refusesV m d o h = 0) (ho : o.1 = 2) : 1 ≤ o.2.2.2.1 ∧ o.2.2.2.1 ≤ m.c.2.2.1 ∧ isLv m (nmOf h) = true ∧ knownV m h 1 = true := by
  unfold refusesV at hr
  split at hr
  · omega
  · rename_i hk
    have e : ofK o.1 = 1 := by rw [ho]; rfl
    rw [e] at hk
    rw [codeV, if_pos ho] at hr
    split at hr
    · omega
    · refine ⟨by omega, by omega, ?_, ?_⟩
      · unfold staleV at hr
        split at hr
        · assumption
        · omega
      · cases hkk : knownV m h 1 with
        | true => rfl
        | false => exact absurd ⟨by omega, hkk⟩ hk
end Go.Proofs.Ytgamnncehjcdiaa

namespace Go.Proofs.Ytgamnncehjcdiaa
open Go Ev Go.RowKit
set_option linter.unusedSimpArgs false
set_option linter.unusedVariables false
set_option maxRecDepth 10000

theorem refuses_code {m : MdV} {d : HdV} {o : OpV} {h : HnV} (hr : refusesV m d o h = 0) : (ofK o.1 = 0 ∨ knownV m h (ofK o.1) = true) ∧ codeV m.c.2.2.1 d (holdsV d h) (staleV m h) o h.2.2.2.2 = 0 := by
  unfold refusesV at hr
  split at hr
  · omega
  · rename_i hk
    refine ⟨?_, hr⟩
    by_cases h0 : ofK o.1 = 0
    · exact .inl h0
    · right
      cases hkk : knownV m h (ofK o.1) with
      | true => rfl
      | false => exact absurd ⟨h0, hkk⟩ hk
theorem Wf.does {m : MdV} {k : Nat} (h : Wf m k) {w : Int} {o : OpV} {a : HnV} {d : HdV} (hd : m.hands[w.toNat]? = some d) (hr : refusesV m d o a = 0) : Wf (doesV m w o a) k := by
  have hc := (refuses_code hr).2
  have hD := h.hd d (List.mem_of_getElem? hd)
  unfold doesV
  rw [hd]
  simp only
  split
  · rename_i k3
    rw [codeV, if_neg (by omega), if_pos k3] at hc
    refine h.setHd ⟨by simp only; omega, ?_, hD.2.2⟩
    split at hc
    · omega
    · simp only; omega
  split
  · rename_i k3 k4
    rw [codeV, if_neg (by omega), if_neg (by omega), if_pos k4] at hc
    refine h.setHd ?_
    split
    · exact ⟨Int.le_refl _, by decide, Nat.zero_le _⟩
    · refine ⟨?_, by simp only; omega, hD.2.2⟩
      split at hc
      · omega
      · simp only; omega
  split
  · rename_i k3 k4 k5
    rw [codeV, if_neg (by omega), if_neg (by omega), if_neg (by omega), if_pos k5] at hc
    split
    · exact h
    · rename_i hh
      refine h.setHd ⟨hD.1, hD.2.1, ?_⟩
      split at hc
      · omega
      · split at hc
        · omega
        · simp; omega
  split
  · exact h.setWord _ _ _
  split
  · exact h.setWord _ _ _
  split
  · split
    · exact h.setWord _ _ _
    · exact h
  split
  · split
    · rename_i p hp
      exact h.setSl (h.sg p (List.mem_of_getElem? hp))
    · exact h
  · exact h
theorem Wf.creates {m : MdV} {k : Nat} (h : Wf m k) (cls : Int) (r : RsV) : Wf (createsV m cls r).2 (k + 1) := by
  have h1 := h.mono (Nat.le_succ k)
  unfold createsV
  split
  · exact h1
  split
  · split
    · rename_i p hp
      split
      · exact h1
      split
      · have hp' := h.sg p (List.mem_of_getElem? hp)
        refine ⟨h.w1, h.w2, by simpa using h.sl, mem_set h.sg (later_ok hp'.1), h.hd, by have := h.rl; simp; omega, fun x hx => ?_⟩
        rcases List.mem_append.1 hx with hx | hx
        · exact h1.rg x hx
        · rw [List.mem_singleton.1 hx]
          have := h.w1
          exact ⟨Nat.zero_le _, rfl, fun L hL => by simp at hL, Nat.zero_le _, fun a ha => by simp at ha, Int.le_refl _, by show (0 : Int) ≤ m.c.2.2.1; omega⟩
      · exact h1
    · exact h1
  · exact h1
theorem Wf.gives {m : MdV} {k : Nat} (h : Wf m k) {n : Int} (h1 : 1 ≤ n) (h2 : n ≤ m.c.2.2.1) (a : HnV) (r : RsV) : Wf (givesV m n a r).2 (k + 1) := by
  have hk := h.mono (Nat.le_succ k)
  have w1 := h.w1
  have w2 := h.w2
  unfold givesV
  split
  · exact hk
  · split
    · exact hk
    · rename_i i _ x hx
      have hW := h.rg x (List.mem_of_getElem? hx)
      simp only
      split
      · exact hk
      split
      · exact hk
      split
      · refine ⟨h.w1, h.w2, h.sl, h.sg, h.hd, by have := h.rl; simp; omega, mem_set hk.rg ?_⟩
        exact hW.grow (by omega) h1 h2 (round_ge h1 (by omega)).1 a _
      · exact hk
theorem may_hd {m : MdV} {w : Int} {o : OpV} (h : mayV m w o = true) : ∃ d, m.hands[w.toNat]? = some d := ⟨_, List.getElem?_eq_getElem (by have := may_n h; omega)⟩
theorem must_open {m : MdV} {w : Int} {o : OpV} {h : HnV} (hm : mayV m w o = true) {d : HdV} (hd : m.hands[w.toNat]? = some d) (hi : (mustV m w o h).2 = false) : refusesV m d o h = 0 ∧ (o.1 = 1 ∨ o.1 = 2) := by
  unfold mustV at hi
  rw [if_neg (by rw [hm]; simp), hd] at hi
  simp only at hi
  split at hi
  · cases hi
  · rename_i h0
    split at hi
    · rename_i h1
      exact ⟨by omega, h1⟩
    · cases hi
theorem must_fine {m : MdV} {w : Int} {o : OpV} {h : HnV} (hm : mayV m w o = true) {d : HdV} (hd : m.hands[w.toNat]? = some d) (hc : (mustV m w o h).1.1 = 0) : refusesV m d o h = 0 := by
  unfold mustV at hc
  rw [if_neg (by rw [hm]; simp), hd] at hc
  simp only at hc
  split at hc
  · exact hc
  · omega
theorem touch_ok {m : MdV} {d : HdV} {o : OpV} {h : HnV} (hr : refusesV m d o h = 0) (h6 : 6 ≤ o.1) (h9 : o.1 ≤ 9) : knownV m h 2 = true ∧ o.2.2.2.1 < h.2.2.2.2 := by
  obtain ⟨h1, h2⟩ := refuses_code hr
  have e : ofK o.1 = 2 := by rw [ofK, if_neg (by omega), if_pos ⟨h6, h9⟩]
  rw [e] at h1
  rw [codeV, if_neg (by omega), if_neg (by omega), if_neg (by omega), if_neg (by omega), if_pos ⟨h6, h9⟩] at h2
  refine ⟨h1.resolve_left (by omega), ?_⟩
  split at h2
  · omega
  · split at h2
    · omega
    · omega
theorem region_ok {m : MdV} {d : HdV} {o : OpV} {h : HnV} (hr : refusesV m d o h = 0) (hk : o.1 = 2 ∨ o.1 = 10 ∨ o.1 = 12) : ∃ i r, findR m.rgs (nmOf h) = some i ∧ m.rgs[i]? = some r ∧ r.nm = nmOf h ∧ isLv m (nmOf h) = true := by
  obtain ⟨h1, h2⟩ := refuses_code hr
  have e : ofK o.1 = 1 := by rw [ofK, if_pos hk]
  rw [e] at h1
  have hl : isLv m (nmOf h) = true := by
    have : staleV m h = 0 := by
      unfold codeV at h2
      rcases hk with k | k | k
      · rw [if_pos k] at h2
        split at h2
        · omega
        · exact h2
      · rw [if_neg (by omega), if_neg (by omega), if_neg (by omega), if_neg (by omega), if_neg (by omega), if_pos (by omega)] at h2; exact h2
      · rw [if_neg (by omega), if_neg (by omega), if_neg (by omega), if_neg (by omega), if_neg (by omega), if_pos (by omega)] at h2; exact h2
    unfold staleV at this
    split at this
    · assumption
    · omega
  have hk1 := h1.resolve_left (by omega)
  unfold knownV at hk1
  split at hk1
  · cases hk1
  · rename_i i hf
    obtain ⟨r, hr', hn⟩ := findR_at hf
    exact ⟨i, r, hf, hr', hn, hl⟩
theorem Wf.doV {m : MdV} {k : Nat} (h : Wf m k) (w : Int) (o : OpV) (a : HnV) (r : RsV) : Wf (doV m w o a r).2 (k + 1) := by
  have hk := h.mono (Nat.le_succ k)
  unfold Go.Proofs.Ytgamnncehjcdiaa.doV
  cases hm : mayV m w o with
  | false => simp only [if_true]; exact hk
  | true =>
    rw [if_neg (by simp)]
    obtain ⟨d, hd⟩ := may_hd hm
    split
    · split
      · rename_i hr
        simp only
        split
        · rename_i h0
          exact (h.does hd (must_fine hm hd (by rw [← hr]; exact h0))).mono (Nat.le_succ k)
        · exact hk
      · exact hk
    · rename_i hi
      have hop := must_open hm hd (by simpa using hi)
      split
      · exact h.creates _ _
      · have := refuses_n hop.1 (by omega)
        exact h.gives this.1 this.2.1 a r
end Go.Proofs.Ytgamnncehjcdiaa

namespace Go.Proofs.Ytgamnncehjcdiaa
open Go Ev Go.RowKit
set_option linter.unusedSimpArgs false
set_option linter.unusedVariables false
set_option maxRecDepth 10000

theorem chg_ld {w w' : World} (hc : Chg [] w w') {b o : Nat} {v : Value} (h : ldC (hp w b) o = some v) : ldC (hp w' b) o = some v := by
  have : hp w' b = hp w b := hc.block b (by
    rcases Nat.lt_or_ge b w.heap.size with h1 | h1
    · exact h1
    · have h2 : hp w b = none := by simp [hp]; omega
      rw [h2] at h; cases h) (by simp)
  rw [this]; exact h
theorem MdI.word {w : World} {g : Nat} {m : MdV} {F : Fp} (I : MdI w g m F) {i : Nat} {r : RgV} (hi : m.rgs[i]? = some r) {k : Nat} {L : List Int} (hL : r.words[k]? = some L) {j : Nat} {x : Int} (hj : L[j]? = some x) :
    ∃ b c bw cw g2 c2, ldC (hp w g) (0 + 8) = some (.slice (some ⟨b, 0, none⟩) m.rgs.length c) ∧ ldC (hp w b) (i * 7 + 5) = some (.slice (some ⟨bw, 0, none⟩) r.words.length cw) ∧ ldC (hp w bw) k = some (.slice (some ⟨g2, 0, none⟩) L.length c2) ∧ ldC (hp w g2) j = some (.int .u64 x) ∧
      ∀ y, okC (hp w g2) (j + 1) = true ∧ ∃ F', MdI (put w g2 ((getC (hp w g2)).setIfInBounds j (.int .u64 y)) (getE (hp w g2))) g { m with rgs := m.rgs.set i { r with words := r.words.set k (L.set j y) } } F' ∧ UpdP F F' w (put w g2 ((getC (hp w g2)).setIfInBounds j (.int .u64 y)) (getE (hp w g2))) := by
  obtain ⟨b, c, v, Fk, hl, hnb, hsub, hFb, _, hld, hP, hres, _⟩ := I.rgCell hi (k := 5) (P := wordsT r.words) (by omega) rfl
  have hPw : (r.words.map wordT)[k]? = some (wordT L) := by rw [List.getElem?_map, hL]; rfl
  obtain ⟨bw, cw, v2, Fk2, hx2, _, _, _, hld2, hP2, hres2, _⟩ := isRow.cell hP (fun P hP => by obtain ⟨l, _, rfl⟩ := List.mem_map.1 hP; exact good_word l) hPw
  have hPu : ((u64s L).map isV)[j]? = some (isV (.int .u64 x)) := by rw [u64s, List.map_map, List.getElem?_map, hj]; rfl
  obtain ⟨g2, c2, v3, Fk3, hx3, _, _, _, hld3, hv3, _, hst⟩ := isRow.cell hP2 (good_ints (u64s_int L)) hPu
  refine ⟨b, c, bw, cw, g2, c2, hl, by rw [← hx2]; exact hld, by rw [← hx3]; exact hld2, by rw [hld3, hv3.1], fun y => ?_⟩
  obtain ⟨ok, F1, hrow, hupd⟩ := hst w none' (isV (.int .u64 y)) (.int .u64 y) (UpdP.none hv3.2 w) (good_int _ _) ⟨rfl, fun _ h => h⟩
  have hset : ((u64s L).map isV).set j (isV (.int .u64 y)) = (u64s (L.set j y)).map isV := by simp [u64s, List.map_set]
  rw [hset] at hrow
  have hrow' : wordT (L.set j y) (put w g2 ((getC (hp w g2)).setIfInBounds j (.int .u64 y)) (getE (hp w g2))) F1 v2 := by rw [wordT, List.length_set]; exact hrow
  obtain ⟨F2, hrow2, hupd2⟩ := hres2 _ F1 (wordT (L.set j y)) hupd hrow'
  rw [← List.map_set] at hrow2
  have hrow2' : wordsT (r.words.set k (L.set j y)) (put w g2 ((getC (hp w g2)).setIfInBounds j (.int .u64 y)) (getE (hp w g2))) F2 v := by rw [wordsT, List.length_set]; exact hrow2
  obtain ⟨F3, h1, h2⟩ := hres _ F2 (wordsT (r.words.set k (L.set j y))) { r with words := r.words.set k (L.set j y) } hupd2 hrow2' rfl
  exact ⟨ok, F3, h1, h2⟩
/-- a word of an object that is known: its region, its chunk, its place there -/
structure ObjAt (m : MdV) (h : HnV) (n : Int) (i : Nat) (r : RgV) (k : Nat) (L : List Int) (j : Nat) : Prop where
  fi : findR m.rgs (nmOf h) = some i
  ri : m.rgs[i]? = some r
  ix : ixOf r.chunks h.2.2.1 = k
  wk : r.words[k]? = some L
  wl : (L.length : Int) = m.c.2.2.1
  jn : h.2.2.2.1 + n = j
  jl : j < L.length
theorem obj_at {m : MdV} {K : Nat} (W : Wf m K) {h : HnV} {n : Int} (hk : knownV m h 2 = true) (n0 : 0 ≤ n) (n1 : n < h.2.2.2.2) : ∃ i r k L j, ObjAt m h n i r k L j := by
  unfold knownV at hk
  split at hk
  · cases hk
  · rename_i i hf
    rw [if_neg (by omega)] at hk
    obtain ⟨r, hr, _⟩ := findR_at hf
    simp only [hr, Bool.and_eq_true, decide_eq_true_eq] at hk
    have R := W.rg r (List.mem_of_getElem? hr)
    obtain ⟨o1, o2, o3, o4⟩ := R.ob h hk.2
    obtain ⟨k, k1, k2⟩ := ixOf_at o1
    have hkl := (List.getElem?_eq_some_iff.1 k2).1
    obtain ⟨L, hL⟩ : ∃ L, r.words[k]? = some L := ⟨_, List.getElem?_eq_getElem (by rw [R.wl]; exact hkl)⟩
    have hl := R.ww L (List.mem_of_getElem? hL)
    exact ⟨i, r, k, L, (h.2.2.2.1 + n).toNat, hf, hr, k1, hL, hl, by omega, by omega⟩
theorem ObjAt.val {m : MdV} {h : HnV} {n : Int} {i : Nat} {r : RgV} {k : Nat} {L : List Int} {j : Nat} (O : ObjAt m h n i r k L j) : L[j]? = some (wordV m h n) := by
  have e : rgOf m (nmOf h) = some r := by rw [rgOf, O.fi]; exact O.ri
  have e2 : chunkW r h.2.2.1 = L := by rw [chunkW, O.ix, Int.toNat_natCast, List.getD_eq_getElem?_getD, O.wk]; rfl
  rw [wordV, e]
  simp only
  rw [e2, O.jn, Int.toNat_natCast, List.getD_eq_getElem?_getD, List.getElem?_eq_getElem O.jl]
  rfl
theorem ObjAt.put {m : MdV} {h : HnV} {n : Int} {i : Nat} {r : RgV} {k : Nat} {L : List Int} {j : Nat} (O : ObjAt m h n i r k L j) (y : Int) : setWordV m h n y = { m with rgs := m.rgs.set i { r with words := r.words.set k (L.set j y) } } := by
  have e2 : chunkW r h.2.2.1 = L := by rw [chunkW, O.ix, Int.toNat_natCast, List.getD_eq_getElem?_getD, O.wk]; rfl
  simp only [setWordV, O.fi, O.ri, setW, e2, O.ix, O.jn, Int.toNat_natCast]
/-- a word stands there -/
structure WordAt (w : World) (g : Nat) (m : MdV) (F : Fp) (h : HnV) (n : Int) (g2 j : Nat) : Prop where
  ld : ldC (hp w g2) j = some (.int .u64 (wordV m h n))
  ok : okC (hp w g2) (j + 1) = true
  st : ∀ y, ∃ F', MdI (put w g2 ((getC (hp w g2)).setIfInBounds j (.int .u64 y)) (getE (hp w g2))) g (setWordV m h n y) F' ∧ UpdP F F' w (put w g2 ((getC (hp w g2)).setIfInBounds j (.int .u64 y)) (getE (hp w g2)))
set_option maxHeartbeats 1000000 in
theorem c_mWord {w : World} {g : Nat} {m : MdV} {F : Fp} {K : Nat} (I : MdI w g m F) (W : Wf m K) (hK : K ≤ 1000000) {h : HnV} {n : Int} (hk : knownV m h 2 = true) (n0 : 0 ≤ n) (n1 : n < h.2.2.2.2) :
    CallR Try.prog 82 [.pointer (some ⟨g, 0, none⟩), .agg (hnC h).toArray, .int .i64 n] w fun v w' => ∃ g2 j, v = .pointer (some ⟨g2, j, none⟩) ∧ Chg [] w w' ∧ ∀ w'', Chg [] w w'' → WordAt w'' g m F h n g2 j := by
  apply F82_ok
  obtain ⟨i, r, k, L, j, O⟩ := obj_at W hk n0 n1
  obtain ⟨b, c, bw, cw, g2, c2, p1, p2, p3, p4, _⟩ := I.word O.ri O.wk O.val
  have all : ∀ w'', Chg [] w w'' → WordAt w'' g m F h n g2 j := fun w'' hc => by
    obtain ⟨b', c', bw', cw', g2', c2', q1, q2, q3, q4, q5⟩ := (I.keep hc).word O.ri O.wk O.val
    rw [chg_ld hc p1] at q1; cases q1
    rw [chg_ld hc p2] at q2; cases q2
    rw [chg_ld hc p3] at q3; cases q3
    exact ⟨q4, (q5 0).1, fun y => by rw [O.put]; exact (q5 y).2⟩
  obtain ⟨s, rv, hh, M⟩ := I.rd
  have hrl := M.rl
  rw [p1] at hrl; cases hrl
  have w1 := W.w1
  have w2 := W.w2
  have hbox : hp (w.alloc (.cells (hnC h).toArray 51)) w.heap.size = some (.cells (hnC h).toArray 51) := by rw [alloc_heap, if_pos rfl]
  have hc0 : Chg [] w (w.alloc (.cells (hnC h).toArray 51)) := (Chg.refl _ _).alloc _
  simp -implicitDefEqProofs only [F82, effv_box, cells_agg]
  generalize w.alloc (.cells (hnC h).toArray 51) = w0 at *
  generalize w.heap.size = gb at *
  have ldh : ∀ w', hp w' gb = some (.cells (hnC h).toArray 51) → ldv Try.prog 51 (.pointer (some ⟨gb, 0, none⟩)) w' = some (.agg (hnC h).toArray) := fun w' hw => ldv_whole (t := 51) (c := (hnC h).toArray) ag_51 (show (Try.prog.info? 51).map (·.size) = some (hnC h).toArray.size from sz_51) hw
  simp -implicitDefEqProofs only [ldh _ hbox, wpB_some']
  refine (c_mNameOf h w0).mono ?_
  rintro _ w1 ⟨rfl, k1⟩
  have c01 := hc0.trans k1
  refine (c_mRegion (M.keep c01) (h.1, h.2.1) (Nat.le_trans W.rl hK)).mono ?_
  rintro v w2 ⟨k2, hv⟩
  have c02 := c01.trans k2
  have hf : findR m.rgs (h.1, h.2.1) = some i := O.fi
  rw [hf] at hv
  rcases hv with ⟨hv, _⟩ | ⟨i', rg, b', c', hi', hrg, hr, rfl⟩
  · cases hv
  cases hi'; cases hr
  have cd : Chg [] w w2.drew := c02.drew
  have b2 := (k1.trans k2).at hbox (by simp)
  have e2 : (hnC h).toArray[0 + 2]? = some (.int .i64 h.2.2.1) := rfl
  have e3 : (hnC h).toArray[0 + 3]? = some (.int .i64 h.2.2.2.1) := rfl
  rw [O.ri] at hrg
  cases hrg
  obtain ⟨G, hG⟩ := (M.keep cd).rT
  obtain ⟨b'', c'', hx, cv, wv, ov, R⟩ := rg_at hG O.ri
  cases hx
  have hwv := R.c5
  rw [chg_ld cd p2] at hwv
  cases hwv
  obtain ⟨A, cc, hcv, hR⟩ := ints_sh R.cT
  have R4 := R.c4
  rw [hcv] at R4
  have R5 := R.c5
  have hlw := (List.getElem?_eq_some_iff.1 O.wk).1
  have iaw := ia_142 (b := bw) (p := 0) (n := r.words.length) (c := cw) (j := .i64) (i := (k : Int)) (by omega) (by omega)
  rw [Int.toNat_natCast, Nat.zero_add, Nat.mul_one] at iaw
  have hjl := O.jl
  have iau := ia_177 (b := g2) (p := 0) (n := L.length) (c := c2) (j := .i64) (i := (j : Int)) (by omega) (by omega)
  rw [Int.toNat_natCast, Nat.zero_add, Nat.mul_one] at iau
  have p3d := chg_ld cd p3
  have hwl := O.wl
  have hcl : r.chunks.length ≤ 1000000 := Nat.le_trans (W.rg r (List.mem_of_getElem? O.ri)).cl hK
  have fin : ∃ g2' j', Value.pointer (some ⟨g2, j, none⟩) = .pointer (some ⟨g2', j', none⟩) ∧ Chg [] w w2.drew ∧ ∀ w'', Chg [] w w'' → WordAt w'' g m F h n g2' j' := ⟨g2, j, rfl, cd, all⟩
  have b2d : hp w2.drew gb = some (.cells (hnC h).toArray 51) := b2
  simp -implicitDefEqProofs only [wpB_some', nilv_some, fa_144_4, fa_144_3, fa_51_2, fa_51_3, ld_142, ld_23, ld_3, ldC_some, R4, R5, b2d, e2, e3, bp_add, O.jn, wrapi (n := (j : Int)) (by omega) (by omega)]
  have ix := c_iIndex (c := cc) hR hcl h.2.2.1
  rw [O.ix] at ix
  repeat' (with_reducible apply And.intro)
  all_goals
    refine ix.step ?_
    simp -implicitDefEqProofs only [wpB_some', iaw, ld_177, ld_142, ld_3, ldC_some, R5, b2d, e3, bp_add, O.jn, wrapi (n := (j : Int)) (by omega) (by omega), p3d, iau]
    exact fin
end Go.Proofs.Ytgamnncehjcdiaa

namespace Go.Proofs.Ytgamnncehjcdiaa
open Go Ev Go.RowKit
set_option linter.unusedSimpArgs false
set_option linter.unusedVariables false
set_option maxRecDepth 10000

section
variable {W w : World} {g g6 g7 g8 g10 k : Nat} {m : MdV} {F : Fp} {K : Nat} {o : OpV} {h : HnV} {d : HdV}
theorem rsC_one (r : RsV) : (rsC r).toArray.toList.all (·.oneCell') = true := rfl
theorem ld_res {r : RsV} {b : Nat} {e : TypeId} (hb : hp w b = some (.cells (rsC r).toArray e)) : ldv Try.prog 53 (.pointer (some ⟨b, 0, none⟩)) w = some (.agg (rsC r).toArray) := ldv_whole (t := 53) (c := (rsC r).toArray) ag_53 (show (Try.prog.info? 53).map (·.size) = some (rsC r).toArray.size from sz_53) hb
theorem st_res {r : RsV} {b : Nat} {c : Array Value} {e : TypeId} (hb : hp w b = some (.cells c e)) (hs : c.size = 8) {L : World → Prop} : effu Try.prog (Instr.storeAt 53 (.pointer (some ⟨b, 0, none⟩)) (.agg (rsC r).toArray)) w L = L (put w b (rsC r).toArray e) := by
  rw [st_53 rfl (rsC_one r) (by rw [hb, okC_some]; exact decide_eq_true (by omega)) (by rw [hb]; exact hs), hb]; rfl
theorem l_must2 (r : RsV) (hc : Chg [] W w) {c8 : Array Value} (h8 : hp w g8 = some (.cells c8 53)) (hs : c8.size = 8) (h10 : hp w g10 = some (.cells (rsC r).toArray 53)) (n8 : W.heap.size ≤ g8) :
    P45_2 (.pointer (some ⟨g8, 0, none⟩)) (.pointer (some ⟨g10, 0, none⟩)) w fun v w' => v = .tuple #[.agg (rsC r).toArray, .bool true] ∧ Chg [] W w' := by
  apply L45_2_ok
  simp -implicitDefEqProofs only [L45_2, ld_res h10, wpB_some']
  rw [st_res h8 hs, ld_res (put_same (blk_lt h8) _ _), wpB_some']
  exact ⟨rfl, hc.put (.inr n8) _ _⟩
set_option maxHeartbeats 1000000 in
theorem l_must1 (hc : Chg [] W w) (I : MdI w g m F) (Wm : Wf m K) (hK : K ≤ 1000000) (h6 : hp w g6 = some (.cells (opC o).toArray 40)) (h7 : hp w g7 = some (.cells (hnC h).toArray 51)) {c8 : Array Value} (h8 : hp w g8 = some (.cells c8 53)) (hs : c8.size = 8) (h10 : hp w g10 = some (.cells (rsC noR).toArray 53))
    (n8 : W.heap.size ≤ g8) (n10 : W.heap.size ≤ g10) (n810 : g8 ≠ g10) (hr : refusesV m d o h = 0) (n0 : 0 ≤ o.2.2.2.1) {t : Bool} (ht : t = decide (o.1 = 6 ∨ o.1 = 8)) :
    P45_1 (.pointer (some ⟨g, 0, none⟩)) (.pointer (some ⟨g6, 0, none⟩)) (.pointer (some ⟨g7, 0, none⟩)) (.pointer (some ⟨g8, 0, none⟩)) (.pointer (some ⟨g10, 0, none⟩)) (.int .i64 o.1) (.bool t) w fun v w' => v = .tuple #[.agg (rsC (mustB m o h)).toArray, .bool true] ∧ Chg [] W w' := by
  apply L45_1_ok
  have ldh : ∀ w', hp w' g7 = some (.cells (hnC h).toArray 51) → ldv Try.prog 51 (.pointer (some ⟨g7, 0, none⟩)) w' = some (.agg (hnC h).toArray) := fun w' hw => ldv_whole (t := 51) (c := (hnC h).toArray) ag_51 (show (Try.prog.info? 51).map (·.size) = some (hnC h).toArray.size from sz_51) hw
  have h6d : hp w.drew g6 = some (.cells (opC o).toArray 40) := h6
  have h7d : hp w.drew g7 = some (.cells (hnC h).toArray 51) := h7
  have cd : Chg [] w w.drew := (Chg.refl _ _).drew
  -- the rest, when the answer's cell is written
  have fin : ∀ (r : RsV) (k : Nat) (v : Value) (w3 : World), Chg [] w w3 → (rsC noR).toArray.setIfInBounds k v = (rsC r).toArray → mustB m o h = r →
      P45_2 (.pointer (some ⟨g8, 0, none⟩)) (.pointer (some ⟨g10, 0, none⟩)) (put w3 g10 ((getC (hp w3 g10)).setIfInBounds k v) (getE (hp w3 g10))) fun v w' => v = .tuple #[.agg (rsC (mustB m o h)).toArray, .bool true] ∧ Chg [] W w' := by
    intro r k v w3 c3 he hm
    have h103 := c3.at h10 (by simp)
    rw [h103, getC_some, getE_some, he, hm]
    exact l_must2 r ((hc.trans c3).put (.inr n10) _ _) (by rw [put_other n810]; exact c3.at h8 (by simp)) hs (put_same (blk_lt h103) _ _) n8
  have ok3 : ∀ (w3 : World) (k : Nat), Chg [] w w3 → k ≤ 8 → okC (hp w3 g10) k = true := fun w3 k c3 hk => by rw [c3.at h10 (by simp), okC_some]; exact decide_eq_true hk
  by_cases k68 : o.1 = 6 ∨ o.1 = 8
  · have ht' : t = true := by rw [ht]; exact decide_eq_true k68
    subst ht'
    obtain ⟨t1, t2⟩ := touch_ok hr (by omega) (by omega)
    simp -implicitDefEqProofs only [L45_1, wpB_some', gd_true, gd_false, gd_tf, gd_ft, gd_ut, gd_uf, gv_true, gv_false, gv_tf, gv_ft, gv_ut, gv_uf, gE_true, gE_false, gE_tf, gE_ft, gE_ut, gE_uf, gU_true, gU_false, gU_tf, gU_ft, pickv_true, pickv_false, cnd_true, cnd_false, decide_true, decide_false, Bool.not_true, Bool.not_false, pr_not, nilv_some, bp_lss, bp_leq, bp_gtr, bp_geq, be_eql, be_neq, bne_self_eq_false, beq_self_eq_true, ldC_some, Option.isNone_none, Option.isNone_some, hp_drew, ldh _ h7, fa_40_3, ld_3, h6, op_3]
    refine (c_mWord I Wm hK t1 n0 t2).mono ?_
    rintro _ w3 ⟨g2, j, rfl, c3, hw⟩
    have A := hw w3 c3
    simp -implicitDefEqProofs only [wpB_some', gd_true, gd_false, gd_tf, gd_ft, gd_ut, gd_uf, gv_true, gv_false, gv_tf, gv_ft, gv_ut, gv_uf, gE_true, gE_false, gE_tf, gE_ft, gE_ut, gE_uf, gU_true, gU_false, gU_tf, gU_ft, pickv_true, pickv_false, cnd_true, cnd_false, decide_true, decide_false, Bool.not_true, Bool.not_false, pr_not, nilv_some, bp_lss, bp_leq, bp_gtr, bp_geq, be_eql, be_neq, bne_self_eq_false, beq_self_eq_true, ldC_some, Option.isNone_none, Option.isNone_some, hp_drew, ld_38, A.ld, fa_53_3]
    rw [st_38 rfl rfl (ok3 _ _ c3 (by omega))]
    exact fin (0, noH, 0, wordV m h o.2.2.2.1) _ _ _ c3 rfl (by rw [mustB, if_pos k68])
  have ht' : t = false := by rw [ht]; exact decide_eq_false k68
  subst ht'
  by_cases k9 : o.1 = 9
  · have q9 : (o.1 == 9) = true := by rw [k9]; rfl
    obtain ⟨t1, t2⟩ := touch_ok hr (by omega) (by omega)
    have three : ∀ w3, Chg [] w w3 → P45_3 (.pointer (some ⟨g8, 0, none⟩)) (.pointer (some ⟨g10, 0, none⟩)) (.bool (wordV m h o.2.2.2.1 == o.2.2.2.2.1)) w3 fun v w' => v = .tuple #[.agg (rsC (mustB m o h)).toArray, .bool true] ∧ Chg [] W w' := by
      intro w3 c3
      apply L45_3_ok
      by_cases hv : wordV m h o.2.2.2.1 = o.2.2.2.2.1
      · have e : (wordV m h o.2.2.2.1 == o.2.2.2.2.1) = true := by rw [hv]; exact beq_self_eq_true _
        simp -implicitDefEqProofs only [L45_3, e, cnd_true, fa_53_2, wpB_some']
        rw [st_3 rfl rfl (ok3 _ _ c3 (by omega))]
        exact fin (0, noH, 1, 0) _ _ _ c3 rfl (by rw [mustB, if_neg k68, if_pos k9, if_pos hv])
      · simp -implicitDefEqProofs only [L45_3, eqf hv, cnd_false]
        have e : mustB m o h = noR := by rw [mustB, if_neg k68, if_pos k9, if_neg hv]; rfl
        rw [e]
        exact l_must2 noR (hc.trans c3) (c3.at h8 (by simp)) hs (c3.at h10 (by simp)) n8
    simp -implicitDefEqProofs only [L45_1, wpB_some', gd_true, gd_false, gd_tf, gd_ft, gd_ut, gd_uf, gv_true, gv_false, gv_tf, gv_ft, gv_ut, gv_uf, gE_true, gE_false, gE_tf, gE_ft, gE_ut, gE_uf, gU_true, gU_false, gU_tf, gU_ft, pickv_true, pickv_false, cnd_true, cnd_false, decide_true, decide_false, Bool.not_true, Bool.not_false, pr_not, nilv_some, bp_lss, bp_leq, bp_gtr, bp_geq, be_eql, be_neq, bne_self_eq_false, beq_self_eq_true, ldC_some, Option.isNone_none, Option.isNone_some, hp_drew, q9, ldh _ h7d, fa_40_3, fa_40_4, ld_3, ld_38, h6d, h6, op_3, op_4]
    have cw := c_mWord (I.keep cd) Wm hK t1 n0 t2
    repeat' (with_reducible apply And.intro)
    all_goals
      refine cw.mono ?_
      rintro _ w3 ⟨g2, j, rfl, c3, hw⟩
      have A := hw w3 c3
      have h63 := (cd.trans c3).at h6 (by simp)
      simp -implicitDefEqProofs only [wpB_some', gd_true, gd_false, gd_tf, gd_ft, gd_ut, gd_uf, gv_true, gv_false, gv_tf, gv_ft, gv_ut, gv_uf, gE_true, gE_false, gE_tf, gE_ft, gE_ut, gE_uf, gU_true, gU_false, gU_tf, gU_ft, pickv_true, pickv_false, cnd_true, cnd_false, decide_true, decide_false, Bool.not_true, Bool.not_false, pr_not, nilv_some, bp_lss, bp_leq, bp_gtr, bp_geq, be_eql, be_neq, bne_self_eq_false, beq_self_eq_true, ldC_some, Option.isNone_none, Option.isNone_some, hp_drew, ld_38, A.ld, h63, op_4]
      exact three w3 (cd.trans c3)
  by_cases k12 : o.1 = 12
  · have q12 : (o.1 == 12) = true := by rw [k12]; rfl
    obtain ⟨i, r, hf, hri, _, _⟩ := region_ok hr (by omega)
    obtain ⟨s, rv, hh, M⟩ := I.rd
    simp -implicitDefEqProofs only [L45_1, wpB_some', gd_true, gd_false, gd_tf, gd_ft, gd_ut, gd_uf, gv_true, gv_false, gv_tf, gv_ft, gv_ut, gv_uf, gE_true, gE_false, gE_tf, gE_ft, gE_ut, gE_uf, gU_true, gU_false, gU_tf, gU_ft, pickv_true, pickv_false, cnd_true, cnd_false, decide_true, decide_false, Bool.not_true, Bool.not_false, pr_not, nilv_some, bp_lss, bp_leq, bp_gtr, bp_geq, be_eql, be_neq, bne_self_eq_false, beq_self_eq_true, ldC_some, Option.isNone_none, Option.isNone_some, hp_drew, eqf k9, q12, ldh _ h7]
    refine (c_mNameOf h w).mono ?_
    rintro _ w1 ⟨rfl, c1⟩
    refine (c_mRegion (M.keep c1) (h.1, h.2.1) (Nat.le_trans Wm.rl hK)).mono ?_
    rintro v w2 ⟨c2, hv⟩
    have c02 := c1.trans c2
    have hf' : findR m.rgs (h.1, h.2.1) = some i := hf
    rw [hf'] at hv
    rcases hv with ⟨hv, _⟩ | ⟨i', rg, b', c', hi', hrg, hr', rfl⟩
    · cases hv
    cases hi'
    rw [hri] at hrg
    cases hrg
    obtain ⟨G, hG⟩ := (M.keep c02).rT
    obtain ⟨b'', c'', hx, cv, wv, ov, R⟩ := rg_at hG hri
    rw [hr'] at hx
    cases hx
    simp -implicitDefEqProofs only [wpB_some', gd_true, gd_false, gd_tf, gd_ft, gd_ut, gd_uf, gv_true, gv_false, gv_tf, gv_ft, gv_ut, gv_uf, gE_true, gE_false, gE_tf, gE_ft, gE_ut, gE_uf, gU_true, gU_false, gU_tf, gU_ft, pickv_true, pickv_false, cnd_true, cnd_false, decide_true, decide_false, Bool.not_true, Bool.not_false, pr_not, nilv_some, bp_lss, bp_leq, bp_gtr, bp_geq, be_eql, be_neq, bne_self_eq_false, beq_self_eq_true, ldC_some, Option.isNone_none, Option.isNone_some, hp_drew, fa_144_2, fa_53_2, ld_3, R.c3]
    rw [st_3 rfl rfl (ok3 _ _ c02 (by omega))]
    exact fin (0, noH, r.off, 0) _ _ _ c02 rfl (by
      rw [mustB, if_neg k68, if_neg k9, if_pos k12, rgOf, hf]
      simp only [Option.bind_some, hri])
  · simp -implicitDefEqProofs only [L45_1, wpB_some', gd_true, gd_false, gd_tf, gd_ft, gd_ut, gd_uf, gv_true, gv_false, gv_tf, gv_ft, gv_ut, gv_uf, gE_true, gE_false, gE_tf, gE_ft, gE_ut, gE_uf, gU_true, gU_false, gU_tf, gU_ft, pickv_true, pickv_false, cnd_true, cnd_false, decide_true, decide_false, Bool.not_true, Bool.not_false, pr_not, nilv_some, bp_lss, bp_leq, bp_gtr, bp_geq, be_eql, be_neq, bne_self_eq_false, beq_self_eq_true, ldC_some, Option.isNone_none, Option.isNone_some, hp_drew, eqf k9, eqf k12]
    have e : mustB m o h = noR := by rw [mustB, if_neg k68, if_neg k9, if_neg k12]
    rw [e]
    exact l_must2 noR hc h8 hs h10 n8
set_option maxHeartbeats 1000000 in
theorem c_mMust {w : World} {g : Nat} {m : MdV} {F : Fp} {K : Nat} (I : MdI w g m F) (Wm : Wf m K) (hK : K ≤ 1000000) (n : Int) (o : OpV) (h : HnV) :
    CallR Try.prog 45 [.pointer (some ⟨g, 0, none⟩), .int .i64 n, .agg (opC o).toArray, .agg (hnC h).toArray] w fun v w' => v = .tuple #[.agg (rsC (mustV m n o h).1).toArray, .bool (mustV m n o h).2] ∧ Chg [] w w' := by
  apply F45_ok
  obtain ⟨s, rv, hh, M⟩ := I.rd
  simp -implicitDefEqProofs only [F45, effv_box, cells_agg, al_53, alloc_size]
  generalize hw : ((w.alloc (.cells (opC o).toArray 40)).alloc _).alloc _ = w1
  have c1 : Chg [] w w1 := by rw [← hw]; exact (((Chg.refl _ _).alloc _).alloc _).alloc _
  have b6 : hp w1 w.heap.size = some (.cells (opC o).toArray 40) := by rw [← hw, alloc_heap, alloc_size, alloc_size, if_neg (by omega), alloc_heap, alloc_size, if_neg (by omega), alloc_heap, if_pos rfl]
  have b7 : hp w1 (w.heap.size + 1) = some (.cells (hnC h).toArray 51) := by rw [← hw, alloc_heap, alloc_size, alloc_size, if_neg (by omega), alloc_heap, alloc_size, if_pos rfl]
  have b8 : hp w1 (w.heap.size + 1 + 1) = some (.cells (rsC noR).toArray 53) := by rw [← hw, alloc_heap, alloc_size, alloc_size, if_pos rfl]; rfl
  clear hw
  have ldo : ∀ w', hp w' w.heap.size = some (.cells (opC o).toArray 40) → ldv Try.prog 40 (.pointer (some ⟨w.heap.size, 0, none⟩)) w' = some (.agg (opC o).toArray) := fun w' hw => ldv_whole (t := 40) (c := (opC o).toArray) ag_40 (show (Try.prog.info? 40).map (·.size) = some (opC o).toArray.size from sz_40) hw
  have ldh : ∀ w', hp w' (w.heap.size + 1) = some (.cells (hnC h).toArray 51) → ldv Try.prog 51 (.pointer (some ⟨w.heap.size + 1, 0, none⟩)) w' = some (.agg (hnC h).toArray) := fun w' hw => ldv_whole (t := 51) (c := (hnC h).toArray) ag_51 (show (Try.prog.info? 51).map (·.size) = some (hnC h).toArray.size from sz_51) hw
  simp -implicitDefEqProofs only [wpB_some', ldo _ b6]
  refine (c_mMay (M.keep c1) n o).mono ?_
  rintro _ w2 ⟨rfl, c2⟩
  have c02 := c1.trans c2
  have d6 := c2.at b6 (by simp)
  have d7 := c2.at b7 (by simp)
  have d8 := c2.at b8 (by simp)
  have noRe : ∀ (L : Array Value → Prop), L (rsC noR).toArray → L #[(Go.Value.int Go.IntKind.i64 0), (Go.Value.int Go.IntKind.i64 0), (Go.Value.int Go.IntKind.i64 0), (Go.Value.int Go.IntKind.i64 0), (Go.Value.int Go.IntKind.i64 0), (Go.Value.int Go.IntKind.i64 0), (Go.Value.int Go.IntKind.i64 0), (Go.Value.int Go.IntKind.u64 0)] := fun L h => h
  cases hm : mayV m n o with
  | false =>
    simp -implicitDefEqProofs only [wpB_some', gd_true, gd_false, gd_tf, gd_ft, gd_ut, gd_uf, gv_true, gv_false, gv_tf, gv_ft, gv_ut, gv_uf, gE_true, gE_false, gE_tf, gE_ft, gE_ut, gE_uf, gU_true, gU_false, gU_tf, gU_ft, pickv_true, pickv_false, cnd_true, cnd_false, decide_true, decide_false, Bool.not_true, Bool.not_false, pr_not, nilv_some, bp_lss, bp_leq, bp_gtr, bp_geq, be_eql, be_neq, bne_self_eq_false, beq_self_eq_true, ldC_some, Option.isNone_none, Option.isNone_some, hp_drew, bd_53_]
    refine noRe (fun z => effu Try.prog (Instr.storeAt 53 _ (.agg z)) _ _) ?_
    rw [st_res d8 rfl, ld_res (put_same (blk_lt d8) _ _), wpB_some']
    exact ⟨by rw [mustV, if_pos hm], c02.put (.inr (by omega)) _ _⟩
  | true =>
    obtain ⟨n0, n1, n2⟩ := may_n hm
    obtain ⟨d, hd⟩ := may_hd hm
    simp -implicitDefEqProofs only [wpB_some', gd_true, gd_false, gd_tf, gd_ft, gd_ut, gd_uf, gv_true, gv_false, gv_tf, gv_ft, gv_ut, gv_uf, gE_true, gE_false, gE_tf, gE_ft, gE_ut, gE_uf, gU_true, gU_false, gU_tf, gU_ft, pickv_true, pickv_false, cnd_true, cnd_false, decide_true, decide_false, Bool.not_true, Bool.not_false, pr_not, nilv_some, bp_lss, bp_leq, bp_gtr, bp_geq, be_eql, be_neq, bne_self_eq_false, beq_self_eq_true, ldC_some, Option.isNone_none, Option.isNone_some, hp_drew, ldo _ d6, ldh _ d7]
    refine (c_mRefuses (M.keep c02) (Wm.small hK) n0 hd o h).mono ?_
    rintro _ w3 ⟨rfl, c3⟩
    have c03 := c02.trans c3
    have f6 := c3.at d6 (by simp)
    have f7 := c3.at d7 (by simp)
    have f8 := c3.at d8 (by simp)
    have s3 := c03.size
    simp -implicitDefEqProofs only [wpB_some', gd_true, gd_false, gd_tf, gd_ft, gd_ut, gd_uf, gv_true, gv_false, gv_tf, gv_ft, gv_ut, gv_uf, gE_true, gE_false, gE_tf, gE_ft, gE_ut, gE_uf, gU_true, gU_false, gU_tf, gU_ft, pickv_true, pickv_false, cnd_true, cnd_false, decide_true, decide_false, Bool.not_true, Bool.not_false, pr_not, nilv_some, bp_lss, bp_leq, bp_gtr, bp_geq, be_eql, be_neq, bne_self_eq_false, beq_self_eq_true, ldC_some, Option.isNone_none, Option.isNone_some, hp_drew, bd_53_0, al_53]
    have codeE : ∀ (L : Array Value → Prop), L (rsC (codeR (refusesV m d o h))).toArray → L #[(.int .i64 (refusesV m d o h)), (Go.Value.int Go.IntKind.i64 0), (Go.Value.int Go.IntKind.i64 0), (Go.Value.int Go.IntKind.i64 0), (Go.Value.int Go.IntKind.i64 0), (Go.Value.int Go.IntKind.i64 0), (Go.Value.int Go.IntKind.i64 0), (Go.Value.int Go.IntKind.u64 0)] := fun L h => h
    refine codeE (fun z => effu Try.prog (Instr.storeAt 53 _ (.agg z)) _ _) ?_
    rw [st_res (c := (rsC noR).toArray) (e := 53) (by rw [alloc_heap, if_pos rfl]; rfl) rfl]
    generalize hw4 : put (w3.alloc _) w3.heap.size _ _ = w4
    have c4 : Chg [] w3 w4 := by rw [← hw4]; exact ((Chg.refl _ _).alloc _).put (.inr (Nat.le_refl _)) _ _
    have a10 : hp w4 w3.heap.size = some (.cells (rsC (codeR (refusesV m d o h))).toArray 53) := by rw [← hw4]; exact put_same (by simp) _ _
    clear hw4
    have c04 := c03.trans c4
    have a6 := c4.at f6 (by simp)
    have a7 := c4.at f7 (by simp)
    have a8 := c4.at f8 (by simp)
    have r0 : (rsC (codeR (refusesV m d o h))).toArray[0 + 0]? = some (.int .i64 (refusesV m d o h)) := rfl
    have lt8 := blk_lt f8
    by_cases hr : refusesV m d o h = 0
    · have e0 : (refusesV m d o h != 0) = false := by rw [hr]; rfl
      have mv : mustV m n o h = if o.1 = 1 ∨ o.1 = 2 then (noR, false) else (mustB m o h, true) := by
        rw [mustV, if_neg (by rw [hm]; simp), hd]
        simp only [hr, ne_eq, not_true_eq_false, if_false]
      have a10' : hp w4 w3.heap.size = some (.cells (rsC noR).toArray 53) := by rw [a10, hr]; rfl
      simp -implicitDefEqProofs only [wpB_some', gd_true, gd_false, gd_tf, gd_ft, gd_ut, gd_uf, gv_true, gv_false, gv_tf, gv_ft, gv_ut, gv_uf, gE_true, gE_false, gE_tf, gE_ft, gE_ut, gE_uf, gU_true, gU_false, gU_tf, gU_ft, pickv_true, pickv_false, cnd_true, cnd_false, decide_true, decide_false, Bool.not_true, Bool.not_false, pr_not, nilv_some, bp_lss, bp_leq, bp_gtr, bp_geq, be_eql, be_neq, bne_self_eq_false, beq_self_eq_true, ldC_some, Option.isNone_none, Option.isNone_some, hp_drew, fa_53_0, ld_29, a10, r0, e0, fa_40_0, ld_3, a6, op_0]
      have zero : ∀ t : Bool, t = decide (o.1 = 1 ∨ o.1 = 2) → P45_0 (.pointer (some ⟨g, 0, none⟩)) (.pointer (some ⟨w.heap.size, 0, none⟩)) (.pointer (some ⟨w.heap.size + 1, 0, none⟩)) (.pointer (some ⟨w.heap.size + 1 + 1, 0, none⟩)) (.pointer (some ⟨w3.heap.size, 0, none⟩)) (.int .i64 o.1) (.bool t) w4
          fun v w' => v = .tuple #[.agg (rsC (mustV m n o h).1).toArray, .bool (mustV m n o h).2] ∧ Chg [] w w' := by
        intro t ht
        apply L45_0_ok
        rw [mv]
        by_cases k12 : o.1 = 1 ∨ o.1 = 2
        · have ht' : t = true := by rw [ht]; exact decide_eq_true k12
          subst ht'
          rw [if_pos k12]
          simp -implicitDefEqProofs only [L45_0, wpB_some', gd_true, gd_false, gd_tf, gd_ft, gd_ut, gd_uf, gv_true, gv_false, gv_tf, gv_ft, gv_ut, gv_uf, gE_true, gE_false, gE_tf, gE_ft, gE_ut, gE_uf, gU_true, gU_false, gU_tf, gU_ft, pickv_true, pickv_false, cnd_true, cnd_false, decide_true, decide_false, Bool.not_true, Bool.not_false, pr_not, nilv_some, bp_lss, bp_leq, bp_gtr, bp_geq, be_eql, be_neq, bne_self_eq_false, beq_self_eq_true, ldC_some, Option.isNone_none, Option.isNone_some, hp_drew, bd_53_]
          refine noRe (fun z => effu Try.prog (Instr.storeAt 53 _ (.agg z)) _ _) ?_
          rw [st_res a8 rfl, ld_res (put_same (blk_lt a8) _ _), wpB_some']
          exact ⟨rfl, c04.put (.inr (by omega)) _ _⟩
        · have ht' : t = false := by rw [ht]; exact decide_eq_false k12
          subst ht'
          rw [if_neg k12]
          have one : ∀ t : Bool, t = decide (o.1 = 6 ∨ o.1 = 8) → _ := fun t ht => l_must1 (W := w) c04 (I.keep c04) Wm hK a6 a7 a8 rfl a10' (by omega) (by omega) (by omega) hr n2 ht
          by_cases k6 : o.1 = 6
          · have q : (o.1 == 6) = true := by rw [k6]; rfl
            have f := one true (by rw [k6]; rfl)
            simp -implicitDefEqProofs only [L45_0, wpB_some', gd_true, gd_false, gd_tf, gd_ft, gd_ut, gd_uf, gv_true, gv_false, gv_tf, gv_ft, gv_ut, gv_uf, gE_true, gE_false, gE_tf, gE_ft, gE_ut, gE_uf, gU_true, gU_false, gU_tf, gU_ft, pickv_true, pickv_false, cnd_true, cnd_false, decide_true, decide_false, Bool.not_true, Bool.not_false, pr_not, nilv_some, bp_lss, bp_leq, bp_gtr, bp_geq, be_eql, be_neq, bne_self_eq_false, beq_self_eq_true, ldC_some, Option.isNone_none, Option.isNone_some, hp_drew, q]
            exact f
          · have f := one (o.1 == 8) (by
              by_cases k8 : o.1 = 8
              · rw [k8]; rfl
              · rw [eqf k8]; exact (decide_eq_false (by omega)).symm)
            simp -implicitDefEqProofs only [L45_0, wpB_some', gd_true, gd_false, gd_tf, gd_ft, gd_ut, gd_uf, gv_true, gv_false, gv_tf, gv_ft, gv_ut, gv_uf, gE_true, gE_false, gE_tf, gE_ft, gE_ut, gE_uf, gU_true, gU_false, gU_tf, gU_ft, pickv_true, pickv_false, cnd_true, cnd_false, decide_true, decide_false, Bool.not_true, Bool.not_false, pr_not, nilv_some, bp_lss, bp_leq, bp_gtr, bp_geq, be_eql, be_neq, bne_self_eq_false, beq_self_eq_true, ldC_some, Option.isNone_none, Option.isNone_some, hp_drew, eqf k6]
            exact f
      by_cases k1 : o.1 = 1
      · have q : (o.1 == 1) = true := by rw [k1]; rfl
        have f := zero true (by rw [k1]; rfl)
        simp -implicitDefEqProofs only [wpB_some', gd_true, gd_false, gd_tf, gd_ft, gd_ut, gd_uf, gv_true, gv_false, gv_tf, gv_ft, gv_ut, gv_uf, gE_true, gE_false, gE_tf, gE_ft, gE_ut, gE_uf, gU_true, gU_false, gU_tf, gU_ft, pickv_true, pickv_false, cnd_true, cnd_false, decide_true, decide_false, Bool.not_true, Bool.not_false, pr_not, nilv_some, bp_lss, bp_leq, bp_gtr, bp_geq, be_eql, be_neq, bne_self_eq_false, beq_self_eq_true, ldC_some, Option.isNone_none, Option.isNone_some, hp_drew, q]
        exact f
      · have f := zero (o.1 == 2) (by
          by_cases k2 : o.1 = 2
          · rw [k2]; rfl
          · rw [eqf k2]; exact (decide_eq_false (by omega)).symm)
        simp -implicitDefEqProofs only [wpB_some', gd_true, gd_false, gd_tf, gd_ft, gd_ut, gd_uf, gv_true, gv_false, gv_tf, gv_ft, gv_ut, gv_uf, gE_true, gE_false, gE_tf, gE_ft, gE_ut, gE_uf, gU_true, gU_false, gU_tf, gU_ft, pickv_true, pickv_false, cnd_true, cnd_false, decide_true, decide_false, Bool.not_true, Bool.not_false, pr_not, nilv_some, bp_lss, bp_leq, bp_gtr, bp_geq, be_eql, be_neq, bne_self_eq_false, beq_self_eq_true, ldC_some, Option.isNone_none, Option.isNone_some, hp_drew, eqf k1]
        exact f
    · have e0 : (refusesV m d o h != 0) = true := bne_iff_ne.2 hr
      have mv : mustV m n o h = (codeR (refusesV m d o h), true) := by
        rw [mustV, if_neg (by rw [hm]; simp), hd]
        simp only
        rw [if_pos hr]
      simp -implicitDefEqProofs only [wpB_some', gd_true, gd_false, gd_tf, gd_ft, gd_ut, gd_uf, gv_true, gv_false, gv_tf, gv_ft, gv_ut, gv_uf, gE_true, gE_false, gE_tf, gE_ft, gE_ut, gE_uf, gU_true, gU_false, gU_tf, gU_ft, pickv_true, pickv_false, cnd_true, cnd_false, decide_true, decide_false, Bool.not_true, Bool.not_false, pr_not, nilv_some, bp_lss, bp_leq, bp_gtr, bp_geq, be_eql, be_neq, bne_self_eq_false, beq_self_eq_true, ldC_some, Option.isNone_none, Option.isNone_some, hp_drew, fa_53_0, ld_29, a10, r0, e0]
      rw [ld_res a10, wpB_some', st_res a8 rfl, ld_res (put_same (blk_lt a8) _ _), wpB_some', mv]
      exact ⟨rfl, c04.put (.inr (by omega)) _ _⟩
end
end Go.Proofs.Ytgamnncehjcdiaa

namespace Go.Proofs.Ytgamnncehjcdiaa
open Go Ev Go.RowKit
set_option linter.unusedSimpArgs false
set_option linter.unusedVariables false
set_option maxRecDepth 10000

theorem Ev.UpdP.pre {F F' : Fp} {a b c : World} (k : Chg [] a b) (u : UpdP F F' b c) : UpdP F F' a c := (UpdP.of0 k).trans u
theorem Ev.UpdP.post {F F' : Fp} {a b c : World} (u : UpdP F F' a b) (k : Chg [] b c) : UpdP F F' a c := u.trans (UpdP.of0 k)
/-- a flat row has grown -/
theorem flat_grown {e : TypeId} {z n m : Nat} {us vs : List Value} {w w' : World} {F : Fp} {x x' : Value} (h : isRow e z n (us.map isV) w F x) (ho : w'.ownsRow 0 e z x' m (us ++ vs)) (hg : w.grownBy w' x.ownBlock) (hnb : NewB w x x') :
    ∃ F', isRow e z m ((us ++ vs).map isV) w' F' x' ∧ UpdP F F' w w' := by
  obtain ⟨xs, Fs, _, _, _, h4⟩ := h
  refine ⟨_, own_flat ho, ⟨hg.os, hg.tape, hg.output, hg.size, fun k hk hn => hg.block k hk fun e => hn ((h4 k).2 (.inl e.symm))⟩, fun k hk => ?_⟩
  rcases hnb k hk with h5 | h5
  · exact .inl ((h4 k).2 (.inl h5))
  · exact .inr h5
theorem slots_at {m : MdV} {n : NmV} (h : isLv m n = true) : 0 ≤ n.1 ∧ n.1 < m.slots.length ∧ m.slots[n.1.toNat]? = some (1, n.2) := by
  simp only [isLv, Bool.and_eq_true, decide_eq_true_eq] at h
  exact ⟨h.1.1, h.1.2, h.2⟩
section
variable {W w : World} {g g6 g7 g9 b k : Nat} {m : MdV} {F : Fp} {K : Nat} {o : OpV} {h : HnV} {d : HdV} {n : Int}
/-- a hand is turned: its depth -/
theorem MdI.depthSet (I : MdI w g m F) (hd : m.hands[n.toNat]? = some d) (x : Int) :
    ∃ b c, ldC (hp w g) (0 + 9) = some (.slice (some ⟨b, 0, none⟩) m.hands.length c) ∧ b ≠ g ∧ ldC (hp w b) (n.toNat * 2 + 0) = some (.int .i64 d.depth) ∧ okC (hp w b) (n.toNat * 2 + 0 + 1) = true ∧
      ∃ F', MdI (put w b ((getC (hp w b)).setIfInBounds (n.toNat * 2 + 0) (.int .i64 x)) (getE (hp w b))) g (setHd m n { d with depth := x }) F' ∧ UpdP F F' w (put w b ((getC (hp w b)).setIfInBounds (n.toNat * 2 + 0) (.int .i64 x)) (getE (hp w b))) := by
  obtain ⟨b, c, v, Fk, hl, _, _, _, hbg, hld, hv, hst⟩ := I.hdCell hd (k := 0) (P := iT d.depth) (by omega) rfl
  obtain ⟨ok, F1, h1, h2⟩ := hst w none' (iT x) (.int .i64 x) { d with depth := x } (UpdP.none hv.2 w) (good_int _ _) ⟨rfl, fun _ h => h⟩ rfl
  exact ⟨b, c, hl, hbg, by rw [hld, hv.1], ok, F1, h1, h2⟩
set_option maxHeartbeats 2000000 in
theorem l_does0 (hc : Chg [] W w) (I : MdI w g m F) (Wm : Wf m K) (hK : K ≤ 1000000) (h6 : hp w g6 = some (.cells (opC o).toArray 40)) (h7 : hp w g7 = some (.cells (hnC h).toArray 51)) (h9 : hp w g9 = some (.cells (nmC (nmOf h)).toArray 141))
    (hd : m.hands[n.toNat]? = some d) (hr : refusesV m d o h = 0) (n0 : 0 ≤ o.2.2.2.1) {c : Nat} (hb : ldC (hp w g) (0 + 9) = some (.slice (some ⟨b, 0, none⟩) m.hands.length c)) :
    P100_0 (.pointer (some ⟨g, 0, none⟩)) (.pointer (some ⟨g6, 0, none⟩)) (.pointer (some ⟨g7, 0, none⟩)) (.pointer (some ⟨b, n.toNat * 2, none⟩)) (.pointer (some ⟨g9, 0, none⟩)) w fun v w' => v = .tuple #[] ∧ ∃ F', MdI w' g (doesV m n o h) F' ∧ UpdP F F' W w' := by
  apply L100_0_ok
  have dv : doesV m n o h = if o.1 = 3 then setHd m n { d with depth := d.depth + 1 }
    else if o.1 = 4 then setHd m n (if d.depth - 1 = 0 then { depth := 0, holds := [] } else { d with depth := d.depth - 1 })
    else if o.1 = 5 then (if holdsV d h then m else setHd m n { d with holds := d.holds ++ [nmOf h] })
    else if o.1 = 7 then setWordV m h o.2.2.2.1 o.2.2.2.2.1
    else if o.1 = 8 then setWordV m h o.2.2.2.1 (IntKind.u64.wrap (wordV m h o.2.2.2.1 + o.2.2.2.2.1))
    else if o.1 = 9 then (if wordV m h o.2.2.2.1 = o.2.2.2.2.1 then setWordV m h o.2.2.2.1 o.2.2.2.2.2 else m)
    else if o.1 = 10 then (match m.slots[h.1.toNat]? with | some p => { m with slots := m.slots.set h.1.toNat (if m.loose then 0 else 2, p.2) } | none => m)
    else m := by rw [doesV, hd] <;> rfl
  have hD := Wm.hd d (List.mem_of_getElem? hd)
  have hco := (refuses_code hr).2
  have ldh : ∀ w', hp w' g7 = some (.cells (hnC h).toArray 51) → ldv Try.prog 51 (.pointer (some ⟨g7, 0, none⟩)) w' = some (.agg (hnC h).toArray) := fun w' hw => ldv_whole (t := 51) (c := (hnC h).toArray) ag_51 (show (Try.prog.info? 51).map (·.size) = some (hnC h).toArray.size from sz_51) hw
  have ldn : ∀ w', hp w' g9 = some (.cells (nmC (nmOf h)).toArray 141) → ldv Try.prog 141 (.pointer (some ⟨g9, 0, none⟩)) w' = some (.agg (nmC (nmOf h)).toArray) := fun w' hw => ldv_whole (t := 141) (c := (nmC (nmOf h)).toArray) ag_141 (show (Try.prog.info? 141).map (·.size) = some (nmC (nmOf h)).toArray.size from sz_141) hw
  have cd : Chg [] w w.drew := (Chg.refl _ _).drew
  have h6d : hp w.drew g6 = some (.cells (opC o).toArray 40) := h6
  have h7d : hp w.drew g7 = some (.cells (hnC h).toArray 51) := h7
  have h9d : hp w.drew g9 = some (.cells (nmC (nmOf h)).toArray 141) := h9
  by_cases k3 : o.1 = 3
  · have q : (o.1 == 3) = true := by rw [k3]; rfl
    obtain ⟨b', c', hl, hbg, hld, ok, F1, h1, h2⟩ := I.depthSet hd (d.depth + 1)
    rw [hb] at hl; cases hl
    simp -implicitDefEqProofs only [L100_0, wpB_some', gd_true, gd_false, gd_tf, gd_ft, gd_ut, gd_uf, gv_true, gv_false, gv_tf, gv_ft, gv_ut, gv_uf, gE_true, gE_false, gE_tf, gE_ft, gE_ut, gE_uf, gU_true, gU_false, gU_tf, gU_ft, pickv_true, pickv_false, cnd_true, cnd_false, decide_true, decide_false, Bool.not_true, Bool.not_false, pr_not, nilv_some, bp_lss, bp_leq, bp_gtr, bp_geq, be_eql, be_neq, bne_self_eq_false, beq_self_eq_true, ldC_some, Option.isNone_none, Option.isNone_some, hp_drew, fa_40_0, ld_3, h6, op_0, q, fa_137_0, hld, bp_add, wrapi (n := d.depth + 1) (by omega) (by omega)]
    rw [st_3 (o := n.toNat * 2 + 0) rfl rfl ok, dv, if_pos k3]
    exact ⟨by first | rfl | trivial, F1, h1, h2.pre hc⟩
  by_cases k4 : o.1 = 4
  · have q : (o.1 == 4) = true := by rw [k4]; rfl
    obtain ⟨b', c', hl, hbg, hld, ok, F1, h1, h2⟩ := I.depthSet hd (d.depth - 1)
    rw [hb] at hl; cases hl
    simp -implicitDefEqProofs only [L100_0, wpB_some', gd_true, gd_false, gd_tf, gd_ft, gd_ut, gd_uf, gv_true, gv_false, gv_tf, gv_ft, gv_ut, gv_uf, gE_true, gE_false, gE_tf, gE_ft, gE_ut, gE_uf, gU_true, gU_false, gU_tf, gU_ft, pickv_true, pickv_false, cnd_true, cnd_false, decide_true, decide_false, Bool.not_true, Bool.not_false, pr_not, nilv_some, bp_lss, bp_leq, bp_gtr, bp_geq, be_eql, be_neq, bne_self_eq_false, beq_self_eq_true, ldC_some, Option.isNone_none, Option.isNone_some, hp_drew, fa_40_0, ld_3, h6, op_0, eqf k3, q, fa_137_0, hld, bp_sub, wrapi (n := d.depth - 1) (by omega) (by omega)]
    rw [st_3 (o := n.toNat * 2 + 0) rfl rfl ok, dv, if_neg k3, if_pos k4]
    have hb1 : ldC (hp (put w b ((getC (hp w b)).setIfInBounds (n.toNat * 2 + 0) (.int .i64 (d.depth - 1))) (getE (hp w b))) g) (0 + 9) = some (.slice (some ⟨b, 0, none⟩) m.hands.length c) := by rw [put_other (Ne.symm hbg)]; exact hb
    generalize put w b ((getC (hp w b)).setIfInBounds (n.toNat * 2 + 0) (.int .i64 (d.depth - 1))) (getE (hp w b)) = w1 at *
    have hd1 : (setHd m n { d with depth := d.depth - 1 }).hands[n.toNat]? = some { d with depth := d.depth - 1 } := by
      show (m.hands.set n.toNat _)[n.toNat]? = _
      rw [List.getElem?_set, if_pos rfl, if_pos (List.getElem?_eq_some_iff.1 hd).1]
    have hln : (setHd m n { d with depth := d.depth - 1 }).hands.length = m.hands.length := by simp [setHd]
    obtain ⟨b2, c2, v2, Fk2, hl2, _, _, _, _, hld2, hv2, hst2⟩ := h1.hdCell hd1 (k := 1) (P := namesT d.holds) (by omega) rfl
    obtain ⟨b3, c3, hl3, _, hld3, _⟩ := h1.depthSet hd1 0
    rw [hln, hb1] at hl2 hl3
    cases hl2; cases hl3
    by_cases hz : d.depth - 1 = 0
    · have e : (d.depth - 1 == 0) = true := by rw [hz]; rfl
      simp -implicitDefEqProofs only [wpB_some', gd_true, gd_false, gd_tf, gd_ft, gd_ut, gd_uf, gv_true, gv_false, gv_tf, gv_ft, gv_ut, gv_uf, gE_true, gE_false, gE_tf, gE_ft, gE_ut, gE_uf, gU_true, gU_false, gU_tf, gU_ft, pickv_true, pickv_false, cnd_true, cnd_false, decide_true, decide_false, Bool.not_true, Bool.not_false, pr_not, nilv_some, bp_lss, bp_leq, bp_gtr, bp_geq, be_eql, be_neq, bne_self_eq_false, beq_self_eq_true, ldC_some, Option.isNone_none, Option.isNone_some, hp_drew, fa_137_0, fa_137_1, ld_3, hld3, e]
      obtain ⟨ok2, F2, h3, h4⟩ := hst2 w1 none' (namesT []) (.slice none 0 0) { depth := 0, holds := [] } ⟨ChgP.refl _ _, fun k hk => hk.elim⟩ (good_names _) isRow.nil (by
        rw [hz]; rfl)
      rw [st_135 (o := n.toNat * 2 + 1) rfl rfl ok2, if_pos hz]
      have e2 : setHd m n { depth := 0, holds := [] } = { setHd m n { d with depth := d.depth - 1 } with hands := (setHd m n { d with depth := d.depth - 1 }).hands.set n.toNat { depth := 0, holds := [] } } := by
        simp [setHd, List.set_set]
      rw [e2]
      exact ⟨by first | rfl | trivial, F2, h3, (h2.trans h4).pre hc⟩
    · simp -implicitDefEqProofs only [wpB_some', gd_true, gd_false, gd_tf, gd_ft, gd_ut, gd_uf, gv_true, gv_false, gv_tf, gv_ft, gv_ut, gv_uf, gE_true, gE_false, gE_tf, gE_ft, gE_ut, gE_uf, gU_true, gU_false, gU_tf, gU_ft, pickv_true, pickv_false, cnd_true, cnd_false, decide_true, decide_false, Bool.not_true, Bool.not_false, pr_not, nilv_some, bp_lss, bp_leq, bp_gtr, bp_geq, be_eql, be_neq, bne_self_eq_false, beq_self_eq_true, ldC_some, Option.isNone_none, Option.isNone_some, hp_drew, fa_137_0, ld_3, hld3, eqf hz]
      rw [if_neg hz]
      exact ⟨by first | rfl | trivial, F1, h1, h2.pre hc⟩
  by_cases k5 : o.1 = 5
  · have q : (o.1 == 5) = true := by rw [k5]; rfl
    obtain ⟨b', c', v, Fk, hl, _, _, _, _, hld, hv, _⟩ := (I.keep cd).hdCell hd (k := 1) (P := namesT d.holds) (by omega) rfl
    rw [show ldC (hp w.drew g) (0 + 9) = _ from hb] at hl; cases hl
    obtain ⟨A, ca, rfl, hR⟩ := names_sh ⟨_, hv⟩
    simp -implicitDefEqProofs only [L100_0, wpB_some', gd_true, gd_false, gd_tf, gd_ft, gd_ut, gd_uf, gv_true, gv_false, gv_tf, gv_ft, gv_ut, gv_uf, gE_true, gE_false, gE_tf, gE_ft, gE_ut, gE_uf, gU_true, gU_false, gU_tf, gU_ft, pickv_true, pickv_false, cnd_true, cnd_false, decide_true, decide_false, Bool.not_true, Bool.not_false, pr_not, nilv_some, bp_lss, bp_leq, bp_gtr, bp_geq, be_eql, be_neq, bne_self_eq_false, beq_self_eq_true, ldC_some, Option.isNone_none, Option.isNone_some, hp_drew, fa_40_0, ld_3, h6, op_0, eqf k3, eqf k4, q, fa_137_1, ld_135, show ldC (hp w b) (n.toNat * 2 + 1) = _ from hld, ldn _ h9d]
    refine (c_nContains (c := ca) hR (by omega) (nmOf h)).mono ?_
    rintro _ w1 ⟨rfl, c1⟩
    have c01 := cd.trans c1
    rw [dv, if_neg k3, if_neg k4, if_pos k5]
    cases hh : holdsV d h with
    | true =>
      have hh' : decide (nmOf h ∈ d.holds) = true := hh
      simp -implicitDefEqProofs only [wpB_some', gd_true, gd_false, gd_tf, gd_ft, gd_ut, gd_uf, gv_true, gv_false, gv_tf, gv_ft, gv_ut, gv_uf, gE_true, gE_false, gE_tf, gE_ft, gE_ut, gE_uf, gU_true, gU_false, gU_tf, gU_ft, pickv_true, pickv_false, cnd_true, cnd_false, decide_true, decide_false, Bool.not_true, Bool.not_false, pr_not, nilv_some, bp_lss, bp_leq, bp_gtr, bp_geq, be_eql, be_neq, bne_self_eq_false, beq_self_eq_true, ldC_some, Option.isNone_none, Option.isNone_some, hp_drew, hh', if_true]
      exact ⟨by first | rfl | trivial, F, I.keep c01, (UpdP.of0 (hc.trans c01))⟩
    | false =>
      have hh' : decide (nmOf h ∈ d.holds) = false := hh
      have c02 : Chg [] w w1.drew := c01.drew
      obtain ⟨b', c', v, Fk, hl, _, _, _, _, hld, hv, hst⟩ := (I.keep c02).hdCell hd (k := 1) (P := namesT d.holds) (by omega) rfl
      rw [chg_ld c02 hb] at hl; cases hl
      have h91 : hp w1.drew g9 = some (.cells (nmC (nmOf h)).toArray 141) := c01.at h9 (by simp)
      simp -implicitDefEqProofs only [wpB_some', gd_true, gd_false, gd_tf, gd_ft, gd_ut, gd_uf, gv_true, gv_false, gv_tf, gv_ft, gv_ut, gv_uf, gE_true, gE_false, gE_tf, gE_ft, gE_ut, gE_uf, gU_true, gU_false, gU_tf, gU_ft, pickv_true, pickv_false, cnd_true, cnd_false, decide_true, decide_false, Bool.not_true, Bool.not_false, pr_not, nilv_some, bp_lss, bp_leq, bp_gtr, bp_geq, be_eql, be_neq, bne_self_eq_false, beq_self_eq_true, ldC_some, Option.isNone_none, Option.isNone_some, hp_drew, hh', fa_137_1, ld_135, show ldC (hp w1 b) (n.toNat * 2 + 1) = _ from hld, ldn _ h91, Bool.false_eq_true, if_false]
      obtain ⟨hown, _⟩ := flat_own hv
      refine ps_135 (by simp) hown (by omega) (Nat.zero_le _) fun x' w2 ho hg hnb => ?_
      rw [show d.holds.flatMap nmC ++ [Value.int .i64 (nmOf h).1, Value.int .i64 (nmOf h).2] = (d.holds ++ [nmOf h]).flatMap nmC by simp [nmC]] at ho
      have hv' : isRow 141 2 d.holds.length ((d.holds.flatMap nmC).map isV) w1.drew Fk v := hv
      obtain ⟨F2, hr2, hu2⟩ := flat_grown (vs := nmC (nmOf h)) hv' (by simpa [nmC] using ho) hg hnb
      have hr2' : namesT (d.holds ++ [nmOf h]) w2 F2 x' := by
        rw [namesT, List.length_append]
        have e : (d.holds ++ [nmOf h]).flatMap nmC = d.holds.flatMap nmC ++ nmC (nmOf h) := by simp
        rw [e]; exact hr2
      obtain ⟨ok2, F3, h3, h4⟩ := hst w2 F2 (namesT (d.holds ++ [nmOf h])) x' { d with holds := d.holds ++ [nmOf h] } hu2 (good_names _) hr2' rfl
      have one := (good_names _).one hr2'
      rw [st_135 (o := n.toNat * 2 + 1) one.1 one.2 ok2]
      exact ⟨by first | rfl | trivial, F3, h3, h4.pre (hc.trans c02)⟩
  by_cases k7 : o.1 = 7
  · have q : (o.1 == 7) = true := by rw [k7]; rfl
    obtain ⟨t1, t2⟩ := touch_ok hr (by omega) (by omega)
    have cw := c_mWord (I.keep cd) Wm hK t1 n0 t2
    simp -implicitDefEqProofs only [L100_0, wpB_some', gd_true, gd_false, gd_tf, gd_ft, gd_ut, gd_uf, gv_true, gv_false, gv_tf, gv_ft, gv_ut, gv_uf, gE_true, gE_false, gE_tf, gE_ft, gE_ut, gE_uf, gU_true, gU_false, gU_tf, gU_ft, pickv_true, pickv_false, cnd_true, cnd_false, decide_true, decide_false, Bool.not_true, Bool.not_false, pr_not, nilv_some, bp_lss, bp_leq, bp_gtr, bp_geq, be_eql, be_neq, bne_self_eq_false, beq_self_eq_true, ldC_some, Option.isNone_none, Option.isNone_some, hp_drew, fa_40_0, fa_40_3, fa_40_4, ld_3, ld_38, h6, h6d, op_0, op_3, op_4, eqf k3, eqf k4, eqf k5, q, ldh _ h7d]
    rw [dv, if_neg k3, if_neg k4, if_neg k5, if_pos k7]
    repeat' (with_reducible apply And.intro)
    all_goals
      refine cw.mono ?_
      rintro _ w3 ⟨g2, j, rfl, c3, hw⟩
      have A := hw w3 c3
      have h63 := (cd.trans c3).at h6 (by simp)
      simp -implicitDefEqProofs only [wpB_some', gd_true, gd_false, gd_tf, gd_ft, gd_ut, gd_uf, gv_true, gv_false, gv_tf, gv_ft, gv_ut, gv_uf, gE_true, gE_false, gE_tf, gE_ft, gE_ut, gE_uf, gU_true, gU_false, gU_tf, gU_ft, pickv_true, pickv_false, cnd_true, cnd_false, decide_true, decide_false, Bool.not_true, Bool.not_false, pr_not, nilv_some, bp_lss, bp_leq, bp_gtr, bp_geq, be_eql, be_neq, bne_self_eq_false, beq_self_eq_true, ldC_some, Option.isNone_none, Option.isNone_some, hp_drew, ld_38, h63, op_4]
      rw [st_38 rfl rfl A.ok]
      obtain ⟨F1, h1, h2⟩ := A.st o.2.2.2.2.1
      exact ⟨by first | rfl | trivial, F1, h1, h2.pre (hc.trans (cd.trans c3))⟩
  by_cases k8 : o.1 = 8
  · have q : (o.1 == 8) = true := by rw [k8]; rfl
    obtain ⟨t1, t2⟩ := touch_ok hr (by omega) (by omega)
    have cw := c_mWord (I.keep cd) Wm hK t1 n0 t2
    simp -implicitDefEqProofs only [L100_0, wpB_some', gd_true, gd_false, gd_tf, gd_ft, gd_ut, gd_uf, gv_true, gv_false, gv_tf, gv_ft, gv_ut, gv_uf, gE_true, gE_false, gE_tf, gE_ft, gE_ut, gE_uf, gU_true, gU_false, gU_tf, gU_ft, pickv_true, pickv_false, cnd_true, cnd_false, decide_true, decide_false, Bool.not_true, Bool.not_false, pr_not, nilv_some, bp_lss, bp_leq, bp_gtr, bp_geq, be_eql, be_neq, bne_self_eq_false, beq_self_eq_true, ldC_some, Option.isNone_none, Option.isNone_some, hp_drew, fa_40_0, fa_40_3, fa_40_4, ld_3, ld_38, h6, h6d, op_0, op_3, op_4, eqf k3, eqf k4, eqf k5, eqf k7, q, ldh _ h7d]
    rw [dv, if_neg k3, if_neg k4, if_neg k5, if_neg k7, if_pos k8]
    repeat' (with_reducible apply And.intro)
    all_goals
      refine cw.mono ?_
      rintro _ w3 ⟨g2, j, rfl, c3, hw⟩
      have A := hw w3 c3
      have h63 := (cd.trans c3).at h6 (by simp)
      simp -implicitDefEqProofs only [wpB_some', gd_true, gd_false, gd_tf, gd_ft, gd_ut, gd_uf, gv_true, gv_false, gv_tf, gv_ft, gv_ut, gv_uf, gE_true, gE_false, gE_tf, gE_ft, gE_ut, gE_uf, gU_true, gU_false, gU_tf, gU_ft, pickv_true, pickv_false, cnd_true, cnd_false, decide_true, decide_false, Bool.not_true, Bool.not_false, pr_not, nilv_some, bp_lss, bp_leq, bp_gtr, bp_geq, be_eql, be_neq, bne_self_eq_false, beq_self_eq_true, ldC_some, Option.isNone_none, Option.isNone_some, hp_drew, ld_38, h63, op_4, A.ld, bp_add]
      rw [st_38 rfl rfl A.ok]
      obtain ⟨F1, h1, h2⟩ := A.st (IntKind.u64.wrap (wordV m h o.2.2.2.1 + o.2.2.2.2.1))
      exact ⟨by first | rfl | trivial, F1, h1, h2.pre (hc.trans (cd.trans c3))⟩
  by_cases k9 : o.1 = 9
  · have q : (o.1 == 9) = true := by rw [k9]; rfl
    obtain ⟨t1, t2⟩ := touch_ok hr (by omega) (by omega)
    simp -implicitDefEqProofs only [L100_0, wpB_some', gd_true, gd_false, gd_tf, gd_ft, gd_ut, gd_uf, gv_true, gv_false, gv_tf, gv_ft, gv_ut, gv_uf, gE_true, gE_false, gE_tf, gE_ft, gE_ut, gE_uf, gU_true, gU_false, gU_tf, gU_ft, pickv_true, pickv_false, cnd_true, cnd_false, decide_true, decide_false, Bool.not_true, Bool.not_false, pr_not, nilv_some, bp_lss, bp_leq, bp_gtr, bp_geq, be_eql, be_neq, bne_self_eq_false, beq_self_eq_true, ldC_some, Option.isNone_none, Option.isNone_some, hp_drew, fa_40_0, fa_40_3, fa_40_4, ld_3, ld_38, h6, op_0, op_3, eqf k3, eqf k4, eqf k5, eqf k7, eqf k8, q, ldh _ h7]
    rw [dv, if_neg k3, if_neg k4, if_neg k5, if_neg k7, if_neg k8, if_pos k9]
    refine (c_mWord I Wm hK t1 n0 t2).mono ?_
    rintro _ w3 ⟨g2, j, rfl, c3, hw⟩
    have c3d : Chg [] w w3.drew := c3.drew
    have A := hw w3.drew c3d
    have h63 := c3.at h6 (by simp)
    by_cases hv : wordV m h o.2.2.2.1 = o.2.2.2.2.1
    · have e : (wordV m h o.2.2.2.1 == o.2.2.2.2.1) = true := by rw [hv]; exact beq_self_eq_true _
      simp -implicitDefEqProofs only [wpB_some', gd_true, gd_false, gd_tf, gd_ft, gd_ut, gd_uf, gv_true, gv_false, gv_tf, gv_ft, gv_ut, gv_uf, gE_true, gE_false, gE_tf, gE_ft, gE_ut, gE_uf, gU_true, gU_false, gU_tf, gU_ft, pickv_true, pickv_false, cnd_true, cnd_false, decide_true, decide_false, Bool.not_true, Bool.not_false, pr_not, nilv_some, bp_lss, bp_leq, bp_gtr, bp_geq, be_eql, be_neq, bne_self_eq_false, beq_self_eq_true, ldC_some, Option.isNone_none, Option.isNone_some, hp_drew, ld_38, fa_40_4, fa_40_5, h63, op_4, op_5, show ldC (hp w3 g2) j = _ from A.ld, e]
      rw [st_38 rfl rfl A.ok, if_pos hv]
      obtain ⟨F1, h1, h2⟩ := A.st o.2.2.2.2.2
      exact ⟨by first | rfl | trivial, F1, h1, h2.pre (hc.trans c3d)⟩
    · simp -implicitDefEqProofs only [wpB_some', gd_true, gd_false, gd_tf, gd_ft, gd_ut, gd_uf, gv_true, gv_false, gv_tf, gv_ft, gv_ut, gv_uf, gE_true, gE_false, gE_tf, gE_ft, gE_ut, gE_uf, gU_true, gU_false, gU_tf, gU_ft, pickv_true, pickv_false, cnd_true, cnd_false, decide_true, decide_false, Bool.not_true, Bool.not_false, pr_not, nilv_some, bp_lss, bp_leq, bp_gtr, bp_geq, be_eql, be_neq, bne_self_eq_false, beq_self_eq_true, ldC_some, Option.isNone_none, Option.isNone_some, hp_drew, ld_38, fa_40_4, h63, op_4, show ldC (hp w3 g2) j = _ from A.ld, eqf hv]
      rw [if_neg hv]
      exact ⟨by first | rfl | trivial, F, I.keep c3d, UpdP.of0 (hc.trans c3d)⟩
  by_cases k10 : o.1 = 10
  · have q : (o.1 == 10) = true := by rw [k10]; rfl
    obtain ⟨i, r, hf, hri, hnm, hlv⟩ := region_ok hr (by omega)
    obtain ⟨s0, s1, s2⟩ := slots_at hlv
    have s2' : m.slots[h.1.toNat]? = some (1, h.2.1) := s2
    have s0' : 0 ≤ h.1 := s0
    have s1' : h.1 < m.slots.length := s1
    obtain ⟨b1, c1, hl, ok, F1, h1, h2⟩ := (I.keep cd).slotSet s2' (p' := (2, h.2.1)) (k := 0) (x := 2) (by omega) rfl
    have ia := ia_128 (b := b1) (p := 0) (n := m.slots.length) (c := c1) (j := .i64) (i := h.1) (by omega) (by omega)
    rw [Nat.zero_add] at ia
    have e0 : (hnC h).toArray[0 + 0]? = some (.int .i64 h.1) := rfl
    simp -implicitDefEqProofs only [L100_0, wpB_some', gd_true, gd_false, gd_tf, gd_ft, gd_ut, gd_uf, gv_true, gv_false, gv_tf, gv_ft, gv_ut, gv_uf, gE_true, gE_false, gE_tf, gE_ft, gE_ut, gE_uf, gU_true, gU_false, gU_tf, gU_ft, pickv_true, pickv_false, cnd_true, cnd_false, decide_true, decide_false, Bool.not_true, Bool.not_false, pr_not, nilv_some, bp_lss, bp_leq, bp_gtr, bp_geq, be_eql, be_neq, bne_self_eq_false, beq_self_eq_true, ldC_some, Option.isNone_none, Option.isNone_some, hp_drew, fa_40_0, ld_3, h6, op_0, eqf k3, eqf k4, eqf k5, eqf k7, eqf k8, eqf k9, q, fa_132_2, ld_128, show ldC (hp w g) (0 + 7) = _ from hl, fa_51_0, h7, e0, ia, fa_150_0]
    rw [st_3 (o := h.1.toNat * 2 + 0) rfl rfl ok, dv, if_neg k3, if_neg k4, if_neg k5, if_neg k7, if_neg k8, if_neg k9, if_pos k10, s2']
    have u1 := h2.pre (hc.trans cd)
    have h71 : hp (put w.drew b1 ((getC (hp w.drew b1)).setIfInBounds (h.1.toNat * 2 + 0) (.int .i64 2)) (getE (hp w.drew b1))) g7 = some (.cells (hnC h).toArray 51) := by
      rw [put_other]
      · exact h7
      · intro e
        subst e
        rw [show hp w.drew g7 = _ from h7, okC_some, decide_eq_true_eq] at ok
        obtain ⟨sv, _, _, M⟩ := I.rd
        obtain ⟨A', c', hs', hR'⟩ := slots_sh M.sT
        have hsl := M.sl
        rw [show ldC (hp w g) (0 + 7) = _ from hl] at hsl
        cases hsl
        cases hs'
        have hown := (flat_own M.sT.choose_spec).1
        rcases hown.2 with ⟨hx, _⟩ | ⟨gg, cap, cur, hx, _, hgg, _⟩
        · cases hx
        · cases hx
          have h7' : w.heap[g7]? = some (.cells (hnC h).toArray 51) := h7
          rw [h7'] at hgg
          cases hgg
    generalize put w.drew b1 ((getC (hp w.drew b1)).setIfInBounds (h.1.toNat * 2 + 0) (.int .i64 2)) (getE (hp w.drew b1)) = w1 at *
    obtain ⟨_, _, _, M1⟩ := h1.rd
    have ml := M1.l
    by_cases hlo : m.loose = true
    · rw [show ({ m with slots := m.slots.set h.1.toNat (2, h.2.1) } : MdV).loose = true from hlo] at ml
      have cd1 : Chg [] w1 w1.drew := (Chg.refl _ _).drew
      have s3 : ({ m with slots := m.slots.set h.1.toNat (2, h.2.1) } : MdV).slots[h.1.toNat]? = some (2, h.2.1) := by
        show (m.slots.set _ _)[_]? = _
        rw [List.getElem?_set, if_pos rfl, if_pos (List.getElem?_eq_some_iff.1 s2').1]
      obtain ⟨b2, c2, hl2, ok2, F2, h3, h4⟩ := (h1.keep cd1).slotSet s3 (p' := (0, h.2.1)) (k := 0) (x := 0) (by omega) rfl
      have hln : ({ m with slots := m.slots.set h.1.toNat (2, h.2.1) } : MdV).slots.length = m.slots.length := by simp
      rw [hln] at hl2
      have ia2 := ia_128 (b := b2) (p := 0) (n := m.slots.length) (c := c2) (j := .i64) (i := h.1) (by omega) (by omega)
      rw [Nat.zero_add] at ia2
      simp -implicitDefEqProofs only [wpB_some', gd_true, gd_false, gd_tf, gd_ft, gd_ut, gd_uf, gv_true, gv_false, gv_tf, gv_ft, gv_ut, gv_uf, gE_true, gE_false, gE_tf, gE_ft, gE_ut, gE_uf, gU_true, gU_false, gU_tf, gU_ft, pickv_true, pickv_false, cnd_true, cnd_false, decide_true, decide_false, Bool.not_true, Bool.not_false, pr_not, nilv_some, bp_lss, bp_leq, bp_gtr, bp_geq, be_eql, be_neq, bne_self_eq_false, beq_self_eq_true, ldC_some, Option.isNone_none, Option.isNone_some, hp_drew, fa_132_1, fa_132_2, ld_4, ml, ld_128, show ldC (hp w1 g) (0 + 7) = _ from hl2, fa_51_0, ld_3, h71, e0, ia2, fa_150_0, hlo, if_true]
      rw [st_3 (o := h.1.toNat * 2 + 0) rfl rfl ok2]
      have e2 : ({ m with slots := m.slots.set h.1.toNat (0, h.2.1) } : MdV) = { ({ m with slots := m.slots.set h.1.toNat (2, h.2.1) } : MdV) with slots := ({ m with slots := m.slots.set h.1.toNat (2, h.2.1) } : MdV).slots.set h.1.toNat (0, h.2.1) } := by simp [List.set_set]
      rw [← e2, hlo] at h3
      exact ⟨by first | rfl | trivial, F2, h3, u1.trans (h4.pre cd1)⟩
    · have hlf : m.loose = false := by simpa using hlo
      rw [show ({ m with slots := m.slots.set h.1.toNat (2, h.2.1) } : MdV).loose = false from hlf] at ml
      simp -implicitDefEqProofs only [wpB_some', gd_true, gd_false, gd_tf, gd_ft, gd_ut, gd_uf, gv_true, gv_false, gv_tf, gv_ft, gv_ut, gv_uf, gE_true, gE_false, gE_tf, gE_ft, gE_ut, gE_uf, gU_true, gU_false, gU_tf, gU_ft, pickv_true, pickv_false, cnd_true, cnd_false, decide_true, decide_false, Bool.not_true, Bool.not_false, pr_not, nilv_some, bp_lss, bp_leq, bp_gtr, bp_geq, be_eql, be_neq, bne_self_eq_false, beq_self_eq_true, ldC_some, Option.isNone_none, Option.isNone_some, hp_drew, fa_132_1, ld_4, ml, hlf, Bool.false_eq_true, if_false]
      rw [hlf] at h1
      exact ⟨by first | rfl | trivial, F1, h1, u1⟩
  · simp -implicitDefEqProofs only [L100_0, wpB_some', gd_true, gd_false, gd_tf, gd_ft, gd_ut, gd_uf, gv_true, gv_false, gv_tf, gv_ft, gv_ut, gv_uf, gE_true, gE_false, gE_tf, gE_ft, gE_ut, gE_uf, gU_true, gU_false, gU_tf, gU_ft, pickv_true, pickv_false, cnd_true, cnd_false, decide_true, decide_false, Bool.not_true, Bool.not_false, pr_not, nilv_some, bp_lss, bp_leq, bp_gtr, bp_geq, be_eql, be_neq, bne_self_eq_false, beq_self_eq_true, ldC_some, Option.isNone_none, Option.isNone_some, hp_drew, fa_40_0, ld_3, h6, op_0, eqf k3, eqf k4, eqf k5, eqf k7, eqf k8, eqf k9, eqf k10]
    rw [dv, if_neg k3, if_neg k4, if_neg k5, if_neg k7, if_neg k8, if_neg k9, if_neg k10]
    exact ⟨by first | rfl | trivial, F, I, UpdP.of0 hc⟩
set_option maxHeartbeats 1000000 in
theorem c_mDoes (I : MdI w g m F) (Wm : Wf m K) (hK : K ≤ 1000000) (hm : mayV m n o = true) (hd : m.hands[n.toNat]? = some d) (hr : refusesV m d o h = 0) :
    CallR Try.prog 100 [.pointer (some ⟨g, 0, none⟩), .int .i64 n, .agg (opC o).toArray, .agg (hnC h).toArray] w fun v w' => v = .tuple #[] ∧ ∃ F', MdI w' g (doesV m n o h) F' ∧ UpdP F F' w w' := by
  apply F100_ok
  obtain ⟨n0, n1, n2⟩ := may_n hm
  simp -implicitDefEqProofs only [F100, effv_box, cells_agg, alloc_size]
  generalize hw : (w.alloc (.cells (opC o).toArray 40)).alloc _ = w1
  have c1 : Chg [] w w1 := by rw [← hw]; exact ((Chg.refl _ _).alloc _).alloc _
  have a6 : hp w1 w.heap.size = some (.cells (opC o).toArray 40) := by rw [← hw, alloc_heap, alloc_size, if_neg (by omega), alloc_heap, if_pos rfl]
  have a7 : hp w1 (w.heap.size + 1) = some (.cells (hnC h).toArray 51) := by rw [← hw, alloc_heap, alloc_size, if_pos rfl]
  clear hw
  generalize w.heap.size = g6 at *
  have ldh : ∀ w', hp w' (g6 + 1) = some (.cells (hnC h).toArray 51) → ldv Try.prog 51 (.pointer (some ⟨g6 + 1, 0, none⟩)) w' = some (.agg (hnC h).toArray) := fun w' hw => ldv_whole (t := 51) (c := (hnC h).toArray) ag_51 (show (Try.prog.info? 51).map (·.size) = some (hnC h).toArray.size from sz_51) hw
  obtain ⟨_, _, hv, M⟩ := I.rd
  obtain ⟨Fh, hF⟩ := M.hT
  obtain ⟨b, c, hx, _⟩ := hd_at hF hd
  have hb := M.hl
  rw [hx] at hb
  have cd : Chg [] w w1.drew := c1.drew
  have a7d : hp w1.drew (g6 + 1) = some (.cells (hnC h).toArray 51) := a7
  have hbd := fun w' (k : Chg [] w w') => chg_ld k hb
  have ia := ia_129 (b := b) (p := 0) (n := m.hands.length) (c := c) (j := .i64) (i := n) (by omega) (by omega)
  rw [Nat.zero_add] at ia
  have nm : ∀ (w' : World) {K : Value → World → Prop}, (∀ w'', Chg [] w' w'' → K (.agg (nmC (nmOf h)).toArray) w'') → CallR Try.prog 86 [.agg (hnC h).toArray] w' K := fun w' K hk => (c_mNameOf h w').mono fun v w'' hv => by obtain ⟨rfl, hc⟩ := hv; exact hk w'' hc
  have tail : ∀ w3, Chg [] w1 w3 → ∀ t : Nat, w1.heap.size ≤ t → hp w3 t = some (.cells #[.int .i64 0, .int .i64 0] 141) →
      effu Try.prog (Instr.storeAt 141 (.pointer (some ⟨t, 0, none⟩)) (.agg (nmC (nmOf h)).toArray)) w3 fun w' =>
      P100_0 (.pointer (some ⟨g, 0, none⟩)) (.pointer (some ⟨g6, 0, none⟩)) (.pointer (some ⟨g6 + 1, 0, none⟩)) (.pointer (some ⟨b, n.toNat * 2, none⟩)) (.pointer (some ⟨t, 0, none⟩)) w' fun v w' => v = .tuple #[] ∧ ∃ F', MdI w' g (doesV m n o h) F' ∧ UpdP F F' w w' := by
    intro w3 c3 t hge ht
    rw [st_141 (by rfl) (by rfl) (by rw [ht]; rfl) (by rw [ht]; rfl), ht]
    simp -implicitDefEqProofs only [getE_some]
    have c4 : Chg [] w1 (put w3 t (nmC (nmOf h)).toArray 141) := c3.put (.inr hge) _ _
    have c04 := c1.trans c4
    exact l_does0 c04 (I.keep c04) Wm hK (c4.at a6 (by simp)) (c4.at a7 (by simp)) (put_same (blk_lt ht) _ _) hd hr n2 (hbd _ c04)
  simp -implicitDefEqProofs only [wpB_some', gd_true, gd_false, gd_tf, gd_ft, gd_ut, gd_uf, gv_true, gv_false, gv_tf, gv_ft, gv_ut, gv_uf, gE_true, gE_false, gE_tf, gE_ft, gE_ut, gE_uf, gU_true, gU_false, gU_tf, gU_ft, pickv_true, pickv_false, cnd_true, cnd_false, decide_true, decide_false, Bool.not_true, Bool.not_false, pr_not, nilv_some, bp_lss, bp_leq, bp_gtr, bp_geq, be_eql, be_neq, bne_self_eq_false, beq_self_eq_true, ldC_some, Option.isNone_none, Option.isNone_some, hp_drew, fa_132_4, ld_129, show ldC (hp w1 g) (0 + 9) = _ from hbd _ c1, ia, ldh _ a7d, al_141]
  repeat' (with_reducible apply And.intro)
  all_goals first
    | (refine nm _ ?_
       intro w3 c3
       have c13 : Chg [] w1 w3 := (((Chg.refl [] w1).drew).alloc _).trans c3
       try simp -implicitDefEqProofs only [wpB_some', gd_true, gd_false, gd_tf, gd_ft, gd_ut, gd_uf, gv_true, gv_false, gv_tf, gv_ft, gv_ut, gv_uf, gE_true, gE_false, gE_tf, gE_ft, gE_ut, gE_uf, gU_true, gU_false, gU_tf, gU_ft, pickv_true, pickv_false, cnd_true, cnd_false, decide_true, decide_false, Bool.not_true, Bool.not_false, pr_not, nilv_some, bp_lss, bp_leq, bp_gtr, bp_geq, be_eql, be_neq, bne_self_eq_false, beq_self_eq_true, ldC_some, Option.isNone_none, Option.isNone_some, hp_drew, fa_132_4, ld_129, hbd _ (c1.trans c13), ia, al_141]
       exact tail w3 c13 _ (Nat.le_refl _) (c3.at (by rw [alloc_heap, if_pos rfl]) (by simp)))
    | (refine nm _ ?_
       intro w3 c3
       have c13 : Chg [] w1 w3 := ((Chg.refl [] w1).drew).trans c3
       try simp -implicitDefEqProofs only [wpB_some', gd_true, gd_false, gd_tf, gd_ft, gd_ut, gd_uf, gv_true, gv_false, gv_tf, gv_ft, gv_ut, gv_uf, gE_true, gE_false, gE_tf, gE_ft, gE_ut, gE_uf, gU_true, gU_false, gU_tf, gU_ft, pickv_true, pickv_false, cnd_true, cnd_false, decide_true, decide_false, Bool.not_true, Bool.not_false, pr_not, nilv_some, bp_lss, bp_leq, bp_gtr, bp_geq, be_eql, be_neq, bne_self_eq_false, beq_self_eq_true, ldC_some, Option.isNone_none, Option.isNone_some, hp_drew, fa_132_4, ld_129, hbd _ (c1.trans c13), ia, al_141]
       exact tail _ (c13.alloc _) _ c13.size (by rw [alloc_heap, if_pos rfl]))
end
end Go.Proofs.Ytgamnncehjcdiaa

namespace Go.Proofs.Ytgamnncehjcdiaa
open Go Ev Go.RowKit
set_option linter.unusedSimpArgs false
set_option linter.unusedVariables false
set_option maxRecDepth 10000

section
variable {W w : World} {g g5 b i k : Nat} {m : MdV} {F : Fp} {K : Nat} {r : RgV}
theorem own_unique {e : TypeId} {z n : Nat} {x : Value} {xs ys : List Value} {p q : Nat} (h : w.ownsRow p e z x n xs) (k : w.ownsRow q e z x n ys) : xs = ys := by
  rcases h.2 with ⟨rfl, rfl⟩ | ⟨g, cap, cur, rfl, _, hg, _, _, _, ht⟩
  · have h1 := h.1; have h2 := k.1
    simp at h1 h2
    rw [h1, h2]
  · rcases k.2 with ⟨h0, _⟩ | ⟨g', cap', cur', h0, _, hg', _, _, _, ht'⟩
    · cases h0
    · cases h0
      rw [hg] at hg'
      cases hg'
      rw [← ht, ← ht']
/-- what does not stand on a thing's blocks stays as it is when it is turned -/
theorem Ev.UpdP.keep {F F' : Fp} {w w1 : World} (u : UpdP F F' w w1) {x : Nat} {o : Obj} (hx : hp w x = some o) (hn : ¬ F x) : hp w1 x = some o ∧ ¬ F' x := by
  refine ⟨u.chg.at hx hn, fun h => ?_⟩
  rcases u.sub x h with h1 | h1
  · exact hn h1
  · have := blk_lt hx; omega
theorem slots_blk (I : MdI w g m F) {n c : Nat} (hl : ldC (hp w g) (0 + 7) = some (.slice (some ⟨b, 0, none⟩) n c)) : b ≠ g ∧ F b := by
  obtain ⟨v, Fk, hg, hng, hsub, hld, hS, _⟩ := isAt.cell I (good_md m) (k := 7) (P := slotsT m.slots) rfl
  rw [show ldC (hp w g) 7 = _ from hl] at hld
  cases hld
  obtain ⟨xs, Fs, _, _, _, h4⟩ := hS
  have hb := (h4 b).2 (.inl rfl)
  exact ⟨fun e => hng (by rw [← e]; exact hb), hsub b hb⟩
theorem st_slot {x y : Value} {o : Nat} {L : World → Prop} (h1 : x.oneCell' = true) (h2 : y.oneCell' = true) (hx : x.cells = #[x]) (hy : y.cells = #[y]) (ok : okC (hp w b) (o + 2) = true) : effu Try.prog (Instr.storeAt 150 (.pointer (some ⟨b, o, none⟩)) (.agg #[x, y])) w L = L (put w b (((getC (hp w b)).setIfInBounds o x).setIfInBounds (o + 1) y) (getE (hp w b))) := by
  exact effu_store (v := .agg #[x, y]) sz_150 rfl (by show (List.all [x, y] _) = true; simp [h1, h2]) (by decide) ok
theorem MdI.slotSet2 (I : MdI w g m F) {p p' : NmV} (hp' : m.slots[i]? = some p) :
    ∃ b c, ldC (hp w g) (0 + 7) = some (.slice (some ⟨b, 0, none⟩) m.slots.length c) ∧ b ≠ g ∧ F b ∧ okC (hp w b) (i * 2 + 2) = true ∧
      ∃ F', MdI (put w b (((getC (hp w b)).setIfInBounds (i * 2) (.int .i64 p'.1)).setIfInBounds (i * 2 + 1) (.int .i64 p'.2)) (getE (hp w b))) g { m with slots := m.slots.set i p' } F' ∧ UpdP F F' w (put w b (((getC (hp w b)).setIfInBounds (i * 2) (.int .i64 p'.1)).setIfInBounds (i * 2 + 1) (.int .i64 p'.2)) (getE (hp w b))) := by
  obtain ⟨b, c, hl, ok, F1, h1, h2⟩ := I.slotSet hp' (p' := (p'.1, p.2)) (k := 0) (x := p'.1) (by omega) rfl
  obtain ⟨hbg, hFb⟩ := slots_blk I hl
  have hp2 : ({ m with slots := m.slots.set i (p'.1, p.2) } : MdV).slots[i]? = some (p'.1, p.2) := by
    show (m.slots.set _ _)[_]? = _
    rw [List.getElem?_set, if_pos rfl, if_pos (List.getElem?_eq_some_iff.1 hp').1]
  obtain ⟨b2, c2, hl2, ok2, F2, h3, h4⟩ := h1.slotSet hp2 (p' := p') (k := 1) (x := p'.2) (by omega) rfl
  have hln : ({ m with slots := m.slots.set i (p'.1, p.2) } : MdV).slots.length = m.slots.length := by simp
  rw [hln, put_other (Ne.symm hbg), hl] at hl2
  cases hl2
  obtain ⟨cc, e, hb, hle⟩ := okC_cases ok
  have hlt := blk_lt hb
  rw [hb] at h3 h4 ok2 h2
  rw [getC_some, getE_some, put_same hlt] at h3 h4 ok2
  rw [getC_some, getE_some, put_put] at h3 h4
  have es : ({ m with slots := m.slots.set i p' } : MdV) = { ({ m with slots := m.slots.set i (p'.1, p.2) } : MdV) with slots := ({ m with slots := m.slots.set i (p'.1, p.2) } : MdV).slots.set i p' } := by simp [List.set_set]
  refine ⟨b, c, hl, hbg, hFb, ?_, F2, ?_, ?_⟩
  · rw [hb, okC_some]
    rw [okC_some, decide_eq_true_eq] at ok2
    simp at ok2
    exact decide_eq_true ok2
  · rw [hb, es]; exact h3
  · rw [hb]
    exact UpdP.trans h2 h4
/-- a cell of a region: what it is, what comes of the model when another thing is put there -/
theorem MdI.rgPut (I : MdI w g m F) {n c : Nat} (hb : ldC (hp w g) (0 + 8) = some (.slice (some ⟨b, 0, none⟩) n c)) (hr : m.rgs[i]? = some r) (hk : k < 7) {P : Th} (hP : (rgT r)[k]? = some P) :
    ∃ v Fk, (∀ x, Fk x → F x) ∧ F b ∧ ¬ Fk b ∧ ldC (hp w b) (i * 7 + k) = some v ∧ P w Fk v ∧
      ∀ w1 F' P' v' r', UpdP Fk F' w w1 → OwnT P' → P' w1 F' v' → rgT r' = (rgT r).set k P' → okC (hp w1 b) (i * 7 + k + 1) = true ∧ v'.cells = #[v'] ∧ v'.oneCell' = true ∧
        ldC (hp (put w1 b ((getC (hp w1 b)).setIfInBounds (i * 7 + k) v') (getE (hp w1 b))) g) (0 + 8) = some (.slice (some ⟨b, 0, none⟩) n c) ∧
        ∃ F1, MdI (put w1 b ((getC (hp w1 b)).setIfInBounds (i * 7 + k) v') (getE (hp w1 b))) g { m with rgs := m.rgs.set i r' } F1 ∧ UpdP F F1 w (put w1 b ((getC (hp w1 b)).setIfInBounds (i * 7 + k) v') (getE (hp w1 b))) := by
  obtain ⟨rv, Fr, hg, hng, hsub, hld, hR, hres, _⟩ := isAt.cell I (good_md m) (k := 8) (P := rgsT m.rgs) rfl
  have hP' : (m.rgs.flatMap rgT)[i * 7 + k]? = some P := (flatM_get rgT_len m.rgs i r hr k hk).trans hP
  obtain ⟨b', c', v, Fk, hx, hFb, hnb, hsub2, hld2, hv, h3, h4⟩ := isRow.cell hR (good_rgL m.rgs) hP'
  rw [show ldC (hp w g) 8 = _ from hb, hx] at hld
  cases hld
  have hbg : b ≠ g := fun e => hng (by rw [← e]; exact hFb)
  refine ⟨v, Fk, fun x hx => hsub x (hsub2 x hx), hsub b hFb, hnb, hld2, hv, fun w1 F' P' v' r' u hg' hpp hr' => ?_⟩
  obtain ⟨ok, F1, hrow, hupd⟩ := h4 w1 F' P' v' u hg' hpp
  rw [flatM_setP rgT_len hk hr' hr] at hrow
  have hrow' : rgsT (m.rgs.set i r') (put w1 b ((getC (hp w1 b)).setIfInBounds (i * 7 + k) v') (getE (hp w1 b))) F1 rv := by rw [rgsT, List.length_set]; exact hrow
  obtain ⟨F2, e1, e2⟩ := hres _ F1 (rgsT (m.rgs.set i r')) hupd hrow'
  obtain ⟨one1, one2⟩ := hg'.one hpp
  refine ⟨ok, one1, one2, ?_, F2, e1, e2⟩
  rw [put_other (Ne.symm hbg)]
  have : hp w1 g = hp w g := u.chg.block g (by
    rcases Nat.lt_or_ge g w.heap.size with h | h
    · exact h
    · have h2 : hp w g = none := by simp [hp]; omega
      rw [h2] at hb; cases hb) fun h => hng (hsub2 g h)
  rw [this]; exact hb
/-- the row of regions: what comes of the model when another row is put there -/
theorem MdI.rgsPut (I : MdI w g m F) : ∃ v Fk, (∀ x, Fk x → F x) ∧ ldC (hp w g) (0 + 8) = some v ∧ rgsT m.rgs w Fk v ∧
    ∀ w1 F' v' rgs', UpdP Fk F' w w1 → rgsT rgs' w1 F' v' → okC (hp w1 g) (0 + 8 + 1) = true ∧ v'.cells = #[v'] ∧ v'.oneCell' = true ∧
      ∃ F1, MdI (put w1 g ((getC (hp w1 g)).setIfInBounds (0 + 8) v') (getE (hp w1 g))) g { m with rgs := rgs' } F1 ∧ UpdP F F1 w (put w1 g ((getC (hp w1 g)).setIfInBounds (0 + 8) v') (getE (hp w1 g))) := by
  obtain ⟨rv, Fr, hg, hng, hsub, hld, hR, _, hput⟩ := isAt.cell I (good_md m) (k := 8) (P := rgsT m.rgs) rfl
  refine ⟨rv, Fr, hsub, hld, hR, fun w1 F' v' rgs' u hv' => ?_⟩
  obtain ⟨ok, F1, h1, h2⟩ := hput w1 F' (rgsT rgs') v' u (good_rgs rgs') hv'
  obtain ⟨one1, one2⟩ := (good_rgs rgs').one hv'
  exact ⟨ok, one1, one2, F1, h1, h2⟩
/-- a row of regions, grown by an empty one -/
theorem rgs_grown {L : List RgV} {w' : World} {x x' : Value} {xs : List Value} (h : rgsT L w F x) (hown : w.ownsRow 0 144 7 x L.length xs) (nm : NmV) (cls : Int)
    (ho : w'.ownsRow 0 144 7 x' (L.length + 1) (xs ++ [.int .i64 nm.1, .int .i64 nm.2, .int .i64 cls, .int .i64 0, .slice none 0 0, .slice none 0 0, .slice none 0 0])) (hg : w.grownBy w' x.ownBlock) (hnb : NewB w x x') :
    ∃ F', rgsT (L ++ [⟨nm, cls, 0, [], [], []⟩]) w' F' x' ∧ UpdP F F' w w' := by
  have hy : Parts w (rgT ⟨nm, cls, 0, [], [], []⟩) [.int .i64 nm.1, .int .i64 nm.2, .int .i64 cls, .int .i64 0, .slice none 0 0, .slice none 0 0, .slice none 0 0] (fun _ => none') := by
    refine ⟨rfl, fun k P v hP hv => ?_, fun _ _ _ _ _ b hb _ => hb⟩
    have hk := (List.getElem?_eq_some_iff.1 hP).1
    rw [rgT_len] at hk
    have hk' : k = 0 ∨ k = 1 ∨ k = 2 ∨ k = 3 ∨ k = 4 ∨ k = 5 ∨ k = 6 := by omega
    rcases hk' with rfl | rfl | rfl | rfl | rfl | rfl | rfl <;> cases hP <;> cases hv
    · exact ⟨rfl, fun _ h => h⟩
    · exact ⟨rfl, fun _ h => h⟩
    · exact ⟨rfl, fun _ h => h⟩
    · exact ⟨rfl, fun _ h => h⟩
    · exact isRow.nil
    · exact isRow.nil
    · exact isRow.nil
  obtain ⟨F', h1, h2, _⟩ := isRow.grow (G := none') (m := 1) h (good_rgL L) (good_rg _) hy (fun b => ⟨fun h => h.elim, fun ⟨_, _, h⟩ => h⟩) (fun _ _ h => h) (fun xs' h' => by rw [own_unique h' hown]; exact ho) hg hnb
  refine ⟨F', ?_, ⟨h2.chg.mono fun k hk => hk.resolve_right id, fun k hk => (h2.sub k hk).imp (·.resolve_right id) id⟩⟩
  rw [rgsT, List.length_append, List.flatMap_append]
  simpa using h1
theorem rs_beq (a b : RsV) : ((a.1 == b.1) && (((a.2.1.1 == b.2.1.1) && ((a.2.1.2.1 == b.2.1.2.1) && ((a.2.1.2.2.1 == b.2.1.2.2.1) && ((a.2.1.2.2.2.1 == b.2.1.2.2.2.1) && ((a.2.1.2.2.2.2 == b.2.1.2.2.2.2) && (true)))))) && ((a.2.2.1 == b.2.2.1) && ((a.2.2.2 == b.2.2.2) && (true))))) = decide (a = b) := by
  obtain ⟨a1, ⟨a2, a3, a4, a5, a6⟩, a7, a8⟩ := a; obtain ⟨b1, ⟨b2, b3, b4, b5, b6⟩, b7, b8⟩ := b
  by_cases h1 : a1 = b1 <;> by_cases h2 : a2 = b2 <;> by_cases h3 : a3 = b3 <;> by_cases h4 : a4 = b4 <;> by_cases h5 : a5 = b5 <;> by_cases h6 : a6 = b6 <;> by_cases h7 : a7 = b7 <;> by_cases h8 : a8 = b8 <;> simp [h1, h2, h3, h4, h5, h6, h7, h8]
theorem be_rs {x y : Operand} (a b : RsV) : be Try.prog .eql 53 x y (.agg (rsC a).toArray) (.agg (rsC b).toArray) = some (.bool (decide (a = b))) := by rw [← rs_beq]; exact be_eql_53
theorem be_nrs {x y : Operand} (a b : RsV) : be Try.prog .neq 53 x y (.agg (rsC a).toArray) (.agg (rsC b).toArray) = some (.bool (!decide (a = b))) := by rw [← rs_beq]; exact be_neq_53
set_option maxHeartbeats 1000000 in
theorem c_mTaken {s rv hh : Value} (M : MdR w g m s rv hh) (Wm : Wf m K) (hK : K ≤ 1000000) (x : Int) : CallR Try.prog 129 [.pointer (some ⟨g, 0, none⟩), .int .i64 x] w fun v w' => v = .bool (takenV m x) ∧ Chg [] w w' := by
  apply F129_ok
  obtain ⟨A, c, hr⟩ := rgs_sh M.rT
  have hrl := M.rl
  rw [hr] at hrl
  have hl := Nat.le_trans Wm.rl hK
  simp -implicitDefEqProofs only [F129, wpB_some', gd_true, gd_false, gd_tf, gd_ft, gd_ut, gd_uf, gv_true, gv_false, gv_tf, gv_ft, gv_ut, gv_uf, gE_true, gE_false, gE_tf, gE_ft, gE_ut, gE_uf, gU_true, gU_false, gU_tf, gU_ft, pickv_true, pickv_false, cnd_true, cnd_false, decide_true, decide_false, Bool.not_true, Bool.not_false, pr_not, nilv_some, bp_lss, bp_leq, bp_gtr, bp_geq, be_eql, be_neq, bne_self_eq_false, beq_self_eq_true, ldC_some, Option.isNone_none, Option.isNone_some, hp_drew, nilv_some, fa_132_3, ld_130, hrl, len_130]
  have main : ∀ (d i : Nat) (w1 : World), Chg [] w w1 → (∀ (j : Nat) (r : RgV), j < i → m.rgs[j]? = some r → (isLv m r.nm && decide (x ∈ r.chunks)) = false) → i + d = m.rgs.length →
      P129_0 (.pointer (some ⟨g, 0, none⟩)) (.int .i64 x) (.slice A m.rgs.length c) (.int .i64 m.rgs.length) (.int .i64 i) w1 fun v w' => v = .bool (takenV m x) ∧ Chg [] w w' := by
    intro d
    induction d with
    | zero =>
      intro i w1 hc hn hi
      apply L129_0_ok
      have : ¬ (i : Int) < m.rgs.length := by omega
      simp -implicitDefEqProofs only [L129_0, wpB_some', gd_true, gd_false, gd_tf, gd_ft, gd_ut, gd_uf, gv_true, gv_false, gv_tf, gv_ft, gv_ut, gv_uf, gE_true, gE_false, gE_tf, gE_ft, gE_ut, gE_uf, gU_true, gU_false, gU_tf, gU_ft, pickv_true, pickv_false, cnd_true, cnd_false, decide_true, decide_false, Bool.not_true, Bool.not_false, pr_not, nilv_some, bp_lss, bp_leq, bp_gtr, bp_geq, be_eql, be_neq, bne_self_eq_false, beq_self_eq_true, ldC_some, Option.isNone_none, Option.isNone_some, hp_drew, this]
      refine ⟨?_, hc⟩
      have : takenV m x = false := by
        rw [takenV, List.any_eq_false]
        intro r hr
        obtain ⟨j, hj⟩ := List.getElem?_of_mem hr
        rw [hn j r (by have := (List.getElem?_eq_some_iff.1 hj).1; omega) hj]; simp
      rw [this]
    | succ d ih =>
      intro i w1 hc hn hi
      apply L129_0_ok
      have hlt : (i : Int) < m.rgs.length := by omega
      obtain ⟨rg, hrg⟩ : ∃ rg, m.rgs[i]? = some rg := ⟨_, List.getElem?_eq_getElem (by omega)⟩
      obtain ⟨Fr, hF⟩ := (M.keep hc).rT
      obtain ⟨b, c', hx, cv, wv, ov, R⟩ := rg_at hF hrg
      rw [hr] at hx
      cases hx
      have ia := ia_130 (b := b) (p := 0) (n := m.rgs.length) (c := c) (j := .i64) (i := (i : Int)) (by omega) (by omega)
      rw [Int.toNat_natCast, Nat.zero_add] at ia
      have lr : ldL (hp w1 b) (i * 7) 7 = some [.int .i64 rg.nm.1, .int .i64 rg.nm.2, .int .i64 rg.cls, .int .i64 rg.off, cv, wv, ov] := ldL_take 7 _ _ rfl fun j u hj => by
        have hj' := (List.getElem?_eq_some_iff.1 hj).1
        simp at hj'
        have h7 : j = 0 ∨ j = 1 ∨ j = 2 ∨ j = 3 ∨ j = 4 ∨ j = 5 ∨ j = 6 := by omega
        rcases h7 with rfl | rfl | rfl | rfl | rfl | rfl | rfl <;> cases hj
        · exact R.c0
        · exact R.c1
        · exact R.c2
        · exact R.c3
        · exact R.c4
        · exact R.c5
        · exact R.c6
      obtain ⟨Fc, hFc⟩ := R.cT
      obtain ⟨Fw, hFw⟩ := R.wT
      obtain ⟨Fo, hFo⟩ := R.oT
      have one1 := ((good_intsT _).one hFc).2
      have one2 := ((good_words _).one hFw).2
      have one3 := ((good_objs _).one hFo).2
      simp -implicitDefEqProofs only [L129_0, wpB_some', gd_true, gd_false, gd_tf, gd_ft, gd_ut, gd_uf, gv_true, gv_false, gv_tf, gv_ft, gv_ut, gv_uf, gE_true, gE_false, gE_tf, gE_ft, gE_ut, gE_uf, gU_true, gU_false, gU_tf, gU_ft, pickv_true, pickv_false, cnd_true, cnd_false, decide_true, decide_false, Bool.not_true, Bool.not_false, pr_not, nilv_some, bp_lss, bp_leq, bp_gtr, bp_geq, be_eql, be_neq, bne_self_eq_false, beq_self_eq_true, ldC_some, Option.isNone_none, Option.isNone_some, hp_drew, hlt, ia, ld_144, lr, Option.map_some, al_144]
      rw [st_144 (by rfl) (by show (List.all [_, _, _, _, cv, wv, ov] _) = true; have oi : ∀ (k : IntKind) (x : Int), (Value.int k x).oneCell' = true := fun _ _ => rfl; simp [one1, one2, one3, oi]) (by rw [alloc_heap, if_pos rfl]; rfl) (by rw [alloc_heap, if_pos rfl]; rfl), alloc_heap, if_pos rfl, getE_some]
      generalize hw2 : put (w1.alloc _) w1.heap.size _ _ = w2
      have c2 : Chg [] w1 w2 := by rw [← hw2]; exact ((Chg.refl _ _).alloc _).put (.inr (Nat.le_refl _)) _ _
      have a6 : hp w2 w1.heap.size = some (.cells #[.int .i64 rg.nm.1, .int .i64 rg.nm.2, .int .i64 rg.cls, .int .i64 rg.off, cv, wv, ov] 144) := by rw [← hw2]; exact put_same (by simp) _ _
      clear hw2
      have c02 := hc.trans c2
      have ln : ldL (some (Obj.cells #[.int .i64 rg.nm.1, .int .i64 rg.nm.2, .int .i64 rg.cls, .int .i64 rg.off, cv, wv, ov] 144)) (0 + 0) 2 = some [.int .i64 rg.nm.1, .int .i64 rg.nm.2] := rfl
      simp -implicitDefEqProofs only [fa_144_0, ld_141, a6, ln, Option.map_some, wpB_some']
      refine (c_mIsLive (M.keep c02) rg.nm).mono ?_
      rintro _ w3 ⟨rfl, c3⟩
      have c03 := c02.trans c3
      have a63 := c3.at a6 (by simp)
      have next : (isLv m rg.nm && decide (x ∈ rg.chunks)) = false → P129_0 (.pointer (some ⟨g, 0, none⟩)) (.int .i64 x) (.slice (some ⟨b, 0, none⟩) m.rgs.length c) (.int .i64 m.rgs.length) (.int .i64 ((i : Int) + 1)) w3 fun v w' => v = .bool (takenV m x) ∧ Chg [] w w' := by
        intro hf
        have := ih (i + 1) w3 c03 (fun j r hj hr => by
          rcases Nat.lt_or_ge j i with h1 | h1
          · exact hn j r h1 hr
          · have : j = i := by omega
            subst this
            rw [hrg] at hr; cases hr; exact hf) (by omega)
        rw [Int.natCast_add i 1] at this
        exact this
      cases hlv : isLv m rg.nm with
      | false =>
        simp -implicitDefEqProofs only [wpB_some', gd_true, gd_false, gd_tf, gd_ft, gd_ut, gd_uf, gv_true, gv_false, gv_tf, gv_ft, gv_ut, gv_uf, gE_true, gE_false, gE_tf, gE_ft, gE_ut, gE_uf, gU_true, gU_false, gU_tf, gU_ft, pickv_true, pickv_false, cnd_true, cnd_false, decide_true, decide_false, Bool.not_true, Bool.not_false, pr_not, nilv_some, bp_lss, bp_leq, bp_gtr, bp_geq, be_eql, be_neq, bne_self_eq_false, beq_self_eq_true, ldC_some, Option.isNone_none, Option.isNone_some, hp_drew, bp_add, wrapi (n := (i : Int) + 1) (by omega) (by omega)]
        exact next (by rw [hlv]; rfl)
      | true =>
        obtain ⟨A', c', hcv, hR⟩ := ints_sh ⟨_, hFc⟩
        have e4 : (#[Value.int .i64 rg.nm.1, .int .i64 rg.nm.2, .int .i64 rg.cls, .int .i64 rg.off, cv, wv, ov])[0 + 4]? = some (.slice A' rg.chunks.length c') := by rw [hcv]; rfl
        simp -implicitDefEqProofs only [wpB_some', gd_true, gd_false, gd_tf, gd_ft, gd_ut, gd_uf, gv_true, gv_false, gv_tf, gv_ft, gv_ut, gv_uf, gE_true, gE_false, gE_tf, gE_ft, gE_ut, gE_uf, gU_true, gU_false, gU_tf, gU_ft, pickv_true, pickv_false, cnd_true, cnd_false, decide_true, decide_false, Bool.not_true, Bool.not_false, pr_not, nilv_some, bp_lss, bp_leq, bp_gtr, bp_geq, be_eql, be_neq, bne_self_eq_false, beq_self_eq_true, ldC_some, Option.isNone_none, Option.isNone_some, hp_drew, fa_144_3, ld_23, a63, e4]
        apply F112_ok
        simp -implicitDefEqProofs only [F112]
        have hR3 : RdI .i64 w3 A' rg.chunks := hR.keep (c2.trans c3).below
        have hcl : rg.chunks.length ≤ 1000000 := Nat.le_trans (Wm.rg rg (List.mem_of_getElem? hrg)).cl hK
        refine (c_iIndex (c := c') hR3 hcl x).step ?_
        have hge : decide (ixOf rg.chunks x ≥ 0) = decide (x ∈ rg.chunks) := ixOf_mem _ _
        simp -implicitDefEqProofs only [wpB_some', gd_true, gd_false, gd_tf, gd_ft, gd_ut, gd_uf, gv_true, gv_false, gv_tf, gv_ft, gv_ut, gv_uf, gE_true, gE_false, gE_tf, gE_ft, gE_ut, gE_uf, gU_true, gU_false, gU_tf, gU_ft, pickv_true, pickv_false, cnd_true, cnd_false, decide_true, decide_false, Bool.not_true, Bool.not_false, pr_not, nilv_some, bp_lss, bp_leq, bp_gtr, bp_geq, be_eql, be_neq, bne_self_eq_false, beq_self_eq_true, ldC_some, Option.isNone_none, Option.isNone_some, hp_drew, bp_geq]
        by_cases hm : x ∈ rg.chunks
        · rw [decide_eq_true hm] at hge
          have hge' := of_decide_eq_true hge
          simp -implicitDefEqProofs only [wpB_some', gd_true, gd_false, gd_tf, gd_ft, gd_ut, gd_uf, gv_true, gv_false, gv_tf, gv_ft, gv_ut, gv_uf, gE_true, gE_false, gE_tf, gE_ft, gE_ut, gE_uf, gU_true, gU_false, gU_tf, gU_ft, pickv_true, pickv_false, cnd_true, cnd_false, decide_true, decide_false, Bool.not_true, Bool.not_false, pr_not, nilv_some, bp_lss, bp_leq, bp_gtr, bp_geq, be_eql, be_neq, bne_self_eq_false, beq_self_eq_true, ldC_some, Option.isNone_none, Option.isNone_some, hp_drew, hge', bp_geq]
          refine ⟨?_, c03⟩
          have : takenV m x = true := by
            rw [takenV, List.any_eq_true]
            exact ⟨rg, List.mem_of_getElem? hrg, by rw [hlv, decide_eq_true hm]; rfl⟩
          rw [this]
        · rw [decide_eq_false hm] at hge
          have hge' := of_decide_eq_false hge
          simp -implicitDefEqProofs only [wpB_some', gd_true, gd_false, gd_tf, gd_ft, gd_ut, gd_uf, gv_true, gv_false, gv_tf, gv_ft, gv_ut, gv_uf, gE_true, gE_false, gE_tf, gE_ft, gE_ut, gE_uf, gU_true, gU_false, gU_tf, gU_ft, pickv_true, pickv_false, cnd_true, cnd_false, decide_true, decide_false, Bool.not_true, Bool.not_false, pr_not, nilv_some, bp_lss, bp_leq, bp_gtr, bp_geq, be_eql, be_neq, bne_self_eq_false, beq_self_eq_true, ldC_some, Option.isNone_none, Option.isNone_some, hp_drew, hge', bp_geq, bp_add, wrapi (n := (i : Int) + 1) (by omega) (by omega)]
          exact next (by rw [decide_eq_false hm]; simp)
  exact main m.rgs.length 0 w (Chg.refl _ _) (fun j r hj => by omega) (by omega)
end
end Go.Proofs.Ytgamnncehjcdiaa

namespace Go.Proofs.Ytgamnncehjcdiaa
open Go Ev Go.RowKit
set_option linter.unusedSimpArgs false
set_option linter.unusedVariables false
set_option maxRecDepth 10000

section
variable {W w : World} {g g5 : Nat} {m : MdV} {F : Fp} {K : Nat} {r : RsV} {cls : Int} {p : NmV}
theorem MdI.notF (I : MdI W g m F) {x : Nat} (h : W.heap.size ≤ x) : ¬ F x := fun hx => by have := isAt.lt I (good_md m) x hx; omega
theorem rs_0 (r : RsV) : (rsC r).toArray[0 + 0]? = some (.int .i64 r.1) := rfl
theorem rs_1 (r : RsV) : (rsC r).toArray[0 + 1 + 0]? = some (.int .i64 r.2.1.1) := rfl
theorem rs_3 (r : RsV) : (rsC r).toArray[0 + 1 + 2]? = some (.int .i64 r.2.1.2.2.1) := rfl
theorem rs_h (r : RsV) (e : TypeId) : ldL (some (Obj.cells (rsC r).toArray e)) (0 + 1) 5 = some (hnC r.2.1) := rfl
set_option maxHeartbeats 1000000 in
theorem l_creates0 (hc : Chg [] W w) (IW : MdI W g m F) (Wm : Wf m K) (hK : K + 1 ≤ 1000000) (n5 : W.heap.size ≤ g5) (h5 : hp w g5 = some (.cells (rsC r).toArray 53)) (r7 : r ≠ codeR 7) (hs : 0 ≤ r.2.1.1 ∧ r.2.1.1 < m.slots.length) (hp' : m.slots[r.2.1.1.toNat]? = some p) (p0 : p.1 = 0) :
    P101_0 (.pointer (some ⟨g, 0, none⟩)) (.int .i64 cls) (.pointer (some ⟨g5, 0, none⟩)) (.int .i64 (laterV p.2)) w fun v w' => v = .bool (createsV m cls r).1 ∧ ∃ F', MdI w' g (createsV m cls r).2 F' ∧ UpdP F F' W w' := by
  apply L101_0_ok
  have I := IW.keep hc
  have cv : createsV m cls r = if r = (0, (r.2.1.1, laterV p.2, 0, 0, 0), 0, 0) then
        (true, { m with slots := m.slots.set r.2.1.1.toNat (1, laterV p.2), rgs := m.rgs ++ [⟨(r.2.1.1, laterV p.2), cls, 0, [], [], []⟩] }) else (false, m) := by
    rw [createsV, if_neg r7, if_pos hs, hp']
    simp only [ne_eq, p0, not_true_eq_false, if_false]
  have hbe : be Try.prog .neq 53 (.tmp 54) (.tmp 60) (.agg (rsC r).toArray) (.agg #[.int .i64 0, .int .i64 r.2.1.1, .int .i64 (laterV p.2), .int .i64 0, .int .i64 0, .int .i64 0, .int .i64 0, .int .u64 0]) = some (.bool (!decide (r = (0, (r.2.1.1, laterV p.2, 0, 0, 0), 0, 0)))) := be_nrs r (0, (r.2.1.1, laterV p.2, 0, 0, 0), 0, 0)
  simp -implicitDefEqProofs only [L101_0, ld_res h5, wpB_some', fa_53_1, fa_51_0, ld_3, h5, ldC_some, rs_1, bd_51_0_1, bd_53_1, hbe]
  by_cases hr : r = (0, (r.2.1.1, laterV p.2, 0, 0, 0), 0, 0)
  · rw [if_pos hr] at cv
    rw [cv]
    have cd : Chg [] w w.drew := (Chg.refl _ _).drew
    obtain ⟨b1, c1, hl, hbg, hFb, ok, F1, h1, h2⟩ := (I.keep cd).slotSet2 (p' := (1, laterV p.2)) hp'
    have ia := ia_128 (b := b1) (p := 0) (n := m.slots.length) (c := c1) (j := .i64) (i := r.2.1.1) hs.1 hs.2
    rw [Nat.zero_add] at ia
    simp -implicitDefEqProofs only [decide_eq_true hr, wpB_some', gd_true, gd_false, gd_tf, gd_ft, gd_ut, gd_uf, gv_true, gv_false, gv_tf, gv_ft, gv_ut, gv_uf, gE_true, gE_false, gE_tf, gE_ft, gE_ut, gE_uf, gU_true, gU_false, gU_tf, gU_ft, pickv_true, pickv_false, cnd_true, cnd_false, decide_true, decide_false, Bool.not_true, Bool.not_false, pr_not, nilv_some, bp_lss, bp_leq, bp_gtr, bp_geq, be_eql, be_neq, bne_self_eq_false, beq_self_eq_true, ldC_some, Option.isNone_none, Option.isNone_some, hp_drew, fa_132_2, ld_128, show ldC (hp w g) (0 + 7) = _ from hl, h5, rs_1, bd_150_0_1, ia]
    rw [st_slot (o := r.2.1.1.toNat * 2) rfl rfl rfl rfl ok]
    have k5 := h2.keep (show hp w.drew g5 = _ from h5) (IW.notF n5)
    generalize put w.drew b1 _ _ = w1 at *
    have cd1 : Chg [] w1 w1.drew := (Chg.refl _ _).drew
    have k5d : hp w1.drew g5 = some (.cells (rsC r).toArray 53) := k5.1
    have fin : ∀ w2, Chg [] w1 w2 → ∃ (v : Value) (Fk : Fp), ldC (hp w2 g) (0 + 8) = some v ∧ (∀ x, Fk x → F1 x) ∧
        ∀ {Q : Value → World → Prop}, (∀ x' w3, okC (hp w3 g) (0 + 8 + 1) = true → x'.cells = #[x'] → x'.oneCell' = true →
            (∃ F', MdI (put w3 g ((getC (hp w3 g)).setIfInBounds (0 + 8) x') (getE (hp w3 g))) g { m with slots := m.slots.set r.2.1.1.toNat (1, laterV p.2), rgs := m.rgs ++ [⟨(r.2.1.1, laterV p.2), cls, 0, [], [], []⟩] } F' ∧ UpdP F F' W (put w3 g ((getC (hp w3 g)).setIfInBounds (0 + 8) x') (getE (hp w3 g)))) → Q x' w3) →
          effv Try.prog (Instr.buildSlice 130 1 #[(0, .agg #[.int .i64 r.2.1.1, .int .i64 (laterV p.2), .int .i64 cls, .int .i64 0, .slice none 0 0, .slice none 0 0, .slice none 0 0])]) w2 fun y w3 => effv Try.prog (Builtin.append_ #[130, 130] 130 #[v, y]) w3 Q := by
      intro w2 c2
      obtain ⟨v, Fk, hsub, hld, hR, hput⟩ := (h1.keep c2).rgsPut
      refine ⟨v, Fk, hld, hsub, fun {Q} hQ => ?_⟩
      obtain ⟨xs, Fs, q1, q2, q3, q4⟩ := hR
      have hlen : ({ m with slots := m.slots.set r.2.1.1.toNat (1, laterV p.2) } : MdV).rgs.length = m.rgs.length := rfl
      rw [hlen] at q1
      have hrl := Wm.rl
      refine ps_130 (fun u hu => by simp only [List.mem_cons, List.not_mem_nil, or_false] at hu; rcases hu with rfl | rfl | rfl | rfl | rfl | rfl | rfl <;> rfl) q1 (by omega) (Nat.zero_le _) fun x' w3 ho hg hnb => ?_
      obtain ⟨F3, r1, r2⟩ := rgs_grown (nm := (r.2.1.1, laterV p.2)) (cls := cls) (L := m.rgs) ⟨xs, Fs, q1, q2, q3, q4⟩ q1 ho hg hnb
      obtain ⟨ok3, s1, s2, F4, t1, t2⟩ := hput w3 F3 x' _ r2 r1
      exact hQ x' w3 ok3 s1 s2 ⟨F4, t1, (h2.pre (hc.trans cd)).trans (t2.pre c2)⟩
    obtain ⟨v0, Fk0, hv0, hs0, _⟩ := fin w1 (Chg.refl _ _)
    have en : nmOf r.2.1 = (r.2.1.1, laterV p.2) := by
      have := congrArg (fun x : RsV => x.2.1.2.1) hr
      simp only at this
      rw [nmOf, this]
    constructor
    · simp -implicitDefEqProofs only [wpB_some', gd_true, gd_false, gd_tf, gd_ft, gd_ut, gd_uf, gv_true, gv_false, gv_tf, gv_ft, gv_ut, gv_uf, gE_true, gE_false, gE_tf, gE_ft, gE_ut, gE_uf, gU_true, gU_false, gU_tf, gU_ft, pickv_true, pickv_false, cnd_true, cnd_false, decide_true, decide_false, Bool.not_true, Bool.not_false, pr_not, nilv_some, bp_lss, bp_leq, bp_gtr, bp_geq, be_eql, be_neq, bne_self_eq_false, beq_self_eq_true, ldC_some, Option.isNone_none, Option.isNone_some, hp_drew, fa_132_3, ld_130, hv0, fa_53_1, ld_51, k5.1, rs_h, Option.map_some]
      refine (c_mNameOf r.2.1 w1.drew).mono ?_
      rintro _ w2 ⟨rfl, c2⟩
      obtain ⟨v, Fk, hv, hsub, hf⟩ := fin w2 (cd1.trans c2)
      rw [chg_ld (cd1.trans c2) hv0] at hv
      cases hv
      have en' : (nmC (r.2.1.1, r.2.1.2.1)).toArray = #[.int .i64 r.2.1.1, .int .i64 (laterV p.2)] := by
        have := congrArg (fun x : NmV => (nmC x).toArray) en
        exact this
      simp -implicitDefEqProofs only [wpB_some', gd_true, gd_false, gd_tf, gd_ft, gd_ut, gd_uf, gv_true, gv_false, gv_tf, gv_ft, gv_ut, gv_uf, gE_true, gE_false, gE_tf, gE_ft, gE_ut, gE_uf, gU_true, gU_false, gU_tf, gU_ft, pickv_true, pickv_false, cnd_true, cnd_false, decide_true, decide_false, Bool.not_true, Bool.not_false, pr_not, nilv_some, bp_lss, bp_leq, bp_gtr, bp_geq, be_eql, be_neq, bne_self_eq_false, beq_self_eq_true, ldC_some, Option.isNone_none, Option.isNone_some, hp_drew, en', bd_144_0_1]
      refine hf fun x' w3 ok s1 s2 hx => ?_
      rw [st_130 (o := 0 + 8) s1 s2 ok]
      apply L101_1_ok
      exact ⟨rfl, hx⟩
    · simp -implicitDefEqProofs only [wpB_some', gd_true, gd_false, gd_tf, gd_ft, gd_ut, gd_uf, gv_true, gv_false, gv_tf, gv_ft, gv_ut, gv_uf, gE_true, gE_false, gE_tf, gE_ft, gE_ut, gE_uf, gU_true, gU_false, gU_tf, gU_ft, pickv_true, pickv_false, cnd_true, cnd_false, decide_true, decide_false, Bool.not_true, Bool.not_false, pr_not, nilv_some, bp_lss, bp_leq, bp_gtr, bp_geq, be_eql, be_neq, bne_self_eq_false, beq_self_eq_true, ldC_some, Option.isNone_none, Option.isNone_some, hp_drew, fa_132_3, fa_53_1, ld_51, k5.1, rs_h, Option.map_some]
      refine (c_mNameOf r.2.1 w1.drew).mono ?_
      rintro _ w2 ⟨rfl, c2⟩
      obtain ⟨v, Fk, hv, hsub, hf⟩ := fin w2 (cd1.trans c2)
      have en' : (nmC (r.2.1.1, r.2.1.2.1)).toArray = #[.int .i64 r.2.1.1, .int .i64 (laterV p.2)] := by
        have := congrArg (fun x : NmV => (nmC x).toArray) en
        exact this
      simp -implicitDefEqProofs only [wpB_some', gd_true, gd_false, gd_tf, gd_ft, gd_ut, gd_uf, gv_true, gv_false, gv_tf, gv_ft, gv_ut, gv_uf, gE_true, gE_false, gE_tf, gE_ft, gE_ut, gE_uf, gU_true, gU_false, gU_tf, gU_ft, pickv_true, pickv_false, cnd_true, cnd_false, decide_true, decide_false, Bool.not_true, Bool.not_false, pr_not, nilv_some, bp_lss, bp_leq, bp_gtr, bp_geq, be_eql, be_neq, bne_self_eq_false, beq_self_eq_true, ldC_some, Option.isNone_none, Option.isNone_some, hp_drew, en', bd_144_0_1, ld_130, hv]
      refine hf fun x' w3 ok s1 s2 hx => ?_
      rw [st_130 (o := 0 + 8) s1 s2 ok]
      apply L101_1_ok
      exact ⟨rfl, hx⟩
  · rw [if_neg hr] at cv
    simp -implicitDefEqProofs only [decide_eq_false hr, wpB_some', gd_true, gd_false, gd_tf, gd_ft, gd_ut, gd_uf, gv_true, gv_false, gv_tf, gv_ft, gv_ut, gv_uf, gE_true, gE_false, gE_tf, gE_ft, gE_ut, gE_uf, gU_true, gU_false, gU_tf, gU_ft, pickv_true, pickv_false, cnd_true, cnd_false, decide_true, decide_false, Bool.not_true, Bool.not_false, pr_not, nilv_some, bp_lss, bp_leq, bp_gtr, bp_geq, be_eql, be_neq, bne_self_eq_false, beq_self_eq_true, ldC_some, Option.isNone_none, Option.isNone_some, hp_drew]
    rw [cv]
    exact ⟨rfl, F, I, UpdP.of0 hc⟩
set_option maxHeartbeats 1000000 in
theorem c_mCreates (I : MdI w g m F) (Wm : Wf m K) (hK : K + 1 ≤ 1000000) (cls : Int) (r : RsV) :
    CallR Try.prog 101 [.pointer (some ⟨g, 0, none⟩), .int .i64 cls, .agg (rsC r).toArray] w fun v w' => v = .bool (createsV m cls r).1 ∧ ∃ F', MdI w' g (createsV m cls r).2 F' ∧ UpdP F F' w w' := by
  apply F101_ok
  have h5 : hp (w.alloc (.cells (rsC r).toArray 53)) w.heap.size = some (.cells (rsC r).toArray 53) := by rw [alloc_heap, if_pos rfl]
  have c0 : Chg [] w (w.alloc (.cells (rsC r).toArray 53)) := (Chg.refl _ _).alloc _
  simp -implicitDefEqProofs only [F101, effv_box, cells_agg]
  generalize w.alloc (.cells (rsC r).toArray 53) = w0 at *
  have hsz : w.heap.size ≤ w.heap.size := Nat.le_refl _
  generalize hg5 : w.heap.size = g5 at *
  have n5 : w.heap.size ≤ g5 := by omega
  obtain ⟨_, _, _, M⟩ := (I.keep c0).rd
  have hbe : be Try.prog .eql 53 (.tmp 9) (.tmp 10) (.agg (rsC r).toArray) (.agg #[.int .i64 7, .int .i64 0, .int .i64 0, .int .i64 0, .int .i64 0, .int .i64 0, .int .i64 0, .int .u64 0]) = some (.bool (decide (r = codeR 7))) := be_rs r (codeR 7)
  simp -implicitDefEqProofs only [ld_res h5, wpB_some', bd_53_0, hbe]
  by_cases r7 : r = codeR 7
  · have cv : createsV m cls r = (m.loose || decide (spareN m.slots = 0), m) := by rw [createsV, if_pos r7]
    simp -implicitDefEqProofs only [decide_eq_true r7, wpB_some', gd_true, gd_false, gd_tf, gd_ft, gd_ut, gd_uf, gv_true, gv_false, gv_tf, gv_ft, gv_ut, gv_uf, gE_true, gE_false, gE_tf, gE_ft, gE_ut, gE_uf, gU_true, gU_false, gU_tf, gU_ft, pickv_true, pickv_false, cnd_true, cnd_false, decide_true, decide_false, Bool.not_true, Bool.not_false, pr_not, nilv_some, bp_lss, bp_leq, bp_gtr, bp_geq, be_eql, be_neq, bne_self_eq_false, beq_self_eq_true, ldC_some, Option.isNone_none, Option.isNone_some, hp_drew, fa_132_1, ld_4, M.l]
    rw [cv]
    by_cases hlo : m.loose = true
    · simp -implicitDefEqProofs only [hlo, wpB_some', gd_true, gd_false, gd_tf, gd_ft, gd_ut, gd_uf, gv_true, gv_false, gv_tf, gv_ft, gv_ut, gv_uf, gE_true, gE_false, gE_tf, gE_ft, gE_ut, gE_uf, gU_true, gU_false, gU_tf, gU_ft, pickv_true, pickv_false, cnd_true, cnd_false, decide_true, decide_false, Bool.not_true, Bool.not_false, pr_not, nilv_some, bp_lss, bp_leq, bp_gtr, bp_geq, be_eql, be_neq, bne_self_eq_false, beq_self_eq_true, ldC_some, Option.isNone_none, Option.isNone_some, hp_drew]
      exact ⟨by simp, F, I.keep c0, UpdP.of0 c0⟩
    · have hlf : m.loose = false := by simpa using hlo
      simp -implicitDefEqProofs only [hlf, wpB_some', gd_true, gd_false, gd_tf, gd_ft, gd_ut, gd_uf, gv_true, gv_false, gv_tf, gv_ft, gv_ut, gv_uf, gE_true, gE_false, gE_tf, gE_ft, gE_ut, gE_uf, gU_true, gU_false, gU_tf, gU_ft, pickv_true, pickv_false, cnd_true, cnd_false, decide_true, decide_false, Bool.not_true, Bool.not_false, pr_not, nilv_some, bp_lss, bp_leq, bp_gtr, bp_geq, be_eql, be_neq, bne_self_eq_false, beq_self_eq_true, ldC_some, Option.isNone_none, Option.isNone_some, hp_drew]
      refine (c_mSpare M Wm.sl).mono ?_
      rintro _ w1 ⟨rfl, c1⟩
      simp -implicitDefEqProofs only [wpB_some', gd_true, gd_false, gd_tf, gd_ft, gd_ut, gd_uf, gv_true, gv_false, gv_tf, gv_ft, gv_ut, gv_uf, gE_true, gE_false, gE_tf, gE_ft, gE_ut, gE_uf, gU_true, gU_false, gU_tf, gU_ft, pickv_true, pickv_false, cnd_true, cnd_false, decide_true, decide_false, Bool.not_true, Bool.not_false, pr_not, nilv_some, bp_lss, bp_leq, bp_gtr, bp_geq, be_eql, be_neq, bne_self_eq_false, beq_self_eq_true, ldC_some, Option.isNone_none, Option.isNone_some, hp_drew]
      refine ⟨?_, F, I.keep (c0.trans c1), UpdP.of0 (c0.trans c1)⟩
      by_cases hz : spareN m.slots = 0
      · rw [hz]; rfl
      · rw [eqf (show (spareN m.slots : Int) ≠ 0 by omega), decide_eq_false hz]; rfl
  · have cd : Chg [] w0 w0.drew := (Chg.refl _ _).drew
    have cvn : ¬ (0 ≤ r.2.1.1 ∧ r.2.1.1 < m.slots.length) → createsV m cls r = (false, m) := fun h => by rw [createsV, if_neg r7, if_neg h]
    have I1 := I.keep (c0.trans cd)
    have MD := M.keep cd
    simp -implicitDefEqProofs only [decide_eq_false r7, wpB_some', gd_true, gd_false, gd_tf, gd_ft, gd_ut, gd_uf, gv_true, gv_false, gv_tf, gv_ft, gv_ut, gv_uf, gE_true, gE_false, gE_tf, gE_ft, gE_ut, gE_uf, gU_true, gU_false, gU_tf, gU_ft, pickv_true, pickv_false, cnd_true, cnd_false, decide_true, decide_false, Bool.not_true, Bool.not_false, pr_not, nilv_some, bp_lss, bp_leq, bp_gtr, bp_geq, be_eql, be_neq, bne_self_eq_false, beq_self_eq_true, ldC_some, Option.isNone_none, Option.isNone_some, hp_drew, fa_53_1, fa_51_0, ld_3, h5, rs_1]
    refine (c_mSlot MD r.2.1.1).step ?_
    by_cases hs : 0 ≤ r.2.1.1 ∧ r.2.1.1 < m.slots.length
    · obtain ⟨p, hp'⟩ : ∃ p, m.slots[r.2.1.1.toNat]? = some p := ⟨_, List.getElem?_eq_getElem (by omega)⟩
      obtain ⟨A, c, hsl, hR⟩ := slots_sh MD.sT
      obtain ⟨b, o, q1, q2, q3⟩ := slot_at (c := c) hR hp'
      have hcast : ((r.2.1.1.toNat : Nat) : Int) = r.2.1.1 := by omega
      rw [hcast] at q1
      have l7 := MD.sl
      rw [hsl] at l7
      have l7' : ldC (hp w0 g) (0 + 7) = some (.slice A m.slots.length c) := l7
      have q2' : ldC (hp w0 b) (o + 0) = some (.int .i64 p.1) := q2
      have q3' : ldC (hp w0 b) (o + 1) = some (.int .i64 p.2) := q3
      by_cases p0 : p.1 = 0
      · have pg := Wm.sg p (List.mem_of_getElem? hp')
        have e0 : (p.1 != 0) = false := by rw [p0]; rfl
        have fin : ∀ x, laterV p.2 = x → P101_0 (.pointer (some ⟨g, 0, none⟩)) (.int .i64 cls) (.pointer (some ⟨g5, 0, none⟩)) (.int .i64 x) w0.drew.drew fun v w' => v = .bool (createsV m cls r).1 ∧ ∃ F', MdI w' g (createsV m cls r).2 F' ∧ UpdP F F' w w' := by
          rintro x rfl
          exact l_creates0 (c0.drew.drew) I Wm hK n5 (show hp w0.drew.drew g5 = _ from h5) r7 hs hp' p0
        by_cases hlt : p.2 < 4294967295
        · have f := fin (p.2 + 1) (by rw [laterV, if_pos hlt])
          simp -implicitDefEqProofs only [wpB_some', gd_true, gd_false, gd_tf, gd_ft, gd_ut, gd_uf, gv_true, gv_false, gv_tf, gv_ft, gv_ut, gv_uf, gE_true, gE_false, gE_tf, gE_ft, gE_ut, gE_uf, gU_true, gU_false, gU_tf, gU_ft, pickv_true, pickv_false, cnd_true, cnd_false, decide_true, decide_false, Bool.not_true, Bool.not_false, pr_not, nilv_some, bp_lss, bp_leq, bp_gtr, bp_geq, be_eql, be_neq, bne_self_eq_false, beq_self_eq_true, ldC_some, Option.isNone_none, Option.isNone_some, hp_drew, hs, and_self, decide_true, fa_132_2, ld_128, l7', fa_53_1, fa_51_0, ld_3, h5, rs_1, q1, fa_150_0, fa_150_1, q2', q3', e0, hlt, bp_add, wrapi (n := p.2 + 1) (by omega) (by omega)]
          exact f
        · have f := fin 0 (by rw [laterV, if_neg hlt])
          simp -implicitDefEqProofs only [wpB_some', gd_true, gd_false, gd_tf, gd_ft, gd_ut, gd_uf, gv_true, gv_false, gv_tf, gv_ft, gv_ut, gv_uf, gE_true, gE_false, gE_tf, gE_ft, gE_ut, gE_uf, gU_true, gU_false, gU_tf, gU_ft, pickv_true, pickv_false, cnd_true, cnd_false, decide_true, decide_false, Bool.not_true, Bool.not_false, pr_not, nilv_some, bp_lss, bp_leq, bp_gtr, bp_geq, be_eql, be_neq, bne_self_eq_false, beq_self_eq_true, ldC_some, Option.isNone_none, Option.isNone_some, hp_drew, hs, and_self, decide_true, fa_132_2, ld_128, l7', fa_53_1, fa_51_0, ld_3, h5, rs_1, q1, fa_150_0, fa_150_1, q2', q3', e0, hlt]
          exact f
      · have e0 : (p.1 != 0) = true := bne_iff_ne.2 p0
        have cv : createsV m cls r = (false, m) := by
          rw [createsV, if_neg r7, if_pos hs, hp']
          simp only [ne_eq, p0, not_false_eq_true, if_true]
        simp -implicitDefEqProofs only [wpB_some', gd_true, gd_false, gd_tf, gd_ft, gd_ut, gd_uf, gv_true, gv_false, gv_tf, gv_ft, gv_ut, gv_uf, gE_true, gE_false, gE_tf, gE_ft, gE_ut, gE_uf, gU_true, gU_false, gU_tf, gU_ft, pickv_true, pickv_false, cnd_true, cnd_false, decide_true, decide_false, Bool.not_true, Bool.not_false, pr_not, nilv_some, bp_lss, bp_leq, bp_gtr, bp_geq, be_eql, be_neq, bne_self_eq_false, beq_self_eq_true, ldC_some, Option.isNone_none, Option.isNone_some, hp_drew, hs, and_self, decide_true, fa_132_2, ld_128, l7', fa_53_1, fa_51_0, ld_3, h5, rs_1, q1, fa_150_0, q2', e0]
        rw [cv]
        exact ⟨by first | rfl | trivial, F, I1, UpdP.of0 (c0.trans cd)⟩
    · simp -implicitDefEqProofs only [wpB_some', gd_true, gd_false, gd_tf, gd_ft, gd_ut, gd_uf, gv_true, gv_false, gv_tf, gv_ft, gv_ut, gv_uf, gE_true, gE_false, gE_tf, gE_ft, gE_ut, gE_uf, gU_true, gU_false, gU_tf, gU_ft, pickv_true, pickv_false, cnd_true, cnd_false, decide_true, decide_false, Bool.not_true, Bool.not_false, pr_not, nilv_some, bp_lss, bp_leq, bp_gtr, bp_geq, be_eql, be_neq, bne_self_eq_false, beq_self_eq_true, ldC_some, Option.isNone_none, Option.isNone_some, hp_drew, hs, decide_false]
      rw [cvn hs]
      exact ⟨by first | rfl | trivial, F, I1, UpdP.of0 (c0.trans cd)⟩
end
end Go.Proofs.Ytgamnncehjcdiaa

namespace Go.Proofs.Ytgamnncehjcdiaa
open Go Ev Go.RowKit
set_option linter.unusedSimpArgs false
set_option linter.unusedVariables false
set_option maxRecDepth 10000

section
variable {W w : World} {g g7 g11 b c i : Nat} {m : MdV} {F F0 : Fp} {K : Nat} {r : RsV} {x : RgV} {want : HnV} {need : Int}
theorem ld_hn {h : HnV} {g : Nat} {e : TypeId} (hb : hp w g = some (.cells (hnC h).toArray e)) : ldv Try.prog 51 (.pointer (some ⟨g, 0, none⟩)) w = some (.agg (hnC h).toArray) := ldv_whole (t := 51) (c := (hnC h).toArray) ag_51 (show (Try.prog.info? 51).map (·.size) = some (hnC h).toArray.size from sz_51) hb
theorem set_rg {i : Nat} {x y : RgV} (m : MdV) : { ({ m with rgs := m.rgs.set i x } : MdV) with rgs := ({ m with rgs := m.rgs.set i x } : MdV).rgs.set i y } = { m with rgs := m.rgs.set i y } := by simp [List.set_set]
theorem at_set {i : Nat} {x y : RgV} (hi : m.rgs[i]? = some x) : ({ m with rgs := m.rgs.set i y } : MdV).rgs[i]? = some y := by
  show (m.rgs.set i y)[i]? = _
  rw [List.getElem?_set, if_pos rfl, if_pos (List.getElem?_eq_some_iff.1 hi).1]
theorem own_alloc_u64s (n : Nat) (hn : n ≤ maxLen) : wordT (List.replicate n 0) (w.alloc (.cells (u64s (List.replicate n 0)).toArray 38)) (fun b => b = w.heap.size) (.slice (some ⟨w.heap.size, 0, none⟩) n n) := by
  have h : (w.alloc (.cells (u64s (List.replicate n 0)).toArray 38)).ownsRow 0 38 1 (.slice (some ⟨w.heap.size, 0, none⟩) n n) n (u64s (List.replicate n 0)) :=
    ⟨by simp [u64s], .inr ⟨w.heap.size, n, _, rfl, Nat.zero_le _, heap_alloc_new w _, Nat.le_refl _, hn, by simp [u64s], by simp [u64s]⟩⟩
  have h2 := own_flat h
  have e : (fun b => (Value.slice (some ⟨w.heap.size, 0, none⟩) n n).ownBlock = some b) = (fun b => b = w.heap.size) := by
    funext b
    simp [Value.ownBlock, eq_comm]
  rw [e] at h2
  rw [wordT, List.length_replicate]
  exact h2
set_option maxHeartbeats 1000000 in
theorem l_gives1 (U : UpdP F0 F W w) (I : MdI w g m F) (hb : ldC (hp w g) (0 + 8) = some (.slice (some ⟨b, 0, none⟩) m.rgs.length c)) (hi : m.rgs[i]? = some x) (hol : x.objs.length ≤ 1000000) (h11 : hp w g11 = some (.cells (hnC want).toArray 51)) :
    P102_1 (.pointer (some ⟨b, i * 7, none⟩)) (.pointer (some ⟨g11, 0, none⟩)) w fun v w' => v = .bool true ∧ ∃ F', MdI w' g { m with rgs := m.rgs.set i { x with objs := x.objs ++ [want] } } F' ∧ UpdP F0 F' W w' := by
  apply L102_1_ok
  have cd : Chg [] w w.drew := (Chg.refl _ _).drew
  obtain ⟨v, Fk, hsub, hFb, hnb, hld, hv, hput⟩ := (I.keep cd).rgPut (hb := chg_ld cd hb) hi (k := 6) (by omega) (P := objsT x.objs) rfl
  have h11d : hp w.drew g11 = some (.cells (hnC want).toArray 51) := h11
  simp -implicitDefEqProofs only [L102_1, wpB_some', gd_true, gd_false, gd_tf, gd_ft, gd_ut, gd_uf, gv_true, gv_false, gv_tf, gv_ft, gv_ut, gv_uf, gE_true, gE_false, gE_tf, gE_ft, gE_ut, gE_uf, gU_true, gU_false, gU_tf, gU_ft, pickv_true, pickv_false, cnd_true, cnd_false, decide_true, decide_false, Bool.not_true, Bool.not_false, pr_not, nilv_some, bp_lss, bp_leq, bp_gtr, bp_geq, be_eql, be_neq, bne_self_eq_false, beq_self_eq_true, ldC_some, Option.isNone_none, Option.isNone_some, hp_drew, fa_144_5, ld_90, show ldC (hp w b) (i * 7 + 6) = _ from hld, ld_hn h11d]
  obtain ⟨hown, _⟩ := flat_own hv
  refine ps_90 (fun u hu => by simp only [List.mem_cons, List.not_mem_nil, or_false] at hu; rcases hu with rfl | rfl | rfl | rfl | rfl <;> rfl) hown (by omega) (Nat.zero_le _) fun x' w2 ho hg hnb => ?_
  obtain ⟨F2, hr2, hu2⟩ := flat_grown (vs := hnC want) hv ho hg hnb
  have hr2' : objsT (x.objs ++ [want]) w2 F2 x' := by
    rw [objsT, List.length_append]
    have e : (x.objs ++ [want]).flatMap hnC = x.objs.flatMap hnC ++ hnC want := by simp
    rw [e]; exact hr2
  obtain ⟨ok, s1, s2, _, F3, t1, t2⟩ := hput w2 F2 (objsT (x.objs ++ [want])) x' { x with objs := x.objs ++ [want] } hu2 (good_objs _) hr2' rfl
  rw [st_90 (o := i * 7 + 6) s1 s2 ok]
  exact ⟨by first | rfl | trivial, F3, t1, U.trans (t2.pre cd)⟩
set_option maxHeartbeats 2000000 in
theorem l_gives0 (U : UpdP F0 F W w) (I : MdI w g m F) (Wm : Wf m K) (hK : K + 1 ≤ 1000000) (hb : ldC (hp w g) (0 + 8) = some (.slice (some ⟨b, 0, none⟩) m.rgs.length c)) (hi : m.rgs[i]? = some x) (hol : x.objs.length ≤ 1000000)
    (h7 : hp w g7 = some (.cells (rsC r).toArray 53)) (h11 : hp w g11 = some (.cells (hnC want).toArray 51)) (n11 : ¬ F g11) :
    P102_0 (.pointer (some ⟨g, 0, none⟩)) (.pointer (some ⟨g7, 0, none⟩)) (.pointer (some ⟨b, i * 7, none⟩)) (.int .i64 need) (.pointer (some ⟨g11, 0, none⟩)) (.bool (rfitsV x m.c.2.2.1 need)) w fun v w' =>
      v = .bool (if r = (0, want, 0, 0) then true else false) ∧ ∃ F', MdI w' g (if r = (0, want, 0, 0) then { m with rgs := m.rgs.set i (growV m.c.2.2.1 need x want) } else m) F' ∧ UpdP F0 F' W w' := by
  apply L102_0_ok
  have hbe : be Try.prog .neq 53 (.tmp 74) (.tmp 76) (.agg (rsC r).toArray) (.agg (rsC (0, want, 0, 0)).toArray) = some (.bool (!decide (r = (0, want, 0, 0)))) := be_nrs r (0, want, 0, 0)
  have hbd : pureRun Try.prog (Instr.build 53 #[(1, .agg (hnC want).toArray)]) = some (.agg (rsC (0, want, 0, 0)).toArray) := bd_53_1
  have W1 := Wm.w1
  have W2 := Wm.w2
  have R := Wm.rg x (List.mem_of_getElem? hi)
  simp -implicitDefEqProofs only [L102_0, ld_res h7, ld_hn h11, hbd, hbe, wpB_some']
  by_cases hr : r = (0, want, 0, 0)
  · rw [if_pos hr, if_pos hr]
    cases hf : rfitsV x m.c.2.2.1 need with
    | true =>
      obtain ⟨f1, f2, f3, f4⟩ := fits_need hf
      obtain ⟨v, Fk, hsub, hFb, hnb, hld, hv, hput⟩ := I.rgPut (hb := hb) hi (k := 3) (by omega) (P := iT x.off) rfl
      rw [hv.1] at hld
      obtain ⟨ok, s1, s2, hb1, F1, t1, t2⟩ := hput w none' (iT (x.off + need)) (.int .i64 (x.off + need)) { x with off := x.off + need } (UpdP.none hv.2 w) (good_int _ _) ⟨rfl, fun _ h => h⟩ rfl
      simp -implicitDefEqProofs only [decide_eq_true hr, wpB_some', gd_true, gd_false, gd_tf, gd_ft, gd_ut, gd_uf, gv_true, gv_false, gv_tf, gv_ft, gv_ut, gv_uf, gE_true, gE_false, gE_tf, gE_ft, gE_ut, gE_uf, gU_true, gU_false, gU_tf, gU_ft, pickv_true, pickv_false, cnd_true, cnd_false, decide_true, decide_false, Bool.not_true, Bool.not_false, pr_not, nilv_some, bp_lss, bp_leq, bp_gtr, bp_geq, be_eql, be_neq, bne_self_eq_false, beq_self_eq_true, ldC_some, Option.isNone_none, Option.isNone_some, hp_drew, fa_144_2, ld_3, hld, bp_add, wrapi (n := x.off + need) (by omega) (by omega)]
      rw [st_3 (o := i * 7 + 3) s1 s2 ok]
      have k11 := t2.keep h11 n11
      have hln : ({ m with rgs := m.rgs.set i { x with off := x.off + need } } : MdV).rgs.length = m.rgs.length := by simp
      have := l_gives1 (U.trans t2) t1 (hb := by rw [hln]; exact hb1) (at_set hi) hol k11.1
      rw [set_rg] at this
      have eg : growV m.c.2.2.1 need x want = { x with off := x.off + need, objs := x.objs ++ [want] } := by rw [growV, hf]; rfl
      rw [eg]
      exact this
    | false =>
      have cd : Chg [] w w.drew := (Chg.refl _ _).drew
      obtain ⟨v, Fk, hsub, hFb, hnb, hld, hv, hput⟩ := (I.keep cd).rgPut (hb := chg_ld cd hb) hi (k := 4) (by omega) (P := intsT x.chunks) rfl
      have h11d : hp w.drew g11 = some (.cells (hnC want).toArray 51) := h11
      have e2 : (hnC want).toArray[0 + 2]? = some (.int .i64 want.2.2.1) := rfl
      simp -implicitDefEqProofs only [decide_eq_true hr, wpB_some', gd_true, gd_false, gd_tf, gd_ft, gd_ut, gd_uf, gv_true, gv_false, gv_tf, gv_ft, gv_ut, gv_uf, gE_true, gE_false, gE_tf, gE_ft, gE_ut, gE_uf, gU_true, gU_false, gU_tf, gU_ft, pickv_true, pickv_false, cnd_true, cnd_false, decide_true, decide_false, Bool.not_true, Bool.not_false, pr_not, nilv_some, bp_lss, bp_leq, bp_gtr, bp_geq, be_eql, be_neq, bne_self_eq_false, beq_self_eq_true, ldC_some, Option.isNone_none, Option.isNone_some, hp_drew, fa_144_3, fa_51_2, ld_23, ld_3, show ldC (hp w b) (i * 7 + 4) = _ from hld, h11, e2]
      obtain ⟨hown, _⟩ := flat_own hv
      have hcl := R.cl
      refine ps_23 (fun u hu => by simp only [List.mem_cons, List.not_mem_nil, or_false] at hu; rcases hu with rfl; rfl) hown (by omega) (Nat.zero_le _) fun x1 w2 ho hg hnb => ?_
      obtain ⟨F2, hr2, hu2⟩ := flat_grown (vs := [Value.int .i64 want.2.2.1]) hv ho hg hnb
      have hr2' : intsT (x.chunks ++ [want.2.2.1]) w2 F2 x1 := by
        rw [intsT, List.length_append]
        have e : ints (x.chunks ++ [want.2.2.1]) = ints x.chunks ++ [Value.int .i64 want.2.2.1] := by simp [ints]
        rw [e]; exact hr2
      obtain ⟨ok, s1, s2, hb1, F3, t1, t2⟩ := hput w2 F2 (intsT (x.chunks ++ [want.2.2.1])) x1 { x with chunks := x.chunks ++ [want.2.2.1] } hu2 (good_intsT _) hr2' rfl
      rw [st_23 (o := i * 7 + 4) s1 s2 ok]
      have k11 := t2.keep h11d n11
      have U1 := U.trans (t2.pre cd)
      generalize put w2 b _ _ = w3 at *
      generalize hx1 : ({ x with chunks := x.chunks ++ [want.2.2.1] } : RgV) = y1 at *
      have hi1 := at_set (m := m) (y := y1) hi
      have hln1 : ({ m with rgs := m.rgs.set i y1 } : MdV).rgs.length = m.rgs.length := by simp
      generalize hm1 : ({ m with rgs := m.rgs.set i y1 } : MdV) = m1 at *
      have hc1 : m1.c = m.c := by rw [← hm1]
      -- the words
      have cd3 : Chg [] w3 w3.drew := (Chg.refl _ _).drew
      obtain ⟨v5, Fk5, hsub5, _, _, hld5, hv5, hput5⟩ := (t1.keep cd3).rgPut (hb := chg_ld cd3 hb1) hi1 (k := 5) (by omega) (P := wordsT y1.words) rfl
      obtain ⟨_, _, _, M3⟩ := t1.rd
      have hw2 : ldC (hp w3 g) (0 + 0 + 2) = some (.int .i64 ((m.c.2.2.1.toNat : Nat) : Int)) := by
        have := M3.c 2 (by omega)
        rw [hc1] at this
        rw [show ((m.c.2.2.1.toNat : Nat) : Int) = m.c.2.2.1 by omega]
        exact this
      obtain ⟨iu, hiu, hzu, hsu, hbu⟩ := inf_38
      generalize hn : m.c.2.2.1.toNat = n at *
      have hn' : (n : Int) = m.c.2.2.1 := by omega
      simp -implicitDefEqProofs only [wpB_some', gd_true, gd_false, gd_tf, gd_ft, gd_ut, gd_uf, gv_true, gv_false, gv_tf, gv_ft, gv_ut, gv_uf, gE_true, gE_false, gE_tf, gE_ft, gE_ut, gE_uf, gU_true, gU_false, gU_tf, gU_ft, pickv_true, pickv_false, cnd_true, cnd_false, decide_true, decide_false, Bool.not_true, Bool.not_false, pr_not, nilv_some, bp_lss, bp_leq, bp_gtr, bp_geq, be_eql, be_neq, bne_self_eq_false, beq_self_eq_true, ldC_some, Option.isNone_none, Option.isNone_some, hp_drew, fa_144_4, fa_132_0, fa_74_2, ld_142, ld_3, show ldC (hp w3 b) (i * 7 + 5) = _ from hld5, hw2, effv_make (P := Try.prog) (kl := .i64) (kc := .i64) (n := n) Try.underlying177 hiu hzu (by rw [hsu]; omega) (by rw [hbu]; omega) (by omega)]
      have hmc : madeCells (Value.int .u64 0).cells (n * iu.size) = (u64s (List.replicate n 0)).toArray := by
        apply Array.toList_inj.1
        rw [hsu, Nat.mul_one]
        have := toList_madeCells_one (Value.int .u64 0) n
        rw [u64s, List.map_replicate]
        exact this
      rw [hmc]
      have n3 : w3.drew.heap.size = w3.heap.size := rfl
      have ob := own_alloc_u64s (w := w3.drew) n (by unfold maxLen; omega)
      generalize hwA : w3.drew.alloc (.cells (u64s (List.replicate n 0)).toArray 38) = wA at *
      have cA : Chg [] w3.drew wA := by rw [← hwA]; exact (Chg.refl _ _).alloc _
      have sA : wA.heap.size = w3.heap.size + 1 := by rw [← hwA, alloc_size, n3]
      have hv5A := (good_words y1.words).frame hv5 (ChgP.of0 cA none') (fun _ _ h => h)
      obtain ⟨xs, Fs, q1, q2, q3, q4⟩ := hv5A
      have hyw : y1.words.length ≤ 1000000 := by rw [← hx1]; have := R.wl; simp only; omega
      refine ps_142 (fun u hu => by simp only [List.mem_cons, List.not_mem_nil, or_false] at hu; rcases hu with rfl; rfl) q1 (by omega) (Nat.zero_le _) fun x2 w4 ho2 hg2 hnb2 => ?_
      have hy : Parts wA [wordT (List.replicate n 0)] [.slice (some ⟨w3.drew.heap.size, 0, none⟩) n n] (fun _ => fun b => b = w3.drew.heap.size) := ⟨rfl, fun k P v hP hv => by
        have hk := (List.getElem?_eq_some_iff.1 hP).1
        have : k = 0 := by simp at hk; omega
        subst this
        cases hP; cases hv
        exact ob, fun j k hj hk hjk => by simp at hj hk; omega⟩
      have hF5 : ∀ k, Fk5 k → k < w3.heap.size := fun k hk => isAt.lt (t1.keep cd3) (good_md m1) k (hsub5 k hk)
      obtain ⟨F5, g1, g2, _⟩ := isRow.grow (G := fun b => b = w3.drew.heap.size) (m := 1) ⟨xs, Fs, q1, q2, q3, q4⟩ (fun P hP => by obtain ⟨l, _, rfl⟩ := List.mem_map.1 hP; exact good_word l) (fun P hP => by rw [List.mem_singleton.1 hP]; exact good_word _) hy
        (fun b => ⟨fun h => ⟨0, by simp, h⟩, fun ⟨_, _, h⟩ => h⟩) (fun k hk hk2 => by have := hF5 k hk; omega) (fun xs' h' => by rw [own_unique h' q1]; exact ho2) hg2 hnb2
      have hu5 : UpdP Fk5 F5 w3.drew w4 := by
        refine ⟨⟨g2.chg.os.trans cA.os, g2.chg.tape.trans cA.tape, g2.chg.output.trans cA.output, by have := g2.chg.size; omega, fun k hk hn => ?_⟩, fun k hk => ?_⟩
        · rw [g2.chg.block k (by omega) (fun h => by rcases h with h | h; exact hn h; omega)]
          exact cA.block k hk (by simp)
        · rcases g2.sub k hk with h | h
          · rcases h with h | h
            · exact .inl h
            · exact .inr (by omega)
          · exact .inr (by omega)
      have g1' : wordsT (y1.words ++ [List.replicate n 0]) w4 F5 x2 := by
        rw [wordsT, List.length_append, List.map_append]; exact g1
      obtain ⟨ok5, s51, s52, hb5, F6, t51, t52⟩ := hput5 w4 F5 (wordsT (y1.words ++ [List.replicate n 0])) x2 { y1 with words := y1.words ++ [List.replicate n 0] } hu5 (good_words _) g1' rfl
      rw [st_142 (o := i * 7 + 5) s51 s52 ok5]
      have k113 := t52.keep (show hp w3.drew g11 = _ from k11.1) k11.2
      have U2 := U1.trans (t52.pre cd3)
      have em2 : ({ m1 with rgs := m1.rgs.set i { y1 with words := y1.words ++ [List.replicate n 0] } } : MdV) = { m with rgs := m.rgs.set i { y1 with words := y1.words ++ [List.replicate n 0] } } := by rw [← hm1]; exact set_rg m
      rw [em2] at t51
      generalize put w4 b _ _ = w5 at *
      generalize hy2 : ({ y1 with words := y1.words ++ [List.replicate n 0] } : RgV) = y2 at *
      have hi2 := at_set (m := m) (y := y2) hi
      -- how much is given away
      obtain ⟨_, _, _, M5⟩ := t51.rd
      have hw5 : ldC (hp w5 g) (0 + 0 + 2) = some (.int .i64 m.c.2.2.1) := M5.c 2 (by omega)
      simp -implicitDefEqProofs only [wpB_some', gd_true, gd_false, gd_tf, gd_ft, gd_ut, gd_uf, gv_true, gv_false, gv_tf, gv_ft, gv_ut, gv_uf, gE_true, gE_false, gE_tf, gE_ft, gE_ut, gE_uf, gU_true, gU_false, gU_tf, gU_ft, pickv_true, pickv_false, cnd_true, cnd_false, decide_true, decide_false, Bool.not_true, Bool.not_false, pr_not, nilv_some, bp_lss, bp_leq, bp_gtr, bp_geq, be_eql, be_neq, bne_self_eq_false, beq_self_eq_true, ldC_some, Option.isNone_none, Option.isNone_some, hp_drew, fa_132_0, fa_74_2, ld_3, hw5]
      refine (c_sAfter m.c.2.2.1 need w5).step ?_
      obtain ⟨v3, Fk3, hsub3, _, _, hld3, hv3, hput3⟩ := t51.rgPut (hb := hb5) hi2 (k := 3) (by omega) (P := iT y2.off) rfl
      obtain ⟨ok3, s31, s32, hb3, F7, t31, t32⟩ := hput3 w5 none' (iT (afterV m.c.2.2.1 need)) (.int .i64 (afterV m.c.2.2.1 need)) { y2 with off := afterV m.c.2.2.1 need } (UpdP.none hv3.2 w5) (good_int _ _) ⟨rfl, fun _ h => h⟩ rfl
      simp -implicitDefEqProofs only [wpB_some', gd_true, gd_false, gd_tf, gd_ft, gd_ut, gd_uf, gv_true, gv_false, gv_tf, gv_ft, gv_ut, gv_uf, gE_true, gE_false, gE_tf, gE_ft, gE_ut, gE_uf, gU_true, gU_false, gU_tf, gU_ft, pickv_true, pickv_false, cnd_true, cnd_false, decide_true, decide_false, Bool.not_true, Bool.not_false, pr_not, nilv_some, bp_lss, bp_leq, bp_gtr, bp_geq, be_eql, be_neq, bne_self_eq_false, beq_self_eq_true, ldC_some, Option.isNone_none, Option.isNone_some, hp_drew, fa_144_2]
      rw [st_3 (o := i * 7 + 3) s31 s32 ok3]
      have k114 := t32.keep k113.1 k113.2
      rw [set_rg] at t31
      have hi3 := at_set (m := m) (y := { y2 with off := afterV m.c.2.2.1 need }) hi
      have hol3 : ({ y2 with off := afterV m.c.2.2.1 need } : RgV).objs.length ≤ 1000000 := by rw [← hy2, ← hx1]; exact hol
      have := l_gives1 (U2.trans t32) t31 (hb := by
        have hln : ({ m with rgs := m.rgs.set i { y2 with off := afterV m.c.2.2.1 need } } : MdV).rgs.length = m.rgs.length := by simp
        rw [hln]; exact hb3) hi3 hol3 k114.1
      rw [set_rg] at this
      have eg : growV m.c.2.2.1 need x want = { ({ y2 with off := afterV m.c.2.2.1 need } : RgV) with objs := ({ y2 with off := afterV m.c.2.2.1 need } : RgV).objs ++ [want] } := by
        rw [growV, hf, ← hy2, ← hx1, hn]; rfl
      rw [eg]
      exact this
  · rw [if_neg hr, if_neg hr]
    simp -implicitDefEqProofs only [decide_eq_false hr, wpB_some', gd_true, gd_false, gd_tf, gd_ft, gd_ut, gd_uf, gv_true, gv_false, gv_tf, gv_ft, gv_ut, gv_uf, gE_true, gE_false, gE_tf, gE_ft, gE_ut, gE_uf, gU_true, gU_false, gU_tf, gU_ft, pickv_true, pickv_false, cnd_true, cnd_false, decide_true, decide_false, Bool.not_true, Bool.not_false, pr_not, nilv_some, bp_lss, bp_leq, bp_gtr, bp_geq, be_eql, be_neq, bne_self_eq_false, beq_self_eq_true, ldC_some, Option.isNone_none, Option.isNone_some, hp_drew]
    exact ⟨by first | rfl | trivial, F, I, U⟩
end
end Go.Proofs.Ytgamnncehjcdiaa

namespace Go.Proofs.Ytgamnncehjcdiaa
open Go Ev Go.RowKit
set_option linter.unusedSimpArgs false
set_option linter.unusedVariables false
set_option maxRecDepth 10000

section
variable {w : World} {g : Nat} {m : MdV} {F : Fp} {K : Nat}
set_option maxHeartbeats 2000000 in
theorem c_mGives (I : MdI w g m F) (Wm : Wf m K) (hK : K + 1 ≤ 1000000) (n : Int) (h : HnV) (r : RsV) {i : Nat} (hf : findR m.rgs (nmOf h) = some i) :
    CallR Try.prog 102 [.pointer (some ⟨g, 0, none⟩), .int .i64 n, .agg (hnC h).toArray, .agg (rsC r).toArray] w fun v w' => v = .bool (givesV m n h r).1 ∧ ∃ F', MdI w' g (givesV m n h r).2 F' ∧ UpdP F F' w w' := by
  apply F102_ok
  obtain ⟨x, hi, hnm⟩ := findR_at hf
  have R := Wm.rg x (List.mem_of_getElem? hi)
  have W1 := Wm.w1
  have W2 := Wm.w2
  have gv : givesV m n h r = if rfitsV x m.c.2.2.1 (roundV x.cls n) = false ∧ r = codeR 6 then (true, m)
      else if rfitsV x m.c.2.2.1 (roundV x.cls n) = false ∧ (r.2.1.2.2.1 < 0 ∨ m.c.2.1 ≤ r.2.1.2.2.1 ∨ takenV m r.2.1.2.2.1 = true) then (false, m)
      else if r = (0, wantV m.c.2.2.1 (roundV x.cls n) n x h r.2.1.2.2.1, 0, 0) then (true, { m with rgs := m.rgs.set i (growV m.c.2.2.1 (roundV x.cls n) x (wantV m.c.2.2.1 (roundV x.cls n) n x h r.2.1.2.2.1)) })
      else (false, m) := by
    rw [givesV, hf]; simp only [hi]
  simp -implicitDefEqProofs only [F102, effv_box, cells_agg, alloc_size]
  generalize hw : (w.alloc (.cells (hnC h).toArray 51)).alloc _ = w1
  have c1 : Chg [] w w1 := by rw [← hw]; exact ((Chg.refl _ _).alloc _).alloc _
  have a6 : hp w1 w.heap.size = some (.cells (hnC h).toArray 51) := by rw [← hw, alloc_heap, alloc_size, if_neg (by omega), alloc_heap, if_pos rfl]
  have a7 : hp w1 (w.heap.size + 1) = some (.cells (rsC r).toArray 53) := by rw [← hw, alloc_heap, alloc_size, if_pos rfl]
  clear hw
  obtain ⟨_, _, _, M⟩ := I.rd
  simp -implicitDefEqProofs only [ld_hn a6, wpB_some']
  refine (c_mNameOf h w1).mono ?_
  rintro _ w2 ⟨rfl, c2⟩
  have c02 := c1.trans c2
  refine (c_mRegion (M.keep c02) (h.1, h.2.1) (Nat.le_trans Wm.rl (by omega))).mono ?_
  rintro v w3 ⟨c3, hv⟩
  have c03 := c02.trans c3
  have hf' : findR m.rgs (h.1, h.2.1) = some i := hf
  rw [hf'] at hv
  rcases hv with ⟨hv, _⟩ | ⟨i', rg, b, c, hi', hrg, hrow, rfl⟩
  · cases hv
  cases hi'
  rw [hi] at hrg
  cases hrg
  have hb3 : ∀ w', Chg [] w w' → ldC (hp w' g) (0 + 8) = some (.slice (some ⟨b, 0, none⟩) m.rgs.length c) := fun w' k => by
    rw [← hrow]; exact (M.keep k).rl
  obtain ⟨G, hG⟩ := (M.keep c03).rT
  obtain ⟨b', c', hx, cv, wv, ov, R3⟩ := rg_at hG hi
  rw [hrow] at hx
  cases hx
  have k2 := c2.trans c3
  have f6 := k2.at a6 (by simp)
  have f7 := k2.at a7 (by simp)
  simp -implicitDefEqProofs only [wpB_some', gd_true, gd_false, gd_tf, gd_ft, gd_ut, gd_uf, gv_true, gv_false, gv_tf, gv_ft, gv_ut, gv_uf, gE_true, gE_false, gE_tf, gE_ft, gE_ut, gE_uf, gU_true, gU_false, gU_tf, gU_ft, pickv_true, pickv_false, cnd_true, cnd_false, decide_true, decide_false, Bool.not_true, Bool.not_false, pr_not, nilv_some, bp_lss, bp_leq, bp_gtr, bp_geq, be_eql, be_neq, bne_self_eq_false, beq_self_eq_true, ldC_some, Option.isNone_none, Option.isNone_some, hp_drew, fa_144_1, ld_3, R3.c2]
  refine (c_sRound x.cls n w3).step ?_
  have e0 : (hnC h).toArray[0 + 0]? = some (.int .i64 h.1) := rfl
  have e1 : (hnC h).toArray[0 + 1]? = some (.int .i64 h.2.1) := rfl
  simp -implicitDefEqProofs only [wpB_some', gd_true, gd_false, gd_tf, gd_ft, gd_ut, gd_uf, gv_true, gv_false, gv_tf, gv_ft, gv_ut, gv_uf, gE_true, gE_false, gE_tf, gE_ft, gE_ut, gE_uf, gU_true, gU_false, gU_tf, gU_ft, pickv_true, pickv_false, cnd_true, cnd_false, decide_true, decide_false, Bool.not_true, Bool.not_false, pr_not, nilv_some, bp_lss, bp_leq, bp_gtr, bp_geq, be_eql, be_neq, bne_self_eq_false, beq_self_eq_true, ldC_some, Option.isNone_none, Option.isNone_some, hp_drew, fa_51_0, fa_51_1, fa_51_2, fa_53_1, ld_3, f6, f7, e0, e1, rs_3, bd_51_0_1_2_4, al_51]
  rw [st_51 (by rfl) (by rfl) (by rw [alloc_heap, if_pos rfl]; rfl) (by rw [alloc_heap, if_pos rfl]; rfl), alloc_heap, if_pos rfl, getE_some]
  generalize hw4 : put (w3.alloc _) w3.heap.size _ _ = w4
  have c4 : Chg [] w3 w4 := by rw [← hw4]; exact ((Chg.refl _ _).alloc _).put (.inr (Nat.le_refl _)) _ _
  have a11 : hp w4 w3.heap.size = some (.cells (hnC (h.1, h.2.1, r.2.1.2.2.1, 0, n)).toArray 51) := by rw [← hw4]; exact put_same (by simp) _ _
  clear hw4
  have c04 := c03.trans c4
  have s3 := c03.size
  have f74 := c4.at f7 (by simp)
  have hw4 : ∀ w', Chg [] w w' → ldC (hp w' g) (0 + 0 + 2) = some (.int .i64 m.c.2.2.1) := fun w' k => (M.keep k).c 2 (by omega)
  have hw1 : ∀ w', Chg [] w w' → ldC (hp w' g) (0 + 0 + 1) = some (.int .i64 m.c.2.1) := fun w' k => (M.keep k).c 1 (by omega)
  simp -implicitDefEqProofs only [wpB_some', gd_true, gd_false, gd_tf, gd_ft, gd_ut, gd_uf, gv_true, gv_false, gv_tf, gv_ft, gv_ut, gv_uf, gE_true, gE_false, gE_tf, gE_ft, gE_ut, gE_uf, gU_true, gU_false, gU_tf, gU_ft, pickv_true, pickv_false, cnd_true, cnd_false, decide_true, decide_false, Bool.not_true, Bool.not_false, pr_not, nilv_some, bp_lss, bp_leq, bp_gtr, bp_geq, be_eql, be_neq, bne_self_eq_false, beq_self_eq_true, ldC_some, Option.isNone_none, Option.isNone_some, hp_drew, fa_132_0, fa_74_2, ld_3, hw4 _ c04]
  refine (c_mFits (R3.keep c4) m.c.2.2.1 (roundV x.cls n)).step ?_
  have nF : ∀ {y}, w.heap.size ≤ y → ¬ F y := fun hy => I.notF hy
  have hol : x.objs.length ≤ 1000000 := Nat.le_trans R.ol (by omega)
  have c34 : Chg [] w3 w4 := c4
  have tail : ∀ (want : HnV) w6, Chg [] w3 w6 → hp w6 w3.heap.size = some (.cells (hnC want).toArray 51) →
      P102_0 (.pointer (some ⟨g, 0, none⟩)) (.pointer (some ⟨w.heap.size + 1, 0, none⟩)) (.pointer (some ⟨b, i * 7, none⟩)) (.int .i64 (roundV x.cls n)) (.pointer (some ⟨w3.heap.size, 0, none⟩)) (.bool (rfitsV x m.c.2.2.1 (roundV x.cls n))) w6 fun v w' =>
        v = .bool (if r = (0, want, 0, 0) then true else false) ∧ ∃ F', MdI w' g (if r = (0, want, 0, 0) then { m with rgs := m.rgs.set i (growV m.c.2.2.1 (roundV x.cls n) x want) } else m) F' ∧ UpdP F F' w w' := by
    intro want w6 c6 h11
    have c06 := c03.trans c6
    exact l_gives0 (UpdP.of0 c06) (I.keep c06) Wm hK (hb3 _ c06) hi hol (c6.at f7 (by simp)) h11 (nF (by omega))
  cases hfit : rfitsV x m.c.2.2.1 (roundV x.cls n) with
  | true =>
    rw [hfit] at tail
    obtain ⟨f1, f2, f3, f4⟩ := fits_need hfit
    have ew : wantV m.c.2.2.1 (roundV x.cls n) n x h r.2.1.2.2.1 = (h.1, h.2.1, newV x.chunks, x.off, n) := by rw [wantV, hfit]; rfl
    rw [hfit, ew] at gv
    simp only [Bool.true_eq_false, false_and, if_false] at gv
    have tl : ∀ w6, Chg [] w3 w6 → hp w6 w3.heap.size = some (.cells (hnC (h.1, h.2.1, newV x.chunks, x.off, n)).toArray 51) →
        P102_0 (.pointer (some ⟨g, 0, none⟩)) (.pointer (some ⟨w.heap.size + 1, 0, none⟩)) (.pointer (some ⟨b, i * 7, none⟩)) (.int .i64 (roundV x.cls n)) (.pointer (some ⟨w3.heap.size, 0, none⟩)) (.bool true) w6 fun v w' => v = .bool (givesV m n h r).1 ∧ ∃ F', MdI w' g (givesV m n h r).2 F' ∧ UpdP F F' w w' := by
      intro w6 c6 h11
      have t := tail _ w6 c6 h11
      rw [gv]
      by_cases hr : r = (0, (h.1, h.2.1, newV x.chunks, x.off, n), 0, 0)
      · rw [if_pos hr, if_pos hr] at t; rw [if_pos hr]; exact t
      · rw [if_neg hr, if_neg hr] at t; rw [if_neg hr]; exact t
    have cd : Chg [] w4 w4.drew := (Chg.refl _ _).drew
    have R4 := R3.keep c4
    have cn := c_mNewest (R4.keep cd) (Nat.le_trans R.cl (by omega))
    have st2 : ∀ w5 L, hp w5 w3.heap.size = some (.cells (hnC (h.1, h.2.1, r.2.1.2.2.1, 0, n)).toArray 51) → effu Try.prog (Instr.storeAt 3 (.pointer (some ⟨w3.heap.size, 0 + 2, none⟩)) (.int .i64 (newV x.chunks))) w5 L = L (put w5 w3.heap.size (hnC (h.1, h.2.1, newV x.chunks, 0, n)).toArray 51) := by
      intro w5 L h5
      rw [st_3 (o := 0 + 2) rfl rfl (by rw [h5]; rfl), h5]; rfl
    have st3 : ∀ w5 L, hp w5 w3.heap.size = some (.cells (hnC (h.1, h.2.1, newV x.chunks, 0, n)).toArray 51) → effu Try.prog (Instr.storeAt 3 (.pointer (some ⟨w3.heap.size, 0 + 3, none⟩)) (.int .i64 x.off)) w5 L = L (put w5 w3.heap.size (hnC (h.1, h.2.1, newV x.chunks, x.off, n)).toArray 51) := by
      intro w5 L h5
      rw [st_3 (o := 0 + 3) rfl rfl (by rw [h5]; rfl), h5]; rfl
    simp -implicitDefEqProofs only [wpB_some', gd_true, gd_false, gd_tf, gd_ft, gd_ut, gd_uf, gv_true, gv_false, gv_tf, gv_ft, gv_ut, gv_uf, gE_true, gE_false, gE_tf, gE_ft, gE_ut, gE_uf, gU_true, gU_false, gU_tf, gU_ft, pickv_true, pickv_false, cnd_true, cnd_false, decide_true, decide_false, Bool.not_true, Bool.not_false, pr_not, nilv_some, bp_lss, bp_leq, bp_gtr, bp_geq, be_eql, be_neq, bne_self_eq_false, beq_self_eq_true, ldC_some, Option.isNone_none, Option.isNone_some, hp_drew, fa_144_2, ld_3, show ldC (hp w4 b) (i * 7 + 3) = _ from R4.c3]
    repeat' (with_reducible apply And.intro)
    all_goals
      refine cn.mono ?_
      rintro _ w5 ⟨rfl, c5⟩
      have c35 := c34.trans (cd.trans c5)
      have h5 := c5.at (show hp w4.drew w3.heap.size = _ from a11) (by simp)
      have R5 := (R3.keep c35).c3
      have h6 : hp (put w5 w3.heap.size (hnC (h.1, h.2.1, newV x.chunks, 0, n)).toArray 51) w3.heap.size = _ := put_same (blk_lt h5) _ _
      have c36 : Chg [] w3 (put w5 w3.heap.size (hnC (h.1, h.2.1, newV x.chunks, 0, n)).toArray 51) := c35.put (.inr (Nat.le_refl _)) _ _
      have R6 := (R3.keep c36).c3
      simp -implicitDefEqProofs only [wpB_some', gd_true, gd_false, gd_tf, gd_ft, gd_ut, gd_uf, gv_true, gv_false, gv_tf, gv_ft, gv_ut, gv_uf, gE_true, gE_false, gE_tf, gE_ft, gE_ut, gE_uf, gU_true, gU_false, gU_tf, gU_ft, pickv_true, pickv_false, cnd_true, cnd_false, decide_true, decide_false, Bool.not_true, Bool.not_false, pr_not, nilv_some, bp_lss, bp_leq, bp_gtr, bp_geq, be_eql, be_neq, bne_self_eq_false, beq_self_eq_true, ldC_some, Option.isNone_none, Option.isNone_some, hp_drew, fa_144_2, fa_51_2, fa_51_3, ld_3, R5]
      rw [st2 _ _ h5]
      simp -implicitDefEqProofs only [wpB_some', gd_true, gd_false, gd_tf, gd_ft, gd_ut, gd_uf, gv_true, gv_false, gv_tf, gv_ft, gv_ut, gv_uf, gE_true, gE_false, gE_tf, gE_ft, gE_ut, gE_uf, gU_true, gU_false, gU_tf, gU_ft, pickv_true, pickv_false, cnd_true, cnd_false, decide_true, decide_false, Bool.not_true, Bool.not_false, pr_not, nilv_some, bp_lss, bp_leq, bp_gtr, bp_geq, be_eql, be_neq, bne_self_eq_false, beq_self_eq_true, ldC_some, Option.isNone_none, Option.isNone_some, hp_drew, fa_144_2, fa_51_2, fa_51_3, ld_3, R6, st3 _ _ h6]
      exact tl _ (c36.put (.inr (Nat.le_refl _)) _ _) (put_same (blk_lt h6) _ _)
  | false =>
    rw [hfit] at tail
    have ew : wantV m.c.2.2.1 (roundV x.cls n) n x h r.2.1.2.2.1 = (h.1, h.2.1, r.2.1.2.2.1, 0, n) := by rw [wantV, hfit]; rfl
    rw [hfit, ew] at gv
    simp only [true_and] at gv
    have hbe : be Try.prog .eql 53 (.tmp 51) (.tmp 52) (.agg (rsC r).toArray) (.agg #[.int .i64 6, .int .i64 0, .int .i64 0, .int .i64 0, .int .i64 0, .int .i64 0, .int .i64 0, .int .u64 0]) = some (.bool (decide (r = codeR 6))) := be_rs r (codeR 6)
    simp -implicitDefEqProofs only [wpB_some', gd_true, gd_false, gd_tf, gd_ft, gd_ut, gd_uf, gv_true, gv_false, gv_tf, gv_ft, gv_ut, gv_uf, gE_true, gE_false, gE_tf, gE_ft, gE_ut, gE_uf, gU_true, gU_false, gU_tf, gU_ft, pickv_true, pickv_false, cnd_true, cnd_false, decide_true, decide_false, Bool.not_true, Bool.not_false, pr_not, nilv_some, bp_lss, bp_leq, bp_gtr, bp_geq, be_eql, be_neq, bne_self_eq_false, beq_self_eq_true, ldC_some, Option.isNone_none, Option.isNone_some, hp_drew, ld_res f74, bd_53_0, hbe]
    by_cases r6 : r = codeR 6
    · rw [if_pos r6] at gv
      simp -implicitDefEqProofs only [decide_eq_true r6, wpB_some', gd_true, gd_false, gd_tf, gd_ft, gd_ut, gd_uf, gv_true, gv_false, gv_tf, gv_ft, gv_ut, gv_uf, gE_true, gE_false, gE_tf, gE_ft, gE_ut, gE_uf, gU_true, gU_false, gU_tf, gU_ft, pickv_true, pickv_false, cnd_true, cnd_false, decide_true, decide_false, Bool.not_true, Bool.not_false, pr_not, nilv_some, bp_lss, bp_leq, bp_gtr, bp_geq, be_eql, be_neq, bne_self_eq_false, beq_self_eq_true, ldC_some, Option.isNone_none, Option.isNone_some, hp_drew]
      rw [gv]
      exact ⟨by first | rfl | trivial, F, I.keep c04, UpdP.of0 c04⟩
    rw [if_neg r6] at gv
    have cd : Chg [] w4 w4.drew := (Chg.refl _ _).drew
    have e2 : (hnC (h.1, h.2.1, r.2.1.2.2.1, 0, n)).toArray[0 + 2]? = some (.int .i64 r.2.1.2.2.1) := rfl
    by_cases n0 : r.2.1.2.2.1 < 0
    · rw [if_pos (.inl n0)] at gv
      simp -implicitDefEqProofs only [decide_eq_false r6, wpB_some', gd_true, gd_false, gd_tf, gd_ft, gd_ut, gd_uf, gv_true, gv_false, gv_tf, gv_ft, gv_ut, gv_uf, gE_true, gE_false, gE_tf, gE_ft, gE_ut, gE_uf, gU_true, gU_false, gU_tf, gU_ft, pickv_true, pickv_false, cnd_true, cnd_false, decide_true, decide_false, Bool.not_true, Bool.not_false, pr_not, nilv_some, bp_lss, bp_leq, bp_gtr, bp_geq, be_eql, be_neq, bne_self_eq_false, beq_self_eq_true, ldC_some, Option.isNone_none, Option.isNone_some, hp_drew, fa_51_2, ld_3, a11, e2, n0]
      rw [gv]
      exact ⟨by first | rfl | trivial, F, I.keep (c04.trans cd), UpdP.of0 (c04.trans cd)⟩
    by_cases n1 : m.c.2.1 ≤ r.2.1.2.2.1
    · rw [if_pos (.inr (.inl n1))] at gv
      simp -implicitDefEqProofs only [decide_eq_false r6, wpB_some', gd_true, gd_false, gd_tf, gd_ft, gd_ut, gd_uf, gv_true, gv_false, gv_tf, gv_ft, gv_ut, gv_uf, gE_true, gE_false, gE_tf, gE_ft, gE_ut, gE_uf, gU_true, gU_false, gU_tf, gU_ft, pickv_true, pickv_false, cnd_true, cnd_false, decide_true, decide_false, Bool.not_true, Bool.not_false, pr_not, nilv_some, bp_lss, bp_leq, bp_gtr, bp_geq, be_eql, be_neq, bne_self_eq_false, beq_self_eq_true, ldC_some, Option.isNone_none, Option.isNone_some, hp_drew, fa_51_2, ld_3, a11, e2, n0, fa_132_0, fa_74_1, hw1 _ c04, bp_geq, n1, ge_iff_le]
      rw [gv]
      exact ⟨by first | rfl | trivial, F, I.keep (c04.trans cd), UpdP.of0 (c04.trans cd)⟩
    simp -implicitDefEqProofs only [decide_eq_false r6, wpB_some', gd_true, gd_false, gd_tf, gd_ft, gd_ut, gd_uf, gv_true, gv_false, gv_tf, gv_ft, gv_ut, gv_uf, gE_true, gE_false, gE_tf, gE_ft, gE_ut, gE_uf, gU_true, gU_false, gU_tf, gU_ft, pickv_true, pickv_false, cnd_true, cnd_false, decide_true, decide_false, Bool.not_true, Bool.not_false, pr_not, nilv_some, bp_lss, bp_leq, bp_gtr, bp_geq, be_eql, be_neq, bne_self_eq_false, beq_self_eq_true, ldC_some, Option.isNone_none, Option.isNone_some, hp_drew, fa_51_2, ld_3, a11, e2, n0, fa_132_0, fa_74_1, hw1 _ c04, bp_geq, n1, ge_iff_le]
    refine (c_mTaken (M.keep (c04.trans cd)) Wm (by omega) r.2.1.2.2.1).mono ?_
    rintro _ w5 ⟨rfl, c5⟩
    have c35 := c34.trans (cd.trans c5)
    have h5 := c5.at (show hp w4.drew w3.heap.size = _ from a11) (by simp)
    cases ht : takenV m r.2.1.2.2.1 with
    | true =>
      rw [if_pos (.inr (.inr ht))] at gv
      simp -implicitDefEqProofs only [wpB_some', gd_true, gd_false, gd_tf, gd_ft, gd_ut, gd_uf, gv_true, gv_false, gv_tf, gv_ft, gv_ut, gv_uf, gE_true, gE_false, gE_tf, gE_ft, gE_ut, gE_uf, gU_true, gU_false, gU_tf, gU_ft, pickv_true, pickv_false, cnd_true, cnd_false, decide_true, decide_false, Bool.not_true, Bool.not_false, pr_not, nilv_some, bp_lss, bp_leq, bp_gtr, bp_geq, be_eql, be_neq, bne_self_eq_false, beq_self_eq_true, ldC_some, Option.isNone_none, Option.isNone_some, hp_drew]
      rw [gv]
      exact ⟨by first | rfl | trivial, F, I.keep (c03.trans c35), UpdP.of0 (c03.trans c35)⟩
    | false =>
      rw [if_neg (by rintro (h1 | h1 | h1); exact n0 h1; exact n1 h1; rw [ht] at h1; cases h1)] at gv
      simp -implicitDefEqProofs only [wpB_some', gd_true, gd_false, gd_tf, gd_ft, gd_ut, gd_uf, gv_true, gv_false, gv_tf, gv_ft, gv_ut, gv_uf, gE_true, gE_false, gE_tf, gE_ft, gE_ut, gE_uf, gU_true, gU_false, gU_tf, gU_ft, pickv_true, pickv_false, cnd_true, cnd_false, decide_true, decide_false, Bool.not_true, Bool.not_false, pr_not, nilv_some, bp_lss, bp_leq, bp_gtr, bp_geq, be_eql, be_neq, bne_self_eq_false, beq_self_eq_true, ldC_some, Option.isNone_none, Option.isNone_some, hp_drew]
      have t := tail _ w5 c35 h5
      rw [gv]
      by_cases hr : r = (0, (h.1, h.2.1, r.2.1.2.2.1, 0, n), 0, 0)
      · rw [if_pos hr, if_pos hr] at t; rw [if_pos hr]; exact t
      · rw [if_neg hr, if_neg hr] at t; rw [if_neg hr]; exact t
set_option maxHeartbeats 1000000 in
theorem c_mDo (I : MdI w g m F) (Wm : Wf m K) (hK : K + 1 ≤ 1000000) (n : Int) (o : OpV) (h : HnV) (r : RsV) :
    CallR Try.prog 57 [.pointer (some ⟨g, 0, none⟩), .int .i64 n, .agg (opC o).toArray, .agg (hnC h).toArray, .agg (rsC r).toArray] w fun v w' => v = .bool (doV m n o h r).1 ∧ ∃ F', MdI w' g (doV m n o h r).2 F' ∧ UpdP F F' w w' := by
  apply F57_ok
  simp -implicitDefEqProofs only [F57, effv_box, cells_agg, alloc_size]
  generalize hw : ((w.alloc (.cells (opC o).toArray 40)).alloc _).alloc _ = w1
  have c1 : Chg [] w w1 := by rw [← hw]; exact (((Chg.refl _ _).alloc _).alloc _).alloc _
  have a7 : hp w1 w.heap.size = some (.cells (opC o).toArray 40) := by rw [← hw, alloc_heap, alloc_size, alloc_size, if_neg (by omega), alloc_heap, alloc_size, if_neg (by omega), alloc_heap, if_pos rfl]
  have a8 : hp w1 (w.heap.size + 1) = some (.cells (hnC h).toArray 51) := by rw [← hw, alloc_heap, alloc_size, alloc_size, if_neg (by omega), alloc_heap, alloc_size, if_pos rfl]
  have a9 : hp w1 (w.heap.size + 1 + 1) = some (.cells (rsC r).toArray 53) := by rw [← hw, alloc_heap, alloc_size, alloc_size, if_pos rfl]
  clear hw
  have ldo : ∀ w', hp w' w.heap.size = some (.cells (opC o).toArray 40) → ldv Try.prog 40 (.pointer (some ⟨w.heap.size, 0, none⟩)) w' = some (.agg (opC o).toArray) := fun w' hw => ldv_whole (t := 40) (c := (opC o).toArray) ag_40 (show (Try.prog.info? 40).map (·.size) = some (opC o).toArray.size from sz_40) hw
  obtain ⟨_, _, _, M⟩ := I.rd
  simp -implicitDefEqProofs only [wpB_some', ldo _ a7]
  refine (c_mMay (M.keep c1) n o).mono ?_
  rintro _ w2 ⟨rfl, c2⟩
  have c02 := c1.trans c2
  have b7 := c2.at a7 (by simp)
  have b8 := c2.at a8 (by simp)
  cases hm : mayV m n o with
  | false =>
    simp -implicitDefEqProofs only [wpB_some', gd_true, gd_false, gd_tf, gd_ft, gd_ut, gd_uf, gv_true, gv_false, gv_tf, gv_ft, gv_ut, gv_uf, gE_true, gE_false, gE_tf, gE_ft, gE_ut, gE_uf, gU_true, gU_false, gU_tf, gU_ft, pickv_true, pickv_false, cnd_true, cnd_false, decide_true, decide_false, Bool.not_true, Bool.not_false, pr_not, nilv_some, bp_lss, bp_leq, bp_gtr, bp_geq, be_eql, be_neq, bne_self_eq_false, beq_self_eq_true, ldC_some, Option.isNone_none, Option.isNone_some, hp_drew]
    have e : doV m n o h r = (false, m) := by rw [doV, if_pos hm]
    rw [e]
    exact ⟨by first | rfl | trivial, F, I.keep c02, UpdP.of0 c02⟩
  | true =>
    obtain ⟨d, hd⟩ := may_hd hm
    simp -implicitDefEqProofs only [wpB_some', gd_true, gd_false, gd_tf, gd_ft, gd_ut, gd_uf, gv_true, gv_false, gv_tf, gv_ft, gv_ut, gv_uf, gE_true, gE_false, gE_tf, gE_ft, gE_ut, gE_uf, gU_true, gU_false, gU_tf, gU_ft, pickv_true, pickv_false, cnd_true, cnd_false, decide_true, decide_false, Bool.not_true, Bool.not_false, pr_not, nilv_some, bp_lss, bp_leq, bp_gtr, bp_geq, be_eql, be_neq, bne_self_eq_false, beq_self_eq_true, ldC_some, Option.isNone_none, Option.isNone_some, hp_drew, ldo _ b7, ld_hn b8]
    refine (c_mMust (I.keep c02) Wm (by omega) n o h).mono ?_
    rintro _ w3 ⟨rfl, c3⟩
    have c13 := c2.trans c3
    have c03 := c1.trans c13
    simp -implicitDefEqProofs only [tup0, tup1, wpB_some', gd_true, gd_false, gd_tf, gd_ft, gd_ut, gd_uf, gv_true, gv_false, gv_tf, gv_ft, gv_ut, gv_uf, gE_true, gE_false, gE_tf, gE_ft, gE_ut, gE_uf, gU_true, gU_false, gU_tf, gU_ft, pickv_true, pickv_false, cnd_true, cnd_false, decide_true, decide_false, Bool.not_true, Bool.not_false, pr_not, nilv_some, bp_lss, bp_leq, bp_gtr, bp_geq, be_eql, be_neq, bne_self_eq_false, beq_self_eq_true, ldC_some, Option.isNone_none, Option.isNone_some, hp_drew, al_53]
    rw [st_res (c := (rsC noR).toArray) (e := 53) (by rw [alloc_heap, if_pos rfl]; rfl) rfl]
    generalize hw4 : put (w3.alloc _) w3.heap.size _ _ = w4
    have c4 : Chg [] w3 w4 := by rw [← hw4]; exact ((Chg.refl _ _).alloc _).put (.inr (Nat.le_refl _)) _ _
    have a11 : hp w4 w3.heap.size = some (.cells (rsC (mustV m n o h).1).toArray 53) := by rw [← hw4]; exact put_same (by simp) _ _
    clear hw4
    have c14 := c13.trans c4
    have c04 := c1.trans c14
    have d7 := c14.at a7 (by simp)
    have d8 := c14.at a8 (by simp)
    have d9 := c14.at a9 (by simp)
    have hbe : be Try.prog .neq 53 (.tmp 27) (.tmp 28) (.agg (rsC r).toArray) (.agg (rsC (mustV m n o h).1).toArray) = some (.bool (!decide (r = (mustV m n o h).1))) := be_nrs r _
    cases hi : (mustV m n o h).2 with
    | true =>
      simp -implicitDefEqProofs only [wpB_some', gd_true, gd_false, gd_tf, gd_ft, gd_ut, gd_uf, gv_true, gv_false, gv_tf, gv_ft, gv_ut, gv_uf, gE_true, gE_false, gE_tf, gE_ft, gE_ut, gE_uf, gU_true, gU_false, gU_tf, gU_ft, pickv_true, pickv_false, cnd_true, cnd_false, decide_true, decide_false, Bool.not_true, Bool.not_false, pr_not, nilv_some, bp_lss, bp_leq, bp_gtr, bp_geq, be_eql, be_neq, bne_self_eq_false, beq_self_eq_true, ldC_some, Option.isNone_none, Option.isNone_some, hp_drew, ld_res d9, ld_res a11, hbe]
      have ed : doV m n o h r = if r = (mustV m n o h).1 then (true, if r.1 = 0 then doesV m n o h else m) else (false, m) := by rw [doV, if_neg (by rw [hm]; simp), if_pos hi]
      by_cases hr : r = (mustV m n o h).1
      · rw [if_pos hr] at ed
        simp -implicitDefEqProofs only [decide_eq_true hr, wpB_some', gd_true, gd_false, gd_tf, gd_ft, gd_ut, gd_uf, gv_true, gv_false, gv_tf, gv_ft, gv_ut, gv_uf, gE_true, gE_false, gE_tf, gE_ft, gE_ut, gE_uf, gU_true, gU_false, gU_tf, gU_ft, pickv_true, pickv_false, cnd_true, cnd_false, decide_true, decide_false, Bool.not_true, Bool.not_false, pr_not, nilv_some, bp_lss, bp_leq, bp_gtr, bp_geq, be_eql, be_neq, bne_self_eq_false, beq_self_eq_true, ldC_some, Option.isNone_none, Option.isNone_some, hp_drew, fa_53_0, ld_29, d9, rs_0]
        by_cases h0 : r.1 = 0
        · rw [if_pos h0] at ed
          have e0 : (r.1 == 0) = true := by rw [h0]; rfl
          have hrf := must_fine hm hd (by rw [← hr]; exact h0)
          simp -implicitDefEqProofs only [e0, wpB_some', gd_true, gd_false, gd_tf, gd_ft, gd_ut, gd_uf, gv_true, gv_false, gv_tf, gv_ft, gv_ut, gv_uf, gE_true, gE_false, gE_tf, gE_ft, gE_ut, gE_uf, gU_true, gU_false, gU_tf, gU_ft, pickv_true, pickv_false, cnd_true, cnd_false, decide_true, decide_false, Bool.not_true, Bool.not_false, pr_not, nilv_some, bp_lss, bp_leq, bp_gtr, bp_geq, be_eql, be_neq, bne_self_eq_false, beq_self_eq_true, ldC_some, Option.isNone_none, Option.isNone_some, hp_drew, ldo _ d7, ld_hn d8]
          refine (c_mDoes (I.keep c04) Wm (by omega) hm hd hrf).mono ?_
          rintro _ w5 ⟨rfl, F5, i5, u5⟩
          apply L57_0_ok
          rw [ed]
          exact ⟨rfl, F5, i5, u5.pre c04⟩
        · rw [if_neg h0] at ed
          simp -implicitDefEqProofs only [eqf h0, wpB_some', gd_true, gd_false, gd_tf, gd_ft, gd_ut, gd_uf, gv_true, gv_false, gv_tf, gv_ft, gv_ut, gv_uf, gE_true, gE_false, gE_tf, gE_ft, gE_ut, gE_uf, gU_true, gU_false, gU_tf, gU_ft, pickv_true, pickv_false, cnd_true, cnd_false, decide_true, decide_false, Bool.not_true, Bool.not_false, pr_not, nilv_some, bp_lss, bp_leq, bp_gtr, bp_geq, be_eql, be_neq, bne_self_eq_false, beq_self_eq_true, ldC_some, Option.isNone_none, Option.isNone_some, hp_drew]
          apply L57_0_ok
          rw [ed]
          exact ⟨rfl, F, I.keep c04, UpdP.of0 c04⟩
      · rw [if_neg hr] at ed
        simp -implicitDefEqProofs only [decide_eq_false hr, wpB_some', gd_true, gd_false, gd_tf, gd_ft, gd_ut, gd_uf, gv_true, gv_false, gv_tf, gv_ft, gv_ut, gv_uf, gE_true, gE_false, gE_tf, gE_ft, gE_ut, gE_uf, gU_true, gU_false, gU_tf, gU_ft, pickv_true, pickv_false, cnd_true, cnd_false, decide_true, decide_false, Bool.not_true, Bool.not_false, pr_not, nilv_some, bp_lss, bp_leq, bp_gtr, bp_geq, be_eql, be_neq, bne_self_eq_false, beq_self_eq_true, ldC_some, Option.isNone_none, Option.isNone_some, hp_drew]
        rw [ed]
        exact ⟨by first | rfl | trivial, F, I.keep c04, UpdP.of0 c04⟩
    | false =>
      obtain ⟨hrf, hk⟩ := must_open hm hd hi
      have ed : doV m n o h r = if o.1 = 1 then createsV m o.2.2.2.1 r else givesV m o.2.2.2.1 h r := by rw [doV, if_neg (by rw [hm]; simp), if_neg (by rw [hi]; simp)]
      by_cases k1 : o.1 = 1
      · rw [if_pos k1] at ed
        have q : (o.1 == 1) = true := by rw [k1]; rfl
        simp -implicitDefEqProofs only [wpB_some', gd_true, gd_false, gd_tf, gd_ft, gd_ut, gd_uf, gv_true, gv_false, gv_tf, gv_ft, gv_ut, gv_uf, gE_true, gE_false, gE_tf, gE_ft, gE_ut, gE_uf, gU_true, gU_false, gU_tf, gU_ft, pickv_true, pickv_false, cnd_true, cnd_false, decide_true, decide_false, Bool.not_true, Bool.not_false, pr_not, nilv_some, bp_lss, bp_leq, bp_gtr, bp_geq, be_eql, be_neq, bne_self_eq_false, beq_self_eq_true, ldC_some, Option.isNone_none, Option.isNone_some, hp_drew, fa_40_0, fa_40_3, ld_3, d7, op_0, op_3, q, ld_res d9]
        refine (c_mCreates (I.keep c04) Wm hK o.2.2.2.1 r).mono ?_
        rintro _ w5 ⟨rfl, F5, i5, u5⟩
        rw [ed]
        exact ⟨rfl, F5, i5, u5.pre c04⟩
      · rw [if_neg k1] at ed
        obtain ⟨i, x, hf, _, _, _⟩ := region_ok hrf (by omega)
        simp -implicitDefEqProofs only [wpB_some', gd_true, gd_false, gd_tf, gd_ft, gd_ut, gd_uf, gv_true, gv_false, gv_tf, gv_ft, gv_ut, gv_uf, gE_true, gE_false, gE_tf, gE_ft, gE_ut, gE_uf, gU_true, gU_false, gU_tf, gU_ft, pickv_true, pickv_false, cnd_true, cnd_false, decide_true, decide_false, Bool.not_true, Bool.not_false, pr_not, nilv_some, bp_lss, bp_leq, bp_gtr, bp_geq, be_eql, be_neq, bne_self_eq_false, beq_self_eq_true, ldC_some, Option.isNone_none, Option.isNone_some, hp_drew, fa_40_0, fa_40_3, ld_3, d7, op_0, op_3, eqf k1, ld_res d9, ld_hn d8]
        refine (c_mGives (I.keep c04) Wm hK o.2.2.2.1 h r hf).mono ?_
        rintro _ w5 ⟨rfl, F5, i5, u5⟩
        rw [ed]
        exact ⟨rfl, F5, i5, u5.pre c04⟩
end
end Go.Proofs.Ytgamnncehjcdiaa

namespace Go.Proofs.Ytgamnncehjcdiaa
open Go Ev Go.RowKit
set_option linter.unusedSimpArgs false
set_option linter.unusedVariables false
set_option maxRecDepth 10000

section
variable {w : World} {g : Nat} {m : MdV} {F : Fp} {K : Nat}
theorem c_layWithin (n a b : Int) (w : World) : CallR Try.prog 113 [.int .i64 n, .int .i64 a, .int .i64 b] w fun v w' => v = .bool (decide (a ≤ n ∧ n ≤ b)) ∧ w' = w := by
  apply F113_ok
  by_cases h1 : a ≤ n
  · simp -implicitDefEqProofs only [F113, wpB_some', gd_true, gd_false, gd_tf, gd_ft, gd_ut, gd_uf, gv_true, gv_false, gv_tf, gv_ft, gv_ut, gv_uf, gE_true, gE_false, gE_tf, gE_ft, gE_ut, gE_uf, gU_true, gU_false, gU_tf, gU_ft, pickv_true, pickv_false, cnd_true, cnd_false, decide_true, decide_false, Bool.not_true, Bool.not_false, pr_not, nilv_some, bp_lss, bp_leq, bp_gtr, bp_geq, be_eql, be_neq, bne_self_eq_false, beq_self_eq_true, ldC_some, Option.isNone_none, Option.isNone_some, hp_drew, bp_geq, bp_leq, h1, ge_iff_le, true_and, and_self]
  · simp -implicitDefEqProofs only [F113, wpB_some', gd_true, gd_false, gd_tf, gd_ft, gd_ut, gd_uf, gv_true, gv_false, gv_tf, gv_ft, gv_ut, gv_uf, gE_true, gE_false, gE_tf, gE_ft, gE_ut, gE_uf, gU_true, gU_false, gU_tf, gU_ft, pickv_true, pickv_false, cnd_true, cnd_false, decide_true, decide_false, Bool.not_true, Bool.not_false, pr_not, nilv_some, bp_lss, bp_leq, bp_gtr, bp_geq, be_eql, be_neq, bne_self_eq_false, beq_self_eq_true, ldC_some, Option.isNone_none, Option.isNone_some, hp_drew, bp_geq, bp_leq, h1, ge_iff_le, false_and, and_self]
def mayC (c : CfV) : Bool := decide (1 ≤ c.1 ∧ c.1 ≤ 64) && (decide (1 ≤ c.2.1 ∧ c.2.1 ≤ 4096) && (decide (8 ≤ c.2.2.1 ∧ c.2.2.1 ≤ 1024) && (decide (c.2.2.1 % 8 = 0) && (decide (1 ≤ c.2.2.2.1 ∧ c.2.2.2.1 ≤ 4096) && (decide (0 ≤ c.2.2.2.2.1 ∧ c.2.2.2.2.1 ≤ 64) && decide (1 ≤ c.2.2.2.2.2 ∧ c.2.2.2.2.2 ≤ 8))))))
theorem cf_0 (c : CfV) : (cfC c).toArray[0 + 0]? = some (.int .i64 c.1) := rfl
theorem cf_1 (c : CfV) : (cfC c).toArray[0 + 1]? = some (.int .i64 c.2.1) := rfl
theorem cf_2 (c : CfV) : (cfC c).toArray[0 + 2]? = some (.int .i64 c.2.2.1) := rfl
theorem cf_3 (c : CfV) : (cfC c).toArray[0 + 3]? = some (.int .i64 c.2.2.2.1) := rfl
theorem cf_4 (c : CfV) : (cfC c).toArray[0 + 4]? = some (.int .i64 c.2.2.2.2.1) := rfl
theorem cf_5 (c : CfV) : (cfC c).toArray[0 + 5]? = some (.int .i64 c.2.2.2.2.2) := rfl
theorem ld_cf {c : CfV} {g : Nat} {e : TypeId} (hb : hp w g = some (.cells (cfC c).toArray e)) : ldv Try.prog 74 (.pointer (some ⟨g, 0, none⟩)) w = some (.agg (cfC c).toArray) := ldv_whole (t := 74) (c := (cfC c).toArray) ag_74 (show (Try.prog.info? 74).map (·.size) = some (cfC c).toArray.size from sz_74) hb
set_option maxHeartbeats 1000000 in
theorem c_layMay (c : CfV) (w : World) : CallR Try.prog 80 [.agg (cfC c).toArray] w fun v w' => v = .bool (mayC c) ∧ Chg [] w w' := by
  apply F80_ok
  have b1 : hp (w.alloc (.cells (cfC c).toArray 74)) w.heap.size = some (.cells (cfC c).toArray 74) := by rw [alloc_heap, if_pos rfl]
  have c0 : Chg [] w (w.alloc (.cells (cfC c).toArray 74)) := (Chg.refl _ _).alloc _
  simp -implicitDefEqProofs only [F80, effv_box, cells_agg]
  generalize w.alloc (.cells (cfC c).toArray 74) = w0 at *
  simp -implicitDefEqProofs only [wpB_some', gd_true, gd_false, gd_tf, gd_ft, gd_ut, gd_uf, gv_true, gv_false, gv_tf, gv_ft, gv_ut, gv_uf, gE_true, gE_false, gE_tf, gE_ft, gE_ut, gE_uf, gU_true, gU_false, gU_tf, gU_ft, pickv_true, pickv_false, cnd_true, cnd_false, decide_true, decide_false, Bool.not_true, Bool.not_false, pr_not, nilv_some, bp_lss, bp_leq, bp_gtr, bp_geq, be_eql, be_neq, bne_self_eq_false, beq_self_eq_true, ldC_some, Option.isNone_none, Option.isNone_some, hp_drew, fa_74_0, ld_3, b1, cf_0]
  refine (c_layWithin _ _ _ w0).step ?_
  by_cases h1 : 1 ≤ c.1 ∧ c.1 ≤ 64
  · simp -implicitDefEqProofs only [decide_eq_true h1, wpB_some', gd_true, gd_false, gd_tf, gd_ft, gd_ut, gd_uf, gv_true, gv_false, gv_tf, gv_ft, gv_ut, gv_uf, gE_true, gE_false, gE_tf, gE_ft, gE_ut, gE_uf, gU_true, gU_false, gU_tf, gU_ft, pickv_true, pickv_false, cnd_true, cnd_false, decide_true, decide_false, Bool.not_true, Bool.not_false, pr_not, nilv_some, bp_lss, bp_leq, bp_gtr, bp_geq, be_eql, be_neq, bne_self_eq_false, beq_self_eq_true, ldC_some, Option.isNone_none, Option.isNone_some, hp_drew, fa_74_1, ld_3, b1, cf_1]
    refine (c_layWithin _ _ _ w0).step ?_
    by_cases h2 : 1 ≤ c.2.1 ∧ c.2.1 ≤ 4096
    · simp -implicitDefEqProofs only [decide_eq_true h2, wpB_some', gd_true, gd_false, gd_tf, gd_ft, gd_ut, gd_uf, gv_true, gv_false, gv_tf, gv_ft, gv_ut, gv_uf, gE_true, gE_false, gE_tf, gE_ft, gE_ut, gE_uf, gU_true, gU_false, gU_tf, gU_ft, pickv_true, pickv_false, cnd_true, cnd_false, decide_true, decide_false, Bool.not_true, Bool.not_false, pr_not, nilv_some, bp_lss, bp_leq, bp_gtr, bp_geq, be_eql, be_neq, bne_self_eq_false, beq_self_eq_true, ldC_some, Option.isNone_none, Option.isNone_some, hp_drew, fa_74_2, ld_3, b1, cf_2]
      refine (c_layWithin _ _ _ w0).step ?_
      by_cases h3 : 8 ≤ c.2.2.1 ∧ c.2.2.1 ≤ 1024
      · have hm : c.2.2.1.tmod 8 = c.2.2.1 % 8 := Int.tmod_eq_emod_of_nonneg (by omega)
        by_cases h4 : c.2.2.1 % 8 = 0
        · have e4 : (c.2.2.1 % 8 == 0) = true := by rw [h4]; rfl
          simp -implicitDefEqProofs only [decide_eq_true h3, wpB_some', gd_true, gd_false, gd_tf, gd_ft, gd_ut, gd_uf, gv_true, gv_false, gv_tf, gv_ft, gv_ut, gv_uf, gE_true, gE_false, gE_tf, gE_ft, gE_ut, gE_uf, gU_true, gU_false, gU_tf, gU_ft, pickv_true, pickv_false, cnd_true, cnd_false, decide_true, decide_false, Bool.not_true, Bool.not_false, pr_not, nilv_some, bp_lss, bp_leq, bp_gtr, bp_geq, be_eql, be_neq, bne_self_eq_false, beq_self_eq_true, ldC_some, Option.isNone_none, Option.isNone_some, hp_drew, fa_74_2, fa_74_3, ld_3, b1, cf_2, cf_3, bp_rem (show (8 : Int) ≠ 0 by decide), hm, e4]
          refine (c_layWithin _ _ _ w0).step ?_
          by_cases h5 : 1 ≤ c.2.2.2.1 ∧ c.2.2.2.1 ≤ 4096
          · simp -implicitDefEqProofs only [decide_eq_true h5, wpB_some', gd_true, gd_false, gd_tf, gd_ft, gd_ut, gd_uf, gv_true, gv_false, gv_tf, gv_ft, gv_ut, gv_uf, gE_true, gE_false, gE_tf, gE_ft, gE_ut, gE_uf, gU_true, gU_false, gU_tf, gU_ft, pickv_true, pickv_false, cnd_true, cnd_false, decide_true, decide_false, Bool.not_true, Bool.not_false, pr_not, nilv_some, bp_lss, bp_leq, bp_gtr, bp_geq, be_eql, be_neq, bne_self_eq_false, beq_self_eq_true, ldC_some, Option.isNone_none, Option.isNone_some, hp_drew, fa_74_4, ld_3, b1, cf_4]
            refine (c_layWithin _ _ _ w0).step ?_
            by_cases h6 : 0 ≤ c.2.2.2.2.1 ∧ c.2.2.2.2.1 ≤ 64
            · simp -implicitDefEqProofs only [decide_eq_true h6, wpB_some', gd_true, gd_false, gd_tf, gd_ft, gd_ut, gd_uf, gv_true, gv_false, gv_tf, gv_ft, gv_ut, gv_uf, gE_true, gE_false, gE_tf, gE_ft, gE_ut, gE_uf, gU_true, gU_false, gU_tf, gU_ft, pickv_true, pickv_false, cnd_true, cnd_false, decide_true, decide_false, Bool.not_true, Bool.not_false, pr_not, nilv_some, bp_lss, bp_leq, bp_gtr, bp_geq, be_eql, be_neq, bne_self_eq_false, beq_self_eq_true, ldC_some, Option.isNone_none, Option.isNone_some, hp_drew, fa_74_5, ld_3, b1, cf_5]
              refine (c_layWithin _ _ _ w0).step ?_
              by_cases h7 : 1 ≤ c.2.2.2.2.2 ∧ c.2.2.2.2.2 ≤ 8
              · simp -implicitDefEqProofs only [decide_eq_true h7, wpB_some', gd_true, gd_false, gd_tf, gd_ft, gd_ut, gd_uf, gv_true, gv_false, gv_tf, gv_ft, gv_ut, gv_uf, gE_true, gE_false, gE_tf, gE_ft, gE_ut, gE_uf, gU_true, gU_false, gU_tf, gU_ft, pickv_true, pickv_false, cnd_true, cnd_false, decide_true, decide_false, Bool.not_true, Bool.not_false, pr_not, nilv_some, bp_lss, bp_leq, bp_gtr, bp_geq, be_eql, be_neq, bne_self_eq_false, beq_self_eq_true, ldC_some, Option.isNone_none, Option.isNone_some, hp_drew]
                exact ⟨by simp [mayC, h1, h2, h3, h4, h5, h6, h7], c0⟩
              · simp -implicitDefEqProofs only [decide_eq_false h7, wpB_some', gd_true, gd_false, gd_tf, gd_ft, gd_ut, gd_uf, gv_true, gv_false, gv_tf, gv_ft, gv_ut, gv_uf, gE_true, gE_false, gE_tf, gE_ft, gE_ut, gE_uf, gU_true, gU_false, gU_tf, gU_ft, pickv_true, pickv_false, cnd_true, cnd_false, decide_true, decide_false, Bool.not_true, Bool.not_false, pr_not, nilv_some, bp_lss, bp_leq, bp_gtr, bp_geq, be_eql, be_neq, bne_self_eq_false, beq_self_eq_true, ldC_some, Option.isNone_none, Option.isNone_some, hp_drew]
                exact ⟨by rw [mayC, decide_eq_false h7]; simp, c0⟩
            · simp -implicitDefEqProofs only [decide_eq_false h6, wpB_some', gd_true, gd_false, gd_tf, gd_ft, gd_ut, gd_uf, gv_true, gv_false, gv_tf, gv_ft, gv_ut, gv_uf, gE_true, gE_false, gE_tf, gE_ft, gE_ut, gE_uf, gU_true, gU_false, gU_tf, gU_ft, pickv_true, pickv_false, cnd_true, cnd_false, decide_true, decide_false, Bool.not_true, Bool.not_false, pr_not, nilv_some, bp_lss, bp_leq, bp_gtr, bp_geq, be_eql, be_neq, bne_self_eq_false, beq_self_eq_true, ldC_some, Option.isNone_none, Option.isNone_some, hp_drew]
              exact ⟨by rw [mayC, decide_eq_false h6]; simp, c0⟩
          · simp -implicitDefEqProofs only [decide_eq_false h5, wpB_some', gd_true, gd_false, gd_tf, gd_ft, gd_ut, gd_uf, gv_true, gv_false, gv_tf, gv_ft, gv_ut, gv_uf, gE_true, gE_false, gE_tf, gE_ft, gE_ut, gE_uf, gU_true, gU_false, gU_tf, gU_ft, pickv_true, pickv_false, cnd_true, cnd_false, decide_true, decide_false, Bool.not_true, Bool.not_false, pr_not, nilv_some, bp_lss, bp_leq, bp_gtr, bp_geq, be_eql, be_neq, bne_self_eq_false, beq_self_eq_true, ldC_some, Option.isNone_none, Option.isNone_some, hp_drew]
            exact ⟨by rw [mayC, decide_eq_false h5]; simp, c0⟩
        · simp -implicitDefEqProofs only [decide_eq_true h3, wpB_some', gd_true, gd_false, gd_tf, gd_ft, gd_ut, gd_uf, gv_true, gv_false, gv_tf, gv_ft, gv_ut, gv_uf, gE_true, gE_false, gE_tf, gE_ft, gE_ut, gE_uf, gU_true, gU_false, gU_tf, gU_ft, pickv_true, pickv_false, cnd_true, cnd_false, decide_true, decide_false, Bool.not_true, Bool.not_false, pr_not, nilv_some, bp_lss, bp_leq, bp_gtr, bp_geq, be_eql, be_neq, bne_self_eq_false, beq_self_eq_true, ldC_some, Option.isNone_none, Option.isNone_some, hp_drew, fa_74_2, ld_3, b1, cf_2, bp_rem (show (8 : Int) ≠ 0 by decide), hm, eqf h4]
          exact ⟨by rw [mayC, decide_eq_false h4]; simp, c0⟩
      · simp -implicitDefEqProofs only [decide_eq_false h3, wpB_some', gd_true, gd_false, gd_tf, gd_ft, gd_ut, gd_uf, gv_true, gv_false, gv_tf, gv_ft, gv_ut, gv_uf, gE_true, gE_false, gE_tf, gE_ft, gE_ut, gE_uf, gU_true, gU_false, gU_tf, gU_ft, pickv_true, pickv_false, cnd_true, cnd_false, decide_true, decide_false, Bool.not_true, Bool.not_false, pr_not, nilv_some, bp_lss, bp_leq, bp_gtr, bp_geq, be_eql, be_neq, bne_self_eq_false, beq_self_eq_true, ldC_some, Option.isNone_none, Option.isNone_some, hp_drew]
        exact ⟨by rw [mayC, decide_eq_false h3]; simp, c0⟩
    · simp -implicitDefEqProofs only [decide_eq_false h2, wpB_some', gd_true, gd_false, gd_tf, gd_ft, gd_ut, gd_uf, gv_true, gv_false, gv_tf, gv_ft, gv_ut, gv_uf, gE_true, gE_false, gE_tf, gE_ft, gE_ut, gE_uf, gU_true, gU_false, gU_tf, gU_ft, pickv_true, pickv_false, cnd_true, cnd_false, decide_true, decide_false, Bool.not_true, Bool.not_false, pr_not, nilv_some, bp_lss, bp_leq, bp_gtr, bp_geq, be_eql, be_neq, bne_self_eq_false, beq_self_eq_true, ldC_some, Option.isNone_none, Option.isNone_some, hp_drew]
      exact ⟨by rw [mayC, decide_eq_false h2]; simp, c0⟩
  · simp -implicitDefEqProofs only [decide_eq_false h1, wpB_some', gd_true, gd_false, gd_tf, gd_ft, gd_ut, gd_uf, gv_true, gv_false, gv_tf, gv_ft, gv_ut, gv_uf, gE_true, gE_false, gE_tf, gE_ft, gE_ut, gE_uf, gU_true, gU_false, gU_tf, gU_ft, pickv_true, pickv_false, cnd_true, cnd_false, decide_true, decide_false, Bool.not_true, Bool.not_false, pr_not, nilv_some, bp_lss, bp_leq, bp_gtr, bp_geq, be_eql, be_neq, bne_self_eq_false, beq_self_eq_true, ldC_some, Option.isNone_none, Option.isNone_some, hp_drew]
    exact ⟨by rw [mayC, decide_eq_false h1]; simp, c0⟩
/-- one without regions -/
def newM (c : CfV) (loose : Bool) : MdV := ⟨c, loose, List.replicate c.2.2.2.1.toNat (0, 0), [], List.replicate c.1.toNat ⟨0, []⟩⟩
theorem may_cf {c : CfV} (h : mayC c = true) : (1 ≤ c.1 ∧ c.1 ≤ 64) ∧ (1 ≤ c.2.1 ∧ c.2.1 ≤ 4096) ∧ (8 ≤ c.2.2.1 ∧ c.2.2.1 ≤ 1024) ∧ (1 ≤ c.2.2.2.1 ∧ c.2.2.2.1 ≤ 4096) := by
  simp only [mayC, Bool.and_eq_true, decide_eq_true_eq] at h
  exact ⟨h.1, h.2.1, h.2.2.1, h.2.2.2.2.1⟩
theorem wf_new {c : CfV} (h : mayC c = true) (l : Bool) : Wf (newM c l) 0 := by
  obtain ⟨h1, h2, h3, h4⟩ := may_cf h
  refine ⟨by show 1 ≤ c.2.2.1; omega, h3.2, by simp only [newM, List.length_replicate]; omega, fun p hp => ?_, fun d hd => ?_, Nat.le_refl _, fun r hr => by cases hr⟩
  · rw [List.eq_of_mem_replicate hp]; exact ⟨Int.le_refl _, by decide⟩
  · rw [List.eq_of_mem_replicate hd]; exact ⟨Int.le_refl _, by decide, Nat.zero_le _⟩
theorem made_flat {zs : List Value} {z : Nat} (hz : zs.length = z) (h0 : 0 < z) (n : Nat) : madeCells zs.toArray (n * z) = ((List.replicate n ()).flatMap fun _ => zs).toArray := by
  apply Array.ext_getElem?
  intro k
  rcases Nat.lt_or_ge k (n * z) with hk | hk
  · have hq : k / z < n := by rw [Nat.div_lt_iff_lt_mul h0]; exact hk
    have hm := Nat.mod_lt k h0
    have hkk : k = k / z * z + k % z := by rw [Nat.mul_comm]; exact (Nat.div_add_mod k z).symm
    have e := flatM_get (f := fun _ : Unit => zs) (fun _ => hz) (List.replicate n ()) (k / z) () (by simp [hq]) (k % z) hm
    rw [← hkk] at e
    have e1 : (((List.replicate n ()).flatMap fun _ => zs).toArray)[k]? = zs[k % z]? := by rw [List.getElem?_toArray, e]
    rw [e1, List.getElem?_eq_getElem (by omega)]
    simp only [madeCells, Array.getElem?_map, Array.getElem?_range, hk, if_true, Option.map_some, List.size_toArray, hz]
    rw [getElem!_pos _ _ (by simp [hz]; exact hm)]
    simp
  · have e1 : ((List.replicate n ()).flatMap fun _ => zs).length = n * z := by rw [flatM_len (z := z) (fun _ => hz)]; simp
    rw [Array.getElem?_eq_none (by simp [madeCells]; omega), Array.getElem?_eq_none (by rw [List.size_toArray, e1]; exact hk)]
/-- a new row of things of two cells -/
theorem row_new {e : TypeId} (n : Nat) (hn : n ≤ maxLen) (a b : Value) : (w.alloc (.cells ((List.replicate n ()).flatMap fun _ => [a, b]).toArray e)).ownsRow 0 e 2 (.slice (some ⟨w.heap.size, 0, none⟩) n n) n ((List.replicate n ()).flatMap fun _ => [a, b]) := by
  have hl : ((List.replicate n ()).flatMap fun _ => [a, b]).length = n * 2 := by rw [flatM_len (z := 2) (fun _ => rfl)]; simp
  exact ⟨hl, .inr ⟨w.heap.size, n, _, rfl, Nat.zero_le _, heap_alloc_new w _, Nat.le_refl _, hn, by rw [List.size_toArray]; exact hl, by simp [List.take_of_length_le (show ((List.replicate n ()).flatMap fun _ => [a, b]).length ≤ n * 2 by rw [hl]; exact Nat.le_refl _)]⟩⟩
theorem own_of_row {n : Nat} : (fun b => (Value.slice (some ⟨w.heap.size, 0, none⟩) n n).ownBlock = some b) = (fun b => b = w.heap.size) := by
  funext b
  simp [Value.ownBlock, eq_comm]
theorem slots_new (n : Nat) (hn : n ≤ maxLen) : slotsT (List.replicate n (0, 0)) (w.alloc (.cells ((List.replicate n ()).flatMap fun _ => [Value.int .i64 0, Value.int .i64 0]).toArray 150)) (fun b => b = w.heap.size) (.slice (some ⟨w.heap.size, 0, none⟩) n n) := by
  have h2 := own_flat (row_new (w := w) (e := 150) n hn (.int .i64 0) (.int .i64 0))
  rw [own_of_row] at h2
  have e : (List.replicate n ((0 : Int), (0 : Int))).flatMap nmC = (List.replicate n ()).flatMap fun _ => [Value.int .i64 0, Value.int .i64 0] := by
    induction n with
    | zero => rfl
    | succ n ih => rw [List.replicate_succ, List.replicate_succ, List.flatMap_cons, List.flatMap_cons, ih (by omega) (own_of_row ▸ own_flat (row_new n (by omega) _ _))]; rfl
  rw [slotsT, List.length_replicate, e]
  exact h2
theorem hands_new (n : Nat) (hn : n ≤ maxLen) : handsT (List.replicate n ⟨0, []⟩) (w.alloc (.cells ((List.replicate n ()).flatMap fun _ => [Value.int .i64 0, Value.slice none 0 0]).toArray 137)) (fun b => b = w.heap.size) (.slice (some ⟨w.heap.size, 0, none⟩) n n) := by
  have h := row_new (w := w) (e := 137) n hn (.int .i64 0) (.slice none 0 0)
  refine ⟨_, fun _ => none', by rw [List.length_replicate]; exact h, ⟨?_, fun k P v hP hv => ?_, fun _ _ _ _ _ b hb _ => hb⟩, fun b ⟨_, _, hb⟩ => hb.elim, fun b => ⟨fun hb => .inl (by rw [hb]; rfl), fun hb => ?_⟩⟩
  · rw [flatM_len (z := 2) hdT_len, flatM_len (z := 2) (fun _ => rfl)]; simp
  · have hk := (List.getElem?_eq_some_iff.1 hP).1
    rw [flatM_len (z := 2) hdT_len, List.length_replicate] at hk
    have hq : k / 2 < n := by omega
    have hkk : k = k / 2 * 2 + k % 2 := by omega
    rw [hkk] at hP hv
    rw [flatM_get hdT_len _ (k / 2) ⟨0, []⟩ (by simp [hq]) (k % 2) (by omega)] at hP
    rw [flatM_get (z := 2) (f := fun _ : Unit => [Value.int .i64 0, Value.slice none 0 0]) (fun _ => rfl) _ (k / 2) () (by simp [hq]) (k % 2) (by omega)] at hv
    have h2 : k % 2 = 0 ∨ k % 2 = 1 := by omega
    rcases h2 with h2 | h2 <;> rw [h2] at hP hv <;> cases hP <;> cases hv
    · exact ⟨rfl, fun _ h => h⟩
    · exact isRow.nil
  · rcases hb with hb | ⟨_, _, hb⟩
    · simp [Value.ownBlock] at hb; exact hb.symm
    · exact hb.elim
theorem model_parts {c : CfV} {S R H : List Value} {m : MdV} {sv rv hv : Value} {Fs Fr Fh : Fp} (hm : m.c = c) (hs : slotsT m.slots w Fs sv) (hr : rgsT m.rgs w Fr rv) (hh : handsT m.hands w Fh hv) (d1 : FDis Fs Fr) (d2 : FDis Fs Fh) (d3 : FDis Fr Fh) :
    Parts w (mdT m) (cfC c ++ [.bool m.loose, sv, rv, hv]) (fun k => if k = 7 then Fs else if k = 8 then Fr else if k = 9 then Fh else none') := by
  subst hm
  refine ⟨rfl, fun k P v hP hv' => ?_, fun j k hj hk hjk b h1 h2 => ?_⟩
  · have hk := (List.getElem?_eq_some_iff.1 hP).1
    have hk' : (mdT m).length = 10 := rfl
    rw [hk'] at hk
    have h10 : k = 0 ∨ k = 1 ∨ k = 2 ∨ k = 3 ∨ k = 4 ∨ k = 5 ∨ k = 6 ∨ k = 7 ∨ k = 8 ∨ k = 9 := by omega
    rcases h10 with rfl | rfl | rfl | rfl | rfl | rfl | rfl | rfl | rfl | rfl <;> cases hP <;> cases hv'
    · exact ⟨rfl, fun _ h => h⟩
    · exact ⟨rfl, fun _ h => h⟩
    · exact ⟨rfl, fun _ h => h⟩
    · exact ⟨rfl, fun _ h => h⟩
    · exact ⟨rfl, fun _ h => h⟩
    · exact ⟨rfl, fun _ h => h⟩
    · exact ⟨rfl, fun _ h => h⟩
    · exact hs
    · exact hr
    · exact hh
  · have e : ∀ k, (if k = 7 then Fs else if k = 8 then Fr else if k = 9 then Fh else none') b → (k = 7 ∧ Fs b) ∨ (k = 8 ∧ Fr b) ∨ (k = 9 ∧ Fh b) := by
      intro k h
      split at h
      · exact .inl ⟨by assumption, h⟩
      split at h
      · exact .inr (.inl ⟨by assumption, h⟩)
      split at h
      · exact .inr (.inr ⟨by assumption, h⟩)
      · exact h.elim
    rcases e j h1 with ⟨a1, a2⟩ | ⟨a1, a2⟩ | ⟨a1, a2⟩ <;> rcases e k h2 with ⟨b1, b2⟩ | ⟨b1, b2⟩ | ⟨b1, b2⟩
    · omega
    · exact d1 b a2 b2
    · exact d2 b a2 b2
    · exact d1 b b2 a2
    · omega
    · exact d3 b a2 b2
    · exact d2 b b2 a2
    · exact d3 b b2 a2
    · omega
end
end Go.Proofs.Ytgamnncehjcdiaa

namespace Go.Proofs.Ytgamnncehjcdiaa
open Go Ev Go.RowKit
set_option linter.unusedSimpArgs false
set_option linter.unusedVariables false
set_option maxRecDepth 10000

section
variable {w : World} {g : Nat} {m : MdV} {F : Fp} {K : Nat}
/-- what a maker of models answers -/
def Made (w : World) (c : CfV) (m : MdV) (v : Value) (w' : World) : Prop := Chg [] w w' ∧ ((mayC c = false ∧ v = .tuple #[.pointer none, .int .i64 1]) ∨ (mayC c = true ∧ ∃ g F, v = .tuple #[.pointer (some ⟨g, 0, none⟩), .int .i64 0] ∧ MdI w' g m F ∧ ∀ k, F k → w.heap.size ≤ k))
set_option maxHeartbeats 1000000 in
theorem c_mNew (c : CfV) (w : World) : CallR Try.prog 41 [.agg (cfC c).toArray] w fun v w' => Made w c (newM c false) v w' := by
  apply F41_ok
  have b1 : hp (w.alloc (.cells (cfC c).toArray 74)) w.heap.size = some (.cells (cfC c).toArray 74) := by rw [alloc_heap, if_pos rfl]
  have c0 : Chg [] w (w.alloc (.cells (cfC c).toArray 74)) := (Chg.refl _ _).alloc _
  simp -implicitDefEqProofs only [F41, effv_box, cells_agg]
  generalize w.alloc (.cells (cfC c).toArray 74) = w0 at *
  simp -implicitDefEqProofs only [ld_cf b1, wpB_some']
  refine (c_layMay c w0).mono ?_
  rintro _ w1 ⟨rfl, k1⟩
  have c1 := c0.trans k1
  have b2 := k1.at b1 (by simp)
  cases hm : mayC c with
  | false =>
    simp -implicitDefEqProofs only [wpB_some', gd_true, gd_false, gd_tf, gd_ft, gd_ut, gd_uf, gv_true, gv_false, gv_tf, gv_ft, gv_ut, gv_uf, gE_true, gE_false, gE_tf, gE_ft, gE_ut, gE_uf, gU_true, gU_false, gU_tf, gU_ft, pickv_true, pickv_false, cnd_true, cnd_false, decide_true, decide_false, Bool.not_true, Bool.not_false, pr_not, nilv_some, bp_lss, bp_leq, bp_gtr, bp_geq, be_eql, be_neq, bne_self_eq_false, beq_self_eq_true, ldC_some, Option.isNone_none, Option.isNone_some, hp_drew]
    exact ⟨c1, .inl ⟨hm, by first | rfl | trivial⟩⟩
  | true =>
    obtain ⟨h1, h2, h3, h4⟩ := may_cf hm
    have b2d : hp w1.drew w.heap.size = some (.cells (cfC c).toArray 74) := b2
    have cd := c1.drew
    obtain ⟨is, his, hzs, hss, hbs⟩ := inf_150
    obtain ⟨ih, hih, hzh, hsh, hbh⟩ := inf_137
    have e3 : (cfC c).toArray[0 + 3]? = some (.int .i64 ((c.2.2.2.1.toNat : Nat) : Int)) := by rw [cf_3]; congr; omega
    have e0 : (cfC c).toArray[0 + 0]? = some (.int .i64 ((c.1.toNat : Nat) : Int)) := by rw [cf_0]; congr; omega
    have nm : newM c false = ⟨c, false, List.replicate c.2.2.2.1.toNat (0, 0), [], List.replicate c.1.toNat ⟨0, []⟩⟩ := rfl
    have l1 : c.2.2.2.1.toNat ≤ 4096 := by omega
    have l2 : c.1.toNat ≤ 64 := by omega
    generalize c.2.2.2.1.toNat = ns at *
    generalize c.1.toNat = nh at *
    have mks : madeCells (Value.agg #[.int .i64 0, .int .i64 0]).cells (ns * is.size) = ((List.replicate ns ()).flatMap fun _ => [Value.int .i64 0, Value.int .i64 0]).toArray := by rw [hss]; exact made_flat (zs := [Value.int .i64 0, Value.int .i64 0]) rfl (by decide) ns
    have mkh : madeCells (Value.agg #[.int .i64 0, .slice none 0 0]).cells (nh * ih.size) = ((List.replicate nh ()).flatMap fun _ => [Value.int .i64 0, Value.slice none 0 0]).toArray := by rw [hsh]; exact made_flat (zs := [Value.int .i64 0, Value.slice none 0 0]) rfl (by decide) nh
    have fin : ∀ (w2 : World) (Fs Fh : Fp) (sb hb : Nat), Chg [] w w2 → slotsT (List.replicate ns (0, 0)) w2 Fs (.slice (some ⟨sb, 0, none⟩) ns ns) → handsT (List.replicate nh ⟨0, []⟩) w2 Fh (.slice (some ⟨hb, 0, none⟩) nh nh) → FDis Fs Fh → (∀ k, Fs k → w.heap.size ≤ k) → (∀ k, Fh k → w.heap.size ≤ k) →
        Made w c (newM c false) (.tuple #[.pointer (some ⟨w2.heap.size, 0, none⟩), .int .i64 0]) (w2.alloc (.cells (cfC c ++ [Value.bool false, Value.slice (some ⟨sb, 0, none⟩) ns ns, Value.slice none 0 0, Value.slice (some ⟨hb, 0, none⟩) nh nh]).toArray 132)) := by
      intro w2 Fs Fh sb hb c2 hs hh hd ns' nh'
      have hp' := model_parts (S := []) (R := []) (H := []) (m := newM c false) (c := c) (rv := .slice none 0 0) (Fr := none') rfl (by rw [nm]; exact hs) (by rw [nm]; exact isRow.nil) (by rw [nm]; exact hh) (fun _ _ h => h) hd (fun _ h _ => h)
      refine ⟨c2.alloc _, .inr ⟨hm, w2.heap.size, _, rfl, isAt.new hp' (good_md _), fun k hk => ?_⟩⟩
      rcases hk with hk | ⟨j, _, hk⟩
      · rw [hk]; exact c2.size
      · split at hk
        · exact ns' k hk
        split at hk
        · exact hk.elim
        split at hk
        · exact nh' k hk
        · exact hk.elim
    have len2 : maxLen = maxLen := rfl
    have hml : ns ≤ maxLen ∧ nh ≤ maxLen := by unfold maxLen; omega
    simp -implicitDefEqProofs only [wpB_some', gd_true, gd_false, gd_tf, gd_ft, gd_ut, gd_uf, gv_true, gv_false, gv_tf, gv_ft, gv_ut, gv_uf, gE_true, gE_false, gE_tf, gE_ft, gE_ut, gE_uf, gU_true, gU_false, gU_tf, gU_ft, pickv_true, pickv_false, cnd_true, cnd_false, decide_true, decide_false, Bool.not_true, Bool.not_false, pr_not, nilv_some, bp_lss, bp_leq, bp_gtr, bp_geq, be_eql, be_neq, bne_self_eq_false, beq_self_eq_true, ldC_some, Option.isNone_none, Option.isNone_some, hp_drew, fa_74_3, fa_74_0, ld_3, ld_cf b2d, b2, e3, e0, effv_make (P := Try.prog) (kl := .i64) (kc := .i64) (n := ns) Try.underlying128 his hzs (by rw [hss]; omega) (by rw [hbs]; omega) (by omega), effv_make (P := Try.prog) (kl := .i64) (kc := .i64) (n := nh) Try.underlying129 hih hzh (by rw [hsh]; omega) (by rw [hbh]; omega) (by omega), mks, mkh]
    have hbd : ∀ a b, pureRun Try.prog (Instr.build 132 #[(0, .agg (cfC c).toArray), (2, .slice (some ⟨a, 0, none⟩) ns ns), (4, .slice (some ⟨b, 0, none⟩) nh nh)]) = some (.agg (cfC c ++ [Value.bool false, Value.slice (some ⟨a, 0, none⟩) ns ns, Value.slice none 0 0, Value.slice (some ⟨b, 0, none⟩) nh nh]).toArray) := fun a b => bd_132_0_2_4
    simp -implicitDefEqProofs only [hbd, wpB_some', effv_box, cells_agg]
    have sz : w.heap.size ≤ w1.drew.heap.size := cd.size
    constructor
    · have s1 := slots_new (w := w1.drew) ns hml.1
      generalize hwA : w1.drew.alloc (.cells ((List.replicate ns ()).flatMap fun _ => [Value.int .i64 0, Value.int .i64 0]).toArray 150) = wA at *
      have cA : Chg [] w1.drew wA := by rw [← hwA]; exact (Chg.refl _ _).alloc _
      have sA : wA.heap.size = w1.drew.heap.size + 1 := by rw [← hwA, alloc_size]
      have h1 := hands_new (w := wA) nh hml.2
      have cB : Chg [] wA (wA.alloc (.cells ((List.replicate nh ()).flatMap fun _ => [Value.int .i64 0, Value.slice none 0 0]).toArray 137)) := (Chg.refl _ _).alloc _
      exact fin _ _ _ _ _ ((cd.trans cA).trans cB) ((good_slots _).frame s1 (ChgP.of0 cB none') fun _ _ h => h) h1 (fun k h1 h2 => by omega) (fun k hk => by omega) (fun k hk => by omega)
    · have s1 := hands_new (w := w1.drew) nh hml.2
      generalize hwA : w1.drew.alloc (.cells ((List.replicate nh ()).flatMap fun _ => [Value.int .i64 0, Value.slice none 0 0]).toArray 137) = wA at *
      have cA : Chg [] w1.drew wA := by rw [← hwA]; exact (Chg.refl _ _).alloc _
      have sA : wA.heap.size = w1.drew.heap.size + 1 := by rw [← hwA, alloc_size]
      have h1 := slots_new (w := wA) ns hml.1
      have cB : Chg [] wA (wA.alloc (.cells ((List.replicate ns ()).flatMap fun _ => [Value.int .i64 0, Value.int .i64 0]).toArray 150)) := (Chg.refl _ _).alloc _
      exact fin _ _ _ _ _ ((cd.trans cA).trans cB) h1 ((good_hands _).frame s1 (ChgP.of0 cB none') fun _ _ h => h) (fun k h1 h2 => by omega) (fun k hk => by omega) (fun k hk => by omega)
set_option maxHeartbeats 1000000 in
theorem c_mLoose (c : CfV) (w : World) : CallR Try.prog 87 [.agg (cfC c).toArray] w fun v w' => Made w c (newM c true) v w' := by
  apply F87_ok
  have b1 : hp (w.alloc (.cells (cfC c).toArray 74)) w.heap.size = some (.cells (cfC c).toArray 74) := by rw [alloc_heap, if_pos rfl]
  have c0 : Chg [] w (w.alloc (.cells (cfC c).toArray 74)) := (Chg.refl _ _).alloc _
  have s0 : (w.alloc (.cells (cfC c).toArray 74)).heap.size = w.heap.size + 1 := alloc_size _ _
  simp -implicitDefEqProofs only [F87, effv_box, cells_agg]
  generalize w.alloc (.cells (cfC c).toArray 74) = w0 at *
  simp -implicitDefEqProofs only [ld_cf b1, wpB_some']
  refine (c_mNew c w0).mono ?_
  rintro v w1 ⟨k1, hv⟩
  have c1 := c0.trans k1
  rcases hv with ⟨hm, rfl⟩ | ⟨hm, g, F, rfl, I, hF⟩
  · have e : ((1 : Int) == 0) = false := rfl
    simp -implicitDefEqProofs only [tup0, tup1, wpB_some', gd_true, gd_false, gd_tf, gd_ft, gd_ut, gd_uf, gv_true, gv_false, gv_tf, gv_ft, gv_ut, gv_uf, gE_true, gE_false, gE_tf, gE_ft, gE_ut, gE_uf, gU_true, gU_false, gU_tf, gU_ft, pickv_true, pickv_false, cnd_true, cnd_false, decide_true, decide_false, Bool.not_true, Bool.not_false, pr_not, nilv_some, bp_lss, bp_leq, bp_gtr, bp_geq, be_eql, be_neq, bne_self_eq_false, beq_self_eq_true, ldC_some, Option.isNone_none, Option.isNone_some, hp_drew, e]
    apply L87_0_ok
    exact ⟨c1, .inl ⟨hm, rfl⟩⟩
  · obtain ⟨v, Fk, hg, hng, hsub, hld, hv, _, hput⟩ := isAt.cell I (good_md _) (k := 6) (P := isV (.bool false)) rfl
    obtain ⟨ok, F1, h1, h2⟩ := hput w1 none' (isV (.bool true)) (.bool true) (UpdP.none hv.2 w1) (good_isV ⟨rfl, rfl⟩) ⟨rfl, fun _ h => h⟩
    have e : ((0 : Int) == 0) = true := rfl
    simp -implicitDefEqProofs only [tup0, tup1, wpB_some', gd_true, gd_false, gd_tf, gd_ft, gd_ut, gd_uf, gv_true, gv_false, gv_tf, gv_ft, gv_ut, gv_uf, gE_true, gE_false, gE_tf, gE_ft, gE_ut, gE_uf, gU_true, gU_false, gU_tf, gU_ft, pickv_true, pickv_false, cnd_true, cnd_false, decide_true, decide_false, Bool.not_true, Bool.not_false, pr_not, nilv_some, bp_lss, bp_leq, bp_gtr, bp_geq, be_eql, be_neq, bne_self_eq_false, beq_self_eq_true, ldC_some, Option.isNone_none, Option.isNone_some, hp_drew, e, fa_132_1]
    rw [st_4 (o := 0 + 6) rfl rfl ok]
    apply L87_0_ok
    refine ⟨⟨h2.chg.os.trans c1.os, h2.chg.tape.trans c1.tape, h2.chg.output.trans c1.output, Nat.le_trans c1.size h2.chg.size, fun k hk _ => ?_⟩, .inr ⟨hm, g, F1, rfl, h1, fun k hk => ?_⟩⟩
    · rw [h2.chg.block k (Nat.lt_of_lt_of_le hk c1.size) fun h => by have := hF k h; omega]
      exact c1.block k hk (by simp)
    · have := c1.size
      rcases h2.sub k hk with h | h
      · have := hF k h; omega
      · omega
end
end Go.Proofs.Ytgamnncehjcdiaa

namespace Go.Proofs.Ytgamnncehjcdiaa
open Go Ev
set_option linter.unusedVariables false
set_option maxRecDepth 100000
noncomputable def C88 : Code := (Try.f88.body).getD .skip
noncomputable def H88 : Hints := ⟨[], [], [(1, (.ask 4 7 (.ask 4 10 (.ask 4 13 (.ask 7 10 (.ask 7 13 (.ask 10 13 (.leaf [1, 2, 5, 8, 11, 0, 3, 6, 9, 12, 4, 7, 10, 13, 14, 15, 16]) (.leaf [1, 2, 5, 8, 11, 0, 3, 6, 9, 12, 4, 7, 13, 10, 14, 15, 16])) (.leaf [1, 2, 5, 8, 11, 0, 3, 6, 9, 12, 4, 13, 7, 10, 14, 15, 16])) (.ask 10 13 (.ask 7 13 (.leaf [1, 2, 5, 8, 11, 0, 3, 6, 9, 12, 4, 10, 7, 13, 14, 15, 16]) (.leaf [1, 2, 5, 8, 11, 0, 3, 6, 9, 12, 4, 10, 13, 7, 14, 15, 16])) (.leaf [1, 2, 5, 8, 11, 0, 3, 6, 9, 12, 4, 13, 10, 7, 14, 15, 16]))) (.ask 7 10 (.leaf [1, 2, 5, 8, 11, 0, 3, 6, 9, 12, 13, 4, 7, 10, 14, 15, 16]) (.leaf [1, 2, 5, 8, 11, 0, 3, 6, 9, 12, 13, 4, 10, 7, 14, 15, 16]))) (.ask 10 13 (.ask 4 13 (.ask 7 13 (.leaf [1, 2, 5, 8, 11, 0, 3, 6, 9, 12, 10, 4, 7, 13, 14, 15, 16]) (.leaf [1, 2, 5, 8, 11, 0, 3, 6, 9, 12, 10, 4, 13, 7, 14, 15, 16])) (.leaf [1, 2, 5, 8, 11, 0, 3, 6, 9, 12, 10, 13, 4, 7, 14, 15, 16])) (.leaf [1, 2, 5, 8, 11, 0, 3, 6, 9, 12, 13, 10, 4, 7, 14, 15, 16]))) (.ask 7 10 (.ask 7 13 (.ask 4 10 (.ask 4 13 (.ask 10 13 (.leaf [1, 2, 5, 8, 11, 0, 3, 6, 9, 12, 7, 4, 10, 13, 14, 15, 16]) (.leaf [1, 2, 5, 8, 11, 0, 3, 6, 9, 12, 7, 4, 13, 10, 14, 15, 16])) (.leaf [1, 2, 5, 8, 11, 0, 3, 6, 9, 12, 7, 13, 4, 10, 14, 15, 16])) (.ask 10 13 (.ask 4 13 (.leaf [1, 2, 5, 8, 11, 0, 3, 6, 9, 12, 7, 10, 4, 13, 14, 15, 16]) (.leaf [1, 2, 5, 8, 11, 0, 3, 6, 9, 12, 7, 10, 13, 4, 14, 15, 16])) (.leaf [1, 2, 5, 8, 11, 0, 3, 6, 9, 12, 7, 13, 10, 4, 14, 15, 16]))) (.ask 4 10 (.leaf [1, 2, 5, 8, 11, 0, 3, 6, 9, 12, 13, 7, 4, 10, 14, 15, 16]) (.leaf [1, 2, 5, 8, 11, 0, 3, 6, 9, 12, 13, 7, 10, 4, 14, 15, 16]))) (.ask 10 13 (.ask 7 13 (.ask 4 13 (.leaf [1, 2, 5, 8, 11, 0, 3, 6, 9, 12, 10, 7, 4, 13, 14, 15, 16]) (.leaf [1, 2, 5, 8, 11, 0, 3, 6, 9, 12, 10, 7, 13, 4, 14, 15, 16])) (.leaf [1, 2, 5, 8, 11, 0, 3, 6, 9, 12, 10, 13, 7, 4, 14, 15, 16])) (.leaf [1, 2, 5, 8, 11, 0, 3, 6, 9, 12, 13, 10, 7, 4, 14, 15, 16])))))]⟩
def F88 (a0 a1 : Value) (w : World) (Q : Value → World → Prop) : Prop :=
  effv Try.prog (Instr.box 74 a0) w fun t2 w =>
  ((((((wpB (pureRun Try.prog (Instr.fieldAt 74 t2 3)) fun t7 =>
  wpB (pureRun Try.prog (Instr.fieldAt 74 t2 3)) fun t10 =>
  wpB (pureRun Try.prog (Instr.fieldAt 74 t2 0)) fun t13 =>
  wpB (pureRun Try.prog (Instr.fieldAt 74 t2 0)) fun t16 =>
  wpB (ldv Try.prog 74 t2 w.drew) fun t5 =>
  wpB (ldv Try.prog 3 t7 w.drew) fun t8 =>
  wpB (ldv Try.prog 3 t10 w.drew) fun t11 =>
  wpB (ldv Try.prog 3 t13 w.drew) fun t14 =>
  wpB (ldv Try.prog 3 t16 w.drew) fun t17 =>
  effv Try.prog (Instr.makeSlice 23 t8 t8) w.drew fun t9 w =>
  effv Try.prog (Instr.makeSlice 23 t11 t11) w fun t12 w =>
  effv Try.prog (Instr.makeSlice 23 t14 t14) w fun t15 w =>
  effv Try.prog (Instr.makeSlice 152 t17 t17) w fun t18 w =>
  wpB (pureRun Try.prog (Instr.build 154 #[(0, t5), (1, a1), (2, t9), (3, t12), (5, t15), (6, t18)])) fun t19 =>
  effv Try.prog (Instr.box 154 t19) w fun t20 w =>
  Q t20 w) ∧
  (wpB (pureRun Try.prog (Instr.fieldAt 74 t2 3)) fun t7_1 =>
  wpB (pureRun Try.prog (Instr.fieldAt 74 t2 3)) fun t10_1 =>
  wpB (pureRun Try.prog (Instr.fieldAt 74 t2 0)) fun t13_1 =>
  wpB (pureRun Try.prog (Instr.fieldAt 74 t2 0)) fun t16_1 =>
  wpB (ldv Try.prog 74 t2 w.drew) fun t5_1 =>
  wpB (ldv Try.prog 3 t7_1 w.drew) fun t8_1 =>
  wpB (ldv Try.prog 3 t10_1 w.drew) fun t11_1 =>
  wpB (ldv Try.prog 3 t13_1 w.drew) fun t14_1 =>
  wpB (ldv Try.prog 3 t16_1 w.drew) fun t17_1 =>
  effv Try.prog (Instr.makeSlice 23 t8_1 t8_1) w.drew fun t9_1 w =>
  effv Try.prog (Instr.makeSlice 23 t11_1 t11_1) w fun t12_1 w =>
  effv Try.prog (Instr.makeSlice 152 t17_1 t17_1) w fun t18_1 w =>
  effv Try.prog (Instr.makeSlice 23 t14_1 t14_1) w fun t15_1 w =>
  wpB (pureRun Try.prog (Instr.build 154 #[(0, t5_1), (1, a1), (2, t9_1), (3, t12_1), (5, t15_1), (6, t18_1)])) fun t19_1 =>
  effv Try.prog (Instr.box 154 t19_1) w fun t20_1 w =>
  Q t20_1 w)) ∧
  (wpB (pureRun Try.prog (Instr.fieldAt 74 t2 3)) fun t7_2 =>
  wpB (pureRun Try.prog (Instr.fieldAt 74 t2 3)) fun t10_2 =>
  wpB (pureRun Try.prog (Instr.fieldAt 74 t2 0)) fun t13_2 =>
  wpB (pureRun Try.prog (Instr.fieldAt 74 t2 0)) fun t16_2 =>
  wpB (ldv Try.prog 74 t2 w.drew) fun t5_2 =>
  wpB (ldv Try.prog 3 t7_2 w.drew) fun t8_2 =>
  wpB (ldv Try.prog 3 t10_2 w.drew) fun t11_2 =>
  wpB (ldv Try.prog 3 t13_2 w.drew) fun t14_2 =>
  wpB (ldv Try.prog 3 t16_2 w.drew) fun t17_2 =>
  effv Try.prog (Instr.makeSlice 23 t8_2 t8_2) w.drew fun t9_2 w =>
  effv Try.prog (Instr.makeSlice 152 t17_2 t17_2) w fun t18_2 w =>
  effv Try.prog (Instr.makeSlice 23 t11_2 t11_2) w fun t12_2 w =>
  effv Try.prog (Instr.makeSlice 23 t14_2 t14_2) w fun t15_2 w =>
  wpB (pureRun Try.prog (Instr.build 154 #[(0, t5_2), (1, a1), (2, t9_2), (3, t12_2), (5, t15_2), (6, t18_2)])) fun t19_2 =>
  effv Try.prog (Instr.box 154 t19_2) w fun t20_2 w =>
  Q t20_2 w)) ∧
  (((wpB (pureRun Try.prog (Instr.fieldAt 74 t2 3)) fun t7_3 =>
  wpB (pureRun Try.prog (Instr.fieldAt 74 t2 3)) fun t10_3 =>
  wpB (pureRun Try.prog (Instr.fieldAt 74 t2 0)) fun t13_3 =>
  wpB (pureRun Try.prog (Instr.fieldAt 74 t2 0)) fun t16_3 =>
  wpB (ldv Try.prog 74 t2 w.drew) fun t5_3 =>
  wpB (ldv Try.prog 3 t7_3 w.drew) fun t8_3 =>
  wpB (ldv Try.prog 3 t10_3 w.drew) fun t11_3 =>
  wpB (ldv Try.prog 3 t13_3 w.drew) fun t14_3 =>
  wpB (ldv Try.prog 3 t16_3 w.drew) fun t17_3 =>
  effv Try.prog (Instr.makeSlice 23 t8_3 t8_3) w.drew fun t9_3 w =>
  effv Try.prog (Instr.makeSlice 23 t14_3 t14_3) w fun t15_3 w =>
  effv Try.prog (Instr.makeSlice 23 t11_3 t11_3) w fun t12_3 w =>
  effv Try.prog (Instr.makeSlice 152 t17_3 t17_3) w fun t18_3 w =>
  wpB (pureRun Try.prog (Instr.build 154 #[(0, t5_3), (1, a1), (2, t9_3), (3, t12_3), (5, t15_3), (6, t18_3)])) fun t19_3 =>
  effv Try.prog (Instr.box 154 t19_3) w fun t20_3 w =>
  Q t20_3 w) ∧
  (wpB (pureRun Try.prog (Instr.fieldAt 74 t2 3)) fun t7_4 =>
  wpB (pureRun Try.prog (Instr.fieldAt 74 t2 3)) fun t10_4 =>
  wpB (pureRun Try.prog (Instr.fieldAt 74 t2 0)) fun t13_4 =>
  wpB (pureRun Try.prog (Instr.fieldAt 74 t2 0)) fun t16_4 =>
  wpB (ldv Try.prog 74 t2 w.drew) fun t5_4 =>
  wpB (ldv Try.prog 3 t7_4 w.drew) fun t8_4 =>
  wpB (ldv Try.prog 3 t10_4 w.drew) fun t11_4 =>
  wpB (ldv Try.prog 3 t13_4 w.drew) fun t14_4 =>
  wpB (ldv Try.prog 3 t16_4 w.drew) fun t17_4 =>
  effv Try.prog (Instr.makeSlice 23 t8_4 t8_4) w.drew fun t9_4 w =>
  effv Try.prog (Instr.makeSlice 23 t14_4 t14_4) w fun t15_4 w =>
  effv Try.prog (Instr.makeSlice 152 t17_4 t17_4) w fun t18_4 w =>
  effv Try.prog (Instr.makeSlice 23 t11_4 t11_4) w fun t12_4 w =>
  wpB (pureRun Try.prog (Instr.build 154 #[(0, t5_4), (1, a1), (2, t9_4), (3, t12_4), (5, t15_4), (6, t18_4)])) fun t19_4 =>
  effv Try.prog (Instr.box 154 t19_4) w fun t20_4 w =>
  Q t20_4 w)) ∧
  (wpB (pureRun Try.prog (Instr.fieldAt 74 t2 3)) fun t7_5 =>
  wpB (pureRun Try.prog (Instr.fieldAt 74 t2 3)) fun t10_5 =>
  wpB (pureRun Try.prog (Instr.fieldAt 74 t2 0)) fun t13_5 =>
  wpB (pureRun Try.prog (Instr.fieldAt 74 t2 0)) fun t16_5 =>
  wpB (ldv Try.prog 74 t2 w.drew) fun t5_5 =>
  wpB (ldv Try.prog 3 t7_5 w.drew) fun t8_5 =>
  wpB (ldv Try.prog 3 t10_5 w.drew) fun t11_5 =>
  wpB (ldv Try.prog 3 t13_5 w.drew) fun t14_5 =>
  wpB (ldv Try.prog 3 t16_5 w.drew) fun t17_5 =>
  effv Try.prog (Instr.makeSlice 23 t8_5 t8_5) w.drew fun t9_5 w =>
  effv Try.prog (Instr.makeSlice 152 t17_5 t17_5) w fun t18_5 w =>
  effv Try.prog (Instr.makeSlice 23 t14_5 t14_5) w fun t15_5 w =>
  effv Try.prog (Instr.makeSlice 23 t11_5 t11_5) w fun t12_5 w =>
  wpB (pureRun Try.prog (Instr.build 154 #[(0, t5_5), (1, a1), (2, t9_5), (3, t12_5), (5, t15_5), (6, t18_5)])) fun t19_5 =>
  effv Try.prog (Instr.box 154 t19_5) w fun t20_5 w =>
  Q t20_5 w))) ∧
  ((wpB (pureRun Try.prog (Instr.fieldAt 74 t2 3)) fun t7_6 =>
  wpB (pureRun Try.prog (Instr.fieldAt 74 t2 3)) fun t10_6 =>
  wpB (pureRun Try.prog (Instr.fieldAt 74 t2 0)) fun t13_6 =>
  wpB (pureRun Try.prog (Instr.fieldAt 74 t2 0)) fun t16_6 =>
  wpB (ldv Try.prog 74 t2 w.drew) fun t5_6 =>
  wpB (ldv Try.prog 3 t7_6 w.drew) fun t8_6 =>
  wpB (ldv Try.prog 3 t10_6 w.drew) fun t11_6 =>
  wpB (ldv Try.prog 3 t13_6 w.drew) fun t14_6 =>
  wpB (ldv Try.prog 3 t16_6 w.drew) fun t17_6 =>
  effv Try.prog (Instr.makeSlice 152 t17_6 t17_6) w.drew fun t18_6 w =>
  effv Try.prog (Instr.makeSlice 23 t8_6 t8_6) w fun t9_6 w =>
  effv Try.prog (Instr.makeSlice 23 t11_6 t11_6) w fun t12_6 w =>
  effv Try.prog (Instr.makeSlice 23 t14_6 t14_6) w fun t15_6 w =>
  wpB (pureRun Try.prog (Instr.build 154 #[(0, t5_6), (1, a1), (2, t9_6), (3, t12_6), (5, t15_6), (6, t18_6)])) fun t19_6 =>
  effv Try.prog (Instr.box 154 t19_6) w fun t20_6 w =>
  Q t20_6 w) ∧
  (wpB (pureRun Try.prog (Instr.fieldAt 74 t2 3)) fun t7_7 =>
  wpB (pureRun Try.prog (Instr.fieldAt 74 t2 3)) fun t10_7 =>
  wpB (pureRun Try.prog (Instr.fieldAt 74 t2 0)) fun t13_7 =>
  wpB (pureRun Try.prog (Instr.fieldAt 74 t2 0)) fun t16_7 =>
  wpB (ldv Try.prog 74 t2 w.drew) fun t5_7 =>
  wpB (ldv Try.prog 3 t7_7 w.drew) fun t8_7 =>
  wpB (ldv Try.prog 3 t10_7 w.drew) fun t11_7 =>
  wpB (ldv Try.prog 3 t13_7 w.drew) fun t14_7 =>
  wpB (ldv Try.prog 3 t16_7 w.drew) fun t17_7 =>
  effv Try.prog (Instr.makeSlice 152 t17_7 t17_7) w.drew fun t18_7 w =>
  effv Try.prog (Instr.makeSlice 23 t8_7 t8_7) w fun t9_7 w =>
  effv Try.prog (Instr.makeSlice 23 t14_7 t14_7) w fun t15_7 w =>
  effv Try.prog (Instr.makeSlice 23 t11_7 t11_7) w fun t12_7 w =>
  wpB (pureRun Try.prog (Instr.build 154 #[(0, t5_7), (1, a1), (2, t9_7), (3, t12_7), (5, t15_7), (6, t18_7)])) fun t19_7 =>
  effv Try.prog (Instr.box 154 t19_7) w fun t20_7 w =>
  Q t20_7 w))) ∧
  ((((wpB (pureRun Try.prog (Instr.fieldAt 74 t2 3)) fun t7_8 =>
  wpB (pureRun Try.prog (Instr.fieldAt 74 t2 3)) fun t10_8 =>
  wpB (pureRun Try.prog (Instr.fieldAt 74 t2 0)) fun t13_8 =>
  wpB (pureRun Try.prog (Instr.fieldAt 74 t2 0)) fun t16_8 =>
  wpB (ldv Try.prog 74 t2 w.drew) fun t5_8 =>
  wpB (ldv Try.prog 3 t7_8 w.drew) fun t8_8 =>
  wpB (ldv Try.prog 3 t10_8 w.drew) fun t11_8 =>
  wpB (ldv Try.prog 3 t13_8 w.drew) fun t14_8 =>
  wpB (ldv Try.prog 3 t16_8 w.drew) fun t17_8 =>
  effv Try.prog (Instr.makeSlice 23 t14_8 t14_8) w.drew fun t15_8 w =>
  effv Try.prog (Instr.makeSlice 23 t8_8 t8_8) w fun t9_8 w =>
  effv Try.prog (Instr.makeSlice 23 t11_8 t11_8) w fun t12_8 w =>
  effv Try.prog (Instr.makeSlice 152 t17_8 t17_8) w fun t18_8 w =>
  wpB (pureRun Try.prog (Instr.build 154 #[(0, t5_8), (1, a1), (2, t9_8), (3, t12_8), (5, t15_8), (6, t18_8)])) fun t19_8 =>
  effv Try.prog (Instr.box 154 t19_8) w fun t20_8 w =>
  Q t20_8 w) ∧
  (wpB (pureRun Try.prog (Instr.fieldAt 74 t2 3)) fun t7_9 =>
  wpB (pureRun Try.prog (Instr.fieldAt 74 t2 3)) fun t10_9 =>
  wpB (pureRun Try.prog (Instr.fieldAt 74 t2 0)) fun t13_9 =>
  wpB (pureRun Try.prog (Instr.fieldAt 74 t2 0)) fun t16_9 =>
  wpB (ldv Try.prog 74 t2 w.drew) fun t5_9 =>
  wpB (ldv Try.prog 3 t7_9 w.drew) fun t8_9 =>
  wpB (ldv Try.prog 3 t10_9 w.drew) fun t11_9 =>
  wpB (ldv Try.prog 3 t13_9 w.drew) fun t14_9 =>
  wpB (ldv Try.prog 3 t16_9 w.drew) fun t17_9 =>
  effv Try.prog (Instr.makeSlice 23 t14_9 t14_9) w.drew fun t15_9 w =>
  effv Try.prog (Instr.makeSlice 23 t8_9 t8_9) w fun t9_9 w =>
  effv Try.prog (Instr.makeSlice 152 t17_9 t17_9) w fun t18_9 w =>
  effv Try.prog (Instr.makeSlice 23 t11_9 t11_9) w fun t12_9 w =>
  wpB (pureRun Try.prog (Instr.build 154 #[(0, t5_9), (1, a1), (2, t9_9), (3, t12_9), (5, t15_9), (6, t18_9)])) fun t19_9 =>
  effv Try.prog (Instr.box 154 t19_9) w fun t20_9 w =>
  Q t20_9 w)) ∧
  (wpB (pureRun Try.prog (Instr.fieldAt 74 t2 3)) fun t7_10 =>
  wpB (pureRun Try.prog (Instr.fieldAt 74 t2 3)) fun t10_10 =>
  wpB (pureRun Try.prog (Instr.fieldAt 74 t2 0)) fun t13_10 =>
  wpB (pureRun Try.prog (Instr.fieldAt 74 t2 0)) fun t16_10 =>
  wpB (ldv Try.prog 74 t2 w.drew) fun t5_10 =>
  wpB (ldv Try.prog 3 t7_10 w.drew) fun t8_10 =>
  wpB (ldv Try.prog 3 t10_10 w.drew) fun t11_10 =>
  wpB (ldv Try.prog 3 t13_10 w.drew) fun t14_10 =>
  wpB (ldv Try.prog 3 t16_10 w.drew) fun t17_10 =>
  effv Try.prog (Instr.makeSlice 23 t14_10 t14_10) w.drew fun t15_10 w =>
  effv Try.prog (Instr.makeSlice 152 t17_10 t17_10) w fun t18_10 w =>
  effv Try.prog (Instr.makeSlice 23 t8_10 t8_10) w fun t9_10 w =>
  effv Try.prog (Instr.makeSlice 23 t11_10 t11_10) w fun t12_10 w =>
  wpB (pureRun Try.prog (Instr.build 154 #[(0, t5_10), (1, a1), (2, t9_10), (3, t12_10), (5, t15_10), (6, t18_10)])) fun t19_10 =>
  effv Try.prog (Instr.box 154 t19_10) w fun t20_10 w =>
  Q t20_10 w)) ∧
  (wpB (pureRun Try.prog (Instr.fieldAt 74 t2 3)) fun t7_11 =>
  wpB (pureRun Try.prog (Instr.fieldAt 74 t2 3)) fun t10_11 =>
  wpB (pureRun Try.prog (Instr.fieldAt 74 t2 0)) fun t13_11 =>
  wpB (pureRun Try.prog (Instr.fieldAt 74 t2 0)) fun t16_11 =>
  wpB (ldv Try.prog 74 t2 w.drew) fun t5_11 =>
  wpB (ldv Try.prog 3 t7_11 w.drew) fun t8_11 =>
  wpB (ldv Try.prog 3 t10_11 w.drew) fun t11_11 =>
  wpB (ldv Try.prog 3 t13_11 w.drew) fun t14_11 =>
  wpB (ldv Try.prog 3 t16_11 w.drew) fun t17_11 =>
  effv Try.prog (Instr.makeSlice 152 t17_11 t17_11) w.drew fun t18_11 w =>
  effv Try.prog (Instr.makeSlice 23 t14_11 t14_11) w fun t15_11 w =>
  effv Try.prog (Instr.makeSlice 23 t8_11 t8_11) w fun t9_11 w =>
  effv Try.prog (Instr.makeSlice 23 t11_11 t11_11) w fun t12_11 w =>
  wpB (pureRun Try.prog (Instr.build 154 #[(0, t5_11), (1, a1), (2, t9_11), (3, t12_11), (5, t15_11), (6, t18_11)])) fun t19_11 =>
  effv Try.prog (Instr.box 154 t19_11) w fun t20_11 w =>
  Q t20_11 w))) ∧
  ((((((wpB (pureRun Try.prog (Instr.fieldAt 74 t2 3)) fun t7_12 =>
  wpB (pureRun Try.prog (Instr.fieldAt 74 t2 3)) fun t10_12 =>
  wpB (pureRun Try.prog (Instr.fieldAt 74 t2 0)) fun t13_12 =>
  wpB (pureRun Try.prog (Instr.fieldAt 74 t2 0)) fun t16_12 =>
  wpB (ldv Try.prog 74 t2 w.drew) fun t5_12 =>
  wpB (ldv Try.prog 3 t7_12 w.drew) fun t8_12 =>
  wpB (ldv Try.prog 3 t10_12 w.drew) fun t11_12 =>
  wpB (ldv Try.prog 3 t13_12 w.drew) fun t14_12 =>
  wpB (ldv Try.prog 3 t16_12 w.drew) fun t17_12 =>
  effv Try.prog (Instr.makeSlice 23 t11_12 t11_12) w.drew fun t12_12 w =>
  effv Try.prog (Instr.makeSlice 23 t8_12 t8_12) w fun t9_12 w =>
  effv Try.prog (Instr.makeSlice 23 t14_12 t14_12) w fun t15_12 w =>
  effv Try.prog (Instr.makeSlice 152 t17_12 t17_12) w fun t18_12 w =>
  wpB (pureRun Try.prog (Instr.build 154 #[(0, t5_12), (1, a1), (2, t9_12), (3, t12_12), (5, t15_12), (6, t18_12)])) fun t19_12 =>
  effv Try.prog (Instr.box 154 t19_12) w fun t20_12 w =>
  Q t20_12 w) ∧
  (wpB (pureRun Try.prog (Instr.fieldAt 74 t2 3)) fun t7_13 =>
  wpB (pureRun Try.prog (Instr.fieldAt 74 t2 3)) fun t10_13 =>
  wpB (pureRun Try.prog (Instr.fieldAt 74 t2 0)) fun t13_13 =>
  wpB (pureRun Try.prog (Instr.fieldAt 74 t2 0)) fun t16_13 =>
  wpB (ldv Try.prog 74 t2 w.drew) fun t5_13 =>
  wpB (ldv Try.prog 3 t7_13 w.drew) fun t8_13 =>
  wpB (ldv Try.prog 3 t10_13 w.drew) fun t11_13 =>
  wpB (ldv Try.prog 3 t13_13 w.drew) fun t14_13 =>
  wpB (ldv Try.prog 3 t16_13 w.drew) fun t17_13 =>
  effv Try.prog (Instr.makeSlice 23 t11_13 t11_13) w.drew fun t12_13 w =>
  effv Try.prog (Instr.makeSlice 23 t8_13 t8_13) w fun t9_13 w =>
  effv Try.prog (Instr.makeSlice 152 t17_13 t17_13) w fun t18_13 w =>
  effv Try.prog (Instr.makeSlice 23 t14_13 t14_13) w fun t15_13 w =>
  wpB (pureRun Try.prog (Instr.build 154 #[(0, t5_13), (1, a1), (2, t9_13), (3, t12_13), (5, t15_13), (6, t18_13)])) fun t19_13 =>
  effv Try.prog (Instr.box 154 t19_13) w fun t20_13 w =>
  Q t20_13 w)) ∧
  (wpB (pureRun Try.prog (Instr.fieldAt 74 t2 3)) fun t7_14 =>
  wpB (pureRun Try.prog (Instr.fieldAt 74 t2 3)) fun t10_14 =>
  wpB (pureRun Try.prog (Instr.fieldAt 74 t2 0)) fun t13_14 =>
  wpB (pureRun Try.prog (Instr.fieldAt 74 t2 0)) fun t16_14 =>
  wpB (ldv Try.prog 74 t2 w.drew) fun t5_14 =>
  wpB (ldv Try.prog 3 t7_14 w.drew) fun t8_14 =>
  wpB (ldv Try.prog 3 t10_14 w.drew) fun t11_14 =>
  wpB (ldv Try.prog 3 t13_14 w.drew) fun t14_14 =>
  wpB (ldv Try.prog 3 t16_14 w.drew) fun t17_14 =>
  effv Try.prog (Instr.makeSlice 23 t11_14 t11_14) w.drew fun t12_14 w =>
  effv Try.prog (Instr.makeSlice 152 t17_14 t17_14) w fun t18_14 w =>
  effv Try.prog (Instr.makeSlice 23 t8_14 t8_14) w fun t9_14 w =>
  effv Try.prog (Instr.makeSlice 23 t14_14 t14_14) w fun t15_14 w =>
  wpB (pureRun Try.prog (Instr.build 154 #[(0, t5_14), (1, a1), (2, t9_14), (3, t12_14), (5, t15_14), (6, t18_14)])) fun t19_14 =>
  effv Try.prog (Instr.box 154 t19_14) w fun t20_14 w =>
  Q t20_14 w)) ∧
  (((wpB (pureRun Try.prog (Instr.fieldAt 74 t2 3)) fun t7_15 =>
  wpB (pureRun Try.prog (Instr.fieldAt 74 t2 3)) fun t10_15 =>
  wpB (pureRun Try.prog (Instr.fieldAt 74 t2 0)) fun t13_15 =>
  wpB (pureRun Try.prog (Instr.fieldAt 74 t2 0)) fun t16_15 =>
  wpB (ldv Try.prog 74 t2 w.drew) fun t5_15 =>
  wpB (ldv Try.prog 3 t7_15 w.drew) fun t8_15 =>
  wpB (ldv Try.prog 3 t10_15 w.drew) fun t11_15 =>
  wpB (ldv Try.prog 3 t13_15 w.drew) fun t14_15 =>
  wpB (ldv Try.prog 3 t16_15 w.drew) fun t17_15 =>
  effv Try.prog (Instr.makeSlice 23 t11_15 t11_15) w.drew fun t12_15 w =>
  effv Try.prog (Instr.makeSlice 23 t14_15 t14_15) w fun t15_15 w =>
  effv Try.prog (Instr.makeSlice 23 t8_15 t8_15) w fun t9_15 w =>
  effv Try.prog (Instr.makeSlice 152 t17_15 t17_15) w fun t18_15 w =>
  wpB (pureRun Try.prog (Instr.build 154 #[(0, t5_15), (1, a1), (2, t9_15), (3, t12_15), (5, t15_15), (6, t18_15)])) fun t19_15 =>
  effv Try.prog (Instr.box 154 t19_15) w fun t20_15 w =>
  Q t20_15 w) ∧
  (wpB (pureRun Try.prog (Instr.fieldAt 74 t2 3)) fun t7_16 =>
  wpB (pureRun Try.prog (Instr.fieldAt 74 t2 3)) fun t10_16 =>
  wpB (pureRun Try.prog (Instr.fieldAt 74 t2 0)) fun t13_16 =>
  wpB (pureRun Try.prog (Instr.fieldAt 74 t2 0)) fun t16_16 =>
  wpB (ldv Try.prog 74 t2 w.drew) fun t5_16 =>
  wpB (ldv Try.prog 3 t7_16 w.drew) fun t8_16 =>
  wpB (ldv Try.prog 3 t10_16 w.drew) fun t11_16 =>
  wpB (ldv Try.prog 3 t13_16 w.drew) fun t14_16 =>
  wpB (ldv Try.prog 3 t16_16 w.drew) fun t17_16 =>
  effv Try.prog (Instr.makeSlice 23 t11_16 t11_16) w.drew fun t12_16 w =>
  effv Try.prog (Instr.makeSlice 23 t14_16 t14_16) w fun t15_16 w =>
  effv Try.prog (Instr.makeSlice 152 t17_16 t17_16) w fun t18_16 w =>
  effv Try.prog (Instr.makeSlice 23 t8_16 t8_16) w fun t9_16 w =>
  wpB (pureRun Try.prog (Instr.build 154 #[(0, t5_16), (1, a1), (2, t9_16), (3, t12_16), (5, t15_16), (6, t18_16)])) fun t19_16 =>
  effv Try.prog (Instr.box 154 t19_16) w fun t20_16 w =>
  Q t20_16 w)) ∧
  (wpB (pureRun Try.prog (Instr.fieldAt 74 t2 3)) fun t7_17 =>
  wpB (pureRun Try.prog (Instr.fieldAt 74 t2 3)) fun t10_17 =>
  wpB (pureRun Try.prog (Instr.fieldAt 74 t2 0)) fun t13_17 =>
  wpB (pureRun Try.prog (Instr.fieldAt 74 t2 0)) fun t16_17 =>
  wpB (ldv Try.prog 74 t2 w.drew) fun t5_17 =>
  wpB (ldv Try.prog 3 t7_17 w.drew) fun t8_17 =>
  wpB (ldv Try.prog 3 t10_17 w.drew) fun t11_17 =>
  wpB (ldv Try.prog 3 t13_17 w.drew) fun t14_17 =>
  wpB (ldv Try.prog 3 t16_17 w.drew) fun t17_17 =>
  effv Try.prog (Instr.makeSlice 23 t11_17 t11_17) w.drew fun t12_17 w =>
  effv Try.prog (Instr.makeSlice 152 t17_17 t17_17) w fun t18_17 w =>
  effv Try.prog (Instr.makeSlice 23 t14_17 t14_17) w fun t15_17 w =>
  effv Try.prog (Instr.makeSlice 23 t8_17 t8_17) w fun t9_17 w =>
  wpB (pureRun Try.prog (Instr.build 154 #[(0, t5_17), (1, a1), (2, t9_17), (3, t12_17), (5, t15_17), (6, t18_17)])) fun t19_17 =>
  effv Try.prog (Instr.box 154 t19_17) w fun t20_17 w =>
  Q t20_17 w))) ∧
  ((wpB (pureRun Try.prog (Instr.fieldAt 74 t2 3)) fun t7_18 =>
  wpB (pureRun Try.prog (Instr.fieldAt 74 t2 3)) fun t10_18 =>
  wpB (pureRun Try.prog (Instr.fieldAt 74 t2 0)) fun t13_18 =>
  wpB (pureRun Try.prog (Instr.fieldAt 74 t2 0)) fun t16_18 =>
  wpB (ldv Try.prog 74 t2 w.drew) fun t5_18 =>
  wpB (ldv Try.prog 3 t7_18 w.drew) fun t8_18 =>
  wpB (ldv Try.prog 3 t10_18 w.drew) fun t11_18 =>
  wpB (ldv Try.prog 3 t13_18 w.drew) fun t14_18 =>
  wpB (ldv Try.prog 3 t16_18 w.drew) fun t17_18 =>
  effv Try.prog (Instr.makeSlice 152 t17_18 t17_18) w.drew fun t18_18 w =>
  effv Try.prog (Instr.makeSlice 23 t11_18 t11_18) w fun t12_18 w =>
  effv Try.prog (Instr.makeSlice 23 t8_18 t8_18) w fun t9_18 w =>
  effv Try.prog (Instr.makeSlice 23 t14_18 t14_18) w fun t15_18 w =>
  wpB (pureRun Try.prog (Instr.build 154 #[(0, t5_18), (1, a1), (2, t9_18), (3, t12_18), (5, t15_18), (6, t18_18)])) fun t19_18 =>
  effv Try.prog (Instr.box 154 t19_18) w fun t20_18 w =>
  Q t20_18 w) ∧
  (wpB (pureRun Try.prog (Instr.fieldAt 74 t2 3)) fun t7_19 =>
  wpB (pureRun Try.prog (Instr.fieldAt 74 t2 3)) fun t10_19 =>
  wpB (pureRun Try.prog (Instr.fieldAt 74 t2 0)) fun t13_19 =>
  wpB (pureRun Try.prog (Instr.fieldAt 74 t2 0)) fun t16_19 =>
  wpB (ldv Try.prog 74 t2 w.drew) fun t5_19 =>
  wpB (ldv Try.prog 3 t7_19 w.drew) fun t8_19 =>
  wpB (ldv Try.prog 3 t10_19 w.drew) fun t11_19 =>
  wpB (ldv Try.prog 3 t13_19 w.drew) fun t14_19 =>
  wpB (ldv Try.prog 3 t16_19 w.drew) fun t17_19 =>
  effv Try.prog (Instr.makeSlice 152 t17_19 t17_19) w.drew fun t18_19 w =>
  effv Try.prog (Instr.makeSlice 23 t11_19 t11_19) w fun t12_19 w =>
  effv Try.prog (Instr.makeSlice 23 t14_19 t14_19) w fun t15_19 w =>
  effv Try.prog (Instr.makeSlice 23 t8_19 t8_19) w fun t9_19 w =>
  wpB (pureRun Try.prog (Instr.build 154 #[(0, t5_19), (1, a1), (2, t9_19), (3, t12_19), (5, t15_19), (6, t18_19)])) fun t19_19 =>
  effv Try.prog (Instr.box 154 t19_19) w fun t20_19 w =>
  Q t20_19 w))) ∧
  ((((wpB (pureRun Try.prog (Instr.fieldAt 74 t2 3)) fun t7_20 =>
  wpB (pureRun Try.prog (Instr.fieldAt 74 t2 3)) fun t10_20 =>
  wpB (pureRun Try.prog (Instr.fieldAt 74 t2 0)) fun t13_20 =>
  wpB (pureRun Try.prog (Instr.fieldAt 74 t2 0)) fun t16_20 =>
  wpB (ldv Try.prog 74 t2 w.drew) fun t5_20 =>
  wpB (ldv Try.prog 3 t7_20 w.drew) fun t8_20 =>
  wpB (ldv Try.prog 3 t10_20 w.drew) fun t11_20 =>
  wpB (ldv Try.prog 3 t13_20 w.drew) fun t14_20 =>
  wpB (ldv Try.prog 3 t16_20 w.drew) fun t17_20 =>
  effv Try.prog (Instr.makeSlice 23 t14_20 t14_20) w.drew fun t15_20 w =>
  effv Try.prog (Instr.makeSlice 23 t11_20 t11_20) w fun t12_20 w =>
  effv Try.prog (Instr.makeSlice 23 t8_20 t8_20) w fun t9_20 w =>
  effv Try.prog (Instr.makeSlice 152 t17_20 t17_20) w fun t18_20 w =>
  wpB (pureRun Try.prog (Instr.build 154 #[(0, t5_20), (1, a1), (2, t9_20), (3, t12_20), (5, t15_20), (6, t18_20)])) fun t19_20 =>
  effv Try.prog (Instr.box 154 t19_20) w fun t20_20 w =>
  Q t20_20 w) ∧
  (wpB (pureRun Try.prog (Instr.fieldAt 74 t2 3)) fun t7_21 =>
  wpB (pureRun Try.prog (Instr.fieldAt 74 t2 3)) fun t10_21 =>
  wpB (pureRun Try.prog (Instr.fieldAt 74 t2 0)) fun t13_21 =>
  wpB (pureRun Try.prog (Instr.fieldAt 74 t2 0)) fun t16_21 =>
  wpB (ldv Try.prog 74 t2 w.drew) fun t5_21 =>
  wpB (ldv Try.prog 3 t7_21 w.drew) fun t8_21 =>
  wpB (ldv Try.prog 3 t10_21 w.drew) fun t11_21 =>
  wpB (ldv Try.prog 3 t13_21 w.drew) fun t14_21 =>
  wpB (ldv Try.prog 3 t16_21 w.drew) fun t17_21 =>
  effv Try.prog (Instr.makeSlice 23 t14_21 t14_21) w.drew fun t15_21 w =>
  effv Try.prog (Instr.makeSlice 23 t11_21 t11_21) w fun t12_21 w =>
  effv Try.prog (Instr.makeSlice 152 t17_21 t17_21) w fun t18_21 w =>
  effv Try.prog (Instr.makeSlice 23 t8_21 t8_21) w fun t9_21 w =>
  wpB (pureRun Try.prog (Instr.build 154 #[(0, t5_21), (1, a1), (2, t9_21), (3, t12_21), (5, t15_21), (6, t18_21)])) fun t19_21 =>
  effv Try.prog (Instr.box 154 t19_21) w fun t20_21 w =>
  Q t20_21 w)) ∧
  (wpB (pureRun Try.prog (Instr.fieldAt 74 t2 3)) fun t7_22 =>
  wpB (pureRun Try.prog (Instr.fieldAt 74 t2 3)) fun t10_22 =>
  wpB (pureRun Try.prog (Instr.fieldAt 74 t2 0)) fun t13_22 =>
  wpB (pureRun Try.prog (Instr.fieldAt 74 t2 0)) fun t16_22 =>
  wpB (ldv Try.prog 74 t2 w.drew) fun t5_22 =>
  wpB (ldv Try.prog 3 t7_22 w.drew) fun t8_22 =>
  wpB (ldv Try.prog 3 t10_22 w.drew) fun t11_22 =>
  wpB (ldv Try.prog 3 t13_22 w.drew) fun t14_22 =>
  wpB (ldv Try.prog 3 t16_22 w.drew) fun t17_22 =>
  effv Try.prog (Instr.makeSlice 23 t14_22 t14_22) w.drew fun t15_22 w =>
  effv Try.prog (Instr.makeSlice 152 t17_22 t17_22) w fun t18_22 w =>
  effv Try.prog (Instr.makeSlice 23 t11_22 t11_22) w fun t12_22 w =>
  effv Try.prog (Instr.makeSlice 23 t8_22 t8_22) w fun t9_22 w =>
  wpB (pureRun Try.prog (Instr.build 154 #[(0, t5_22), (1, a1), (2, t9_22), (3, t12_22), (5, t15_22), (6, t18_22)])) fun t19_22 =>
  effv Try.prog (Instr.box 154 t19_22) w fun t20_22 w =>
  Q t20_22 w)) ∧
  (wpB (pureRun Try.prog (Instr.fieldAt 74 t2 3)) fun t7_23 =>
  wpB (pureRun Try.prog (Instr.fieldAt 74 t2 3)) fun t10_23 =>
  wpB (pureRun Try.prog (Instr.fieldAt 74 t2 0)) fun t13_23 =>
  wpB (pureRun Try.prog (Instr.fieldAt 74 t2 0)) fun t16_23 =>
  wpB (ldv Try.prog 74 t2 w.drew) fun t5_23 =>
  wpB (ldv Try.prog 3 t7_23 w.drew) fun t8_23 =>
  wpB (ldv Try.prog 3 t10_23 w.drew) fun t11_23 =>
  wpB (ldv Try.prog 3 t13_23 w.drew) fun t14_23 =>
  wpB (ldv Try.prog 3 t16_23 w.drew) fun t17_23 =>
  effv Try.prog (Instr.makeSlice 152 t17_23 t17_23) w.drew fun t18_23 w =>
  effv Try.prog (Instr.makeSlice 23 t14_23 t14_23) w fun t15_23 w =>
  effv Try.prog (Instr.makeSlice 23 t11_23 t11_23) w fun t12_23 w =>
  effv Try.prog (Instr.makeSlice 23 t8_23 t8_23) w fun t9_23 w =>
  wpB (pureRun Try.prog (Instr.build 154 #[(0, t5_23), (1, a1), (2, t9_23), (3, t12_23), (5, t15_23), (6, t18_23)])) fun t19_23 =>
  effv Try.prog (Instr.box 154 t19_23) w fun t20_23 w =>
  Q t20_23 w)))
theorem F88_ok {a0 a1 : Value} {w : World} {Q : Value → World → Prop} (h : F88 a0 a1 w Q) : CallR Try.prog 88 [a0, a1] w Q :=
  have e : evC Try.prog (entR 3 143) 88 21 H88 Q C88 [] (entryE 0 [a0, a1]) w (contT Try.prog (entR 3 143) 88 21 H88 Try.f88.results.toList Q []) = F88 a0 a1 w Q := by kernel_rfl
  call_of (fn := Try.f88) mixed entOk Try.func88 (c := C88) rfl H88 (Nat.le_of_ble_eq_true rfl) (e.mpr h)

end Go.Proofs.Ytgamnncehjcdiaa

namespace Go.Proofs.Ytgamnncehjcdiaa.Ev
open Go Go.RowKit
set_option linter.unusedSimpArgs false
set_option linter.unusedVariables false

/-- a cell of a row that a block owns -/
theorem isAt.row {e : TypeId} {g : Nat} {Ps : List Th} {w : World} {F : Fp} (I : isAt e g Ps w F) (hg : ∀ P ∈ Ps, OwnT P) {k : Nat} {e' : TypeId} {z n : Nat} {Qs : List Th} (hk : Ps[k]? = some (isRow e' z n Qs)) (hq : ∀ Q ∈ Qs, OwnT Q) {j : Nat} {P : Th} (hj : Qs[j]? = some P) :
    ∃ (b c : Nat) (v : Value) (Fk : Fp), ldC (hp w g) k = some (.slice (some ⟨b, 0, none⟩) n c) ∧ b ≠ g ∧ F b ∧ (∀ x, Fk x → F x) ∧ ¬ Fk b ∧ ¬ Fk g ∧ ldC (hp w b) j = some v ∧ P w Fk v ∧
      (∀ w1 F' P', UpdP Fk F' w w1 → P' w1 F' v → ∃ F1, isAt e g (Ps.set k (isRow e' z n (Qs.set j P'))) w1 F1 ∧ UpdP F F1 w w1) ∧
      (∀ w1 F' P' v', UpdP Fk F' w w1 → OwnT P' → P' w1 F' v' → okC (hp w1 b) (j + 1) = true ∧ v'.cells = #[v'] ∧ v'.oneCell' = true ∧ hp w1 g = hp w g ∧
        ∃ F1, isAt e g (Ps.set k (isRow e' z n (Qs.set j P'))) (put w1 b ((getC (hp w1 b)).setIfInBounds j v') (getE (hp w1 b))) F1 ∧ UpdP F F1 w (put w1 b ((getC (hp w1 b)).setIfInBounds j v') (getE (hp w1 b)))) := by
  obtain ⟨rv, Fr, hFg, hng, hsub, hld, hR, hres, _⟩ := isAt.cell I hg hk
  obtain ⟨b, c, v, Fk, hx, hFb, hnb, hsub2, hld2, hv, h3, h4⟩ := isRow.cell hR hq hj
  subst hx
  have hbg : b ≠ g := fun e => hng (by rw [← e]; exact hFb)
  have hkg : ¬ Fk g := fun h => hng (hsub2 g h)
  refine ⟨b, c, v, Fk, hld, hbg, hsub b hFb, fun x hx => hsub x (hsub2 x hx), hnb, hkg, hld2, hv, fun w1 F' P' u hp' => ?_, fun w1 F' P' v' u hg' hp' => ?_⟩
  · obtain ⟨F1, hrow, hupd⟩ := h3 w1 F' P' u hp'
    obtain ⟨F2, e1, e2⟩ := hres _ F1 _ hupd hrow
    exact ⟨F2, e1, e2⟩
  · obtain ⟨ok, F1, hrow, hupd⟩ := h4 w1 F' P' v' u hg' hp'
    obtain ⟨F2, e1, e2⟩ := hres _ F1 _ hupd hrow
    obtain ⟨o1, o2⟩ := hg'.one hp'
    refine ⟨ok, o1, o2, ?_, F2, e1, e2⟩
    exact u.chg.block g (by
      rcases Nat.lt_or_ge g w.heap.size with h | h
      · exact h
      · have h2 : hp w g = none := by simp [hp]; omega
        rw [h2] at hld; cases hld) hkg
end Go.Proofs.Ytgamnncehjcdiaa.Ev

namespace Go.Proofs.Ytgamnncehjcdiaa
open Go Ev Go.RowKit
set_option linter.unusedSimpArgs false
set_option linter.unusedVariables false
set_option maxRecDepth 10000

/-- the document's model -/
structure RfV where
  c : CfV
  loose : Bool
  state : List Int
  gen : List Int
  rgs : List (RgV × Bool)
  depth : List Int
  holds : List (List NmV)
def keysT (L : List NmV) : Th := isRow 187 2 L.length ((L.flatMap nmC).map isV)
def rrT (p : RgV × Bool) : List Th := [iT p.1.nm.1, iT p.1.nm.2, iT p.1.cls, iT p.1.off, isV (.bool p.2), intsT p.1.chunks, wordsT p.1.words, objsT p.1.objs]
def rrsT (L : List (RgV × Bool)) : Th := isRow 158 8 L.length (L.flatMap rrT)
def holdsT (L : List (List NmV)) : Th := isRow 159 1 L.length (L.map keysT)
def rfT (x : RfV) : List Th := (cfC x.c).map isV ++ [isV (.bool x.loose), intsT x.state, intsT x.gen, rrsT x.rgs, intsT x.depth, holdsT x.holds]
def RfI (w : World) (g : Nat) (x : RfV) (F : Fp) : Prop := isAt 154 g (rfT x) w F
/-- the same state, as the document has it -/
def toRf (m : MdV) : RfV := ⟨m.c, m.loose, m.slots.map (·.1), m.slots.map (·.2), m.rgs.map fun r => (r, isLv m r.nm), m.hands.map (·.depth), m.hands.map (·.holds)⟩
theorem good_keys (L : List NmV) : OwnT (keysT L) := good_isRow (good_ints (nmC_int L))
theorem good_rr (p : RgV × Bool) : ∀ P ∈ rrT p, OwnT P := fun P hP => by
  simp only [rrT, List.mem_cons, List.not_mem_nil, or_false] at hP
  rcases hP with rfl | rfl | rfl | rfl | rfl | rfl | rfl | rfl
  · exact good_int _ _
  · exact good_int _ _
  · exact good_int _ _
  · exact good_int _ _
  · exact good_isV ⟨rfl, rfl⟩
  · exact good_intsT _
  · exact good_words _
  · exact good_objs _
theorem good_rrL (L : List (RgV × Bool)) : ∀ P ∈ L.flatMap rrT, OwnT P := fun P hP => by
  obtain ⟨r, _, hr⟩ := List.mem_flatMap.1 hP; exact good_rr r P hr
theorem good_rrs (L : List (RgV × Bool)) : OwnT (rrsT L) := good_isRow (good_rrL L)
theorem good_holdsL (L : List (List NmV)) : ∀ P ∈ L.map keysT, OwnT P := fun P hP => by
  obtain ⟨l, _, rfl⟩ := List.mem_map.1 hP; exact good_keys l
theorem good_holds (L : List (List NmV)) : OwnT (holdsT L) := good_isRow (good_holdsL L)
theorem good_rf (x : RfV) : ∀ P ∈ rfT x, OwnT P := fun P hP => by
  rcases List.mem_append.1 hP with h | h
  · refine good_ints (fun u hu => ?_) P h
    simp only [cfC, List.mem_cons, List.not_mem_nil, or_false] at hu
    rcases hu with rfl | rfl | rfl | rfl | rfl | rfl <;> exact ⟨_, _, rfl⟩
  · simp only [List.mem_cons, List.not_mem_nil, or_false] at h
    rcases h with rfl | rfl | rfl | rfl | rfl | rfl
    · exact good_isV ⟨rfl, rfl⟩
    · exact good_intsT _
    · exact good_intsT _
    · exact good_rrs _
    · exact good_intsT _
    · exact good_holds _
theorem RfI.keep {w w' : World} {g : Nat} {x : RfV} {F : Fp} (h : RfI w g x F) (hc : Chg [] w w') : RfI w' g x F := isAt.frame h (good_rf x) (ChgP.of0 hc none') fun _ _ h => h
/-- what is read of it: its cells -/
structure RfR (w : World) (g : Nat) (x : RfV) (s gn r d h : Value) : Prop where
  c : ∀ k, k < 6 → ldC (hp w g) (0 + 0 + k) = (cfC x.c)[k]?
  l : ldC (hp w g) (0 + 6) = some (.bool x.loose)
  sl : ldC (hp w g) (0 + 7) = some s
  gl : ldC (hp w g) (0 + 8) = some gn
  rl : ldC (hp w g) (0 + 9) = some r
  dl : ldC (hp w g) (0 + 10) = some d
  hl : ldC (hp w g) (0 + 11) = some h
  sT : ∃ F, intsT x.state w F s
  gT : ∃ F, intsT x.gen w F gn
  rT : ∃ F, rrsT x.rgs w F r
  dT : ∃ F, intsT x.depth w F d
  hT : ∃ F, holdsT x.holds w F h
theorem RfI.rd {w : World} {g : Nat} {x : RfV} {F : Fp} (h : RfI w g x F) : ∃ s gn r d hh, RfR w g x s gn r d hh := by
  obtain ⟨sv, _, _, _, _, hs, hS, _⟩ := isAt.cell h (good_rf x) (k := 7) (P := intsT x.state) rfl
  obtain ⟨gv, _, _, _, _, hg, hG, _⟩ := isAt.cell h (good_rf x) (k := 8) (P := intsT x.gen) rfl
  obtain ⟨rv, _, _, _, _, hr, hR, _⟩ := isAt.cell h (good_rf x) (k := 9) (P := rrsT x.rgs) rfl
  obtain ⟨dv, _, _, _, _, hd, hD, _⟩ := isAt.cell h (good_rf x) (k := 10) (P := intsT x.depth) rfl
  obtain ⟨hv, _, _, _, _, hh, hH, _⟩ := isAt.cell h (good_rf x) (k := 11) (P := holdsT x.holds) rfl
  obtain ⟨lv, _, _, _, _, hl, hL, _⟩ := isAt.cell h (good_rf x) (k := 6) (P := isV (.bool x.loose)) rfl
  refine ⟨sv, gv, rv, dv, hv, fun k hk => ?_, hl.trans (by rw [hL.1]), hs, hg, hr, hd, hh, ⟨_, hS⟩, ⟨_, hG⟩, ⟨_, hR⟩, ⟨_, hD⟩, ⟨_, hH⟩⟩
  obtain ⟨u, hu⟩ : ∃ u, (cfC x.c)[k]? = some u := ⟨_, List.getElem?_eq_getElem (by simpa [cfC] using hk)⟩
  have hP : (rfT x)[k]? = some (isV u) := by
    rw [rfT, List.getElem?_append_left (by simpa [cfC] using hk), List.getElem?_map, hu]; rfl
  obtain ⟨cv, _, _, _, _, hc, hC, _⟩ := isAt.cell h (good_rf x) hP
  rw [show 0 + 0 + k = k by omega, hc, hC.1, hu]
/-- a region in the row: its cells -/
structure RrR (w : World) (b o : Nat) (p : RgV × Bool) (cv wv ov : Value) : Prop where
  c0 : ldC (hp w b) (o + 0) = some (.int .i64 p.1.nm.1)
  c1 : ldC (hp w b) (o + 1) = some (.int .i64 p.1.nm.2)
  c2 : ldC (hp w b) (o + 2) = some (.int .i64 p.1.cls)
  c3 : ldC (hp w b) (o + 3) = some (.int .i64 p.1.off)
  c4 : ldC (hp w b) (o + 4) = some (.bool p.2)
  c5 : ldC (hp w b) (o + 5) = some cv
  c6 : ldC (hp w b) (o + 6) = some wv
  c7 : ldC (hp w b) (o + 7) = some ov
  cT : ∃ F, intsT p.1.chunks w F cv
  wT : ∃ F, wordsT p.1.words w F wv
  oT : ∃ F, objsT p.1.objs w F ov
theorem RrR.keep {w w' : World} {b o : Nat} {p : RgV × Bool} {cv wv ov : Value} (k : RrR w b o p cv wv ov) (hc : Chg [] w w') : RrR w' b o p cv wv ov := by
  obtain ⟨F, hF⟩ := k.cT
  obtain ⟨G, hG⟩ := k.wT
  obtain ⟨H, hH⟩ := k.oT
  exact ⟨chg_ld hc k.c0, chg_ld hc k.c1, chg_ld hc k.c2, chg_ld hc k.c3, chg_ld hc k.c4, chg_ld hc k.c5, chg_ld hc k.c6, chg_ld hc k.c7,
    ⟨F, (good_intsT _).frame hF (ChgP.of0 hc none') fun _ _ h => h⟩, ⟨G, (good_words _).frame hG (ChgP.of0 hc none') fun _ _ h => h⟩, ⟨H, (good_objs _).frame hH (ChgP.of0 hc none') fun _ _ h => h⟩⟩
theorem RfR.keep {w w' : World} {g : Nat} {x : RfV} {s gn r d h : Value} (k : RfR w g x s gn r d h) (hc : Chg [] w w') : RfR w' g x s gn r d h := by
  have e : hp w' g = hp w g := hc.block g (by
    rcases Nat.lt_or_ge g w.heap.size with h1 | h1
    · exact h1
    · have h2 : hp w g = none := by simp [hp]; omega
      have := k.l
      rw [h2] at this; cases this) (by simp)
  have ck : ∀ {L v}, (∃ F, intsT L w F v) → ∃ F, intsT L w' F v := fun ⟨F, hF⟩ => ⟨F, (good_intsT _).frame hF (ChgP.of0 hc none') fun _ _ h => h⟩
  obtain ⟨G, hG⟩ := k.rT
  obtain ⟨H, hH⟩ := k.hT
  exact ⟨fun i hi => by rw [e]; exact k.c i hi, by rw [e]; exact k.l, by rw [e]; exact k.sl, by rw [e]; exact k.gl, by rw [e]; exact k.rl, by rw [e]; exact k.dl, by rw [e]; exact k.hl, ck k.sT, ck k.gT,
    ⟨G, (good_rrs _).frame hG (ChgP.of0 hc none') fun _ _ h => h⟩, ck k.dT, ⟨H, (good_holds _).frame hH (ChgP.of0 hc none') fun _ _ h => h⟩⟩
end Go.Proofs.Ytgamnncehjcdiaa

namespace Go.Proofs.Ytgamnncehjcdiaa
open Go Ev Go.RowKit
set_option linter.unusedSimpArgs false
set_option linter.unusedVariables false
set_option maxRecDepth 10000

section
variable {w : World} {g : Nat} {x : RfV} {s gn r d h : Value}
/-- a number of a row of numbers -/
theorem int_at {w : World} {A : Option Addr} {c : Nat} {L : List Int} (hR : RdI .i64 w A L) {i : Nat} {y : Int} (hy : L[i]? = some y) :
    ∃ q : Addr, pureRun Try.prog (Instr.indexAt 23 (.slice A L.length c) (.int .i64 (i : Int))) = some (.pointer (some q)) ∧ ldv Try.prog 3 (.pointer (some q)) w = some (.int .i64 y) := by
  have hil := (List.getElem?_eq_some_iff.1 hy).1
  obtain ⟨q, q1, q2⟩ := hR.at (P := Try.prog) (c := c) (j := .i64) Try.underlying23 Try.underlying3 sz_3 (i := (i : Int)) (by omega) (by omega)
  have hg : L.getD i 0 = y := by rw [List.getD_eq_getElem?_getD, hy]; rfl
  rw [Int.toNat_natCast, hg] at q2
  exact ⟨q, q1, q2⟩
end
end Go.Proofs.Ytgamnncehjcdiaa

namespace Go.Proofs.Ytgamnncehjcdiaa
open Go Ev Go.RowKit
set_option linter.unusedSimpArgs false
set_option linter.unusedVariables false
set_option maxRecDepth 10000

section
variable {w : World} {g : Nat} {x : RfV} {s gn r d h : Value}
end
end Go.Proofs.Ytgamnncehjcdiaa

namespace Go.Proofs.Ytgamnncehjcdiaa
open Go Ev Go.RowKit
set_option linter.unusedSimpArgs false
set_option linter.unusedVariables false
set_option maxRecDepth 10000

section
variable {w : World} {g : Nat} {x : RfV} {s gn r d h : Value} {F : Fp}
end
end Go.Proofs.Ytgamnncehjcdiaa

namespace Go.Proofs.Ytgamnncehjcdiaa
open Go Ev Go.RowKit
set_option linter.unusedSimpArgs false
set_option linter.unusedVariables false
set_option maxRecDepth 10000

section
variable {w : World} {g : Nat} {x : RfV} {F : Fp}
theorem ints_row {n : Nat} (hn : n ≤ maxLen) {b : Nat} (hb : hp w b = some (.cells (ints (List.replicate n 0)).toArray 3)) : intsT (List.replicate n 0) w (fun k => k = b) (.slice (some ⟨b, 0, none⟩) n n) := by
  have h : w.ownsRow 0 3 1 (.slice (some ⟨b, 0, none⟩) n n) n (ints (List.replicate n 0)) :=
    ⟨by simp [ints], .inr ⟨b, n, _, rfl, Nat.zero_le _, hb, Nat.le_refl _, hn, by simp [ints], by simp [ints]⟩⟩
  have h2 := own_flat h
  have e : (fun k => (Value.slice (some ⟨b, 0, none⟩) n n).ownBlock = some k) = (fun k => k = b) := by
    funext k
    simp [Value.ownBlock, eq_comm]
  rw [e] at h2
  rw [intsT, List.length_replicate]
  exact h2
theorem holds_row {n : Nat} (hn : n ≤ maxLen) {b : Nat} (hb : hp w b = some (.cells (List.replicate n (Value.slice none 0 0)).toArray 159)) : holdsT (List.replicate n []) w (fun k => k = b) (.slice (some ⟨b, 0, none⟩) n n) := by
  have h : w.ownsRow 0 159 1 (.slice (some ⟨b, 0, none⟩) n n) n (List.replicate n (Value.slice none 0 0)) :=
    ⟨by simp, .inr ⟨b, n, _, rfl, Nat.zero_le _, hb, Nat.le_refl _, hn, by simp, by simp⟩⟩
  refine ⟨_, fun _ => none', by rw [List.length_replicate]; exact h, ⟨by simp, fun k P v hP hv => ?_, fun _ _ _ _ _ b hb _ => hb⟩, fun b ⟨_, _, hb⟩ => hb.elim, fun k => ⟨fun hk => .inl (by rw [hk]; rfl), fun hk => ?_⟩⟩
  · rw [List.getElem?_map, List.getElem?_replicate] at hP
    rw [List.getElem?_replicate] at hv
    split at hP
    · rename_i hk
      rw [if_pos hk] at hv
      cases hP; cases hv
      exact isRow.nil
    · cases hP
  · rcases hk with hk | ⟨_, _, hk⟩
    · simp [Value.ownBlock] at hk; exact hk.symm
    · exact hk.elim
theorem rf_parts {x : RfV} {sv gv rv dv hv : Value} {Fs Fg Fr Fd Fh : Fp} (hs : intsT x.state w Fs sv) (hg : intsT x.gen w Fg gv) (hr : rrsT x.rgs w Fr rv) (hd : intsT x.depth w Fd dv) (hh : holdsT x.holds w Fh hv)
    (dis : ∀ i j : Nat, i < 5 → j < 5 → i ≠ j → FDis ((fun k : Nat => if k = 0 then Fs else if k = 1 then Fg else if k = 2 then Fr else if k = 3 then Fd else Fh) i) ((fun k : Nat => if k = 0 then Fs else if k = 1 then Fg else if k = 2 then Fr else if k = 3 then Fd else Fh) j)) :
    Parts w (rfT x) (cfC x.c ++ [.bool x.loose, sv, gv, rv, dv, hv]) (fun k => if k < 7 then none' else (fun k : Nat => if k = 0 then Fs else if k = 1 then Fg else if k = 2 then Fr else if k = 3 then Fd else Fh) (k - 7)) := by
  refine ⟨rfl, fun k P v hP hv' => ?_, fun j k hj hk hjk => ?_⟩
  · have hk := (List.getElem?_eq_some_iff.1 hP).1
    have hk' : (rfT x).length = 12 := rfl
    rw [hk'] at hk
    have h12 : k = 0 ∨ k = 1 ∨ k = 2 ∨ k = 3 ∨ k = 4 ∨ k = 5 ∨ k = 6 ∨ k = 7 ∨ k = 8 ∨ k = 9 ∨ k = 10 ∨ k = 11 := by omega
    rcases h12 with rfl | rfl | rfl | rfl | rfl | rfl | rfl | rfl | rfl | rfl | rfl | rfl <;> cases hP <;> cases hv'
    · exact ⟨rfl, fun _ h => h⟩
    · exact ⟨rfl, fun _ h => h⟩
    · exact ⟨rfl, fun _ h => h⟩
    · exact ⟨rfl, fun _ h => h⟩
    · exact ⟨rfl, fun _ h => h⟩
    · exact ⟨rfl, fun _ h => h⟩
    · exact ⟨rfl, fun _ h => h⟩
    · exact hs
    · exact hg
    · exact hr
    · exact hd
    · exact hh
  · have hl : (rfT x).length = 12 := rfl
    rw [hl] at hj hk
    by_cases h1 : j < 7
    · simp only [if_pos h1]; exact fun _ h _ => h
    · by_cases h2 : k < 7
      · simp only [if_pos h2]; exact fun _ _ h => h
      · simp only [if_neg h1, if_neg h2]
        exact dis (j - 7) (k - 7) (by omega) (by omega) (by omega)
set_option maxHeartbeats 4000000 in
theorem c_rNew (c : CfV) (loose : Bool) (hm : mayC c = true) (w : World) : CallR Try.prog 88 [.agg (cfC c).toArray, .bool loose] w fun v w' => ∃ g F, v = .pointer (some ⟨g, 0, none⟩) ∧ Chg [] w w' ∧ RfI w' g (toRf (newM c loose)) F ∧ ∀ k, F k → w.heap.size ≤ k := by
  apply F88_ok
  have b2 : hp (w.alloc (.cells (cfC c).toArray 74)) w.heap.size = some (.cells (cfC c).toArray 74) := by rw [alloc_heap, if_pos rfl]
  have c0 : Chg [] w (w.alloc (.cells (cfC c).toArray 74)) := (Chg.refl _ _).alloc _
  simp -implicitDefEqProofs only [F88, effv_box, cells_agg]
  generalize w.alloc (.cells (cfC c).toArray 74) = w0 at *
  obtain ⟨h1, h2, h3, h4⟩ := may_cf hm
  have e3 : (cfC c).toArray[0 + 3]? = some (.int .i64 ((c.2.2.2.1.toNat : Nat) : Int)) := by rw [cf_3]; congr; omega
  have e0 : (cfC c).toArray[0 + 0]? = some (.int .i64 ((c.1.toNat : Nat) : Int)) := by rw [cf_0]; congr; omega
  have nm : toRf (newM c loose) = ⟨c, loose, List.replicate c.2.2.2.1.toNat 0, List.replicate c.2.2.2.1.toNat 0, [], List.replicate c.1.toNat 0, List.replicate c.1.toNat []⟩ := by simp [toRf, newM]
  have l1 : c.2.2.2.1.toNat ≤ 4096 := by omega
  have l2 : c.1.toNat ≤ 64 := by omega
  generalize c.2.2.2.1.toNat = ns at *
  generalize c.1.toNat = nh at *
  obtain ⟨ii, hii, hzi, hsi, hbi⟩ := inf_3
  obtain ⟨ik, hik, hzk, hsk, hbk⟩ := inf_159
  have mk1 : ∀ n, madeCells (Value.int .i64 0).cells (n * ii.size) = (ints (List.replicate n 0)).toArray := fun n => by
    apply Array.toList_inj.1
    rw [hsi, Nat.mul_one]
    have := toList_madeCells_one (Value.int .i64 0) n
    rw [ints, List.map_replicate]
    exact this
  have mk2 : madeCells (Value.slice none 0 0).cells (nh * ik.size) = (List.replicate nh (Value.slice none 0 0)).toArray := by
    apply Array.toList_inj.1
    rw [hsk, Nat.mul_one]
    exact toList_madeCells_one (Value.slice none 0 0) nh
  have hml : ns ≤ maxLen ∧ nh ≤ maxLen := by unfold maxLen; omega
  have fin : ∀ (w4 : World) (bs bg bd bh : Nat), Chg [] w w4 → hp w4 bs = some (.cells (ints (List.replicate ns 0)).toArray 3) → hp w4 bg = some (.cells (ints (List.replicate ns 0)).toArray 3) → hp w4 bd = some (.cells (ints (List.replicate nh 0)).toArray 3) → hp w4 bh = some (.cells (List.replicate nh (Value.slice none 0 0)).toArray 159) →
      w.heap.size ≤ bs ∧ w.heap.size ≤ bg ∧ w.heap.size ≤ bd ∧ w.heap.size ≤ bh ∧ bs ≠ bg ∧ bs ≠ bd ∧ bs ≠ bh ∧ bg ≠ bd ∧ bg ≠ bh ∧ bd ≠ bh →
      ∃ g F, Value.pointer (some ⟨w4.heap.size, 0, none⟩) = .pointer (some ⟨g, 0, none⟩) ∧ Chg [] w (w4.alloc (.cells (cfC c ++ [Value.bool loose, Value.slice (some ⟨bs, 0, none⟩) ns ns, Value.slice (some ⟨bg, 0, none⟩) ns ns, Value.slice none 0 0, Value.slice (some ⟨bd, 0, none⟩) nh nh, Value.slice (some ⟨bh, 0, none⟩) nh nh]).toArray 154)) ∧
        RfI (w4.alloc (.cells (cfC c ++ [Value.bool loose, Value.slice (some ⟨bs, 0, none⟩) ns ns, Value.slice (some ⟨bg, 0, none⟩) ns ns, Value.slice none 0 0, Value.slice (some ⟨bd, 0, none⟩) nh nh, Value.slice (some ⟨bh, 0, none⟩) nh nh]).toArray 154)) g (toRf (newM c loose)) F ∧ ∀ k, F k → w.heap.size ≤ k := by
    intro w4 bs bg bd bh c4 hs hg hd hh ⟨n1, n2, n3, n4, d1, d2, d3, d4, d5, d6⟩
    rw [nm]
    have hp' := rf_parts (w := w4) (x := ⟨c, loose, List.replicate ns 0, List.replicate ns 0, [], List.replicate nh 0, List.replicate nh []⟩) (ints_row hml.1 hs) (ints_row hml.1 hg) (Fr := none') (rv := .slice none 0 0) isRow.nil (ints_row hml.2 hd) (holds_row hml.2 hh) (by
      intro i j hi hj hij b hb1 hb2
      have hi' : i = 0 ∨ i = 1 ∨ i = 2 ∨ i = 3 ∨ i = 4 := by omega
      have hj' : j = 0 ∨ j = 1 ∨ j = 2 ∨ j = 3 ∨ j = 4 := by omega
      rcases hi' with rfl | rfl | rfl | rfl | rfl <;> rcases hj' with rfl | rfl | rfl | rfl | rfl <;> first
        | omega
        | (simp only [if_true, if_false, Nat.reduceEqDiff, none'] at hb1 hb2; omega)
        | (simp [none'] at hb1 hb2; omega)
        | (simp [none'] at hb1 hb2))
    refine ⟨w4.heap.size, _, rfl, c4.alloc _, isAt.new hp' (good_rf _), fun k hk => ?_⟩
    have sz := c4.size
    rcases hk with hk | ⟨j, _, hk⟩
    · omega
    · split at hk
      · exact hk.elim
      · repeat' split at hk
        · have : k = bs := hk; omega
        · have : k = bg := hk; omega
        · exact hk.elim
        · have : k = bd := hk; omega
        · have : k = bh := hk; omega
  have hbd : ∀ a b e f, pureRun Try.prog (Instr.build 154 #[(0, .agg (cfC c).toArray), (1, .bool loose), (2, .slice (some ⟨a, 0, none⟩) ns ns), (3, .slice (some ⟨b, 0, none⟩) ns ns), (5, .slice (some ⟨e, 0, none⟩) nh nh), (6, .slice (some ⟨f, 0, none⟩) nh nh)]) = some (.agg (cfC c ++ [Value.bool loose, Value.slice (some ⟨a, 0, none⟩) ns ns, Value.slice (some ⟨b, 0, none⟩) ns ns, Value.slice none 0 0, Value.slice (some ⟨e, 0, none⟩) nh nh, Value.slice (some ⟨f, 0, none⟩) nh nh]).toArray) := fun a b e f => bd_154_0_1_2_3_5_6
  have b2d : hp w0.drew w.heap.size = some (.cells (cfC c).toArray 74) := b2
  have cd := c0.drew
  have sz : w.heap.size ≤ w0.drew.heap.size := cd.size
  have ea : ∀ {P : Program} {w : World} {K : Value → World → Prop}, True := fun {P w K} => trivial
  simp -implicitDefEqProofs only [wpB_some', gd_true, gd_false, gd_tf, gd_ft, gd_ut, gd_uf, gv_true, gv_false, gv_tf, gv_ft, gv_ut, gv_uf, gE_true, gE_false, gE_tf, gE_ft, gE_ut, gE_uf, gU_true, gU_false, gU_tf, gU_ft, pickv_true, pickv_false, cnd_true, cnd_false, decide_true, decide_false, Bool.not_true, Bool.not_false, pr_not, nilv_some, bp_lss, bp_leq, bp_gtr, bp_geq, be_eql, be_neq, bne_self_eq_false, beq_self_eq_true, ldC_some, Option.isNone_none, Option.isNone_some, hp_drew, fa_74_3, fa_74_0, ld_3, ld_cf b2d, b2, e3, e0, effv_make (P := Try.prog) (kl := .i64) (kc := .i64) (n := ns) Try.underlying23 hii hzi (by rw [hsi]; omega) (by rw [hbi]; omega) (by omega), effv_make (P := Try.prog) (kl := .i64) (kc := .i64) (n := nh) Try.underlying23 hii hzi (by rw [hsi]; omega) (by rw [hbi]; omega) (by omega),
    effv_make (P := Try.prog) (kl := .i64) (kc := .i64) (n := nh) Try.underlying152 hik hzk (by rw [hsk]; omega) (by rw [hbk]; omega) (by omega), mk1, mk2, hbd, effv_box, cells_agg]
  repeat' (with_reducible apply And.intro)
  all_goals
    refine fin _ _ _ _ _ ((((cd.alloc _).alloc _).alloc _).alloc _) ?_ ?_ ?_ ?_ ⟨?_, ?_, ?_, ?_, ?_, ?_, ?_, ?_, ?_, ?_⟩
    all_goals first
      | (simp only [alloc_heap, alloc_size, if_true]; done)
      | ((try simp only [alloc_heap, alloc_size, if_true]); (repeat' split) <;> first | rfl | omega)
      | ((try simp only [alloc_size]); omega)
end
end Go.Proofs.Ytgamnncehjcdiaa

namespace Go.Proofs.Ytgamnncehjcdiaa
open Go Ev Go.RowKit
set_option linter.unusedSimpArgs false
set_option linter.unusedVariables false
set_option maxRecDepth 10000

section
variable {W w : World} {g : Nat} {m : MdV} {F : Fp} {K : Nat}
/-- a model that is new since a world -/
structure MdW (W w : World) (g : Nat) (m : MdV) (K : Nat) (F : Fp) : Prop where
  chg : Chg [] W w
  I : MdI w g m F
  new : ∀ k, F k → W.heap.size ≤ k
  wf : Wf m K
theorem MdW.keep {w' : World} (h : MdW W w g m K F) (hc : Chg [] w w') : MdW W w' g m K F := ⟨h.chg.trans hc, h.I.keep hc, h.new, h.wf⟩
theorem MdW.upd {w' : World} {m' : MdV} {K' : Nat} {F' : Fp} (h : MdW W w g m K F) (I : MdI w' g m' F') (u : UpdP F F' w w') (wf : Wf m' K') : MdW W w' g m' K' F' := by
  have hs := h.chg.size
  refine ⟨⟨u.chg.os.trans h.chg.os, u.chg.tape.trans h.chg.tape, u.chg.output.trans h.chg.output, Nat.le_trans hs u.chg.size, fun k hk _ => ?_⟩, I, fun k hk => ?_, wf⟩
  · rw [u.chg.block k (Nat.lt_of_lt_of_le hk hs) fun hf => by have := h.new k hf; omega]
    exact h.chg.block k hk (by simp)
  · rcases u.sub k hk with h1 | h1
    · exact h.new k h1
    · omega


theorem c_does24 (I : MdI w g m F) (Wm : Wf m K) (hK : K + 1 ≤ 1000000) (kind n v x : Int) (h : HnV) (r : RsV) :
    CallR Try.prog 42 [.pointer (some ⟨g, 0, none⟩), .int .i64 kind, .int .i64 n, .int .u64 v, .int .u64 x, .agg (hnC h).toArray, .agg (rsC r).toArray] w fun u w' => u = .bool (doV m 0 (kind, 0, 0, n, v, x) h r).1 ∧ ∃ F', MdI w' g (doV m 0 (kind, 0, 0, n, v, x) h r).2 F' ∧ UpdP F F' w w' := by
  apply F42_ok
  simp -implicitDefEqProofs only [F42, effv_box, cells_agg, alloc_size]
  generalize hw : (w.alloc (.cells (hnC h).toArray 51)).alloc _ = w1
  have c1 : Chg [] w w1 := by rw [← hw]; exact ((Chg.refl _ _).alloc _).alloc _
  have a6 : hp w1 w.heap.size = some (.cells (hnC h).toArray 51) := by rw [← hw, alloc_heap, alloc_size, if_neg (by omega), alloc_heap, if_pos rfl]
  have a7 : hp w1 (w.heap.size + 1) = some (.cells (rsC r).toArray 53) := by rw [← hw, alloc_heap, alloc_size, if_pos rfl]
  clear hw
  have hbd : pureRun Try.prog (Instr.build 40 #[(0, .int .i64 kind), (3, .int .i64 n), (4, .int .u64 v), (5, .int .u64 x)]) = some (.agg (opC (kind, 0, 0, n, v, x)).toArray) := bd_40_0_3_4_5
  simp -implicitDefEqProofs only [hbd, wpB_some', ld_hn a6, ld_res a7]
  refine (c_mDo (I.keep c1) Wm hK 0 (kind, 0, 0, n, v, x) h r).mono ?_
  rintro _ w2 ⟨rfl, F2, i2, u2⟩
  exact ⟨rfl, F2, i2, u2.pre c1⟩
theorem bdo_0 (k : Int) : pureRun Try.prog (Instr.build 40 #[(0, .int .i64 k)]) = some (.agg (opC (k, 0, 0, 0, 0, 0)).toArray) := bd_40_0
theorem bdh_ : pureRun Try.prog (Instr.build 51 #[]) = some (.agg (hnC noH).toArray) := bd_51_
theorem bdh_1 (x : Int) : pureRun Try.prog (Instr.build 51 #[(1, .int .i64 x)]) = some (.agg (hnC (0, x, 0, 0, 0)).toArray) := bd_51_1
theorem bdh_01 (x y : Int) : pureRun Try.prog (Instr.build 51 #[(0, .int .i64 x), (1, .int .i64 y)]) = some (.agg (hnC (x, y, 0, 0, 0)).toArray) := bd_51_0_1
theorem bdr_ : pureRun Try.prog (Instr.build 53 #[]) = some (.agg (rsC noR).toArray) := bd_53_
theorem bdr_0 (x : Int) : pureRun Try.prog (Instr.build 53 #[(0, .int .i64 x)]) = some (.agg (rsC (codeR x)).toArray) := bd_53_0
theorem bdr_1 (h : HnV) : pureRun Try.prog (Instr.build 53 #[(1, .agg (hnC h).toArray)]) = some (.agg (rsC (0, h, 0, 0)).toArray) := bd_53_1
theorem st_hn {r : HnV} {b : Nat} {c : Array Value} {e : TypeId} (hb : hp w b = some (.cells c e)) (hs : c.size = 5) {L : World → Prop} : effu Try.prog (Instr.storeAt 51 (.pointer (some ⟨b, 0, none⟩)) (.agg (hnC r).toArray)) w L = L (put w b (hnC r).toArray e) := by
  rw [st_51 rfl rfl (by rw [hb, okC_some]; exact decide_eq_true (by omega)) (by rw [hb]; exact hs), hb]; rfl
def m0F : MdV := newM (1, 1, 8, 1, 0, 1) false
def m1F : MdV := (doV m0F 0 (1, 0, 0, 0, 0, 0) noH (0, (0, 1, 0, 0, 0), 0, 0)).2
def m2F : MdV := (doV m1F 0 (10, 0, 0, 0, 0, 0) (0, 1, 0, 0, 0) noR).2
theorem m0_must : mustV m0F 0 (10, 0, 0, 0, 0, 0) noH = (codeR 2, true) := by kernel_rfl
theorem m0_do : (doV m0F 0 (1, 0, 0, 0, 0, 0) noH (0, (0, 1, 0, 0, 0), 0, 0)).1 = true := by decide +kernel
theorem m1_do : (doV m1F 0 (10, 0, 0, 0, 0, 0) (0, 1, 0, 0, 0) noR).1 = true := by decide +kernel
theorem m2_spare : spareN m2F.slots = 0 := by decide +kernel
theorem m2_back : (backV m2F 0).1 = true := by decide +kernel
theorem m3_spare : spareN (backV m2F 0).2.slots = 1 := by decide +kernel
set_option maxHeartbeats 1000000 in
theorem c_mFirst (w : World) : CallR Try.prog 40 [] w fun v w' => v = .bool true ∧ Chg [] w w' := by
  apply F40_ok
  have hbc : pureRun Try.prog (Instr.build 74 #[(0, .int .i64 1), (1, .int .i64 1), (2, .int .i64 8), (3, .int .i64 1), (5, .int .i64 1)]) = some (.agg (cfC (1, 1, 8, 1, 0, 1)).toArray) := bd_74_0_1_2_3_5
  simp -implicitDefEqProofs only [F40, hbc, wpB_some']
  refine (c_mNew (1, 1, 8, 1, 0, 1) w).mono ?_
  rintro v w1 ⟨c1, hv⟩
  rcases hv with ⟨hm, _⟩ | ⟨hm, g, F, rfl, I, hF⟩
  · exact absurd hm (by decide)
  have M0 : MdW w w1 g m0F 0 F := ⟨c1, I, hF, wf_new hm false⟩
  have en : ((0 : Int) != 0) = false := rfl
  simp -implicitDefEqProofs only [tup0, tup1, wpB_some', gd_true, gd_false, gd_tf, gd_ft, gd_ut, gd_uf, gv_true, gv_false, gv_tf, gv_ft, gv_ut, gv_uf, gE_true, gE_false, gE_tf, gE_ft, gE_ut, gE_uf, gU_true, gU_false, gU_tf, gU_ft, pickv_true, pickv_false, cnd_true, cnd_false, decide_true, decide_false, Bool.not_true, Bool.not_false, pr_not, nilv_some, bp_lss, bp_leq, bp_gtr, bp_geq, be_eql, be_neq, bne_self_eq_false, beq_self_eq_true, ldC_some, Option.isNone_none, Option.isNone_some, hp_drew, be_eqlp Try.underlying75, Option.isNone_some, en, bdo_0, bdh_]
  refine (c_mMust M0.I M0.wf (by omega) 0 (10, 0, 0, 0, 0, 0) noH).mono ?_
  rintro _ w2 ⟨rfl, c2⟩
  have M1 := M0.keep c2
  rw [m0_must]
  simp -implicitDefEqProofs only [tup0, tup1, wpB_some', gd_true, gd_false, gd_tf, gd_ft, gd_ut, gd_uf, gv_true, gv_false, gv_tf, gv_ft, gv_ut, gv_uf, gE_true, gE_false, gE_tf, gE_ft, gE_ut, gE_uf, gU_true, gU_false, gU_tf, gU_ft, pickv_true, pickv_false, cnd_true, cnd_false, decide_true, decide_false, Bool.not_true, Bool.not_false, pr_not, nilv_some, bp_lss, bp_leq, bp_gtr, bp_geq, be_eql, be_neq, bne_self_eq_false, beq_self_eq_true, ldC_some, Option.isNone_none, Option.isNone_some, hp_drew, al_53]
  rw [st_res (c := (rsC noR).toArray) (e := 53) (by rw [alloc_heap, if_pos rfl]; rfl) rfl]
  generalize hw3 : put (w2.alloc _) w2.heap.size _ _ = w3
  have c3 : Chg [] w2 w3 := by rw [← hw3]; exact ((Chg.refl _ _).alloc _).put (.inr (Nat.le_refl _)) _ _
  have a3 : hp w3 w2.heap.size = some (.cells (rsC (codeR 2)).toArray 53) := by rw [← hw3]; exact put_same (by simp) _ _
  clear hw3
  have M2 := M1.keep c3
  have n3 : ¬ F w2.heap.size := fun h => by have := isAt.lt M1.I (good_md _) _ h; omega
  generalize w2.heap.size = g3 at *
  simp -implicitDefEqProofs only [bdh_1, wpB_some', al_51]
  rw [st_hn (c := (hnC noH).toArray) (e := 51) (by rw [alloc_heap, if_pos rfl]; rfl) rfl]
  generalize hw4 : put (w3.alloc _) w3.heap.size _ _ = w4
  have c4 : Chg [] w3 w4 := by rw [← hw4]; exact ((Chg.refl _ _).alloc _).put (.inr (Nat.le_refl _)) _ _
  have a5 : hp w4 w3.heap.size = some (.cells (hnC (0, 1, 0, 0, 0)).toArray 51) := by rw [← hw4]; exact put_same (by simp) _ _
  clear hw4
  have M3 := M2.keep c4
  have n5 : ¬ F w3.heap.size := fun h => by have := isAt.lt M2.I (good_md _) _ h; omega
  have a34 := c4.at a3 (by simp)
  generalize w3.heap.size = g5 at *
  simp -implicitDefEqProofs only [bdo_0, bdh_, ld_hn a5, bdr_1, wpB_some']
  refine (c_mDo M3.I M3.wf (by omega) 0 (1, 0, 0, 0, 0, 0) noH (0, (0, 1, 0, 0, 0), 0, 0)).mono ?_
  rintro _ w5 ⟨rfl, F5, i5, u5⟩
  have M5 := M3.upd i5 u5 (M3.wf.doV _ _ _ _)
  have a55 := u5.keep a5 n5
  have a35 := u5.keep a34 n3
  rw [m0_do]
  simp -implicitDefEqProofs only [bdo_0, bdr_, ld_hn a55.1, wpB_some']
  refine (c_mDo M5.I M5.wf (by omega) 0 (10, 0, 0, 0, 0, 0) (0, 1, 0, 0, 0) noR).mono ?_
  rintro _ w6 ⟨rfl, F6, i6, u6⟩
  have M6 : MdW w w6 g m2F 2 F6 := M5.upd i6 u6 (M5.wf.doV _ _ _ _)
  have a36 := u6.keep a35.1 a35.2
  have e1 : (doV (doV m0F 0 (1, 0, 0, 0, 0, 0) noH (0, (0, 1, 0, 0, 0), 0, 0)).2 0 (10, 0, 0, 0, 0, 0) (0, 1, 0, 0, 0) noR).1 = true := m1_do
  have hbe : be Try.prog .eql 53 (.tmp 40) (.tmp 41) (.agg (rsC (codeR 2)).toArray) (.agg (rsC (codeR 2)).toArray) = some (.bool true) := by rw [be_rs, decide_eq_true rfl]
  obtain ⟨_, _, _, R6⟩ := M6.I.rd
  rw [e1]
  simp -implicitDefEqProofs only [wpB_some', gd_true, gd_false, gd_tf, gd_ft, gd_ut, gd_uf, gv_true, gv_false, gv_tf, gv_ft, gv_ut, gv_uf, gE_true, gE_false, gE_tf, gE_ft, gE_ut, gE_uf, gU_true, gU_false, gU_tf, gU_ft, pickv_true, pickv_false, cnd_true, cnd_false, decide_true, decide_false, Bool.not_true, Bool.not_false, pr_not, nilv_some, bp_lss, bp_leq, bp_gtr, bp_geq, be_eql, be_neq, bne_self_eq_false, beq_self_eq_true, ldC_some, Option.isNone_none, Option.isNone_some, hp_drew, ld_res a36.1, bdr_0, hbe]
  refine (c_mSpare R6 M6.wf.sl).mono ?_
  rintro _ w7 ⟨rfl, c7⟩
  have M7 := M6.keep c7
  have e2 : (((spareN m2F.slots : Nat) : Int) == 0) = true := by rw [m2_spare]; rfl
  simp -implicitDefEqProofs only [wpB_some', gd_true, gd_false, gd_tf, gd_ft, gd_ut, gd_uf, gv_true, gv_false, gv_tf, gv_ft, gv_ut, gv_uf, gE_true, gE_false, gE_tf, gE_ft, gE_ut, gE_uf, gU_true, gU_false, gU_tf, gU_ft, pickv_true, pickv_false, cnd_true, cnd_false, decide_true, decide_false, Bool.not_true, Bool.not_false, pr_not, nilv_some, bp_lss, bp_leq, bp_gtr, bp_geq, be_eql, be_neq, bne_self_eq_false, beq_self_eq_true, ldC_some, Option.isNone_none, Option.isNone_some, hp_drew, e2]
  refine (c_mBack M7.I 0).mono ?_
  rintro _ w8 ⟨rfl, F8, i8, u8⟩
  have M8 := M7.upd i8 u8 (M7.wf.back 0)
  rw [m2_back]
  obtain ⟨_, _, _, R8⟩ := M8.I.rd
  simp -implicitDefEqProofs only [wpB_some', gd_true, gd_false, gd_tf, gd_ft, gd_ut, gd_uf, gv_true, gv_false, gv_tf, gv_ft, gv_ut, gv_uf, gE_true, gE_false, gE_tf, gE_ft, gE_ut, gE_uf, gU_true, gU_false, gU_tf, gU_ft, pickv_true, pickv_false, cnd_true, cnd_false, decide_true, decide_false, Bool.not_true, Bool.not_false, pr_not, nilv_some, bp_lss, bp_leq, bp_gtr, bp_geq, be_eql, be_neq, bne_self_eq_false, beq_self_eq_true, ldC_some, Option.isNone_none, Option.isNone_some, hp_drew]
  refine (c_mSpare R8 M8.wf.sl).mono ?_
  rintro _ w9 ⟨rfl, c9⟩
  have e3 : (((spareN (backV m2F 0).2.slots : Nat) : Int) == 1) = true := by rw [m3_spare]; rfl
  simp -implicitDefEqProofs only [wpB_some', gd_true, gd_false, gd_tf, gd_ft, gd_ut, gd_uf, gv_true, gv_false, gv_tf, gv_ft, gv_ut, gv_uf, gE_true, gE_false, gE_tf, gE_ft, gE_ut, gE_uf, gU_true, gU_false, gU_tf, gU_ft, pickv_true, pickv_false, cnd_true, cnd_false, decide_true, decide_false, Bool.not_true, Bool.not_false, pr_not, nilv_some, bp_lss, bp_leq, bp_gtr, bp_geq, be_eql, be_neq, bne_self_eq_false, beq_self_eq_true, ldC_some, Option.isNone_none, Option.isNone_some, hp_drew, e3]
  exact ⟨by first | rfl | trivial, (M8.keep c9).chg⟩
end
end Go.Proofs.Ytgamnncehjcdiaa

namespace Go.Proofs.Ytgamnncehjcdiaa
open Go Ev Go.RowKit
set_option linter.unusedSimpArgs false
set_option linter.unusedVariables false
set_option maxRecDepth 10000

section
variable {W w : World} {c : CfV} {loose : Bool}
/-- both models, and the handles that were answered -/
def pairA (c : CfV) (g gx : Nat) (kn : Value) : Array Value := (cfC c ++ [Value.pointer (some ⟨g, 0, none⟩), Value.pointer (some ⟨gx, 0, none⟩), kn]).toArray
structure PairN (W w : World) (gp g gx : Nat) (c : CfV) (m : MdV) (Fm Fx : Fp) : Prop where
  chg : Chg [] W w
  hp : hp w gp = some (.cells (pairA c g gx (.slice none 0 0)) 92)
  I : MdI w g m Fm
  X : RfI w gx (toRf m) Fx
  dis : FDis Fm Fx
  pm : ¬ Fm gp
  px : ¬ Fx gp
  nm : ∀ k, Fm k → W.heap.size ≤ k
  nx : ∀ k, Fx k → W.heap.size ≤ k
  np : W.heap.size ≤ gp
set_option maxHeartbeats 2000000 in
theorem c_made24 (hm : mayC c = true) (w : World) : CallR Try.prog 46 [.agg (cfC c).toArray, .bool loose] w fun v w' => ∃ gp g gx Fm Fx, v = .pointer (some ⟨gp, 0, none⟩) ∧ PairN w w' gp g gx c (newM c loose) Fm Fx := by
  apply F46_ok
  have b2 : Ev.hp (w.alloc (.cells (cfC c).toArray 74)) w.heap.size = some (.cells (cfC c).toArray 74) := by rw [alloc_heap, if_pos rfl]
  have c0 : Chg [] w (w.alloc (.cells (cfC c).toArray 74)) := (Chg.refl _ _).alloc _
  simp -implicitDefEqProofs only [F46, effv_box, cells_agg]
  generalize w.alloc (.cells (cfC c).toArray 74) = w0 at *
  simp -implicitDefEqProofs only [ld_cf b2, wpB_some']
  have z0 : ((0 : Int) != 0) = false := rfl
  -- the rest: a model is there
  have rest : ∀ (w1 : World) (g : Nat) (F : Fp), Chg [] w w1 → Ev.hp w1 w.heap.size = some (.cells (cfC c).toArray 74) → MdI w1 g (newM c loose) F → (∀ k, F k → w.heap.size ≤ k) →
      P46_0 (.bool loose) (.pointer (some ⟨w.heap.size, 0, none⟩)) (.pointer (some ⟨g, 0, none⟩)) (.int .i64 0) w1 fun v w' => ∃ gp g gx Fm Fx, v = .pointer (some ⟨gp, 0, none⟩) ∧ PairN w w' gp g gx c (newM c loose) Fm Fx := by
    intro w1 g F c1 hb I hF
    apply L46_0_ok
    have hbd : Ev.hp w1.drew w.heap.size = some (.cells (cfC c).toArray 74) := hb
    have cd : Chg [] w1 w1.drew := (Chg.refl _ _).drew
    have fin : ∀ (w2 : World) (gx : Nat) (Fx : Fp), Chg [] w1 w2 → RfI w2 gx (toRf (newM c loose)) Fx → (∀ k, Fx k → w1.drew.heap.size ≤ k) →
        ∃ gp g' gx' Fm Fx, Value.pointer (some ⟨w2.heap.size, 0, none⟩) = .pointer (some ⟨gp, 0, none⟩) ∧ PairN w (w2.alloc (.cells (pairA c g gx (.slice none 0 0)) 92)) gp g' gx' c (newM c loose) Fm Fx := by
      intro w2 gx Fx c2 X hX
      have ca : Chg [] w2 (w2.alloc (.cells (pairA c g gx (.slice none 0 0)) 92)) := (Chg.refl _ _).alloc _
      have I2 := I.keep c2
      refine ⟨w2.heap.size, g, gx, F, Fx, rfl, c1.trans (c2.trans ca), by rw [alloc_heap, if_pos rfl], I2.keep ca, X.keep ca, fun k h1 h2 => ?_, fun h => ?_, fun h => ?_, hF, fun k hk => ?_, (c1.trans c2).size⟩
      · have a1 := isAt.lt I (good_md _) k h1
        have a2 := hX k h2
        have : w1.drew.heap.size = w1.heap.size := rfl
        omega
      · have := isAt.lt I2 (good_md _) _ h; omega
      · have := isAt.lt X (good_rf _) _ h; omega
      · have a2 := hX k hk
        have : w1.drew.heap.size = w1.heap.size := rfl
        have := c1.size
        omega
    have hbd2 : ∀ gx, pureRun Try.prog (Instr.build 92 #[(0, .agg (cfC c).toArray), (1, .pointer (some ⟨g, 0, none⟩)), (2, .pointer (some ⟨gx, 0, none⟩))]) = some (.agg (pairA c g gx (.slice none 0 0))) := fun gx => bd_92_0_1_2
    simp -implicitDefEqProofs only [L46_0, wpB_some', gd_true, gd_false, gd_tf, gd_ft, gd_ut, gd_uf, gv_true, gv_false, gv_tf, gv_ft, gv_ut, gv_uf, gE_true, gE_false, gE_tf, gE_ft, gE_ut, gE_uf, gU_true, gU_false, gU_tf, gU_ft, pickv_true, pickv_false, cnd_true, cnd_false, decide_true, decide_false, Bool.not_true, Bool.not_false, pr_not, nilv_some, bp_lss, bp_leq, bp_gtr, bp_geq, be_eql, be_neq, bne_self_eq_false, beq_self_eq_true, ldC_some, Option.isNone_none, Option.isNone_some, hp_drew, be_eqlp Try.underlying75, Option.isNone_some, z0, ld_cf hbd]
    constructor
    · refine (c_rNew c loose hm w1.drew).mono ?_
      rintro _ w2 ⟨gx, Fx, rfl, c2, X, hX⟩
      simp -implicitDefEqProofs only [hbd2, wpB_some', effv_box, cells_agg]
      exact fin w2 gx Fx (cd.trans c2) X hX
    · refine (c_rNew c loose hm w1.drew).mono ?_
      rintro _ w2 ⟨gx, Fx, rfl, c2, X, hX⟩
      have hb2 := (cd.trans c2).at hb (by simp)
      simp -implicitDefEqProofs only [ld_cf hb2, hbd2, wpB_some', effv_box, cells_agg]
      exact fin w2 gx Fx (cd.trans c2) X hX
  refine (c_mNew c w0).mono ?_
  rintro v w1 ⟨c1, hv⟩
  have b21 := c1.at b2 (by simp)
  have s0 := c0.size
  have s1 := c1.size
  rcases hv with ⟨hm', _⟩ | ⟨_, g, F, rfl, I, hF⟩
  · rw [hm] at hm'; cases hm'
  cases loose with
  | false =>
    simp -implicitDefEqProofs only [tup0, tup1, wpB_some', gd_true, gd_false, gd_tf, gd_ft, gd_ut, gd_uf, gv_true, gv_false, gv_tf, gv_ft, gv_ut, gv_uf, gE_true, gE_false, gE_tf, gE_ft, gE_ut, gE_uf, gU_true, gU_false, gU_tf, gU_ft, pickv_true, pickv_false, cnd_true, cnd_false, decide_true, decide_false, Bool.not_true, Bool.not_false, pr_not, nilv_some, bp_lss, bp_leq, bp_gtr, bp_geq, be_eql, be_neq, bne_self_eq_false, beq_self_eq_true, ldC_some, Option.isNone_none, Option.isNone_some, hp_drew]
    exact rest w1 g F (c0.trans c1) b21 I fun k hk => by have := hF k hk; omega
  | true =>
    simp -implicitDefEqProofs only [tup0, tup1, wpB_some', gd_true, gd_false, gd_tf, gd_ft, gd_ut, gd_uf, gv_true, gv_false, gv_tf, gv_ft, gv_ut, gv_uf, gE_true, gE_false, gE_tf, gE_ft, gE_ut, gE_uf, gU_true, gU_false, gU_tf, gU_ft, pickv_true, pickv_false, cnd_true, cnd_false, decide_true, decide_false, Bool.not_true, Bool.not_false, pr_not, nilv_some, bp_lss, bp_leq, bp_gtr, bp_geq, be_eql, be_neq, bne_self_eq_false, beq_self_eq_true, ldC_some, Option.isNone_none, Option.isNone_some, hp_drew, ld_cf b21]
    refine (c_mLoose c w1).mono ?_
    rintro v w2 ⟨c2, hv⟩
    rcases hv with ⟨hm', _⟩ | ⟨_, g2, F2, rfl, I2, hF2⟩
    · rw [hm] at hm'; cases hm'
    simp -implicitDefEqProofs only [tup0, tup1, wpB_some', gd_true, gd_false, gd_tf, gd_ft, gd_ut, gd_uf, gv_true, gv_false, gv_tf, gv_ft, gv_ut, gv_uf, gE_true, gE_false, gE_tf, gE_ft, gE_ut, gE_uf, gU_true, gU_false, gU_tf, gU_ft, pickv_true, pickv_false, cnd_true, cnd_false, decide_true, decide_false, Bool.not_true, Bool.not_false, pr_not, nilv_some, bp_lss, bp_leq, bp_gtr, bp_geq, be_eql, be_neq, bne_self_eq_false, beq_self_eq_true, ldC_some, Option.isNone_none, Option.isNone_some, hp_drew]
    exact rest w2 g2 F2 (c0.trans (c1.trans c2)) (c2.at b21 (by simp)) I2 fun k hk => by have := hF2 k hk; omega
end
end Go.Proofs.Ytgamnncehjcdiaa

namespace Go.Proofs.Ytgamnncehjcdiaa
open Go Ev Go.RowKit
set_option linter.unusedSimpArgs false
set_option linter.unusedVariables false
set_option maxRecDepth 10000

/-- the model, and what is told of its slots -/
structure SlI (loose : Bool) (n : Nat) (m : MdV) (st gn : List Int) (K : Nat) : Prop where
  hd : m.hands = [⟨0, []⟩]
  lo : m.loose = loose
  sl : m.slots.length = n
  l1 : st.length = 4
  l2 : gn.length = 4
  n4 : n ≤ 4
  at' : ∀ s, s < n → m.slots[s]? = some (st.getD s 0, gn.getD s 0)
  r : ∀ (s : Nat) (g : Int), s < n → (findR m.rgs ((s : Int), g)).isSome = decide (1 ≤ g ∧ g ≤ gn.getD s 0)
  gr : ∀ s, 0 ≤ gn.getD s 0 ∧ gn.getD s 0 ≤ K
  lv : ∀ s, s < n → st.getD s 0 = 1 → 1 ≤ gn.getD s 0
theorem setD {L : List Int} {k j : Nat} {x : Int} : (L.set k x).getD j 0 = if k = j ∧ j < L.length then x else L.getD j 0 := by
  rw [List.getD_eq_getElem?_getD, List.getElem?_set, List.getD_eq_getElem?_getD]
  by_cases h : k = j
  · subst h
    by_cases h2 : k < L.length
    · rw [if_pos rfl, if_pos h2, if_pos ⟨rfl, h2⟩]; rfl
    · rw [if_pos rfl, if_neg h2, if_neg (fun h => h2 h.2), List.getElem?_eq_none (by omega)]
  · rw [if_neg h, if_neg (fun h' => h h'.1)]
section
variable {loose : Bool} {n : Nat} {m : MdV} {st gn : List Int} {K : Nat} {s : Nat} {r : RsV}
theorem SlI.mono (I : SlI loose n m st gn K) {K' : Nat} (h : K ≤ K') : SlI loose n m st gn K' :=
  ⟨I.hd, I.lo, I.sl, I.l1, I.l2, I.n4, I.at', I.r, fun s => by have := I.gr s; omega, I.lv⟩
theorem SlI.hd0 (I : SlI loose n m st gn K) : m.hands[(0 : Int).toNat]? = some ⟨0, []⟩ := by rw [I.hd]; rfl
theorem SlI.may (I : SlI loose n m st gn K) {kd : Int} (hk : kd = 1 ∨ kd = 10) : mayV m 0 (kd, 0, 0, 0, 0, 0) = true := by
  rcases hk with rfl | rfl <;> simp [mayV, mayO, I.hd, frM, atM, nM, nB, vB, wB, ofK]
theorem SlI.create (I : SlI loose n m st gn K) (r : RsV) : doV m 0 (1, 0, 0, 0, 0, 0) noH r = createsV m 0 r := by
  have mv : (mustV m 0 (1, 0, 0, 0, 0, 0) noH).2 = false := by
    rw [mustV, if_neg (by rw [I.may (.inl rfl)]; simp), I.hd0]
    simp only
    rw [if_neg (by
      have : refusesV m ⟨0, []⟩ (1, 0, 0, 0, 0, 0) noH = 0 := by
        rw [refusesV, if_neg (fun h => h.1 (by rfl))]; rfl
      rw [this]; simp), if_pos (.inl trivial)]
  rw [doV, if_neg (by rw [I.may (.inl rfl)]; simp), if_neg (by rw [mv]; simp), if_pos rfl]
theorem SlI.noslot (I : SlI loose n m st gn K) : doV m 0 (1, 0, 0, 0, 0, 0) noH (codeR 7) = (loose || decide (spareN m.slots = 0), m) := by
  rw [I.create, createsV, if_pos rfl, I.lo]
theorem r_ne7 {h : HnV} : ((0, h, 0, 0) : RsV) ≠ codeR 7 := fun e => by have := congrArg (fun r : RsV => r.1) e; simp [codeR] at this
theorem SlI.later (I : SlI loose n m st gn K) (hK : K ≤ 1000) (s : Nat) : laterV (gn.getD s 0) = gn.getD s 0 + 1 := by
  have := I.gr s
  rw [laterV, if_pos (by omega)]
theorem SlI.creates (I : SlI loose n m st gn K) (hK : K ≤ 1000) (hs : s < n) (x : Int) : createsV m 0 (0, ((s : Int), x, 0, 0, 0), 0, 0) = if st.getD s 0 = 0 ∧ x = gn.getD s 0 + 1 then
    (true, { m with slots := m.slots.set s (1, gn.getD s 0 + 1), rgs := m.rgs ++ [⟨((s : Int), gn.getD s 0 + 1), 0, 0, [], [], []⟩] }) else (false, m) := by
  have hsl := I.sl
  rw [createsV, if_neg r_ne7, if_pos ⟨by simp, by simp only; omega⟩]
  simp only [Int.toNat_natCast]
  rw [I.at' s hs]
  simp only
  rw [I.later hK s]
  by_cases h0 : st.getD s 0 = 0
  · rw [if_neg (by simpa using h0)]
    by_cases hx : x = gn.getD s 0 + 1
    · rw [if_pos (by rw [hx]), if_pos ⟨h0, hx⟩]
    · rw [if_neg (fun e => hx (by have := congrArg (fun r : RsV => r.2.1.2.1) e; exact this)), if_neg (fun h => hx h.2)]
  · rw [if_pos h0, if_neg (fun h => h0 h.1)]
theorem SlI.two (I : SlI loose n m st gn K) (hK : K ≤ 1000) (hs : s < n) : doV m 0 (1, 0, 0, 0, 0, 0) noH (0, ((s : Int), gn.getD s 0 + 2, 0, 0, 0), 0, 0) = (false, m) := by
  rw [I.create, I.creates hK hs, if_neg (by omega)]
theorem SlI.one (I : SlI loose n m st gn K) (hK : K ≤ 1000) (hs : s < n) : doV m 0 (1, 0, 0, 0, 0, 0) noH (0, ((s : Int), gn.getD s 0 + 1, 0, 0, 0), 0, 0) = if st.getD s 0 = 0 then
    (true, { m with slots := m.slots.set s (1, gn.getD s 0 + 1), rgs := m.rgs ++ [⟨((s : Int), gn.getD s 0 + 1), 0, 0, [], [], []⟩] }) else (false, m) := by
  rw [I.create, I.creates hK hs]
  by_cases h : st.getD s 0 = 0
  · rw [if_pos ⟨h, rfl⟩, if_pos h]
  · rw [if_neg (fun h' => h h'.1), if_neg h]
theorem findR_snoc (L : List RgV) (x : RgV) (nm : NmV) : (findR (L ++ [x]) nm).isSome = ((findR L nm).isSome || decide (x.nm = nm)) := by
  unfold findR
  rw [List.findIdx?_append]
  cases h : L.findIdx? (fun r => decide (r.nm = nm)) with
  | some i => simp
  | none =>
    by_cases hx : x.nm = nm <;> simp [List.findIdx?_cons, hx]
theorem SlI.grow (I : SlI loose n m st gn K) (hs : s < n) :
    SlI loose n { m with slots := m.slots.set s (1, gn.getD s 0 + 1), rgs := m.rgs ++ [⟨((s : Int), gn.getD s 0 + 1), 0, 0, [], [], []⟩] } (st.set s 1) (gn.set s (gn.getD s 0 + 1)) (K + 1) := by
  have l1 := I.l1; have l2 := I.l2; have n4 := I.n4; have sl := I.sl
  refine ⟨I.hd, I.lo, by simp [sl], by simp [l1], by simp [l2], n4, fun j hj => ?_, fun j g hj => ?_, fun j => ?_, fun j hj h => ?_⟩
  · simp only
    rw [List.getElem?_set, setD, setD]
    by_cases h : s = j
    · subst h
      rw [if_pos rfl, if_pos (by omega), if_pos ⟨rfl, by omega⟩, if_pos ⟨rfl, by omega⟩]
    · rw [if_neg h, if_neg (fun h' => h h'.1), if_neg (fun h' => h h'.1)]; exact I.at' j hj
  · simp only
    have g0 := I.gr s
    rw [findR_snoc, I.r j g hj, setD]
    by_cases h : s = j
    · subst h
      rw [if_pos ⟨rfl, by omega⟩]
      by_cases hg : g = gn.getD s 0 + 1
      · rw [hg, decide_eq_true (show ((s : Int), gn.getD s 0 + 1) = ((s : Int), gn.getD s 0 + 1) from rfl), Bool.or_true]
        exact (decide_eq_true (by omega)).symm
      · rw [decide_eq_false (fun e : ((s : Int), gn.getD s 0 + 1) = ((s : Int), g) => hg (by have := congrArg Prod.snd e; exact this.symm)), Bool.or_false]
        congr 1
        exact propext ⟨fun h => by omega, fun h => by omega⟩
    · rw [if_neg (fun h' => h h'.1), decide_eq_false (fun e : ((s : Int), gn.getD s 0 + 1) = ((j : Int), g) => h (by have := congrArg Prod.fst e; simp only at this; omega)), Bool.or_false]
  · rw [setD]
    have := I.gr j; have := I.gr s
    split <;> omega
  · rw [setD] at h ⊢
    by_cases hsj : s = j
    · rw [if_pos ⟨hsj, by omega⟩]; have := I.gr s; omega
    · rw [if_neg (fun h' => hsj h'.1)] at h ⊢
      exact I.lv j hj h
/-- a slot's state is another one -/
theorem SlI.turn (I : SlI loose n m st gn K) (hs : s < n) (v : Int) (hv : v ≠ 1) : SlI loose n { m with slots := m.slots.set s (v, gn.getD s 0) } (st.set s v) gn K := by
  have l1 := I.l1; have sl := I.sl; have n4 := I.n4
  refine ⟨I.hd, I.lo, by simp [sl], by simp [l1], I.l2, n4, fun j hj => ?_, I.r, I.gr, fun j hj h => ?_⟩
  · simp only
    rw [List.getElem?_set, setD]
    by_cases h : s = j
    · subst h
      rw [if_pos rfl, if_pos (by omega), if_pos ⟨rfl, by omega⟩]
    · rw [if_neg h, if_neg (fun h' => h h'.1)]; exact I.at' j hj
  · rw [setD] at h
    by_cases hsj : s = j
    · rw [if_pos ⟨hsj, by omega⟩] at h; exact absurd h hv
    · rw [if_neg (fun h' => hsj h'.1)] at h
      exact I.lv j hj h
/-- what a Free must answer -/
def freeC (st gn : List Int) (s : Nat) : Int := if gn.getD s 0 = 0 then 2 else if st.getD s 0 = 1 then 0 else 3
theorem SlI.free (I : SlI loose n m st gn K) (hs : s < n) : doV m 0 (10, 0, 0, 0, 0, 0) ((s : Int), gn.getD s 0, 0, 0, 0) (codeR (freeC st gn s)) =
    (true, if st.getD s 0 = 1 then { m with slots := m.slots.set s (if loose then 0 else 2, gn.getD s 0) } else m) := by
  have hk : knownV m ((s : Int), gn.getD s 0, 0, 0, 0) 1 = decide (1 ≤ gn.getD s 0) := by
    have hr := I.r s (gn.getD s 0) hs
    unfold knownV
    cases hf : findR m.rgs ((s : Int), gn.getD s 0) with
    | none =>
      rw [hf] at hr
      simp only at hr ⊢
      have := of_decide_eq_false hr.symm
      exact (decide_eq_false (by omega)).symm
    | some i =>
      rw [hf] at hr
      simp only [Option.isSome_some] at hr ⊢
      have := of_decide_eq_true hr.symm
      rw [decide_eq_true (show 1 ≤ gn.getD s 0 by omega)]
      simp
  have hlv : isLv m ((s : Int), gn.getD s 0) = decide (st.getD s 0 = 1) := by
    have hsl := I.sl
    rw [isLv, decide_eq_true (show 0 ≤ ((s : Int), gn.getD s 0).1 ∧ ((s : Int), gn.getD s 0).1 < m.slots.length by simp only; omega), Bool.true_and]
    have ea : m.slots[((s : Int), gn.getD s 0).1.toNat]? = some (st.getD s 0, gn.getD s 0) := by simp only [Int.toNat_natCast]; exact I.at' s hs
    by_cases h : st.getD s 0 = 1
    · rw [decide_eq_true h]; exact decide_eq_true (by rw [ea, h])
    · rw [decide_eq_false h]; exact decide_eq_false (by rw [ea]; intro e; exact h (congrArg Prod.fst (Option.some.inj e)))
  have hrf : refusesV m ⟨0, []⟩ (10, 0, 0, 0, 0, 0) ((s : Int), gn.getD s 0, 0, 0, 0) = freeC st gn s := by
    have g0 := (I.gr s).1
    have e10 : ofK 10 = 1 := rfl
    rw [refusesV]
    simp only [e10, hk]
    by_cases h0 : gn.getD s 0 = 0
    · rw [if_pos ⟨by decide, decide_eq_false (by omega)⟩, freeC, if_pos h0]
    · rw [if_neg (fun h => by have := of_decide_eq_false h.2; omega), freeC, if_neg h0]
      have : codeV m.c.2.2.1 ⟨0, []⟩ (holdsV ⟨0, []⟩ ((s : Int), gn.getD s 0, 0, 0, 0)) (staleV m ((s : Int), gn.getD s 0, 0, 0, 0)) (10, 0, 0, 0, 0, 0) 0 = staleV m ((s : Int), gn.getD s 0, 0, 0, 0) := by
        simp [codeV]
      rw [this, staleV]
      simp only [hlv]
      by_cases h1 : st.getD s 0 = 1
      · rw [if_pos h1, if_pos (decide_eq_true h1)]
      · rw [if_neg h1, if_neg (by rw [decide_eq_false h1]; simp)]
  have hb : mustB m (10, 0, 0, 0, 0, 0) ((s : Int), gn.getD s 0, 0, 0, 0) = noR := by simp [mustB]
  have mv : mustV m 0 (10, 0, 0, 0, 0, 0) ((s : Int), gn.getD s 0, 0, 0, 0) = (codeR (freeC st gn s), true) := by
    rw [mustV, if_neg (by rw [I.may (.inr rfl)]; simp), I.hd0]
    simp only
    rw [hrf]
    by_cases h : freeC st gn s = 0
    · rw [if_neg (by rw [h]; simp), if_neg (by decide), hb, h]; rfl
    · rw [if_pos h]
  rw [doV, if_neg (by rw [I.may (.inr rfl)]; simp), mv]
  simp only [if_true]
  have ec : (codeR (freeC st gn s)).1 = freeC st gn s := rfl
  rw [ec]
  congr 1
  have dv : doesV m 0 (10, 0, 0, 0, 0, 0) ((s : Int), gn.getD s 0, 0, 0, 0) = { m with slots := m.slots.set s (if m.loose then 0 else 2, gn.getD s 0) } := by
    rw [doesV, I.hd0]
    simp only
    rw [if_neg (by decide), if_neg (by decide), if_neg (by decide), if_neg (by decide), if_neg (by decide), if_neg (by decide), if_pos trivial]
    simp only [Int.toNat_natCast]
    rw [I.at' s hs]
  have g1 := I.lv s hs
  rw [dv, I.lo]
  by_cases h1 : st.getD s 0 = 1
  · rw [if_pos h1, if_pos (by rw [freeC, if_neg (by have := g1 h1; omega), if_pos h1])]
  · rw [if_neg h1, if_neg (by
      rw [freeC]
      split
      · omega
      · omega)]
theorem SlI.back (I : SlI loose n m st gn K) (hs : s < n) : backV m (s : Int) = if st.getD s 0 = 2 then (true, { m with slots := m.slots.set s (0, gn.getD s 0) }) else (false, m) := by
  have hsl := I.sl
  rw [backV, if_pos (by omega)]
  simp only [Int.toNat_natCast]
  rw [I.at' s hs]
theorem SlI.live (I : SlI loose n m st gn K) (hs : s < n) : liveV m (s : Int) = if st.getD s 0 = 1 then (gn.getD s 0, true) else (0, false) := by
  have hsl := I.sl
  rw [liveV, if_pos (by omega)]
  simp only [Int.toNat_natCast]
  rw [I.at' s hs]
/-- how many are spare -/
theorem SlI.spare (I : SlI loose n m st gn K) : spareN m.slots = ((st.take n).filter fun x => decide (x = 0)).length := by
  have : m.slots.map (·.1) = st.take n := by
    apply List.ext_getElem?
    intro i
    rw [List.getElem?_map, List.getElem?_take]
    by_cases h : i < n
    · rw [I.at' i h, if_pos h]
      have l1 := I.l1; have n4 := I.n4
      rw [List.getD_eq_getElem?_getD, List.getElem?_eq_getElem (show i < st.length by omega)]; rfl
    · rw [if_neg h, List.getElem?_eq_none (by rw [I.sl]; omega)]; rfl
  rw [← this, spareN, List.filter_map, List.length_map]
  rfl
theorem sl_new (c : CfV) (loose : Bool) (hc : c.1 = 1) (hn : 0 ≤ c.2.2.2.1 ∧ c.2.2.2.1 ≤ 4) : SlI loose c.2.2.2.1.toNat (newM c loose) [0, 0, 0, 0] [0, 0, 0, 0] 0 := by
  have g0 : ∀ s : Nat, ([0, 0, 0, 0] : List Int).getD s 0 = 0 := fun s => by
    match s with
    | 0 => rfl
    | 1 => rfl
    | 2 => rfl
    | 3 => rfl
    | s + 4 => rfl
  refine ⟨?_, rfl, by simp [newM], rfl, rfl, by omega, fun s hs => ?_, fun s g hs => ?_, fun s => by rw [g0]; omega, fun s hs h => by rw [g0] at h; omega⟩
  · simp only [newM, hc]; rfl
  · rw [g0]; simp [newM, hs]
  · rw [g0]
    have : (findR (newM c loose).rgs ((s : Int), g)).isSome = false := rfl
    rw [this]
    exact (decide_eq_false (by omega)).symm
end
end Go.Proofs.Ytgamnncehjcdiaa

