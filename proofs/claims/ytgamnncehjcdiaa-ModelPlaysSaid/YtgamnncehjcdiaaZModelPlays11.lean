/- Parts of the proof of ModelPlays, one behind the other. Conditions: none. -/
import Derived.Test.YtgamnncehjcdiaaZModelPlays10
set_option linter.unusedSimpArgs false
set_option linter.unusedVariables false
set_option maxRecDepth 10000
namespace Go.Proofs.Ytgamnncehjcdiaa
open Go Ev Go.RowKit

abbrev RsV := Int × HnV × Int × Int
def rsC (r : RsV) : List Value := [.int .i64 r.1, .int .i64 r.2.1.1, .int .i64 r.2.1.2.1, .int .i64 r.2.1.2.2.1, .int .i64 r.2.1.2.2.2.1, .int .i64 r.2.1.2.2.2.2, .int .i64 r.2.2.1, .int .u64 r.2.2.2]
def noH : HnV := (0, 0, 0, 0, 0)
def noR : RsV := (0, noH, 0, 0)
def codeR (c : Int) : RsV := (c, noH, 0, 0)
def nmOf (h : HnV) : NmV := (h.1, h.2.1)
def rgOf (m : MdV) (n : NmV) : Option RgV := (findR m.rgs n).bind (m.rgs[·]?)
def chunkW (r : RgV) (ch : Int) : List Int := r.words.getD (ixOf r.chunks ch).toNat []
def wordV (m : MdV) (h : HnV) (n : Int) : Int := match rgOf m (nmOf h) with
  | some r => (chunkW r h.2.2.1).getD (h.2.2.2.1 + n).toNat 0
  | none => 0
def setW (r : RgV) (h : HnV) (n x : Int) : RgV := { r with words := r.words.set (ixOf r.chunks h.2.2.1).toNat ((chunkW r h.2.2.1).set (h.2.2.2.1 + n).toNat x) }
def setWordV (m : MdV) (h : HnV) (n x : Int) : MdV := match findR m.rgs (nmOf h) with
  | some i => (match m.rgs[i]? with | some r => { m with rgs := m.rgs.set i (setW r h n x) } | none => m)
  | none => m
def mustB (m : MdV) (o : OpV) (h : HnV) : RsV :=
  if o.1 = 6 ∨ o.1 = 8 then (0, noH, 0, wordV m h o.2.2.2.1)
  else if o.1 = 9 then (0, noH, if wordV m h o.2.2.2.1 = o.2.2.2.2.1 then 1 else 0, 0)
  else if o.1 = 12 then (0, noH, (match rgOf m (nmOf h) with | some r => r.off | none => 0), 0)
  else noR
def mustV (m : MdV) (w : Int) (o : OpV) (h : HnV) : RsV × Bool :=
  if mayV m w o = false then (noR, false)
  else match m.hands[w.toNat]? with
  | none => (noR, false)
  | some d =>
    if refusesV m d o h ≠ 0 then (codeR (refusesV m d o h), true)
    else if o.1 = 1 ∨ o.1 = 2 then (noR, false)
    else (mustB m o h, true)
def setHd (m : MdV) (w : Int) (d : HdV) : MdV := { m with hands := m.hands.set w.toNat d }
def doesV (m : MdV) (w : Int) (o : OpV) (h : HnV) : MdV := match m.hands[w.toNat]? with
  | none => m
  | some d =>
    if o.1 = 3 then setHd m w { d with depth := d.depth + 1 }
    else if o.1 = 4 then setHd m w (if d.depth - 1 = 0 then { depth := 0, holds := [] } else { d with depth := d.depth - 1 })
    else if o.1 = 5 then (if holdsV d h then m else setHd m w { d with holds := d.holds ++ [nmOf h] })
    else if o.1 = 7 then setWordV m h o.2.2.2.1 o.2.2.2.2.1
    else if o.1 = 8 then setWordV m h o.2.2.2.1 (IntKind.u64.wrap (wordV m h o.2.2.2.1 + o.2.2.2.2.1))
    else if o.1 = 9 then (if wordV m h o.2.2.2.1 = o.2.2.2.2.1 then setWordV m h o.2.2.2.1 o.2.2.2.2.2 else m)
    else if o.1 = 10 then (match m.slots[h.1.toNat]? with | some p => { m with slots := m.slots.set h.1.toNat (if m.loose then 0 else 2, p.2) } | none => m)
    else m
def laterV (g : Int) : Int := if g < 4294967295 then g + 1 else 0
def createsV (m : MdV) (cls : Int) (r : RsV) : Bool × MdV :=
  if r = codeR 7 then (m.loose || decide (spareN m.slots = 0), m)
  else if 0 ≤ r.2.1.1 ∧ r.2.1.1 < m.slots.length then (match m.slots[r.2.1.1.toNat]? with
    | some p => if p.1 ≠ 0 then (false, m) else if r = (0, (r.2.1.1, laterV p.2, 0, 0, 0), 0, 0) then
        (true, { m with slots := m.slots.set r.2.1.1.toNat (1, laterV p.2), rgs := m.rgs ++ [⟨(r.2.1.1, laterV p.2), cls, 0, [], [], []⟩] }) else (false, m)
    | none => (false, m))
  else (false, m)
def takenV (m : MdV) (ch : Int) : Bool := m.rgs.any fun r => isLv m r.nm && decide (ch ∈ r.chunks)
def growV (words need : Int) (r : RgV) (want : HnV) : RgV :=
  if rfitsV r words need then { r with off := r.off + need, objs := r.objs ++ [want] }
  else { r with chunks := r.chunks ++ [want.2.2.1], words := r.words ++ [List.replicate words.toNat 0], off := afterV words need, objs := r.objs ++ [want] }
def wantV (words need n : Int) (r : RgV) (h : HnV) (ch : Int) : HnV := if rfitsV r words need then (h.1, h.2.1, newV r.chunks, r.off, n) else (h.1, h.2.1, ch, 0, n)
def givesV (m : MdV) (n : Int) (h : HnV) (r : RsV) : Bool × MdV := match findR m.rgs (nmOf h) with
  | none => (false, m)
  | some i => match m.rgs[i]? with
    | none => (false, m)
    | some x =>
      let need := roundV x.cls n
      let fits := rfitsV x m.c.2.2.1 need
      let want := wantV m.c.2.2.1 need n x h r.2.1.2.2.1
      if fits = false ∧ r = codeR 6 then (true, m)
      else if fits = false ∧ (r.2.1.2.2.1 < 0 ∨ m.c.2.1 ≤ r.2.1.2.2.1 ∨ takenV m r.2.1.2.2.1 = true) then (false, m)
      else if r = (0, want, 0, 0) then (true, { m with rgs := m.rgs.set i (growV m.c.2.2.1 need x want) })
      else (false, m)
def doV (m : MdV) (w : Int) (o : OpV) (h : HnV) (r : RsV) : Bool × MdV :=
  if mayV m w o = false then (false, m)
  else if (mustV m w o h).2 = true then
    (if r = (mustV m w o h).1 then (true, if r.1 = 0 then doesV m w o h else m) else (false, m))
  else if o.1 = 1 then createsV m o.2.2.2.1 r
  else givesV m o.2.2.2.1 h r
structure WfR (words : Int) (k : Nat) (r : RgV) : Prop where
  cl : r.chunks.length ≤ k
  wl : r.words.length = r.chunks.length
  ww : ∀ L ∈ r.words, (L.length : Int) = words
  ol : r.objs.length ≤ k
  ob : ∀ h ∈ r.objs, h.2.2.1 ∈ r.chunks ∧ 0 ≤ h.2.2.2.1 ∧ 1 ≤ h.2.2.2.2 ∧ h.2.2.2.1 + h.2.2.2.2 ≤ words
  of0 : 0 ≤ r.off
  ofw : r.off ≤ words
structure Wf (m : MdV) (k : Nat) : Prop where
  w1 : 1 ≤ m.c.2.2.1
  w2 : m.c.2.2.1 ≤ 1024
  sl : m.slots.length ≤ 1000000
  sg : ∀ p ∈ m.slots, 0 ≤ p.2 ∧ p.2 ≤ 4294967295
  hd : ∀ d ∈ m.hands, 0 ≤ d.depth ∧ d.depth ≤ 15 ∧ d.holds.length ≤ 8
  rl : m.rgs.length ≤ k
  rg : ∀ r ∈ m.rgs, WfR m.c.2.2.1 k r
theorem Wf.small {m : MdV} {k : Nat} (h : Wf m k) (hk : k ≤ 1000000) : Small m :=
  ⟨Nat.le_trans h.rl hk, fun r hr => Nat.le_trans (h.rg r hr).ol hk, fun d hd => by have := (h.hd d hd).2.2; omega⟩
theorem WfR.mono {words : Int} {k l : Nat} {r : RgV} (h : WfR words k r) (hl : k ≤ l) : WfR words l r := ⟨Nat.le_trans h.cl hl, h.wl, h.ww, Nat.le_trans h.ol hl, h.ob, h.of0, h.ofw⟩
theorem Wf.mono {m : MdV} {k l : Nat} (h : Wf m k) (hl : k ≤ l) : Wf m l := ⟨h.w1, h.w2, h.sl, h.sg, h.hd, Nat.le_trans h.rl hl, fun r hr => (h.rg r hr).mono hl⟩
theorem findR_at {L : List RgV} {n : NmV} {i : Nat} (h : findR L n = some i) : ∃ r, L[i]? = some r ∧ r.nm = n := by
  rw [findR, List.findIdx?_eq_some_iff_getElem] at h
  obtain ⟨hi, hp, _⟩ := h
  exact ⟨L[i], List.getElem?_eq_getElem hi, by simpa using hp⟩
theorem ixOf_at {α : Type} [DecidableEq α] {L : List α} {x : α} (h : x ∈ L) : ∃ i : Nat, ixOf L x = i ∧ L[i]? = some x := by
  have h1 := ixOf_mem L x
  rw [decide_eq_true h, decide_eq_true_eq] at h1
  unfold ixOf at h1 ⊢
  split at h1
  · rename_i i hi
    rw [List.findIdx?_eq_some_iff_getElem] at hi
    obtain ⟨hl, hp, _⟩ := hi
    exact ⟨i, rfl, by rw [List.getElem?_eq_getElem hl]; simpa using hp⟩
  · omega
theorem WfR.setW {words : Int} {k : Nat} {r : RgV} (h : WfR words k r) (a : HnV) (n x : Int) : WfR words k (setW r a n x) := by
  refine ⟨h.cl, by simp [Go.Proofs.Ytgamnncehjcdiaa.setW, h.wl], fun L hL => ?_, h.ol, h.ob, h.of0, h.ofw⟩
  rcases List.mem_or_eq_of_mem_set hL with h1 | h1
  · exact h.ww L h1
  · rw [h1, List.length_set]
    by_cases hi : (ixOf r.chunks a.2.2.1).toNat < r.words.length
    · apply h.ww; rw [chunkW, List.getD_eq_getElem?_getD, List.getElem?_eq_getElem hi]; exact List.getElem_mem hi
    · rw [Go.Proofs.Ytgamnncehjcdiaa.setW, List.set_eq_of_length_le (by omega)] at hL
      have e : chunkW r a.2.2.1 = [] := by rw [chunkW, List.getD_eq_getElem?_getD, List.getElem?_eq_none (by omega)]; rfl
      rw [e] at h1
      simp at h1
      have := h.ww L hL
      rw [h1] at this
      rw [e]; exact this
theorem mem_set {α : Type} {p : α → Prop} {L : List α} {i : Nat} {x : α} (h : ∀ y ∈ L, p y) (hx : p x) : ∀ y ∈ L.set i x, p y := fun y hy => by
  rcases List.mem_or_eq_of_mem_set hy with h1 | h1
  · exact h y h1
  · rw [h1]; exact hx
theorem Wf.setRg {m : MdV} {k : Nat} (h : Wf m k) {i : Nat} {r : RgV} (hr : WfR m.c.2.2.1 k r) : Wf { m with rgs := m.rgs.set i r } k :=
  ⟨h.w1, h.w2, h.sl, h.sg, h.hd, by simpa using h.rl, mem_set h.rg hr⟩
theorem Wf.setHd {m : MdV} {k : Nat} (h : Wf m k) {w : Int} {d : HdV} (hd : 0 ≤ d.depth ∧ d.depth ≤ 15 ∧ d.holds.length ≤ 8) : Wf (setHd m w d) k :=
  ⟨h.w1, h.w2, h.sl, h.sg, mem_set h.hd hd, h.rl, h.rg⟩
theorem Wf.setSl {m : MdV} {k : Nat} (h : Wf m k) {i : Nat} {p : NmV} (hp : 0 ≤ p.2 ∧ p.2 ≤ 4294967295) : Wf { m with slots := m.slots.set i p } k :=
  ⟨h.w1, h.w2, by simpa using h.sl, mem_set h.sg hp, h.hd, h.rl, h.rg⟩
theorem Wf.setWord {m : MdV} {k : Nat} (h : Wf m k) (a : HnV) (n x : Int) : Wf (setWordV m a n x) k := by
  unfold setWordV
  split
  · split
    · rename_i r hr
      exact h.setRg ((h.rg r (List.mem_of_getElem? hr)).setW a n x)
    · exact h
  · exact h
theorem later_ok {g : Int} (h : 0 ≤ g) : 0 ≤ laterV g ∧ laterV g ≤ 4294967295 := by unfold laterV; split <;> omega
theorem Wf.back {m : MdV} {k : Nat} (h : Wf m k) (n : Int) : Wf (backV m n).2 k := by
  unfold backV
  split
  · split
    · rename_i p hp
      split
      · exact h.setSl (h.sg p (List.mem_of_getElem? hp))
      · exact h
    · exact h
  · exact h
theorem right_need {words need : Int} (h : rightV words need = true) : 1 ≤ need ∧ need ≤ words := by have := right_iff h; omega
theorem fits_need {r : RgV} {words need : Int} (h : rfitsV r words need = true) : 0 < r.chunks.length ∧ 1 ≤ need ∧ 0 ≤ r.off ∧ r.off + need ≤ words := by
  simp only [rfitsV, fitsV, Bool.and_eq_true, Bool.not_eq_true', decide_eq_true_eq] at h
  have := right_need h.2.1
  omega
theorem after_ok {words need : Int} (hw : 0 ≤ words) : 0 ≤ afterV words need ∧ afterV words need ≤ words := by
  unfold afterV
  split
  · rename_i h
    have := right_need h
    split <;> omega
  · omega
theorem newV_mem {l : List Int} (h : 0 < l.length) : newV l ∈ l := by
  rw [newV, if_neg (by omega), List.getD_eq_getElem?_getD, List.getElem?_eq_getElem (by omega)]
  exact List.getElem_mem _
theorem round_ge {cls n : Int} (h1 : 1 ≤ n) (h2 : n ≤ 1024) : n ≤ roundV cls n ∧ roundV cls n ≤ 1031 := by
  rw [roundV, if_neg (by omega)]
  have : stepOf cls = 1 ∨ stepOf cls = 2 ∨ stepOf cls = 4 ∨ stepOf cls = 8 := by unfold stepOf; repeat' split; all_goals omega
  unfold roundS
  rcases this with h | h | h | h <;> rw [h] <;> omega
theorem WfR.grow {words : Int} {k : Nat} {r : RgV} (h : WfR words k r) (hw : 0 ≤ words) {n need : Int} (hn : 1 ≤ n) (hnw : n ≤ words) (hnn : n ≤ need) (a : HnV) (ch : Int) : WfR words (k + 1) (growV words need r (wantV words need n r a ch)) := by
  unfold growV wantV
  cases hf : rfitsV r words need with
  | true =>
    obtain ⟨f1, f2, f3, f4⟩ := fits_need hf
    simp only [if_true]
    refine ⟨by have := h.cl; simp only; omega, h.wl, h.ww, by have := h.ol; simp; omega, fun x hx => ?_, by show 0 ≤ r.off + need; omega, f4⟩
    rcases List.mem_append.1 hx with h1 | h1
    · exact h.ob x h1
    · rw [List.mem_singleton.1 h1]
      exact ⟨newV_mem f1, f3, hn, by show r.off + n ≤ words; omega⟩
  | false =>
    simp only [Bool.false_eq_true, if_false]
    refine ⟨by have := h.cl; simp; omega, by simp [h.wl], fun L hL => ?_, by have := h.ol; simp; omega, fun x hx => ?_, (after_ok hw).1, (after_ok hw).2⟩
    · rcases List.mem_append.1 hL with h1 | h1
      · exact h.ww L h1
      · rw [List.mem_singleton.1 h1, List.length_replicate]; omega
    · rcases List.mem_append.1 hx with h1 | h1
      · have := h.ob x h1
        exact ⟨List.mem_append_left _ this.1, this.2⟩
      · rw [List.mem_singleton.1 h1]
        exact ⟨List.mem_append_right _ (by simp), by show (0 : Int) ≤ 0; omega, hn, by show 0 + n ≤ words; omega⟩
theorem may_n {m : MdV} {w : Int} {o : OpV} (h : mayV m w o = true) : 0 ≤ w ∧ w < m.hands.length ∧ 0 ≤ o.2.2.2.1 := by
  simp only [mayV, mayO, Bool.and_eq_true, decide_eq_true_eq] at h
  exact ⟨h.1, h.2.1, h.2.2.2.2.2.1.1⟩
theorem refuses_n {m : MdV} {d : HdV} {o : OpV} {h : HnV} (hr : refusesV m d o h = 0) (ho : o.1 = 2) : 1 ≤ o.2.2.2.1 ∧ o.2.2.2.1 ≤ m.c.2.2.1 ∧ isLv m (nmOf h) = true ∧ knownV m h 1 = true := by
  unfold refusesV at hr
  split at hr
  · omega
  · rename_i hk
    have e : ofK o.1 = 1 := by rw [ho]; rfl
    rw [e] at hk
    rw [codeV, if_pos ho] at hr
    split at hr
    · omega
    · refine ⟨by omega, by omega, ?_, ?_⟩
      · unfold staleV at hr
        split at hr
        · assumption
        · omega
      · cases hkk : knownV m h 1 with
        | true => rfl
        | false => exact absurd ⟨by omega, hkk⟩ hk
end Go.Proofs.Ytgamnncehjcdiaa

namespace Go.Proofs.Ytgamnncehjcdiaa
open Go Ev Go.RowKit

theorem refuses_code {m : MdV} {d : HdV} {o : OpV} {h : HnV} (hr : refusesV m d o h = 0) : (ofK o.1 = 0 ∨ knownV m h (ofK o.1) = true) ∧ codeV m.c.2.2.1 d (holdsV d h) (staleV m h) o h.2.2.2.2 = 0 := by
  unfold refusesV at hr
  split at hr
  · omega
  · rename_i hk
    refine ⟨?_, hr⟩
    by_cases h0 : ofK o.1 = 0
    · exact .inl h0
    · right
      cases hkk : knownV m h (ofK o.1) with
      | true => rfl
      | false => exact absurd ⟨h0, hkk⟩ hk
theorem Wf.does {m : MdV} {k : Nat} (h : Wf m k) {w : Int} {o : OpV} {a : HnV} {d : HdV} (hd : m.hands[w.toNat]? = some d) (hr : refusesV m d o a = 0) : Wf (doesV m w o a) k := by
  have hc := (refuses_code hr).2
  have hD := h.hd d (List.mem_of_getElem? hd)
  unfold doesV
  rw [hd]
  simp only
  split
  · rename_i k3
    rw [codeV, if_neg (by omega), if_pos k3] at hc
    refine h.setHd ⟨by simp only; omega, ?_, hD.2.2⟩
    split at hc
    · omega
    · simp only; omega
  split
  · rename_i k3 k4
    rw [codeV, if_neg (by omega), if_neg (by omega), if_pos k4] at hc
    refine h.setHd ?_
    split
    · exact ⟨Int.le_refl _, by decide, Nat.zero_le _⟩
    · refine ⟨?_, by simp only; omega, hD.2.2⟩
      split at hc
      · omega
      · simp only; omega
  split
  · rename_i k3 k4 k5
    rw [codeV, if_neg (by omega), if_neg (by omega), if_neg (by omega), if_pos k5] at hc
    split
    · exact h
    · rename_i hh
      refine h.setHd ⟨hD.1, hD.2.1, ?_⟩
      split at hc
      · omega
      · split at hc
        · omega
        · simp; omega
  split
  · exact h.setWord _ _ _
  split
  · exact h.setWord _ _ _
  split
  · split
    · exact h.setWord _ _ _
    · exact h
  split
  · split
    · rename_i p hp
      exact h.setSl (h.sg p (List.mem_of_getElem? hp))
    · exact h
  · exact h
theorem Wf.creates {m : MdV} {k : Nat} (h : Wf m k) (cls : Int) (r : RsV) : Wf (createsV m cls r).2 (k + 1) := by
  have h1 := h.mono (Nat.le_succ k)
  unfold createsV
  split
  · exact h1
  split
  · split
    · rename_i p hp
      split
      · exact h1
      split
      · have hp' := h.sg p (List.mem_of_getElem? hp)
        refine ⟨h.w1, h.w2, by simpa using h.sl, mem_set h.sg (later_ok hp'.1), h.hd, by have := h.rl; simp; omega, fun x hx => ?_⟩
        rcases List.mem_append.1 hx with hx | hx
        · exact h1.rg x hx
        · rw [List.mem_singleton.1 hx]
          have := h.w1
          exact ⟨Nat.zero_le _, rfl, fun L hL => by simp at hL, Nat.zero_le _, fun a ha => by simp at ha, Int.le_refl _, by show (0 : Int) ≤ m.c.2.2.1; omega⟩
      · exact h1
    · exact h1
  · exact h1
theorem Wf.gives {m : MdV} {k : Nat} (h : Wf m k) {n : Int} (h1 : 1 ≤ n) (h2 : n ≤ m.c.2.2.1) (a : HnV) (r : RsV) : Wf (givesV m n a r).2 (k + 1) := by
  have hk := h.mono (Nat.le_succ k)
  have w1 := h.w1
  have w2 := h.w2
  unfold givesV
  split
  · exact hk
  · split
    · exact hk
    · rename_i i _ x hx
      have hW := h.rg x (List.mem_of_getElem? hx)
      simp only
      split
      · exact hk
      split
      · exact hk
      split
      · refine ⟨h.w1, h.w2, h.sl, h.sg, h.hd, by have := h.rl; simp; omega, mem_set hk.rg ?_⟩
        exact hW.grow (by omega) h1 h2 (round_ge h1 (by omega)).1 a _
      · exact hk
theorem may_k {m : MdV} {w : Int} {o : OpV} (h : mayV m w o = true) : 1 ≤ o.1 ∧ o.1 ≤ 12 := by
  simp only [mayV, mayO, Bool.and_eq_true, decide_eq_true_eq] at h
  exact ⟨h.2.2.1.1, h.2.2.1.2⟩
theorem may_hd {m : MdV} {w : Int} {o : OpV} (h : mayV m w o = true) : ∃ d, m.hands[w.toNat]? = some d := ⟨_, List.getElem?_eq_getElem (by have := may_n h; omega)⟩
theorem must_open {m : MdV} {w : Int} {o : OpV} {h : HnV} (hm : mayV m w o = true) {d : HdV} (hd : m.hands[w.toNat]? = some d) (hi : (mustV m w o h).2 = false) : refusesV m d o h = 0 ∧ (o.1 = 1 ∨ o.1 = 2) := by
  unfold mustV at hi
  rw [if_neg (by rw [hm]; simp), hd] at hi
  simp only at hi
  split at hi
  · cases hi
  · rename_i h0
    split at hi
    · rename_i h1
      exact ⟨by omega, h1⟩
    · cases hi
theorem must_fine {m : MdV} {w : Int} {o : OpV} {h : HnV} (hm : mayV m w o = true) {d : HdV} (hd : m.hands[w.toNat]? = some d) (hc : (mustV m w o h).1.1 = 0) : refusesV m d o h = 0 := by
  unfold mustV at hc
  rw [if_neg (by rw [hm]; simp), hd] at hc
  simp only at hc
  split at hc
  · exact hc
  · omega
theorem touch_ok {m : MdV} {d : HdV} {o : OpV} {h : HnV} (hr : refusesV m d o h = 0) (h6 : 6 ≤ o.1) (h9 : o.1 ≤ 9) : knownV m h 2 = true ∧ o.2.2.2.1 < h.2.2.2.2 := by
  obtain ⟨h1, h2⟩ := refuses_code hr
  have e : ofK o.1 = 2 := by rw [ofK, if_neg (by omega), if_pos ⟨h6, h9⟩]
  rw [e] at h1
  rw [codeV, if_neg (by omega), if_neg (by omega), if_neg (by omega), if_neg (by omega), if_pos ⟨h6, h9⟩] at h2
  refine ⟨h1.resolve_left (by omega), ?_⟩
  split at h2
  · omega
  · split at h2
    · omega
    · omega
theorem region_ok {m : MdV} {d : HdV} {o : OpV} {h : HnV} (hr : refusesV m d o h = 0) (hk : o.1 = 2 ∨ o.1 = 10 ∨ o.1 = 12) : ∃ i r, findR m.rgs (nmOf h) = some i ∧ m.rgs[i]? = some r ∧ r.nm = nmOf h ∧ isLv m (nmOf h) = true := by
  obtain ⟨h1, h2⟩ := refuses_code hr
  have e : ofK o.1 = 1 := by rw [ofK, if_pos hk]
  rw [e] at h1
  have hl : isLv m (nmOf h) = true := by
    have : staleV m h = 0 := by
      unfold codeV at h2
      rcases hk with k | k | k
      · rw [if_pos k] at h2
        split at h2
        · omega
        · exact h2
      · rw [if_neg (by omega), if_neg (by omega), if_neg (by omega), if_neg (by omega), if_neg (by omega), if_pos (by omega)] at h2; exact h2
      · rw [if_neg (by omega), if_neg (by omega), if_neg (by omega), if_neg (by omega), if_neg (by omega), if_pos (by omega)] at h2; exact h2
    unfold staleV at this
    split at this
    · assumption
    · omega
  have hk1 := h1.resolve_left (by omega)
  unfold knownV at hk1
  split at hk1
  · cases hk1
  · rename_i i hf
    obtain ⟨r, hr', hn⟩ := findR_at hf
    exact ⟨i, r, hf, hr', hn, hl⟩
theorem Wf.doV {m : MdV} {k : Nat} (h : Wf m k) (w : Int) (o : OpV) (a : HnV) (r : RsV) : Wf (doV m w o a r).2 (k + 1) := by
  have hk := h.mono (Nat.le_succ k)
  unfold Go.Proofs.Ytgamnncehjcdiaa.doV
  cases hm : mayV m w o with
  | false => simp only [if_true]; exact hk
  | true =>
    rw [if_neg (by simp)]
    obtain ⟨d, hd⟩ := may_hd hm
    split
    · split
      · rename_i hr
        simp only
        split
        · rename_i h0
          exact (h.does hd (must_fine hm hd (by rw [← hr]; exact h0))).mono (Nat.le_succ k)
        · exact hk
      · exact hk
    · rename_i hi
      have hop := must_open hm hd (by simpa using hi)
      split
      · exact h.creates _ _
      · have := refuses_n hop.1 (by omega)
        exact h.gives this.1 this.2.1 a r
end Go.Proofs.Ytgamnncehjcdiaa

namespace Go.Proofs.Ytgamnncehjcdiaa
open Go Ev Go.RowKit

theorem bR {w w' : World} (hc : Chg [] w w') {b o : Nat} {v : Value} (h : ldC (hp w b) o = some v) : ldC (hp w' b) o = some v := by
  have : hp w' b = hp w b := hc.block b (by
    rcases Nat.lt_or_ge b w.heap.size with h1 | h1
    · exact h1
    · have h2 : hp w b = none := by simp [hp]; omega
      rw [h2] at h; cases h) (by simp)
  rw [this]; exact h
theorem MdI.word {w : World} {g : Nat} {m : MdV} {F : Fp} (I : MdI w g m F) {i : Nat} {r : RgV} (hi : m.rgs[i]? = some r) {k : Nat} {L : List Int} (hL : r.words[k]? = some L) {j : Nat} {x : Int} (hj : L[j]? = some x) :
    ∃ b c bw cw g2 c2, ldC (hp w g) (0 + 8) = some (.slice (some ⟨b, 0, none⟩) m.rgs.length c) ∧ ldC (hp w b) (i * 7 + 5) = some (.slice (some ⟨bw, 0, none⟩) r.words.length cw) ∧ ldC (hp w bw) k = some (.slice (some ⟨g2, 0, none⟩) L.length c2) ∧ ldC (hp w g2) j = some (.int .u64 x) ∧
      ∀ y, okC (hp w g2) (j + 1) = true ∧ ∃ F', MdI (put w g2 ((getC (hp w g2)).setIfInBounds j (.int .u64 y)) (getE (hp w g2))) g { m with rgs := m.rgs.set i { r with words := r.words.set k (L.set j y) } } F' ∧ UpdP F F' w (put w g2 ((getC (hp w g2)).setIfInBounds j (.int .u64 y)) (getE (hp w g2))) := by
  obtain ⟨b, c, v, Fk, hl, hnb, hsub, hFb, _, hld, hP, hres, _⟩ := I.rgCell hi (k := 5) (P := wordsT r.words) (by omega) rfl
  have hPw : (r.words.map wordT)[k]? = some (wordT L) := by rw [List.getElem?_map, hL]; rfl
  obtain ⟨bw, cw, v2, Fk2, hx2, _, _, _, hld2, hP2, hres2, _⟩ := isRow.cell hP (fun P hP => by obtain ⟨l, _, rfl⟩ := List.mem_map.1 hP; exact good_word l) hPw
  have hPu : ((u64s L).map isV)[j]? = some (isV (.int .u64 x)) := by rw [u64s, List.map_map, List.getElem?_map, hj]; rfl
  obtain ⟨g2, c2, v3, Fk3, hx3, _, _, _, hld3, hv3, _, hst⟩ := isRow.cell hP2 (good_ints (u64s_int L)) hPu
  refine ⟨b, c, bw, cw, g2, c2, hl, by rw [← hx2]; exact hld, by rw [← hx3]; exact hld2, by rw [hld3, hv3.1], fun y => ?_⟩
  obtain ⟨ok, F1, hrow, hupd⟩ := hst w none' (isV (.int .u64 y)) (.int .u64 y) (UpdP.none hv3.2 w) (good_int _ _) ⟨rfl, fun _ h => h⟩
  have hset : ((u64s L).map isV).set j (isV (.int .u64 y)) = (u64s (L.set j y)).map isV := by simp [u64s, List.map_set]
  rw [hset] at hrow
  have hrow' : wordT (L.set j y) (put w g2 ((getC (hp w g2)).setIfInBounds j (.int .u64 y)) (getE (hp w g2))) F1 v2 := by rw [wordT, List.length_set]; exact hrow
  obtain ⟨F2, hrow2, hupd2⟩ := hres2 _ F1 (wordT (L.set j y)) hupd hrow'
  rw [← List.map_set] at hrow2
  have hrow2' : wordsT (r.words.set k (L.set j y)) (put w g2 ((getC (hp w g2)).setIfInBounds j (.int .u64 y)) (getE (hp w g2))) F2 v := by rw [wordsT, List.length_set]; exact hrow2
  obtain ⟨F3, h1, h2⟩ := hres _ F2 (wordsT (r.words.set k (L.set j y))) { r with words := r.words.set k (L.set j y) } hupd2 hrow2' rfl
  exact ⟨ok, F3, h1, h2⟩
structure ObjAt (m : MdV) (h : HnV) (n : Int) (i : Nat) (r : RgV) (k : Nat) (L : List Int) (j : Nat) : Prop where
  fi : findR m.rgs (nmOf h) = some i
  ri : m.rgs[i]? = some r
  ix : ixOf r.chunks h.2.2.1 = k
  wk : r.words[k]? = some L
  wl : (L.length : Int) = m.c.2.2.1
  jn : h.2.2.2.1 + n = j
  jl : j < L.length
theorem obj_at {m : MdV} {K : Nat} (W : Wf m K) {h : HnV} {n : Int} (hk : knownV m h 2 = true) (n0 : 0 ≤ n) (n1 : n < h.2.2.2.2) : ∃ i r k L j, ObjAt m h n i r k L j := by
  unfold knownV at hk
  split at hk
  · cases hk
  · rename_i i hf
    rw [if_neg (by omega)] at hk
    obtain ⟨r, hr, _⟩ := findR_at hf
    simp only [hr, Bool.and_eq_true, decide_eq_true_eq] at hk
    have R := W.rg r (List.mem_of_getElem? hr)
    obtain ⟨o1, o2, o3, o4⟩ := R.ob h hk.2
    obtain ⟨k, k1, k2⟩ := ixOf_at o1
    have hkl := (List.getElem?_eq_some_iff.1 k2).1
    obtain ⟨L, hL⟩ : ∃ L, r.words[k]? = some L := ⟨_, List.getElem?_eq_getElem (by rw [R.wl]; exact hkl)⟩
    have hl := R.ww L (List.mem_of_getElem? hL)
    exact ⟨i, r, k, L, (h.2.2.2.1 + n).toNat, hf, hr, k1, hL, hl, by omega, by omega⟩
theorem ObjAt.val {m : MdV} {h : HnV} {n : Int} {i : Nat} {r : RgV} {k : Nat} {L : List Int} {j : Nat} (O : ObjAt m h n i r k L j) : L[j]? = some (wordV m h n) := by
  have e : rgOf m (nmOf h) = some r := by rw [rgOf, O.fi]; exact O.ri
  have e2 : chunkW r h.2.2.1 = L := by rw [chunkW, O.ix, Int.toNat_natCast, List.getD_eq_getElem?_getD, O.wk]; rfl
  rw [wordV, e]
  simp only
  rw [e2, O.jn, Int.toNat_natCast, List.getD_eq_getElem?_getD, List.getElem?_eq_getElem O.jl]
  rfl
theorem ObjAt.put {m : MdV} {h : HnV} {n : Int} {i : Nat} {r : RgV} {k : Nat} {L : List Int} {j : Nat} (O : ObjAt m h n i r k L j) (y : Int) : setWordV m h n y = { m with rgs := m.rgs.set i { r with words := r.words.set k (L.set j y) } } := by
  have e2 : chunkW r h.2.2.1 = L := by rw [chunkW, O.ix, Int.toNat_natCast, List.getD_eq_getElem?_getD, O.wk]; rfl
  simp only [setWordV, O.fi, O.ri, setW, e2, O.ix, O.jn, Int.toNat_natCast]
structure WordAt (w : World) (g : Nat) (m : MdV) (F : Fp) (h : HnV) (n : Int) (g2 j : Nat) : Prop where
  ld : ldC (hp w g2) j = some (.int .u64 (wordV m h n))
  ok : okC (hp w g2) (j + 1) = true
  st : ∀ y, ∃ F', MdI (put w g2 ((getC (hp w g2)).setIfInBounds j (.int .u64 y)) (getE (hp w g2))) g (setWordV m h n y) F' ∧ UpdP F F' w (put w g2 ((getC (hp w g2)).setIfInBounds j (.int .u64 y)) (getE (hp w g2)))
set_option maxHeartbeats 1000000 in
theorem c_mWord {w : World} {g : Nat} {m : MdV} {F : Fp} {K : Nat} (I : MdI w g m F) (W : Wf m K) (hK : K ≤ 1000000) {h : HnV} {n : Int} (hk : knownV m h 2 = true) (n0 : 0 ≤ n) (n1 : n < h.2.2.2.2) :
    CallR Try.prog 82 [.pointer (some ⟨g, 0, none⟩), .agg (hnC h).toArray, .int .i64 n] w fun v w' => ∃ g2 j, v = .pointer (some ⟨g2, j, none⟩) ∧ Chg [] w w' ∧ ∀ w'', Chg [] w w'' → WordAt w'' g m F h n g2 j := by
  apply F82_ok
  obtain ⟨i, r, k, L, j, O⟩ := obj_at W hk n0 n1
  obtain ⟨b, c, bw, cw, g2, c2, p1, p2, p3, p4, _⟩ := I.word O.ri O.wk O.val
  have all : ∀ w'', Chg [] w w'' → WordAt w'' g m F h n g2 j := fun w'' hc => by
    obtain ⟨b', c', bw', cw', g2', c2', q1, q2, q3, q4, q5⟩ := (I.keep hc).word O.ri O.wk O.val
    rw [bR hc p1] at q1; cases q1
    rw [bR hc p2] at q2; cases q2
    rw [bR hc p3] at q3; cases q3
    exact ⟨q4, (q5 0).1, fun y => by rw [O.put]; exact (q5 y).2⟩
  obtain ⟨s, rv, hh, M⟩ := I.rd
  have hrl := M.rl
  rw [p1] at hrl; cases hrl
  have w1 := W.w1
  have w2 := W.w2
  have hbox : hp (w.alloc (.cells (hnC h).toArray 51)) w.heap.size = some (.cells (hnC h).toArray 51) := by rw [bc, if_pos rfl]
  have hc0 : Chg [] w (w.alloc (.cells (hnC h).toArray 51)) := (Chg.refl _ _).alloc _
  simp -implicitDefEqProofs only [F82, bE, bA]
  generalize w.alloc (.cells (hnC h).toArray 51) = w0 at *
  generalize w.heap.size = gb at *
  have ldh : ∀ w', hp w' gb = some (.cells (hnC h).toArray 51) → ldv Try.prog 51 (.pointer (some ⟨gb, 0, none⟩)) w' = some (.agg (hnC h).toArray) := fun w' hw => bJ (t := 51) (c := (hnC h).toArray) ag_51 (show (Try.prog.info? 51).map (·.size) = some (hnC h).toArray.size from sz_51) hw
  simp -implicitDefEqProofs only [ldh _ hbox, ad]
  refine (c_mNameOf h w0).mono ?_
  rintro _ w1 ⟨rfl, k1⟩
  have c01 := hc0.trans k1
  refine (c_mRegion (M.keep c01) (h.1, h.2.1) (Nat.le_trans W.rl hK)).mono ?_
  rintro v w2 ⟨k2, hv⟩
  have c02 := c01.trans k2
  have hf : findR m.rgs (h.1, h.2.1) = some i := O.fi
  rw [hf] at hv
  rcases hv with ⟨hv, _⟩ | ⟨i', rg, b', c', hi', hrg, hr, rfl⟩
  · cases hv
  cases hi'; cases hr
  have cd : Chg [] w w2.drew := c02.drew
  have b2 := (k1.trans k2).at hbox (by simp)
  have e2 : (hnC h).toArray[0 + 2]? = some (.int .i64 h.2.2.1) := rfl
  have e3 : (hnC h).toArray[0 + 3]? = some (.int .i64 h.2.2.2.1) := rfl
  rw [O.ri] at hrg
  cases hrg
  obtain ⟨G, hG⟩ := (M.keep cd).rT
  obtain ⟨b'', c'', hx, cv, wv, ov, R⟩ := rg_at hG O.ri
  cases hx
  have hwv := R.c5
  rw [bR cd p2] at hwv
  cases hwv
  obtain ⟨A, cc, hcv, hR⟩ := ints_sh R.cT
  have R4 := R.c4
  rw [hcv] at R4
  have R5 := R.c5
  have hlw := (List.getElem?_eq_some_iff.1 O.wk).1
  have iaw := ia_142 (b := bw) (p := 0) (n := r.words.length) (c := cw) (j := .i64) (i := (k : Int)) (by omega) (by omega)
  rw [Int.toNat_natCast, Nat.zero_add, Nat.mul_one] at iaw
  have hjl := O.jl
  have iau := ia_177 (b := g2) (p := 0) (n := L.length) (c := c2) (j := .i64) (i := (j : Int)) (by omega) (by omega)
  rw [Int.toNat_natCast, Nat.zero_add, Nat.mul_one] at iau
  have p3d := bR cd p3
  have hwl := O.wl
  have hcl : r.chunks.length ≤ 1000000 := Nat.le_trans (W.rg r (List.mem_of_getElem? O.ri)).cl hK
  have fin : ∃ g2' j', Value.pointer (some ⟨g2, j, none⟩) = .pointer (some ⟨g2', j', none⟩) ∧ Chg [] w w2.drew ∧ ∀ w'', Chg [] w w'' → WordAt w'' g m F h n g2' j' := ⟨g2, j, rfl, cd, all⟩
  have b2d : hp w2.drew gb = some (.cells (hnC h).toArray 51) := b2
  simp -implicitDefEqProofs only [ad, af, fa_144_4, fa_144_3, cj, fa_51_3, ld_142, ce, bj, ah, R4, R5, b2d, e2, e3, bG, O.jn, bC (n := (j : Int)) (by omega) (by omega)]
  have ix := c_iIndex (c := cc) hR hcl h.2.2.1
  rw [O.ix] at ix
  repeat' (with_reducible apply And.intro)
  all_goals
    refine ix.step ?_
    simp -implicitDefEqProofs only [ad, iaw, ld_177, ld_142, bj, ah, R5, b2d, e3, bG, O.jn, bC (n := (j : Int)) (by omega) (by omega), p3d, iau]
    exact fin
end Go.Proofs.Ytgamnncehjcdiaa

namespace Go.Proofs.Ytgamnncehjcdiaa
open Go Ev Go.RowKit

section
variable {W w : World} {g g6 g7 g8 g10 k : Nat} {m : MdV} {F : Fp} {K : Nat} {o : OpV} {h : HnV} {d : HdV}
theorem rsC_one (r : RsV) : (rsC r).toArray.toList.all (·.oneCell') = true := rfl
theorem bV {r : RsV} {b : Nat} {e : TypeId} (hb : hp w b = some (.cells (rsC r).toArray e)) : ldv Try.prog 53 (.pointer (some ⟨b, 0, none⟩)) w = some (.agg (rsC r).toArray) := bJ (t := 53) (c := (rsC r).toArray) ag_53 (show (Try.prog.info? 53).map (·.size) = some (rsC r).toArray.size from sz_53) hb
theorem st_res {r : RsV} {b : Nat} {c : Array Value} {e : TypeId} (hb : hp w b = some (.cells c e)) (hs : c.size = 8) {L : World → Prop} : effu Try.prog (Instr.storeAt 53 (.pointer (some ⟨b, 0, none⟩)) (.agg (rsC r).toArray)) w L = L (put w b (rsC r).toArray e) := by
  rw [st_53 rfl (rsC_one r) (by rw [hb, okC_some]; exact decide_eq_true (by omega)) (by rw [hb]; exact hs), hb]; rfl
theorem l_must2 (r : RsV) (hc : Chg [] W w) {c8 : Array Value} (h8 : hp w g8 = some (.cells c8 53)) (hs : c8.size = 8) (h10 : hp w g10 = some (.cells (rsC r).toArray 53)) (n8 : W.heap.size ≤ g8) :
    P45_2 (.pointer (some ⟨g8, 0, none⟩)) (.pointer (some ⟨g10, 0, none⟩)) w fun v w' => v = .tuple #[.agg (rsC r).toArray, .bool true] ∧ Chg [] W w' := by
  apply L45_2_ok
  simp -implicitDefEqProofs only [L45_2, bV h10, ad]
  rw [st_res h8 hs, bV (bv (bz h8) _ _), ad]
  exact ⟨rfl, hc.put (.inr n8) _ _⟩
set_option maxHeartbeats 1000000 in
theorem l_must1 (hc : Chg [] W w) (I : MdI w g m F) (Wm : Wf m K) (hK : K ≤ 1000000) (h6 : hp w g6 = some (.cells (opC o).toArray 40)) (h7 : hp w g7 = some (.cells (hnC h).toArray 51)) {c8 : Array Value} (h8 : hp w g8 = some (.cells c8 53)) (hs : c8.size = 8) (h10 : hp w g10 = some (.cells (rsC noR).toArray 53))
    (n8 : W.heap.size ≤ g8) (n10 : W.heap.size ≤ g10) (n810 : g8 ≠ g10) (hr : refusesV m d o h = 0) (n0 : 0 ≤ o.2.2.2.1) {t : Bool} (ht : t = decide (o.1 = 6 ∨ o.1 = 8)) :
    P45_1 (.pointer (some ⟨g, 0, none⟩)) (.pointer (some ⟨g6, 0, none⟩)) (.pointer (some ⟨g7, 0, none⟩)) (.pointer (some ⟨g8, 0, none⟩)) (.pointer (some ⟨g10, 0, none⟩)) (.int .i64 o.1) (.bool t) w fun v w' => v = .tuple #[.agg (rsC (mustB m o h)).toArray, .bool true] ∧ Chg [] W w' := by
  apply L45_1_ok
  have ldh : ∀ w', hp w' g7 = some (.cells (hnC h).toArray 51) → ldv Try.prog 51 (.pointer (some ⟨g7, 0, none⟩)) w' = some (.agg (hnC h).toArray) := fun w' hw => bJ (t := 51) (c := (hnC h).toArray) ag_51 (show (Try.prog.info? 51).map (·.size) = some (hnC h).toArray.size from sz_51) hw
  have h6d : hp w.drew g6 = some (.cells (opC o).toArray 40) := h6
  have h7d : hp w.drew g7 = some (.cells (hnC h).toArray 51) := h7
  have cd : Chg [] w w.drew := (Chg.refl _ _).drew
  have fin : ∀ (r : RsV) (k : Nat) (v : Value) (w3 : World), Chg [] w w3 → (rsC noR).toArray.setIfInBounds k v = (rsC r).toArray → mustB m o h = r →
      P45_2 (.pointer (some ⟨g8, 0, none⟩)) (.pointer (some ⟨g10, 0, none⟩)) (put w3 g10 ((getC (hp w3 g10)).setIfInBounds k v) (getE (hp w3 g10))) fun v w' => v = .tuple #[.agg (rsC (mustB m o h)).toArray, .bool true] ∧ Chg [] W w' := by
    intro r k v w3 c3 he hm
    have h103 := c3.at h10 (by simp)
    rw [h103, getC_some, bM, he, hm]
    exact l_must2 r ((hc.trans c3).put (.inr n10) _ _) (by rw [bS n810]; exact c3.at h8 (by simp)) hs (bv (bz h103) _ _) n8
  have ok3 : ∀ (w3 : World) (k : Nat), Chg [] w w3 → k ≤ 8 → okC (hp w3 g10) k = true := fun w3 k c3 hk => by rw [c3.at h10 (by simp), okC_some]; exact decide_eq_true hk
  by_cases k68 : o.1 = 6 ∨ o.1 = 8
  · have ht' : t = true := by rw [ht]; exact decide_eq_true k68
    subst ht'
    obtain ⟨t1, t2⟩ := touch_ok hr (by omega) (by omega)
    simp -implicitDefEqProofs only [L45_1, ad, ax, am, aM, aN, aQ, aR, av, ak, aJ, aK, aS, aT, ay, ap, aU, aV, aX, aY, ae, ac, aj, ag, z1z, z2z, z3z, z4z, aH, af, aD, aB, aC, aA, aE, aG, z5z, z6z, ah, z7z, z8z, au, ldh _ h7, bT, bj, h6, op_3]
    refine (c_mWord I Wm hK t1 n0 t2).mono ?_
    rintro _ w3 ⟨g2, j, rfl, c3, hw⟩
    have A := hw w3 c3
    simp -implicitDefEqProofs only [ad, ax, am, aM, aN, aQ, aR, av, ak, aJ, aK, aS, aT, ay, ap, aU, aV, aX, aY, ae, ac, aj, ag, z1z, z2z, z3z, z4z, aH, af, aD, aB, aC, aA, aE, aG, z5z, z6z, ah, z7z, z8z, au, ld_38, A.ld, fa_53_3]
    rw [st_38 rfl rfl (ok3 _ _ c3 (by omega))]
    exact fin (0, noH, 0, wordV m h o.2.2.2.1) _ _ _ c3 rfl (by rw [mustB, if_pos k68])
  have ht' : t = false := by rw [ht]; exact decide_eq_false k68
  subst ht'
  by_cases k9 : o.1 = 9
  · have q9 : (o.1 == 9) = true := by rw [k9]; rfl
    obtain ⟨t1, t2⟩ := touch_ok hr (by omega) (by omega)
    have three : ∀ w3, Chg [] w w3 → P45_3 (.pointer (some ⟨g8, 0, none⟩)) (.pointer (some ⟨g10, 0, none⟩)) (.bool (wordV m h o.2.2.2.1 == o.2.2.2.2.1)) w3 fun v w' => v = .tuple #[.agg (rsC (mustB m o h)).toArray, .bool true] ∧ Chg [] W w' := by
      intro w3 c3
      apply L45_3_ok
      by_cases hv : wordV m h o.2.2.2.1 = o.2.2.2.2.1
      · have e : (wordV m h o.2.2.2.1 == o.2.2.2.2.1) = true := by rw [hv]; exact beq_self_eq_true _
        simp -implicitDefEqProofs only [L45_3, e, aj, fa_53_2, ad]
        rw [st_3 rfl rfl (ok3 _ _ c3 (by omega))]
        exact fin (0, noH, 1, 0) _ _ _ c3 rfl (by rw [mustB, if_neg k68, if_pos k9, if_pos hv])
      · simp -implicitDefEqProofs only [L45_3, eqf hv, ag]
        have e : mustB m o h = noR := by rw [mustB, if_neg k68, if_pos k9, if_neg hv]; rfl
        rw [e]
        exact l_must2 noR (hc.trans c3) (c3.at h8 (by simp)) hs (c3.at h10 (by simp)) n8
    simp -implicitDefEqProofs only [L45_1, ad, ax, am, aM, aN, aQ, aR, av, ak, aJ, aK, aS, aT, ay, ap, aU, aV, aX, aY, ae, ac, aj, ag, z1z, z2z, z3z, z4z, aH, af, aD, aB, aC, aA, aE, aG, z5z, z6z, ah, z7z, z8z, au, q9, ldh _ h7d, bT, fa_40_4, bj, ld_38, h6d, h6, op_3, op_4]
    have cw := c_mWord (I.keep cd) Wm hK t1 n0 t2
    repeat' (with_reducible apply And.intro)
    all_goals
      refine cw.mono ?_
      rintro _ w3 ⟨g2, j, rfl, c3, hw⟩
      have A := hw w3 c3
      have h63 := (cd.trans c3).at h6 (by simp)
      simp -implicitDefEqProofs only [ad, ax, am, aM, aN, aQ, aR, av, ak, aJ, aK, aS, aT, ay, ap, aU, aV, aX, aY, ae, ac, aj, ag, z1z, z2z, z3z, z4z, aH, af, aD, aB, aC, aA, aE, aG, z5z, z6z, ah, z7z, z8z, au, ld_38, A.ld, h63, op_4]
      exact three w3 (cd.trans c3)
  by_cases k12 : o.1 = 12
  · have q12 : (o.1 == 12) = true := by rw [k12]; rfl
    obtain ⟨i, r, hf, hri, _, _⟩ := region_ok hr (by omega)
    obtain ⟨s, rv, hh, M⟩ := I.rd
    simp -implicitDefEqProofs only [L45_1, ad, ax, am, aM, aN, aQ, aR, av, ak, aJ, aK, aS, aT, ay, ap, aU, aV, aX, aY, ae, ac, aj, ag, z1z, z2z, z3z, z4z, aH, af, aD, aB, aC, aA, aE, aG, z5z, z6z, ah, z7z, z8z, au, eqf k9, q12, ldh _ h7]
    refine (c_mNameOf h w).mono ?_
    rintro _ w1 ⟨rfl, c1⟩
    refine (c_mRegion (M.keep c1) (h.1, h.2.1) (Nat.le_trans Wm.rl hK)).mono ?_
    rintro v w2 ⟨c2, hv⟩
    have c02 := c1.trans c2
    have hf' : findR m.rgs (h.1, h.2.1) = some i := hf
    rw [hf'] at hv
    rcases hv with ⟨hv, _⟩ | ⟨i', rg, b', c', hi', hrg, hr', rfl⟩
    · cases hv
    cases hi'
    rw [hri] at hrg
    cases hrg
    obtain ⟨G, hG⟩ := (M.keep c02).rT
    obtain ⟨b'', c'', hx, cv, wv, ov, R⟩ := rg_at hG hri
    rw [hr'] at hx
    cases hx
    simp -implicitDefEqProofs only [ad, ax, am, aM, aN, aQ, aR, av, ak, aJ, aK, aS, aT, ay, ap, aU, aV, aX, aY, ae, ac, aj, ag, z1z, z2z, z3z, z4z, aH, af, aD, aB, aC, aA, aE, aG, z5z, z6z, ah, z7z, z8z, au, fa_144_2, fa_53_2, bj, R.c3]
    rw [st_3 rfl rfl (ok3 _ _ c02 (by omega))]
    exact fin (0, noH, r.off, 0) _ _ _ c02 rfl (by
      rw [mustB, if_neg k68, if_neg k9, if_pos k12, rgOf, hf]
      simp only [Option.bind_some, hri])
  · simp -implicitDefEqProofs only [L45_1, ad, ax, am, aM, aN, aQ, aR, av, ak, aJ, aK, aS, aT, ay, ap, aU, aV, aX, aY, ae, ac, aj, ag, z1z, z2z, z3z, z4z, aH, af, aD, aB, aC, aA, aE, aG, z5z, z6z, ah, z7z, z8z, au, eqf k9, eqf k12]
    have e : mustB m o h = noR := by rw [mustB, if_neg k68, if_neg k9, if_neg k12]
    rw [e]
    exact l_must2 noR hc h8 hs h10 n8
set_option maxHeartbeats 1000000 in
theorem c_mMust {w : World} {g : Nat} {m : MdV} {F : Fp} {K : Nat} (I : MdI w g m F) (Wm : Wf m K) (hK : K ≤ 1000000) (n : Int) (o : OpV) (h : HnV) :
    CallR Try.prog 45 [.pointer (some ⟨g, 0, none⟩), .int .i64 n, .agg (opC o).toArray, .agg (hnC h).toArray] w fun v w' => v = .tuple #[.agg (rsC (mustV m n o h).1).toArray, .bool (mustV m n o h).2] ∧ Chg [] w w' := by
  apply F45_ok
  obtain ⟨s, rv, hh, M⟩ := I.rd
  simp -implicitDefEqProofs only [F45, bE, bA, al_53, bf]
  generalize hw : ((w.alloc (.cells (opC o).toArray 40)).alloc _).alloc _ = w1
  have c1 : Chg [] w w1 := by rw [← hw]; exact (((Chg.refl _ _).alloc _).alloc _).alloc _
  have b6 : hp w1 w.heap.size = some (.cells (opC o).toArray 40) := by rw [← hw, bc, bf, bf, if_neg (by omega), bc, bf, if_neg (by omega), bc, if_pos rfl]
  have b7 : hp w1 (w.heap.size + 1) = some (.cells (hnC h).toArray 51) := by rw [← hw, bc, bf, bf, if_neg (by omega), bc, bf, if_pos rfl]
  have b8 : hp w1 (w.heap.size + 1 + 1) = some (.cells (rsC noR).toArray 53) := by rw [← hw, bc, bf, bf, if_pos rfl]; rfl
  clear hw
  have ldo : ∀ w', hp w' w.heap.size = some (.cells (opC o).toArray 40) → ldv Try.prog 40 (.pointer (some ⟨w.heap.size, 0, none⟩)) w' = some (.agg (opC o).toArray) := fun w' hw => bJ (t := 40) (c := (opC o).toArray) ag_40 (show (Try.prog.info? 40).map (·.size) = some (opC o).toArray.size from sz_40) hw
  have ldh : ∀ w', hp w' (w.heap.size + 1) = some (.cells (hnC h).toArray 51) → ldv Try.prog 51 (.pointer (some ⟨w.heap.size + 1, 0, none⟩)) w' = some (.agg (hnC h).toArray) := fun w' hw => bJ (t := 51) (c := (hnC h).toArray) ag_51 (show (Try.prog.info? 51).map (·.size) = some (hnC h).toArray.size from sz_51) hw
  simp -implicitDefEqProofs only [ad, ldo _ b6]
  refine (c_mMay (M.keep c1) n o).mono ?_
  rintro _ w2 ⟨rfl, c2⟩
  have c02 := c1.trans c2
  have d6 := c2.at b6 (by simp)
  have d7 := c2.at b7 (by simp)
  have d8 := c2.at b8 (by simp)
  have noRe : ∀ (L : Array Value → Prop), L (rsC noR).toArray → L #[(Go.Value.int Go.IntKind.i64 0), (Go.Value.int Go.IntKind.i64 0), (Go.Value.int Go.IntKind.i64 0), (Go.Value.int Go.IntKind.i64 0), (Go.Value.int Go.IntKind.i64 0), (Go.Value.int Go.IntKind.i64 0), (Go.Value.int Go.IntKind.i64 0), (Go.Value.int Go.IntKind.u64 0)] := fun L h => h
  cases hm : mayV m n o with
  | false =>
    simp -implicitDefEqProofs only [ad, ax, am, aM, aN, aQ, aR, av, ak, aJ, aK, aS, aT, ay, ap, aU, aV, aX, aY, ae, ac, aj, ag, z1z, z2z, z3z, z4z, aH, af, aD, aB, aC, aA, aE, aG, z5z, z6z, ah, z7z, z8z, au, bd_53_]
    refine noRe (fun z => effu Try.prog (Instr.storeAt 53 _ (.agg z)) _ _) ?_
    rw [st_res d8 rfl, bV (bv (bz d8) _ _), ad]
    exact ⟨by rw [mustV, if_pos hm], c02.put (.inr (by omega)) _ _⟩
  | true =>
    obtain ⟨n0, n1, n2⟩ := may_n hm
    obtain ⟨d, hd⟩ := may_hd hm
    simp -implicitDefEqProofs only [ad, ax, am, aM, aN, aQ, aR, av, ak, aJ, aK, aS, aT, ay, ap, aU, aV, aX, aY, ae, ac, aj, ag, z1z, z2z, z3z, z4z, aH, af, aD, aB, aC, aA, aE, aG, z5z, z6z, ah, z7z, z8z, au, ldo _ d6, ldh _ d7]
    refine (c_mRefuses (M.keep c02) (Wm.small hK) n0 hd o h).mono ?_
    rintro _ w3 ⟨rfl, c3⟩
    have c03 := c02.trans c3
    have f6 := c3.at d6 (by simp)
    have f7 := c3.at d7 (by simp)
    have f8 := c3.at d8 (by simp)
    have s3 := c03.size
    simp -implicitDefEqProofs only [ad, ax, am, aM, aN, aQ, aR, av, ak, aJ, aK, aS, aT, ay, ap, aU, aV, aX, aY, ae, ac, aj, ag, z1z, z2z, z3z, z4z, aH, af, aD, aB, aC, aA, aE, aG, z5z, z6z, ah, z7z, z8z, au, bd_53_0, al_53]
    have codeE : ∀ (L : Array Value → Prop), L (rsC (codeR (refusesV m d o h))).toArray → L #[(.int .i64 (refusesV m d o h)), (Go.Value.int Go.IntKind.i64 0), (Go.Value.int Go.IntKind.i64 0), (Go.Value.int Go.IntKind.i64 0), (Go.Value.int Go.IntKind.i64 0), (Go.Value.int Go.IntKind.i64 0), (Go.Value.int Go.IntKind.i64 0), (Go.Value.int Go.IntKind.u64 0)] := fun L h => h
    refine codeE (fun z => effu Try.prog (Instr.storeAt 53 _ (.agg z)) _ _) ?_
    rw [st_res (c := (rsC noR).toArray) (e := 53) (by rw [bc, if_pos rfl]; rfl) rfl]
    generalize hw4 : put (w3.alloc _) w3.heap.size _ _ = w4
    have c4 : Chg [] w3 w4 := by rw [← hw4]; exact ((Chg.refl _ _).alloc _).put (.inr (Nat.le_refl _)) _ _
    have a10 : hp w4 w3.heap.size = some (.cells (rsC (codeR (refusesV m d o h))).toArray 53) := by rw [← hw4]; exact bv (by simp) _ _
    clear hw4
    have c04 := c03.trans c4
    have a6 := c4.at f6 (by simp)
    have a7 := c4.at f7 (by simp)
    have a8 := c4.at f8 (by simp)
    have r0 : (rsC (codeR (refusesV m d o h))).toArray[0 + 0]? = some (.int .i64 (refusesV m d o h)) := rfl
    have lt8 := bz f8
    by_cases hr : refusesV m d o h = 0
    · have e0 : (refusesV m d o h != 0) = false := by rw [hr]; rfl
      have mv : mustV m n o h = if o.1 = 1 ∨ o.1 = 2 then (noR, false) else (mustB m o h, true) := by
        rw [mustV, if_neg (by rw [hm]; simp), hd]
        simp only [hr, ne_eq, not_true_eq_false, if_false]
      have a10' : hp w4 w3.heap.size = some (.cells (rsC noR).toArray 53) := by rw [a10, hr]; rfl
      simp -implicitDefEqProofs only [ad, ax, am, aM, aN, aQ, aR, av, ak, aJ, aK, aS, aT, ay, ap, aU, aV, aX, aY, ae, ac, aj, ag, z1z, z2z, z3z, z4z, aH, af, aD, aB, aC, aA, aE, aG, z5z, z6z, ah, z7z, z8z, au, fa_53_0, bU, a10, r0, e0, bq, bj, a6, bD]
      have zero : ∀ t : Bool, t = decide (o.1 = 1 ∨ o.1 = 2) → P45_0 (.pointer (some ⟨g, 0, none⟩)) (.pointer (some ⟨w.heap.size, 0, none⟩)) (.pointer (some ⟨w.heap.size + 1, 0, none⟩)) (.pointer (some ⟨w.heap.size + 1 + 1, 0, none⟩)) (.pointer (some ⟨w3.heap.size, 0, none⟩)) (.int .i64 o.1) (.bool t) w4
          fun v w' => v = .tuple #[.agg (rsC (mustV m n o h).1).toArray, .bool (mustV m n o h).2] ∧ Chg [] w w' := by
        intro t ht
        apply L45_0_ok
        rw [mv]
        by_cases k12 : o.1 = 1 ∨ o.1 = 2
        · have ht' : t = true := by rw [ht]; exact decide_eq_true k12
          subst ht'
          rw [if_pos k12]
          simp -implicitDefEqProofs only [L45_0, ad, ax, am, aM, aN, aQ, aR, av, ak, aJ, aK, aS, aT, ay, ap, aU, aV, aX, aY, ae, ac, aj, ag, z1z, z2z, z3z, z4z, aH, af, aD, aB, aC, aA, aE, aG, z5z, z6z, ah, z7z, z8z, au, bd_53_]
          refine noRe (fun z => effu Try.prog (Instr.storeAt 53 _ (.agg z)) _ _) ?_
          rw [st_res a8 rfl, bV (bv (bz a8) _ _), ad]
          exact ⟨rfl, c04.put (.inr (by omega)) _ _⟩
        · have ht' : t = false := by rw [ht]; exact decide_eq_false k12
          subst ht'
          rw [if_neg k12]
          have one : ∀ t : Bool, t = decide (o.1 = 6 ∨ o.1 = 8) → _ := fun t ht => l_must1 (W := w) c04 (I.keep c04) Wm hK a6 a7 a8 rfl a10' (by omega) (by omega) (by omega) hr n2 ht
          by_cases k6 : o.1 = 6
          · have q : (o.1 == 6) = true := by rw [k6]; rfl
            have f := one true (by rw [k6]; rfl)
            simp -implicitDefEqProofs only [L45_0, ad, ax, am, aM, aN, aQ, aR, av, ak, aJ, aK, aS, aT, ay, ap, aU, aV, aX, aY, ae, ac, aj, ag, z1z, z2z, z3z, z4z, aH, af, aD, aB, aC, aA, aE, aG, z5z, z6z, ah, z7z, z8z, au, q]
            exact f
          · have f := one (o.1 == 8) (by
              by_cases k8 : o.1 = 8
              · rw [k8]; rfl
              · rw [eqf k8]; exact (decide_eq_false (by omega)).symm)
            simp -implicitDefEqProofs only [L45_0, ad, ax, am, aM, aN, aQ, aR, av, ak, aJ, aK, aS, aT, ay, ap, aU, aV, aX, aY, ae, ac, aj, ag, z1z, z2z, z3z, z4z, aH, af, aD, aB, aC, aA, aE, aG, z5z, z6z, ah, z7z, z8z, au, eqf k6]
            exact f
      by_cases k1 : o.1 = 1
      · have q : (o.1 == 1) = true := by rw [k1]; rfl
        have f := zero true (by rw [k1]; rfl)
        simp -implicitDefEqProofs only [ad, ax, am, aM, aN, aQ, aR, av, ak, aJ, aK, aS, aT, ay, ap, aU, aV, aX, aY, ae, ac, aj, ag, z1z, z2z, z3z, z4z, aH, af, aD, aB, aC, aA, aE, aG, z5z, z6z, ah, z7z, z8z, au, q]
        exact f
      · have f := zero (o.1 == 2) (by
          by_cases k2 : o.1 = 2
          · rw [k2]; rfl
          · rw [eqf k2]; exact (decide_eq_false (by omega)).symm)
        simp -implicitDefEqProofs only [ad, ax, am, aM, aN, aQ, aR, av, ak, aJ, aK, aS, aT, ay, ap, aU, aV, aX, aY, ae, ac, aj, ag, z1z, z2z, z3z, z4z, aH, af, aD, aB, aC, aA, aE, aG, z5z, z6z, ah, z7z, z8z, au, eqf k1]
        exact f
    · have e0 : (refusesV m d o h != 0) = true := bne_iff_ne.2 hr
      have mv : mustV m n o h = (codeR (refusesV m d o h), true) := by
        rw [mustV, if_neg (by rw [hm]; simp), hd]
        simp only
        rw [if_pos hr]
      simp -implicitDefEqProofs only [ad, ax, am, aM, aN, aQ, aR, av, ak, aJ, aK, aS, aT, ay, ap, aU, aV, aX, aY, ae, ac, aj, ag, z1z, z2z, z3z, z4z, aH, af, aD, aB, aC, aA, aE, aG, z5z, z6z, ah, z7z, z8z, au, fa_53_0, bU, a10, r0, e0]
      rw [bV a10, ad, st_res a8 rfl, bV (bv (bz a8) _ _), ad, mv]
      exact ⟨rfl, c04.put (.inr (by omega)) _ _⟩
end
end Go.Proofs.Ytgamnncehjcdiaa

namespace Go.Proofs.Ytgamnncehjcdiaa
open Go Ev Go.RowKit

theorem Ev.UpdP.pre {F F' : Fp} {a b c : World} (k : Chg [] a b) (u : UpdP F F' b c) : UpdP F F' a c := (UpdP.of0 k).trans u
theorem Ev.UpdP.post {F F' : Fp} {a b c : World} (u : UpdP F F' a b) (k : Chg [] b c) : UpdP F F' a c := u.trans (UpdP.of0 k)
theorem flat_grown {e : TypeId} {z n m : Nat} {us vs : List Value} {w w' : World} {F : Fp} {x x' : Value} (h : isRow e z n (us.map isV) w F x) (ho : w'.ownsRow 0 e z x' m (us ++ vs)) (hg : w.grownBy w' x.ownBlock) (hnb : NewB w x x') :
    ∃ F', isRow e z m ((us ++ vs).map isV) w' F' x' ∧ UpdP F F' w w' := by
  obtain ⟨xs, Fs, _, _, _, h4⟩ := h
  refine ⟨_, own_flat ho, ⟨hg.os, hg.tape, hg.output, hg.size, fun k hk hn => hg.block k hk fun e => hn ((h4 k).2 (.inl e.symm))⟩, fun k hk => ?_⟩
  rcases hnb k hk with h5 | h5
  · exact .inl ((h4 k).2 (.inl h5))
  · exact .inr h5
theorem slots_at {m : MdV} {n : NmV} (h : isLv m n = true) : 0 ≤ n.1 ∧ n.1 < m.slots.length ∧ m.slots[n.1.toNat]? = some (1, n.2) := by
  simp only [isLv, Bool.and_eq_true, decide_eq_true_eq] at h
  exact ⟨h.1.1, h.1.2, h.2⟩
section
variable {W w : World} {g g6 g7 g9 b k : Nat} {m : MdV} {F : Fp} {K : Nat} {o : OpV} {h : HnV} {d : HdV} {n : Int}
theorem MdI.depthSet (I : MdI w g m F) (hd : m.hands[n.toNat]? = some d) (x : Int) :
    ∃ b c, ldC (hp w g) (0 + 9) = some (.slice (some ⟨b, 0, none⟩) m.hands.length c) ∧ b ≠ g ∧ ldC (hp w b) (n.toNat * 2 + 0) = some (.int .i64 d.depth) ∧ okC (hp w b) (n.toNat * 2 + 0 + 1) = true ∧
      ∃ F', MdI (put w b ((getC (hp w b)).setIfInBounds (n.toNat * 2 + 0) (.int .i64 x)) (getE (hp w b))) g (setHd m n { d with depth := x }) F' ∧ UpdP F F' w (put w b ((getC (hp w b)).setIfInBounds (n.toNat * 2 + 0) (.int .i64 x)) (getE (hp w b))) := by
  obtain ⟨b, c, v, Fk, hl, _, _, _, hbg, hld, hv, hst⟩ := I.hdCell hd (k := 0) (P := iT d.depth) (by omega) rfl
  obtain ⟨ok, F1, h1, h2⟩ := hst w none' (iT x) (.int .i64 x) { d with depth := x } (UpdP.none hv.2 w) (good_int _ _) ⟨rfl, fun _ h => h⟩ rfl
  exact ⟨b, c, hl, hbg, by rw [hld, hv.1], ok, F1, h1, h2⟩
set_option maxHeartbeats 2000000 in
theorem l_does0 (hc : Chg [] W w) (I : MdI w g m F) (Wm : Wf m K) (hK : K ≤ 1000000) (h6 : hp w g6 = some (.cells (opC o).toArray 40)) (h7 : hp w g7 = some (.cells (hnC h).toArray 51)) (h9 : hp w g9 = some (.cells (nmC (nmOf h)).toArray 141))
    (hd : m.hands[n.toNat]? = some d) (hr : refusesV m d o h = 0) (n0 : 0 ≤ o.2.2.2.1) {c : Nat} (hb : ldC (hp w g) (0 + 9) = some (.slice (some ⟨b, 0, none⟩) m.hands.length c)) :
    P100_0 (.pointer (some ⟨g, 0, none⟩)) (.pointer (some ⟨g6, 0, none⟩)) (.pointer (some ⟨g7, 0, none⟩)) (.pointer (some ⟨b, n.toNat * 2, none⟩)) (.pointer (some ⟨g9, 0, none⟩)) w fun v w' => v = .tuple #[] ∧ ∃ F', MdI w' g (doesV m n o h) F' ∧ UpdP F F' W w' := by
  apply L100_0_ok
  have dv : doesV m n o h = if o.1 = 3 then setHd m n { d with depth := d.depth + 1 }
    else if o.1 = 4 then setHd m n (if d.depth - 1 = 0 then { depth := 0, holds := [] } else { d with depth := d.depth - 1 })
    else if o.1 = 5 then (if holdsV d h then m else setHd m n { d with holds := d.holds ++ [nmOf h] })
    else if o.1 = 7 then setWordV m h o.2.2.2.1 o.2.2.2.2.1
    else if o.1 = 8 then setWordV m h o.2.2.2.1 (IntKind.u64.wrap (wordV m h o.2.2.2.1 + o.2.2.2.2.1))
    else if o.1 = 9 then (if wordV m h o.2.2.2.1 = o.2.2.2.2.1 then setWordV m h o.2.2.2.1 o.2.2.2.2.2 else m)
    else if o.1 = 10 then (match m.slots[h.1.toNat]? with | some p => { m with slots := m.slots.set h.1.toNat (if m.loose then 0 else 2, p.2) } | none => m)
    else m := by rw [doesV, hd] <;> rfl
  have hD := Wm.hd d (List.mem_of_getElem? hd)
  have hco := (refuses_code hr).2
  have ldh : ∀ w', hp w' g7 = some (.cells (hnC h).toArray 51) → ldv Try.prog 51 (.pointer (some ⟨g7, 0, none⟩)) w' = some (.agg (hnC h).toArray) := fun w' hw => bJ (t := 51) (c := (hnC h).toArray) ag_51 (show (Try.prog.info? 51).map (·.size) = some (hnC h).toArray.size from sz_51) hw
  have ldn : ∀ w', hp w' g9 = some (.cells (nmC (nmOf h)).toArray 141) → ldv Try.prog 141 (.pointer (some ⟨g9, 0, none⟩)) w' = some (.agg (nmC (nmOf h)).toArray) := fun w' hw => bJ (t := 141) (c := (nmC (nmOf h)).toArray) ag_141 (show (Try.prog.info? 141).map (·.size) = some (nmC (nmOf h)).toArray.size from sz_141) hw
  have cd : Chg [] w w.drew := (Chg.refl _ _).drew
  have h6d : hp w.drew g6 = some (.cells (opC o).toArray 40) := h6
  have h7d : hp w.drew g7 = some (.cells (hnC h).toArray 51) := h7
  have h9d : hp w.drew g9 = some (.cells (nmC (nmOf h)).toArray 141) := h9
  by_cases k3 : o.1 = 3
  · have q : (o.1 == 3) = true := by rw [k3]; rfl
    obtain ⟨b', c', hl, hbg, hld, ok, F1, h1, h2⟩ := I.depthSet hd (d.depth + 1)
    rw [hb] at hl; cases hl
    simp -implicitDefEqProofs only [L100_0, ad, ax, am, aM, aN, aQ, aR, av, ak, aJ, aK, aS, aT, ay, ap, aU, aV, aX, aY, ae, ac, aj, ag, z1z, z2z, z3z, z4z, aH, af, aD, aB, aC, aA, aE, aG, z5z, z6z, ah, z7z, z8z, au, bq, bj, h6, bD, q, fa_137_0, hld, bG, bC (n := d.depth + 1) (by omega) (by omega)]
    rw [st_3 (o := n.toNat * 2 + 0) rfl rfl ok, dv, if_pos k3]
    exact ⟨by first | rfl | trivial, F1, h1, h2.pre hc⟩
  by_cases k4 : o.1 = 4
  · have q : (o.1 == 4) = true := by rw [k4]; rfl
    obtain ⟨b', c', hl, hbg, hld, ok, F1, h1, h2⟩ := I.depthSet hd (d.depth - 1)
    rw [hb] at hl; cases hl
    simp -implicitDefEqProofs only [L100_0, ad, ax, am, aM, aN, aQ, aR, av, ak, aJ, aK, aS, aT, ay, ap, aU, aV, aX, aY, ae, ac, aj, ag, z1z, z2z, z3z, z4z, aH, af, aD, aB, aC, aA, aE, aG, z5z, z6z, ah, z7z, z8z, au, bq, bj, h6, bD, eqf k3, q, fa_137_0, hld, bp_sub, bC (n := d.depth - 1) (by omega) (by omega)]
    rw [st_3 (o := n.toNat * 2 + 0) rfl rfl ok, dv, if_neg k3, if_pos k4]
    have hb1 : ldC (hp (put w b ((getC (hp w b)).setIfInBounds (n.toNat * 2 + 0) (.int .i64 (d.depth - 1))) (getE (hp w b))) g) (0 + 9) = some (.slice (some ⟨b, 0, none⟩) m.hands.length c) := by rw [bS (Ne.symm hbg)]; exact hb
    generalize put w b ((getC (hp w b)).setIfInBounds (n.toNat * 2 + 0) (.int .i64 (d.depth - 1))) (getE (hp w b)) = w1 at *
    have hd1 : (setHd m n { d with depth := d.depth - 1 }).hands[n.toNat]? = some { d with depth := d.depth - 1 } := by
      show (m.hands.set n.toNat _)[n.toNat]? = _
      rw [List.getElem?_set, if_pos rfl, if_pos (List.getElem?_eq_some_iff.1 hd).1]
    have hln : (setHd m n { d with depth := d.depth - 1 }).hands.length = m.hands.length := by simp [setHd]
    obtain ⟨b2, c2, v2, Fk2, hl2, _, _, _, _, hld2, hv2, hst2⟩ := h1.hdCell hd1 (k := 1) (P := namesT d.holds) (by omega) rfl
    obtain ⟨b3, c3, hl3, _, hld3, _⟩ := h1.depthSet hd1 0
    rw [hln, hb1] at hl2 hl3
    cases hl2; cases hl3
    by_cases hz : d.depth - 1 = 0
    · have e : (d.depth - 1 == 0) = true := by rw [hz]; rfl
      simp -implicitDefEqProofs only [ad, ax, am, aM, aN, aQ, aR, av, ak, aJ, aK, aS, aT, ay, ap, aU, aV, aX, aY, ae, ac, aj, ag, z1z, z2z, z3z, z4z, aH, af, aD, aB, aC, aA, aE, aG, z5z, z6z, ah, z7z, z8z, au, fa_137_0, fa_137_1, bj, hld3, e]
      obtain ⟨ok2, F2, h3, h4⟩ := hst2 w1 none' (namesT []) (.slice none 0 0) { depth := 0, holds := [] } ⟨ChgP.refl _ _, fun k hk => hk.elim⟩ (good_names _) isRow.nil (by
        rw [hz]; rfl)
      rw [st_135 (o := n.toNat * 2 + 1) rfl rfl ok2, if_pos hz]
      have e2 : setHd m n { depth := 0, holds := [] } = { setHd m n { d with depth := d.depth - 1 } with hands := (setHd m n { d with depth := d.depth - 1 }).hands.set n.toNat { depth := 0, holds := [] } } := by
        simp [setHd, List.set_set]
      rw [e2]
      exact ⟨by first | rfl | trivial, F2, h3, (h2.trans h4).pre hc⟩
    · simp -implicitDefEqProofs only [ad, ax, am, aM, aN, aQ, aR, av, ak, aJ, aK, aS, aT, ay, ap, aU, aV, aX, aY, ae, ac, aj, ag, z1z, z2z, z3z, z4z, aH, af, aD, aB, aC, aA, aE, aG, z5z, z6z, ah, z7z, z8z, au, fa_137_0, bj, hld3, eqf hz]
      rw [if_neg hz]
      exact ⟨by first | rfl | trivial, F1, h1, h2.pre hc⟩
  by_cases k5 : o.1 = 5
  · have q : (o.1 == 5) = true := by rw [k5]; rfl
    obtain ⟨b', c', v, Fk, hl, _, _, _, _, hld, hv, _⟩ := (I.keep cd).hdCell hd (k := 1) (P := namesT d.holds) (by omega) rfl
    rw [show ldC (hp w.drew g) (0 + 9) = _ from hb] at hl; cases hl
    obtain ⟨A, ca, rfl, hR⟩ := names_sh ⟨_, hv⟩
    simp -implicitDefEqProofs only [L100_0, ad, ax, am, aM, aN, aQ, aR, av, ak, aJ, aK, aS, aT, ay, ap, aU, aV, aX, aY, ae, ac, aj, ag, z1z, z2z, z3z, z4z, aH, af, aD, aB, aC, aA, aE, aG, z5z, z6z, ah, z7z, z8z, au, bq, bj, h6, bD, eqf k3, eqf k4, q, fa_137_1, ld_135, show ldC (hp w b) (n.toNat * 2 + 1) = _ from hld, ldn _ h9d]
    refine (c_nContains (c := ca) hR (by omega) (nmOf h)).mono ?_
    rintro _ w1 ⟨rfl, c1⟩
    have c01 := cd.trans c1
    rw [dv, if_neg k3, if_neg k4, if_pos k5]
    cases hh : holdsV d h with
    | true =>
      have hh' : decide (nmOf h ∈ d.holds) = true := hh
      simp -implicitDefEqProofs only [ad, ax, am, aM, aN, aQ, aR, av, ak, aJ, aK, aS, aT, ay, ap, aU, aV, aX, aY, ae, ac, aj, ag, z1z, z2z, z3z, z4z, aH, af, aD, aB, aC, aA, aE, aG, z5z, z6z, ah, z7z, z8z, au, hh', if_true]
      exact ⟨by first | rfl | trivial, F, I.keep c01, (UpdP.of0 (hc.trans c01))⟩
    | false =>
      have hh' : decide (nmOf h ∈ d.holds) = false := hh
      have c02 : Chg [] w w1.drew := c01.drew
      obtain ⟨b', c', v, Fk, hl, _, _, _, _, hld, hv, hst⟩ := (I.keep c02).hdCell hd (k := 1) (P := namesT d.holds) (by omega) rfl
      rw [bR c02 hb] at hl; cases hl
      have h91 : hp w1.drew g9 = some (.cells (nmC (nmOf h)).toArray 141) := c01.at h9 (by simp)
      simp -implicitDefEqProofs only [ad, ax, am, aM, aN, aQ, aR, av, ak, aJ, aK, aS, aT, ay, ap, aU, aV, aX, aY, ae, ac, aj, ag, z1z, z2z, z3z, z4z, aH, af, aD, aB, aC, aA, aE, aG, z5z, z6z, ah, z7z, z8z, au, hh', fa_137_1, ld_135, show ldC (hp w1 b) (n.toNat * 2 + 1) = _ from hld, ldn _ h91, Bool.false_eq_true, if_false]
      obtain ⟨hown, _⟩ := flat_own hv
      refine ps_135 (by simp) hown (by omega) (Nat.zero_le _) fun x' w2 ho hg hnb => ?_
      rw [show d.holds.flatMap nmC ++ [Value.int .i64 (nmOf h).1, Value.int .i64 (nmOf h).2] = (d.holds ++ [nmOf h]).flatMap nmC by simp [nmC]] at ho
      have hv' : isRow 141 2 d.holds.length ((d.holds.flatMap nmC).map isV) w1.drew Fk v := hv
      obtain ⟨F2, hr2, hu2⟩ := flat_grown (vs := nmC (nmOf h)) hv' (by simpa [nmC] using ho) hg hnb
      have hr2' : namesT (d.holds ++ [nmOf h]) w2 F2 x' := by
        rw [namesT, List.length_append]
        have e : (d.holds ++ [nmOf h]).flatMap nmC = d.holds.flatMap nmC ++ nmC (nmOf h) := by simp
        rw [e]; exact hr2
      obtain ⟨ok2, F3, h3, h4⟩ := hst w2 F2 (namesT (d.holds ++ [nmOf h])) x' { d with holds := d.holds ++ [nmOf h] } hu2 (good_names _) hr2' rfl
      have one := (good_names _).one hr2'
      rw [st_135 (o := n.toNat * 2 + 1) one.1 one.2 ok2]
      exact ⟨by first | rfl | trivial, F3, h3, h4.pre (hc.trans c02)⟩
  by_cases k7 : o.1 = 7
  · have q : (o.1 == 7) = true := by rw [k7]; rfl
    obtain ⟨t1, t2⟩ := touch_ok hr (by omega) (by omega)
    have cw := c_mWord (I.keep cd) Wm hK t1 n0 t2
    simp -implicitDefEqProofs only [L100_0, ad, ax, am, aM, aN, aQ, aR, av, ak, aJ, aK, aS, aT, ay, ap, aU, aV, aX, aY, ae, ac, aj, ag, z1z, z2z, z3z, z4z, aH, af, aD, aB, aC, aA, aE, aG, z5z, z6z, ah, z7z, z8z, au, bq, bT, fa_40_4, bj, ld_38, h6, h6d, bD, op_3, op_4, eqf k3, eqf k4, eqf k5, q, ldh _ h7d]
    rw [dv, if_neg k3, if_neg k4, if_neg k5, if_pos k7]
    repeat' (with_reducible apply And.intro)
    all_goals
      refine cw.mono ?_
      rintro _ w3 ⟨g2, j, rfl, c3, hw⟩
      have A := hw w3 c3
      have h63 := (cd.trans c3).at h6 (by simp)
      simp -implicitDefEqProofs only [ad, ax, am, aM, aN, aQ, aR, av, ak, aJ, aK, aS, aT, ay, ap, aU, aV, aX, aY, ae, ac, aj, ag, z1z, z2z, z3z, z4z, aH, af, aD, aB, aC, aA, aE, aG, z5z, z6z, ah, z7z, z8z, au, ld_38, h63, op_4]
      rw [st_38 rfl rfl A.ok]
      obtain ⟨F1, h1, h2⟩ := A.st o.2.2.2.2.1
      exact ⟨by first | rfl | trivial, F1, h1, h2.pre (hc.trans (cd.trans c3))⟩
  by_cases k8 : o.1 = 8
  · have q : (o.1 == 8) = true := by rw [k8]; rfl
    obtain ⟨t1, t2⟩ := touch_ok hr (by omega) (by omega)
    have cw := c_mWord (I.keep cd) Wm hK t1 n0 t2
    simp -implicitDefEqProofs only [L100_0, ad, ax, am, aM, aN, aQ, aR, av, ak, aJ, aK, aS, aT, ay, ap, aU, aV, aX, aY, ae, ac, aj, ag, z1z, z2z, z3z, z4z, aH, af, aD, aB, aC, aA, aE, aG, z5z, z6z, ah, z7z, z8z, au, bq, bT, fa_40_4, bj, ld_38, h6, h6d, bD, op_3, op_4, eqf k3, eqf k4, eqf k5, eqf k7, q, ldh _ h7d]
    rw [dv, if_neg k3, if_neg k4, if_neg k5, if_neg k7, if_pos k8]
    repeat' (with_reducible apply And.intro)
    all_goals
      refine cw.mono ?_
      rintro _ w3 ⟨g2, j, rfl, c3, hw⟩
      have A := hw w3 c3
      have h63 := (cd.trans c3).at h6 (by simp)
      simp -implicitDefEqProofs only [ad, ax, am, aM, aN, aQ, aR, av, ak, aJ, aK, aS, aT, ay, ap, aU, aV, aX, aY, ae, ac, aj, ag, z1z, z2z, z3z, z4z, aH, af, aD, aB, aC, aA, aE, aG, z5z, z6z, ah, z7z, z8z, au, ld_38, h63, op_4, A.ld, bG]
      rw [st_38 rfl rfl A.ok]
      obtain ⟨F1, h1, h2⟩ := A.st (IntKind.u64.wrap (wordV m h o.2.2.2.1 + o.2.2.2.2.1))
      exact ⟨by first | rfl | trivial, F1, h1, h2.pre (hc.trans (cd.trans c3))⟩
  by_cases k9 : o.1 = 9
  · have q : (o.1 == 9) = true := by rw [k9]; rfl
    obtain ⟨t1, t2⟩ := touch_ok hr (by omega) (by omega)
    simp -implicitDefEqProofs only [L100_0, ad, ax, am, aM, aN, aQ, aR, av, ak, aJ, aK, aS, aT, ay, ap, aU, aV, aX, aY, ae, ac, aj, ag, z1z, z2z, z3z, z4z, aH, af, aD, aB, aC, aA, aE, aG, z5z, z6z, ah, z7z, z8z, au, bq, bT, fa_40_4, bj, ld_38, h6, bD, op_3, eqf k3, eqf k4, eqf k5, eqf k7, eqf k8, q, ldh _ h7]
    rw [dv, if_neg k3, if_neg k4, if_neg k5, if_neg k7, if_neg k8, if_pos k9]
    refine (c_mWord I Wm hK t1 n0 t2).mono ?_
    rintro _ w3 ⟨g2, j, rfl, c3, hw⟩
    have c3d : Chg [] w w3.drew := c3.drew
    have A := hw w3.drew c3d
    have h63 := c3.at h6 (by simp)
    by_cases hv : wordV m h o.2.2.2.1 = o.2.2.2.2.1
    · have e : (wordV m h o.2.2.2.1 == o.2.2.2.2.1) = true := by rw [hv]; exact beq_self_eq_true _
      simp -implicitDefEqProofs only [ad, ax, am, aM, aN, aQ, aR, av, ak, aJ, aK, aS, aT, ay, ap, aU, aV, aX, aY, ae, ac, aj, ag, z1z, z2z, z3z, z4z, aH, af, aD, aB, aC, aA, aE, aG, z5z, z6z, ah, z7z, z8z, au, ld_38, fa_40_4, fa_40_5, h63, op_4, op_5, show ldC (hp w3 g2) j = _ from A.ld, e]
      rw [st_38 rfl rfl A.ok, if_pos hv]
      obtain ⟨F1, h1, h2⟩ := A.st o.2.2.2.2.2
      exact ⟨by first | rfl | trivial, F1, h1, h2.pre (hc.trans c3d)⟩
    · simp -implicitDefEqProofs only [ad, ax, am, aM, aN, aQ, aR, av, ak, aJ, aK, aS, aT, ay, ap, aU, aV, aX, aY, ae, ac, aj, ag, z1z, z2z, z3z, z4z, aH, af, aD, aB, aC, aA, aE, aG, z5z, z6z, ah, z7z, z8z, au, ld_38, fa_40_4, h63, op_4, show ldC (hp w3 g2) j = _ from A.ld, eqf hv]
      rw [if_neg hv]
      exact ⟨by first | rfl | trivial, F, I.keep c3d, UpdP.of0 (hc.trans c3d)⟩
  by_cases k10 : o.1 = 10
  · have q : (o.1 == 10) = true := by rw [k10]; rfl
    obtain ⟨i, r, hf, hri, hnm, hlv⟩ := region_ok hr (by omega)
    obtain ⟨s0, s1, s2⟩ := slots_at hlv
    have s2' : m.slots[h.1.toNat]? = some (1, h.2.1) := s2
    have s0' : 0 ≤ h.1 := s0
    have s1' : h.1 < m.slots.length := s1
    obtain ⟨b1, c1, hl, ok, F1, h1, h2⟩ := (I.keep cd).slotSet s2' (p' := (2, h.2.1)) (k := 0) (x := 2) (by omega) rfl
    have ia := ia_128 (b := b1) (p := 0) (n := m.slots.length) (c := c1) (j := .i64) (i := h.1) (by omega) (by omega)
    rw [Nat.zero_add] at ia
    have e0 : (hnC h).toArray[0 + 0]? = some (.int .i64 h.1) := rfl
    simp -implicitDefEqProofs only [L100_0, ad, ax, am, aM, aN, aQ, aR, av, ak, aJ, aK, aS, aT, ay, ap, aU, aV, aX, aY, ae, ac, aj, ag, z1z, z2z, z3z, z4z, aH, af, aD, aB, aC, aA, aE, aG, z5z, z6z, ah, z7z, z8z, au, bq, bj, h6, bD, eqf k3, eqf k4, eqf k5, eqf k7, eqf k8, eqf k9, q, fa_132_2, ld_128, show ldC (hp w g) (0 + 7) = _ from hl, bX, h7, e0, ia, fa_150_0]
    rw [st_3 (o := h.1.toNat * 2 + 0) rfl rfl ok, dv, if_neg k3, if_neg k4, if_neg k5, if_neg k7, if_neg k8, if_neg k9, if_pos k10, s2']
    have u1 := h2.pre (hc.trans cd)
    have h71 : hp (put w.drew b1 ((getC (hp w.drew b1)).setIfInBounds (h.1.toNat * 2 + 0) (.int .i64 2)) (getE (hp w.drew b1))) g7 = some (.cells (hnC h).toArray 51) := by
      rw [bS]
      · exact h7
      · intro e
        subst e
        rw [show hp w.drew g7 = _ from h7, okC_some, decide_eq_true_eq] at ok
        obtain ⟨sv, _, _, M⟩ := I.rd
        obtain ⟨A', c', hs', hR'⟩ := slots_sh M.sT
        have hsl := M.sl
        rw [show ldC (hp w g) (0 + 7) = _ from hl] at hsl
        cases hsl
        cases hs'
        have hown := (flat_own M.sT.choose_spec).1
        rcases hown.2 with ⟨hx, _⟩ | ⟨gg, cap, cur, hx, _, hgg, _⟩
        · cases hx
        · cases hx
          have h7' : w.heap[g7]? = some (.cells (hnC h).toArray 51) := h7
          rw [h7'] at hgg
          cases hgg
    generalize put w.drew b1 ((getC (hp w.drew b1)).setIfInBounds (h.1.toNat * 2 + 0) (.int .i64 2)) (getE (hp w.drew b1)) = w1 at *
    obtain ⟨_, _, _, M1⟩ := h1.rd
    have ml := M1.l
    by_cases hlo : m.loose = true
    · rw [show ({ m with slots := m.slots.set h.1.toNat (2, h.2.1) } : MdV).loose = true from hlo] at ml
      have cd1 : Chg [] w1 w1.drew := (Chg.refl _ _).drew
      have s3 : ({ m with slots := m.slots.set h.1.toNat (2, h.2.1) } : MdV).slots[h.1.toNat]? = some (2, h.2.1) := by
        show (m.slots.set _ _)[_]? = _
        rw [List.getElem?_set, if_pos rfl, if_pos (List.getElem?_eq_some_iff.1 s2').1]
      obtain ⟨b2, c2, hl2, ok2, F2, h3, h4⟩ := (h1.keep cd1).slotSet s3 (p' := (0, h.2.1)) (k := 0) (x := 0) (by omega) rfl
      have hln : ({ m with slots := m.slots.set h.1.toNat (2, h.2.1) } : MdV).slots.length = m.slots.length := by simp
      rw [hln] at hl2
      have ia2 := ia_128 (b := b2) (p := 0) (n := m.slots.length) (c := c2) (j := .i64) (i := h.1) (by omega) (by omega)
      rw [Nat.zero_add] at ia2
      simp -implicitDefEqProofs only [ad, ax, am, aM, aN, aQ, aR, av, ak, aJ, aK, aS, aT, ay, ap, aU, aV, aX, aY, ae, ac, aj, ag, z1z, z2z, z3z, z4z, aH, af, aD, aB, aC, aA, aE, aG, z5z, z6z, ah, z7z, z8z, au, fa_132_1, fa_132_2, ld_4, ml, ld_128, show ldC (hp w1 g) (0 + 7) = _ from hl2, bX, bj, h71, e0, ia2, fa_150_0, hlo, if_true]
      rw [st_3 (o := h.1.toNat * 2 + 0) rfl rfl ok2]
      have e2 : ({ m with slots := m.slots.set h.1.toNat (0, h.2.1) } : MdV) = { ({ m with slots := m.slots.set h.1.toNat (2, h.2.1) } : MdV) with slots := ({ m with slots := m.slots.set h.1.toNat (2, h.2.1) } : MdV).slots.set h.1.toNat (0, h.2.1) } := by simp [List.set_set]
      rw [← e2, hlo] at h3
      exact ⟨by first | rfl | trivial, F2, h3, u1.trans (h4.pre cd1)⟩
    · have hlf : m.loose = false := by simpa using hlo
      rw [show ({ m with slots := m.slots.set h.1.toNat (2, h.2.1) } : MdV).loose = false from hlf] at ml
      simp -implicitDefEqProofs only [ad, ax, am, aM, aN, aQ, aR, av, ak, aJ, aK, aS, aT, ay, ap, aU, aV, aX, aY, ae, ac, aj, ag, z1z, z2z, z3z, z4z, aH, af, aD, aB, aC, aA, aE, aG, z5z, z6z, ah, z7z, z8z, au, fa_132_1, ld_4, ml, hlf, Bool.false_eq_true, if_false]
      rw [hlf] at h1
      exact ⟨by first | rfl | trivial, F1, h1, u1⟩
  · simp -implicitDefEqProofs only [L100_0, ad, ax, am, aM, aN, aQ, aR, av, ak, aJ, aK, aS, aT, ay, ap, aU, aV, aX, aY, ae, ac, aj, ag, z1z, z2z, z3z, z4z, aH, af, aD, aB, aC, aA, aE, aG, z5z, z6z, ah, z7z, z8z, au, bq, bj, h6, bD, eqf k3, eqf k4, eqf k5, eqf k7, eqf k8, eqf k9, eqf k10]
    rw [dv, if_neg k3, if_neg k4, if_neg k5, if_neg k7, if_neg k8, if_neg k9, if_neg k10]
    exact ⟨by first | rfl | trivial, F, I, UpdP.of0 hc⟩
set_option maxHeartbeats 1000000 in
theorem c_mDoes (I : MdI w g m F) (Wm : Wf m K) (hK : K ≤ 1000000) (hm : mayV m n o = true) (hd : m.hands[n.toNat]? = some d) (hr : refusesV m d o h = 0) :
    CallR Try.prog 100 [.pointer (some ⟨g, 0, none⟩), .int .i64 n, .agg (opC o).toArray, .agg (hnC h).toArray] w fun v w' => v = .tuple #[] ∧ ∃ F', MdI w' g (doesV m n o h) F' ∧ UpdP F F' w w' := by
  apply F100_ok
  obtain ⟨n0, n1, n2⟩ := may_n hm
  simp -implicitDefEqProofs only [F100, bE, bA, bf]
  generalize hw : (w.alloc (.cells (opC o).toArray 40)).alloc _ = w1
  have c1 : Chg [] w w1 := by rw [← hw]; exact ((Chg.refl _ _).alloc _).alloc _
  have a6 : hp w1 w.heap.size = some (.cells (opC o).toArray 40) := by rw [← hw, bc, bf, if_neg (by omega), bc, if_pos rfl]
  have a7 : hp w1 (w.heap.size + 1) = some (.cells (hnC h).toArray 51) := by rw [← hw, bc, bf, if_pos rfl]
  clear hw
  generalize w.heap.size = g6 at *
  have ldh : ∀ w', hp w' (g6 + 1) = some (.cells (hnC h).toArray 51) → ldv Try.prog 51 (.pointer (some ⟨g6 + 1, 0, none⟩)) w' = some (.agg (hnC h).toArray) := fun w' hw => bJ (t := 51) (c := (hnC h).toArray) ag_51 (show (Try.prog.info? 51).map (·.size) = some (hnC h).toArray.size from sz_51) hw
  obtain ⟨_, _, hv, M⟩ := I.rd
  obtain ⟨Fh, hF⟩ := M.hT
  obtain ⟨b, c, hx, _⟩ := hd_at hF hd
  have hb := M.hl
  rw [hx] at hb
  have cd : Chg [] w w1.drew := c1.drew
  have a7d : hp w1.drew (g6 + 1) = some (.cells (hnC h).toArray 51) := a7
  have hbd := fun w' (k : Chg [] w w') => bR k hb
  have ia := ia_129 (b := b) (p := 0) (n := m.hands.length) (c := c) (j := .i64) (i := n) (by omega) (by omega)
  rw [Nat.zero_add] at ia
  have nm : ∀ (w' : World) {K : Value → World → Prop}, (∀ w'', Chg [] w' w'' → K (.agg (nmC (nmOf h)).toArray) w'') → CallR Try.prog 86 [.agg (hnC h).toArray] w' K := fun w' K hk => (c_mNameOf h w').mono fun v w'' hv => by obtain ⟨rfl, hc⟩ := hv; exact hk w'' hc
  have tail : ∀ w3, Chg [] w1 w3 → ∀ t : Nat, w1.heap.size ≤ t → hp w3 t = some (.cells #[.int .i64 0, .int .i64 0] 141) →
      effu Try.prog (Instr.storeAt 141 (.pointer (some ⟨t, 0, none⟩)) (.agg (nmC (nmOf h)).toArray)) w3 fun w' =>
      P100_0 (.pointer (some ⟨g, 0, none⟩)) (.pointer (some ⟨g6, 0, none⟩)) (.pointer (some ⟨g6 + 1, 0, none⟩)) (.pointer (some ⟨b, n.toNat * 2, none⟩)) (.pointer (some ⟨t, 0, none⟩)) w' fun v w' => v = .tuple #[] ∧ ∃ F', MdI w' g (doesV m n o h) F' ∧ UpdP F F' w w' := by
    intro w3 c3 t hge ht
    rw [st_141 (by rfl) (by rfl) (by rw [ht]; rfl) (by rw [ht]; rfl), ht]
    simp -implicitDefEqProofs only [bM]
    have c4 : Chg [] w1 (put w3 t (nmC (nmOf h)).toArray 141) := c3.put (.inr hge) _ _
    have c04 := c1.trans c4
    exact l_does0 c04 (I.keep c04) Wm hK (c4.at a6 (by simp)) (c4.at a7 (by simp)) (bv (bz ht) _ _) hd hr n2 (hbd _ c04)
  simp -implicitDefEqProofs only [ad, ax, am, aM, aN, aQ, aR, av, ak, aJ, aK, aS, aT, ay, ap, aU, aV, aX, aY, ae, ac, aj, ag, z1z, z2z, z3z, z4z, aH, af, aD, aB, aC, aA, aE, aG, z5z, z6z, ah, z7z, z8z, au, fa_132_4, ld_129, show ldC (hp w1 g) (0 + 9) = _ from hbd _ c1, ia, ldh _ a7d, al_141]
  repeat' (with_reducible apply And.intro)
  all_goals first
    | (refine nm _ ?_
       intro w3 c3
       have c13 : Chg [] w1 w3 := (((Chg.refl [] w1).drew).alloc _).trans c3
       try simp -implicitDefEqProofs only [ad, ax, am, aM, aN, aQ, aR, av, ak, aJ, aK, aS, aT, ay, ap, aU, aV, aX, aY, ae, ac, aj, ag, z1z, z2z, z3z, z4z, aH, af, aD, aB, aC, aA, aE, aG, z5z, z6z, ah, z7z, z8z, au, fa_132_4, ld_129, hbd _ (c1.trans c13), ia, al_141]
       exact tail w3 c13 _ (Nat.le_refl _) (c3.at (by rw [bc, if_pos rfl]) (by simp)))
    | (refine nm _ ?_
       intro w3 c3
       have c13 : Chg [] w1 w3 := ((Chg.refl [] w1).drew).trans c3
       try simp -implicitDefEqProofs only [ad, ax, am, aM, aN, aQ, aR, av, ak, aJ, aK, aS, aT, ay, ap, aU, aV, aX, aY, ae, ac, aj, ag, z1z, z2z, z3z, z4z, aH, af, aD, aB, aC, aA, aE, aG, z5z, z6z, ah, z7z, z8z, au, fa_132_4, ld_129, hbd _ (c1.trans c13), ia, al_141]
       exact tail _ (c13.alloc _) _ c13.size (by rw [bc, if_pos rfl]))
end
end Go.Proofs.Ytgamnncehjcdiaa

namespace Go.Proofs.Ytgamnncehjcdiaa
open Go Ev Go.RowKit

section
variable {W w : World} {g g5 b i k : Nat} {m : MdV} {F : Fp} {K : Nat} {r : RgV}
theorem own_unique {e : TypeId} {z n : Nat} {x : Value} {xs ys : List Value} {p q : Nat} (h : w.ownsRow p e z x n xs) (k : w.ownsRow q e z x n ys) : xs = ys := by
  rcases h.2 with ⟨rfl, rfl⟩ | ⟨g, cap, cur, rfl, _, hg, _, _, _, ht⟩
  · have h1 := h.1; have h2 := k.1
    simp at h1 h2
    rw [h1, h2]
  · rcases k.2 with ⟨h0, _⟩ | ⟨g', cap', cur', h0, _, hg', _, _, _, ht'⟩
    · cases h0
    · cases h0
      rw [hg] at hg'
      cases hg'
      rw [← ht, ← ht']
theorem Ev.UpdP.keep {F F' : Fp} {w w1 : World} (u : UpdP F F' w w1) {x : Nat} {o : Obj} (hx : hp w x = some o) (hn : ¬ F x) : hp w1 x = some o ∧ ¬ F' x := by
  refine ⟨u.chg.at hx hn, fun h => ?_⟩
  rcases u.sub x h with h1 | h1
  · exact hn h1
  · have := bz hx; omega
theorem slots_blk (I : MdI w g m F) {n c : Nat} (hl : ldC (hp w g) (0 + 7) = some (.slice (some ⟨b, 0, none⟩) n c)) : b ≠ g ∧ F b := by
  obtain ⟨v, Fk, hg, hng, hsub, hld, hS, _⟩ := isAt.cell I (bY m) (k := 7) (P := slotsT m.slots) rfl
  rw [show ldC (hp w g) 7 = _ from hl] at hld
  cases hld
  obtain ⟨xs, Fs, _, _, _, h4⟩ := hS
  have hb := (h4 b).2 (.inl rfl)
  exact ⟨fun e => hng (by rw [← e]; exact hb), hsub b hb⟩
theorem st_slot {x y : Value} {o : Nat} {L : World → Prop} (h1 : x.oneCell' = true) (h2 : y.oneCell' = true) (hx : x.cells = #[x]) (hy : y.cells = #[y]) (ok : okC (hp w b) (o + 2) = true) : effu Try.prog (Instr.storeAt 150 (.pointer (some ⟨b, o, none⟩)) (.agg #[x, y])) w L = L (put w b (((getC (hp w b)).setIfInBounds o x).setIfInBounds (o + 1) y) (getE (hp w b))) := by
  exact effu_store (v := .agg #[x, y]) sz_150 rfl (by show (List.all [x, y] _) = true; simp [h1, h2]) (by decide) ok
theorem MdI.slotSet2 (I : MdI w g m F) {p p' : NmV} (hp' : m.slots[i]? = some p) :
    ∃ b c, ldC (hp w g) (0 + 7) = some (.slice (some ⟨b, 0, none⟩) m.slots.length c) ∧ b ≠ g ∧ F b ∧ okC (hp w b) (i * 2 + 2) = true ∧
      ∃ F', MdI (put w b (((getC (hp w b)).setIfInBounds (i * 2) (.int .i64 p'.1)).setIfInBounds (i * 2 + 1) (.int .i64 p'.2)) (getE (hp w b))) g { m with slots := m.slots.set i p' } F' ∧ UpdP F F' w (put w b (((getC (hp w b)).setIfInBounds (i * 2) (.int .i64 p'.1)).setIfInBounds (i * 2 + 1) (.int .i64 p'.2)) (getE (hp w b))) := by
  obtain ⟨b, c, hl, ok, F1, h1, h2⟩ := I.slotSet hp' (p' := (p'.1, p.2)) (k := 0) (x := p'.1) (by omega) rfl
  obtain ⟨hbg, hFb⟩ := slots_blk I hl
  have hp2 : ({ m with slots := m.slots.set i (p'.1, p.2) } : MdV).slots[i]? = some (p'.1, p.2) := by
    show (m.slots.set _ _)[_]? = _
    rw [List.getElem?_set, if_pos rfl, if_pos (List.getElem?_eq_some_iff.1 hp').1]
  obtain ⟨b2, c2, hl2, ok2, F2, h3, h4⟩ := h1.slotSet hp2 (p' := p') (k := 1) (x := p'.2) (by omega) rfl
  have hln : ({ m with slots := m.slots.set i (p'.1, p.2) } : MdV).slots.length = m.slots.length := by simp
  rw [hln, bS (Ne.symm hbg), hl] at hl2
  cases hl2
  obtain ⟨cc, e, hb, hle⟩ := okC_cases ok
  have hlt := bz hb
  rw [hb] at h3 h4 ok2 h2
  rw [getC_some, bM, bv hlt] at h3 h4 ok2
  rw [getC_some, bM, put_put] at h3 h4
  have es : ({ m with slots := m.slots.set i p' } : MdV) = { ({ m with slots := m.slots.set i (p'.1, p.2) } : MdV) with slots := ({ m with slots := m.slots.set i (p'.1, p.2) } : MdV).slots.set i p' } := by simp [List.set_set]
  refine ⟨b, c, hl, hbg, hFb, ?_, F2, ?_, ?_⟩
  · rw [hb, okC_some]
    rw [okC_some, decide_eq_true_eq] at ok2
    simp at ok2
    exact decide_eq_true ok2
  · rw [hb, es]; exact h3
  · rw [hb]
    exact UpdP.trans h2 h4
theorem MdI.rgPut (I : MdI w g m F) {n c : Nat} (hb : ldC (hp w g) (0 + 8) = some (.slice (some ⟨b, 0, none⟩) n c)) (hr : m.rgs[i]? = some r) (hk : k < 7) {P : Th} (hP : (rgT r)[k]? = some P) :
    ∃ v Fk, (∀ x, Fk x → F x) ∧ F b ∧ ¬ Fk b ∧ ldC (hp w b) (i * 7 + k) = some v ∧ P w Fk v ∧
      ∀ w1 F' P' v' r', UpdP Fk F' w w1 → OwnT P' → P' w1 F' v' → rgT r' = (rgT r).set k P' → okC (hp w1 b) (i * 7 + k + 1) = true ∧ v'.cells = #[v'] ∧ v'.oneCell' = true ∧
        ldC (hp (put w1 b ((getC (hp w1 b)).setIfInBounds (i * 7 + k) v') (getE (hp w1 b))) g) (0 + 8) = some (.slice (some ⟨b, 0, none⟩) n c) ∧
        ∃ F1, MdI (put w1 b ((getC (hp w1 b)).setIfInBounds (i * 7 + k) v') (getE (hp w1 b))) g { m with rgs := m.rgs.set i r' } F1 ∧ UpdP F F1 w (put w1 b ((getC (hp w1 b)).setIfInBounds (i * 7 + k) v') (getE (hp w1 b))) := by
  obtain ⟨rv, Fr, hg, hng, hsub, hld, hR, hres, _⟩ := isAt.cell I (bY m) (k := 8) (P := rgsT m.rgs) rfl
  have hP' : (m.rgs.flatMap rgT)[i * 7 + k]? = some P := (flatM_get rgT_len m.rgs i r hr k hk).trans hP
  obtain ⟨b', c', v, Fk, hx, hFb, hnb, hsub2, hld2, hv, h3, h4⟩ := isRow.cell hR (good_rgL m.rgs) hP'
  rw [show ldC (hp w g) 8 = _ from hb, hx] at hld
  cases hld
  have hbg : b ≠ g := fun e => hng (by rw [← e]; exact hFb)
  refine ⟨v, Fk, fun x hx => hsub x (hsub2 x hx), hsub b hFb, hnb, hld2, hv, fun w1 F' P' v' r' u hg' hpp hr' => ?_⟩
  obtain ⟨ok, F1, hrow, hupd⟩ := h4 w1 F' P' v' u hg' hpp
  rw [flatM_setP rgT_len hk hr' hr] at hrow
  have hrow' : rgsT (m.rgs.set i r') (put w1 b ((getC (hp w1 b)).setIfInBounds (i * 7 + k) v') (getE (hp w1 b))) F1 rv := by rw [rgsT, List.length_set]; exact hrow
  obtain ⟨F2, e1, e2⟩ := hres _ F1 (rgsT (m.rgs.set i r')) hupd hrow'
  obtain ⟨one1, one2⟩ := hg'.one hpp
  refine ⟨ok, one1, one2, ?_, F2, e1, e2⟩
  rw [bS (Ne.symm hbg)]
  have : hp w1 g = hp w g := u.chg.block g (by
    rcases Nat.lt_or_ge g w.heap.size with h | h
    · exact h
    · have h2 : hp w g = none := by simp [hp]; omega
      rw [h2] at hb; cases hb) fun h => hng (hsub2 g h)
  rw [this]; exact hb
theorem MdI.rgsPut (I : MdI w g m F) : ∃ v Fk, (∀ x, Fk x → F x) ∧ ldC (hp w g) (0 + 8) = some v ∧ rgsT m.rgs w Fk v ∧
    ∀ w1 F' v' rgs', UpdP Fk F' w w1 → rgsT rgs' w1 F' v' → okC (hp w1 g) (0 + 8 + 1) = true ∧ v'.cells = #[v'] ∧ v'.oneCell' = true ∧
      ∃ F1, MdI (put w1 g ((getC (hp w1 g)).setIfInBounds (0 + 8) v') (getE (hp w1 g))) g { m with rgs := rgs' } F1 ∧ UpdP F F1 w (put w1 g ((getC (hp w1 g)).setIfInBounds (0 + 8) v') (getE (hp w1 g))) := by
  obtain ⟨rv, Fr, hg, hng, hsub, hld, hR, _, hput⟩ := isAt.cell I (bY m) (k := 8) (P := rgsT m.rgs) rfl
  refine ⟨rv, Fr, hsub, hld, hR, fun w1 F' v' rgs' u hv' => ?_⟩
  obtain ⟨ok, F1, h1, h2⟩ := hput w1 F' (rgsT rgs') v' u (good_rgs rgs') hv'
  obtain ⟨one1, one2⟩ := (good_rgs rgs').one hv'
  exact ⟨ok, one1, one2, F1, h1, h2⟩
theorem rgs_grown {L : List RgV} {w' : World} {x x' : Value} {xs : List Value} (h : rgsT L w F x) (hown : w.ownsRow 0 144 7 x L.length xs) (nm : NmV) (cls : Int)
    (ho : w'.ownsRow 0 144 7 x' (L.length + 1) (xs ++ [.int .i64 nm.1, .int .i64 nm.2, .int .i64 cls, .int .i64 0, .slice none 0 0, .slice none 0 0, .slice none 0 0])) (hg : w.grownBy w' x.ownBlock) (hnb : NewB w x x') :
    ∃ F', rgsT (L ++ [⟨nm, cls, 0, [], [], []⟩]) w' F' x' ∧ UpdP F F' w w' := by
  have hy : Parts w (rgT ⟨nm, cls, 0, [], [], []⟩) [.int .i64 nm.1, .int .i64 nm.2, .int .i64 cls, .int .i64 0, .slice none 0 0, .slice none 0 0, .slice none 0 0] (fun _ => none') := by
    refine ⟨rfl, fun k P v hP hv => ?_, fun _ _ _ _ _ b hb _ => hb⟩
    have hk := (List.getElem?_eq_some_iff.1 hP).1
    rw [rgT_len] at hk
    have hk' : k = 0 ∨ k = 1 ∨ k = 2 ∨ k = 3 ∨ k = 4 ∨ k = 5 ∨ k = 6 := by omega
    rcases hk' with rfl | rfl | rfl | rfl | rfl | rfl | rfl <;> cases hP <;> cases hv
    · exact ⟨rfl, fun _ h => h⟩
    · exact ⟨rfl, fun _ h => h⟩
    · exact ⟨rfl, fun _ h => h⟩
    · exact ⟨rfl, fun _ h => h⟩
    · exact isRow.nil
    · exact isRow.nil
    · exact isRow.nil
  obtain ⟨F', h1, h2, _⟩ := isRow.grow (G := none') (m := 1) h (good_rgL L) (good_rg _) hy (fun b => ⟨fun h => h.elim, fun ⟨_, _, h⟩ => h⟩) (fun _ _ h => h) (fun xs' h' => by rw [own_unique h' hown]; exact ho) hg hnb
  refine ⟨F', ?_, ⟨h2.chg.mono fun k hk => hk.resolve_right id, fun k hk => (h2.sub k hk).imp (·.resolve_right id) id⟩⟩
  rw [rgsT, List.length_append, List.flatMap_append]
  simpa using h1
theorem rs_beq (a b : RsV) : ((a.1 == b.1) && (((a.2.1.1 == b.2.1.1) && ((a.2.1.2.1 == b.2.1.2.1) && ((a.2.1.2.2.1 == b.2.1.2.2.1) && ((a.2.1.2.2.2.1 == b.2.1.2.2.2.1) && ((a.2.1.2.2.2.2 == b.2.1.2.2.2.2) && (true)))))) && ((a.2.2.1 == b.2.2.1) && ((a.2.2.2 == b.2.2.2) && (true))))) = decide (a = b) := by
  obtain ⟨a1, ⟨a2, a3, a4, a5, a6⟩, a7, a8⟩ := a; obtain ⟨b1, ⟨b2, b3, b4, b5, b6⟩, b7, b8⟩ := b
  by_cases h1 : a1 = b1 <;> by_cases h2 : a2 = b2 <;> by_cases h3 : a3 = b3 <;> by_cases h4 : a4 = b4 <;> by_cases h5 : a5 = b5 <;> by_cases h6 : a6 = b6 <;> by_cases h7 : a7 = b7 <;> by_cases h8 : a8 = b8 <;> simp [h1, h2, h3, h4, h5, h6, h7, h8]
theorem be_rs {x y : Operand} (a b : RsV) : be Try.prog .eql 53 x y (.agg (rsC a).toArray) (.agg (rsC b).toArray) = some (.bool (decide (a = b))) := by rw [← rs_beq]; exact be_eql_53
theorem be_nrs {x y : Operand} (a b : RsV) : be Try.prog .neq 53 x y (.agg (rsC a).toArray) (.agg (rsC b).toArray) = some (.bool (!decide (a = b))) := by rw [← rs_beq]; exact be_neq_53
set_option maxHeartbeats 1000000 in
theorem c_mTaken {s rv hh : Value} (M : MdR w g m s rv hh) (Wm : Wf m K) (hK : K ≤ 1000000) (x : Int) : CallR Try.prog 129 [.pointer (some ⟨g, 0, none⟩), .int .i64 x] w fun v w' => v = .bool (takenV m x) ∧ Chg [] w w' := by
  apply F129_ok
  obtain ⟨A, c, hr⟩ := rgs_sh M.rT
  have hrl := M.rl
  rw [hr] at hrl
  have hl := Nat.le_trans Wm.rl hK
  simp -implicitDefEqProofs only [F129, ad, ax, am, aM, aN, aQ, aR, av, ak, aJ, aK, aS, aT, ay, ap, aU, aV, aX, aY, ae, ac, aj, ag, z1z, z2z, z3z, z4z, aH, af, aD, aB, aC, aA, aE, aG, z5z, z6z, ah, z7z, z8z, au, af, fa_132_3, ld_130, hrl, len_130]
  have main : ∀ (d i : Nat) (w1 : World), Chg [] w w1 → (∀ (j : Nat) (r : RgV), j < i → m.rgs[j]? = some r → (isLv m r.nm && decide (x ∈ r.chunks)) = false) → i + d = m.rgs.length →
      P129_0 (.pointer (some ⟨g, 0, none⟩)) (.int .i64 x) (.slice A m.rgs.length c) (.int .i64 m.rgs.length) (.int .i64 i) w1 fun v w' => v = .bool (takenV m x) ∧ Chg [] w w' := by
    intro d
    induction d with
    | zero =>
      intro i w1 hc hn hi
      apply L129_0_ok
      have : ¬ (i : Int) < m.rgs.length := by omega
      simp -implicitDefEqProofs only [L129_0, ad, ax, am, aM, aN, aQ, aR, av, ak, aJ, aK, aS, aT, ay, ap, aU, aV, aX, aY, ae, ac, aj, ag, z1z, z2z, z3z, z4z, aH, af, aD, aB, aC, aA, aE, aG, z5z, z6z, ah, z7z, z8z, au, this]
      refine ⟨?_, hc⟩
      have : takenV m x = false := by
        rw [takenV, List.any_eq_false]
        intro r hr
        obtain ⟨j, hj⟩ := List.getElem?_of_mem hr
        rw [hn j r (by have := (List.getElem?_eq_some_iff.1 hj).1; omega) hj]; simp
      rw [this]
    | succ d ih =>
      intro i w1 hc hn hi
      apply L129_0_ok
      have hlt : (i : Int) < m.rgs.length := by omega
      obtain ⟨rg, hrg⟩ : ∃ rg, m.rgs[i]? = some rg := ⟨_, List.getElem?_eq_getElem (by omega)⟩
      obtain ⟨Fr, hF⟩ := (M.keep hc).rT
      obtain ⟨b, c', hx, cv, wv, ov, R⟩ := rg_at hF hrg
      rw [hr] at hx
      cases hx
      have ia := ia_130 (b := b) (p := 0) (n := m.rgs.length) (c := c) (j := .i64) (i := (i : Int)) (by omega) (by omega)
      rw [Int.toNat_natCast, Nat.zero_add] at ia
      have lr : ldL (hp w1 b) (i * 7) 7 = some [.int .i64 rg.nm.1, .int .i64 rg.nm.2, .int .i64 rg.cls, .int .i64 rg.off, cv, wv, ov] := ldL_take 7 _ _ rfl fun j u hj => by
        have hj' := (List.getElem?_eq_some_iff.1 hj).1
        simp at hj'
        have h7 : j = 0 ∨ j = 1 ∨ j = 2 ∨ j = 3 ∨ j = 4 ∨ j = 5 ∨ j = 6 := by omega
        rcases h7 with rfl | rfl | rfl | rfl | rfl | rfl | rfl <;> cases hj
        · exact R.c0
        · exact R.c1
        · exact R.c2
        · exact R.c3
        · exact R.c4
        · exact R.c5
        · exact R.c6
      obtain ⟨Fc, hFc⟩ := R.cT
      obtain ⟨Fw, hFw⟩ := R.wT
      obtain ⟨Fo, hFo⟩ := R.oT
      have one1 := ((good_intsT _).one hFc).2
      have one2 := ((good_words _).one hFw).2
      have one3 := ((cm _).one hFo).2
      simp -implicitDefEqProofs only [L129_0, ad, ax, am, aM, aN, aQ, aR, av, ak, aJ, aK, aS, aT, ay, ap, aU, aV, aX, aY, ae, ac, aj, ag, z1z, z2z, z3z, z4z, aH, af, aD, aB, aC, aA, aE, aG, z5z, z6z, ah, z7z, z8z, au, hlt, ia, ld_144, lr, Option.map_some, al_144]
      rw [st_144 (by rfl) (by show (List.all [_, _, _, _, cv, wv, ov] _) = true; have oi : ∀ (k : IntKind) (x : Int), (Value.int k x).oneCell' = true := fun _ _ => rfl; simp [one1, one2, one3, oi]) (by rw [bc, if_pos rfl]; rfl) (by rw [bc, if_pos rfl]; rfl), bc, if_pos rfl, bM]
      generalize hw2 : put (w1.alloc _) w1.heap.size _ _ = w2
      have c2 : Chg [] w1 w2 := by rw [← hw2]; exact ((Chg.refl _ _).alloc _).put (.inr (Nat.le_refl _)) _ _
      have a6 : hp w2 w1.heap.size = some (.cells #[.int .i64 rg.nm.1, .int .i64 rg.nm.2, .int .i64 rg.cls, .int .i64 rg.off, cv, wv, ov] 144) := by rw [← hw2]; exact bv (by simp) _ _
      clear hw2
      have c02 := hc.trans c2
      have ln : ldL (some (Obj.cells #[.int .i64 rg.nm.1, .int .i64 rg.nm.2, .int .i64 rg.cls, .int .i64 rg.off, cv, wv, ov] 144)) (0 + 0) 2 = some [.int .i64 rg.nm.1, .int .i64 rg.nm.2] := rfl
      simp -implicitDefEqProofs only [fa_144_0, ld_141, a6, ln, Option.map_some, ad]
      refine (c_mIsLive (M.keep c02) rg.nm).mono ?_
      rintro _ w3 ⟨rfl, c3⟩
      have c03 := c02.trans c3
      have a63 := c3.at a6 (by simp)
      have next : (isLv m rg.nm && decide (x ∈ rg.chunks)) = false → P129_0 (.pointer (some ⟨g, 0, none⟩)) (.int .i64 x) (.slice (some ⟨b, 0, none⟩) m.rgs.length c) (.int .i64 m.rgs.length) (.int .i64 ((i : Int) + 1)) w3 fun v w' => v = .bool (takenV m x) ∧ Chg [] w w' := by
        intro hf
        have := ih (i + 1) w3 c03 (fun j r hj hr => by
          rcases Nat.lt_or_ge j i with h1 | h1
          · exact hn j r h1 hr
          · have : j = i := by omega
            subst this
            rw [hrg] at hr; cases hr; exact hf) (by omega)
        rw [Int.natCast_add i 1] at this
        exact this
      cases hlv : isLv m rg.nm with
      | false =>
        simp -implicitDefEqProofs only [ad, ax, am, aM, aN, aQ, aR, av, ak, aJ, aK, aS, aT, ay, ap, aU, aV, aX, aY, ae, ac, aj, ag, z1z, z2z, z3z, z4z, aH, af, aD, aB, aC, aA, aE, aG, z5z, z6z, ah, z7z, z8z, au, bG, bC (n := (i : Int) + 1) (by omega) (by omega)]
        exact next (by rw [hlv]; rfl)
      | true =>
        obtain ⟨A', c', hcv, hR⟩ := ints_sh ⟨_, hFc⟩
        have e4 : (#[Value.int .i64 rg.nm.1, .int .i64 rg.nm.2, .int .i64 rg.cls, .int .i64 rg.off, cv, wv, ov])[0 + 4]? = some (.slice A' rg.chunks.length c') := by rw [hcv]; rfl
        simp -implicitDefEqProofs only [ad, ax, am, aM, aN, aQ, aR, av, ak, aJ, aK, aS, aT, ay, ap, aU, aV, aX, aY, ae, ac, aj, ag, z1z, z2z, z3z, z4z, aH, af, aD, aB, aC, aA, aE, aG, z5z, z6z, ah, z7z, z8z, au, fa_144_3, ce, a63, e4]
        apply F112_ok
        simp -implicitDefEqProofs only [F112]
        have hR3 : RdI .i64 w3 A' rg.chunks := hR.keep (c2.trans c3).below
        have hcl : rg.chunks.length ≤ 1000000 := Nat.le_trans (Wm.rg rg (List.mem_of_getElem? hrg)).cl hK
        refine (c_iIndex (c := c') hR3 hcl x).step ?_
        have hge : decide (ixOf rg.chunks x ≥ 0) = decide (x ∈ rg.chunks) := ixOf_mem _ _
        simp -implicitDefEqProofs only [ad, ax, am, aM, aN, aQ, aR, av, ak, aJ, aK, aS, aT, ay, ap, aU, aV, aX, aY, ae, ac, aj, ag, z1z, z2z, z3z, z4z, aH, af, aD, aB, aC, aA, aE, aG, z5z, z6z, ah, z7z, z8z, au, aA]
        by_cases hm : x ∈ rg.chunks
        · rw [decide_eq_true hm] at hge
          have hge' := of_decide_eq_true hge
          simp -implicitDefEqProofs only [ad, ax, am, aM, aN, aQ, aR, av, ak, aJ, aK, aS, aT, ay, ap, aU, aV, aX, aY, ae, ac, aj, ag, z1z, z2z, z3z, z4z, aH, af, aD, aB, aC, aA, aE, aG, z5z, z6z, ah, z7z, z8z, au, hge', aA]
          refine ⟨?_, c03⟩
          have : takenV m x = true := by
            rw [takenV, List.any_eq_true]
            exact ⟨rg, List.mem_of_getElem? hrg, by rw [hlv, decide_eq_true hm]; rfl⟩
          rw [this]
        · rw [decide_eq_false hm] at hge
          have hge' := of_decide_eq_false hge
          simp -implicitDefEqProofs only [ad, ax, am, aM, aN, aQ, aR, av, ak, aJ, aK, aS, aT, ay, ap, aU, aV, aX, aY, ae, ac, aj, ag, z1z, z2z, z3z, z4z, aH, af, aD, aB, aC, aA, aE, aG, z5z, z6z, ah, z7z, z8z, au, hge', aA, bG, bC (n := (i : Int) + 1) (by omega) (by omega)]
          exact next (by rw [decide_eq_false hm]; simp)
  exact main m.rgs.length 0 w (Chg.refl _ _) (fun j r hj => by omega) (by omega)
end
end Go.Proofs.Ytgamnncehjcdiaa

namespace Go.Proofs.Ytgamnncehjcdiaa
open Go Ev Go.RowKit

section
variable {W w : World} {g g5 : Nat} {m : MdV} {F : Fp} {K : Nat} {r : RsV} {cls : Int} {p : NmV}
theorem MdI.notF (I : MdI W g m F) {x : Nat} (h : W.heap.size ≤ x) : ¬ F x := fun hx => by have := isAt.lt I (bY m) x hx; omega
theorem rs_0 (r : RsV) : (rsC r).toArray[0 + 0]? = some (.int .i64 r.1) := rfl
theorem rs_1 (r : RsV) : (rsC r).toArray[0 + 1 + 0]? = some (.int .i64 r.2.1.1) := rfl
theorem rs_3 (r : RsV) : (rsC r).toArray[0 + 1 + 2]? = some (.int .i64 r.2.1.2.2.1) := rfl
theorem rs_h (r : RsV) (e : TypeId) : ldL (some (Obj.cells (rsC r).toArray e)) (0 + 1) 5 = some (hnC r.2.1) := rfl
set_option maxHeartbeats 1000000 in
theorem l_creates0 (hc : Chg [] W w) (IW : MdI W g m F) (Wm : Wf m K) (hK : K + 1 ≤ 1000000) (n5 : W.heap.size ≤ g5) (h5 : hp w g5 = some (.cells (rsC r).toArray 53)) (r7 : r ≠ codeR 7) (hs : 0 ≤ r.2.1.1 ∧ r.2.1.1 < m.slots.length) (hp' : m.slots[r.2.1.1.toNat]? = some p) (p0 : p.1 = 0) :
    P101_0 (.pointer (some ⟨g, 0, none⟩)) (.int .i64 cls) (.pointer (some ⟨g5, 0, none⟩)) (.int .i64 (laterV p.2)) w fun v w' => v = .bool (createsV m cls r).1 ∧ ∃ F', MdI w' g (createsV m cls r).2 F' ∧ UpdP F F' W w' := by
  apply L101_0_ok
  have I := IW.keep hc
  have cv : createsV m cls r = if r = (0, (r.2.1.1, laterV p.2, 0, 0, 0), 0, 0) then
        (true, { m with slots := m.slots.set r.2.1.1.toNat (1, laterV p.2), rgs := m.rgs ++ [⟨(r.2.1.1, laterV p.2), cls, 0, [], [], []⟩] }) else (false, m) := by
    rw [createsV, if_neg r7, if_pos hs, hp']
    simp only [ne_eq, p0, not_true_eq_false, if_false]
  have hbe : be Try.prog .neq 53 (.tmp 54) (.tmp 60) (.agg (rsC r).toArray) (.agg #[.int .i64 0, .int .i64 r.2.1.1, .int .i64 (laterV p.2), .int .i64 0, .int .i64 0, .int .i64 0, .int .i64 0, .int .u64 0]) = some (.bool (!decide (r = (0, (r.2.1.1, laterV p.2, 0, 0, 0), 0, 0)))) := be_nrs r (0, (r.2.1.1, laterV p.2, 0, 0, 0), 0, 0)
  simp -implicitDefEqProofs only [L101_0, bV h5, ad, fa_53_1, bX, bj, h5, ah, rs_1, bd_51_0_1, bd_53_1, hbe]
  by_cases hr : r = (0, (r.2.1.1, laterV p.2, 0, 0, 0), 0, 0)
  · rw [if_pos hr] at cv
    rw [cv]
    have cd : Chg [] w w.drew := (Chg.refl _ _).drew
    obtain ⟨b1, c1, hl, hbg, hFb, ok, F1, h1, h2⟩ := (I.keep cd).slotSet2 (p' := (1, laterV p.2)) hp'
    have ia := ia_128 (b := b1) (p := 0) (n := m.slots.length) (c := c1) (j := .i64) (i := r.2.1.1) hs.1 hs.2
    rw [Nat.zero_add] at ia
    simp -implicitDefEqProofs only [decide_eq_true hr, ad, ax, am, aM, aN, aQ, aR, av, ak, aJ, aK, aS, aT, ay, ap, aU, aV, aX, aY, ae, ac, aj, ag, z1z, z2z, z3z, z4z, aH, af, aD, aB, aC, aA, aE, aG, z5z, z6z, ah, z7z, z8z, au, fa_132_2, ld_128, show ldC (hp w g) (0 + 7) = _ from hl, h5, rs_1, bd_150_0_1, ia]
    rw [st_slot (o := r.2.1.1.toNat * 2) rfl rfl rfl rfl ok]
    have k5 := h2.keep (show hp w.drew g5 = _ from h5) (IW.notF n5)
    generalize put w.drew b1 _ _ = w1 at *
    have cd1 : Chg [] w1 w1.drew := (Chg.refl _ _).drew
    have k5d : hp w1.drew g5 = some (.cells (rsC r).toArray 53) := k5.1
    have fin : ∀ w2, Chg [] w1 w2 → ∃ (v : Value) (Fk : Fp), ldC (hp w2 g) (0 + 8) = some v ∧ (∀ x, Fk x → F1 x) ∧
        ∀ {Q : Value → World → Prop}, (∀ x' w3, okC (hp w3 g) (0 + 8 + 1) = true → x'.cells = #[x'] → x'.oneCell' = true →
            (∃ F', MdI (put w3 g ((getC (hp w3 g)).setIfInBounds (0 + 8) x') (getE (hp w3 g))) g { m with slots := m.slots.set r.2.1.1.toNat (1, laterV p.2), rgs := m.rgs ++ [⟨(r.2.1.1, laterV p.2), cls, 0, [], [], []⟩] } F' ∧ UpdP F F' W (put w3 g ((getC (hp w3 g)).setIfInBounds (0 + 8) x') (getE (hp w3 g)))) → Q x' w3) →
          effv Try.prog (Instr.buildSlice 130 1 #[(0, .agg #[.int .i64 r.2.1.1, .int .i64 (laterV p.2), .int .i64 cls, .int .i64 0, .slice none 0 0, .slice none 0 0, .slice none 0 0])]) w2 fun y w3 => effv Try.prog (Builtin.append_ #[130, 130] 130 #[v, y]) w3 Q := by
      intro w2 c2
      obtain ⟨v, Fk, hsub, hld, hR, hput⟩ := (h1.keep c2).rgsPut
      refine ⟨v, Fk, hld, hsub, fun {Q} hQ => ?_⟩
      obtain ⟨xs, Fs, q1, q2, q3, q4⟩ := hR
      have hlen : ({ m with slots := m.slots.set r.2.1.1.toNat (1, laterV p.2) } : MdV).rgs.length = m.rgs.length := rfl
      rw [hlen] at q1
      have hrl := Wm.rl
      refine ps_130 (fun u hu => by simp only [List.mem_cons, List.not_mem_nil, or_false] at hu; rcases hu with rfl | rfl | rfl | rfl | rfl | rfl | rfl <;> rfl) q1 (by omega) (Nat.zero_le _) fun x' w3 ho hg hnb => ?_
      obtain ⟨F3, r1, r2⟩ := rgs_grown (nm := (r.2.1.1, laterV p.2)) (cls := cls) (L := m.rgs) ⟨xs, Fs, q1, q2, q3, q4⟩ q1 ho hg hnb
      obtain ⟨ok3, s1, s2, F4, t1, t2⟩ := hput w3 F3 x' _ r2 r1
      exact hQ x' w3 ok3 s1 s2 ⟨F4, t1, (h2.pre (hc.trans cd)).trans (t2.pre c2)⟩
    obtain ⟨v0, Fk0, hv0, hs0, _⟩ := fin w1 (Chg.refl _ _)
    have en : nmOf r.2.1 = (r.2.1.1, laterV p.2) := by
      have := congrArg (fun x : RsV => x.2.1.2.1) hr
      simp only at this
      rw [nmOf, this]
    constructor
    · simp -implicitDefEqProofs only [ad, ax, am, aM, aN, aQ, aR, av, ak, aJ, aK, aS, aT, ay, ap, aU, aV, aX, aY, ae, ac, aj, ag, z1z, z2z, z3z, z4z, aH, af, aD, aB, aC, aA, aE, aG, z5z, z6z, ah, z7z, z8z, au, fa_132_3, ld_130, hv0, fa_53_1, ld_51, k5.1, rs_h, Option.map_some]
      refine (c_mNameOf r.2.1 w1.drew).mono ?_
      rintro _ w2 ⟨rfl, c2⟩
      obtain ⟨v, Fk, hv, hsub, hf⟩ := fin w2 (cd1.trans c2)
      rw [bR (cd1.trans c2) hv0] at hv
      cases hv
      have en' : (nmC (r.2.1.1, r.2.1.2.1)).toArray = #[.int .i64 r.2.1.1, .int .i64 (laterV p.2)] := by
        have := congrArg (fun x : NmV => (nmC x).toArray) en
        exact this
      simp -implicitDefEqProofs only [ad, ax, am, aM, aN, aQ, aR, av, ak, aJ, aK, aS, aT, ay, ap, aU, aV, aX, aY, ae, ac, aj, ag, z1z, z2z, z3z, z4z, aH, af, aD, aB, aC, aA, aE, aG, z5z, z6z, ah, z7z, z8z, au, en', bd_144_0_1]
      refine hf fun x' w3 ok s1 s2 hx => ?_
      rw [st_130 (o := 0 + 8) s1 s2 ok]
      apply L101_1_ok
      exact ⟨rfl, hx⟩
    · simp -implicitDefEqProofs only [ad, ax, am, aM, aN, aQ, aR, av, ak, aJ, aK, aS, aT, ay, ap, aU, aV, aX, aY, ae, ac, aj, ag, z1z, z2z, z3z, z4z, aH, af, aD, aB, aC, aA, aE, aG, z5z, z6z, ah, z7z, z8z, au, fa_132_3, fa_53_1, ld_51, k5.1, rs_h, Option.map_some]
      refine (c_mNameOf r.2.1 w1.drew).mono ?_
      rintro _ w2 ⟨rfl, c2⟩
      obtain ⟨v, Fk, hv, hsub, hf⟩ := fin w2 (cd1.trans c2)
      have en' : (nmC (r.2.1.1, r.2.1.2.1)).toArray = #[.int .i64 r.2.1.1, .int .i64 (laterV p.2)] := by
        have := congrArg (fun x : NmV => (nmC x).toArray) en
        exact this
      simp -implicitDefEqProofs only [ad, ax, am, aM, aN, aQ, aR, av, ak, aJ, aK, aS, aT, ay, ap, aU, aV, aX, aY, ae, ac, aj, ag, z1z, z2z, z3z, z4z, aH, af, aD, aB, aC, aA, aE, aG, z5z, z6z, ah, z7z, z8z, au, en', bd_144_0_1, ld_130, hv]
      refine hf fun x' w3 ok s1 s2 hx => ?_
      rw [st_130 (o := 0 + 8) s1 s2 ok]
      apply L101_1_ok
      exact ⟨rfl, hx⟩
  · rw [if_neg hr] at cv
    simp -implicitDefEqProofs only [decide_eq_false hr, ad, ax, am, aM, aN, aQ, aR, av, ak, aJ, aK, aS, aT, ay, ap, aU, aV, aX, aY, ae, ac, aj, ag, z1z, z2z, z3z, z4z, aH, af, aD, aB, aC, aA, aE, aG, z5z, z6z, ah, z7z, z8z, au]
    rw [cv]
    exact ⟨rfl, F, I, UpdP.of0 hc⟩
set_option maxHeartbeats 1000000 in
theorem c_mCreates (I : MdI w g m F) (Wm : Wf m K) (hK : K + 1 ≤ 1000000) (cls : Int) (r : RsV) :
    CallR Try.prog 101 [.pointer (some ⟨g, 0, none⟩), .int .i64 cls, .agg (rsC r).toArray] w fun v w' => v = .bool (createsV m cls r).1 ∧ ∃ F', MdI w' g (createsV m cls r).2 F' ∧ UpdP F F' w w' := by
  apply F101_ok
  have h5 : hp (w.alloc (.cells (rsC r).toArray 53)) w.heap.size = some (.cells (rsC r).toArray 53) := by rw [bc, if_pos rfl]
  have c0 : Chg [] w (w.alloc (.cells (rsC r).toArray 53)) := (Chg.refl _ _).alloc _
  simp -implicitDefEqProofs only [F101, bE, bA]
  generalize w.alloc (.cells (rsC r).toArray 53) = w0 at *
  have hsz : w.heap.size ≤ w.heap.size := Nat.le_refl _
  generalize hg5 : w.heap.size = g5 at *
  have n5 : w.heap.size ≤ g5 := by omega
  obtain ⟨_, _, _, M⟩ := (I.keep c0).rd
  have hbe : be Try.prog .eql 53 (.tmp 9) (.tmp 10) (.agg (rsC r).toArray) (.agg #[.int .i64 7, .int .i64 0, .int .i64 0, .int .i64 0, .int .i64 0, .int .i64 0, .int .i64 0, .int .u64 0]) = some (.bool (decide (r = codeR 7))) := be_rs r (codeR 7)
  simp -implicitDefEqProofs only [bV h5, ad, bd_53_0, hbe]
  by_cases r7 : r = codeR 7
  · have cv : createsV m cls r = (m.loose || decide (spareN m.slots = 0), m) := by rw [createsV, if_pos r7]
    simp -implicitDefEqProofs only [decide_eq_true r7, ad, ax, am, aM, aN, aQ, aR, av, ak, aJ, aK, aS, aT, ay, ap, aU, aV, aX, aY, ae, ac, aj, ag, z1z, z2z, z3z, z4z, aH, af, aD, aB, aC, aA, aE, aG, z5z, z6z, ah, z7z, z8z, au, fa_132_1, ld_4, M.l]
    rw [cv]
    by_cases hlo : m.loose = true
    · simp -implicitDefEqProofs only [hlo, ad, ax, am, aM, aN, aQ, aR, av, ak, aJ, aK, aS, aT, ay, ap, aU, aV, aX, aY, ae, ac, aj, ag, z1z, z2z, z3z, z4z, aH, af, aD, aB, aC, aA, aE, aG, z5z, z6z, ah, z7z, z8z, au]
      exact ⟨by simp, F, I.keep c0, UpdP.of0 c0⟩
    · have hlf : m.loose = false := by simpa using hlo
      simp -implicitDefEqProofs only [hlf, ad, ax, am, aM, aN, aQ, aR, av, ak, aJ, aK, aS, aT, ay, ap, aU, aV, aX, aY, ae, ac, aj, ag, z1z, z2z, z3z, z4z, aH, af, aD, aB, aC, aA, aE, aG, z5z, z6z, ah, z7z, z8z, au]
      refine (c_mSpare M Wm.sl).mono ?_
      rintro _ w1 ⟨rfl, c1⟩
      simp -implicitDefEqProofs only [ad, ax, am, aM, aN, aQ, aR, av, ak, aJ, aK, aS, aT, ay, ap, aU, aV, aX, aY, ae, ac, aj, ag, z1z, z2z, z3z, z4z, aH, af, aD, aB, aC, aA, aE, aG, z5z, z6z, ah, z7z, z8z, au]
      refine ⟨?_, F, I.keep (c0.trans c1), UpdP.of0 (c0.trans c1)⟩
      by_cases hz : spareN m.slots = 0
      · rw [hz]; rfl
      · rw [eqf (show (spareN m.slots : Int) ≠ 0 by omega), decide_eq_false hz]; rfl
  · have cd : Chg [] w0 w0.drew := (Chg.refl _ _).drew
    have cvn : ¬ (0 ≤ r.2.1.1 ∧ r.2.1.1 < m.slots.length) → createsV m cls r = (false, m) := fun h => by rw [createsV, if_neg r7, if_neg h]
    have I1 := I.keep (c0.trans cd)
    have MD := M.keep cd
    simp -implicitDefEqProofs only [decide_eq_false r7, ad, ax, am, aM, aN, aQ, aR, av, ak, aJ, aK, aS, aT, ay, ap, aU, aV, aX, aY, ae, ac, aj, ag, z1z, z2z, z3z, z4z, aH, af, aD, aB, aC, aA, aE, aG, z5z, z6z, ah, z7z, z8z, au, fa_53_1, bX, bj, h5, rs_1]
    refine (c_mSlot MD r.2.1.1).step ?_
    by_cases hs : 0 ≤ r.2.1.1 ∧ r.2.1.1 < m.slots.length
    · obtain ⟨p, hp'⟩ : ∃ p, m.slots[r.2.1.1.toNat]? = some p := ⟨_, List.getElem?_eq_getElem (by omega)⟩
      obtain ⟨A, c, hsl, hR⟩ := slots_sh MD.sT
      obtain ⟨b, o, q1, q2, q3⟩ := slot_at (c := c) hR hp'
      have hcast : ((r.2.1.1.toNat : Nat) : Int) = r.2.1.1 := by omega
      rw [hcast] at q1
      have l7 := MD.sl
      rw [hsl] at l7
      have l7' : ldC (hp w0 g) (0 + 7) = some (.slice A m.slots.length c) := l7
      have q2' : ldC (hp w0 b) (o + 0) = some (.int .i64 p.1) := q2
      have q3' : ldC (hp w0 b) (o + 1) = some (.int .i64 p.2) := q3
      by_cases p0 : p.1 = 0
      · have pg := Wm.sg p (List.mem_of_getElem? hp')
        have e0 : (p.1 != 0) = false := by rw [p0]; rfl
        have fin : ∀ x, laterV p.2 = x → P101_0 (.pointer (some ⟨g, 0, none⟩)) (.int .i64 cls) (.pointer (some ⟨g5, 0, none⟩)) (.int .i64 x) w0.drew.drew fun v w' => v = .bool (createsV m cls r).1 ∧ ∃ F', MdI w' g (createsV m cls r).2 F' ∧ UpdP F F' w w' := by
          rintro x rfl
          exact l_creates0 (c0.drew.drew) I Wm hK n5 (show hp w0.drew.drew g5 = _ from h5) r7 hs hp' p0
        by_cases hlt : p.2 < 4294967295
        · have f := fin (p.2 + 1) (by rw [laterV, if_pos hlt])
          simp -implicitDefEqProofs only [ad, ax, am, aM, aN, aQ, aR, av, ak, aJ, aK, aS, aT, ay, ap, aU, aV, aX, aY, ae, ac, aj, ag, z1z, z2z, z3z, z4z, aH, af, aD, aB, aC, aA, aE, aG, z5z, z6z, ah, z7z, z8z, au, hs, and_self, z1z, fa_132_2, ld_128, l7', fa_53_1, bX, bj, h5, rs_1, q1, fa_150_0, fa_150_1, q2', q3', e0, hlt, bG, bC (n := p.2 + 1) (by omega) (by omega)]
          exact f
        · have f := fin 0 (by rw [laterV, if_neg hlt])
          simp -implicitDefEqProofs only [ad, ax, am, aM, aN, aQ, aR, av, ak, aJ, aK, aS, aT, ay, ap, aU, aV, aX, aY, ae, ac, aj, ag, z1z, z2z, z3z, z4z, aH, af, aD, aB, aC, aA, aE, aG, z5z, z6z, ah, z7z, z8z, au, hs, and_self, z1z, fa_132_2, ld_128, l7', fa_53_1, bX, bj, h5, rs_1, q1, fa_150_0, fa_150_1, q2', q3', e0, hlt]
          exact f
      · have e0 : (p.1 != 0) = true := bne_iff_ne.2 p0
        have cv : createsV m cls r = (false, m) := by
          rw [createsV, if_neg r7, if_pos hs, hp']
          simp only [ne_eq, p0, not_false_eq_true, if_true]
        simp -implicitDefEqProofs only [ad, ax, am, aM, aN, aQ, aR, av, ak, aJ, aK, aS, aT, ay, ap, aU, aV, aX, aY, ae, ac, aj, ag, z1z, z2z, z3z, z4z, aH, af, aD, aB, aC, aA, aE, aG, z5z, z6z, ah, z7z, z8z, au, hs, and_self, z1z, fa_132_2, ld_128, l7', fa_53_1, bX, bj, h5, rs_1, q1, fa_150_0, q2', e0]
        rw [cv]
        exact ⟨by first | rfl | trivial, F, I1, UpdP.of0 (c0.trans cd)⟩
    · simp -implicitDefEqProofs only [ad, ax, am, aM, aN, aQ, aR, av, ak, aJ, aK, aS, aT, ay, ap, aU, aV, aX, aY, ae, ac, aj, ag, z1z, z2z, z3z, z4z, aH, af, aD, aB, aC, aA, aE, aG, z5z, z6z, ah, z7z, z8z, au, hs, z2z]
      rw [cvn hs]
      exact ⟨by first | rfl | trivial, F, I1, UpdP.of0 (c0.trans cd)⟩
end
end Go.Proofs.Ytgamnncehjcdiaa

namespace Go.Proofs.Ytgamnncehjcdiaa
open Go Ev Go.RowKit

section
variable {W w : World} {g g7 g11 b c i : Nat} {m : MdV} {F F0 : Fp} {K : Nat} {r : RsV} {x : RgV} {want : HnV} {need : Int}
theorem ld_hn {h : HnV} {g : Nat} {e : TypeId} (hb : hp w g = some (.cells (hnC h).toArray e)) : ldv Try.prog 51 (.pointer (some ⟨g, 0, none⟩)) w = some (.agg (hnC h).toArray) := bJ (t := 51) (c := (hnC h).toArray) ag_51 (show (Try.prog.info? 51).map (·.size) = some (hnC h).toArray.size from sz_51) hb
theorem set_rg {i : Nat} {x y : RgV} (m : MdV) : { ({ m with rgs := m.rgs.set i x } : MdV) with rgs := ({ m with rgs := m.rgs.set i x } : MdV).rgs.set i y } = { m with rgs := m.rgs.set i y } := by simp [List.set_set]
theorem at_set {i : Nat} {x y : RgV} (hi : m.rgs[i]? = some x) : ({ m with rgs := m.rgs.set i y } : MdV).rgs[i]? = some y := by
  show (m.rgs.set i y)[i]? = _
  rw [List.getElem?_set, if_pos rfl, if_pos (List.getElem?_eq_some_iff.1 hi).1]
theorem own_alloc_u64s (n : Nat) (hn : n ≤ maxLen) : wordT (List.replicate n 0) (w.alloc (.cells (u64s (List.replicate n 0)).toArray 38)) (fun b => b = w.heap.size) (.slice (some ⟨w.heap.size, 0, none⟩) n n) := by
  have h : (w.alloc (.cells (u64s (List.replicate n 0)).toArray 38)).ownsRow 0 38 1 (.slice (some ⟨w.heap.size, 0, none⟩) n n) n (u64s (List.replicate n 0)) :=
    ⟨by simp [u64s], .inr ⟨w.heap.size, n, _, rfl, Nat.zero_le _, heap_alloc_new w _, Nat.le_refl _, hn, by simp [u64s], by simp [u64s]⟩⟩
  have h2 := own_flat h
  have e : (fun b => (Value.slice (some ⟨w.heap.size, 0, none⟩) n n).ownBlock = some b) = (fun b => b = w.heap.size) := by
    funext b
    simp [Value.ownBlock, eq_comm]
  rw [e] at h2
  rw [wordT, List.length_replicate]
  exact h2
set_option maxHeartbeats 1000000 in
theorem l_gives1 (U : UpdP F0 F W w) (I : MdI w g m F) (hb : ldC (hp w g) (0 + 8) = some (.slice (some ⟨b, 0, none⟩) m.rgs.length c)) (hi : m.rgs[i]? = some x) (hol : x.objs.length ≤ 1000000) (h11 : hp w g11 = some (.cells (hnC want).toArray 51)) :
    P102_1 (.pointer (some ⟨b, i * 7, none⟩)) (.pointer (some ⟨g11, 0, none⟩)) w fun v w' => v = .bool true ∧ ∃ F', MdI w' g { m with rgs := m.rgs.set i { x with objs := x.objs ++ [want] } } F' ∧ UpdP F0 F' W w' := by
  apply L102_1_ok
  have cd : Chg [] w w.drew := (Chg.refl _ _).drew
  obtain ⟨v, Fk, hsub, hFb, hnb, hld, hv, hput⟩ := (I.keep cd).rgPut (hb := bR cd hb) hi (k := 6) (by omega) (P := objsT x.objs) rfl
  have h11d : hp w.drew g11 = some (.cells (hnC want).toArray 51) := h11
  simp -implicitDefEqProofs only [L102_1, ad, ax, am, aM, aN, aQ, aR, av, ak, aJ, aK, aS, aT, ay, ap, aU, aV, aX, aY, ae, ac, aj, ag, z1z, z2z, z3z, z4z, aH, af, aD, aB, aC, aA, aE, aG, z5z, z6z, ah, z7z, z8z, au, fa_144_5, ld_90, show ldC (hp w b) (i * 7 + 6) = _ from hld, ld_hn h11d]
  obtain ⟨hown, _⟩ := flat_own hv
  refine ps_90 (fun u hu => by simp only [List.mem_cons, List.not_mem_nil, or_false] at hu; rcases hu with rfl | rfl | rfl | rfl | rfl <;> rfl) hown (by omega) (Nat.zero_le _) fun x' w2 ho hg hnb => ?_
  obtain ⟨F2, hr2, hu2⟩ := flat_grown (vs := hnC want) hv ho hg hnb
  have hr2' : objsT (x.objs ++ [want]) w2 F2 x' := by
    rw [objsT, List.length_append]
    have e : (x.objs ++ [want]).flatMap hnC = x.objs.flatMap hnC ++ hnC want := by simp
    rw [e]; exact hr2
  obtain ⟨ok, s1, s2, _, F3, t1, t2⟩ := hput w2 F2 (objsT (x.objs ++ [want])) x' { x with objs := x.objs ++ [want] } hu2 (cm _) hr2' rfl
  rw [st_90 (o := i * 7 + 6) s1 s2 ok]
  exact ⟨by first | rfl | trivial, F3, t1, U.trans (t2.pre cd)⟩
set_option maxHeartbeats 2000000 in
theorem l_gives0 (U : UpdP F0 F W w) (I : MdI w g m F) (Wm : Wf m K) (hK : K + 1 ≤ 1000000) (hb : ldC (hp w g) (0 + 8) = some (.slice (some ⟨b, 0, none⟩) m.rgs.length c)) (hi : m.rgs[i]? = some x) (hol : x.objs.length ≤ 1000000)
    (h7 : hp w g7 = some (.cells (rsC r).toArray 53)) (h11 : hp w g11 = some (.cells (hnC want).toArray 51)) (n11 : ¬ F g11) :
    P102_0 (.pointer (some ⟨g, 0, none⟩)) (.pointer (some ⟨g7, 0, none⟩)) (.pointer (some ⟨b, i * 7, none⟩)) (.int .i64 need) (.pointer (some ⟨g11, 0, none⟩)) (.bool (rfitsV x m.c.2.2.1 need)) w fun v w' =>
      v = .bool (if r = (0, want, 0, 0) then true else false) ∧ ∃ F', MdI w' g (if r = (0, want, 0, 0) then { m with rgs := m.rgs.set i (growV m.c.2.2.1 need x want) } else m) F' ∧ UpdP F0 F' W w' := by
  apply L102_0_ok
  have hbe : be Try.prog .neq 53 (.tmp 74) (.tmp 76) (.agg (rsC r).toArray) (.agg (rsC (0, want, 0, 0)).toArray) = some (.bool (!decide (r = (0, want, 0, 0)))) := be_nrs r (0, want, 0, 0)
  have hbd : pureRun Try.prog (Instr.build 53 #[(1, .agg (hnC want).toArray)]) = some (.agg (rsC (0, want, 0, 0)).toArray) := bd_53_1
  have W1 := Wm.w1
  have W2 := Wm.w2
  have R := Wm.rg x (List.mem_of_getElem? hi)
  simp -implicitDefEqProofs only [L102_0, bV h7, ld_hn h11, hbd, hbe, ad]
  by_cases hr : r = (0, want, 0, 0)
  · rw [if_pos hr, if_pos hr]
    cases hf : rfitsV x m.c.2.2.1 need with
    | true =>
      obtain ⟨f1, f2, f3, f4⟩ := fits_need hf
      obtain ⟨v, Fk, hsub, hFb, hnb, hld, hv, hput⟩ := I.rgPut (hb := hb) hi (k := 3) (by omega) (P := iT x.off) rfl
      rw [hv.1] at hld
      obtain ⟨ok, s1, s2, hb1, F1, t1, t2⟩ := hput w none' (iT (x.off + need)) (.int .i64 (x.off + need)) { x with off := x.off + need } (UpdP.none hv.2 w) (good_int _ _) ⟨rfl, fun _ h => h⟩ rfl
      simp -implicitDefEqProofs only [decide_eq_true hr, ad, ax, am, aM, aN, aQ, aR, av, ak, aJ, aK, aS, aT, ay, ap, aU, aV, aX, aY, ae, ac, aj, ag, z1z, z2z, z3z, z4z, aH, af, aD, aB, aC, aA, aE, aG, z5z, z6z, ah, z7z, z8z, au, fa_144_2, bj, hld, bG, bC (n := x.off + need) (by omega) (by omega)]
      rw [st_3 (o := i * 7 + 3) s1 s2 ok]
      have k11 := t2.keep h11 n11
      have hln : ({ m with rgs := m.rgs.set i { x with off := x.off + need } } : MdV).rgs.length = m.rgs.length := by simp
      have := l_gives1 (U.trans t2) t1 (hb := by rw [hln]; exact hb1) (at_set hi) hol k11.1
      rw [set_rg] at this
      have eg : growV m.c.2.2.1 need x want = { x with off := x.off + need, objs := x.objs ++ [want] } := by rw [growV, hf]; rfl
      rw [eg]
      exact this
    | false =>
      have cd : Chg [] w w.drew := (Chg.refl _ _).drew
      obtain ⟨v, Fk, hsub, hFb, hnb, hld, hv, hput⟩ := (I.keep cd).rgPut (hb := bR cd hb) hi (k := 4) (by omega) (P := intsT x.chunks) rfl
      have h11d : hp w.drew g11 = some (.cells (hnC want).toArray 51) := h11
      have e2 : (hnC want).toArray[0 + 2]? = some (.int .i64 want.2.2.1) := rfl
      simp -implicitDefEqProofs only [decide_eq_true hr, ad, ax, am, aM, aN, aQ, aR, av, ak, aJ, aK, aS, aT, ay, ap, aU, aV, aX, aY, ae, ac, aj, ag, z1z, z2z, z3z, z4z, aH, af, aD, aB, aC, aA, aE, aG, z5z, z6z, ah, z7z, z8z, au, fa_144_3, cj, ce, bj, show ldC (hp w b) (i * 7 + 4) = _ from hld, h11, e2]
      obtain ⟨hown, _⟩ := flat_own hv
      have hcl := R.cl
      refine ps_23 (fun u hu => by simp only [List.mem_cons, List.not_mem_nil, or_false] at hu; rcases hu with rfl; rfl) hown (by omega) (Nat.zero_le _) fun x1 w2 ho hg hnb => ?_
      obtain ⟨F2, hr2, hu2⟩ := flat_grown (vs := [Value.int .i64 want.2.2.1]) hv ho hg hnb
      have hr2' : intsT (x.chunks ++ [want.2.2.1]) w2 F2 x1 := by
        rw [intsT, List.length_append]
        have e : ints (x.chunks ++ [want.2.2.1]) = ints x.chunks ++ [Value.int .i64 want.2.2.1] := by simp [ints]
        rw [e]; exact hr2
      obtain ⟨ok, s1, s2, hb1, F3, t1, t2⟩ := hput w2 F2 (intsT (x.chunks ++ [want.2.2.1])) x1 { x with chunks := x.chunks ++ [want.2.2.1] } hu2 (good_intsT _) hr2' rfl
      rw [st_23 (o := i * 7 + 4) s1 s2 ok]
      have k11 := t2.keep h11d n11
      have U1 := U.trans (t2.pre cd)
      generalize put w2 b _ _ = w3 at *
      generalize hx1 : ({ x with chunks := x.chunks ++ [want.2.2.1] } : RgV) = y1 at *
      have hi1 := at_set (m := m) (y := y1) hi
      have hln1 : ({ m with rgs := m.rgs.set i y1 } : MdV).rgs.length = m.rgs.length := by simp
      generalize hm1 : ({ m with rgs := m.rgs.set i y1 } : MdV) = m1 at *
      have hc1 : m1.c = m.c := by rw [← hm1]
      have cd3 : Chg [] w3 w3.drew := (Chg.refl _ _).drew
      obtain ⟨v5, Fk5, hsub5, _, _, hld5, hv5, hput5⟩ := (t1.keep cd3).rgPut (hb := bR cd3 hb1) hi1 (k := 5) (by omega) (P := wordsT y1.words) rfl
      obtain ⟨_, _, _, M3⟩ := t1.rd
      have hw2 : ldC (hp w3 g) (0 + 0 + 2) = some (.int .i64 ((m.c.2.2.1.toNat : Nat) : Int)) := by
        have := M3.c 2 (by omega)
        rw [hc1] at this
        rw [show ((m.c.2.2.1.toNat : Nat) : Int) = m.c.2.2.1 by omega]
        exact this
      obtain ⟨iu, hiu, hzu, hsu, hbu⟩ := inf_38
      generalize hn : m.c.2.2.1.toNat = n at *
      have hn' : (n : Int) = m.c.2.2.1 := by omega
      simp -implicitDefEqProofs only [ad, ax, am, aM, aN, aQ, aR, av, ak, aJ, aK, aS, aT, ay, ap, aU, aV, aX, aY, ae, ac, aj, ag, z1z, z2z, z3z, z4z, aH, af, aD, aB, aC, aA, aE, aG, z5z, z6z, ah, z7z, z8z, au, fa_144_4, fa_132_0, fa_74_2, ld_142, bj, show ldC (hp w3 b) (i * 7 + 5) = _ from hld5, hw2, effv_make (P := Try.prog) (kl := .i64) (kc := .i64) (n := n) Try.underlying177 hiu hzu (by rw [hsu]; omega) (by rw [hbu]; omega) (by omega)]
      have hmc : madeCells (Value.int .u64 0).cells (n * iu.size) = (u64s (List.replicate n 0)).toArray := by
        apply Array.toList_inj.1
        rw [hsu, Nat.mul_one]
        have := toList_madeCells_one (Value.int .u64 0) n
        rw [u64s, List.map_replicate]
        exact this
      rw [hmc]
      have n3 : w3.drew.heap.size = w3.heap.size := rfl
      have ob := own_alloc_u64s (w := w3.drew) n (by unfold maxLen; omega)
      generalize hwA : w3.drew.alloc (.cells (u64s (List.replicate n 0)).toArray 38) = wA at *
      have cA : Chg [] w3.drew wA := by rw [← hwA]; exact (Chg.refl _ _).alloc _
      have sA : wA.heap.size = w3.heap.size + 1 := by rw [← hwA, bf, n3]
      have hv5A := (good_words y1.words).frame hv5 (ChgP.of0 cA none') (fun _ _ h => h)
      obtain ⟨xs, Fs, q1, q2, q3, q4⟩ := hv5A
      have hyw : y1.words.length ≤ 1000000 := by rw [← hx1]; have := R.wl; simp only; omega
      refine ps_142 (fun u hu => by simp only [List.mem_cons, List.not_mem_nil, or_false] at hu; rcases hu with rfl; rfl) q1 (by omega) (Nat.zero_le _) fun x2 w4 ho2 hg2 hnb2 => ?_
      have hy : Parts wA [wordT (List.replicate n 0)] [.slice (some ⟨w3.drew.heap.size, 0, none⟩) n n] (fun _ => fun b => b = w3.drew.heap.size) := ⟨rfl, fun k P v hP hv => by
        have hk := (List.getElem?_eq_some_iff.1 hP).1
        have : k = 0 := by simp at hk; omega
        subst this
        cases hP; cases hv
        exact ob, fun j k hj hk hjk => by simp at hj hk; omega⟩
      have hF5 : ∀ k, Fk5 k → k < w3.heap.size := fun k hk => isAt.lt (t1.keep cd3) (bY m1) k (hsub5 k hk)
      obtain ⟨F5, g1, g2, _⟩ := isRow.grow (G := fun b => b = w3.drew.heap.size) (m := 1) ⟨xs, Fs, q1, q2, q3, q4⟩ (fun P hP => by obtain ⟨l, _, rfl⟩ := List.mem_map.1 hP; exact good_word l) (fun P hP => by rw [List.mem_singleton.1 hP]; exact good_word _) hy
        (fun b => ⟨fun h => ⟨0, by simp, h⟩, fun ⟨_, _, h⟩ => h⟩) (fun k hk hk2 => by have := hF5 k hk; omega) (fun xs' h' => by rw [own_unique h' q1]; exact ho2) hg2 hnb2
      have hu5 : UpdP Fk5 F5 w3.drew w4 := by
        refine ⟨⟨g2.chg.os.trans cA.os, g2.chg.tape.trans cA.tape, g2.chg.output.trans cA.output, by have := g2.chg.size; omega, fun k hk hn => ?_⟩, fun k hk => ?_⟩
        · rw [g2.chg.block k (by omega) (fun h => by rcases h with h | h; exact hn h; omega)]
          exact cA.block k hk (by simp)
        · rcases g2.sub k hk with h | h
          · rcases h with h | h
            · exact .inl h
            · exact .inr (by omega)
          · exact .inr (by omega)
      have g1' : wordsT (y1.words ++ [List.replicate n 0]) w4 F5 x2 := by
        rw [wordsT, List.length_append, List.map_append]; exact g1
      obtain ⟨ok5, s51, s52, hb5, F6, t51, t52⟩ := hput5 w4 F5 (wordsT (y1.words ++ [List.replicate n 0])) x2 { y1 with words := y1.words ++ [List.replicate n 0] } hu5 (good_words _) g1' rfl
      rw [st_142 (o := i * 7 + 5) s51 s52 ok5]
      have k113 := t52.keep (show hp w3.drew g11 = _ from k11.1) k11.2
      have U2 := U1.trans (t52.pre cd3)
      have em2 : ({ m1 with rgs := m1.rgs.set i { y1 with words := y1.words ++ [List.replicate n 0] } } : MdV) = { m with rgs := m.rgs.set i { y1 with words := y1.words ++ [List.replicate n 0] } } := by rw [← hm1]; exact set_rg m
      rw [em2] at t51
      generalize put w4 b _ _ = w5 at *
      generalize hy2 : ({ y1 with words := y1.words ++ [List.replicate n 0] } : RgV) = y2 at *
      have hi2 := at_set (m := m) (y := y2) hi
      obtain ⟨_, _, _, M5⟩ := t51.rd
      have hw5 : ldC (hp w5 g) (0 + 0 + 2) = some (.int .i64 m.c.2.2.1) := M5.c 2 (by omega)
      simp -implicitDefEqProofs only [ad, ax, am, aM, aN, aQ, aR, av, ak, aJ, aK, aS, aT, ay, ap, aU, aV, aX, aY, ae, ac, aj, ag, z1z, z2z, z3z, z4z, aH, af, aD, aB, aC, aA, aE, aG, z5z, z6z, ah, z7z, z8z, au, fa_132_0, fa_74_2, bj, hw5]
      refine (c_sAfter m.c.2.2.1 need w5).step ?_
      obtain ⟨v3, Fk3, hsub3, _, _, hld3, hv3, hput3⟩ := t51.rgPut (hb := hb5) hi2 (k := 3) (by omega) (P := iT y2.off) rfl
      obtain ⟨ok3, s31, s32, hb3, F7, t31, t32⟩ := hput3 w5 none' (iT (afterV m.c.2.2.1 need)) (.int .i64 (afterV m.c.2.2.1 need)) { y2 with off := afterV m.c.2.2.1 need } (UpdP.none hv3.2 w5) (good_int _ _) ⟨rfl, fun _ h => h⟩ rfl
      simp -implicitDefEqProofs only [ad, ax, am, aM, aN, aQ, aR, av, ak, aJ, aK, aS, aT, ay, ap, aU, aV, aX, aY, ae, ac, aj, ag, z1z, z2z, z3z, z4z, aH, af, aD, aB, aC, aA, aE, aG, z5z, z6z, ah, z7z, z8z, au, fa_144_2]
      rw [st_3 (o := i * 7 + 3) s31 s32 ok3]
      have k114 := t32.keep k113.1 k113.2
      rw [set_rg] at t31
      have hi3 := at_set (m := m) (y := { y2 with off := afterV m.c.2.2.1 need }) hi
      have hol3 : ({ y2 with off := afterV m.c.2.2.1 need } : RgV).objs.length ≤ 1000000 := by rw [← hy2, ← hx1]; exact hol
      have := l_gives1 (U2.trans t32) t31 (hb := by
        have hln : ({ m with rgs := m.rgs.set i { y2 with off := afterV m.c.2.2.1 need } } : MdV).rgs.length = m.rgs.length := by simp
        rw [hln]; exact hb3) hi3 hol3 k114.1
      rw [set_rg] at this
      have eg : growV m.c.2.2.1 need x want = { ({ y2 with off := afterV m.c.2.2.1 need } : RgV) with objs := ({ y2 with off := afterV m.c.2.2.1 need } : RgV).objs ++ [want] } := by
        rw [growV, hf, ← hy2, ← hx1, hn]; rfl
      rw [eg]
      exact this
  · rw [if_neg hr, if_neg hr]
    simp -implicitDefEqProofs only [decide_eq_false hr, ad, ax, am, aM, aN, aQ, aR, av, ak, aJ, aK, aS, aT, ay, ap, aU, aV, aX, aY, ae, ac, aj, ag, z1z, z2z, z3z, z4z, aH, af, aD, aB, aC, aA, aE, aG, z5z, z6z, ah, z7z, z8z, au]
    exact ⟨by first | rfl | trivial, F, I, U⟩
end
end Go.Proofs.Ytgamnncehjcdiaa

namespace Go.Proofs.Ytgamnncehjcdiaa
open Go Ev Go.RowKit

section
variable {w : World} {g : Nat} {m : MdV} {F : Fp} {K : Nat}
set_option maxHeartbeats 2000000 in
theorem c_mGives (I : MdI w g m F) (Wm : Wf m K) (hK : K + 1 ≤ 1000000) (n : Int) (h : HnV) (r : RsV) {i : Nat} (hf : findR m.rgs (nmOf h) = some i) :
    CallR Try.prog 102 [.pointer (some ⟨g, 0, none⟩), .int .i64 n, .agg (hnC h).toArray, .agg (rsC r).toArray] w fun v w' => v = .bool (givesV m n h r).1 ∧ ∃ F', MdI w' g (givesV m n h r).2 F' ∧ UpdP F F' w w' := by
  apply F102_ok
  obtain ⟨x, hi, hnm⟩ := findR_at hf
  have R := Wm.rg x (List.mem_of_getElem? hi)
  have W1 := Wm.w1
  have W2 := Wm.w2
  have gv : givesV m n h r = if rfitsV x m.c.2.2.1 (roundV x.cls n) = false ∧ r = codeR 6 then (true, m)
      else if rfitsV x m.c.2.2.1 (roundV x.cls n) = false ∧ (r.2.1.2.2.1 < 0 ∨ m.c.2.1 ≤ r.2.1.2.2.1 ∨ takenV m r.2.1.2.2.1 = true) then (false, m)
      else if r = (0, wantV m.c.2.2.1 (roundV x.cls n) n x h r.2.1.2.2.1, 0, 0) then (true, { m with rgs := m.rgs.set i (growV m.c.2.2.1 (roundV x.cls n) x (wantV m.c.2.2.1 (roundV x.cls n) n x h r.2.1.2.2.1)) })
      else (false, m) := by
    rw [givesV, hf]; simp only [hi]
  simp -implicitDefEqProofs only [F102, bE, bA, bf]
  generalize hw : (w.alloc (.cells (hnC h).toArray 51)).alloc _ = w1
  have c1 : Chg [] w w1 := by rw [← hw]; exact ((Chg.refl _ _).alloc _).alloc _
  have a6 : hp w1 w.heap.size = some (.cells (hnC h).toArray 51) := by rw [← hw, bc, bf, if_neg (by omega), bc, if_pos rfl]
  have a7 : hp w1 (w.heap.size + 1) = some (.cells (rsC r).toArray 53) := by rw [← hw, bc, bf, if_pos rfl]
  clear hw
  obtain ⟨_, _, _, M⟩ := I.rd
  simp -implicitDefEqProofs only [ld_hn a6, ad]
  refine (c_mNameOf h w1).mono ?_
  rintro _ w2 ⟨rfl, c2⟩
  have c02 := c1.trans c2
  refine (c_mRegion (M.keep c02) (h.1, h.2.1) (Nat.le_trans Wm.rl (by omega))).mono ?_
  rintro v w3 ⟨c3, hv⟩
  have c03 := c02.trans c3
  have hf' : findR m.rgs (h.1, h.2.1) = some i := hf
  rw [hf'] at hv
  rcases hv with ⟨hv, _⟩ | ⟨i', rg, b, c, hi', hrg, hrow, rfl⟩
  · cases hv
  cases hi'
  rw [hi] at hrg
  cases hrg
  have hb3 : ∀ w', Chg [] w w' → ldC (hp w' g) (0 + 8) = some (.slice (some ⟨b, 0, none⟩) m.rgs.length c) := fun w' k => by
    rw [← hrow]; exact (M.keep k).rl
  obtain ⟨G, hG⟩ := (M.keep c03).rT
  obtain ⟨b', c', hx, cv, wv, ov, R3⟩ := rg_at hG hi
  rw [hrow] at hx
  cases hx
  have k2 := c2.trans c3
  have f6 := k2.at a6 (by simp)
  have f7 := k2.at a7 (by simp)
  simp -implicitDefEqProofs only [ad, ax, am, aM, aN, aQ, aR, av, ak, aJ, aK, aS, aT, ay, ap, aU, aV, aX, aY, ae, ac, aj, ag, z1z, z2z, z3z, z4z, aH, af, aD, aB, aC, aA, aE, aG, z5z, z6z, ah, z7z, z8z, au, fa_144_1, bj, R3.c2]
  refine (c_sRound x.cls n w3).step ?_
  have e0 : (hnC h).toArray[0 + 0]? = some (.int .i64 h.1) := rfl
  have e1 : (hnC h).toArray[0 + 1]? = some (.int .i64 h.2.1) := rfl
  simp -implicitDefEqProofs only [ad, ax, am, aM, aN, aQ, aR, av, ak, aJ, aK, aS, aT, ay, ap, aU, aV, aX, aY, ae, ac, aj, ag, z1z, z2z, z3z, z4z, aH, af, aD, aB, aC, aA, aE, aG, z5z, z6z, ah, z7z, z8z, au, bX, fa_51_1, cj, fa_53_1, bj, f6, f7, e0, e1, rs_3, bd_51_0_1_2_4, al_51]
  rw [st_51 (by rfl) (by rfl) (by rw [bc, if_pos rfl]; rfl) (by rw [bc, if_pos rfl]; rfl), bc, if_pos rfl, bM]
  generalize hw4 : put (w3.alloc _) w3.heap.size _ _ = w4
  have c4 : Chg [] w3 w4 := by rw [← hw4]; exact ((Chg.refl _ _).alloc _).put (.inr (Nat.le_refl _)) _ _
  have a11 : hp w4 w3.heap.size = some (.cells (hnC (h.1, h.2.1, r.2.1.2.2.1, 0, n)).toArray 51) := by rw [← hw4]; exact bv (by simp) _ _
  clear hw4
  have c04 := c03.trans c4
  have s3 := c03.size
  have f74 := c4.at f7 (by simp)
  have hw4 : ∀ w', Chg [] w w' → ldC (hp w' g) (0 + 0 + 2) = some (.int .i64 m.c.2.2.1) := fun w' k => (M.keep k).c 2 (by omega)
  have hw1 : ∀ w', Chg [] w w' → ldC (hp w' g) (0 + 0 + 1) = some (.int .i64 m.c.2.1) := fun w' k => (M.keep k).c 1 (by omega)
  simp -implicitDefEqProofs only [ad, ax, am, aM, aN, aQ, aR, av, ak, aJ, aK, aS, aT, ay, ap, aU, aV, aX, aY, ae, ac, aj, ag, z1z, z2z, z3z, z4z, aH, af, aD, aB, aC, aA, aE, aG, z5z, z6z, ah, z7z, z8z, au, fa_132_0, fa_74_2, bj, hw4 _ c04]
  refine (c_mFits (R3.keep c4) m.c.2.2.1 (roundV x.cls n)).step ?_
  have nF : ∀ {y}, w.heap.size ≤ y → ¬ F y := fun hy => I.notF hy
  have hol : x.objs.length ≤ 1000000 := Nat.le_trans R.ol (by omega)
  have c34 : Chg [] w3 w4 := c4
  have tail : ∀ (want : HnV) w6, Chg [] w3 w6 → hp w6 w3.heap.size = some (.cells (hnC want).toArray 51) →
      P102_0 (.pointer (some ⟨g, 0, none⟩)) (.pointer (some ⟨w.heap.size + 1, 0, none⟩)) (.pointer (some ⟨b, i * 7, none⟩)) (.int .i64 (roundV x.cls n)) (.pointer (some ⟨w3.heap.size, 0, none⟩)) (.bool (rfitsV x m.c.2.2.1 (roundV x.cls n))) w6 fun v w' =>
        v = .bool (if r = (0, want, 0, 0) then true else false) ∧ ∃ F', MdI w' g (if r = (0, want, 0, 0) then { m with rgs := m.rgs.set i (growV m.c.2.2.1 (roundV x.cls n) x want) } else m) F' ∧ UpdP F F' w w' := by
    intro want w6 c6 h11
    have c06 := c03.trans c6
    exact l_gives0 (UpdP.of0 c06) (I.keep c06) Wm hK (hb3 _ c06) hi hol (c6.at f7 (by simp)) h11 (nF (by omega))
  cases hfit : rfitsV x m.c.2.2.1 (roundV x.cls n) with
  | true =>
    rw [hfit] at tail
    obtain ⟨f1, f2, f3, f4⟩ := fits_need hfit
    have ew : wantV m.c.2.2.1 (roundV x.cls n) n x h r.2.1.2.2.1 = (h.1, h.2.1, newV x.chunks, x.off, n) := by rw [wantV, hfit]; rfl
    rw [hfit, ew] at gv
    simp only [Bool.true_eq_false, false_and, if_false] at gv
    have tl : ∀ w6, Chg [] w3 w6 → hp w6 w3.heap.size = some (.cells (hnC (h.1, h.2.1, newV x.chunks, x.off, n)).toArray 51) →
        P102_0 (.pointer (some ⟨g, 0, none⟩)) (.pointer (some ⟨w.heap.size + 1, 0, none⟩)) (.pointer (some ⟨b, i * 7, none⟩)) (.int .i64 (roundV x.cls n)) (.pointer (some ⟨w3.heap.size, 0, none⟩)) (.bool true) w6 fun v w' => v = .bool (givesV m n h r).1 ∧ ∃ F', MdI w' g (givesV m n h r).2 F' ∧ UpdP F F' w w' := by
      intro w6 c6 h11
      have t := tail _ w6 c6 h11
      rw [gv]
      by_cases hr : r = (0, (h.1, h.2.1, newV x.chunks, x.off, n), 0, 0)
      · rw [if_pos hr, if_pos hr] at t; rw [if_pos hr]; exact t
      · rw [if_neg hr, if_neg hr] at t; rw [if_neg hr]; exact t
    have cd : Chg [] w4 w4.drew := (Chg.refl _ _).drew
    have R4 := R3.keep c4
    have cn := c_mNewest (R4.keep cd) (Nat.le_trans R.cl (by omega))
    have st2 : ∀ w5 L, hp w5 w3.heap.size = some (.cells (hnC (h.1, h.2.1, r.2.1.2.2.1, 0, n)).toArray 51) → effu Try.prog (Instr.storeAt 3 (.pointer (some ⟨w3.heap.size, 0 + 2, none⟩)) (.int .i64 (newV x.chunks))) w5 L = L (put w5 w3.heap.size (hnC (h.1, h.2.1, newV x.chunks, 0, n)).toArray 51) := by
      intro w5 L h5
      rw [st_3 (o := 0 + 2) rfl rfl (by rw [h5]; rfl), h5]; rfl
    have st3 : ∀ w5 L, hp w5 w3.heap.size = some (.cells (hnC (h.1, h.2.1, newV x.chunks, 0, n)).toArray 51) → effu Try.prog (Instr.storeAt 3 (.pointer (some ⟨w3.heap.size, 0 + 3, none⟩)) (.int .i64 x.off)) w5 L = L (put w5 w3.heap.size (hnC (h.1, h.2.1, newV x.chunks, x.off, n)).toArray 51) := by
      intro w5 L h5
      rw [st_3 (o := 0 + 3) rfl rfl (by rw [h5]; rfl), h5]; rfl
    simp -implicitDefEqProofs only [ad, ax, am, aM, aN, aQ, aR, av, ak, aJ, aK, aS, aT, ay, ap, aU, aV, aX, aY, ae, ac, aj, ag, z1z, z2z, z3z, z4z, aH, af, aD, aB, aC, aA, aE, aG, z5z, z6z, ah, z7z, z8z, au, fa_144_2, bj, show ldC (hp w4 b) (i * 7 + 3) = _ from R4.c3]
    repeat' (with_reducible apply And.intro)
    all_goals
      refine cn.mono ?_
      rintro _ w5 ⟨rfl, c5⟩
      have c35 := c34.trans (cd.trans c5)
      have h5 := c5.at (show hp w4.drew w3.heap.size = _ from a11) (by simp)
      have R5 := (R3.keep c35).c3
      have h6 : hp (put w5 w3.heap.size (hnC (h.1, h.2.1, newV x.chunks, 0, n)).toArray 51) w3.heap.size = _ := bv (bz h5) _ _
      have c36 : Chg [] w3 (put w5 w3.heap.size (hnC (h.1, h.2.1, newV x.chunks, 0, n)).toArray 51) := c35.put (.inr (Nat.le_refl _)) _ _
      have R6 := (R3.keep c36).c3
      simp -implicitDefEqProofs only [ad, ax, am, aM, aN, aQ, aR, av, ak, aJ, aK, aS, aT, ay, ap, aU, aV, aX, aY, ae, ac, aj, ag, z1z, z2z, z3z, z4z, aH, af, aD, aB, aC, aA, aE, aG, z5z, z6z, ah, z7z, z8z, au, fa_144_2, cj, fa_51_3, bj, R5]
      rw [st2 _ _ h5]
      simp -implicitDefEqProofs only [ad, ax, am, aM, aN, aQ, aR, av, ak, aJ, aK, aS, aT, ay, ap, aU, aV, aX, aY, ae, ac, aj, ag, z1z, z2z, z3z, z4z, aH, af, aD, aB, aC, aA, aE, aG, z5z, z6z, ah, z7z, z8z, au, fa_144_2, cj, fa_51_3, bj, R6, st3 _ _ h6]
      exact tl _ (c36.put (.inr (Nat.le_refl _)) _ _) (bv (bz h6) _ _)
  | false =>
    rw [hfit] at tail
    have ew : wantV m.c.2.2.1 (roundV x.cls n) n x h r.2.1.2.2.1 = (h.1, h.2.1, r.2.1.2.2.1, 0, n) := by rw [wantV, hfit]; rfl
    rw [hfit, ew] at gv
    simp only [true_and] at gv
    have hbe : be Try.prog .eql 53 (.tmp 51) (.tmp 52) (.agg (rsC r).toArray) (.agg #[.int .i64 6, .int .i64 0, .int .i64 0, .int .i64 0, .int .i64 0, .int .i64 0, .int .i64 0, .int .u64 0]) = some (.bool (decide (r = codeR 6))) := be_rs r (codeR 6)
    simp -implicitDefEqProofs only [ad, ax, am, aM, aN, aQ, aR, av, ak, aJ, aK, aS, aT, ay, ap, aU, aV, aX, aY, ae, ac, aj, ag, z1z, z2z, z3z, z4z, aH, af, aD, aB, aC, aA, aE, aG, z5z, z6z, ah, z7z, z8z, au, bV f74, bd_53_0, hbe]
    by_cases r6 : r = codeR 6
    · rw [if_pos r6] at gv
      simp -implicitDefEqProofs only [decide_eq_true r6, ad, ax, am, aM, aN, aQ, aR, av, ak, aJ, aK, aS, aT, ay, ap, aU, aV, aX, aY, ae, ac, aj, ag, z1z, z2z, z3z, z4z, aH, af, aD, aB, aC, aA, aE, aG, z5z, z6z, ah, z7z, z8z, au]
      rw [gv]
      exact ⟨by first | rfl | trivial, F, I.keep c04, UpdP.of0 c04⟩
    rw [if_neg r6] at gv
    have cd : Chg [] w4 w4.drew := (Chg.refl _ _).drew
    have e2 : (hnC (h.1, h.2.1, r.2.1.2.2.1, 0, n)).toArray[0 + 2]? = some (.int .i64 r.2.1.2.2.1) := rfl
    by_cases n0 : r.2.1.2.2.1 < 0
    · rw [if_pos (.inl n0)] at gv
      simp -implicitDefEqProofs only [decide_eq_false r6, ad, ax, am, aM, aN, aQ, aR, av, ak, aJ, aK, aS, aT, ay, ap, aU, aV, aX, aY, ae, ac, aj, ag, z1z, z2z, z3z, z4z, aH, af, aD, aB, aC, aA, aE, aG, z5z, z6z, ah, z7z, z8z, au, cj, bj, a11, e2, n0]
      rw [gv]
      exact ⟨by first | rfl | trivial, F, I.keep (c04.trans cd), UpdP.of0 (c04.trans cd)⟩
    by_cases n1 : m.c.2.1 ≤ r.2.1.2.2.1
    · rw [if_pos (.inr (.inl n1))] at gv
      simp -implicitDefEqProofs only [decide_eq_false r6, ad, ax, am, aM, aN, aQ, aR, av, ak, aJ, aK, aS, aT, ay, ap, aU, aV, aX, aY, ae, ac, aj, ag, z1z, z2z, z3z, z4z, aH, af, aD, aB, aC, aA, aE, aG, z5z, z6z, ah, z7z, z8z, au, cj, bj, a11, e2, n0, fa_132_0, fa_74_1, hw1 _ c04, aA, n1, ge_iff_le]
      rw [gv]
      exact ⟨by first | rfl | trivial, F, I.keep (c04.trans cd), UpdP.of0 (c04.trans cd)⟩
    simp -implicitDefEqProofs only [decide_eq_false r6, ad, ax, am, aM, aN, aQ, aR, av, ak, aJ, aK, aS, aT, ay, ap, aU, aV, aX, aY, ae, ac, aj, ag, z1z, z2z, z3z, z4z, aH, af, aD, aB, aC, aA, aE, aG, z5z, z6z, ah, z7z, z8z, au, cj, bj, a11, e2, n0, fa_132_0, fa_74_1, hw1 _ c04, aA, n1, ge_iff_le]
    refine (c_mTaken (M.keep (c04.trans cd)) Wm (by omega) r.2.1.2.2.1).mono ?_
    rintro _ w5 ⟨rfl, c5⟩
    have c35 := c34.trans (cd.trans c5)
    have h5 := c5.at (show hp w4.drew w3.heap.size = _ from a11) (by simp)
    cases ht : takenV m r.2.1.2.2.1 with
    | true =>
      rw [if_pos (.inr (.inr ht))] at gv
      simp -implicitDefEqProofs only [ad, ax, am, aM, aN, aQ, aR, av, ak, aJ, aK, aS, aT, ay, ap, aU, aV, aX, aY, ae, ac, aj, ag, z1z, z2z, z3z, z4z, aH, af, aD, aB, aC, aA, aE, aG, z5z, z6z, ah, z7z, z8z, au]
      rw [gv]
      exact ⟨by first | rfl | trivial, F, I.keep (c03.trans c35), UpdP.of0 (c03.trans c35)⟩
    | false =>
      rw [if_neg (by rintro (h1 | h1 | h1); exact n0 h1; exact n1 h1; rw [ht] at h1; cases h1)] at gv
      simp -implicitDefEqProofs only [ad, ax, am, aM, aN, aQ, aR, av, ak, aJ, aK, aS, aT, ay, ap, aU, aV, aX, aY, ae, ac, aj, ag, z1z, z2z, z3z, z4z, aH, af, aD, aB, aC, aA, aE, aG, z5z, z6z, ah, z7z, z8z, au]
      have t := tail _ w5 c35 h5
      rw [gv]
      by_cases hr : r = (0, (h.1, h.2.1, r.2.1.2.2.1, 0, n), 0, 0)
      · rw [if_pos hr, if_pos hr] at t; rw [if_pos hr]; exact t
      · rw [if_neg hr, if_neg hr] at t; rw [if_neg hr]; exact t
set_option maxHeartbeats 1000000 in
theorem c_mDo (I : MdI w g m F) (Wm : Wf m K) (hK : K + 1 ≤ 1000000) (n : Int) (o : OpV) (h : HnV) (r : RsV) :
    CallR Try.prog 57 [.pointer (some ⟨g, 0, none⟩), .int .i64 n, .agg (opC o).toArray, .agg (hnC h).toArray, .agg (rsC r).toArray] w fun v w' => v = .bool (doV m n o h r).1 ∧ ∃ F', MdI w' g (doV m n o h r).2 F' ∧ UpdP F F' w w' := by
  apply F57_ok
  simp -implicitDefEqProofs only [F57, bE, bA, bf]
  generalize hw : ((w.alloc (.cells (opC o).toArray 40)).alloc _).alloc _ = w1
  have c1 : Chg [] w w1 := by rw [← hw]; exact (((Chg.refl _ _).alloc _).alloc _).alloc _
  have a7 : hp w1 w.heap.size = some (.cells (opC o).toArray 40) := by rw [← hw, bc, bf, bf, if_neg (by omega), bc, bf, if_neg (by omega), bc, if_pos rfl]
  have a8 : hp w1 (w.heap.size + 1) = some (.cells (hnC h).toArray 51) := by rw [← hw, bc, bf, bf, if_neg (by omega), bc, bf, if_pos rfl]
  have a9 : hp w1 (w.heap.size + 1 + 1) = some (.cells (rsC r).toArray 53) := by rw [← hw, bc, bf, bf, if_pos rfl]
  clear hw
  have ldo : ∀ w', hp w' w.heap.size = some (.cells (opC o).toArray 40) → ldv Try.prog 40 (.pointer (some ⟨w.heap.size, 0, none⟩)) w' = some (.agg (opC o).toArray) := fun w' hw => bJ (t := 40) (c := (opC o).toArray) ag_40 (show (Try.prog.info? 40).map (·.size) = some (opC o).toArray.size from sz_40) hw
  obtain ⟨_, _, _, M⟩ := I.rd
  simp -implicitDefEqProofs only [ad, ldo _ a7]
  refine (c_mMay (M.keep c1) n o).mono ?_
  rintro _ w2 ⟨rfl, c2⟩
  have c02 := c1.trans c2
  have b7 := c2.at a7 (by simp)
  have b8 := c2.at a8 (by simp)
  cases hm : mayV m n o with
  | false =>
    simp -implicitDefEqProofs only [ad, ax, am, aM, aN, aQ, aR, av, ak, aJ, aK, aS, aT, ay, ap, aU, aV, aX, aY, ae, ac, aj, ag, z1z, z2z, z3z, z4z, aH, af, aD, aB, aC, aA, aE, aG, z5z, z6z, ah, z7z, z8z, au]
    have e : doV m n o h r = (false, m) := by rw [doV, if_pos hm]
    rw [e]
    exact ⟨by first | rfl | trivial, F, I.keep c02, UpdP.of0 c02⟩
  | true =>
    obtain ⟨d, hd⟩ := may_hd hm
    simp -implicitDefEqProofs only [ad, ax, am, aM, aN, aQ, aR, av, ak, aJ, aK, aS, aT, ay, ap, aU, aV, aX, aY, ae, ac, aj, ag, z1z, z2z, z3z, z4z, aH, af, aD, aB, aC, aA, aE, aG, z5z, z6z, ah, z7z, z8z, au, ldo _ b7, ld_hn b8]
    refine (c_mMust (I.keep c02) Wm (by omega) n o h).mono ?_
    rintro _ w3 ⟨rfl, c3⟩
    have c13 := c2.trans c3
    have c03 := c1.trans c13
    simp -implicitDefEqProofs only [tup0, tup1, ad, ax, am, aM, aN, aQ, aR, av, ak, aJ, aK, aS, aT, ay, ap, aU, aV, aX, aY, ae, ac, aj, ag, z1z, z2z, z3z, z4z, aH, af, aD, aB, aC, aA, aE, aG, z5z, z6z, ah, z7z, z8z, au, al_53]
    rw [st_res (c := (rsC noR).toArray) (e := 53) (by rw [bc, if_pos rfl]; rfl) rfl]
    generalize hw4 : put (w3.alloc _) w3.heap.size _ _ = w4
    have c4 : Chg [] w3 w4 := by rw [← hw4]; exact ((Chg.refl _ _).alloc _).put (.inr (Nat.le_refl _)) _ _
    have a11 : hp w4 w3.heap.size = some (.cells (rsC (mustV m n o h).1).toArray 53) := by rw [← hw4]; exact bv (by simp) _ _
    clear hw4
    have c14 := c13.trans c4
    have c04 := c1.trans c14
    have d7 := c14.at a7 (by simp)
    have d8 := c14.at a8 (by simp)
    have d9 := c14.at a9 (by simp)
    have hbe : be Try.prog .neq 53 (.tmp 27) (.tmp 28) (.agg (rsC r).toArray) (.agg (rsC (mustV m n o h).1).toArray) = some (.bool (!decide (r = (mustV m n o h).1))) := be_nrs r _
    cases hi : (mustV m n o h).2 with
    | true =>
      simp -implicitDefEqProofs only [ad, ax, am, aM, aN, aQ, aR, av, ak, aJ, aK, aS, aT, ay, ap, aU, aV, aX, aY, ae, ac, aj, ag, z1z, z2z, z3z, z4z, aH, af, aD, aB, aC, aA, aE, aG, z5z, z6z, ah, z7z, z8z, au, bV d9, bV a11, hbe]
      have ed : doV m n o h r = if r = (mustV m n o h).1 then (true, if r.1 = 0 then doesV m n o h else m) else (false, m) := by rw [doV, if_neg (by rw [hm]; simp), if_pos hi]
      by_cases hr : r = (mustV m n o h).1
      · rw [if_pos hr] at ed
        simp -implicitDefEqProofs only [decide_eq_true hr, ad, ax, am, aM, aN, aQ, aR, av, ak, aJ, aK, aS, aT, ay, ap, aU, aV, aX, aY, ae, ac, aj, ag, z1z, z2z, z3z, z4z, aH, af, aD, aB, aC, aA, aE, aG, z5z, z6z, ah, z7z, z8z, au, fa_53_0, bU, d9, rs_0]
        by_cases h0 : r.1 = 0
        · rw [if_pos h0] at ed
          have e0 : (r.1 == 0) = true := by rw [h0]; rfl
          have hrf := must_fine hm hd (by rw [← hr]; exact h0)
          simp -implicitDefEqProofs only [e0, ad, ax, am, aM, aN, aQ, aR, av, ak, aJ, aK, aS, aT, ay, ap, aU, aV, aX, aY, ae, ac, aj, ag, z1z, z2z, z3z, z4z, aH, af, aD, aB, aC, aA, aE, aG, z5z, z6z, ah, z7z, z8z, au, ldo _ d7, ld_hn d8]
          refine (c_mDoes (I.keep c04) Wm (by omega) hm hd hrf).mono ?_
          rintro _ w5 ⟨rfl, F5, i5, u5⟩
          apply L57_0_ok
          rw [ed]
          exact ⟨rfl, F5, i5, u5.pre c04⟩
        · rw [if_neg h0] at ed
          simp -implicitDefEqProofs only [eqf h0, ad, ax, am, aM, aN, aQ, aR, av, ak, aJ, aK, aS, aT, ay, ap, aU, aV, aX, aY, ae, ac, aj, ag, z1z, z2z, z3z, z4z, aH, af, aD, aB, aC, aA, aE, aG, z5z, z6z, ah, z7z, z8z, au]
          apply L57_0_ok
          rw [ed]
          exact ⟨rfl, F, I.keep c04, UpdP.of0 c04⟩
      · rw [if_neg hr] at ed
        simp -implicitDefEqProofs only [decide_eq_false hr, ad, ax, am, aM, aN, aQ, aR, av, ak, aJ, aK, aS, aT, ay, ap, aU, aV, aX, aY, ae, ac, aj, ag, z1z, z2z, z3z, z4z, aH, af, aD, aB, aC, aA, aE, aG, z5z, z6z, ah, z7z, z8z, au]
        rw [ed]
        exact ⟨by first | rfl | trivial, F, I.keep c04, UpdP.of0 c04⟩
    | false =>
      obtain ⟨hrf, hk⟩ := must_open hm hd hi
      have ed : doV m n o h r = if o.1 = 1 then createsV m o.2.2.2.1 r else givesV m o.2.2.2.1 h r := by rw [doV, if_neg (by rw [hm]; simp), if_neg (by rw [hi]; simp)]
      by_cases k1 : o.1 = 1
      · rw [if_pos k1] at ed
        have q : (o.1 == 1) = true := by rw [k1]; rfl
        simp -implicitDefEqProofs only [ad, ax, am, aM, aN, aQ, aR, av, ak, aJ, aK, aS, aT, ay, ap, aU, aV, aX, aY, ae, ac, aj, ag, z1z, z2z, z3z, z4z, aH, af, aD, aB, aC, aA, aE, aG, z5z, z6z, ah, z7z, z8z, au, bq, bT, bj, d7, bD, op_3, q, bV d9]
        refine (c_mCreates (I.keep c04) Wm hK o.2.2.2.1 r).mono ?_
        rintro _ w5 ⟨rfl, F5, i5, u5⟩
        rw [ed]
        exact ⟨rfl, F5, i5, u5.pre c04⟩
      · rw [if_neg k1] at ed
        obtain ⟨i, x, hf, _, _, _⟩ := region_ok hrf (by omega)
        simp -implicitDefEqProofs only [ad, ax, am, aM, aN, aQ, aR, av, ak, aJ, aK, aS, aT, ay, ap, aU, aV, aX, aY, ae, ac, aj, ag, z1z, z2z, z3z, z4z, aH, af, aD, aB, aC, aA, aE, aG, z5z, z6z, ah, z7z, z8z, au, bq, bT, bj, d7, bD, op_3, eqf k1, bV d9, ld_hn d8]
        refine (c_mGives (I.keep c04) Wm hK o.2.2.2.1 h r hf).mono ?_
        rintro _ w5 ⟨rfl, F5, i5, u5⟩
        rw [ed]
        exact ⟨rfl, F5, i5, u5.pre c04⟩
end
end Go.Proofs.Ytgamnncehjcdiaa

namespace Go.Proofs.Ytgamnncehjcdiaa
open Go Ev Go.RowKit

section
variable {w : World} {g : Nat} {m : MdV} {F : Fp} {K : Nat}
theorem c_layWithin (n a b : Int) (w : World) : CallR Try.prog 113 [.int .i64 n, .int .i64 a, .int .i64 b] w fun v w' => v = .bool (decide (a ≤ n ∧ n ≤ b)) ∧ w' = w := by
  apply F113_ok
  by_cases h1 : a ≤ n
  · simp -implicitDefEqProofs only [F113, ad, ax, am, aM, aN, aQ, aR, av, ak, aJ, aK, aS, aT, ay, ap, aU, aV, aX, aY, ae, ac, aj, ag, z1z, z2z, z3z, z4z, aH, af, aD, aB, aC, aA, aE, aG, z5z, z6z, ah, z7z, z8z, au, aA, aB, h1, ge_iff_le, true_and, and_self]
  · simp -implicitDefEqProofs only [F113, ad, ax, am, aM, aN, aQ, aR, av, ak, aJ, aK, aS, aT, ay, ap, aU, aV, aX, aY, ae, ac, aj, ag, z1z, z2z, z3z, z4z, aH, af, aD, aB, aC, aA, aE, aG, z5z, z6z, ah, z7z, z8z, au, aA, aB, h1, ge_iff_le, false_and, and_self]
def mayC (c : CfV) : Bool := decide (1 ≤ c.1 ∧ c.1 ≤ 64) && (decide (1 ≤ c.2.1 ∧ c.2.1 ≤ 4096) && (decide (8 ≤ c.2.2.1 ∧ c.2.2.1 ≤ 1024) && (decide (c.2.2.1 % 8 = 0) && (decide (1 ≤ c.2.2.2.1 ∧ c.2.2.2.1 ≤ 4096) && (decide (0 ≤ c.2.2.2.2.1 ∧ c.2.2.2.2.1 ≤ 64) && decide (1 ≤ c.2.2.2.2.2 ∧ c.2.2.2.2.2 ≤ 8))))))
theorem cf_0 (c : CfV) : (cfC c).toArray[0 + 0]? = some (.int .i64 c.1) := rfl
theorem cf_1 (c : CfV) : (cfC c).toArray[0 + 1]? = some (.int .i64 c.2.1) := rfl
theorem cf_2 (c : CfV) : (cfC c).toArray[0 + 2]? = some (.int .i64 c.2.2.1) := rfl
theorem cf_3 (c : CfV) : (cfC c).toArray[0 + 3]? = some (.int .i64 c.2.2.2.1) := rfl
theorem cf_4 (c : CfV) : (cfC c).toArray[0 + 4]? = some (.int .i64 c.2.2.2.2.1) := rfl
theorem cf_5 (c : CfV) : (cfC c).toArray[0 + 5]? = some (.int .i64 c.2.2.2.2.2) := rfl
theorem ld_cf {c : CfV} {g : Nat} {e : TypeId} (hb : hp w g = some (.cells (cfC c).toArray e)) : ldv Try.prog 74 (.pointer (some ⟨g, 0, none⟩)) w = some (.agg (cfC c).toArray) := bJ (t := 74) (c := (cfC c).toArray) ag_74 (show (Try.prog.info? 74).map (·.size) = some (cfC c).toArray.size from sz_74) hb
set_option maxHeartbeats 1000000 in
theorem c_layMay (c : CfV) (w : World) : CallR Try.prog 80 [.agg (cfC c).toArray] w fun v w' => v = .bool (mayC c) ∧ Chg [] w w' := by
  apply F80_ok
  have b1 : hp (w.alloc (.cells (cfC c).toArray 74)) w.heap.size = some (.cells (cfC c).toArray 74) := by rw [bc, if_pos rfl]
  have c0 : Chg [] w (w.alloc (.cells (cfC c).toArray 74)) := (Chg.refl _ _).alloc _
  simp -implicitDefEqProofs only [F80, bE, bA]
  generalize w.alloc (.cells (cfC c).toArray 74) = w0 at *
  simp -implicitDefEqProofs only [ad, ax, am, aM, aN, aQ, aR, av, ak, aJ, aK, aS, aT, ay, ap, aU, aV, aX, aY, ae, ac, aj, ag, z1z, z2z, z3z, z4z, aH, af, aD, aB, aC, aA, aE, aG, z5z, z6z, ah, z7z, z8z, au, fa_74_0, bj, b1, cf_0]
  refine (c_layWithin _ _ _ w0).step ?_
  by_cases h1 : 1 ≤ c.1 ∧ c.1 ≤ 64
  · simp -implicitDefEqProofs only [decide_eq_true h1, ad, ax, am, aM, aN, aQ, aR, av, ak, aJ, aK, aS, aT, ay, ap, aU, aV, aX, aY, ae, ac, aj, ag, z1z, z2z, z3z, z4z, aH, af, aD, aB, aC, aA, aE, aG, z5z, z6z, ah, z7z, z8z, au, fa_74_1, bj, b1, cf_1]
    refine (c_layWithin _ _ _ w0).step ?_
    by_cases h2 : 1 ≤ c.2.1 ∧ c.2.1 ≤ 4096
    · simp -implicitDefEqProofs only [decide_eq_true h2, ad, ax, am, aM, aN, aQ, aR, av, ak, aJ, aK, aS, aT, ay, ap, aU, aV, aX, aY, ae, ac, aj, ag, z1z, z2z, z3z, z4z, aH, af, aD, aB, aC, aA, aE, aG, z5z, z6z, ah, z7z, z8z, au, fa_74_2, bj, b1, cf_2]
      refine (c_layWithin _ _ _ w0).step ?_
      by_cases h3 : 8 ≤ c.2.2.1 ∧ c.2.2.1 ≤ 1024
      · have hm : c.2.2.1.tmod 8 = c.2.2.1 % 8 := Int.tmod_eq_emod_of_nonneg (by omega)
        by_cases h4 : c.2.2.1 % 8 = 0
        · have e4 : (c.2.2.1 % 8 == 0) = true := by rw [h4]; rfl
          simp -implicitDefEqProofs only [decide_eq_true h3, ad, ax, am, aM, aN, aQ, aR, av, ak, aJ, aK, aS, aT, ay, ap, aU, aV, aX, aY, ae, ac, aj, ag, z1z, z2z, z3z, z4z, aH, af, aD, aB, aC, aA, aE, aG, z5z, z6z, ah, z7z, z8z, au, fa_74_2, fa_74_3, bj, b1, cf_2, cf_3, bp_rem (show (8 : Int) ≠ 0 by decide), hm, e4]
          refine (c_layWithin _ _ _ w0).step ?_
          by_cases h5 : 1 ≤ c.2.2.2.1 ∧ c.2.2.2.1 ≤ 4096
          · simp -implicitDefEqProofs only [decide_eq_true h5, ad, ax, am, aM, aN, aQ, aR, av, ak, aJ, aK, aS, aT, ay, ap, aU, aV, aX, aY, ae, ac, aj, ag, z1z, z2z, z3z, z4z, aH, af, aD, aB, aC, aA, aE, aG, z5z, z6z, ah, z7z, z8z, au, fa_74_4, bj, b1, cf_4]
            refine (c_layWithin _ _ _ w0).step ?_
            by_cases h6 : 0 ≤ c.2.2.2.2.1 ∧ c.2.2.2.2.1 ≤ 64
            · simp -implicitDefEqProofs only [decide_eq_true h6, ad, ax, am, aM, aN, aQ, aR, av, ak, aJ, aK, aS, aT, ay, ap, aU, aV, aX, aY, ae, ac, aj, ag, z1z, z2z, z3z, z4z, aH, af, aD, aB, aC, aA, aE, aG, z5z, z6z, ah, z7z, z8z, au, fa_74_5, bj, b1, cf_5]
              refine (c_layWithin _ _ _ w0).step ?_
              by_cases h7 : 1 ≤ c.2.2.2.2.2 ∧ c.2.2.2.2.2 ≤ 8
              · simp -implicitDefEqProofs only [decide_eq_true h7, ad, ax, am, aM, aN, aQ, aR, av, ak, aJ, aK, aS, aT, ay, ap, aU, aV, aX, aY, ae, ac, aj, ag, z1z, z2z, z3z, z4z, aH, af, aD, aB, aC, aA, aE, aG, z5z, z6z, ah, z7z, z8z, au]
                exact ⟨by simp [mayC, h1, h2, h3, h4, h5, h6, h7], c0⟩
              · simp -implicitDefEqProofs only [decide_eq_false h7, ad, ax, am, aM, aN, aQ, aR, av, ak, aJ, aK, aS, aT, ay, ap, aU, aV, aX, aY, ae, ac, aj, ag, z1z, z2z, z3z, z4z, aH, af, aD, aB, aC, aA, aE, aG, z5z, z6z, ah, z7z, z8z, au]
                exact ⟨by rw [mayC, decide_eq_false h7]; simp, c0⟩
            · simp -implicitDefEqProofs only [decide_eq_false h6, ad, ax, am, aM, aN, aQ, aR, av, ak, aJ, aK, aS, aT, ay, ap, aU, aV, aX, aY, ae, ac, aj, ag, z1z, z2z, z3z, z4z, aH, af, aD, aB, aC, aA, aE, aG, z5z, z6z, ah, z7z, z8z, au]
              exact ⟨by rw [mayC, decide_eq_false h6]; simp, c0⟩
          · simp -implicitDefEqProofs only [decide_eq_false h5, ad, ax, am, aM, aN, aQ, aR, av, ak, aJ, aK, aS, aT, ay, ap, aU, aV, aX, aY, ae, ac, aj, ag, z1z, z2z, z3z, z4z, aH, af, aD, aB, aC, aA, aE, aG, z5z, z6z, ah, z7z, z8z, au]
            exact ⟨by rw [mayC, decide_eq_false h5]; simp, c0⟩
        · simp -implicitDefEqProofs only [decide_eq_true h3, ad, ax, am, aM, aN, aQ, aR, av, ak, aJ, aK, aS, aT, ay, ap, aU, aV, aX, aY, ae, ac, aj, ag, z1z, z2z, z3z, z4z, aH, af, aD, aB, aC, aA, aE, aG, z5z, z6z, ah, z7z, z8z, au, fa_74_2, bj, b1, cf_2, bp_rem (show (8 : Int) ≠ 0 by decide), hm, eqf h4]
          exact ⟨by rw [mayC, decide_eq_false h4]; simp, c0⟩
      · simp -implicitDefEqProofs only [decide_eq_false h3, ad, ax, am, aM, aN, aQ, aR, av, ak, aJ, aK, aS, aT, ay, ap, aU, aV, aX, aY, ae, ac, aj, ag, z1z, z2z, z3z, z4z, aH, af, aD, aB, aC, aA, aE, aG, z5z, z6z, ah, z7z, z8z, au]
        exact ⟨by rw [mayC, decide_eq_false h3]; simp, c0⟩
    · simp -implicitDefEqProofs only [decide_eq_false h2, ad, ax, am, aM, aN, aQ, aR, av, ak, aJ, aK, aS, aT, ay, ap, aU, aV, aX, aY, ae, ac, aj, ag, z1z, z2z, z3z, z4z, aH, af, aD, aB, aC, aA, aE, aG, z5z, z6z, ah, z7z, z8z, au]
      exact ⟨by rw [mayC, decide_eq_false h2]; simp, c0⟩
  · simp -implicitDefEqProofs only [decide_eq_false h1, ad, ax, am, aM, aN, aQ, aR, av, ak, aJ, aK, aS, aT, ay, ap, aU, aV, aX, aY, ae, ac, aj, ag, z1z, z2z, z3z, z4z, aH, af, aD, aB, aC, aA, aE, aG, z5z, z6z, ah, z7z, z8z, au]
    exact ⟨by rw [mayC, decide_eq_false h1]; simp, c0⟩
def newM (c : CfV) (loose : Bool) : MdV := ⟨c, loose, List.replicate c.2.2.2.1.toNat (0, 0), [], List.replicate c.1.toNat ⟨0, []⟩⟩
theorem may_cf {c : CfV} (h : mayC c = true) : (1 ≤ c.1 ∧ c.1 ≤ 64) ∧ (1 ≤ c.2.1 ∧ c.2.1 ≤ 4096) ∧ (8 ≤ c.2.2.1 ∧ c.2.2.1 ≤ 1024) ∧ (1 ≤ c.2.2.2.1 ∧ c.2.2.2.1 ≤ 4096) := by
  simp only [mayC, Bool.and_eq_true, decide_eq_true_eq] at h
  exact ⟨h.1, h.2.1, h.2.2.1, h.2.2.2.2.1⟩
theorem wf_new {c : CfV} (h : mayC c = true) (l : Bool) : Wf (newM c l) 0 := by
  obtain ⟨h1, h2, h3, h4⟩ := may_cf h
  refine ⟨by show 1 ≤ c.2.2.1; omega, h3.2, by simp only [newM, List.length_replicate]; omega, fun p hp => ?_, fun d hd => ?_, Nat.le_refl _, fun r hr => by cases hr⟩
  · rw [List.eq_of_mem_replicate hp]; exact ⟨Int.le_refl _, by decide⟩
  · rw [List.eq_of_mem_replicate hd]; exact ⟨Int.le_refl _, by decide, Nat.zero_le _⟩
theorem made_flat {zs : List Value} {z : Nat} (hz : zs.length = z) (h0 : 0 < z) (n : Nat) : madeCells zs.toArray (n * z) = ((List.replicate n ()).flatMap fun _ => zs).toArray := by
  apply Array.ext_getElem?
  intro k
  rcases Nat.lt_or_ge k (n * z) with hk | hk
  · have hq : k / z < n := by rw [Nat.div_lt_iff_lt_mul h0]; exact hk
    have hm := Nat.mod_lt k h0
    have hkk : k = k / z * z + k % z := by rw [Nat.mul_comm]; exact (Nat.div_add_mod k z).symm
    have e := flatM_get (f := fun _ : Unit => zs) (fun _ => hz) (List.replicate n ()) (k / z) () (by simp [hq]) (k % z) hm
    rw [← hkk] at e
    have e1 : (((List.replicate n ()).flatMap fun _ => zs).toArray)[k]? = zs[k % z]? := by rw [List.getElem?_toArray, e]
    rw [e1, List.getElem?_eq_getElem (by omega)]
    simp only [madeCells, Array.getElem?_map, Array.getElem?_range, hk, if_true, Option.map_some, List.size_toArray, hz]
    rw [getElem!_pos _ _ (by simp [hz]; exact hm)]
    simp
  · have e1 : ((List.replicate n ()).flatMap fun _ => zs).length = n * z := by rw [flatM_len (z := z) (fun _ => hz)]; simp
    rw [Array.getElem?_eq_none (by simp [madeCells]; omega), Array.getElem?_eq_none (by rw [List.size_toArray, e1]; exact hk)]
theorem row_new {e : TypeId} (n : Nat) (hn : n ≤ maxLen) (a b : Value) : (w.alloc (.cells ((List.replicate n ()).flatMap fun _ => [a, b]).toArray e)).ownsRow 0 e 2 (.slice (some ⟨w.heap.size, 0, none⟩) n n) n ((List.replicate n ()).flatMap fun _ => [a, b]) := by
  have hl : ((List.replicate n ()).flatMap fun _ => [a, b]).length = n * 2 := by rw [flatM_len (z := 2) (fun _ => rfl)]; simp
  exact ⟨hl, .inr ⟨w.heap.size, n, _, rfl, Nat.zero_le _, heap_alloc_new w _, Nat.le_refl _, hn, by rw [List.size_toArray]; exact hl, by simp [List.take_of_length_le (show ((List.replicate n ()).flatMap fun _ => [a, b]).length ≤ n * 2 by rw [hl]; exact Nat.le_refl _)]⟩⟩
theorem own_of_row {n : Nat} : (fun b => (Value.slice (some ⟨w.heap.size, 0, none⟩) n n).ownBlock = some b) = (fun b => b = w.heap.size) := by
  funext b
  simp [Value.ownBlock, eq_comm]
theorem slots_new (n : Nat) (hn : n ≤ maxLen) : slotsT (List.replicate n (0, 0)) (w.alloc (.cells ((List.replicate n ()).flatMap fun _ => [Value.int .i64 0, Value.int .i64 0]).toArray 150)) (fun b => b = w.heap.size) (.slice (some ⟨w.heap.size, 0, none⟩) n n) := by
  have h2 := own_flat (row_new (w := w) (e := 150) n hn (.int .i64 0) (.int .i64 0))
  rw [own_of_row] at h2
  have e : (List.replicate n ((0 : Int), (0 : Int))).flatMap nmC = (List.replicate n ()).flatMap fun _ => [Value.int .i64 0, Value.int .i64 0] := by
    induction n with
    | zero => rfl
    | succ n ih => rw [List.replicate_succ, List.replicate_succ, List.flatMap_cons, List.flatMap_cons, ih (by omega) (own_of_row ▸ own_flat (row_new n (by omega) _ _))]; rfl
  rw [slotsT, List.length_replicate, e]
  exact h2
theorem hands_new (n : Nat) (hn : n ≤ maxLen) : handsT (List.replicate n ⟨0, []⟩) (w.alloc (.cells ((List.replicate n ()).flatMap fun _ => [Value.int .i64 0, Value.slice none 0 0]).toArray 137)) (fun b => b = w.heap.size) (.slice (some ⟨w.heap.size, 0, none⟩) n n) := by
  have h := row_new (w := w) (e := 137) n hn (.int .i64 0) (.slice none 0 0)
  refine ⟨_, fun _ => none', by rw [List.length_replicate]; exact h, ⟨?_, fun k P v hP hv => ?_, fun _ _ _ _ _ b hb _ => hb⟩, fun b ⟨_, _, hb⟩ => hb.elim, fun b => ⟨fun hb => .inl (by rw [hb]; rfl), fun hb => ?_⟩⟩
  · rw [flatM_len (z := 2) hdT_len, flatM_len (z := 2) (fun _ => rfl)]; simp
  · have hk := (List.getElem?_eq_some_iff.1 hP).1
    rw [flatM_len (z := 2) hdT_len, List.length_replicate] at hk
    have hq : k / 2 < n := by omega
    have hkk : k = k / 2 * 2 + k % 2 := by omega
    rw [hkk] at hP hv
    rw [flatM_get hdT_len _ (k / 2) ⟨0, []⟩ (by simp [hq]) (k % 2) (by omega)] at hP
    rw [flatM_get (z := 2) (f := fun _ : Unit => [Value.int .i64 0, Value.slice none 0 0]) (fun _ => rfl) _ (k / 2) () (by simp [hq]) (k % 2) (by omega)] at hv
    have h2 : k % 2 = 0 ∨ k % 2 = 1 := by omega
    rcases h2 with h2 | h2 <;> rw [h2] at hP hv <;> cases hP <;> cases hv
    · exact ⟨rfl, fun _ h => h⟩
    · exact isRow.nil
  · rcases hb with hb | ⟨_, _, hb⟩
    · simp [Value.ownBlock] at hb; exact hb.symm
    · exact hb.elim
theorem model_parts {c : CfV} {S R H : List Value} {m : MdV} {sv rv hv : Value} {Fs Fr Fh : Fp} (hm : m.c = c) (hs : slotsT m.slots w Fs sv) (hr : rgsT m.rgs w Fr rv) (hh : handsT m.hands w Fh hv) (d1 : FDis Fs Fr) (d2 : FDis Fs Fh) (d3 : FDis Fr Fh) :
    Parts w (mdT m) (cfC c ++ [.bool m.loose, sv, rv, hv]) (fun k => if k = 7 then Fs else if k = 8 then Fr else if k = 9 then Fh else none') := by
  subst hm
  refine ⟨rfl, fun k P v hP hv' => ?_, fun j k hj hk hjk b h1 h2 => ?_⟩
  · have hk := (List.getElem?_eq_some_iff.1 hP).1
    have hk' : (mdT m).length = 10 := rfl
    rw [hk'] at hk
    have h10 : k = 0 ∨ k = 1 ∨ k = 2 ∨ k = 3 ∨ k = 4 ∨ k = 5 ∨ k = 6 ∨ k = 7 ∨ k = 8 ∨ k = 9 := by omega
    rcases h10 with rfl | rfl | rfl | rfl | rfl | rfl | rfl | rfl | rfl | rfl <;> cases hP <;> cases hv'
    · exact ⟨rfl, fun _ h => h⟩
    · exact ⟨rfl, fun _ h => h⟩
    · exact ⟨rfl, fun _ h => h⟩
    · exact ⟨rfl, fun _ h => h⟩
    · exact ⟨rfl, fun _ h => h⟩
    · exact ⟨rfl, fun _ h => h⟩
    · exact ⟨rfl, fun _ h => h⟩
    · exact hs
    · exact hr
    · exact hh
  · have e : ∀ k, (if k = 7 then Fs else if k = 8 then Fr else if k = 9 then Fh else none') b → (k = 7 ∧ Fs b) ∨ (k = 8 ∧ Fr b) ∨ (k = 9 ∧ Fh b) := by
      intro k h
      split at h
      · exact .inl ⟨by assumption, h⟩
      split at h
      · exact .inr (.inl ⟨by assumption, h⟩)
      split at h
      · exact .inr (.inr ⟨by assumption, h⟩)
      · exact h.elim
    rcases e j h1 with ⟨a1, a2⟩ | ⟨a1, a2⟩ | ⟨a1, a2⟩ <;> rcases e k h2 with ⟨b1, b2⟩ | ⟨b1, b2⟩ | ⟨b1, b2⟩
    · omega
    · exact d1 b a2 b2
    · exact d2 b a2 b2
    · exact d1 b b2 a2
    · omega
    · exact d3 b a2 b2
    · exact d2 b b2 a2
    · exact d3 b b2 a2
    · omega
end
end Go.Proofs.Ytgamnncehjcdiaa

namespace Go.Proofs.Ytgamnncehjcdiaa
open Go Ev Go.RowKit

section
variable {w : World} {g : Nat} {m : MdV} {F : Fp} {K : Nat}
def Made (w : World) (c : CfV) (m : MdV) (v : Value) (w' : World) : Prop := Chg [] w w' ∧ ((mayC c = false ∧ v = .tuple #[.pointer none, .int .i64 1]) ∨ (mayC c = true ∧ ∃ g F, v = .tuple #[.pointer (some ⟨g, 0, none⟩), .int .i64 0] ∧ MdI w' g m F ∧ ∀ k, F k → w.heap.size ≤ k))
set_option maxHeartbeats 1000000 in
theorem c_mNew (c : CfV) (w : World) : CallR Try.prog 41 [.agg (cfC c).toArray] w fun v w' => Made w c (newM c false) v w' := by
  apply F41_ok
  have b1 : hp (w.alloc (.cells (cfC c).toArray 74)) w.heap.size = some (.cells (cfC c).toArray 74) := by rw [bc, if_pos rfl]
  have c0 : Chg [] w (w.alloc (.cells (cfC c).toArray 74)) := (Chg.refl _ _).alloc _
  simp -implicitDefEqProofs only [F41, bE, bA]
  generalize w.alloc (.cells (cfC c).toArray 74) = w0 at *
  simp -implicitDefEqProofs only [ld_cf b1, ad]
  refine (c_layMay c w0).mono ?_
  rintro _ w1 ⟨rfl, k1⟩
  have c1 := c0.trans k1
  have b2 := k1.at b1 (by simp)
  cases hm : mayC c with
  | false =>
    simp -implicitDefEqProofs only [ad, ax, am, aM, aN, aQ, aR, av, ak, aJ, aK, aS, aT, ay, ap, aU, aV, aX, aY, ae, ac, aj, ag, z1z, z2z, z3z, z4z, aH, af, aD, aB, aC, aA, aE, aG, z5z, z6z, ah, z7z, z8z, au]
    exact ⟨c1, .inl ⟨hm, by first | rfl | trivial⟩⟩
  | true =>
    obtain ⟨h1, h2, h3, h4⟩ := may_cf hm
    have b2d : hp w1.drew w.heap.size = some (.cells (cfC c).toArray 74) := b2
    have cd := c1.drew
    obtain ⟨is, his, hzs, hss, hbs⟩ := inf_150
    obtain ⟨ih, hih, hzh, hsh, hbh⟩ := inf_137
    have e3 : (cfC c).toArray[0 + 3]? = some (.int .i64 ((c.2.2.2.1.toNat : Nat) : Int)) := by rw [cf_3]; congr; omega
    have e0 : (cfC c).toArray[0 + 0]? = some (.int .i64 ((c.1.toNat : Nat) : Int)) := by rw [cf_0]; congr; omega
    have nm : newM c false = ⟨c, false, List.replicate c.2.2.2.1.toNat (0, 0), [], List.replicate c.1.toNat ⟨0, []⟩⟩ := rfl
    have l1 : c.2.2.2.1.toNat ≤ 4096 := by omega
    have l2 : c.1.toNat ≤ 64 := by omega
    generalize c.2.2.2.1.toNat = ns at *
    generalize c.1.toNat = nh at *
    have mks : madeCells (Value.agg #[.int .i64 0, .int .i64 0]).cells (ns * is.size) = ((List.replicate ns ()).flatMap fun _ => [Value.int .i64 0, Value.int .i64 0]).toArray := by rw [hss]; exact made_flat (zs := [Value.int .i64 0, Value.int .i64 0]) rfl (by decide) ns
    have mkh : madeCells (Value.agg #[.int .i64 0, .slice none 0 0]).cells (nh * ih.size) = ((List.replicate nh ()).flatMap fun _ => [Value.int .i64 0, Value.slice none 0 0]).toArray := by rw [hsh]; exact made_flat (zs := [Value.int .i64 0, Value.slice none 0 0]) rfl (by decide) nh
    have fin : ∀ (w2 : World) (Fs Fh : Fp) (sb hb : Nat), Chg [] w w2 → slotsT (List.replicate ns (0, 0)) w2 Fs (.slice (some ⟨sb, 0, none⟩) ns ns) → handsT (List.replicate nh ⟨0, []⟩) w2 Fh (.slice (some ⟨hb, 0, none⟩) nh nh) → FDis Fs Fh → (∀ k, Fs k → w.heap.size ≤ k) → (∀ k, Fh k → w.heap.size ≤ k) →
        Made w c (newM c false) (.tuple #[.pointer (some ⟨w2.heap.size, 0, none⟩), .int .i64 0]) (w2.alloc (.cells (cfC c ++ [Value.bool false, Value.slice (some ⟨sb, 0, none⟩) ns ns, Value.slice none 0 0, Value.slice (some ⟨hb, 0, none⟩) nh nh]).toArray 132)) := by
      intro w2 Fs Fh sb hb c2 hs hh hd ns' nh'
      have hp' := model_parts (S := []) (R := []) (H := []) (m := newM c false) (c := c) (rv := .slice none 0 0) (Fr := none') rfl (by rw [nm]; exact hs) (by rw [nm]; exact isRow.nil) (by rw [nm]; exact hh) (fun _ _ h => h) hd (fun _ h _ => h)
      refine ⟨c2.alloc _, .inr ⟨hm, w2.heap.size, _, rfl, isAt.new hp' (bY _), fun k hk => ?_⟩⟩
      rcases hk with hk | ⟨j, _, hk⟩
      · rw [hk]; exact c2.size
      · split at hk
        · exact ns' k hk
        split at hk
        · exact hk.elim
        split at hk
        · exact nh' k hk
        · exact hk.elim
    have len2 : maxLen = maxLen := rfl
    have hml : ns ≤ maxLen ∧ nh ≤ maxLen := by unfold maxLen; omega
    simp -implicitDefEqProofs only [ad, ax, am, aM, aN, aQ, aR, av, ak, aJ, aK, aS, aT, ay, ap, aU, aV, aX, aY, ae, ac, aj, ag, z1z, z2z, z3z, z4z, aH, af, aD, aB, aC, aA, aE, aG, z5z, z6z, ah, z7z, z8z, au, fa_74_3, fa_74_0, bj, ld_cf b2d, b2, e3, e0, effv_make (P := Try.prog) (kl := .i64) (kc := .i64) (n := ns) Try.underlying128 his hzs (by rw [hss]; omega) (by rw [hbs]; omega) (by omega), effv_make (P := Try.prog) (kl := .i64) (kc := .i64) (n := nh) Try.underlying129 hih hzh (by rw [hsh]; omega) (by rw [hbh]; omega) (by omega), mks, mkh]
    have hbd : ∀ a b, pureRun Try.prog (Instr.build 132 #[(0, .agg (cfC c).toArray), (2, .slice (some ⟨a, 0, none⟩) ns ns), (4, .slice (some ⟨b, 0, none⟩) nh nh)]) = some (.agg (cfC c ++ [Value.bool false, Value.slice (some ⟨a, 0, none⟩) ns ns, Value.slice none 0 0, Value.slice (some ⟨b, 0, none⟩) nh nh]).toArray) := fun a b => bd_132_0_2_4
    simp -implicitDefEqProofs only [hbd, ad, bE, bA]
    have sz : w.heap.size ≤ w1.drew.heap.size := cd.size
    constructor
    · have s1 := slots_new (w := w1.drew) ns hml.1
      generalize hwA : w1.drew.alloc (.cells ((List.replicate ns ()).flatMap fun _ => [Value.int .i64 0, Value.int .i64 0]).toArray 150) = wA at *
      have cA : Chg [] w1.drew wA := by rw [← hwA]; exact (Chg.refl _ _).alloc _
      have sA : wA.heap.size = w1.drew.heap.size + 1 := by rw [← hwA, bf]
      have h1 := hands_new (w := wA) nh hml.2
      have cB : Chg [] wA (wA.alloc (.cells ((List.replicate nh ()).flatMap fun _ => [Value.int .i64 0, Value.slice none 0 0]).toArray 137)) := (Chg.refl _ _).alloc _
      exact fin _ _ _ _ _ ((cd.trans cA).trans cB) ((good_slots _).frame s1 (ChgP.of0 cB none') fun _ _ h => h) h1 (fun k h1 h2 => by omega) (fun k hk => by omega) (fun k hk => by omega)
    · have s1 := hands_new (w := w1.drew) nh hml.2
      generalize hwA : w1.drew.alloc (.cells ((List.replicate nh ()).flatMap fun _ => [Value.int .i64 0, Value.slice none 0 0]).toArray 137) = wA at *
      have cA : Chg [] w1.drew wA := by rw [← hwA]; exact (Chg.refl _ _).alloc _
      have sA : wA.heap.size = w1.drew.heap.size + 1 := by rw [← hwA, bf]
      have h1 := slots_new (w := wA) ns hml.1
      have cB : Chg [] wA (wA.alloc (.cells ((List.replicate ns ()).flatMap fun _ => [Value.int .i64 0, Value.int .i64 0]).toArray 150)) := (Chg.refl _ _).alloc _
      exact fin _ _ _ _ _ ((cd.trans cA).trans cB) h1 ((good_hands _).frame s1 (ChgP.of0 cB none') fun _ _ h => h) (fun k h1 h2 => by omega) (fun k hk => by omega) (fun k hk => by omega)
set_option maxHeartbeats 1000000 in
theorem c_mLoose (c : CfV) (w : World) : CallR Try.prog 87 [.agg (cfC c).toArray] w fun v w' => Made w c (newM c true) v w' := by
  apply F87_ok
  have b1 : hp (w.alloc (.cells (cfC c).toArray 74)) w.heap.size = some (.cells (cfC c).toArray 74) := by rw [bc, if_pos rfl]
  have c0 : Chg [] w (w.alloc (.cells (cfC c).toArray 74)) := (Chg.refl _ _).alloc _
  have s0 : (w.alloc (.cells (cfC c).toArray 74)).heap.size = w.heap.size + 1 := bf _ _
  simp -implicitDefEqProofs only [F87, bE, bA]
  generalize w.alloc (.cells (cfC c).toArray 74) = w0 at *
  simp -implicitDefEqProofs only [ld_cf b1, ad]
  refine (c_mNew c w0).mono ?_
  rintro v w1 ⟨k1, hv⟩
  have c1 := c0.trans k1
  rcases hv with ⟨hm, rfl⟩ | ⟨hm, g, F, rfl, I, hF⟩
  · have e : ((1 : Int) == 0) = false := rfl
    simp -implicitDefEqProofs only [tup0, tup1, ad, ax, am, aM, aN, aQ, aR, av, ak, aJ, aK, aS, aT, ay, ap, aU, aV, aX, aY, ae, ac, aj, ag, z1z, z2z, z3z, z4z, aH, af, aD, aB, aC, aA, aE, aG, z5z, z6z, ah, z7z, z8z, au, e]
    apply L87_0_ok
    exact ⟨c1, .inl ⟨hm, rfl⟩⟩
  · obtain ⟨v, Fk, hg, hng, hsub, hld, hv, _, hput⟩ := isAt.cell I (bY _) (k := 6) (P := isV (.bool false)) rfl
    obtain ⟨ok, F1, h1, h2⟩ := hput w1 none' (isV (.bool true)) (.bool true) (UpdP.none hv.2 w1) (good_isV ⟨rfl, rfl⟩) ⟨rfl, fun _ h => h⟩
    have e : ((0 : Int) == 0) = true := rfl
    simp -implicitDefEqProofs only [tup0, tup1, ad, ax, am, aM, aN, aQ, aR, av, ak, aJ, aK, aS, aT, ay, ap, aU, aV, aX, aY, ae, ac, aj, ag, z1z, z2z, z3z, z4z, aH, af, aD, aB, aC, aA, aE, aG, z5z, z6z, ah, z7z, z8z, au, e, fa_132_1]
    rw [st_4 (o := 0 + 6) rfl rfl ok]
    apply L87_0_ok
    refine ⟨⟨h2.chg.os.trans c1.os, h2.chg.tape.trans c1.tape, h2.chg.output.trans c1.output, Nat.le_trans c1.size h2.chg.size, fun k hk _ => ?_⟩, .inr ⟨hm, g, F1, rfl, h1, fun k hk => ?_⟩⟩
    · rw [h2.chg.block k (Nat.lt_of_lt_of_le hk c1.size) fun h => by have := hF k h; omega]
      exact c1.block k hk (by simp)
    · have := c1.size
      rcases h2.sub k hk with h | h
      · have := hF k h; omega
      · omega
def valueV (m : MdV) (h : HnV) (n : Int) : Int × Bool := if knownV m h 2 = true ∧ 0 ≤ n ∧ n < h.2.2.2.2 then (wordV m h n, true) else (0, false)
set_option maxHeartbeats 1000000 in
theorem c_mValue (I : MdI w g m F) (Wm : Wf m K) (hK : K ≤ 1000000) (h : HnV) (n : Int) : CallR Try.prog 43 [.pointer (some ⟨g, 0, none⟩), .agg (hnC h).toArray, .int .i64 n] w fun v w' => v = .tuple #[.int .u64 (valueV m h n).1, .bool (valueV m h n).2] ∧ Chg [] w w' := by
  apply F43_ok
  have b4 : hp (w.alloc (.cells (hnC h).toArray 51)) w.heap.size = some (.cells (hnC h).toArray 51) := by rw [bc, if_pos rfl]
  have c0 : Chg [] w (w.alloc (.cells (hnC h).toArray 51)) := (Chg.refl _ _).alloc _
  simp -implicitDefEqProofs only [F43, bE, bA]
  generalize w.alloc (.cells (hnC h).toArray 51) = w0 at *
  obtain ⟨_, _, _, M⟩ := I.rd
  have sm := Wm.small hK
  simp -implicitDefEqProofs only [ld_hn b4, ad]
  refine (c_mKnown (M.keep c0) h 2 sm.r sm.o).mono ?_
  rintro _ w1 ⟨rfl, c1⟩
  have c01 := c0.trans c1
  have b41 := c1.at b4 (by simp)
  have e4 : (hnC h).toArray[0 + 4]? = some (.int .i64 h.2.2.2.2) := rfl
  cases hk : knownV m h 2 with
  | false =>
    have ev : valueV m h n = (0, false) := by rw [valueV, if_neg (by rw [hk]; simp)]
    simp -implicitDefEqProofs only [ad, ax, am, aM, aN, aQ, aR, av, ak, aJ, aK, aS, aT, ay, ap, aU, aV, aX, aY, ae, ac, aj, ag, z1z, z2z, z3z, z4z, aH, af, aD, aB, aC, aA, aE, aG, z5z, z6z, ah, z7z, z8z, au]
    rw [ev]
    exact ⟨by first | rfl | trivial, c01⟩
  | true =>
    by_cases n0 : n < 0
    · have ev : valueV m h n = (0, false) := by rw [valueV, if_neg (by omega)]
      simp -implicitDefEqProofs only [ad, ax, am, aM, aN, aQ, aR, av, ak, aJ, aK, aS, aT, ay, ap, aU, aV, aX, aY, ae, ac, aj, ag, z1z, z2z, z3z, z4z, aH, af, aD, aB, aC, aA, aE, aG, z5z, z6z, ah, z7z, z8z, au, n0]
      rw [ev]
      exact ⟨by first | rfl | trivial, c01⟩
    by_cases n1 : h.2.2.2.2 ≤ n
    · have ev : valueV m h n = (0, false) := by rw [valueV, if_neg (by omega)]
      simp -implicitDefEqProofs only [ad, ax, am, aM, aN, aQ, aR, av, ak, aJ, aK, aS, aT, ay, ap, aU, aV, aX, aY, ae, ac, aj, ag, z1z, z2z, z3z, z4z, aH, af, aD, aB, aC, aA, aE, aG, z5z, z6z, ah, z7z, z8z, au, n0, fa_51_4, bj, b41, e4, aA, ge_iff_le, n1]
      rw [ev]
      exact ⟨by first | rfl | trivial, c01⟩
    have ev : valueV m h n = (wordV m h n, true) := by rw [valueV, if_pos ⟨hk, by omega, by omega⟩]
    simp -implicitDefEqProofs only [ad, ax, am, aM, aN, aQ, aR, av, ak, aJ, aK, aS, aT, ay, ap, aU, aV, aX, aY, ae, ac, aj, ag, z1z, z2z, z3z, z4z, aH, af, aD, aB, aC, aA, aE, aG, z5z, z6z, ah, z7z, z8z, au, n0, fa_51_4, bj, b41, e4, aA, ge_iff_le, n1, ld_hn b41]
    refine (c_mWord (I.keep c01) Wm hK hk (by omega) (by omega)).mono ?_
    rintro _ w3 ⟨g2, j, rfl, c3, hw⟩
    have A := hw w3 c3
    simp -implicitDefEqProofs only [ad, ax, am, aM, aN, aQ, aR, av, ak, aJ, aK, aS, aT, ay, ap, aU, aV, aX, aY, ae, ac, aj, ag, z1z, z2z, z3z, z4z, aH, af, aD, aB, aC, aA, aE, aG, z5z, z6z, ah, z7z, z8z, au, ld_38, A.ld]
    rw [ev]
    exact ⟨by first | rfl | trivial, c01.trans c3⟩
end
end Go.Proofs.Ytgamnncehjcdiaa

