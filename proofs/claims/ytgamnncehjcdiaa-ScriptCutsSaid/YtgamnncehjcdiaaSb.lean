/- Numbers as bytes, the lowest first. -/
import Derived.Test.YtgamnncehjcdiaaSa
namespace Go.Proofs.Ytgamnncehjcdiaa
open Go Ev Go.RowKit
set_option linter.unusedSimpArgs false
set_option linter.unusedVariables false
set_option maxRecDepth 10000

theorem push_upd {w w' : World} {x x' : Value} (hg : w.grownBy w' x.ownBlock) (hn : NewB w x x') : Upd (blk x) (blk x') w w' :=
  ⟨(Chg.refl _ _).grown hg fun k hk => .inl (mem_blk.2 hk), fun k hk => (hn k (mem_blk.1 hk)).imp (fun h => mem_blk.2 h) id⟩
theorem wrap8 (a : Int) : IntKind.u8.wrap a = a % 256 := rfl
/-- a byte of a number -/
def byteAt (v : Int) (i : Nat) : Int := v / 2 ^ (8 * i) % 256
def lowB (v : Int) (n : Nat) : List Int := (List.range n).map (byteAt v)
theorem lowB_len (v : Int) (n : Nat) : (lowB v n).length = n := by simp [lowB]
theorem lowB_succ (v : Int) (n : Nat) : lowB v (n + 1) = lowB v n ++ [byteAt v n] := by simp [lowB, List.range_succ]
theorem byteAt_lt (v : Int) (i : Nat) : 0 ≤ byteAt v i ∧ byteAt v i < 256 := ⟨Int.emod_nonneg _ (by omega), Int.emod_lt_of_pos _ (by omega)⟩
theorem lowB_bytes (v : Int) (n : Nat) : IsBytes (lowB v n) := fun b hb => by
  simp only [lowB, List.mem_map] at hb
  obtain ⟨i, _, rfl⟩ := hb
  exact byteAt_lt v i
theorem shr_byte {v : Int} (h0 : 0 ≤ v) {i : Nat} (hi : i ≤ 7) : IntKind.u8.wrap (v.fdiv (2 ^ (min ((8 * (i : Int)).toNat) IntKind.u64.bits))) = byteAt v i := by
  have e1 : (8 * (i : Int)).toNat = 8 * i := by omega
  have e2 : min (8 * i) IntKind.u64.bits = 8 * i := Nat.min_eq_left (show 8 * i ≤ 64 by omega)
  rw [e1, e2, wrap8, Int.fdiv_eq_ediv_of_nonneg _ (Int.pow_nonneg (by omega))]
  rfl
theorem u8s_append (a b : List Int) : u8s (a ++ b) = u8s a ++ u8s b := by simp [u8s]
theorem u8_one (b : Int) : ∀ u ∈ ([.int .u8 b] : List Value), u.oneCell' = true := by simp
theorem l_lowP {v : Int} (h0 : 0 ≤ v) {n : Nat} (hn : n ≤ 8) {base : Nat} {x0 : Value} {w0 : World} {bs : List Int} (hl : bs.length ≤ 1000000) : ∀ (d i : Nat) (w : World) (x : Value), w.ownsRow base 5 1 x (bs.length + i) (u8s (bs ++ lowB v i)) → base ≤ w.heap.size → Upd (blk x0) (blk x) w0 w → i + d = n →
    P59_0 x (.int .u64 v) (.int .i64 n) (.int .i64 i) w fun r w' => w'.ownsRow base 5 1 r (bs.length + n) (u8s (bs ++ lowB v n)) ∧ Upd (blk x0) (blk r) w0 w' := by
  intro d
  induction d with
  | zero =>
    intro i w x hx hb hu hi
    obtain rfl : i = n := by omega
    apply L59_0_ok
    simp -implicitDefEqProofs only [L59_0, wpB_some', gd_true, gd_false, gd_tf, gd_ft, gd_ut, gd_uf, gv_true, gv_false, gv_tf, gv_ft, gv_ut, gv_uf, gE_true, gE_false, gE_tf, gE_ft, gE_ut, gE_uf, gU_true, gU_false, gU_tf, gU_ft, pickv_true, pickv_false, cnd_true, cnd_false, decide_true, decide_false, Bool.not_true, Bool.not_false, pr_not, nilv_some, bp_lss, bp_leq, bp_gtr, bp_geq, be_eql, be_neq, bne_self_eq_false, beq_self_eq_true, ldC_some, Option.isNone_none, Option.isNone_some, hp_drew, Int.lt_irrefl]
    exact ⟨hx, hu⟩
  | succ d ih =>
    intro i w x hx hb hu hi
    apply L59_0_ok
    have hlt : (i : Int) < n := by omega
    simp -implicitDefEqProofs only [L59_0, wpB_some', gd_true, gd_false, gd_tf, gd_ft, gd_ut, gd_uf, gv_true, gv_false, gv_tf, gv_ft, gv_ut, gv_uf, gE_true, gE_false, gE_tf, gE_ft, gE_ut, gE_uf, gU_true, gU_false, gU_tf, gU_ft, pickv_true, pickv_false, cnd_true, cnd_false, decide_true, decide_false, Bool.not_true, Bool.not_false, pr_not, nilv_some, bp_lss, bp_leq, bp_gtr, bp_geq, be_eql, be_neq, bne_self_eq_false, beq_self_eq_true, ldC_some, Option.isNone_none, Option.isNone_some, hp_drew, hlt, bp_mul, wrapi (n := 8 * (i : Int)) (by omega) (by omega), bp_shr (show (0 : Int) ≤ 8 * i by omega), cv_38_5, shr_byte h0 (show i ≤ 7 by omega)]
    refine ps_28 (u8_one _) hx (by omega) hb fun x' w' ho hg hnb => ?_
    simp -implicitDefEqProofs only [bp_add, wpB_some', wrapi (n := (i : Int) + 1) (by omega) (by omega)]
    have e : u8s (bs ++ lowB v i) ++ [Value.int .u8 (byteAt v i)] = u8s (bs ++ lowB v (i + 1)) := by rw [lowB_succ, ← List.append_assoc, u8s_append (bs ++ lowB v i)]; rfl
    rw [e] at ho
    have := ih (i + 1) w' x' ho (Nat.le_trans hb hg.size) (hu.trans (push_upd hg hnb)) (by omega)
    rw [Int.natCast_add i 1] at this
    exact this
theorem c_lowP {v : Int} (h0 : 0 ≤ v) {n : Nat} (hn : n ≤ 8) {base : Nat} {x : Value} {w : World} {bs : List Int} (hl : bs.length ≤ 1000000) (hx : w.ownsRow base 5 1 x bs.length (u8s bs)) (hb : base ≤ w.heap.size) :
    CallR Try.prog 59 [x, .int .u64 v, .int .i64 n] w fun r w' => w'.ownsRow base 5 1 r (bs ++ lowB v n).length (u8s (bs ++ lowB v n)) ∧ Upd (blk x) (blk r) w w' := by
  apply F59_ok
  simp -implicitDefEqProofs only [F59, List.length_append, lowB_len]
  exact l_lowP h0 hn hl n 0 w x (by simpa [lowB] using hx) hb (Upd.refl _ _) (by omega)
theorem l_lowR {v : Int} (h0 : 0 ≤ v) {n : Nat} (hn : n ≤ 8) {w0 : World} : ∀ (d i : Nat) (w : World) (x : Value), w.ownsRow w0.heap.size 5 1 x i (u8s (lowB v i)) → Chg [] w0 w → i + d = n →
    P62_0 (.int .u64 v) (.int .i64 n) x (.int .i64 i) w fun r w' => w'.ownsRow w0.heap.size 5 1 r n (u8s (lowB v n)) ∧ Chg [] w0 w' := by
  intro d
  induction d with
  | zero =>
    intro i w x hx hc hi
    obtain rfl : i = n := by omega
    apply L62_0_ok
    simp -implicitDefEqProofs only [L62_0, wpB_some', gd_true, gd_false, gd_tf, gd_ft, gd_ut, gd_uf, gv_true, gv_false, gv_tf, gv_ft, gv_ut, gv_uf, gE_true, gE_false, gE_tf, gE_ft, gE_ut, gE_uf, gU_true, gU_false, gU_tf, gU_ft, pickv_true, pickv_false, cnd_true, cnd_false, decide_true, decide_false, Bool.not_true, Bool.not_false, pr_not, nilv_some, bp_lss, bp_leq, bp_gtr, bp_geq, be_eql, be_neq, bne_self_eq_false, beq_self_eq_true, ldC_some, Option.isNone_none, Option.isNone_some, hp_drew, Int.lt_irrefl]
    exact ⟨hx, hc⟩
  | succ d ih =>
    intro i w x hx hc hi
    apply L62_0_ok
    have hlt : (i : Int) < n := by omega
    simp -implicitDefEqProofs only [L62_0, wpB_some', gd_true, gd_false, gd_tf, gd_ft, gd_ut, gd_uf, gv_true, gv_false, gv_tf, gv_ft, gv_ut, gv_uf, gE_true, gE_false, gE_tf, gE_ft, gE_ut, gE_uf, gU_true, gU_false, gU_tf, gU_ft, pickv_true, pickv_false, cnd_true, cnd_false, decide_true, decide_false, Bool.not_true, Bool.not_false, pr_not, nilv_some, bp_lss, bp_leq, bp_gtr, bp_geq, be_eql, be_neq, bne_self_eq_false, beq_self_eq_true, ldC_some, Option.isNone_none, Option.isNone_some, hp_drew, hlt, bp_mul, wrapi (n := 8 * (i : Int)) (by omega) (by omega), cv_3_172, wrapu (n := 8 * (i : Int)) (by omega) (by omega), bp_shr (show (0 : Int) ≤ 8 * i by omega), cv_38_5, shr_byte h0 (show i ≤ 7 by omega)]
    refine ps_28 (u8_one _) hx (by omega) hc.size fun x' w' ho hg hnb => ?_
    simp -implicitDefEqProofs only [bp_add, wpB_some', wrapi (n := (i : Int) + 1) (by omega) (by omega)]
    have e : u8s (lowB v i) ++ [Value.int .u8 (byteAt v i)] = u8s (lowB v (i + 1)) := by rw [lowB_succ, u8s_append]; rfl
    rw [e] at ho
    have := ih (i + 1) w' x' ho (hc.grown hg fun k hk => .inr (hx.lt k hk).1) (by omega)
    rw [Int.natCast_add i 1] at this
    exact this
theorem c_lowR {v : Int} (h0 : 0 ≤ v) {n : Nat} (hn : n ≤ 8) (w : World) :
    CallR Try.prog 62 [.int .u64 v, .int .i64 n] w fun r w' => w'.ownsRow w.heap.size 5 1 r n (u8s (lowB v n)) ∧ Chg [] w w' := by
  apply F62_ok
  simp -implicitDefEqProofs only [F62]
  exact l_lowR h0 hn n 0 w _ (World.ownsRow_nil _ _ _ _) (Chg.refl _ _) (by omega)
/-- the bytes of a number are it again -/
theorem leV_lowB : ∀ (n : Nat) (v : Int), 0 ≤ v → leV (lowB v n) = v % 256 ^ n
  | 0, v, h => by simp [lowB, leV]
  | n + 1, v, h => by
    rw [lowB_succ, leV_snoc, leV_lowB n v h, lowB_len, pow256, byteAt, pow256]
    have hp : (0 : Int) < 256 ^ n := Int.pow_pos (by omega)
    have h1 := Int.emod_add_mul_ediv v (256 ^ n)
    have h2 := Int.emod_add_mul_ediv (v / 256 ^ n) 256
    have e : (256 : Int) ^ (n + 1) = 256 ^ n * 256 := Int.pow_succ _ _
    rw [e]
    have hq := Int.emod_lt_of_pos v hp
    have hq0 := Int.emod_nonneg v (Int.ne_of_gt hp)
    have hr := Int.emod_lt_of_pos (v / 256 ^ n) (show (0 : Int) < 256 by omega)
    have hr0 := Int.emod_nonneg (v / 256 ^ n) (show (256 : Int) ≠ 0 by omega)
    generalize v % 256 ^ n = q at *
    generalize v / 256 ^ n % 256 = r at *
    have e2 : v = (q + r * 256 ^ n) + 256 ^ n * 256 * (v / 256 ^ n / 256) := by
      rw [← h2, Int.mul_add, ← Int.mul_assoc, ← Int.add_assoc, Int.mul_comm (256 ^ n) r] at h1
      exact h1.symm
    have hlt : q + r * 256 ^ n < 256 ^ n * 256 := by
      have : r * 256 ^ n ≤ 255 * 256 ^ n := Int.mul_le_mul_of_nonneg_right (by omega) (Int.le_of_lt hp)
      omega
    have hge : 0 ≤ q + r * 256 ^ n := Int.add_nonneg hq0 (Int.mul_nonneg hr0 (Int.le_of_lt hp))
    generalize hD : v / 256 ^ n / 256 = D at *
    rw [e2, Int.add_mul_emod_self_left, Int.emod_eq_of_lt hge hlt]
end Go.Proofs.Ytgamnncehjcdiaa
