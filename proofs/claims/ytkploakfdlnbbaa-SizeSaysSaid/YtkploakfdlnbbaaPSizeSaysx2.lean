-- PRINTED BY print.sh 35421559b90ae4d0a3588c463048766b98c2df88dd9212a6774a882060cdf62d: not written by this session
import Derived.Test.YtkploakfdlnbbaaPSizeSaysx0
import Derived.Test.YtkploakfdlnbbaaPSizeSaysx1
namespace Go.Proofs.Ytkploakfdlnbbaa.PSizeSays
open Go.RowKit Go.Proofs.YtkploakfdlnbbaaW.PrintWords Go.Proofs.YtkploakfdlnbbaaW.PrintLast Go.Proofs.YtkploakfdlnbbaaW.PrintMore
attribute [local go_sem] max2_int min2_int max_two min_two max_three min_three max_four min_four   -- for this text's walks alone
set_option linter.unusedVariables false
set_option linter.unusedSimpArgs false

/-! ### rundalelaw3_SizeSays: function 3 -/
def rundalelaw3_SizeSays.f (k : Nat) (a0 : Int) (a1 : Int) (a2 : Int) (a3 : Int) (a4 : Int) : Option (Bool) := (rundalelaw3_first.f).bind fun t118 => (if t118 = true then ((size_Round.f a0 a1).bind fun t119 => ((rundaleref1_Round.f k a0 a1).bind fun t120 => (if t119 = t120 then ((size_Alone.f a2 a4).bind fun t121 => ((rundaleref1_Alone.f a2 a4).bind fun t122 => (if (t121 == t122) = true then ((size_Fits.f a2 a3 a4).bind fun t123 => ((rundaleref1_Fits2.f a2 a3 a4).bind fun t124 => (if (t123 == t124) = true then ((size_After.f a2 a4).bind fun t125 => ((rundaleref1_After.f a2 a4).bind fun t126 => (some (t125 == t126)))) else (some false)))) else (some false)))) else (some false)))) else (some false))
theorem rundalelaw3_SizeSays.mono : ∀ a0 a1 a2 a3 a4 k, LeO (rundalelaw3_SizeSays.f k a0 a1 a2 a3 a4) (rundalelaw3_SizeSays.f (k + 1) a0 a1 a2 a3 a4) := by
  intro a0 a1 a2 a3 a4 k
  unfold rundalelaw3_SizeSays.f
  repeat' first
      | (with_reducible exact rundaleref1_Round.mono _ _ _)
      | (with_reducible exact LeO.refl _)
      | (with_reducible exact LeO.none _)
      | (with_reducible refine LeO.ite ?_ ?_)
      | (with_reducible refine LeO.bind ?_ (fun _ => ?_))
      | exact rundaleref1_Round.mono _ _ _
      | exact LeO.none _
      | refine LeO.ite ?_ ?_
      | refine LeO.bind ?_ (fun _ => ?_)
set_option maxHeartbeats 8000000 in
set_option maxRecDepth 100000 in
theorem rundalelaw3_SizeSays.calls (k : Nat) (a0 : Int) (a1 : Int) (a2 : Int) (a3 : Int) (a4 : Int) (r : Bool) (w : World) (h : rundalelaw3_SizeSays.f k a0 a1 a2 a3 a4 = some r) :
    Calls Try.prog 3 #[.int .i64 a0, .int .i64 a1, .int .i64 a2, .int .i64 a3, .int .i64 a4] w fun e w' => e = .returned (.bool r) ∧ Below w.heap.size w w' := by
  have HB := Aside0.mk (Below.refl w.heap.size w)
  have H : ((rundalelaw3_first.f).bind fun t118 => (if t118 = true then ((size_Round.f a0 a1).bind fun t119 => ((rundaleref1_Round.f k a0 a1).bind fun t120 => (if t119 = t120 then ((size_Alone.f a2 a4).bind fun t121 => ((rundaleref1_Alone.f a2 a4).bind fun t122 => (if (t121 == t122) = true then ((size_Fits.f a2 a3 a4).bind fun t123 => ((rundaleref1_Fits2.f a2 a3 a4).bind fun t124 => (if (t123 == t124) = true then ((size_After.f a2 a4).bind fun t125 => ((rundaleref1_After.f a2 a4).bind fun t126 => (some (t125 == t126)))) else (some false)))) else (some false)))) else (some false)))) else (some false))) = some r := h
  clear h
  replace H := Option.bind_eq_some_iff.mp H
  obtain ⟨t118, A60, H⟩ := H
  replace H : (if t118 = true then ((size_Round.f a0 a1).bind fun t119 => ((rundaleref1_Round.f k a0 a1).bind fun t120 => (if t119 = t120 then ((size_Alone.f a2 a4).bind fun t121 => ((rundaleref1_Alone.f a2 a4).bind fun t122 => (if (t121 == t122) = true then ((size_Fits.f a2 a3 a4).bind fun t123 => ((rundaleref1_Fits2.f a2 a3 a4).bind fun t124 => (if (t123 == t124) = true then ((size_After.f a2 a4).bind fun t125 => ((rundaleref1_After.f a2 a4).bind fun t126 => (some (t125 == t126)))) else (some false)))) else (some false)))) else (some false)))) else (some false)) = some r := H
  have A6 := Aside0.mk A60
  clear A60
  by_cases c7 : t118 = true
  · subst c7
    have H1 : ((size_Round.f a0 a1).bind fun t119 => ((rundaleref1_Round.f k a0 a1).bind fun t120 => (if t119 = t120 then ((size_Alone.f a2 a4).bind fun t121 => ((rundaleref1_Alone.f a2 a4).bind fun t122 => (if (t121 == t122) = true then ((size_Fits.f a2 a3 a4).bind fun t123 => ((rundaleref1_Fits2.f a2 a3 a4).bind fun t124 => (if (t123 == t124) = true then ((size_After.f a2 a4).bind fun t125 => ((rundaleref1_After.f a2 a4).bind fun t126 => (some (t125 == t126)))) else (some false)))) else (some false)))) else (some false)))) = some r := by rw [if_pos rfl] at H; exact H
    clear H
    have H := H1
    clear H1
    replace H := Option.bind_eq_some_iff.mp H
    obtain ⟨t119, A80, H⟩ := H
    replace H : ((rundaleref1_Round.f k a0 a1).bind fun t120 => (if t119 = t120 then ((size_Alone.f a2 a4).bind fun t121 => ((rundaleref1_Alone.f a2 a4).bind fun t122 => (if (t121 == t122) = true then ((size_Fits.f a2 a3 a4).bind fun t123 => ((rundaleref1_Fits2.f a2 a3 a4).bind fun t124 => (if (t123 == t124) = true then ((size_After.f a2 a4).bind fun t125 => ((rundaleref1_After.f a2 a4).bind fun t126 => (some (t125 == t126)))) else (some false)))) else (some false)))) else (some false))) = some r := H
    have A8 := Aside0.mk A80
    clear A80
    replace H := Option.bind_eq_some_iff.mp H
    obtain ⟨t120, A90, H⟩ := H
    replace H : (if t119 = t120 then ((size_Alone.f a2 a4).bind fun t121 => ((rundaleref1_Alone.f a2 a4).bind fun t122 => (if (t121 == t122) = true then ((size_Fits.f a2 a3 a4).bind fun t123 => ((rundaleref1_Fits2.f a2 a3 a4).bind fun t124 => (if (t123 == t124) = true then ((size_After.f a2 a4).bind fun t125 => ((rundaleref1_After.f a2 a4).bind fun t126 => (some (t125 == t126)))) else (some false)))) else (some false)))) else (some false)) = some r := H
    have A9 := Aside0.mk A90
    clear A90
    by_cases c10 : t119 = t120
    · rw [if_pos c10] at H
      have c10b0 : (t119 == t120) = true := beq_iff_eq.mpr c10
      have c10b1 : (t119 != t120) = false := bne_eq_false_iff_eq.mpr c10
      clear c10
      replace H := Option.bind_eq_some_iff.mp H
      obtain ⟨t121, A110, H⟩ := H
      replace H : ((rundaleref1_Alone.f a2 a4).bind fun t122 => (if (t121 == t122) = true then ((size_Fits.f a2 a3 a4).bind fun t123 => ((rundaleref1_Fits2.f a2 a3 a4).bind fun t124 => (if (t123 == t124) = true then ((size_After.f a2 a4).bind fun t125 => ((rundaleref1_After.f a2 a4).bind fun t126 => (some (t125 == t126)))) else (some false)))) else (some false))) = some r := H
      have A11 := Aside0.mk A110
      clear A110
      replace H := Option.bind_eq_some_iff.mp H
      obtain ⟨t122, A120, H⟩ := H
      replace H : (if (t121 == t122) = true then ((size_Fits.f a2 a3 a4).bind fun t123 => ((rundaleref1_Fits2.f a2 a3 a4).bind fun t124 => (if (t123 == t124) = true then ((size_After.f a2 a4).bind fun t125 => ((rundaleref1_After.f a2 a4).bind fun t126 => (some (t125 == t126)))) else (some false)))) else (some false)) = some r := H
      have A12 := Aside0.mk A120
      clear A120
      by_cases c13 : (t121 == t122) = true
      · rw [if_pos c13] at H
        have c13b0 : (t121 == t122) = true := c13
        (try (have c13b1 : decide (t121 = t122) = true := by simpa using c13))
        (try (have c13b2 : (t121 == t122) = true := by simpa using c13))
        clear c13
        replace H := Option.bind_eq_some_iff.mp H
        obtain ⟨t123, A140, H⟩ := H
        replace H : ((rundaleref1_Fits2.f a2 a3 a4).bind fun t124 => (if (t123 == t124) = true then ((size_After.f a2 a4).bind fun t125 => ((rundaleref1_After.f a2 a4).bind fun t126 => (some (t125 == t126)))) else (some false))) = some r := H
        have A14 := Aside0.mk A140
        clear A140
        replace H := Option.bind_eq_some_iff.mp H
        obtain ⟨t124, A150, H⟩ := H
        replace H : (if (t123 == t124) = true then ((size_After.f a2 a4).bind fun t125 => ((rundaleref1_After.f a2 a4).bind fun t126 => (some (t125 == t126)))) else (some false)) = some r := H
        have A15 := Aside0.mk A150
        clear A150
        by_cases c16 : (t123 == t124) = true
        · rw [if_pos c16] at H
          have c16b0 : (t123 == t124) = true := c16
          (try (have c16b1 : decide (t123 = t124) = true := by simpa using c16))
          (try (have c16b2 : (t123 == t124) = true := by simpa using c16))
          clear c16
          replace H := Option.bind_eq_some_iff.mp H
          obtain ⟨t125, A170, H⟩ := H
          replace H : ((rundaleref1_After.f a2 a4).bind fun t126 => (some (t125 == t126))) = some r := H
          have A17 := Aside0.mk A170
          clear A170
          replace H := Option.bind_eq_some_iff.mp H
          obtain ⟨t126, A180, H⟩ := H
          replace H : (some (t125 == t126)) = some r := H
          have A18 := Aside0.mk A180
          clear A180
          obtain rfl := Option.some.inj H
          go_enter Try.func3, Try.ntmps3
          go_wp2_with (first | ((with_reducible refine gate_callee (f := 14) rfl ?_); refine goesL_ (some 12) rfl rfl Try.func14 (by kernel_rfl) rfl #[] rfl (by (try simp only [List.map_toArray, List.map_cons, List.map_nil]); first | done | rfl | (simp only [List.length_drop, List.length_take]; rfl)) ?_; (with_reducible refine (rundalelaw3_first.calls  true _ A6.out).mono ?_); rintro e w19 ⟨rfl, hb⟩; refine ⟨_, rfl, ?_⟩; have n0_ := Aside0.mk (below_step (by repeat (first | (with_reducible first | exact HB.out | apply below_alloc | apply pw_below_drewN | apply below_drew1) | exact HB.out)) hb); clear HB; have HB := n0_; clear n0_; (try clear hb); (try clear hb2); (try clear hk); (try clear hi)) | (go_at_call 15; (with_reducible refine (size_Round.calls a0 a1 t119 _ A8.out).mono ?_); rintro e w20 ⟨rfl, hb⟩; have n0_ := Aside0.mk (below_step (by repeat (first | (with_reducible first | exact HB.out | apply below_alloc | apply pw_below_drewN | apply below_drew1) | exact HB.out)) hb); clear HB; have HB := n0_; clear n0_; (try clear hb); (try clear hb2); (try clear hk); (try clear hi)) | (go_at_call 16; (with_reducible refine (rundaleref1_Round.calls k a0 a1 t120 _ A9.out).mono ?_); rintro e w' ⟨rfl, ⟨nd, rfl⟩⟩) | (go_at_call 17; (with_reducible refine (size_Alone.calls a2 a4 t121 _ A11.out).mono ?_); rintro e w' ⟨rfl, ⟨nd, rfl⟩⟩) | (go_at_call 18; (with_reducible refine (rundaleref1_Alone.calls a2 a4 t122 _ A12.out).mono ?_); rintro e w' ⟨rfl, ⟨nd, rfl⟩⟩) | (go_at_call 19; (with_reducible refine (size_Fits.calls a2 a3 a4 t123 _ A14.out).mono ?_); rintro e w' ⟨rfl, ⟨nd, rfl⟩⟩) | (go_at_call 20; (with_reducible refine (rundaleref1_Fits2.calls a2 a3 a4 t124 _ A15.out).mono ?_); rintro e w' ⟨rfl, ⟨nd, rfl⟩⟩) | (go_at_call 21; (with_reducible refine (size_After.calls a2 a4 t125 _ A17.out).mono ?_); rintro e w' ⟨rfl, ⟨nd, rfl⟩⟩) | (go_at_call 22; (with_reducible refine (rundaleref1_After.calls a2 a4 t126 _ A18.out).mono ?_); rintro e w' ⟨rfl, ⟨nd, rfl⟩⟩))
          go_ret
          exact ⟨by first | rfl | (simp [errW_none, errW_some] <;> rfl) | (simp [*, errW_none, errW_some] <;> rfl), by repeat (first | (with_reducible first | exact HB.out | apply below_alloc | apply pw_below_drewN | apply below_drew1) | exact HB.out)⟩
        · rw [if_neg c16] at H
          have c16b0 : (t123 == t124) = false := by simpa using c16
          (try (have c16b1 : decide (t123 = t124) = false := by simpa using c16))
          (try (have c16b2 : (t123 == t124) = false := by simpa using c16))
          (try (have c16b3 : ¬ (t123 = t124) := by simpa using c16))
          clear c16
          obtain rfl := Option.some.inj H
          go_enter Try.func3, Try.ntmps3
          go_wp2_with (first | ((with_reducible refine gate_callee (f := 14) rfl ?_); refine goesL_ (some 12) rfl rfl Try.func14 (by kernel_rfl) rfl #[] rfl (by (try simp only [List.map_toArray, List.map_cons, List.map_nil]); first | done | rfl | (simp only [List.length_drop, List.length_take]; rfl)) ?_; (with_reducible refine (rundalelaw3_first.calls  true _ A6.out).mono ?_); rintro e w21 ⟨rfl, hb⟩; refine ⟨_, rfl, ?_⟩; have n0_ := Aside0.mk (below_step (by repeat (first | (with_reducible first | exact HB.out | apply below_alloc | apply pw_below_drewN | apply below_drew1) | exact HB.out)) hb); clear HB; have HB := n0_; clear n0_; (try clear hb); (try clear hb2); (try clear hk); (try clear hi)) | (go_at_call 15; (with_reducible refine (size_Round.calls a0 a1 t119 _ A8.out).mono ?_); rintro e w22 ⟨rfl, hb⟩; have n0_ := Aside0.mk (below_step (by repeat (first | (with_reducible first | exact HB.out | apply below_alloc | apply pw_below_drewN | apply below_drew1) | exact HB.out)) hb); clear HB; have HB := n0_; clear n0_; (try clear hb); (try clear hb2); (try clear hk); (try clear hi)) | (go_at_call 16; (with_reducible refine (rundaleref1_Round.calls k a0 a1 t120 _ A9.out).mono ?_); rintro e w' ⟨rfl, ⟨nd, rfl⟩⟩) | (go_at_call 17; (with_reducible refine (size_Alone.calls a2 a4 t121 _ A11.out).mono ?_); rintro e w' ⟨rfl, ⟨nd, rfl⟩⟩) | (go_at_call 18; (with_reducible refine (rundaleref1_Alone.calls a2 a4 t122 _ A12.out).mono ?_); rintro e w' ⟨rfl, ⟨nd, rfl⟩⟩) | (go_at_call 19; (with_reducible refine (size_Fits.calls a2 a3 a4 t123 _ A14.out).mono ?_); rintro e w' ⟨rfl, ⟨nd, rfl⟩⟩) | (go_at_call 20; (with_reducible refine (rundaleref1_Fits2.calls a2 a3 a4 t124 _ A15.out).mono ?_); rintro e w' ⟨rfl, ⟨nd, rfl⟩⟩))
          go_ret
          exact ⟨by first | rfl | (simp [errW_none, errW_some] <;> rfl) | (simp [*, errW_none, errW_some] <;> rfl), by repeat (first | (with_reducible first | exact HB.out | apply below_alloc | apply pw_below_drewN | apply below_drew1) | exact HB.out)⟩
      · rw [if_neg c13] at H
        have c13b0 : (t121 == t122) = false := by simpa using c13
        (try (have c13b1 : decide (t121 = t122) = false := by simpa using c13))
        (try (have c13b2 : (t121 == t122) = false := by simpa using c13))
        (try (have c13b3 : ¬ (t121 = t122) := by simpa using c13))
        clear c13
        obtain rfl := Option.some.inj H
        go_enter Try.func3, Try.ntmps3
        go_wp2_with (first | ((with_reducible refine gate_callee (f := 14) rfl ?_); refine goesL_ (some 12) rfl rfl Try.func14 (by kernel_rfl) rfl #[] rfl (by (try simp only [List.map_toArray, List.map_cons, List.map_nil]); first | done | rfl | (simp only [List.length_drop, List.length_take]; rfl)) ?_; (with_reducible refine (rundalelaw3_first.calls  true _ A6.out).mono ?_); rintro e w23 ⟨rfl, hb⟩; refine ⟨_, rfl, ?_⟩; have n0_ := Aside0.mk (below_step (by repeat (first | (with_reducible first | exact HB.out | apply below_alloc | apply pw_below_drewN | apply below_drew1) | exact HB.out)) hb); clear HB; have HB := n0_; clear n0_; (try clear hb); (try clear hb2); (try clear hk); (try clear hi)) | (go_at_call 15; (with_reducible refine (size_Round.calls a0 a1 t119 _ A8.out).mono ?_); rintro e w24 ⟨rfl, hb⟩; have n0_ := Aside0.mk (below_step (by repeat (first | (with_reducible first | exact HB.out | apply below_alloc | apply pw_below_drewN | apply below_drew1) | exact HB.out)) hb); clear HB; have HB := n0_; clear n0_; (try clear hb); (try clear hb2); (try clear hk); (try clear hi)) | (go_at_call 16; (with_reducible refine (rundaleref1_Round.calls k a0 a1 t120 _ A9.out).mono ?_); rintro e w' ⟨rfl, ⟨nd, rfl⟩⟩) | (go_at_call 17; (with_reducible refine (size_Alone.calls a2 a4 t121 _ A11.out).mono ?_); rintro e w' ⟨rfl, ⟨nd, rfl⟩⟩) | (go_at_call 18; (with_reducible refine (rundaleref1_Alone.calls a2 a4 t122 _ A12.out).mono ?_); rintro e w' ⟨rfl, ⟨nd, rfl⟩⟩))
        go_ret
        exact ⟨by first | rfl | (simp [errW_none, errW_some] <;> rfl) | (simp [*, errW_none, errW_some] <;> rfl), by repeat (first | (with_reducible first | exact HB.out | apply below_alloc | apply pw_below_drewN | apply below_drew1) | exact HB.out)⟩
    · rw [if_neg c10] at H
      have c10b0 : (t119 == t120) = false := beq_eq_false_iff_ne.mpr c10
      have c10b1 : (t119 != t120) = true := bne_iff_ne.mpr c10
      obtain rfl := Option.some.inj H
      go_enter Try.func3, Try.ntmps3
      go_wp2_with (first | ((with_reducible refine gate_callee (f := 14) rfl ?_); refine goesL_ (some 12) rfl rfl Try.func14 (by kernel_rfl) rfl #[] rfl (by (try simp only [List.map_toArray, List.map_cons, List.map_nil]); first | done | rfl | (simp only [List.length_drop, List.length_take]; rfl)) ?_; (with_reducible refine (rundalelaw3_first.calls  true _ A6.out).mono ?_); rintro e w25 ⟨rfl, hb⟩; refine ⟨_, rfl, ?_⟩; have n0_ := Aside0.mk (below_step (by repeat (first | (with_reducible first | exact HB.out | apply below_alloc | apply pw_below_drewN | apply below_drew1) | exact HB.out)) hb); clear HB; have HB := n0_; clear n0_; (try clear hb); (try clear hb2); (try clear hk); (try clear hi)) | (go_at_call 15; (with_reducible refine (size_Round.calls a0 a1 t119 _ A8.out).mono ?_); rintro e w26 ⟨rfl, hb⟩; have n0_ := Aside0.mk (below_step (by repeat (first | (with_reducible first | exact HB.out | apply below_alloc | apply pw_below_drewN | apply below_drew1) | exact HB.out)) hb); clear HB; have HB := n0_; clear n0_; (try clear hb); (try clear hb2); (try clear hk); (try clear hi)) | (go_at_call 16; (with_reducible refine (rundaleref1_Round.calls k a0 a1 t120 _ A9.out).mono ?_); rintro e w' ⟨rfl, ⟨nd, rfl⟩⟩))
      go_ret
      exact ⟨by first | rfl | (simp [errW_none, errW_some] <;> rfl) | (simp [*, errW_none, errW_some] <;> rfl), by repeat (first | (with_reducible first | exact HB.out | apply below_alloc | apply pw_below_drewN | apply below_drew1) | exact HB.out)⟩
  · replace c7 := Bool.eq_false_iff.mpr c7
    subst c7
    have H1 : (some false) = some r := by rw [if_neg (show ¬ (false = true) by decide)] at H; exact H
    clear H
    have H := H1
    clear H1
    obtain rfl := Option.some.inj H
    go_enter Try.func3, Try.ntmps3
    go_wp2_with (first | ((with_reducible refine gate_callee (f := 14) rfl ?_); refine goesL_ (some 12) rfl rfl Try.func14 (by kernel_rfl) rfl #[] rfl (by (try simp only [List.map_toArray, List.map_cons, List.map_nil]); first | done | rfl | (simp only [List.length_drop, List.length_take]; rfl)) ?_; (with_reducible refine (rundalelaw3_first.calls  false _ A6.out).mono ?_); rintro e w27 ⟨rfl, hb⟩; refine ⟨_, rfl, ?_⟩; have n0_ := Aside0.mk (below_step (by repeat (first | (with_reducible first | exact HB.out | apply below_alloc | apply pw_below_drewN | apply below_drew1) | exact HB.out)) hb); clear HB; have HB := n0_; clear n0_; (try clear hb); (try clear hb2); (try clear hk); (try clear hi)))
    go_ret
    exact ⟨by first | rfl | (simp [errW_none, errW_some] <;> rfl) | (simp [*, errW_none, errW_some] <;> rfl), by repeat (first | (with_reducible first | exact HB.out | apply below_alloc | apply pw_below_drewN | apply below_drew1) | exact HB.out)⟩

/-- THE ONE PURE STATEMENT of rundalelaw3_SizeSays: yours. -/
def rundalelaw3_SizeSays.Pure : Prop := ∀ (a0 : Int) (a1 : Int) (a2 : Int) (a3 : Int) (a4 : Int), (Lit.int .i64 a0).wf = true → (Lit.int .i64 a1).wf = true → (Lit.int .i64 a2).wf = true → (Lit.int .i64 a3).wf = true → (Lit.int .i64 a4).wf = true → ∃ k, rundalelaw3_SizeSays.f k a0 a1 a2 a3 a4 = some true
theorem rundalelaw3_SizeSays.walk (P : rundalelaw3_SizeSays.Pure) (a0 : Int) (a1 : Int) (a2 : Int) (a3 : Int) (a4 : Int) (w : World) (w0 : (Lit.int .i64 a0).wf = true) (w1 : (Lit.int .i64 a1).wf = true) (w2 : (Lit.int .i64 a2).wf = true) (w3 : (Lit.int .i64 a3).wf = true) (w4 : (Lit.int .i64 a4).wf = true) :
    Calls Try.prog 3 #[.int .i64 a0, .int .i64 a1, .int .i64 a2, .int .i64 a3, .int .i64 a4] w fun e w' => e = .returned (.bool true) ∧ Below w.heap.size w w' := by
  obtain ⟨k, h⟩ := P a0 a1 a2 a3 a4 w0 w1 w2 w3 w4
  refine (rundalelaw3_SizeSays.calls k a0 a1 a2 a3 a4 true w h).mono ?_
  rintro e w' ⟨rfl, hd⟩
  exact ⟨rfl, hd⟩

end Go.Proofs.Ytkploakfdlnbbaa.PSizeSays
