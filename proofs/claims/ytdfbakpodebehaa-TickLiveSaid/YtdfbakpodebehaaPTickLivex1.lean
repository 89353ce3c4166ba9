-- PRINTED BY print.sh 35421559b90ae4d0a3588c463048766b98c2df88dd9212a6774a882060cdf62d: not written by this session
import Derived.Test.YtdfbakpodebehaaPTickLivex0
namespace Go.Proofs.Ytdfbakpodebehaa.PTickLive
open Go.RowKit Go.Proofs.YtdfbakpodebehaaW.PrintWords Go.Proofs.YtdfbakpodebehaaW.PrintLast Go.Proofs.YtdfbakpodebehaaW.PrintMore
attribute [local go_sem] max2_int min2_int max_two min_two max_three min_three max_four min_four   -- for this text's walks alone
set_option linter.unusedVariables false
set_option linter.unusedSimpArgs false

/-! ### tick_Add: function 10 -/
def tick_Add.f (a0 : Int) (a1 : Int) : Option (Int) := if a1 > (IntKind.u64.wrap (18446744073709551615 - a0)) then (some 18446744073709551615) else (some (IntKind.u64.wrap (a0 + a1)))
set_option maxHeartbeats 8000000 in
set_option maxRecDepth 100000 in
theorem tick_Add.calls (a0 : Int) (a1 : Int) (r : Int) (w : World) (h : tick_Add.f a0 a1 = some r) :
    Calls Try.prog 10 #[.int .u64 a0, .int .u64 a1] w fun e w' => e = .returned (.int .u64 r) ∧ Drawn0 w w' := by
  have H : (if a1 > (IntKind.u64.wrap (18446744073709551615 - a0)) then (some 18446744073709551615) else (some (IntKind.u64.wrap (a0 + a1)))) = some r := h
  clear h
  by_cases c3 : a1 > (IntKind.u64.wrap (18446744073709551615 - a0))
  · rw [if_pos c3] at H
    have c3b0 : decide ((IntKind.u64.wrap (18446744073709551615 - a0)) < a1) = true := decide_eq_true c3
    clear c3
    obtain rfl := Option.some.inj H
    go_enter Try.func10, Try.ntmps10
    go_wp2
    go_ret
    exact ⟨by first | rfl | (simp; done) | (simp [*]; done), by repeat (first | exact Drawn0.refl _ | apply Drawn0.step)⟩
  · rw [if_neg c3] at H
    have c3b0 : decide ((IntKind.u64.wrap (18446744073709551615 - a0)) < a1) = false := decide_eq_false c3
    clear c3
    obtain rfl := Option.some.inj H
    go_enter Try.func10, Try.ntmps10
    go_wp2
    go_ret
    exact ⟨by first | rfl | (simp; done) | (simp [*]; done), by repeat (first | exact Drawn0.refl _ | apply Drawn0.step)⟩

/-! ### tick_Late: function 11 -/
def tick_Late.f (a0 : Int) (a1 : Int) : Option (Bool) := some (decide (a1 ≤ a0))
set_option maxHeartbeats 8000000 in
set_option maxRecDepth 100000 in
theorem tick_Late.calls (a0 : Int) (a1 : Int) (r : Bool) (w : World) (h : tick_Late.f a0 a1 = some r) :
    Calls Try.prog 11 #[.int .u64 a0, .int .u64 a1] w fun e w' => e = .returned (.bool r) ∧ Drawn0 w w' := by
  have H : (some (decide (a1 ≤ a0))) = some r := h
  clear h
  obtain rfl := Option.some.inj H
  go_enter Try.func11, Try.ntmps11
  go_wp2
  go_ret
  exact ⟨by first | rfl | (simp; done) | (simp [*]; done), by repeat (first | exact Drawn0.refl _ | apply Drawn0.step)⟩

/-! ### doormanlaw01_awake: function 9 -/
def doormanlaw01_awake.f  : Option (Bool) := (tick_Add.f 18446744073709551614 5).bind fun t101 => (if t101 = 18446744073709551615 then ((tick_Late.f 3 3).bind fun t102 => (if t102 = true then ((tick_Late.f 2 3).bind fun t103 => (some (!t103))) else (some false))) else (some false))
set_option maxHeartbeats 8000000 in
set_option maxRecDepth 100000 in
theorem doormanlaw01_awake.calls  (r : Bool) (w : World) (h : doormanlaw01_awake.f  = some r) :
    Calls Try.prog 9 #[] w fun e w' => e = .returned (.bool r) ∧ Drawn0 w w' := by
  have H : ((tick_Add.f 18446744073709551614 5).bind fun t101 => (if t101 = 18446744073709551615 then ((tick_Late.f 3 3).bind fun t102 => (if t102 = true then ((tick_Late.f 2 3).bind fun t103 => (some (!t103))) else (some false))) else (some false))) = some r := h
  clear h
  replace H := Option.bind_eq_some_iff.mp H
  obtain ⟨t101, A10, H⟩ := H
  replace H : (if t101 = 18446744073709551615 then ((tick_Late.f 3 3).bind fun t102 => (if t102 = true then ((tick_Late.f 2 3).bind fun t103 => (some (!t103))) else (some false))) else (some false)) = some r := H
  have A1 := Aside0.mk A10
  clear A10
  by_cases c2 : t101 = 18446744073709551615
  · rw [if_pos c2] at H
    have c2b0 : (t101 == 18446744073709551615) = true := beq_iff_eq.mpr c2
    have c2b1 : (t101 != 18446744073709551615) = false := bne_eq_false_iff_eq.mpr c2
    clear c2
    replace H := Option.bind_eq_some_iff.mp H
    obtain ⟨t102, A30, H⟩ := H
    replace H : (if t102 = true then ((tick_Late.f 2 3).bind fun t103 => (some (!t103))) else (some false)) = some r := H
    have A3 := Aside0.mk A30
    clear A30
    by_cases c4 : t102 = true
    · subst c4
      have H1 : ((tick_Late.f 2 3).bind fun t103 => (some (!t103))) = some r := by rw [if_pos rfl] at H; exact H
      clear H
      have H := H1
      clear H1
      replace H := Option.bind_eq_some_iff.mp H
      obtain ⟨t103, A50, H⟩ := H
      replace H : (some (!t103)) = some r := H
      have A5 := Aside0.mk A50
      clear A50
      obtain rfl := Option.some.inj H
      go_enter Try.func9, Try.ntmps9
      go_wp2_with (first | ((with_reducible refine gate_callee (f := 10) rfl ?_); refine goesL_ (some 1) rfl rfl Try.func10 (by kernel_rfl) rfl #[.int .u64 18446744073709551614, .int .u64 5] rfl (by (try simp only [List.map_toArray, List.map_cons, List.map_nil]); first | done | rfl | (simp only [List.length_drop, List.length_take]; rfl)) ?_; (with_reducible refine (tick_Add.calls 18446744073709551614 5 t101 _ A1.out).mono ?_); rintro e w' ⟨rfl, ⟨nd, rfl⟩⟩; refine ⟨_, rfl, ?_⟩) | (go_at_call 11; (with_reducible refine (tick_Late.calls 3 3 true _ A3.out).mono ?_); rintro e w' ⟨rfl, ⟨nd, rfl⟩⟩) | (go_at_call 11; (with_reducible refine (tick_Late.calls 2 3 t103 _ A5.out).mono ?_); rintro e w' ⟨rfl, ⟨nd, rfl⟩⟩))
      go_ret
      exact ⟨by first | rfl | (simp; done) | (simp [*]; done), by repeat (first | exact Drawn0.refl _ | apply Drawn0.step)⟩
    · replace c4 := Bool.eq_false_iff.mpr c4
      subst c4
      have H1 : (some false) = some r := by rw [if_neg (show ¬ (false = true) by decide)] at H; exact H
      clear H
      have H := H1
      clear H1
      obtain rfl := Option.some.inj H
      go_enter Try.func9, Try.ntmps9
      go_wp2_with (first | ((with_reducible refine gate_callee (f := 10) rfl ?_); refine goesL_ (some 1) rfl rfl Try.func10 (by kernel_rfl) rfl #[.int .u64 18446744073709551614, .int .u64 5] rfl (by (try simp only [List.map_toArray, List.map_cons, List.map_nil]); first | done | rfl | (simp only [List.length_drop, List.length_take]; rfl)) ?_; (with_reducible refine (tick_Add.calls 18446744073709551614 5 t101 _ A1.out).mono ?_); rintro e w' ⟨rfl, ⟨nd, rfl⟩⟩; refine ⟨_, rfl, ?_⟩) | (go_at_call 11; (with_reducible refine (tick_Late.calls 3 3 false _ A3.out).mono ?_); rintro e w' ⟨rfl, ⟨nd, rfl⟩⟩))
      go_ret
      exact ⟨by first | rfl | (simp; done) | (simp [*]; done), by repeat (first | exact Drawn0.refl _ | apply Drawn0.step)⟩
  · rw [if_neg c2] at H
    have c2b0 : (t101 == 18446744073709551615) = false := beq_eq_false_iff_ne.mpr c2
    have c2b1 : (t101 != 18446744073709551615) = true := bne_iff_ne.mpr c2
    obtain rfl := Option.some.inj H
    go_enter Try.func9, Try.ntmps9
    go_wp2_with (first | ((with_reducible refine gate_callee (f := 10) rfl ?_); refine goesL_ (some 1) rfl rfl Try.func10 (by kernel_rfl) rfl #[.int .u64 18446744073709551614, .int .u64 5] rfl (by (try simp only [List.map_toArray, List.map_cons, List.map_nil]); first | done | rfl | (simp only [List.length_drop, List.length_take]; rfl)) ?_; (with_reducible refine (tick_Add.calls 18446744073709551614 5 t101 _ A1.out).mono ?_); rintro e w' ⟨rfl, ⟨nd, rfl⟩⟩; refine ⟨_, rfl, ?_⟩))
    go_ret
    exact ⟨by first | rfl | (simp; done) | (simp [*]; done), by repeat (first | exact Drawn0.refl _ | apply Drawn0.step)⟩

/-! ### doormanlaw01_TickLive: function 3 -/
def doormanlaw01_TickLive.j0 : Nat → Int → Int → Bool → Option (Bool)
  | 0, _, _, _ => none
  | k + 1, x0, x7, x26 => if x26 = true then (some false) else ((tick_Late.f x0 x7).bind fun t108 => (if (t108 == (x7 == x0)) = true then ((tick_Late.f x7 x7).bind fun t109 => (some t109)) else (some false)))
def doormanlaw01_TickLive.f (k : Nat) (a0 : Int) (a1 : Int) (a2 : Int) : Option (Bool) := (doormanlaw01_awake.f).bind fun t104 => (if t104 = true then ((tick_Add.f a0 a2).bind fun t105 => (if a1 ≤ a0 then ((tick_Late.f a0 t105).bind fun t106 => (if t106 = true then (doormanlaw01_TickLive.j0 k a0 t105 false) else ((tick_Late.f a1 t105).bind fun t107 => (doormanlaw01_TickLive.j0 k a0 t105 t107)))) else (doormanlaw01_TickLive.j0 k a0 t105 false))) else (some false))
theorem doormanlaw01_TickLive.mono_l : ∀ k, (∀ y0 y1 y2, LeO (doormanlaw01_TickLive.j0 k y0 y1 y2) (doormanlaw01_TickLive.j0 (k + 1) y0 y1 y2))
  | 0 => fun _ _ _ r h => by simp [doormanlaw01_TickLive.j0] at h
  | k + 1 => by
    have ih0 := doormanlaw01_TickLive.mono_l k
    · intro y0 y1 y2
      unfold doormanlaw01_TickLive.j0
      repeat' first
      | (with_reducible exact ih0 _ _ _)
      | (with_reducible exact LeO.refl _)
      | (with_reducible exact LeO.none _)
      | (with_reducible refine LeO.ite ?_ ?_)
      | (with_reducible refine LeO.bind ?_ (fun _ => ?_))
      | exact ih0 _ _ _
      | exact LeO.none _
      | refine LeO.ite ?_ ?_
      | refine LeO.bind ?_ (fun _ => ?_)
theorem doormanlaw01_TickLive.mono : ∀ a0 a1 a2 k, LeO (doormanlaw01_TickLive.f k a0 a1 a2) (doormanlaw01_TickLive.f (k + 1) a0 a1 a2) := by
  intro a0 a1 a2 k
  have ih0 := doormanlaw01_TickLive.mono_l k
  unfold doormanlaw01_TickLive.f
  repeat' first
      | (with_reducible exact ih0 _ _ _)
      | (with_reducible exact LeO.refl _)
      | (with_reducible exact LeO.none _)
      | (with_reducible refine LeO.ite ?_ ?_)
      | (with_reducible refine LeO.bind ?_ (fun _ => ?_))
      | exact ih0 _ _ _
      | exact LeO.none _
      | refine LeO.ite ?_ ?_
      | refine LeO.bind ?_ (fun _ => ?_)
set_option maxHeartbeats 8000000 in
set_option maxRecDepth 100000 in
theorem doormanlaw01_TickLive.calls (k : Nat) (a0 : Int) (a1 : Int) (a2 : Int) (r : Bool) (w : World) (h : doormanlaw01_TickLive.f k a0 a1 a2 = some r) :
    Calls Try.prog 3 #[.int .u64 a0, .int .u64 a1, .int .u64 a2] w fun e w' => e = .returned (.bool r) ∧ Drawn0 w w' := by
  have H : ((doormanlaw01_awake.f).bind fun t104 => (if t104 = true then ((tick_Add.f a0 a2).bind fun t105 => (if a1 ≤ a0 then ((tick_Late.f a0 t105).bind fun t106 => (if t106 = true then (doormanlaw01_TickLive.j0 k a0 t105 false) else ((tick_Late.f a1 t105).bind fun t107 => (doormanlaw01_TickLive.j0 k a0 t105 t107)))) else (doormanlaw01_TickLive.j0 k a0 t105 false))) else (some false))) = some r := h
  clear h
  replace H := Option.bind_eq_some_iff.mp H
  obtain ⟨t104, A40, H⟩ := H
  replace H : (if t104 = true then ((tick_Add.f a0 a2).bind fun t105 => (if a1 ≤ a0 then ((tick_Late.f a0 t105).bind fun t106 => (if t106 = true then (doormanlaw01_TickLive.j0 k a0 t105 false) else ((tick_Late.f a1 t105).bind fun t107 => (doormanlaw01_TickLive.j0 k a0 t105 t107)))) else (doormanlaw01_TickLive.j0 k a0 t105 false))) else (some false)) = some r := H
  have A4 := Aside0.mk A40
  clear A40
  by_cases c5 : t104 = true
  · subst c5
    have H1 : ((tick_Add.f a0 a2).bind fun t105 => (if a1 ≤ a0 then ((tick_Late.f a0 t105).bind fun t106 => (if t106 = true then (doormanlaw01_TickLive.j0 k a0 t105 false) else ((tick_Late.f a1 t105).bind fun t107 => (doormanlaw01_TickLive.j0 k a0 t105 t107)))) else (doormanlaw01_TickLive.j0 k a0 t105 false))) = some r := by rw [if_pos rfl] at H; exact H
    clear H
    have H := H1
    clear H1
    replace H := Option.bind_eq_some_iff.mp H
    obtain ⟨t105, A60, H⟩ := H
    replace H : (if a1 ≤ a0 then ((tick_Late.f a0 t105).bind fun t106 => (if t106 = true then (doormanlaw01_TickLive.j0 k a0 t105 false) else ((tick_Late.f a1 t105).bind fun t107 => (doormanlaw01_TickLive.j0 k a0 t105 t107)))) else (doormanlaw01_TickLive.j0 k a0 t105 false)) = some r := H
    have A6 := Aside0.mk A60
    clear A60
    have HC7 := Aside0.mk H
    clear H
    go_enter Try.func3, Try.ntmps3
    go_upto_region 4 with (first | ((with_reducible refine gate_callee (f := 9) rfl ?_); refine goesL_ (some 8) rfl rfl Try.func9 (by kernel_rfl) rfl #[] rfl (by (try simp only [List.map_toArray, List.map_cons, List.map_nil]); first | done | rfl | (simp only [List.length_drop, List.length_take]; rfl)) ?_; (with_reducible refine (doormanlaw01_awake.calls  true _ A4.out).mono ?_); rintro e w' ⟨rfl, ⟨nd, rfl⟩⟩; refine ⟨_, rfl, ?_⟩) | ((with_reducible refine gate_callee (f := 10) rfl ?_); refine goesL_ (some 12) rfl rfl Try.func10 (by kernel_rfl) rfl #[.int .u64 a0, .int .u64 a2] rfl (by (try simp only [List.map_toArray, List.map_cons, List.map_nil]); first | done | rfl | (simp only [List.length_drop, List.length_take]; rfl)) ?_; (with_reducible refine (tick_Add.calls a0 a2 t105 _ A6.out).mono ?_); rintro e w' ⟨rfl, ⟨nd, rfl⟩⟩; refine ⟨_, rfl, ?_⟩))
    (try simp only [Act.put, List.setIfInBounds_toArray, List.set_cons_zero, List.set_cons_succ])
    go_cut [26] (fun v26 wc => ∃ (kq : Nat) (x26_6 : Bool), v26 = .bool x26_6 ∧ Aside0 (doormanlaw01_TickLive.j0 kq a0 t105 x26_6 = some r) ∧ Aside0 (kq ≤ k) ∧ Drawn0 w wc)
    case first =>
      have H := HC7.out
      clear HC7
      by_cases c8 : a1 ≤ a0
      · rw [if_pos c8] at H
        have c8b0 : decide (a1 ≤ a0) = true := decide_eq_true c8
        clear c8
        (first | rw [c8b0] | (simp only [i64_w, i32_w]; rw [c8b0]) | skip)
        replace H := Option.bind_eq_some_iff.mp H
        obtain ⟨t106, A90, H⟩ := H
        replace H : (if t106 = true then (doormanlaw01_TickLive.j0 k a0 t105 false) else ((tick_Late.f a1 t105).bind fun t107 => (doormanlaw01_TickLive.j0 k a0 t105 t107))) = some r := H
        have A9 := Aside0.mk A90
        clear A90
        by_cases c10 : t106 = true
        · subst c10
          have H1 : (doormanlaw01_TickLive.j0 k a0 t105 false) = some r := by rw [if_pos rfl] at H; exact H
          clear H
          have H := H1
          clear H1
          have H' := Aside0.mk H
          clear H
          go_wp2_with (first | (go_at_call 11; (with_reducible refine (tick_Late.calls a0 t105 true _ A9.out).mono ?_); rintro e w' ⟨rfl, ⟨nd, rfl⟩⟩))
          go_meet
          case rel => exact ⟨_, (false), (by first | rfl | (simp; done) | (simp [*]; done)), H', ⟨by first | omega | exact Nat.le_refl _⟩, by repeat (first | exact Drawn0.refl _ | apply Drawn0.step)⟩
        · replace c10 := Bool.eq_false_iff.mpr c10
          subst c10
          have H1 : ((tick_Late.f a1 t105).bind fun t107 => (doormanlaw01_TickLive.j0 k a0 t105 t107)) = some r := by rw [if_neg (show ¬ (false = true) by decide)] at H; exact H
          clear H
          have H := H1
          clear H1
          replace H := Option.bind_eq_some_iff.mp H
          obtain ⟨t107, A110, H⟩ := H
          replace H : (doormanlaw01_TickLive.j0 k a0 t105 t107) = some r := H
          have A11 := Aside0.mk A110
          clear A110
          have H' := Aside0.mk H
          clear H
          go_wp2_with (first | (go_at_call 11; (with_reducible refine (tick_Late.calls a0 t105 false _ A9.out).mono ?_); rintro e w' ⟨rfl, ⟨nd, rfl⟩⟩) | (go_at_call 11; (with_reducible refine (tick_Late.calls a1 t105 t107 _ A11.out).mono ?_); rintro e w' ⟨rfl, ⟨nd, rfl⟩⟩))
          go_meet
          case rel => exact ⟨_, (t107), (by first | rfl | (simp; done) | (simp [*]; done)), H', ⟨by first | omega | exact Nat.le_refl _⟩, by repeat (first | exact Drawn0.refl _ | apply Drawn0.step)⟩
      · rw [if_neg c8] at H
        have c8b0 : decide (a1 ≤ a0) = false := decide_eq_false c8
        clear c8
        (first | rw [c8b0] | (simp only [i64_w, i32_w]; rw [c8b0]) | skip)
        have H' := Aside0.mk H
        clear H
        go_wp2
        go_meet
        case rel => exact ⟨_, (false), (by first | rfl | (simp; done) | (simp [*]; done)), H', ⟨by first | omega | exact Nat.le_refl _⟩, by repeat (first | exact Drawn0.refl _ | apply Drawn0.step)⟩
    case rest =>
      clear HC7
      try clear c1
      try clear p2
      try clear c3
      try clear c5
      try clear c8
      try clear c8b0
      try clear c9
      try clear c10
      obtain ⟨kq, x26_6, rfl, HA, HJ6, ⟨mc6, rfl⟩⟩ := hcut
      cases kq with
      | zero => exact absurd HA.out (by simp [doormanlaw01_TickLive.j0])
      | succ kj6 =>
        have H := HA.out
        clear HA
        simp only [doormanlaw01_TickLive.j0] at H
        by_cases c12 : x26_6 = true
        · subst c12
          have H1 : (some false) = some r := by rw [if_pos rfl] at H; exact H
          clear H
          have H := H1
          clear H1
          obtain rfl := Option.some.inj H
          go_wp2
          go_ret
          exact ⟨by first | rfl | (simp; done) | (simp [*]; done), by repeat (first | exact Drawn0.refl _ | apply Drawn0.step)⟩
        · replace c12 := Bool.eq_false_iff.mpr c12
          subst c12
          have H1 : ((tick_Late.f a0 t105).bind fun t108 => (if (t108 == (t105 == a0)) = true then ((tick_Late.f t105 t105).bind fun t109 => (some t109)) else (some false))) = some r := by rw [if_neg (show ¬ (false = true) by decide)] at H; exact H
          clear H
          have H := H1
          clear H1
          replace H := Option.bind_eq_some_iff.mp H
          obtain ⟨t108, A130, H⟩ := H
          replace H : (if (t108 == (t105 == a0)) = true then ((tick_Late.f t105 t105).bind fun t109 => (some t109)) else (some false)) = some r := H
          have A13 := Aside0.mk A130
          clear A130
          by_cases c14 : (t108 == (t105 == a0)) = true
          · rw [if_pos c14] at H
            have c14b0 : (t108 == (t105 == a0)) = true := c14
            (try (have c14b1 : decide (t108 = (t105 == a0)) = true := by simpa using c14))
            (try (have c14b2 : (t108 == (t105 == a0)) = true := by simpa using c14))
            clear c14
            replace H := Option.bind_eq_some_iff.mp H
            obtain ⟨t109, A150, H⟩ := H
            replace H : (some t109) = some r := H
            have A15 := Aside0.mk A150
            clear A150
            obtain rfl := Option.some.inj H
            go_wp2_with (first | ((with_reducible refine gate_callee (f := 11) rfl ?_); refine goesL_ (some 29) rfl rfl Try.func11 (by kernel_rfl) rfl #[.int .u64 a0, .int .u64 t105] rfl (by (try simp only [List.map_toArray, List.map_cons, List.map_nil]); first | done | rfl | (simp only [List.length_drop, List.length_take]; rfl)) ?_; (with_reducible refine (tick_Late.calls a0 t105 t108 _ A13.out).mono ?_); rintro e w' ⟨rfl, ⟨nd, rfl⟩⟩; refine ⟨_, rfl, ?_⟩) | (go_at_call 11; (with_reducible refine (tick_Late.calls t105 t105 t109 _ A15.out).mono ?_); rintro e w' ⟨rfl, ⟨nd, rfl⟩⟩))
            go_ret
            exact ⟨by first | rfl | (simp; done) | (simp [*]; done), by repeat (first | exact Drawn0.refl _ | apply Drawn0.step)⟩
          · rw [if_neg c14] at H
            have c14b0 : (t108 == (t105 == a0)) = false := by simpa using c14
            (try (have c14b1 : decide (t108 = (t105 == a0)) = false := by simpa using c14))
            (try (have c14b2 : (t108 == (t105 == a0)) = false := by simpa using c14))
            (try (have c14b3 : ¬ (t108 = (t105 == a0)) := by simpa using c14))
            clear c14
            obtain rfl := Option.some.inj H
            go_wp2_with (first | ((with_reducible refine gate_callee (f := 11) rfl ?_); refine goesL_ (some 29) rfl rfl Try.func11 (by kernel_rfl) rfl #[.int .u64 a0, .int .u64 t105] rfl (by (try simp only [List.map_toArray, List.map_cons, List.map_nil]); first | done | rfl | (simp only [List.length_drop, List.length_take]; rfl)) ?_; (with_reducible refine (tick_Late.calls a0 t105 t108 _ A13.out).mono ?_); rintro e w' ⟨rfl, ⟨nd, rfl⟩⟩; refine ⟨_, rfl, ?_⟩))
            go_ret
            exact ⟨by first | rfl | (simp; done) | (simp [*]; done), by repeat (first | exact Drawn0.refl _ | apply Drawn0.step)⟩
  · replace c5 := Bool.eq_false_iff.mpr c5
    subst c5
    have H1 : (some false) = some r := by rw [if_neg (show ¬ (false = true) by decide)] at H; exact H
    clear H
    have H := H1
    clear H1
    obtain rfl := Option.some.inj H
    go_enter Try.func3, Try.ntmps3
    go_wp2_with (first | ((with_reducible refine gate_callee (f := 9) rfl ?_); refine goesL_ (some 8) rfl rfl Try.func9 (by kernel_rfl) rfl #[] rfl (by (try simp only [List.map_toArray, List.map_cons, List.map_nil]); first | done | rfl | (simp only [List.length_drop, List.length_take]; rfl)) ?_; (with_reducible refine (doormanlaw01_awake.calls  false _ A4.out).mono ?_); rintro e w' ⟨rfl, ⟨nd, rfl⟩⟩; refine ⟨_, rfl, ?_⟩))
    go_ret
    exact ⟨by first | rfl | (simp; done) | (simp [*]; done), by repeat (first | exact Drawn0.refl _ | apply Drawn0.step)⟩

/-- THE ONE PURE STATEMENT of doormanlaw01_TickLive: yours. -/
def doormanlaw01_TickLive.Pure : Prop := ∀ (a0 : Int) (a1 : Int) (a2 : Int), (Lit.int .u64 a0).wf = true → (Lit.int .u64 a1).wf = true → (Lit.int .u64 a2).wf = true → ∃ k, doormanlaw01_TickLive.f k a0 a1 a2 = some true
theorem doormanlaw01_TickLive.walk (P : doormanlaw01_TickLive.Pure) (a0 : Int) (a1 : Int) (a2 : Int) (w : World) (w0 : (Lit.int .u64 a0).wf = true) (w1 : (Lit.int .u64 a1).wf = true) (w2 : (Lit.int .u64 a2).wf = true) :
    Calls Try.prog 3 #[.int .u64 a0, .int .u64 a1, .int .u64 a2] w fun e w' => e = .returned (.bool true) ∧ Below w.heap.size w w' := by
  obtain ⟨k, h⟩ := P a0 a1 a2 w0 w1 w2
  refine (doormanlaw01_TickLive.calls k a0 a1 a2 true w h).mono ?_
  rintro e w' ⟨rfl, hd⟩
  exact ⟨rfl, hd.below⟩

end Go.Proofs.Ytdfbakpodebehaa.PTickLive
