-- PRINTED BY print.sh 35421559b90ae4d0a3588c463048766b98c2df88dd9212a6774a882060cdf62d: not written by this session
import Derived.Test.YthibbgmmfdlbeaaPModeAbovex0
import Derived.Test.YthibbgmmfdlbeaaPModeAbovex1
namespace Go.Proofs.Ythibbgmmfdlbeaa.PModeAbove
open Go.RowKit Go.Proofs.YthibbgmmfdlbeaaW.PrintWords Go.Proofs.YthibbgmmfdlbeaaW.PrintLast Go.Proofs.YthibbgmmfdlbeaaW.PrintMore
attribute [local go_sem] max2_int min2_int max_two min_two max_three min_three max_four min_four   -- for this text's walks alone
set_option linter.unusedVariables false
set_option linter.unusedSimpArgs false

/-! ### padlocklaw14_ModeAbove: function 5 -/
def padlocklaw14_ModeAbove.j0 : Nat → Int → Int → Int → Bool → Option (Bool)
  | 0, _, _, _, _ => none
  | k + 1, x0, x1, x2, x21 => if x21 = true then (some true) else ((mode_Covers.f k x1 x2).bind fun t115 => (if t115 = true then ((mode_Fits.f k x0 x2).bind fun t116 => (if t116 = true then (some true) else ((mode_Above.f k x0).bind fun t117 => ((mode_Fits.f k t117 x1).bind fun t118 => (some (!t118)))))) else (some true)))
def padlocklaw14_ModeAbove.f (k : Nat) (a0 : Int) (a1 : Int) (a2 : Int) : Option (Bool) := (padlocklaw14_alive.f k).bind fun t111 => (if t111 = true then ((padlockref14_Good.f a0).bind fun t112 => (if t112 = true then ((padlockref14_Good.f a1).bind fun t113 => (if t113 = true then ((padlockref14_Good.f a2).bind fun t114 => (padlocklaw14_ModeAbove.j0 k a0 a1 a2 (!t114))) else (padlocklaw14_ModeAbove.j0 k a0 a1 a2 true))) else (padlocklaw14_ModeAbove.j0 k a0 a1 a2 true))) else (some false))
theorem padlocklaw14_ModeAbove.mono_l : ∀ k, (∀ y0 y1 y2 y3, LeO (padlocklaw14_ModeAbove.j0 k y0 y1 y2 y3) (padlocklaw14_ModeAbove.j0 (k + 1) y0 y1 y2 y3))
  | 0 => fun _ _ _ _ r h => by simp [padlocklaw14_ModeAbove.j0] at h
  | k + 1 => by
    have ih0 := padlocklaw14_ModeAbove.mono_l k
    · intro y0 y1 y2 y3
      unfold padlocklaw14_ModeAbove.j0
      repeat' first
      | (with_reducible exact ih0 _ _ _ _)
      | (with_reducible exact mode_Above.mono _ _)
      | (with_reducible exact mode_Covers.mono _ _ _)
      | (with_reducible exact mode_Fits.mono _ _ _)
      | (with_reducible exact padlocklaw14_alive.mono _)
      | (with_reducible exact LeO.refl _)
      | (with_reducible exact LeO.none _)
      | (with_reducible refine LeO.ite ?_ ?_)
      | (with_reducible refine LeO.bind ?_ (fun _ => ?_))
      | exact ih0 _ _ _ _
      | exact mode_Above.mono _ _
      | exact mode_Covers.mono _ _ _
      | exact mode_Fits.mono _ _ _
      | exact padlocklaw14_alive.mono _
      | exact LeO.none _
      | refine LeO.ite ?_ ?_
      | refine LeO.bind ?_ (fun _ => ?_)
theorem padlocklaw14_ModeAbove.mono : ∀ a0 a1 a2 k, LeO (padlocklaw14_ModeAbove.f k a0 a1 a2) (padlocklaw14_ModeAbove.f (k + 1) a0 a1 a2) := by
  intro a0 a1 a2 k
  have ih0 := padlocklaw14_ModeAbove.mono_l k
  unfold padlocklaw14_ModeAbove.f
  repeat' first
      | (with_reducible exact ih0 _ _ _ _)
      | (with_reducible exact mode_Above.mono _ _)
      | (with_reducible exact mode_Covers.mono _ _ _)
      | (with_reducible exact mode_Fits.mono _ _ _)
      | (with_reducible exact padlocklaw14_alive.mono _)
      | (with_reducible exact LeO.refl _)
      | (with_reducible exact LeO.none _)
      | (with_reducible refine LeO.ite ?_ ?_)
      | (with_reducible refine LeO.bind ?_ (fun _ => ?_))
      | exact ih0 _ _ _ _
      | exact mode_Above.mono _ _
      | exact mode_Covers.mono _ _ _
      | exact mode_Fits.mono _ _ _
      | exact padlocklaw14_alive.mono _
      | exact LeO.none _
      | refine LeO.ite ?_ ?_
      | refine LeO.bind ?_ (fun _ => ?_)
set_option maxHeartbeats 8000000 in
set_option maxRecDepth 100000 in
theorem padlocklaw14_ModeAbove.calls (k : Nat) (a0 : Int) (a1 : Int) (a2 : Int) (r : Bool) (w : World) (h : padlocklaw14_ModeAbove.f k a0 a1 a2 = some r) :
    Calls Try.prog 5 #[.int .i64 a0, .int .i64 a1, .int .i64 a2] w fun e w' => e = .returned (.bool r) ∧ Below w.heap.size w w' := by
  have HB := Aside0.mk (Below.refl w.heap.size w)
  have H : ((padlocklaw14_alive.f k).bind fun t111 => (if t111 = true then ((padlockref14_Good.f a0).bind fun t112 => (if t112 = true then ((padlockref14_Good.f a1).bind fun t113 => (if t113 = true then ((padlockref14_Good.f a2).bind fun t114 => (padlocklaw14_ModeAbove.j0 k a0 a1 a2 (!t114))) else (padlocklaw14_ModeAbove.j0 k a0 a1 a2 true))) else (padlocklaw14_ModeAbove.j0 k a0 a1 a2 true))) else (some false))) = some r := h
  clear h
  replace H := Option.bind_eq_some_iff.mp H
  obtain ⟨t111, A40, H⟩ := H
  replace H : (if t111 = true then ((padlockref14_Good.f a0).bind fun t112 => (if t112 = true then ((padlockref14_Good.f a1).bind fun t113 => (if t113 = true then ((padlockref14_Good.f a2).bind fun t114 => (padlocklaw14_ModeAbove.j0 k a0 a1 a2 (!t114))) else (padlocklaw14_ModeAbove.j0 k a0 a1 a2 true))) else (padlocklaw14_ModeAbove.j0 k a0 a1 a2 true))) else (some false)) = some r := H
  have A4 := Aside0.mk A40
  clear A40
  by_cases c5 : t111 = true
  · subst c5
    have H1 : ((padlockref14_Good.f a0).bind fun t112 => (if t112 = true then ((padlockref14_Good.f a1).bind fun t113 => (if t113 = true then ((padlockref14_Good.f a2).bind fun t114 => (padlocklaw14_ModeAbove.j0 k a0 a1 a2 (!t114))) else (padlocklaw14_ModeAbove.j0 k a0 a1 a2 true))) else (padlocklaw14_ModeAbove.j0 k a0 a1 a2 true))) = some r := by rw [if_pos rfl] at H; exact H
    clear H
    have H := H1
    clear H1
    have HC6 := Aside0.mk H
    clear H
    go_enter Try.func5, Try.ntmps5
    go_upto_region 3 with (first | ((with_reducible refine gate_callee (f := 7) rfl ?_); refine goesL_ (some 7) rfl rfl Try.func7 (by kernel_rfl) rfl #[] rfl (by (try simp only [List.map_toArray, List.map_cons, List.map_nil]); first | done | rfl | (simp only [List.length_drop, List.length_take]; rfl)) ?_; (with_reducible refine (padlocklaw14_alive.calls k  true _ A4.out).mono ?_); rintro e w7 ⟨rfl, hb⟩; refine ⟨_, rfl, ?_⟩; have n0_ := Aside0.mk (below_step (by repeat (first | (with_reducible first | exact HB.out | apply below_alloc | apply pw_below_drewN | apply below_drew1) | exact HB.out)) hb); clear HB; have HB := n0_; clear n0_; (try clear hb); (try clear hb2); (try clear hk); (try clear hi)))
    (try simp only [Act.put, List.setIfInBounds_toArray, List.set_cons_zero, List.set_cons_succ])
    go_cut [21] (fun v21 wc => ∃ (kq : Nat) (x21_5 : Bool), v21 = .bool x21_5 ∧ Aside0 (padlocklaw14_ModeAbove.j0 kq a0 a1 a2 x21_5 = some r) ∧ Aside0 (kq ≤ k) ∧ Aside0 (Below w.heap.size w wc))
    case first =>
      have H := HC6.out
      clear HC6
      replace H := Option.bind_eq_some_iff.mp H
      obtain ⟨t112, A80, H⟩ := H
      replace H : (if t112 = true then ((padlockref14_Good.f a1).bind fun t113 => (if t113 = true then ((padlockref14_Good.f a2).bind fun t114 => (padlocklaw14_ModeAbove.j0 k a0 a1 a2 (!t114))) else (padlocklaw14_ModeAbove.j0 k a0 a1 a2 true))) else (padlocklaw14_ModeAbove.j0 k a0 a1 a2 true)) = some r := H
      have A8 := Aside0.mk A80
      clear A80
      by_cases c9 : t112 = true
      · subst c9
        have H1 : ((padlockref14_Good.f a1).bind fun t113 => (if t113 = true then ((padlockref14_Good.f a2).bind fun t114 => (padlocklaw14_ModeAbove.j0 k a0 a1 a2 (!t114))) else (padlocklaw14_ModeAbove.j0 k a0 a1 a2 true))) = some r := by rw [if_pos rfl] at H; exact H
        clear H
        have H := H1
        clear H1
        replace H := Option.bind_eq_some_iff.mp H
        obtain ⟨t113, A100, H⟩ := H
        replace H : (if t113 = true then ((padlockref14_Good.f a2).bind fun t114 => (padlocklaw14_ModeAbove.j0 k a0 a1 a2 (!t114))) else (padlocklaw14_ModeAbove.j0 k a0 a1 a2 true)) = some r := H
        have A10 := Aside0.mk A100
        clear A100
        by_cases c11 : t113 = true
        · subst c11
          have H1 : ((padlockref14_Good.f a2).bind fun t114 => (padlocklaw14_ModeAbove.j0 k a0 a1 a2 (!t114))) = some r := by rw [if_pos rfl] at H; exact H
          clear H
          have H := H1
          clear H1
          replace H := Option.bind_eq_some_iff.mp H
          obtain ⟨t114, A120, H⟩ := H
          replace H : (padlocklaw14_ModeAbove.j0 k a0 a1 a2 (!t114)) = some r := H
          have A12 := Aside0.mk A120
          clear A120
          have H' := Aside0.mk H
          clear H
          go_wp2_with (first | ((with_reducible refine gate_callee (f := 8) rfl ?_); refine goesL_ (some 10) rfl rfl Try.func8 (by kernel_rfl) rfl #[.int .i64 a0] rfl (by (try simp only [List.map_toArray, List.map_cons, List.map_nil]); first | done | rfl | (simp only [List.length_drop, List.length_take]; rfl)) ?_; (with_reducible refine (padlockref14_Good.calls a0 true _ A8.out).mono ?_); rintro e w' ⟨rfl, ⟨nd, rfl⟩⟩; refine ⟨_, rfl, ?_⟩) | (go_at_call 8; (with_reducible refine (padlockref14_Good.calls a1 true _ A10.out).mono ?_); rintro e w' ⟨rfl, ⟨nd, rfl⟩⟩) | (go_at_call 8; (with_reducible refine (padlockref14_Good.calls a2 t114 _ A12.out).mono ?_); rintro e w' ⟨rfl, ⟨nd, rfl⟩⟩))
          go_meet
          case rel => exact ⟨_, (!t114), (by first | rfl | (simp; done) | (simp [*]; done)), H', ⟨by first | omega | exact Nat.le_refl _⟩, ⟨by repeat (first | (with_reducible first | exact HB.out | apply below_alloc | apply pw_below_drewN | apply below_drew1) | exact HB.out)⟩⟩
        · replace c11 := Bool.eq_false_iff.mpr c11
          subst c11
          have H1 : (padlocklaw14_ModeAbove.j0 k a0 a1 a2 true) = some r := by rw [if_neg (show ¬ (false = true) by decide)] at H; exact H
          clear H
          have H := H1
          clear H1
          have H' := Aside0.mk H
          clear H
          go_wp2_with (first | ((with_reducible refine gate_callee (f := 8) rfl ?_); refine goesL_ (some 10) rfl rfl Try.func8 (by kernel_rfl) rfl #[.int .i64 a0] rfl (by (try simp only [List.map_toArray, List.map_cons, List.map_nil]); first | done | rfl | (simp only [List.length_drop, List.length_take]; rfl)) ?_; (with_reducible refine (padlockref14_Good.calls a0 true _ A8.out).mono ?_); rintro e w' ⟨rfl, ⟨nd, rfl⟩⟩; refine ⟨_, rfl, ?_⟩) | (go_at_call 8; (with_reducible refine (padlockref14_Good.calls a1 false _ A10.out).mono ?_); rintro e w' ⟨rfl, ⟨nd, rfl⟩⟩))
          go_meet
          case rel => exact ⟨_, (true), (by first | rfl | (simp; done) | (simp [*]; done)), H', ⟨by first | omega | exact Nat.le_refl _⟩, ⟨by repeat (first | (with_reducible first | exact HB.out | apply below_alloc | apply pw_below_drewN | apply below_drew1) | exact HB.out)⟩⟩
      · replace c9 := Bool.eq_false_iff.mpr c9
        subst c9
        have H1 : (padlocklaw14_ModeAbove.j0 k a0 a1 a2 true) = some r := by rw [if_neg (show ¬ (false = true) by decide)] at H; exact H
        clear H
        have H := H1
        clear H1
        have H' := Aside0.mk H
        clear H
        go_wp2_with (first | ((with_reducible refine gate_callee (f := 8) rfl ?_); refine goesL_ (some 10) rfl rfl Try.func8 (by kernel_rfl) rfl #[.int .i64 a0] rfl (by (try simp only [List.map_toArray, List.map_cons, List.map_nil]); first | done | rfl | (simp only [List.length_drop, List.length_take]; rfl)) ?_; (with_reducible refine (padlockref14_Good.calls a0 false _ A8.out).mono ?_); rintro e w' ⟨rfl, ⟨nd, rfl⟩⟩; refine ⟨_, rfl, ?_⟩))
        go_meet
        case rel => exact ⟨_, (true), (by first | rfl | (simp; done) | (simp [*]; done)), H', ⟨by first | omega | exact Nat.le_refl _⟩, ⟨by repeat (first | (with_reducible first | exact HB.out | apply below_alloc | apply pw_below_drewN | apply below_drew1) | exact HB.out)⟩⟩
    case rest =>
      clear HC6
      try clear c1
      try clear p2
      try clear c5
      try clear c7
      try clear c8
      try clear c9
      try clear c11
      obtain ⟨kq, x21_5, rfl, HA, HJ5, HB⟩ := hcut
      cases kq with
      | zero => exact absurd HA.out (by simp [padlocklaw14_ModeAbove.j0])
      | succ kj5 =>
        have H := HA.out
        clear HA
        simp only [padlocklaw14_ModeAbove.j0] at H
        by_cases c13 : x21_5 = true
        · subst c13
          have H1 : (some true) = some r := by rw [if_pos rfl] at H; exact H
          clear H
          have H := H1
          clear H1
          obtain rfl := Option.some.inj H
          go_wp2
          go_ret
          exact ⟨by first | rfl | (simp [errW_none, errW_some] <;> rfl) | (simp [*, errW_none, errW_some] <;> rfl), by repeat (first | (with_reducible first | exact HB.out | apply below_alloc | apply pw_below_drewN | apply below_drew1) | exact HB.out)⟩
        · replace c13 := Bool.eq_false_iff.mpr c13
          subst c13
          have H1 : ((mode_Covers.f kj5 a1 a2).bind fun t115 => (if t115 = true then ((mode_Fits.f kj5 a0 a2).bind fun t116 => (if t116 = true then (some true) else ((mode_Above.f kj5 a0).bind fun t117 => ((mode_Fits.f kj5 t117 a1).bind fun t118 => (some (!t118)))))) else (some true))) = some r := by rw [if_neg (show ¬ (false = true) by decide)] at H; exact H
          clear H
          have H := H1
          clear H1
          replace H := Option.bind_eq_some_iff.mp H
          obtain ⟨t115, A140, H⟩ := H
          replace H : (if t115 = true then ((mode_Fits.f kj5 a0 a2).bind fun t116 => (if t116 = true then (some true) else ((mode_Above.f kj5 a0).bind fun t117 => ((mode_Fits.f kj5 t117 a1).bind fun t118 => (some (!t118)))))) else (some true)) = some r := H
          have A14 := Aside0.mk A140
          clear A140
          by_cases c15 : t115 = true
          · subst c15
            have H1 : ((mode_Fits.f kj5 a0 a2).bind fun t116 => (if t116 = true then (some true) else ((mode_Above.f kj5 a0).bind fun t117 => ((mode_Fits.f kj5 t117 a1).bind fun t118 => (some (!t118)))))) = some r := by rw [if_pos rfl] at H; exact H
            clear H
            have H := H1
            clear H1
            replace H := Option.bind_eq_some_iff.mp H
            obtain ⟨t116, A160, H⟩ := H
            replace H : (if t116 = true then (some true) else ((mode_Above.f kj5 a0).bind fun t117 => ((mode_Fits.f kj5 t117 a1).bind fun t118 => (some (!t118))))) = some r := H
            have A16 := Aside0.mk A160
            clear A160
            by_cases c17 : t116 = true
            · subst c17
              have H1 : (some true) = some r := by rw [if_pos rfl] at H; exact H
              clear H
              have H := H1
              clear H1
              obtain rfl := Option.some.inj H
              go_wp2_with (first | ((with_reducible refine gate_callee (f := 13) rfl ?_); refine goesL_ (some 24) rfl rfl Try.func13 (by kernel_rfl) rfl #[.int .i64 a1, .int .i64 a2] rfl (by (try simp only [List.map_toArray, List.map_cons, List.map_nil]); first | done | rfl | (simp only [List.length_drop, List.length_take]; rfl)) ?_; (with_reducible refine (mode_Covers.calls kj5 a1 a2 true _ A14.out).mono ?_); rintro e w' ⟨rfl, ⟨nd, rfl⟩⟩; refine ⟨_, rfl, ?_⟩) | (go_at_call 11; (with_reducible refine (mode_Fits.calls kj5 a0 a2 true _ A16.out).mono ?_); rintro e w18 ⟨rfl, hb⟩; have n0_ := Aside0.mk (below_step (by repeat (first | (with_reducible first | exact HB.out | apply below_alloc | apply pw_below_drewN | apply below_drew1) | exact HB.out)) hb); clear HB; have HB := n0_; clear n0_; (try clear hb); (try clear hb2); (try clear hk); (try clear hi)))
              go_ret
              exact ⟨by first | rfl | (simp [errW_none, errW_some] <;> rfl) | (simp [*, errW_none, errW_some] <;> rfl), by repeat (first | (with_reducible first | exact HB.out | apply below_alloc | apply pw_below_drewN | apply below_drew1) | exact HB.out)⟩
            · replace c17 := Bool.eq_false_iff.mpr c17
              subst c17
              have H1 : ((mode_Above.f kj5 a0).bind fun t117 => ((mode_Fits.f kj5 t117 a1).bind fun t118 => (some (!t118)))) = some r := by rw [if_neg (show ¬ (false = true) by decide)] at H; exact H
              clear H
              have H := H1
              clear H1
              replace H := Option.bind_eq_some_iff.mp H
              obtain ⟨t117, A190, H⟩ := H
              replace H : ((mode_Fits.f kj5 t117 a1).bind fun t118 => (some (!t118))) = some r := H
              have A19 := Aside0.mk A190
              clear A190
              replace H := Option.bind_eq_some_iff.mp H
              obtain ⟨t118, A200, H⟩ := H
              replace H : (some (!t118)) = some r := H
              have A20 := Aside0.mk A200
              clear A200
              obtain rfl := Option.some.inj H
              go_wp2_with (first | ((with_reducible refine gate_callee (f := 13) rfl ?_); refine goesL_ (some 24) rfl rfl Try.func13 (by kernel_rfl) rfl #[.int .i64 a1, .int .i64 a2] rfl (by (try simp only [List.map_toArray, List.map_cons, List.map_nil]); first | done | rfl | (simp only [List.length_drop, List.length_take]; rfl)) ?_; (with_reducible refine (mode_Covers.calls kj5 a1 a2 true _ A14.out).mono ?_); rintro e w' ⟨rfl, ⟨nd, rfl⟩⟩; refine ⟨_, rfl, ?_⟩) | (go_at_call 11; (with_reducible refine (mode_Fits.calls kj5 a0 a2 false _ A16.out).mono ?_); rintro e w21 ⟨rfl, hb⟩; have n0_ := Aside0.mk (below_step (by repeat (first | (with_reducible first | exact HB.out | apply below_alloc | apply pw_below_drewN | apply below_drew1) | exact HB.out)) hb); clear HB; have HB := n0_; clear n0_; (try clear hb); (try clear hb2); (try clear hk); (try clear hi)) | (go_at_call 12; (with_reducible refine (mode_Above.calls kj5 a0 t117 _ A19.out).mono ?_); rintro e w' ⟨rfl, ⟨nd, rfl⟩⟩) | (go_at_call 11; (with_reducible refine (mode_Fits.calls kj5 t117 a1 t118 _ A20.out).mono ?_); rintro e w22 ⟨rfl, hb⟩; have n0_ := Aside0.mk (below_step (by repeat (first | (with_reducible first | exact HB.out | apply below_alloc | apply pw_below_drewN | apply below_drew1) | exact HB.out)) hb); clear HB; have HB := n0_; clear n0_; (try clear hb); (try clear hb2); (try clear hk); (try clear hi)))
              go_ret
              exact ⟨by first | rfl | (simp [errW_none, errW_some] <;> rfl) | (simp [*, errW_none, errW_some] <;> rfl), by repeat (first | (with_reducible first | exact HB.out | apply below_alloc | apply pw_below_drewN | apply below_drew1) | exact HB.out)⟩
          · replace c15 := Bool.eq_false_iff.mpr c15
            subst c15
            have H1 : (some true) = some r := by rw [if_neg (show ¬ (false = true) by decide)] at H; exact H
            clear H
            have H := H1
            clear H1
            obtain rfl := Option.some.inj H
            go_wp2_with (first | ((with_reducible refine gate_callee (f := 13) rfl ?_); refine goesL_ (some 24) rfl rfl Try.func13 (by kernel_rfl) rfl #[.int .i64 a1, .int .i64 a2] rfl (by (try simp only [List.map_toArray, List.map_cons, List.map_nil]); first | done | rfl | (simp only [List.length_drop, List.length_take]; rfl)) ?_; (with_reducible refine (mode_Covers.calls kj5 a1 a2 false _ A14.out).mono ?_); rintro e w' ⟨rfl, ⟨nd, rfl⟩⟩; refine ⟨_, rfl, ?_⟩))
            go_ret
            exact ⟨by first | rfl | (simp [errW_none, errW_some] <;> rfl) | (simp [*, errW_none, errW_some] <;> rfl), by repeat (first | (with_reducible first | exact HB.out | apply below_alloc | apply pw_below_drewN | apply below_drew1) | exact HB.out)⟩
  · replace c5 := Bool.eq_false_iff.mpr c5
    subst c5
    have H1 : (some false) = some r := by rw [if_neg (show ¬ (false = true) by decide)] at H; exact H
    clear H
    have H := H1
    clear H1
    obtain rfl := Option.some.inj H
    go_enter Try.func5, Try.ntmps5
    go_wp2_with (first | ((with_reducible refine gate_callee (f := 7) rfl ?_); refine goesL_ (some 7) rfl rfl Try.func7 (by kernel_rfl) rfl #[] rfl (by (try simp only [List.map_toArray, List.map_cons, List.map_nil]); first | done | rfl | (simp only [List.length_drop, List.length_take]; rfl)) ?_; (with_reducible refine (padlocklaw14_alive.calls k  false _ A4.out).mono ?_); rintro e w23 ⟨rfl, hb⟩; refine ⟨_, rfl, ?_⟩; have n0_ := Aside0.mk (below_step (by repeat (first | (with_reducible first | exact HB.out | apply below_alloc | apply pw_below_drewN | apply below_drew1) | exact HB.out)) hb); clear HB; have HB := n0_; clear n0_; (try clear hb); (try clear hb2); (try clear hk); (try clear hi)))
    go_ret
    exact ⟨by first | rfl | (simp [errW_none, errW_some] <;> rfl) | (simp [*, errW_none, errW_some] <;> rfl), by repeat (first | (with_reducible first | exact HB.out | apply below_alloc | apply pw_below_drewN | apply below_drew1) | exact HB.out)⟩

/-- THE ONE PURE STATEMENT of padlocklaw14_ModeAbove: yours. -/
def padlocklaw14_ModeAbove.Pure : Prop := ∀ (a0 : Int) (a1 : Int) (a2 : Int), (Lit.int .i64 a0).wf = true → (Lit.int .i64 a1).wf = true → (Lit.int .i64 a2).wf = true → ∃ k, padlocklaw14_ModeAbove.f k a0 a1 a2 = some true
theorem padlocklaw14_ModeAbove.walk (P : padlocklaw14_ModeAbove.Pure) (a0 : Int) (a1 : Int) (a2 : Int) (w : World) (w0 : (Lit.int .i64 a0).wf = true) (w1 : (Lit.int .i64 a1).wf = true) (w2 : (Lit.int .i64 a2).wf = true) :
    Calls Try.prog 5 #[.int .i64 a0, .int .i64 a1, .int .i64 a2] w fun e w' => e = .returned (.bool true) ∧ Below w.heap.size w w' := by
  obtain ⟨k, h⟩ := P a0 a1 a2 w0 w1 w2
  refine (padlocklaw14_ModeAbove.calls k a0 a1 a2 true w h).mono ?_
  rintro e w' ⟨rfl, hd⟩
  exact ⟨rfl, hd⟩

end Go.Proofs.Ythibbgmmfdlbeaa.PModeAbove
