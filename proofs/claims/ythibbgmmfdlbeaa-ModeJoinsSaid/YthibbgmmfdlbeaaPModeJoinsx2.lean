-- PRINTED BY print.sh 35421559b90ae4d0a3588c463048766b98c2df88dd9212a6774a882060cdf62d: not written by this session
import Derived.Test.YthibbgmmfdlbeaaPModeJoinsx0
import Derived.Test.YthibbgmmfdlbeaaPModeJoinsx1
namespace Go.Proofs.Ythibbgmmfdlbeaa.PModeJoins
open Go.RowKit Go.Proofs.YthibbgmmfdlbeaaW.PrintWords Go.Proofs.YthibbgmmfdlbeaaW.PrintLast Go.Proofs.YthibbgmmfdlbeaaW.PrintMore
attribute [local go_sem] max2_int min2_int max_two min_two max_three min_three max_four min_four   -- for this text's walks alone
set_option linter.unusedVariables false
set_option linter.unusedSimpArgs false

/-! ### padlocklaw14_ModeJoins: function 3 -/
mutual
def padlocklaw14_ModeJoins.j0 : Nat → Int → Int → Int → Bool → Option (Bool)
  | 0, _, _, _, _ => none
  | k + 1, x0, x1, x2, x22 => if x22 = true then (some true) else ((mode_Join.f k x0 x1).bind fun t114 => ((mode_Join.f k x1 x0).bind fun t115 => (if t114 = t115 then ((mode_Least.f k x0 t114).bind fun t116 => (if t116 = true then ((mode_Least.f k x1 t114).bind fun t117 => (if t117 = true then ((mode_Join.f k x0 x1).bind fun t118 => ((mode_Join.f k t118 x2).bind fun t119 => ((mode_Join.f k x1 x2).bind fun t120 => ((mode_Join.f k x0 t120).bind fun t121 => (if t119 = t121 then ((mode_Join.f k x0 x0).bind fun t122 => (padlocklaw14_ModeJoins.j1 k x0 x1 x2 t114 (t122 != x0))) else (padlocklaw14_ModeJoins.j1 k x0 x1 x2 t114 true)))))) else (padlocklaw14_ModeJoins.j1 k x0 x1 x2 t114 true))) else (padlocklaw14_ModeJoins.j1 k x0 x1 x2 t114 true))) else (padlocklaw14_ModeJoins.j1 k x0 x1 x2 t114 true))))
def padlocklaw14_ModeJoins.j1 : Nat → Int → Int → Int → Int → Bool → Option (Bool)
  | 0, _, _, _, _, _ => none
  | k + 1, x0, x1, x2, x7, x62 => if x62 = true then (some false) else ((mode_Least.f k x0 x2).bind fun t123 => (if t123 = true then ((mode_Least.f k x1 x2).bind fun t124 => (if t124 = true then ((mode_Least.f k x7 x2).bind fun t125 => (padlocklaw14_ModeJoins.j2 k x0 x1 x2 (!t125))) else (padlocklaw14_ModeJoins.j2 k x0 x1 x2 false))) else (padlocklaw14_ModeJoins.j2 k x0 x1 x2 false)))
def padlocklaw14_ModeJoins.j2 : Nat → Int → Int → Int → Bool → Option (Bool)
  | 0, _, _, _, _ => none
  | k + 1, x0, x1, x2, x76 => if x76 = true then (some false) else ((mode_Fits.f k x0 x1).bind fun t126 => ((mode_Fits.f k x1 x0).bind fun t127 => (if (t126 == t127) = true then ((mode_Least.f k x0 x1).bind fun t128 => (if t128 = true then ((mode_Fits.f k x1 x2).bind fun t129 => (if t129 = true then ((mode_Fits.f k x0 x2).bind fun t130 => (some (!(!t130)))) else (some (!false)))) else (some (!false)))) else (some false))))
end
def padlocklaw14_ModeJoins.f (k : Nat) (a0 : Int) (a1 : Int) (a2 : Int) : Option (Bool) := (padlocklaw14_alive.f k).bind fun t110 => (if t110 = true then ((padlockref14_Good.f a0).bind fun t111 => (if t111 = true then ((padlockref14_Good.f a1).bind fun t112 => (if t112 = true then ((padlockref14_Good.f a2).bind fun t113 => (padlocklaw14_ModeJoins.j0 k a0 a1 a2 (!t113))) else (padlocklaw14_ModeJoins.j0 k a0 a1 a2 true))) else (padlocklaw14_ModeJoins.j0 k a0 a1 a2 true))) else (some false))
theorem padlocklaw14_ModeJoins.mono_l : ∀ k, (∀ y0 y1 y2 y3, LeO (padlocklaw14_ModeJoins.j0 k y0 y1 y2 y3) (padlocklaw14_ModeJoins.j0 (k + 1) y0 y1 y2 y3)) ∧ (∀ y0 y1 y2 y3 y4, LeO (padlocklaw14_ModeJoins.j1 k y0 y1 y2 y3 y4) (padlocklaw14_ModeJoins.j1 (k + 1) y0 y1 y2 y3 y4)) ∧ (∀ y0 y1 y2 y3, LeO (padlocklaw14_ModeJoins.j2 k y0 y1 y2 y3) (padlocklaw14_ModeJoins.j2 (k + 1) y0 y1 y2 y3))
  | 0 => ⟨fun _ _ _ _ r h => by simp [padlocklaw14_ModeJoins.j0] at h, fun _ _ _ _ _ r h => by simp [padlocklaw14_ModeJoins.j1] at h, fun _ _ _ _ r h => by simp [padlocklaw14_ModeJoins.j2] at h⟩
  | k + 1 => by
    obtain ⟨ih0, ih1, ih2⟩ := padlocklaw14_ModeJoins.mono_l k
    refine ⟨?_, ?_, ?_⟩
    · intro y0 y1 y2 y3
      unfold padlocklaw14_ModeJoins.j0
      repeat' first
      | (with_reducible exact ih0 _ _ _ _)
      | (with_reducible exact ih1 _ _ _ _ _)
      | (with_reducible exact ih2 _ _ _ _)
      | (with_reducible exact mode_Fits.mono _ _ _)
      | (with_reducible exact mode_Join.mono _ _ _)
      | (with_reducible exact mode_Least.mono _ _ _)
      | (with_reducible exact padlocklaw14_alive.mono _)
      | (with_reducible exact LeO.refl _)
      | (with_reducible exact LeO.none _)
      | (with_reducible refine LeO.ite ?_ ?_)
      | (with_reducible refine LeO.bind ?_ (fun _ => ?_))
      | exact ih0 _ _ _ _
      | exact ih1 _ _ _ _ _
      | exact ih2 _ _ _ _
      | exact mode_Fits.mono _ _ _
      | exact mode_Join.mono _ _ _
      | exact mode_Least.mono _ _ _
      | exact padlocklaw14_alive.mono _
      | exact LeO.none _
      | refine LeO.ite ?_ ?_
      | refine LeO.bind ?_ (fun _ => ?_)
    · intro y0 y1 y2 y3 y4
      unfold padlocklaw14_ModeJoins.j1
      repeat' first
      | (with_reducible exact ih0 _ _ _ _)
      | (with_reducible exact ih1 _ _ _ _ _)
      | (with_reducible exact ih2 _ _ _ _)
      | (with_reducible exact mode_Fits.mono _ _ _)
      | (with_reducible exact mode_Join.mono _ _ _)
      | (with_reducible exact mode_Least.mono _ _ _)
      | (with_reducible exact padlocklaw14_alive.mono _)
      | (with_reducible exact LeO.refl _)
      | (with_reducible exact LeO.none _)
      | (with_reducible refine LeO.ite ?_ ?_)
      | (with_reducible refine LeO.bind ?_ (fun _ => ?_))
      | exact ih0 _ _ _ _
      | exact ih1 _ _ _ _ _
      | exact ih2 _ _ _ _
      | exact mode_Fits.mono _ _ _
      | exact mode_Join.mono _ _ _
      | exact mode_Least.mono _ _ _
      | exact padlocklaw14_alive.mono _
      | exact LeO.none _
      | refine LeO.ite ?_ ?_
      | refine LeO.bind ?_ (fun _ => ?_)
    · intro y0 y1 y2 y3
      unfold padlocklaw14_ModeJoins.j2
      repeat' first
      | (with_reducible exact ih0 _ _ _ _)
      | (with_reducible exact ih1 _ _ _ _ _)
      | (with_reducible exact ih2 _ _ _ _)
      | (with_reducible exact mode_Fits.mono _ _ _)
      | (with_reducible exact mode_Join.mono _ _ _)
      | (with_reducible exact mode_Least.mono _ _ _)
      | (with_reducible exact padlocklaw14_alive.mono _)
      | (with_reducible exact LeO.refl _)
      | (with_reducible exact LeO.none _)
      | (with_reducible refine LeO.ite ?_ ?_)
      | (with_reducible refine LeO.bind ?_ (fun _ => ?_))
      | exact ih0 _ _ _ _
      | exact ih1 _ _ _ _ _
      | exact ih2 _ _ _ _
      | exact mode_Fits.mono _ _ _
      | exact mode_Join.mono _ _ _
      | exact mode_Least.mono _ _ _
      | exact padlocklaw14_alive.mono _
      | exact LeO.none _
      | refine LeO.ite ?_ ?_
      | refine LeO.bind ?_ (fun _ => ?_)
theorem padlocklaw14_ModeJoins.mono : ∀ a0 a1 a2 k, LeO (padlocklaw14_ModeJoins.f k a0 a1 a2) (padlocklaw14_ModeJoins.f (k + 1) a0 a1 a2) := by
  intro a0 a1 a2 k
  obtain ⟨ih0, ih1, ih2⟩ := padlocklaw14_ModeJoins.mono_l k
  unfold padlocklaw14_ModeJoins.f
  repeat' first
      | (with_reducible exact ih0 _ _ _ _)
      | (with_reducible exact ih1 _ _ _ _ _)
      | (with_reducible exact ih2 _ _ _ _)
      | (with_reducible exact mode_Fits.mono _ _ _)
      | (with_reducible exact mode_Join.mono _ _ _)
      | (with_reducible exact mode_Least.mono _ _ _)
      | (with_reducible exact padlocklaw14_alive.mono _)
      | (with_reducible exact LeO.refl _)
      | (with_reducible exact LeO.none _)
      | (with_reducible refine LeO.ite ?_ ?_)
      | (with_reducible refine LeO.bind ?_ (fun _ => ?_))
      | exact ih0 _ _ _ _
      | exact ih1 _ _ _ _ _
      | exact ih2 _ _ _ _
      | exact mode_Fits.mono _ _ _
      | exact mode_Join.mono _ _ _
      | exact mode_Least.mono _ _ _
      | exact padlocklaw14_alive.mono _
      | exact LeO.none _
      | refine LeO.ite ?_ ?_
      | refine LeO.bind ?_ (fun _ => ?_)
set_option maxHeartbeats 8000000 in
set_option maxRecDepth 100000 in
theorem padlocklaw14_ModeJoins.calls (k : Nat) (a0 : Int) (a1 : Int) (a2 : Int) (r : Bool) (w : World) (h : padlocklaw14_ModeJoins.f k a0 a1 a2 = some r) :
    Calls Try.prog 3 #[.int .i64 a0, .int .i64 a1, .int .i64 a2] w fun e w' => e = .returned (.bool r) ∧ Below w.heap.size w w' := by
  have HB := Aside0.mk (Below.refl w.heap.size w)
  have H : ((padlocklaw14_alive.f k).bind fun t110 => (if t110 = true then ((padlockref14_Good.f a0).bind fun t111 => (if t111 = true then ((padlockref14_Good.f a1).bind fun t112 => (if t112 = true then ((padlockref14_Good.f a2).bind fun t113 => (padlocklaw14_ModeJoins.j0 k a0 a1 a2 (!t113))) else (padlocklaw14_ModeJoins.j0 k a0 a1 a2 true))) else (padlocklaw14_ModeJoins.j0 k a0 a1 a2 true))) else (some false))) = some r := h
  clear h
  replace H := Option.bind_eq_some_iff.mp H
  obtain ⟨t110, A40, H⟩ := H
  replace H : (if t110 = true then ((padlockref14_Good.f a0).bind fun t111 => (if t111 = true then ((padlockref14_Good.f a1).bind fun t112 => (if t112 = true then ((padlockref14_Good.f a2).bind fun t113 => (padlocklaw14_ModeJoins.j0 k a0 a1 a2 (!t113))) else (padlocklaw14_ModeJoins.j0 k a0 a1 a2 true))) else (padlocklaw14_ModeJoins.j0 k a0 a1 a2 true))) else (some false)) = some r := H
  have A4 := Aside0.mk A40
  clear A40
  by_cases c5 : t110 = true
  · subst c5
    have H1 : ((padlockref14_Good.f a0).bind fun t111 => (if t111 = true then ((padlockref14_Good.f a1).bind fun t112 => (if t112 = true then ((padlockref14_Good.f a2).bind fun t113 => (padlocklaw14_ModeJoins.j0 k a0 a1 a2 (!t113))) else (padlocklaw14_ModeJoins.j0 k a0 a1 a2 true))) else (padlocklaw14_ModeJoins.j0 k a0 a1 a2 true))) = some r := by rw [if_pos rfl] at H; exact H
    clear H
    have H := H1
    clear H1
    have HC6 := Aside0.mk H
    clear H
    go_enter Try.func3, Try.ntmps3
    go_upto_region 3 with (first | ((with_reducible refine gate_callee (f := 7) rfl ?_); refine goesL_ (some 8) rfl rfl Try.func7 (by kernel_rfl) rfl #[] rfl (by (try simp only [List.map_toArray, List.map_cons, List.map_nil]); first | done | rfl | (simp only [List.length_drop, List.length_take]; rfl)) ?_; (with_reducible refine (padlocklaw14_alive.calls k  true _ A4.out).mono ?_); rintro e w7 ⟨rfl, hb⟩; refine ⟨_, rfl, ?_⟩; have n0_ := Aside0.mk (below_step (by repeat (first | (with_reducible first | exact HB.out | apply below_alloc | apply pw_below_drewN | apply below_drew1) | exact HB.out)) hb); clear HB; have HB := n0_; clear n0_; (try clear hb); (try clear hb2); (try clear hk); (try clear hi)))
    (try simp only [Act.put, List.setIfInBounds_toArray, List.set_cons_zero, List.set_cons_succ])
    go_cut [22] (fun v22 wc => ∃ (kq : Nat) (x22_5 : Bool), v22 = .bool x22_5 ∧ Aside0 (padlocklaw14_ModeJoins.j0 kq a0 a1 a2 x22_5 = some r) ∧ Aside0 (kq ≤ k) ∧ Aside0 (Below w.heap.size w wc))
    case first =>
      have H := HC6.out
      clear HC6
      replace H := Option.bind_eq_some_iff.mp H
      obtain ⟨t111, A80, H⟩ := H
      replace H : (if t111 = true then ((padlockref14_Good.f a1).bind fun t112 => (if t112 = true then ((padlockref14_Good.f a2).bind fun t113 => (padlocklaw14_ModeJoins.j0 k a0 a1 a2 (!t113))) else (padlocklaw14_ModeJoins.j0 k a0 a1 a2 true))) else (padlocklaw14_ModeJoins.j0 k a0 a1 a2 true)) = some r := H
      have A8 := Aside0.mk A80
      clear A80
      by_cases c9 : t111 = true
      · subst c9
        have H1 : ((padlockref14_Good.f a1).bind fun t112 => (if t112 = true then ((padlockref14_Good.f a2).bind fun t113 => (padlocklaw14_ModeJoins.j0 k a0 a1 a2 (!t113))) else (padlocklaw14_ModeJoins.j0 k a0 a1 a2 true))) = some r := by rw [if_pos rfl] at H; exact H
        clear H
        have H := H1
        clear H1
        replace H := Option.bind_eq_some_iff.mp H
        obtain ⟨t112, A100, H⟩ := H
        replace H : (if t112 = true then ((padlockref14_Good.f a2).bind fun t113 => (padlocklaw14_ModeJoins.j0 k a0 a1 a2 (!t113))) else (padlocklaw14_ModeJoins.j0 k a0 a1 a2 true)) = some r := H
        have A10 := Aside0.mk A100
        clear A100
        by_cases c11 : t112 = true
        · subst c11
          have H1 : ((padlockref14_Good.f a2).bind fun t113 => (padlocklaw14_ModeJoins.j0 k a0 a1 a2 (!t113))) = some r := by rw [if_pos rfl] at H; exact H
          clear H
          have H := H1
          clear H1
          replace H := Option.bind_eq_some_iff.mp H
          obtain ⟨t113, A120, H⟩ := H
          replace H : (padlocklaw14_ModeJoins.j0 k a0 a1 a2 (!t113)) = some r := H
          have A12 := Aside0.mk A120
          clear A120
          have H' := Aside0.mk H
          clear H
          go_wp2_with (first | ((with_reducible refine gate_callee (f := 8) rfl ?_); refine goesL_ (some 11) rfl rfl Try.func8 (by kernel_rfl) rfl #[.int .i64 a0] rfl (by (try simp only [List.map_toArray, List.map_cons, List.map_nil]); first | done | rfl | (simp only [List.length_drop, List.length_take]; rfl)) ?_; (with_reducible refine (padlockref14_Good.calls a0 true _ A8.out).mono ?_); rintro e w' ⟨rfl, ⟨nd, rfl⟩⟩; refine ⟨_, rfl, ?_⟩) | (go_at_call 8; (with_reducible refine (padlockref14_Good.calls a1 true _ A10.out).mono ?_); rintro e w' ⟨rfl, ⟨nd, rfl⟩⟩) | (go_at_call 8; (with_reducible refine (padlockref14_Good.calls a2 t113 _ A12.out).mono ?_); rintro e w' ⟨rfl, ⟨nd, rfl⟩⟩))
          go_meet
          case rel => exact ⟨_, (!t113), (by first | rfl | (simp; done) | (simp [*]; done)), H', ⟨by first | omega | exact Nat.le_refl _⟩, ⟨by repeat (first | (with_reducible first | exact HB.out | apply below_alloc | apply pw_below_drewN | apply below_drew1) | exact HB.out)⟩⟩
        · replace c11 := Bool.eq_false_iff.mpr c11
          subst c11
          have H1 : (padlocklaw14_ModeJoins.j0 k a0 a1 a2 true) = some r := by rw [if_neg (show ¬ (false = true) by decide)] at H; exact H
          clear H
          have H := H1
          clear H1
          have H' := Aside0.mk H
          clear H
          go_wp2_with (first | ((with_reducible refine gate_callee (f := 8) rfl ?_); refine goesL_ (some 11) rfl rfl Try.func8 (by kernel_rfl) rfl #[.int .i64 a0] rfl (by (try simp only [List.map_toArray, List.map_cons, List.map_nil]); first | done | rfl | (simp only [List.length_drop, List.length_take]; rfl)) ?_; (with_reducible refine (padlockref14_Good.calls a0 true _ A8.out).mono ?_); rintro e w' ⟨rfl, ⟨nd, rfl⟩⟩; refine ⟨_, rfl, ?_⟩) | (go_at_call 8; (with_reducible refine (padlockref14_Good.calls a1 false _ A10.out).mono ?_); rintro e w' ⟨rfl, ⟨nd, rfl⟩⟩))
          go_meet
          case rel => exact ⟨_, (true), (by first | rfl | (simp; done) | (simp [*]; done)), H', ⟨by first | omega | exact Nat.le_refl _⟩, ⟨by repeat (first | (with_reducible first | exact HB.out | apply below_alloc | apply pw_below_drewN | apply below_drew1) | exact HB.out)⟩⟩
      · replace c9 := Bool.eq_false_iff.mpr c9
        subst c9
        have H1 : (padlocklaw14_ModeJoins.j0 k a0 a1 a2 true) = some r := by rw [if_neg (show ¬ (false = true) by decide)] at H; exact H
        clear H
        have H := H1
        clear H1
        have H' := Aside0.mk H
        clear H
        go_wp2_with (first | ((with_reducible refine gate_callee (f := 8) rfl ?_); refine goesL_ (some 11) rfl rfl Try.func8 (by kernel_rfl) rfl #[.int .i64 a0] rfl (by (try simp only [List.map_toArray, List.map_cons, List.map_nil]); first | done | rfl | (simp only [List.length_drop, List.length_take]; rfl)) ?_; (with_reducible refine (padlockref14_Good.calls a0 false _ A8.out).mono ?_); rintro e w' ⟨rfl, ⟨nd, rfl⟩⟩; refine ⟨_, rfl, ?_⟩))
        go_meet
        case rel => exact ⟨_, (true), (by first | rfl | (simp; done) | (simp [*]; done)), H', ⟨by first | omega | exact Nat.le_refl _⟩, ⟨by repeat (first | (with_reducible first | exact HB.out | apply below_alloc | apply pw_below_drewN | apply below_drew1) | exact HB.out)⟩⟩
    case rest =>
      clear HC6
      try clear c1
      try clear p2
      try clear c3
      try clear c5
      try clear c7
      try clear c8
      try clear c9
      try clear c11
      obtain ⟨kq, x22_5, rfl, HA, HJ5, HB⟩ := hcut
      cases kq with
      | zero => exact absurd HA.out (by simp [padlocklaw14_ModeJoins.j0])
      | succ kj5 =>
        have H := HA.out
        clear HA
        simp only [padlocklaw14_ModeJoins.j0] at H
        by_cases c13 : x22_5 = true
        · subst c13
          have H1 : (some true) = some r := by rw [if_pos rfl] at H; exact H
          clear H
          have H := H1
          clear H1
          obtain rfl := Option.some.inj H
          go_wp2
          go_ret
          exact ⟨by first | rfl | (simp [errW_none, errW_some] <;> rfl) | (simp [*, errW_none, errW_some] <;> rfl), by repeat (first | (with_reducible first | exact HB.out | apply below_alloc | apply pw_below_drewN | apply below_drew1) | exact HB.out)⟩
        · replace c13 := Bool.eq_false_iff.mpr c13
          subst c13
          have H1 : ((mode_Join.f kj5 a0 a1).bind fun t114 => ((mode_Join.f kj5 a1 a0).bind fun t115 => (if t114 = t115 then ((mode_Least.f kj5 a0 t114).bind fun t116 => (if t116 = true then ((mode_Least.f kj5 a1 t114).bind fun t117 => (if t117 = true then ((mode_Join.f kj5 a0 a1).bind fun t118 => ((mode_Join.f kj5 t118 a2).bind fun t119 => ((mode_Join.f kj5 a1 a2).bind fun t120 => ((mode_Join.f kj5 a0 t120).bind fun t121 => (if t119 = t121 then ((mode_Join.f kj5 a0 a0).bind fun t122 => (padlocklaw14_ModeJoins.j1 kj5 a0 a1 a2 t114 (t122 != a0))) else (padlocklaw14_ModeJoins.j1 kj5 a0 a1 a2 t114 true)))))) else (padlocklaw14_ModeJoins.j1 kj5 a0 a1 a2 t114 true))) else (padlocklaw14_ModeJoins.j1 kj5 a0 a1 a2 t114 true))) else (padlocklaw14_ModeJoins.j1 kj5 a0 a1 a2 t114 true)))) = some r := by rw [if_neg (show ¬ (false = true) by decide)] at H; exact H
          clear H
          have H := H1
          clear H1
          replace H := Option.bind_eq_some_iff.mp H
          obtain ⟨t114, A140, H⟩ := H
          replace H : ((mode_Join.f kj5 a1 a0).bind fun t115 => (if t114 = t115 then ((mode_Least.f kj5 a0 t114).bind fun t116 => (if t116 = true then ((mode_Least.f kj5 a1 t114).bind fun t117 => (if t117 = true then ((mode_Join.f kj5 a0 a1).bind fun t118 => ((mode_Join.f kj5 t118 a2).bind fun t119 => ((mode_Join.f kj5 a1 a2).bind fun t120 => ((mode_Join.f kj5 a0 t120).bind fun t121 => (if t119 = t121 then ((mode_Join.f kj5 a0 a0).bind fun t122 => (padlocklaw14_ModeJoins.j1 kj5 a0 a1 a2 t114 (t122 != a0))) else (padlocklaw14_ModeJoins.j1 kj5 a0 a1 a2 t114 true)))))) else (padlocklaw14_ModeJoins.j1 kj5 a0 a1 a2 t114 true))) else (padlocklaw14_ModeJoins.j1 kj5 a0 a1 a2 t114 true))) else (padlocklaw14_ModeJoins.j1 kj5 a0 a1 a2 t114 true))) = some r := H
          have A14 := Aside0.mk A140
          clear A140
          have HC15 := Aside0.mk H
          clear H
          go_upto_region 6 with (first | ((with_reducible refine gate_callee (f := 9) rfl ?_); refine goesL_ (some 25) rfl rfl Try.func9 (by kernel_rfl) rfl #[.int .i64 a0, .int .i64 a1] rfl (by (try simp only [List.map_toArray, List.map_cons, List.map_nil]); first | done | rfl | (simp only [List.length_drop, List.length_take]; rfl)) ?_; (with_reducible refine (mode_Join.calls kj5 a0 a1 t114 _ A14.out).mono ?_); rintro e w16 ⟨rfl, hb⟩; refine ⟨_, rfl, ?_⟩; have n0_ := Aside0.mk (below_step (by repeat (first | (with_reducible first | exact HB.out | apply below_alloc | apply pw_below_drewN | apply below_drew1) | exact HB.out)) hb); clear HB; have HB := n0_; clear n0_; (try clear hb); (try clear hb2); (try clear hk); (try clear hi)))
          (try simp only [Act.put, List.setIfInBounds_toArray, List.set_cons_zero, List.set_cons_succ])
          go_cut [62] (fun v62 wc => ∃ (kq : Nat) (x62_14 : Bool), v62 = .bool x62_14 ∧ Aside0 (padlocklaw14_ModeJoins.j1 kq a0 a1 a2 t114 x62_14 = some r) ∧ Aside0 (kq ≤ kj5) ∧ Aside0 (Below w.heap.size w wc))
          case first =>
            have H := HC15.out
            clear HC15
            replace H := Option.bind_eq_some_iff.mp H
            obtain ⟨t115, A170, H⟩ := H
            replace H : (if t114 = t115 then ((mode_Least.f kj5 a0 t114).bind fun t116 => (if t116 = true then ((mode_Least.f kj5 a1 t114).bind fun t117 => (if t117 = true then ((mode_Join.f kj5 a0 a1).bind fun t118 => ((mode_Join.f kj5 t118 a2).bind fun t119 => ((mode_Join.f kj5 a1 a2).bind fun t120 => ((mode_Join.f kj5 a0 t120).bind fun t121 => (if t119 = t121 then ((mode_Join.f kj5 a0 a0).bind fun t122 => (padlocklaw14_ModeJoins.j1 kj5 a0 a1 a2 t114 (t122 != a0))) else (padlocklaw14_ModeJoins.j1 kj5 a0 a1 a2 t114 true)))))) else (padlocklaw14_ModeJoins.j1 kj5 a0 a1 a2 t114 true))) else (padlocklaw14_ModeJoins.j1 kj5 a0 a1 a2 t114 true))) else (padlocklaw14_ModeJoins.j1 kj5 a0 a1 a2 t114 true)) = some r := H
            have A17 := Aside0.mk A170
            clear A170
            by_cases c18 : t114 = t115
            · rw [if_pos c18] at H
              have c18b0 : (t114 == t115) = true := beq_iff_eq.mpr c18
              have c18b1 : (t114 != t115) = false := bne_eq_false_iff_eq.mpr c18
              clear c18
              (first | rw [c18b0] | (simp only [i64_w, i32_w]; rw [c18b0]) | skip)
              replace H := Option.bind_eq_some_iff.mp H
              obtain ⟨t116, A190, H⟩ := H
              replace H : (if t116 = true then ((mode_Least.f kj5 a1 t114).bind fun t117 => (if t117 = true then ((mode_Join.f kj5 a0 a1).bind fun t118 => ((mode_Join.f kj5 t118 a2).bind fun t119 => ((mode_Join.f kj5 a1 a2).bind fun t120 => ((mode_Join.f kj5 a0 t120).bind fun t121 => (if t119 = t121 then ((mode_Join.f kj5 a0 a0).bind fun t122 => (padlocklaw14_ModeJoins.j1 kj5 a0 a1 a2 t114 (t122 != a0))) else (padlocklaw14_ModeJoins.j1 kj5 a0 a1 a2 t114 true)))))) else (padlocklaw14_ModeJoins.j1 kj5 a0 a1 a2 t114 true))) else (padlocklaw14_ModeJoins.j1 kj5 a0 a1 a2 t114 true)) = some r := H
              have A19 := Aside0.mk A190
              clear A190
              by_cases c20 : t116 = true
              · subst c20
                have H1 : ((mode_Least.f kj5 a1 t114).bind fun t117 => (if t117 = true then ((mode_Join.f kj5 a0 a1).bind fun t118 => ((mode_Join.f kj5 t118 a2).bind fun t119 => ((mode_Join.f kj5 a1 a2).bind fun t120 => ((mode_Join.f kj5 a0 t120).bind fun t121 => (if t119 = t121 then ((mode_Join.f kj5 a0 a0).bind fun t122 => (padlocklaw14_ModeJoins.j1 kj5 a0 a1 a2 t114 (t122 != a0))) else (padlocklaw14_ModeJoins.j1 kj5 a0 a1 a2 t114 true)))))) else (padlocklaw14_ModeJoins.j1 kj5 a0 a1 a2 t114 true))) = some r := by rw [if_pos rfl] at H; exact H
                clear H
                have H := H1
                clear H1
                replace H := Option.bind_eq_some_iff.mp H
                obtain ⟨t117, A210, H⟩ := H
                replace H : (if t117 = true then ((mode_Join.f kj5 a0 a1).bind fun t118 => ((mode_Join.f kj5 t118 a2).bind fun t119 => ((mode_Join.f kj5 a1 a2).bind fun t120 => ((mode_Join.f kj5 a0 t120).bind fun t121 => (if t119 = t121 then ((mode_Join.f kj5 a0 a0).bind fun t122 => (padlocklaw14_ModeJoins.j1 kj5 a0 a1 a2 t114 (t122 != a0))) else (padlocklaw14_ModeJoins.j1 kj5 a0 a1 a2 t114 true)))))) else (padlocklaw14_ModeJoins.j1 kj5 a0 a1 a2 t114 true)) = some r := H
                have A21 := Aside0.mk A210
                clear A210
                by_cases c22 : t117 = true
                · subst c22
                  have H1 : ((mode_Join.f kj5 a0 a1).bind fun t118 => ((mode_Join.f kj5 t118 a2).bind fun t119 => ((mode_Join.f kj5 a1 a2).bind fun t120 => ((mode_Join.f kj5 a0 t120).bind fun t121 => (if t119 = t121 then ((mode_Join.f kj5 a0 a0).bind fun t122 => (padlocklaw14_ModeJoins.j1 kj5 a0 a1 a2 t114 (t122 != a0))) else (padlocklaw14_ModeJoins.j1 kj5 a0 a1 a2 t114 true)))))) = some r := by rw [if_pos rfl] at H; exact H
                  clear H
                  have H := H1
                  clear H1
                  replace H := Option.bind_eq_some_iff.mp H
                  obtain ⟨t118, A230, H⟩ := H
                  replace H : ((mode_Join.f kj5 t118 a2).bind fun t119 => ((mode_Join.f kj5 a1 a2).bind fun t120 => ((mode_Join.f kj5 a0 t120).bind fun t121 => (if t119 = t121 then ((mode_Join.f kj5 a0 a0).bind fun t122 => (padlocklaw14_ModeJoins.j1 kj5 a0 a1 a2 t114 (t122 != a0))) else (padlocklaw14_ModeJoins.j1 kj5 a0 a1 a2 t114 true))))) = some r := H
                  have A23 := Aside0.mk A230
                  clear A230
                  replace H := Option.bind_eq_some_iff.mp H
                  obtain ⟨t119, A240, H⟩ := H
                  replace H : ((mode_Join.f kj5 a1 a2).bind fun t120 => ((mode_Join.f kj5 a0 t120).bind fun t121 => (if t119 = t121 then ((mode_Join.f kj5 a0 a0).bind fun t122 => (padlocklaw14_ModeJoins.j1 kj5 a0 a1 a2 t114 (t122 != a0))) else (padlocklaw14_ModeJoins.j1 kj5 a0 a1 a2 t114 true)))) = some r := H
                  have A24 := Aside0.mk A240
                  clear A240
                  replace H := Option.bind_eq_some_iff.mp H
                  obtain ⟨t120, A250, H⟩ := H
                  replace H : ((mode_Join.f kj5 a0 t120).bind fun t121 => (if t119 = t121 then ((mode_Join.f kj5 a0 a0).bind fun t122 => (padlocklaw14_ModeJoins.j1 kj5 a0 a1 a2 t114 (t122 != a0))) else (padlocklaw14_ModeJoins.j1 kj5 a0 a1 a2 t114 true))) = some r := H
                  have A25 := Aside0.mk A250
                  clear A250
                  replace H := Option.bind_eq_some_iff.mp H
                  obtain ⟨t121, A260, H⟩ := H
                  replace H : (if t119 = t121 then ((mode_Join.f kj5 a0 a0).bind fun t122 => (padlocklaw14_ModeJoins.j1 kj5 a0 a1 a2 t114 (t122 != a0))) else (padlocklaw14_ModeJoins.j1 kj5 a0 a1 a2 t114 true)) = some r := H
                  have A26 := Aside0.mk A260
                  clear A260
                  by_cases c27 : t119 = t121
                  · rw [if_pos c27] at H
                    have c27b0 : (t119 == t121) = true := beq_iff_eq.mpr c27
                    have c27b1 : (t119 != t121) = false := bne_eq_false_iff_eq.mpr c27
                    clear c27
                    replace H := Option.bind_eq_some_iff.mp H
                    obtain ⟨t122, A280, H⟩ := H
                    replace H : (padlocklaw14_ModeJoins.j1 kj5 a0 a1 a2 t114 (t122 != a0)) = some r := H
                    have A28 := Aside0.mk A280
                    clear A280
                    have H' := Aside0.mk H
                    clear H
                    go_wp2_with (first | ((with_reducible refine gate_callee (f := 9) rfl ?_); refine goesL_ (some 29) rfl rfl Try.func9 (by kernel_rfl) rfl #[.int .i64 a1, .int .i64 a0] rfl (by (try simp only [List.map_toArray, List.map_cons, List.map_nil]); first | done | rfl | (simp only [List.length_drop, List.length_take]; rfl)) ?_; (with_reducible refine (mode_Join.calls kj5 a1 a0 t115 _ A17.out).mono ?_); rintro e w29 ⟨rfl, hb⟩; refine ⟨_, rfl, ?_⟩; have n0_ := Aside0.mk (below_step (by repeat (first | (with_reducible first | exact HB.out | apply below_alloc | apply pw_below_drewN | apply below_drew1) | exact HB.out)) hb); clear HB; have HB := n0_; clear n0_; (try clear hb); (try clear hb2); (try clear hk); (try clear hi)) | (go_at_call 10; (with_reducible refine (mode_Least.calls kj5 a0 t114 true _ A19.out).mono ?_); rintro e w30 ⟨rfl, hb⟩; have n0_ := Aside0.mk (below_step (by repeat (first | (with_reducible first | exact HB.out | apply below_alloc | apply pw_below_drewN | apply below_drew1) | exact HB.out)) hb); clear HB; have HB := n0_; clear n0_; (try clear hb); (try clear hb2); (try clear hk); (try clear hi)) | (go_at_call 10; (with_reducible refine (mode_Least.calls kj5 a1 t114 true _ A21.out).mono ?_); rintro e w31 ⟨rfl, hb⟩; have n0_ := Aside0.mk (below_step (by repeat (first | (with_reducible first | exact HB.out | apply below_alloc | apply pw_below_drewN | apply below_drew1) | exact HB.out)) hb); clear HB; have HB := n0_; clear n0_; (try clear hb); (try clear hb2); (try clear hk); (try clear hi)) | (go_at_call 9; (with_reducible refine (mode_Join.calls kj5 a0 a1 t118 _ A23.out).mono ?_); rintro e w32 ⟨rfl, hb⟩; have n0_ := Aside0.mk (below_step (by repeat (first | (with_reducible first | exact HB.out | apply below_alloc | apply pw_below_drewN | apply below_drew1) | exact HB.out)) hb); clear HB; have HB := n0_; clear n0_; (try clear hb); (try clear hb2); (try clear hk); (try clear hi)) | (go_at_call 9; (with_reducible refine (mode_Join.calls kj5 t118 a2 t119 _ A24.out).mono ?_); rintro e w33 ⟨rfl, hb⟩; have n0_ := Aside0.mk (below_step (by repeat (first | (with_reducible first | exact HB.out | apply below_alloc | apply pw_below_drewN | apply below_drew1) | exact HB.out)) hb); clear HB; have HB := n0_; clear n0_; (try clear hb); (try clear hb2); (try clear hk); (try clear hi)) | (go_at_call 9; (with_reducible refine (mode_Join.calls kj5 a1 a2 t120 _ A25.out).mono ?_); rintro e w34 ⟨rfl, hb⟩; have n0_ := Aside0.mk (below_step (by repeat (first | (with_reducible first | exact HB.out | apply below_alloc | apply pw_below_drewN | apply below_drew1) | exact HB.out)) hb); clear HB; have HB := n0_; clear n0_; (try clear hb); (try clear hb2); (try clear hk); (try clear hi)) | (go_at_call 9; (with_reducible refine (mode_Join.calls kj5 a0 t120 t121 _ A26.out).mono ?_); rintro e w35 ⟨rfl, hb⟩; have n0_ := Aside0.mk (below_step (by repeat (first | (with_reducible first | exact HB.out | apply below_alloc | apply pw_below_drewN | apply below_drew1) | exact HB.out)) hb); clear HB; have HB := n0_; clear n0_; (try clear hb); (try clear hb2); (try clear hk); (try clear hi)) | (go_at_call 9; (with_reducible refine (mode_Join.calls kj5 a0 a0 t122 _ A28.out).mono ?_); rintro e w36 ⟨rfl, hb⟩; have n0_ := Aside0.mk (below_step (by repeat (first | (with_reducible first | exact HB.out | apply below_alloc | apply pw_below_drewN | apply below_drew1) | exact HB.out)) hb); clear HB; have HB := n0_; clear n0_; (try clear hb); (try clear hb2); (try clear hk); (try clear hi)))
                    go_meet
                    case rel => exact ⟨_, ((t122 != a0)), (by first | rfl | (simp; done) | (simp [*]; done)), H', ⟨by have := HJ5.out; first | omega | exact Nat.le_refl _⟩, ⟨by repeat (first | (with_reducible first | exact HB.out | apply below_alloc | apply pw_below_drewN | apply below_drew1) | exact HB.out)⟩⟩
                  · rw [if_neg c27] at H
                    have c27b0 : (t119 == t121) = false := beq_eq_false_iff_ne.mpr c27
                    have c27b1 : (t119 != t121) = true := bne_iff_ne.mpr c27
                    have H' := Aside0.mk H
                    clear H
                    go_wp2_with (first | ((with_reducible refine gate_callee (f := 9) rfl ?_); refine goesL_ (some 29) rfl rfl Try.func9 (by kernel_rfl) rfl #[.int .i64 a1, .int .i64 a0] rfl (by (try simp only [List.map_toArray, List.map_cons, List.map_nil]); first | done | rfl | (simp only [List.length_drop, List.length_take]; rfl)) ?_; (with_reducible refine (mode_Join.calls kj5 a1 a0 t115 _ A17.out).mono ?_); rintro e w37 ⟨rfl, hb⟩; refine ⟨_, rfl, ?_⟩; have n0_ := Aside0.mk (below_step (by repeat (first | (with_reducible first | exact HB.out | apply below_alloc | apply pw_below_drewN | apply below_drew1) | exact HB.out)) hb); clear HB; have HB := n0_; clear n0_; (try clear hb); (try clear hb2); (try clear hk); (try clear hi)) | (go_at_call 10; (with_reducible refine (mode_Least.calls kj5 a0 t114 true _ A19.out).mono ?_); rintro e w38 ⟨rfl, hb⟩; have n0_ := Aside0.mk (below_step (by repeat (first | (with_reducible first | exact HB.out | apply below_alloc | apply pw_below_drewN | apply below_drew1) | exact HB.out)) hb); clear HB; have HB := n0_; clear n0_; (try clear hb); (try clear hb2); (try clear hk); (try clear hi)) | (go_at_call 10; (with_reducible refine (mode_Least.calls kj5 a1 t114 true _ A21.out).mono ?_); rintro e w39 ⟨rfl, hb⟩; have n0_ := Aside0.mk (below_step (by repeat (first | (with_reducible first | exact HB.out | apply below_alloc | apply pw_below_drewN | apply below_drew1) | exact HB.out)) hb); clear HB; have HB := n0_; clear n0_; (try clear hb); (try clear hb2); (try clear hk); (try clear hi)) | (go_at_call 9; (with_reducible refine (mode_Join.calls kj5 a0 a1 t118 _ A23.out).mono ?_); rintro e w40 ⟨rfl, hb⟩; have n0_ := Aside0.mk (below_step (by repeat (first | (with_reducible first | exact HB.out | apply below_alloc | apply pw_below_drewN | apply below_drew1) | exact HB.out)) hb); clear HB; have HB := n0_; clear n0_; (try clear hb); (try clear hb2); (try clear hk); (try clear hi)) | (go_at_call 9; (with_reducible refine (mode_Join.calls kj5 t118 a2 t119 _ A24.out).mono ?_); rintro e w41 ⟨rfl, hb⟩; have n0_ := Aside0.mk (below_step (by repeat (first | (with_reducible first | exact HB.out | apply below_alloc | apply pw_below_drewN | apply below_drew1) | exact HB.out)) hb); clear HB; have HB := n0_; clear n0_; (try clear hb); (try clear hb2); (try clear hk); (try clear hi)) | (go_at_call 9; (with_reducible refine (mode_Join.calls kj5 a1 a2 t120 _ A25.out).mono ?_); rintro e w42 ⟨rfl, hb⟩; have n0_ := Aside0.mk (below_step (by repeat (first | (with_reducible first | exact HB.out | apply below_alloc | apply pw_below_drewN | apply below_drew1) | exact HB.out)) hb); clear HB; have HB := n0_; clear n0_; (try clear hb); (try clear hb2); (try clear hk); (try clear hi)) | (go_at_call 9; (with_reducible refine (mode_Join.calls kj5 a0 t120 t121 _ A26.out).mono ?_); rintro e w43 ⟨rfl, hb⟩; have n0_ := Aside0.mk (below_step (by repeat (first | (with_reducible first | exact HB.out | apply below_alloc | apply pw_below_drewN | apply below_drew1) | exact HB.out)) hb); clear HB; have HB := n0_; clear n0_; (try clear hb); (try clear hb2); (try clear hk); (try clear hi)))
                    go_meet
                    case rel => exact ⟨_, (true), (by first | rfl | (simp; done) | (simp [*]; done)), H', ⟨by have := HJ5.out; first | omega | exact Nat.le_refl _⟩, ⟨by repeat (first | (with_reducible first | exact HB.out | apply below_alloc | apply pw_below_drewN | apply below_drew1) | exact HB.out)⟩⟩
                · replace c22 := Bool.eq_false_iff.mpr c22
                  subst c22
                  have H1 : (padlocklaw14_ModeJoins.j1 kj5 a0 a1 a2 t114 true) = some r := by rw [if_neg (show ¬ (false = true) by decide)] at H; exact H
                  clear H
                  have H := H1
                  clear H1
                  have H' := Aside0.mk H
                  clear H
                  go_wp2_with (first | ((with_reducible refine gate_callee (f := 9) rfl ?_); refine goesL_ (some 29) rfl rfl Try.func9 (by kernel_rfl) rfl #[.int .i64 a1, .int .i64 a0] rfl (by (try simp only [List.map_toArray, List.map_cons, List.map_nil]); first | done | rfl | (simp only [List.length_drop, List.length_take]; rfl)) ?_; (with_reducible refine (mode_Join.calls kj5 a1 a0 t115 _ A17.out).mono ?_); rintro e w44 ⟨rfl, hb⟩; refine ⟨_, rfl, ?_⟩; have n0_ := Aside0.mk (below_step (by repeat (first | (with_reducible first | exact HB.out | apply below_alloc | apply pw_below_drewN | apply below_drew1) | exact HB.out)) hb); clear HB; have HB := n0_; clear n0_; (try clear hb); (try clear hb2); (try clear hk); (try clear hi)) | (go_at_call 10; (with_reducible refine (mode_Least.calls kj5 a0 t114 true _ A19.out).mono ?_); rintro e w45 ⟨rfl, hb⟩; have n0_ := Aside0.mk (below_step (by repeat (first | (with_reducible first | exact HB.out | apply below_alloc | apply pw_below_drewN | apply below_drew1) | exact HB.out)) hb); clear HB; have HB := n0_; clear n0_; (try clear hb); (try clear hb2); (try clear hk); (try clear hi)) | (go_at_call 10; (with_reducible refine (mode_Least.calls kj5 a1 t114 false _ A21.out).mono ?_); rintro e w46 ⟨rfl, hb⟩; have n0_ := Aside0.mk (below_step (by repeat (first | (with_reducible first | exact HB.out | apply below_alloc | apply pw_below_drewN | apply below_drew1) | exact HB.out)) hb); clear HB; have HB := n0_; clear n0_; (try clear hb); (try clear hb2); (try clear hk); (try clear hi)))
                  go_meet
                  case rel => exact ⟨_, (true), (by first | rfl | (simp; done) | (simp [*]; done)), H', ⟨by have := HJ5.out; first | omega | exact Nat.le_refl _⟩, ⟨by repeat (first | (with_reducible first | exact HB.out | apply below_alloc | apply pw_below_drewN | apply below_drew1) | exact HB.out)⟩⟩
              · replace c20 := Bool.eq_false_iff.mpr c20
                subst c20
                have H1 : (padlocklaw14_ModeJoins.j1 kj5 a0 a1 a2 t114 true) = some r := by rw [if_neg (show ¬ (false = true) by decide)] at H; exact H
                clear H
                have H := H1
                clear H1
                have H' := Aside0.mk H
                clear H
                go_wp2_with (first | ((with_reducible refine gate_callee (f := 9) rfl ?_); refine goesL_ (some 29) rfl rfl Try.func9 (by kernel_rfl) rfl #[.int .i64 a1, .int .i64 a0] rfl (by (try simp only [List.map_toArray, List.map_cons, List.map_nil]); first | done | rfl | (simp only [List.length_drop, List.length_take]; rfl)) ?_; (with_reducible refine (mode_Join.calls kj5 a1 a0 t115 _ A17.out).mono ?_); rintro e w47 ⟨rfl, hb⟩; refine ⟨_, rfl, ?_⟩; have n0_ := Aside0.mk (below_step (by repeat (first | (with_reducible first | exact HB.out | apply below_alloc | apply pw_below_drewN | apply below_drew1) | exact HB.out)) hb); clear HB; have HB := n0_; clear n0_; (try clear hb); (try clear hb2); (try clear hk); (try clear hi)) | (go_at_call 10; (with_reducible refine (mode_Least.calls kj5 a0 t114 false _ A19.out).mono ?_); rintro e w48 ⟨rfl, hb⟩; have n0_ := Aside0.mk (below_step (by repeat (first | (with_reducible first | exact HB.out | apply below_alloc | apply pw_below_drewN | apply below_drew1) | exact HB.out)) hb); clear HB; have HB := n0_; clear n0_; (try clear hb); (try clear hb2); (try clear hk); (try clear hi)))
                go_meet
                case rel => exact ⟨_, (true), (by first | rfl | (simp; done) | (simp [*]; done)), H', ⟨by have := HJ5.out; first | omega | exact Nat.le_refl _⟩, ⟨by repeat (first | (with_reducible first | exact HB.out | apply below_alloc | apply pw_below_drewN | apply below_drew1) | exact HB.out)⟩⟩
            · rw [if_neg c18] at H
              have c18b0 : (t114 == t115) = false := beq_eq_false_iff_ne.mpr c18
              have c18b1 : (t114 != t115) = true := bne_iff_ne.mpr c18
              (first | rw [c18b0] | (simp only [i64_w, i32_w]; rw [c18b0]) | skip)
              have H' := Aside0.mk H
              clear H
              go_wp2_with (first | ((with_reducible refine gate_callee (f := 9) rfl ?_); refine goesL_ (some 29) rfl rfl Try.func9 (by kernel_rfl) rfl #[.int .i64 a1, .int .i64 a0] rfl (by (try simp only [List.map_toArray, List.map_cons, List.map_nil]); first | done | rfl | (simp only [List.length_drop, List.length_take]; rfl)) ?_; (with_reducible refine (mode_Join.calls kj5 a1 a0 t115 _ A17.out).mono ?_); rintro e w49 ⟨rfl, hb⟩; refine ⟨_, rfl, ?_⟩; have n0_ := Aside0.mk (below_step (by repeat (first | (with_reducible first | exact HB.out | apply below_alloc | apply pw_below_drewN | apply below_drew1) | exact HB.out)) hb); clear HB; have HB := n0_; clear n0_; (try clear hb); (try clear hb2); (try clear hk); (try clear hi)))
              go_meet
              case rel => exact ⟨_, (true), (by first | rfl | (simp; done) | (simp [*]; done)), H', ⟨by have := HJ5.out; first | omega | exact Nat.le_refl _⟩, ⟨by repeat (first | (with_reducible first | exact HB.out | apply below_alloc | apply pw_below_drewN | apply below_drew1) | exact HB.out)⟩⟩
          case rest =>
            clear HC15
            try clear c1
            try clear c2
            try clear p2
            try clear c3
            try clear c5
            try clear c7
            try clear c8
            try clear c9
            try clear c11
            try clear c13
            try clear c18
            try clear c18b0
            try clear c18b1
            try clear c20
            try clear c22
            try clear c27
            try clear c27b0
            try clear c27b1
            try clear p2
            obtain ⟨kq, x62_14, rfl, HA, HJ14, HB⟩ := hcut
            cases kq with
            | zero => exact absurd HA.out (by simp [padlocklaw14_ModeJoins.j1])
            | succ kj14 =>
              have H := HA.out
              clear HA
              simp only [padlocklaw14_ModeJoins.j1] at H
              by_cases c50 : x62_14 = true
              · subst c50
                have H1 : (some false) = some r := by rw [if_pos rfl] at H; exact H
                clear H
                have H := H1
                clear H1
                obtain rfl := Option.some.inj H
                go_wp2
                go_ret
                exact ⟨by first | rfl | (simp [errW_none, errW_some] <;> rfl) | (simp [*, errW_none, errW_some] <;> rfl), by repeat (first | (with_reducible first | exact HB.out | apply below_alloc | apply pw_below_drewN | apply below_drew1) | exact HB.out)⟩
              · replace c50 := Bool.eq_false_iff.mpr c50
                subst c50
                have H1 : ((mode_Least.f kj14 a0 a2).bind fun t123 => (if t123 = true then ((mode_Least.f kj14 a1 a2).bind fun t124 => (if t124 = true then ((mode_Least.f kj14 t114 a2).bind fun t125 => (padlocklaw14_ModeJoins.j2 kj14 a0 a1 a2 (!t125))) else (padlocklaw14_ModeJoins.j2 kj14 a0 a1 a2 false))) else (padlocklaw14_ModeJoins.j2 kj14 a0 a1 a2 false))) = some r := by rw [if_neg (show ¬ (false = true) by decide)] at H; exact H
                clear H
                have H := H1
                clear H1
                have HC51 := Aside0.mk H
                clear H
                go_upto_region 8 with (fail)
                go_cut [76] (fun v76 wc => ∃ (kq : Nat) (x76_50 : Bool), v76 = .bool x76_50 ∧ Aside0 (padlocklaw14_ModeJoins.j2 kq a0 a1 a2 x76_50 = some r) ∧ Aside0 (kq ≤ kj14) ∧ Aside0 (Below w.heap.size w wc))
                case first =>
                  have H := HC51.out
                  clear HC51
                  replace H := Option.bind_eq_some_iff.mp H
                  obtain ⟨t123, A520, H⟩ := H
                  replace H : (if t123 = true then ((mode_Least.f kj14 a1 a2).bind fun t124 => (if t124 = true then ((mode_Least.f kj14 t114 a2).bind fun t125 => (padlocklaw14_ModeJoins.j2 kj14 a0 a1 a2 (!t125))) else (padlocklaw14_ModeJoins.j2 kj14 a0 a1 a2 false))) else (padlocklaw14_ModeJoins.j2 kj14 a0 a1 a2 false)) = some r := H
                  have A52 := Aside0.mk A520
                  clear A520
                  by_cases c53 : t123 = true
                  · subst c53
                    have H1 : ((mode_Least.f kj14 a1 a2).bind fun t124 => (if t124 = true then ((mode_Least.f kj14 t114 a2).bind fun t125 => (padlocklaw14_ModeJoins.j2 kj14 a0 a1 a2 (!t125))) else (padlocklaw14_ModeJoins.j2 kj14 a0 a1 a2 false))) = some r := by rw [if_pos rfl] at H; exact H
                    clear H
                    have H := H1
                    clear H1
                    replace H := Option.bind_eq_some_iff.mp H
                    obtain ⟨t124, A540, H⟩ := H
                    replace H : (if t124 = true then ((mode_Least.f kj14 t114 a2).bind fun t125 => (padlocklaw14_ModeJoins.j2 kj14 a0 a1 a2 (!t125))) else (padlocklaw14_ModeJoins.j2 kj14 a0 a1 a2 false)) = some r := H
                    have A54 := Aside0.mk A540
                    clear A540
                    by_cases c55 : t124 = true
                    · subst c55
                      have H1 : ((mode_Least.f kj14 t114 a2).bind fun t125 => (padlocklaw14_ModeJoins.j2 kj14 a0 a1 a2 (!t125))) = some r := by rw [if_pos rfl] at H; exact H
                      clear H
                      have H := H1
                      clear H1
                      replace H := Option.bind_eq_some_iff.mp H
                      obtain ⟨t125, A560, H⟩ := H
                      replace H : (padlocklaw14_ModeJoins.j2 kj14 a0 a1 a2 (!t125)) = some r := H
                      have A56 := Aside0.mk A560
                      clear A560
                      have H' := Aside0.mk H
                      clear H
                      go_wp2_with (first | ((with_reducible refine gate_callee (f := 10) rfl ?_); refine goesL_ (some 65) rfl rfl Try.func10 (by kernel_rfl) rfl #[.int .i64 a0, .int .i64 a2] rfl (by (try simp only [List.map_toArray, List.map_cons, List.map_nil]); first | done | rfl | (simp only [List.length_drop, List.length_take]; rfl)) ?_; (with_reducible refine (mode_Least.calls kj14 a0 a2 true _ A52.out).mono ?_); rintro e w57 ⟨rfl, hb⟩; refine ⟨_, rfl, ?_⟩; have n0_ := Aside0.mk (below_step (by repeat (first | (with_reducible first | exact HB.out | apply below_alloc | apply pw_below_drewN | apply below_drew1) | exact HB.out)) hb); clear HB; have HB := n0_; clear n0_; (try clear hb); (try clear hb2); (try clear hk); (try clear hi)) | (go_at_call 10; (with_reducible refine (mode_Least.calls kj14 a1 a2 true _ A54.out).mono ?_); rintro e w58 ⟨rfl, hb⟩; have n0_ := Aside0.mk (below_step (by repeat (first | (with_reducible first | exact HB.out | apply below_alloc | apply pw_below_drewN | apply below_drew1) | exact HB.out)) hb); clear HB; have HB := n0_; clear n0_; (try clear hb); (try clear hb2); (try clear hk); (try clear hi)) | (go_at_call 10; (with_reducible refine (mode_Least.calls kj14 t114 a2 t125 _ A56.out).mono ?_); rintro e w59 ⟨rfl, hb⟩; have n0_ := Aside0.mk (below_step (by repeat (first | (with_reducible first | exact HB.out | apply below_alloc | apply pw_below_drewN | apply below_drew1) | exact HB.out)) hb); clear HB; have HB := n0_; clear n0_; (try clear hb); (try clear hb2); (try clear hk); (try clear hi)))
                      go_meet
                      case rel => exact ⟨_, (!t125), (by first | rfl | (simp; done) | (simp [*]; done)), H', ⟨by have := HJ5.out; have := HJ14.out; first | omega | exact Nat.le_refl _⟩, ⟨by repeat (first | (with_reducible first | exact HB.out | apply below_alloc | apply pw_below_drewN | apply below_drew1) | exact HB.out)⟩⟩
                    · replace c55 := Bool.eq_false_iff.mpr c55
                      subst c55
                      have H1 : (padlocklaw14_ModeJoins.j2 kj14 a0 a1 a2 false) = some r := by rw [if_neg (show ¬ (false = true) by decide)] at H; exact H
                      clear H
                      have H := H1
                      clear H1
                      have H' := Aside0.mk H
                      clear H
                      go_wp2_with (first | ((with_reducible refine gate_callee (f := 10) rfl ?_); refine goesL_ (some 65) rfl rfl Try.func10 (by kernel_rfl) rfl #[.int .i64 a0, .int .i64 a2] rfl (by (try simp only [List.map_toArray, List.map_cons, List.map_nil]); first | done | rfl | (simp only [List.length_drop, List.length_take]; rfl)) ?_; (with_reducible refine (mode_Least.calls kj14 a0 a2 true _ A52.out).mono ?_); rintro e w60 ⟨rfl, hb⟩; refine ⟨_, rfl, ?_⟩; have n0_ := Aside0.mk (below_step (by repeat (first | (with_reducible first | exact HB.out | apply below_alloc | apply pw_below_drewN | apply below_drew1) | exact HB.out)) hb); clear HB; have HB := n0_; clear n0_; (try clear hb); (try clear hb2); (try clear hk); (try clear hi)) | (go_at_call 10; (with_reducible refine (mode_Least.calls kj14 a1 a2 false _ A54.out).mono ?_); rintro e w61 ⟨rfl, hb⟩; have n0_ := Aside0.mk (below_step (by repeat (first | (with_reducible first | exact HB.out | apply below_alloc | apply pw_below_drewN | apply below_drew1) | exact HB.out)) hb); clear HB; have HB := n0_; clear n0_; (try clear hb); (try clear hb2); (try clear hk); (try clear hi)))
                      go_meet
                      case rel => exact ⟨_, (false), (by first | rfl | (simp; done) | (simp [*]; done)), H', ⟨by have := HJ5.out; have := HJ14.out; first | omega | exact Nat.le_refl _⟩, ⟨by repeat (first | (with_reducible first | exact HB.out | apply below_alloc | apply pw_below_drewN | apply below_drew1) | exact HB.out)⟩⟩
                  · replace c53 := Bool.eq_false_iff.mpr c53
                    subst c53
                    have H1 : (padlocklaw14_ModeJoins.j2 kj14 a0 a1 a2 false) = some r := by rw [if_neg (show ¬ (false = true) by decide)] at H; exact H
                    clear H
                    have H := H1
                    clear H1
                    have H' := Aside0.mk H
                    clear H
                    go_wp2_with (first | ((with_reducible refine gate_callee (f := 10) rfl ?_); refine goesL_ (some 65) rfl rfl Try.func10 (by kernel_rfl) rfl #[.int .i64 a0, .int .i64 a2] rfl (by (try simp only [List.map_toArray, List.map_cons, List.map_nil]); first | done | rfl | (simp only [List.length_drop, List.length_take]; rfl)) ?_; (with_reducible refine (mode_Least.calls kj14 a0 a2 false _ A52.out).mono ?_); rintro e w62 ⟨rfl, hb⟩; refine ⟨_, rfl, ?_⟩; have n0_ := Aside0.mk (below_step (by repeat (first | (with_reducible first | exact HB.out | apply below_alloc | apply pw_below_drewN | apply below_drew1) | exact HB.out)) hb); clear HB; have HB := n0_; clear n0_; (try clear hb); (try clear hb2); (try clear hk); (try clear hi)))
                    go_meet
                    case rel => exact ⟨_, (false), (by first | rfl | (simp; done) | (simp [*]; done)), H', ⟨by have := HJ5.out; have := HJ14.out; first | omega | exact Nat.le_refl _⟩, ⟨by repeat (first | (with_reducible first | exact HB.out | apply below_alloc | apply pw_below_drewN | apply below_drew1) | exact HB.out)⟩⟩
                case rest =>
                  clear HC51
                  try clear c1
                  try clear c2
                  try clear p2
                  try clear c3
                  try clear c5
                  try clear c7
                  try clear c8
                  try clear c9
                  try clear c10
                  try clear c11
                  try clear c13
                  try clear c18
                  try clear c18b0
                  try clear c18b1
                  try clear c20
                  try clear c22
                  try clear c27
                  try clear c27b0
                  try clear c27b1
                  try clear c50
                  try clear c53
                  try clear c55
                  try clear p2
                  obtain ⟨kq, x76_50, rfl, HA, HJ50, HB⟩ := hcut
                  cases kq with
                  | zero => exact absurd HA.out (by simp [padlocklaw14_ModeJoins.j2])
                  | succ kj50 =>
                    have H := HA.out
                    clear HA
                    simp only [padlocklaw14_ModeJoins.j2] at H
                    by_cases c63 : x76_50 = true
                    · subst c63
                      have H1 : (some false) = some r := by rw [if_pos rfl] at H; exact H
                      clear H
                      have H := H1
                      clear H1
                      obtain rfl := Option.some.inj H
                      go_wp2
                      go_ret
                      exact ⟨by first | rfl | (simp [errW_none, errW_some] <;> rfl) | (simp [*, errW_none, errW_some] <;> rfl), by repeat (first | (with_reducible first | exact HB.out | apply below_alloc | apply pw_below_drewN | apply below_drew1) | exact HB.out)⟩
                    · replace c63 := Bool.eq_false_iff.mpr c63
                      subst c63
                      have H1 : ((mode_Fits.f kj50 a0 a1).bind fun t126 => ((mode_Fits.f kj50 a1 a0).bind fun t127 => (if (t126 == t127) = true then ((mode_Least.f kj50 a0 a1).bind fun t128 => (if t128 = true then ((mode_Fits.f kj50 a1 a2).bind fun t129 => (if t129 = true then ((mode_Fits.f kj50 a0 a2).bind fun t130 => (some (!(!t130)))) else (some (!false)))) else (some (!false)))) else (some false)))) = some r := by rw [if_neg (show ¬ (false = true) by decide)] at H; exact H
                      clear H
                      have H := H1
                      clear H1
                      replace H := Option.bind_eq_some_iff.mp H
                      obtain ⟨t126, A640, H⟩ := H
                      replace H : ((mode_Fits.f kj50 a1 a0).bind fun t127 => (if (t126 == t127) = true then ((mode_Least.f kj50 a0 a1).bind fun t128 => (if t128 = true then ((mode_Fits.f kj50 a1 a2).bind fun t129 => (if t129 = true then ((mode_Fits.f kj50 a0 a2).bind fun t130 => (some (!(!t130)))) else (some (!false)))) else (some (!false)))) else (some false))) = some r := H
                      have A64 := Aside0.mk A640
                      clear A640
                      replace H := Option.bind_eq_some_iff.mp H
                      obtain ⟨t127, A650, H⟩ := H
                      replace H : (if (t126 == t127) = true then ((mode_Least.f kj50 a0 a1).bind fun t128 => (if t128 = true then ((mode_Fits.f kj50 a1 a2).bind fun t129 => (if t129 = true then ((mode_Fits.f kj50 a0 a2).bind fun t130 => (some (!(!t130)))) else (some (!false)))) else (some (!false)))) else (some false)) = some r := H
                      have A65 := Aside0.mk A650
                      clear A650
                      by_cases c66 : (t126 == t127) = true
                      · rw [if_pos c66] at H
                        have c66b0 : (t126 == t127) = true := c66
                        (try (have c66b1 : decide (t126 = t127) = true := by simpa using c66))
                        (try (have c66b2 : (t126 == t127) = true := by simpa using c66))
                        clear c66
                        replace H := Option.bind_eq_some_iff.mp H
                        obtain ⟨t128, A670, H⟩ := H
                        replace H : (if t128 = true then ((mode_Fits.f kj50 a1 a2).bind fun t129 => (if t129 = true then ((mode_Fits.f kj50 a0 a2).bind fun t130 => (some (!(!t130)))) else (some (!false)))) else (some (!false))) = some r := H
                        have A67 := Aside0.mk A670
                        clear A670
                        by_cases c68 : t128 = true
                        · subst c68
                          have H1 : ((mode_Fits.f kj50 a1 a2).bind fun t129 => (if t129 = true then ((mode_Fits.f kj50 a0 a2).bind fun t130 => (some (!(!t130)))) else (some (!false)))) = some r := by rw [if_pos rfl] at H; exact H
                          clear H
                          have H := H1
                          clear H1
                          replace H := Option.bind_eq_some_iff.mp H
                          obtain ⟨t129, A690, H⟩ := H
                          replace H : (if t129 = true then ((mode_Fits.f kj50 a0 a2).bind fun t130 => (some (!(!t130)))) else (some (!false))) = some r := H
                          have A69 := Aside0.mk A690
                          clear A690
                          by_cases c70 : t129 = true
                          · subst c70
                            have H1 : ((mode_Fits.f kj50 a0 a2).bind fun t130 => (some (!(!t130)))) = some r := by rw [if_pos rfl] at H; exact H
                            clear H
                            have H := H1
                            clear H1
                            replace H := Option.bind_eq_some_iff.mp H
                            obtain ⟨t130, A710, H⟩ := H
                            replace H : (some (!(!t130))) = some r := H
                            have A71 := Aside0.mk A710
                            clear A710
                            obtain rfl := Option.some.inj H
                            go_wp2_with (first | ((with_reducible refine gate_callee (f := 11) rfl ?_); refine goesL_ (some 79) rfl rfl Try.func11 (by kernel_rfl) rfl #[.int .i64 a0, .int .i64 a1] rfl (by (try simp only [List.map_toArray, List.map_cons, List.map_nil]); first | done | rfl | (simp only [List.length_drop, List.length_take]; rfl)) ?_; (with_reducible refine (mode_Fits.calls kj50 a0 a1 t126 _ A64.out).mono ?_); rintro e w72 ⟨rfl, hb⟩; refine ⟨_, rfl, ?_⟩; have n0_ := Aside0.mk (below_step (by repeat (first | (with_reducible first | exact HB.out | apply below_alloc | apply pw_below_drewN | apply below_drew1) | exact HB.out)) hb); clear HB; have HB := n0_; clear n0_; (try clear hb); (try clear hb2); (try clear hk); (try clear hi)) | ((with_reducible refine gate_callee (f := 11) rfl ?_); refine goesL_ (some 82) rfl rfl Try.func11 (by kernel_rfl) rfl #[.int .i64 a1, .int .i64 a0] rfl (by (try simp only [List.map_toArray, List.map_cons, List.map_nil]); first | done | rfl | (simp only [List.length_drop, List.length_take]; rfl)) ?_; (with_reducible refine (mode_Fits.calls kj50 a1 a0 t127 _ A65.out).mono ?_); rintro e w73 ⟨rfl, hb⟩; refine ⟨_, rfl, ?_⟩; have n0_ := Aside0.mk (below_step (by repeat (first | (with_reducible first | exact HB.out | apply below_alloc | apply pw_below_drewN | apply below_drew1) | exact HB.out)) hb); clear HB; have HB := n0_; clear n0_; (try clear hb); (try clear hb2); (try clear hk); (try clear hi)) | (go_at_call 10; (with_reducible refine (mode_Least.calls kj50 a0 a1 true _ A67.out).mono ?_); rintro e w74 ⟨rfl, hb⟩; have n0_ := Aside0.mk (below_step (by repeat (first | (with_reducible first | exact HB.out | apply below_alloc | apply pw_below_drewN | apply below_drew1) | exact HB.out)) hb); clear HB; have HB := n0_; clear n0_; (try clear hb); (try clear hb2); (try clear hk); (try clear hi)) | (go_at_call 11; (with_reducible refine (mode_Fits.calls kj50 a1 a2 true _ A69.out).mono ?_); rintro e w75 ⟨rfl, hb⟩; have n0_ := Aside0.mk (below_step (by repeat (first | (with_reducible first | exact HB.out | apply below_alloc | apply pw_below_drewN | apply below_drew1) | exact HB.out)) hb); clear HB; have HB := n0_; clear n0_; (try clear hb); (try clear hb2); (try clear hk); (try clear hi)) | (go_at_call 11; (with_reducible refine (mode_Fits.calls kj50 a0 a2 t130 _ A71.out).mono ?_); rintro e w76 ⟨rfl, hb⟩; have n0_ := Aside0.mk (below_step (by repeat (first | (with_reducible first | exact HB.out | apply below_alloc | apply pw_below_drewN | apply below_drew1) | exact HB.out)) hb); clear HB; have HB := n0_; clear n0_; (try clear hb); (try clear hb2); (try clear hk); (try clear hi)))
                            go_ret
                            exact ⟨by first | rfl | (simp [errW_none, errW_some] <;> rfl) | (simp [*, errW_none, errW_some] <;> rfl), by repeat (first | (with_reducible first | exact HB.out | apply below_alloc | apply pw_below_drewN | apply below_drew1) | exact HB.out)⟩
                          · replace c70 := Bool.eq_false_iff.mpr c70
                            subst c70
                            have H1 : (some (!false)) = some r := by rw [if_neg (show ¬ (false = true) by decide)] at H; exact H
                            clear H
                            have H := H1
                            clear H1
                            obtain rfl := Option.some.inj H
                            go_wp2_with (first | ((with_reducible refine gate_callee (f := 11) rfl ?_); refine goesL_ (some 79) rfl rfl Try.func11 (by kernel_rfl) rfl #[.int .i64 a0, .int .i64 a1] rfl (by (try simp only [List.map_toArray, List.map_cons, List.map_nil]); first | done | rfl | (simp only [List.length_drop, List.length_take]; rfl)) ?_; (with_reducible refine (mode_Fits.calls kj50 a0 a1 t126 _ A64.out).mono ?_); rintro e w77 ⟨rfl, hb⟩; refine ⟨_, rfl, ?_⟩; have n0_ := Aside0.mk (below_step (by repeat (first | (with_reducible first | exact HB.out | apply below_alloc | apply pw_below_drewN | apply below_drew1) | exact HB.out)) hb); clear HB; have HB := n0_; clear n0_; (try clear hb); (try clear hb2); (try clear hk); (try clear hi)) | ((with_reducible refine gate_callee (f := 11) rfl ?_); refine goesL_ (some 82) rfl rfl Try.func11 (by kernel_rfl) rfl #[.int .i64 a1, .int .i64 a0] rfl (by (try simp only [List.map_toArray, List.map_cons, List.map_nil]); first | done | rfl | (simp only [List.length_drop, List.length_take]; rfl)) ?_; (with_reducible refine (mode_Fits.calls kj50 a1 a0 t127 _ A65.out).mono ?_); rintro e w78 ⟨rfl, hb⟩; refine ⟨_, rfl, ?_⟩; have n0_ := Aside0.mk (below_step (by repeat (first | (with_reducible first | exact HB.out | apply below_alloc | apply pw_below_drewN | apply below_drew1) | exact HB.out)) hb); clear HB; have HB := n0_; clear n0_; (try clear hb); (try clear hb2); (try clear hk); (try clear hi)) | (go_at_call 10; (with_reducible refine (mode_Least.calls kj50 a0 a1 true _ A67.out).mono ?_); rintro e w79 ⟨rfl, hb⟩; have n0_ := Aside0.mk (below_step (by repeat (first | (with_reducible first | exact HB.out | apply below_alloc | apply pw_below_drewN | apply below_drew1) | exact HB.out)) hb); clear HB; have HB := n0_; clear n0_; (try clear hb); (try clear hb2); (try clear hk); (try clear hi)) | (go_at_call 11; (with_reducible refine (mode_Fits.calls kj50 a1 a2 false _ A69.out).mono ?_); rintro e w80 ⟨rfl, hb⟩; have n0_ := Aside0.mk (below_step (by repeat (first | (with_reducible first | exact HB.out | apply below_alloc | apply pw_below_drewN | apply below_drew1) | exact HB.out)) hb); clear HB; have HB := n0_; clear n0_; (try clear hb); (try clear hb2); (try clear hk); (try clear hi)))
                            go_ret
                            exact ⟨by first | rfl | (simp [errW_none, errW_some] <;> rfl) | (simp [*, errW_none, errW_some] <;> rfl), by repeat (first | (with_reducible first | exact HB.out | apply below_alloc | apply pw_below_drewN | apply below_drew1) | exact HB.out)⟩
                        · replace c68 := Bool.eq_false_iff.mpr c68
                          subst c68
                          have H1 : (some (!false)) = some r := by rw [if_neg (show ¬ (false = true) by decide)] at H; exact H
                          clear H
                          have H := H1
                          clear H1
                          obtain rfl := Option.some.inj H
                          go_wp2_with (first | ((with_reducible refine gate_callee (f := 11) rfl ?_); refine goesL_ (some 79) rfl rfl Try.func11 (by kernel_rfl) rfl #[.int .i64 a0, .int .i64 a1] rfl (by (try simp only [List.map_toArray, List.map_cons, List.map_nil]); first | done | rfl | (simp only [List.length_drop, List.length_take]; rfl)) ?_; (with_reducible refine (mode_Fits.calls kj50 a0 a1 t126 _ A64.out).mono ?_); rintro e w81 ⟨rfl, hb⟩; refine ⟨_, rfl, ?_⟩; have n0_ := Aside0.mk (below_step (by repeat (first | (with_reducible first | exact HB.out | apply below_alloc | apply pw_below_drewN | apply below_drew1) | exact HB.out)) hb); clear HB; have HB := n0_; clear n0_; (try clear hb); (try clear hb2); (try clear hk); (try clear hi)) | ((with_reducible refine gate_callee (f := 11) rfl ?_); refine goesL_ (some 82) rfl rfl Try.func11 (by kernel_rfl) rfl #[.int .i64 a1, .int .i64 a0] rfl (by (try simp only [List.map_toArray, List.map_cons, List.map_nil]); first | done | rfl | (simp only [List.length_drop, List.length_take]; rfl)) ?_; (with_reducible refine (mode_Fits.calls kj50 a1 a0 t127 _ A65.out).mono ?_); rintro e w82 ⟨rfl, hb⟩; refine ⟨_, rfl, ?_⟩; have n0_ := Aside0.mk (below_step (by repeat (first | (with_reducible first | exact HB.out | apply below_alloc | apply pw_below_drewN | apply below_drew1) | exact HB.out)) hb); clear HB; have HB := n0_; clear n0_; (try clear hb); (try clear hb2); (try clear hk); (try clear hi)) | (go_at_call 10; (with_reducible refine (mode_Least.calls kj50 a0 a1 false _ A67.out).mono ?_); rintro e w83 ⟨rfl, hb⟩; have n0_ := Aside0.mk (below_step (by repeat (first | (with_reducible first | exact HB.out | apply below_alloc | apply pw_below_drewN | apply below_drew1) | exact HB.out)) hb); clear HB; have HB := n0_; clear n0_; (try clear hb); (try clear hb2); (try clear hk); (try clear hi)))
                          go_ret
                          exact ⟨by first | rfl | (simp [errW_none, errW_some] <;> rfl) | (simp [*, errW_none, errW_some] <;> rfl), by repeat (first | (with_reducible first | exact HB.out | apply below_alloc | apply pw_below_drewN | apply below_drew1) | exact HB.out)⟩
                      · rw [if_neg c66] at H
                        have c66b0 : (t126 == t127) = false := by simpa using c66
                        (try (have c66b1 : decide (t126 = t127) = false := by simpa using c66))
                        (try (have c66b2 : (t126 == t127) = false := by simpa using c66))
                        (try (have c66b3 : ¬ (t126 = t127) := by simpa using c66))
                        clear c66
                        obtain rfl := Option.some.inj H
                        go_wp2_with (first | ((with_reducible refine gate_callee (f := 11) rfl ?_); refine goesL_ (some 79) rfl rfl Try.func11 (by kernel_rfl) rfl #[.int .i64 a0, .int .i64 a1] rfl (by (try simp only [List.map_toArray, List.map_cons, List.map_nil]); first | done | rfl | (simp only [List.length_drop, List.length_take]; rfl)) ?_; (with_reducible refine (mode_Fits.calls kj50 a0 a1 t126 _ A64.out).mono ?_); rintro e w84 ⟨rfl, hb⟩; refine ⟨_, rfl, ?_⟩; have n0_ := Aside0.mk (below_step (by repeat (first | (with_reducible first | exact HB.out | apply below_alloc | apply pw_below_drewN | apply below_drew1) | exact HB.out)) hb); clear HB; have HB := n0_; clear n0_; (try clear hb); (try clear hb2); (try clear hk); (try clear hi)) | ((with_reducible refine gate_callee (f := 11) rfl ?_); refine goesL_ (some 82) rfl rfl Try.func11 (by kernel_rfl) rfl #[.int .i64 a1, .int .i64 a0] rfl (by (try simp only [List.map_toArray, List.map_cons, List.map_nil]); first | done | rfl | (simp only [List.length_drop, List.length_take]; rfl)) ?_; (with_reducible refine (mode_Fits.calls kj50 a1 a0 t127 _ A65.out).mono ?_); rintro e w85 ⟨rfl, hb⟩; refine ⟨_, rfl, ?_⟩; have n0_ := Aside0.mk (below_step (by repeat (first | (with_reducible first | exact HB.out | apply below_alloc | apply pw_below_drewN | apply below_drew1) | exact HB.out)) hb); clear HB; have HB := n0_; clear n0_; (try clear hb); (try clear hb2); (try clear hk); (try clear hi)))
                        go_ret
                        exact ⟨by first | rfl | (simp [errW_none, errW_some] <;> rfl) | (simp [*, errW_none, errW_some] <;> rfl), by repeat (first | (with_reducible first | exact HB.out | apply below_alloc | apply pw_below_drewN | apply below_drew1) | exact HB.out)⟩
  · replace c5 := Bool.eq_false_iff.mpr c5
    subst c5
    have H1 : (some false) = some r := by rw [if_neg (show ¬ (false = true) by decide)] at H; exact H
    clear H
    have H := H1
    clear H1
    obtain rfl := Option.some.inj H
    go_enter Try.func3, Try.ntmps3
    go_wp2_with (first | ((with_reducible refine gate_callee (f := 7) rfl ?_); refine goesL_ (some 8) rfl rfl Try.func7 (by kernel_rfl) rfl #[] rfl (by (try simp only [List.map_toArray, List.map_cons, List.map_nil]); first | done | rfl | (simp only [List.length_drop, List.length_take]; rfl)) ?_; (with_reducible refine (padlocklaw14_alive.calls k  false _ A4.out).mono ?_); rintro e w86 ⟨rfl, hb⟩; refine ⟨_, rfl, ?_⟩; have n0_ := Aside0.mk (below_step (by repeat (first | (with_reducible first | exact HB.out | apply below_alloc | apply pw_below_drewN | apply below_drew1) | exact HB.out)) hb); clear HB; have HB := n0_; clear n0_; (try clear hb); (try clear hb2); (try clear hk); (try clear hi)))
    go_ret
    exact ⟨by first | rfl | (simp [errW_none, errW_some] <;> rfl) | (simp [*, errW_none, errW_some] <;> rfl), by repeat (first | (with_reducible first | exact HB.out | apply below_alloc | apply pw_below_drewN | apply below_drew1) | exact HB.out)⟩

/-- THE ONE PURE STATEMENT of padlocklaw14_ModeJoins: yours. -/
def padlocklaw14_ModeJoins.Pure : Prop := ∀ (a0 : Int) (a1 : Int) (a2 : Int), (Lit.int .i64 a0).wf = true → (Lit.int .i64 a1).wf = true → (Lit.int .i64 a2).wf = true → ∃ k, padlocklaw14_ModeJoins.f k a0 a1 a2 = some true
theorem padlocklaw14_ModeJoins.walk (P : padlocklaw14_ModeJoins.Pure) (a0 : Int) (a1 : Int) (a2 : Int) (w : World) (w0 : (Lit.int .i64 a0).wf = true) (w1 : (Lit.int .i64 a1).wf = true) (w2 : (Lit.int .i64 a2).wf = true) :
    Calls Try.prog 3 #[.int .i64 a0, .int .i64 a1, .int .i64 a2] w fun e w' => e = .returned (.bool true) ∧ Below w.heap.size w w' := by
  obtain ⟨k, h⟩ := P a0 a1 a2 w0 w1 w2
  refine (padlocklaw14_ModeJoins.calls k a0 a1 a2 true w h).mono ?_
  rintro e w' ⟨rfl, hd⟩
  exact ⟨rfl, hd⟩

end Go.Proofs.Ythibbgmmfdlbeaa.PModeJoins
