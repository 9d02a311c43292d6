/- The walks of the functions that ModeIs reaches, Join to the law itself. These lines began as what the kit's print wrote; one equation is mine. -/
import Derived.Test.YthibbgmmfdlbeaaPModeIsx0
import Derived.Test.YthibbgmmfdlbeaaPModeIsx1
namespace Go.Proofs.Ythibbgmmfdlbeaa.PModeIs
open Go.RowKit Go.Proofs.YthibbgmmfdlbeaaW.PrintWords Go.Proofs.YthibbgmmfdlbeaaW.PrintLast Go.Proofs.YthibbgmmfdlbeaaW.PrintMore
attribute [local go_sem] max2_int min2_int max_two min_two max_three min_three max_four min_four   -- for this text's walks alone
set_option linter.unusedVariables false
set_option linter.unusedSimpArgs false

/-! ### padlockref14_Join: function 15 -/
mutual
def padlockref14_Join.j0 : Nat → Int → Int → Bool → Option (Int)
  | 0, _, _, _ => none
  | k + 1, x0, x1, x15 => if x15 = true then (some 4) else (padlockref14_Join.l0 k x0 x1 0)
def padlockref14_Join.l0 : Nat → Int → Int → Int → Option (Int)
  | 0, _, _, _ => none
  | k + 1, x0, x1, x5 => if x5 ≤ 4 then ((padlockref14_Does.f x0 x5).bind fun t118 => (if t118 = true then ((padlockref14_Does.f x1 x5).bind fun t119 => (padlockref14_Join.j2 k x0 x1 x5 t119)) else (padlockref14_Join.j2 k x0 x1 x5 false))) else (some 4)
def padlockref14_Join.j2 : Nat → Int → Int → Int → Bool → Option (Int)
  | 0, _, _, _, _ => none
  | k + 1, x0, x1, x5, x6 => padlockref14_Join.l1 k x0 x1 x5 x6 0
def padlockref14_Join.l1 : Nat → Int → Int → Int → Bool → Int → Option (Int)
  | 0, _, _, _, _, _ => none
  | k + 1, x0, x1, x5, x6, x7 => if x7 ≤ 4 then ((padlockref14_Does.f x0 x7).bind fun t120 => (if t120 = true then ((padlockref14_Does.f x1 x7).bind fun t121 => (if t121 = true then ((padlockref14_Does.f x5 x7).bind fun t122 => (if t122 = true then (padlockref14_Join.l1 k x0 x1 x5 x6 (wrap64 (x7 + 1))) else (padlockref14_Join.l1 k x0 x1 x5 false (wrap64 (x7 + 1))))) else (padlockref14_Join.l1 k x0 x1 x5 x6 (wrap64 (x7 + 1))))) else (padlockref14_Join.l1 k x0 x1 x5 x6 (wrap64 (x7 + 1))))) else (if x6 = true then (some x5) else (padlockref14_Join.l0 k x0 x1 (wrap64 (x5 + 1))))
end
def padlockref14_Join.f (k : Nat) (a0 : Int) (a1 : Int) : Option (Int) := (padlockref14_Good.f a0).bind fun t116 => (if t116 = true then ((padlockref14_Good.f a1).bind fun t117 => (padlockref14_Join.j0 k a0 a1 (!t117))) else (padlockref14_Join.j0 k a0 a1 true))
theorem padlockref14_Join.mono_l : ∀ k, (∀ y0 y1 y2, LeO (padlockref14_Join.j0 k y0 y1 y2) (padlockref14_Join.j0 (k + 1) y0 y1 y2)) ∧ (∀ y0 y1 y2, LeO (padlockref14_Join.l0 k y0 y1 y2) (padlockref14_Join.l0 (k + 1) y0 y1 y2)) ∧ (∀ y0 y1 y2 y3, LeO (padlockref14_Join.j2 k y0 y1 y2 y3) (padlockref14_Join.j2 (k + 1) y0 y1 y2 y3)) ∧ (∀ y0 y1 y2 y3 y4, LeO (padlockref14_Join.l1 k y0 y1 y2 y3 y4) (padlockref14_Join.l1 (k + 1) y0 y1 y2 y3 y4))
  | 0 => ⟨fun _ _ _ r h => by simp [padlockref14_Join.j0] at h, fun _ _ _ r h => by simp [padlockref14_Join.l0] at h, fun _ _ _ _ r h => by simp [padlockref14_Join.j2] at h, fun _ _ _ _ _ r h => by simp [padlockref14_Join.l1] at h⟩
  | k + 1 => by
    obtain ⟨ih0, ih1, ih2, ih3⟩ := padlockref14_Join.mono_l k
    refine ⟨?_, ?_, ?_, ?_⟩
    · intro y0 y1 y2
      unfold padlockref14_Join.j0
      repeat' first
      | (with_reducible exact ih0 _ _ _)
      | (with_reducible exact ih1 _ _ _)
      | (with_reducible exact ih2 _ _ _ _)
      | (with_reducible exact ih3 _ _ _ _ _)
      | (with_reducible exact LeO.refl _)
      | (with_reducible exact LeO.none _)
      | (with_reducible refine LeO.ite ?_ ?_)
      | (with_reducible refine LeO.bind ?_ (fun _ => ?_))
      | exact ih0 _ _ _
      | exact ih1 _ _ _
      | exact ih2 _ _ _ _
      | exact ih3 _ _ _ _ _
      | exact LeO.none _
      | refine LeO.ite ?_ ?_
      | refine LeO.bind ?_ (fun _ => ?_)
    · intro y0 y1 y2
      unfold padlockref14_Join.l0
      repeat' first
      | (with_reducible exact ih0 _ _ _)
      | (with_reducible exact ih1 _ _ _)
      | (with_reducible exact ih2 _ _ _ _)
      | (with_reducible exact ih3 _ _ _ _ _)
      | (with_reducible exact LeO.refl _)
      | (with_reducible exact LeO.none _)
      | (with_reducible refine LeO.ite ?_ ?_)
      | (with_reducible refine LeO.bind ?_ (fun _ => ?_))
      | exact ih0 _ _ _
      | exact ih1 _ _ _
      | exact ih2 _ _ _ _
      | exact ih3 _ _ _ _ _
      | exact LeO.none _
      | refine LeO.ite ?_ ?_
      | refine LeO.bind ?_ (fun _ => ?_)
    · intro y0 y1 y2 y3
      unfold padlockref14_Join.j2
      repeat' first
      | (with_reducible exact ih0 _ _ _)
      | (with_reducible exact ih1 _ _ _)
      | (with_reducible exact ih2 _ _ _ _)
      | (with_reducible exact ih3 _ _ _ _ _)
      | (with_reducible exact LeO.refl _)
      | (with_reducible exact LeO.none _)
      | (with_reducible refine LeO.ite ?_ ?_)
      | (with_reducible refine LeO.bind ?_ (fun _ => ?_))
      | exact ih0 _ _ _
      | exact ih1 _ _ _
      | exact ih2 _ _ _ _
      | exact ih3 _ _ _ _ _
      | exact LeO.none _
      | refine LeO.ite ?_ ?_
      | refine LeO.bind ?_ (fun _ => ?_)
    · intro y0 y1 y2 y3 y4
      unfold padlockref14_Join.l1
      repeat' first
      | (with_reducible exact ih0 _ _ _)
      | (with_reducible exact ih1 _ _ _)
      | (with_reducible exact ih2 _ _ _ _)
      | (with_reducible exact ih3 _ _ _ _ _)
      | (with_reducible exact LeO.refl _)
      | (with_reducible exact LeO.none _)
      | (with_reducible refine LeO.ite ?_ ?_)
      | (with_reducible refine LeO.bind ?_ (fun _ => ?_))
      | exact ih0 _ _ _
      | exact ih1 _ _ _
      | exact ih2 _ _ _ _
      | exact ih3 _ _ _ _ _
      | exact LeO.none _
      | refine LeO.ite ?_ ?_
      | refine LeO.bind ?_ (fun _ => ?_)
theorem padlockref14_Join.mono : ∀ a0 a1 k, LeO (padlockref14_Join.f k a0 a1) (padlockref14_Join.f (k + 1) a0 a1) := by
  intro a0 a1 k
  obtain ⟨ih0, ih1, ih2, ih3⟩ := padlockref14_Join.mono_l k
  unfold padlockref14_Join.f
  repeat' first
      | (with_reducible exact ih0 _ _ _)
      | (with_reducible exact ih1 _ _ _)
      | (with_reducible exact ih2 _ _ _ _)
      | (with_reducible exact ih3 _ _ _ _ _)
      | (with_reducible exact LeO.refl _)
      | (with_reducible exact LeO.none _)
      | (with_reducible refine LeO.ite ?_ ?_)
      | (with_reducible refine LeO.bind ?_ (fun _ => ?_))
      | exact ih0 _ _ _
      | exact ih1 _ _ _
      | exact ih2 _ _ _ _
      | exact ih3 _ _ _ _ _
      | exact LeO.none _
      | refine LeO.ite ?_ ?_
      | refine LeO.bind ?_ (fun _ => ?_)
set_option maxHeartbeats 8000000 in
set_option maxRecDepth 100000 in
theorem padlockref14_Join.calls (k : Nat) (a0 : Int) (a1 : Int) (r : Int) (w : World) (h : padlockref14_Join.f k a0 a1 = some r) :
    Calls Try.prog 15 #[.int .i64 a0, .int .i64 a1] w fun e w' => e = .returned (.int .i64 r) ∧ Below w.heap.size w w' := by
  have HB := Aside0.mk (Below.refl w.heap.size w)
  have H : ((padlockref14_Good.f a0).bind fun t116 => (if t116 = true then ((padlockref14_Good.f a1).bind fun t117 => (padlockref14_Join.j0 k a0 a1 (!t117))) else (padlockref14_Join.j0 k a0 a1 true))) = some r := h
  clear h
  have HC3 := Aside0.mk H
  clear H
  go_enter Try.func15, Try.ntmps15
  go_upto_region 1 with (fail)
  go_cut [15] (fun v15 wc => ∃ (kq : Nat) (x15_2 : Bool), v15 = .bool x15_2 ∧ Aside0 (padlockref14_Join.j0 kq a0 a1 x15_2 = some r) ∧ Aside0 (kq ≤ k) ∧ Aside0 (Below w.heap.size w wc))
  case first =>
    have H := HC3.out
    clear HC3
    replace H := Option.bind_eq_some_iff.mp H
    obtain ⟨t116, A40, H⟩ := H
    replace H : (if t116 = true then ((padlockref14_Good.f a1).bind fun t117 => (padlockref14_Join.j0 k a0 a1 (!t117))) else (padlockref14_Join.j0 k a0 a1 true)) = some r := H
    have A4 := Aside0.mk A40
    clear A40
    by_cases c5 : t116 = true
    · subst c5
      have H1 : ((padlockref14_Good.f a1).bind fun t117 => (padlockref14_Join.j0 k a0 a1 (!t117))) = some r := by rw [if_pos rfl] at H; exact H
      clear H
      have H := H1
      clear H1
      replace H := Option.bind_eq_some_iff.mp H
      obtain ⟨t117, A60, H⟩ := H
      replace H : (padlockref14_Join.j0 k a0 a1 (!t117)) = some r := H
      have A6 := Aside0.mk A60
      clear A60
      have H' := Aside0.mk H
      clear H
      go_wp2_with (first | ((with_reducible refine gate_callee (f := 8) rfl ?_); refine goesL_ (some 9) rfl rfl Try.func8 (by kernel_rfl) rfl #[.int .i64 a0] rfl (by (try simp only [List.map_toArray, List.map_cons, List.map_nil]); first | done | rfl | (simp only [List.length_drop, List.length_take]; rfl)) ?_; (with_reducible refine (padlockref14_Good.calls a0 true _ A4.out).mono ?_); rintro e w' ⟨rfl, ⟨nd, rfl⟩⟩; refine ⟨_, rfl, ?_⟩) | (go_at_call 8; (with_reducible refine (padlockref14_Good.calls a1 t117 _ A6.out).mono ?_); rintro e w' ⟨rfl, ⟨nd, rfl⟩⟩))
      go_meet
      case rel => exact ⟨_, (!t117), (by first | rfl | (simp; done) | (simp [*]; done)), H', ⟨by first | omega | exact Nat.le_refl _⟩, ⟨by repeat (first | (with_reducible first | exact HB.out | apply below_alloc | apply pw_below_drewN | apply below_drew1) | exact HB.out)⟩⟩
    · replace c5 := Bool.eq_false_iff.mpr c5
      subst c5
      have H1 : (padlockref14_Join.j0 k a0 a1 true) = some r := by rw [if_neg (show ¬ (false = true) by decide)] at H; exact H
      clear H
      have H := H1
      clear H1
      have H' := Aside0.mk H
      clear H
      go_wp2_with (first | ((with_reducible refine gate_callee (f := 8) rfl ?_); refine goesL_ (some 9) rfl rfl Try.func8 (by kernel_rfl) rfl #[.int .i64 a0] rfl (by (try simp only [List.map_toArray, List.map_cons, List.map_nil]); first | done | rfl | (simp only [List.length_drop, List.length_take]; rfl)) ?_; (with_reducible refine (padlockref14_Good.calls a0 false _ A4.out).mono ?_); rintro e w' ⟨rfl, ⟨nd, rfl⟩⟩; refine ⟨_, rfl, ?_⟩))
      go_meet
      case rel => exact ⟨_, (true), (by first | rfl | (simp; done) | (simp [*]; done)), H', ⟨by first | omega | exact Nat.le_refl _⟩, ⟨by repeat (first | (with_reducible first | exact HB.out | apply below_alloc | apply pw_below_drewN | apply below_drew1) | exact HB.out)⟩⟩
  case rest =>
    clear HC3
    try clear c1
    try clear p2
    try clear c5
    obtain ⟨kq, x15_2, rfl, HA, HJ2, HB⟩ := hcut
    cases kq with
    | zero => exact absurd HA.out (by simp [padlockref14_Join.j0])
    | succ kj2 =>
      have H := HA.out
      clear HA
      simp only [padlockref14_Join.j0] at H
      by_cases c7 : x15_2 = true
      · subst c7
        have H1 : (some 4) = some r := by rw [if_pos rfl] at H; exact H
        clear H
        have H := H1
        clear H1
        obtain rfl := Option.some.inj H
        go_wp2
        go_ret
        exact ⟨by first | rfl | (simp [errW_none, errW_some] <;> rfl) | (simp [*, errW_none, errW_some] <;> rfl), by repeat (first | (with_reducible first | exact HB.out | apply below_alloc | apply pw_below_drewN | apply below_drew1) | exact HB.out)⟩
      · replace c7 := Bool.eq_false_iff.mpr c7
        subst c7
        have H1 : (padlockref14_Join.l0 kj2 a0 a1 0) = some r := by rw [if_neg (show ¬ (false = true) by decide)] at H; exact H
        clear H
        have H := H1
        clear H1
        have H' := Aside0.mk H
        clear H
        go_wp2
        go_loopg [5] kj2 (fun kq v5 w' => ∃ (x5_2 : Int), v5 = .int .i64 x5_2 ∧ Aside0 (padlockref14_Join.l0 kq a0 a1 x5_2 = some r) ∧ Aside0 (kq ≤ kj2) ∧ Aside0 (Below w.heap.size w w'))
        case atStart => exact ⟨(0), (by first | rfl | (simp; done) | (simp [*]; done)), H', ⟨Nat.le_refl _⟩, ⟨by repeat (first | (with_reducible first | exact HB.out | apply below_alloc | apply pw_below_drewN | apply below_drew1) | exact HB.out)⟩⟩
        case round =>
          clear H'
          try clear c1
          try clear p2
          try clear c5
          try clear c7
          try clear p2
          obtain ⟨x5_2, rfl, HA, HK2, HB⟩ := hrel
          cases gk with
          | zero => exact absurd HA.out (by simp [padlockref14_Join.l0])
          | succ k2 =>
            have H := HA.out
            clear HA
            simp only [padlockref14_Join.l0] at H
            by_cases c8 : x5_2 ≤ 4
            · rw [if_pos c8] at H
              have c8b0 : decide (x5_2 ≤ 4) = true := decide_eq_true c8
              clear c8
              have HC9 := Aside0.mk H
              clear H
              go_upto_region 6 with (fail)
              go_cut [6] (fun v6 wc => ∃ (kq : Nat) (x6_8 : Bool), v6 = .bool x6_8 ∧ Aside0 (padlockref14_Join.j2 kq a0 a1 x5_2 x6_8 = some r) ∧ Aside0 (kq ≤ k2) ∧ Aside0 (Below w.heap.size w wc))
              case first =>
                have H := HC9.out
                clear HC9
                replace H := Option.bind_eq_some_iff.mp H
                obtain ⟨t118, A100, H⟩ := H
                replace H : (if t118 = true then ((padlockref14_Does.f a1 x5_2).bind fun t119 => (padlockref14_Join.j2 k2 a0 a1 x5_2 t119)) else (padlockref14_Join.j2 k2 a0 a1 x5_2 false)) = some r := H
                have A10 := Aside0.mk A100
                clear A100
                by_cases c11 : t118 = true
                · subst c11
                  have H1 : ((padlockref14_Does.f a1 x5_2).bind fun t119 => (padlockref14_Join.j2 k2 a0 a1 x5_2 t119)) = some r := by rw [if_pos rfl] at H; exact H
                  clear H
                  have H := H1
                  clear H1
                  replace H := Option.bind_eq_some_iff.mp H
                  obtain ⟨t119, A120, H⟩ := H
                  replace H : (padlockref14_Join.j2 k2 a0 a1 x5_2 t119) = some r := H
                  have A12 := Aside0.mk A120
                  clear A120
                  have H' := Aside0.mk H
                  clear H
                  go_wp2_with (first | ((with_reducible refine gate_callee (f := 19) rfl ?_); refine goesL_ (some 22) rfl rfl Try.func19 (by kernel_rfl) rfl #[.int .i64 a0, .int .i64 x5_2] rfl (by (try simp only [List.map_toArray, List.map_cons, List.map_nil]); first | done | rfl | (simp only [List.length_drop, List.length_take]; rfl)) ?_; (with_reducible refine (padlockref14_Does.calls a0 x5_2 true _ A10.out).mono ?_); rintro e w13 ⟨rfl, hb⟩; refine ⟨_, rfl, ?_⟩; have n0_ := Aside0.mk (below_step (by repeat (first | (with_reducible first | exact HB.out | apply below_alloc | apply pw_below_drewN | apply below_drew1) | exact HB.out)) hb); clear HB; have HB := n0_; clear n0_; (try clear hb); (try clear hb2); (try clear hk); (try clear hi)) | (go_at_call 19; (with_reducible refine (padlockref14_Does.calls a1 x5_2 t119 _ A12.out).mono ?_); rintro e w14 ⟨rfl, hb⟩; have n0_ := Aside0.mk (below_step (by repeat (first | (with_reducible first | exact HB.out | apply below_alloc | apply pw_below_drewN | apply below_drew1) | exact HB.out)) hb); clear HB; have HB := n0_; clear n0_; (try clear hb); (try clear hb2); (try clear hk); (try clear hi)))
                  go_meet
                  case rel => exact ⟨_, (t119), (by first | rfl | (simp; done) | (simp [*]; done)), H', ⟨by have := HJ2.out; have := HK2.out; first | omega | exact Nat.le_refl _⟩, ⟨by repeat (first | (with_reducible first | exact HB.out | apply below_alloc | apply pw_below_drewN | apply below_drew1) | exact HB.out)⟩⟩
                · replace c11 := Bool.eq_false_iff.mpr c11
                  subst c11
                  have H1 : (padlockref14_Join.j2 k2 a0 a1 x5_2 false) = some r := by rw [if_neg (show ¬ (false = true) by decide)] at H; exact H
                  clear H
                  have H := H1
                  clear H1
                  have H' := Aside0.mk H
                  clear H
                  go_wp2_with (first | ((with_reducible refine gate_callee (f := 19) rfl ?_); refine goesL_ (some 22) rfl rfl Try.func19 (by kernel_rfl) rfl #[.int .i64 a0, .int .i64 x5_2] rfl (by (try simp only [List.map_toArray, List.map_cons, List.map_nil]); first | done | rfl | (simp only [List.length_drop, List.length_take]; rfl)) ?_; (with_reducible refine (padlockref14_Does.calls a0 x5_2 false _ A10.out).mono ?_); rintro e w15 ⟨rfl, hb⟩; refine ⟨_, rfl, ?_⟩; have n0_ := Aside0.mk (below_step (by repeat (first | (with_reducible first | exact HB.out | apply below_alloc | apply pw_below_drewN | apply below_drew1) | exact HB.out)) hb); clear HB; have HB := n0_; clear n0_; (try clear hb); (try clear hb2); (try clear hk); (try clear hi)))
                  go_meet
                  case rel => exact ⟨_, (false), (by first | rfl | (simp; done) | (simp [*]; done)), H', ⟨by have := HJ2.out; have := HK2.out; first | omega | exact Nat.le_refl _⟩, ⟨by repeat (first | (with_reducible first | exact HB.out | apply below_alloc | apply pw_below_drewN | apply below_drew1) | exact HB.out)⟩⟩
              case rest =>
                clear HC9
                try clear c1
                try clear p2
                try clear c5
                try clear c7
                try clear c8
                try clear c8b0
                try clear c11
                try clear c15
                try clear p2
                obtain ⟨kq, x6_8, rfl, HA, HJ8, HB⟩ := hcut
                cases kq with
                | zero => exact absurd HA.out (by simp [padlockref14_Join.j2])
                | succ kj8 =>
                  have H := HA.out
                  clear HA
                  simp only [padlockref14_Join.j2] at H
                  have H' := Aside0.mk H
                  clear H
                  go_wp2
                  go_loopg [6, 7] kj8 (fun kq v6 v7 w' => ∃ (x6_4 : Bool) (x7_4 : Int), v6 = .bool x6_4 ∧ v7 = .int .i64 x7_4 ∧ Aside0 (padlockref14_Join.l1 kq a0 a1 x5_2 x6_4 x7_4 = some r) ∧ Aside0 (kq ≤ kj8) ∧ Aside0 (Below w.heap.size w w'))
                  case atStart => exact ⟨(x6_8), (0), (by first | rfl | (simp; done) | (simp [*]; done)), (by first | rfl | (simp; done) | (simp [*]; done)), H', ⟨Nat.le_refl _⟩, ⟨by repeat (first | (with_reducible first | exact HB.out | apply below_alloc | apply pw_below_drewN | apply below_drew1) | exact HB.out)⟩⟩
                  case round =>
                    clear H'
                    try clear c1
                    try clear p2
                    try clear c5
                    try clear c7
                    try clear c8
                    try clear c8b0
                    try clear c11
                    try clear c15
                    try clear p2
                    obtain ⟨x6_4, x7_4, rfl, rfl, HA, HK4, HB⟩ := hrel
                    cases gk with
                    | zero => exact absurd HA.out (by simp [padlockref14_Join.l1])
                    | succ k4 =>
                      have H := HA.out
                      clear HA
                      simp only [padlockref14_Join.l1] at H
                      by_cases c16 : x7_4 ≤ 4
                      · rw [if_pos c16] at H
                        have c16b0 : decide (x7_4 ≤ 4) = true := decide_eq_true c16
                        clear c16
                        replace H := Option.bind_eq_some_iff.mp H
                        obtain ⟨t120, A170, H⟩ := H
                        replace H : (if t120 = true then ((padlockref14_Does.f a1 x7_4).bind fun t121 => (if t121 = true then ((padlockref14_Does.f x5_2 x7_4).bind fun t122 => (if t122 = true then (padlockref14_Join.l1 k4 a0 a1 x5_2 x6_4 (wrap64 (x7_4 + 1))) else (padlockref14_Join.l1 k4 a0 a1 x5_2 false (wrap64 (x7_4 + 1))))) else (padlockref14_Join.l1 k4 a0 a1 x5_2 x6_4 (wrap64 (x7_4 + 1))))) else (padlockref14_Join.l1 k4 a0 a1 x5_2 x6_4 (wrap64 (x7_4 + 1)))) = some r := H
                        have A17 := Aside0.mk A170
                        clear A170
                        by_cases c18 : t120 = true
                        · subst c18
                          have H1 : ((padlockref14_Does.f a1 x7_4).bind fun t121 => (if t121 = true then ((padlockref14_Does.f x5_2 x7_4).bind fun t122 => (if t122 = true then (padlockref14_Join.l1 k4 a0 a1 x5_2 x6_4 (wrap64 (x7_4 + 1))) else (padlockref14_Join.l1 k4 a0 a1 x5_2 false (wrap64 (x7_4 + 1))))) else (padlockref14_Join.l1 k4 a0 a1 x5_2 x6_4 (wrap64 (x7_4 + 1))))) = some r := by rw [if_pos rfl] at H; exact H
                          clear H
                          have H := H1
                          clear H1
                          replace H := Option.bind_eq_some_iff.mp H
                          obtain ⟨t121, A190, H⟩ := H
                          replace H : (if t121 = true then ((padlockref14_Does.f x5_2 x7_4).bind fun t122 => (if t122 = true then (padlockref14_Join.l1 k4 a0 a1 x5_2 x6_4 (wrap64 (x7_4 + 1))) else (padlockref14_Join.l1 k4 a0 a1 x5_2 false (wrap64 (x7_4 + 1))))) else (padlockref14_Join.l1 k4 a0 a1 x5_2 x6_4 (wrap64 (x7_4 + 1)))) = some r := H
                          have A19 := Aside0.mk A190
                          clear A190
                          by_cases c20 : t121 = true
                          · subst c20
                            have H1 : ((padlockref14_Does.f x5_2 x7_4).bind fun t122 => (if t122 = true then (padlockref14_Join.l1 k4 a0 a1 x5_2 x6_4 (wrap64 (x7_4 + 1))) else (padlockref14_Join.l1 k4 a0 a1 x5_2 false (wrap64 (x7_4 + 1))))) = some r := by rw [if_pos rfl] at H; exact H
                            clear H
                            have H := H1
                            clear H1
                            replace H := Option.bind_eq_some_iff.mp H
                            obtain ⟨t122, A210, H⟩ := H
                            replace H : (if t122 = true then (padlockref14_Join.l1 k4 a0 a1 x5_2 x6_4 (wrap64 (x7_4 + 1))) else (padlockref14_Join.l1 k4 a0 a1 x5_2 false (wrap64 (x7_4 + 1)))) = some r := H
                            have A21 := Aside0.mk A210
                            clear A210
                            by_cases c22 : t122 = true
                            · subst c22
                              have H1 : (padlockref14_Join.l1 k4 a0 a1 x5_2 x6_4 (wrap64 (x7_4 + 1))) = some r := by rw [if_pos rfl] at H; exact H
                              clear H
                              have H := H1
                              clear H1
                              have H' := Aside0.mk H
                              clear H
                              go_wp2_with (first | ((with_reducible refine gate_callee (f := 19) rfl ?_); refine goesL_ (some 34) rfl rfl Try.func19 (by kernel_rfl) rfl #[.int .i64 a0, .int .i64 x7_4] rfl (by (try simp only [List.map_toArray, List.map_cons, List.map_nil]); first | done | rfl | (simp only [List.length_drop, List.length_take]; rfl)) ?_; (with_reducible refine (padlockref14_Does.calls a0 x7_4 true _ A17.out).mono ?_); rintro e w23 ⟨rfl, hb⟩; refine ⟨_, rfl, ?_⟩; have n0_ := Aside0.mk (below_step (by repeat (first | (with_reducible first | exact HB.out | apply below_alloc | apply pw_below_drewN | apply below_drew1) | exact HB.out)) hb); clear HB; have HB := n0_; clear n0_; (try clear hb); (try clear hb2); (try clear hk); (try clear hi)) | (go_at_call 19; (with_reducible refine (padlockref14_Does.calls a1 x7_4 true _ A19.out).mono ?_); rintro e w24 ⟨rfl, hb⟩; have n0_ := Aside0.mk (below_step (by repeat (first | (with_reducible first | exact HB.out | apply below_alloc | apply pw_below_drewN | apply below_drew1) | exact HB.out)) hb); clear HB; have HB := n0_; clear n0_; (try clear hb); (try clear hb2); (try clear hk); (try clear hi)) | (go_at_call 19; (with_reducible refine (padlockref14_Does.calls x5_2 x7_4 true _ A21.out).mono ?_); rintro e w25 ⟨rfl, hb⟩; have n0_ := Aside0.mk (below_step (by repeat (first | (with_reducible first | exact HB.out | apply below_alloc | apply pw_below_drewN | apply below_drew1) | exact HB.out)) hb); clear HB; have HB := n0_; clear n0_; (try clear hb); (try clear hb2); (try clear hk); (try clear hi)))
                              go_roundg k4
                              case measure => have := HJ2.out; have := HK2.out; have := HJ8.out; have := HK4.out; omega
                              case rel => exact ⟨(x6_4), (wrap64 (x7_4 + 1)), (by first | rfl | (simp; done) | (simp [*]; done)), (by first | rfl | (simp; done) | (simp [*]; done)), H', ⟨by have := HJ2.out; have := HK2.out; have := HJ8.out; have := HK4.out; omega⟩, ⟨by repeat (first | (with_reducible first | exact HB.out | apply below_alloc | apply pw_below_drewN | apply below_drew1) | exact HB.out)⟩⟩
                            · replace c22 := Bool.eq_false_iff.mpr c22
                              subst c22
                              have H1 : (padlockref14_Join.l1 k4 a0 a1 x5_2 false (wrap64 (x7_4 + 1))) = some r := by rw [if_neg (show ¬ (false = true) by decide)] at H; exact H
                              clear H
                              have H := H1
                              clear H1
                              have H' := Aside0.mk H
                              clear H
                              go_wp2_with (first | ((with_reducible refine gate_callee (f := 19) rfl ?_); refine goesL_ (some 34) rfl rfl Try.func19 (by kernel_rfl) rfl #[.int .i64 a0, .int .i64 x7_4] rfl (by (try simp only [List.map_toArray, List.map_cons, List.map_nil]); first | done | rfl | (simp only [List.length_drop, List.length_take]; rfl)) ?_; (with_reducible refine (padlockref14_Does.calls a0 x7_4 true _ A17.out).mono ?_); rintro e w26 ⟨rfl, hb⟩; refine ⟨_, rfl, ?_⟩; have n0_ := Aside0.mk (below_step (by repeat (first | (with_reducible first | exact HB.out | apply below_alloc | apply pw_below_drewN | apply below_drew1) | exact HB.out)) hb); clear HB; have HB := n0_; clear n0_; (try clear hb); (try clear hb2); (try clear hk); (try clear hi)) | (go_at_call 19; (with_reducible refine (padlockref14_Does.calls a1 x7_4 true _ A19.out).mono ?_); rintro e w27 ⟨rfl, hb⟩; have n0_ := Aside0.mk (below_step (by repeat (first | (with_reducible first | exact HB.out | apply below_alloc | apply pw_below_drewN | apply below_drew1) | exact HB.out)) hb); clear HB; have HB := n0_; clear n0_; (try clear hb); (try clear hb2); (try clear hk); (try clear hi)) | (go_at_call 19; (with_reducible refine (padlockref14_Does.calls x5_2 x7_4 false _ A21.out).mono ?_); rintro e w28 ⟨rfl, hb⟩; have n0_ := Aside0.mk (below_step (by repeat (first | (with_reducible first | exact HB.out | apply below_alloc | apply pw_below_drewN | apply below_drew1) | exact HB.out)) hb); clear HB; have HB := n0_; clear n0_; (try clear hb); (try clear hb2); (try clear hk); (try clear hi)))
                              go_roundg k4
                              case measure => have := HJ2.out; have := HK2.out; have := HJ8.out; have := HK4.out; omega
                              case rel => exact ⟨(false), (wrap64 (x7_4 + 1)), (by first | rfl | (simp; done) | (simp [*]; done)), (by first | rfl | (simp; done) | (simp [*]; done)), H', ⟨by have := HJ2.out; have := HK2.out; have := HJ8.out; have := HK4.out; omega⟩, ⟨by repeat (first | (with_reducible first | exact HB.out | apply below_alloc | apply pw_below_drewN | apply below_drew1) | exact HB.out)⟩⟩
                          · replace c20 := Bool.eq_false_iff.mpr c20
                            subst c20
                            have H1 : (padlockref14_Join.l1 k4 a0 a1 x5_2 x6_4 (wrap64 (x7_4 + 1))) = some r := by rw [if_neg (show ¬ (false = true) by decide)] at H; exact H
                            clear H
                            have H := H1
                            clear H1
                            have H' := Aside0.mk H
                            clear H
                            go_wp2_with (first | ((with_reducible refine gate_callee (f := 19) rfl ?_); refine goesL_ (some 34) rfl rfl Try.func19 (by kernel_rfl) rfl #[.int .i64 a0, .int .i64 x7_4] rfl (by (try simp only [List.map_toArray, List.map_cons, List.map_nil]); first | done | rfl | (simp only [List.length_drop, List.length_take]; rfl)) ?_; (with_reducible refine (padlockref14_Does.calls a0 x7_4 true _ A17.out).mono ?_); rintro e w29 ⟨rfl, hb⟩; refine ⟨_, rfl, ?_⟩; have n0_ := Aside0.mk (below_step (by repeat (first | (with_reducible first | exact HB.out | apply below_alloc | apply pw_below_drewN | apply below_drew1) | exact HB.out)) hb); clear HB; have HB := n0_; clear n0_; (try clear hb); (try clear hb2); (try clear hk); (try clear hi)) | (go_at_call 19; (with_reducible refine (padlockref14_Does.calls a1 x7_4 false _ A19.out).mono ?_); rintro e w30 ⟨rfl, hb⟩; have n0_ := Aside0.mk (below_step (by repeat (first | (with_reducible first | exact HB.out | apply below_alloc | apply pw_below_drewN | apply below_drew1) | exact HB.out)) hb); clear HB; have HB := n0_; clear n0_; (try clear hb); (try clear hb2); (try clear hk); (try clear hi)))
                            go_roundg k4
                            case measure => have := HJ2.out; have := HK2.out; have := HJ8.out; have := HK4.out; omega
                            case rel => exact ⟨(x6_4), (wrap64 (x7_4 + 1)), (by first | rfl | (simp; done) | (simp [*]; done)), (by first | rfl | (simp; done) | (simp [*]; done)), H', ⟨by have := HJ2.out; have := HK2.out; have := HJ8.out; have := HK4.out; omega⟩, ⟨by repeat (first | (with_reducible first | exact HB.out | apply below_alloc | apply pw_below_drewN | apply below_drew1) | exact HB.out)⟩⟩
                        · replace c18 := Bool.eq_false_iff.mpr c18
                          subst c18
                          have H1 : (padlockref14_Join.l1 k4 a0 a1 x5_2 x6_4 (wrap64 (x7_4 + 1))) = some r := by rw [if_neg (show ¬ (false = true) by decide)] at H; exact H
                          clear H
                          have H := H1
                          clear H1
                          have H' := Aside0.mk H
                          clear H
                          go_wp2_with (first | ((with_reducible refine gate_callee (f := 19) rfl ?_); refine goesL_ (some 34) rfl rfl Try.func19 (by kernel_rfl) rfl #[.int .i64 a0, .int .i64 x7_4] rfl (by (try simp only [List.map_toArray, List.map_cons, List.map_nil]); first | done | rfl | (simp only [List.length_drop, List.length_take]; rfl)) ?_; (with_reducible refine (padlockref14_Does.calls a0 x7_4 false _ A17.out).mono ?_); rintro e w31 ⟨rfl, hb⟩; refine ⟨_, rfl, ?_⟩; have n0_ := Aside0.mk (below_step (by repeat (first | (with_reducible first | exact HB.out | apply below_alloc | apply pw_below_drewN | apply below_drew1) | exact HB.out)) hb); clear HB; have HB := n0_; clear n0_; (try clear hb); (try clear hb2); (try clear hk); (try clear hi)))
                          go_roundg k4
                          case measure => have := HJ2.out; have := HK2.out; have := HJ8.out; have := HK4.out; omega
                          case rel => exact ⟨(x6_4), (wrap64 (x7_4 + 1)), (by first | rfl | (simp; done) | (simp [*]; done)), (by first | rfl | (simp; done) | (simp [*]; done)), H', ⟨by have := HJ2.out; have := HK2.out; have := HJ8.out; have := HK4.out; omega⟩, ⟨by repeat (first | (with_reducible first | exact HB.out | apply below_alloc | apply pw_below_drewN | apply below_drew1) | exact HB.out)⟩⟩
                      · rw [if_neg c16] at H
                        have c16b0 : decide (x7_4 ≤ 4) = false := decide_eq_false c16
                        clear c16
                        by_cases c32 : x6_4 = true
                        · subst c32
                          have H1 : (some x5_2) = some r := by rw [if_pos rfl] at H; exact H
                          clear H
                          have H := H1
                          clear H1
                          obtain rfl := Option.some.inj H
                          go_wp2
                          go_ret
                          exact ⟨by first | rfl | (simp [errW_none, errW_some] <;> rfl) | (simp [*, errW_none, errW_some] <;> rfl), by repeat (first | (with_reducible first | exact HB.out | apply below_alloc | apply pw_below_drewN | apply below_drew1) | exact HB.out)⟩
                        · replace c32 := Bool.eq_false_iff.mpr c32
                          subst c32
                          have H1 : (padlockref14_Join.l0 k4 a0 a1 (wrap64 (x5_2 + 1))) = some r := by rw [if_neg (show ¬ (false = true) by decide)] at H; exact H
                          clear H
                          have H := H1
                          clear H1
                          have H' := Aside0.mk H
                          clear H
                          go_wp2
                          go_roundg k4
                          case measure => have := HJ2.out; have := HK2.out; have := HJ8.out; have := HK4.out; omega
                          case rel => exact ⟨(wrap64 (x5_2 + 1)), (by first | rfl | (simp; done) | (simp [*]; done)), H', ⟨by have := HJ2.out; have := HK2.out; have := HJ8.out; have := HK4.out; omega⟩, ⟨by repeat (first | (with_reducible first | exact HB.out | apply below_alloc | apply pw_below_drewN | apply below_drew1) | exact HB.out)⟩⟩
            · rw [if_neg c8] at H
              have c8b0 : decide (x5_2 ≤ 4) = false := decide_eq_false c8
              clear c8
              obtain rfl := Option.some.inj H
              go_wp2
              go_ret
              exact ⟨by first | rfl | (simp [errW_none, errW_some] <;> rfl) | (simp [*, errW_none, errW_some] <;> rfl), by repeat (first | (with_reducible first | exact HB.out | apply below_alloc | apply pw_below_drewN | apply below_drew1) | exact HB.out)⟩

/-! ### padlockref14_Fits: function 16 -/
def padlockref14_Fits.f (a0 : Int) (a1 : Int) : Option (Bool) := (padlockref14_Good.f a0).bind fun t123 => (if t123 = true then ((padlockref14_Good.f a1).bind fun t124 => (if t124 = true then ((some (([(⟨#[121, 121, 121, 121, 121]⟩ : ByteArray), (⟨#[121, 121, 121, 121, 110]⟩ : ByteArray), (⟨#[121, 121, 121, 110, 110]⟩ : ByteArray), (⟨#[121, 121, 110, 121, 110]⟩ : ByteArray), (⟨#[121, 110, 110, 110, 110]⟩ : ByteArray)] : List ByteArray) : List ByteArray)).bind fun y125 => (if 0 ≤ a0 then (if a0 < (y125.length : Int) then (if 0 ≤ a1 then (if a1 < ((rdOf ByteArray.empty y125 a0).size : Int) then (some ((bt (rdOf ByteArray.empty y125 a0) a1) == 121)) else (none)) else (none)) else (none)) else (none))) else (some false))) else (some false))
set_option maxHeartbeats 8000000 in
set_option maxRecDepth 100000 in
theorem padlockref14_Fits.calls (a0 : Int) (a1 : Int) (r : Bool) (w : World) (h : padlockref14_Fits.f a0 a1 = some r) :
    Calls Try.prog 16 #[.int .i64 a0, .int .i64 a1] w fun e w' => e = .returned (.bool r) ∧ Below w.heap.size w w' := by
  have HB := Aside0.mk (Below.refl w.heap.size w)
  have H : ((padlockref14_Good.f a0).bind fun t123 => (if t123 = true then ((padlockref14_Good.f a1).bind fun t124 => (if t124 = true then ((some (([(⟨#[121, 121, 121, 121, 121]⟩ : ByteArray), (⟨#[121, 121, 121, 121, 110]⟩ : ByteArray), (⟨#[121, 121, 121, 110, 110]⟩ : ByteArray), (⟨#[121, 121, 110, 121, 110]⟩ : ByteArray), (⟨#[121, 110, 110, 110, 110]⟩ : ByteArray)] : List ByteArray) : List ByteArray)).bind fun y125 => (if 0 ≤ a0 then (if a0 < (y125.length : Int) then (if 0 ≤ a1 then (if a1 < ((rdOf ByteArray.empty y125 a0).size : Int) then (some ((bt (rdOf ByteArray.empty y125 a0) a1) == 121)) else (none)) else (none)) else (none)) else (none))) else (some false))) else (some false))) = some r := h
  clear h
  replace H := Option.bind_eq_some_iff.mp H
  obtain ⟨t123, A30, H⟩ := H
  replace H : (if t123 = true then ((padlockref14_Good.f a1).bind fun t124 => (if t124 = true then ((some (([(⟨#[121, 121, 121, 121, 121]⟩ : ByteArray), (⟨#[121, 121, 121, 121, 110]⟩ : ByteArray), (⟨#[121, 121, 121, 110, 110]⟩ : ByteArray), (⟨#[121, 121, 110, 121, 110]⟩ : ByteArray), (⟨#[121, 110, 110, 110, 110]⟩ : ByteArray)] : List ByteArray) : List ByteArray)).bind fun y125 => (if 0 ≤ a0 then (if a0 < (y125.length : Int) then (if 0 ≤ a1 then (if a1 < ((rdOf ByteArray.empty y125 a0).size : Int) then (some ((bt (rdOf ByteArray.empty y125 a0) a1) == 121)) else (none)) else (none)) else (none)) else (none))) else (some false))) else (some false)) = some r := H
  have A3 := Aside0.mk A30
  clear A30
  by_cases c4 : t123 = true
  · subst c4
    have H1 : ((padlockref14_Good.f a1).bind fun t124 => (if t124 = true then ((some (([(⟨#[121, 121, 121, 121, 121]⟩ : ByteArray), (⟨#[121, 121, 121, 121, 110]⟩ : ByteArray), (⟨#[121, 121, 121, 110, 110]⟩ : ByteArray), (⟨#[121, 121, 110, 121, 110]⟩ : ByteArray), (⟨#[121, 110, 110, 110, 110]⟩ : ByteArray)] : List ByteArray) : List ByteArray)).bind fun y125 => (if 0 ≤ a0 then (if a0 < (y125.length : Int) then (if 0 ≤ a1 then (if a1 < ((rdOf ByteArray.empty y125 a0).size : Int) then (some ((bt (rdOf ByteArray.empty y125 a0) a1) == 121)) else (none)) else (none)) else (none)) else (none))) else (some false))) = some r := by rw [if_pos rfl] at H; exact H
    clear H
    have H := H1
    clear H1
    replace H := Option.bind_eq_some_iff.mp H
    obtain ⟨t124, A50, H⟩ := H
    replace H : (if t124 = true then ((some (([(⟨#[121, 121, 121, 121, 121]⟩ : ByteArray), (⟨#[121, 121, 121, 121, 110]⟩ : ByteArray), (⟨#[121, 121, 121, 110, 110]⟩ : ByteArray), (⟨#[121, 121, 110, 121, 110]⟩ : ByteArray), (⟨#[121, 110, 110, 110, 110]⟩ : ByteArray)] : List ByteArray) : List ByteArray)).bind fun y125 => (if 0 ≤ a0 then (if a0 < (y125.length : Int) then (if 0 ≤ a1 then (if a1 < ((rdOf ByteArray.empty y125 a0).size : Int) then (some ((bt (rdOf ByteArray.empty y125 a0) a1) == 121)) else (none)) else (none)) else (none)) else (none))) else (some false)) = some r := H
    have A5 := Aside0.mk A50
    clear A50
    by_cases c6 : t124 = true
    · subst c6
      have H1 : ((some (([(⟨#[121, 121, 121, 121, 121]⟩ : ByteArray), (⟨#[121, 121, 121, 121, 110]⟩ : ByteArray), (⟨#[121, 121, 121, 110, 110]⟩ : ByteArray), (⟨#[121, 121, 110, 121, 110]⟩ : ByteArray), (⟨#[121, 110, 110, 110, 110]⟩ : ByteArray)] : List ByteArray) : List ByteArray)).bind fun y125 => (if 0 ≤ a0 then (if a0 < (y125.length : Int) then (if 0 ≤ a1 then (if a1 < ((rdOf ByteArray.empty y125 a0).size : Int) then (some ((bt (rdOf ByteArray.empty y125 a0) a1) == 121)) else (none)) else (none)) else (none)) else (none))) = some r := by rw [if_pos rfl] at H; exact H
      clear H
      have H := H1
      clear H1
      obtain ⟨y125, hy125⟩ : ∃ y_ : List ByteArray, y_ = (([(⟨#[121, 121, 121, 121, 121]⟩ : ByteArray), (⟨#[121, 121, 121, 121, 110]⟩ : ByteArray), (⟨#[121, 121, 121, 110, 110]⟩ : ByteArray), (⟨#[121, 121, 110, 121, 110]⟩ : ByteArray), (⟨#[121, 110, 110, 110, 110]⟩ : ByteArray)] : List ByteArray)) := ⟨_, rfl⟩
      replace H : (if 0 ≤ a0 then (if a0 < (y125.length : Int) then (if 0 ≤ a1 then (if a1 < ((rdOf ByteArray.empty y125 a0).size : Int) then (some ((bt (rdOf ByteArray.empty y125 a0) a1) == 121)) else (none)) else (none)) else (none)) else (none)) = some r := by first | (rw [hy125]; with_reducible exact H) | (have H2_ := (Option.bind_some _ _).symm.trans H; rw [hy125]; with_reducible exact H2_) | (have H2_ := (Option.bind_some _ _).symm.trans H; with_reducible exact H2_) | with_reducible exact H | (rw [hy125]; exact H) | exact H
      have Ny125 := Aside0.mk hy125
      clear hy125
      by_cases c7 : 0 ≤ a0
      · rw [if_pos c7] at H
        have c7b0 : decide (0 ≤ a0) = true := decide_eq_true c7
        clear c7
        by_cases c8 : a0 < (y125.length : Int)
        · rw [if_pos c8] at H
          have c8b0 : decide (a0 < (y125.length : Int)) = true := decide_eq_true c8
          clear c8
          by_cases c9 : 0 ≤ a1
          · rw [if_pos c9] at H
            have c9b0 : decide (0 ≤ a1) = true := decide_eq_true c9
            clear c9
            by_cases c10 : a1 < ((rdOf ByteArray.empty y125 a0).size : Int)
            · rw [if_pos c10] at H
              have c10b0 : decide (a1 < ((rdOf ByteArray.empty y125 a0).size : Int)) = true := decide_eq_true c10
              clear c10
              obtain rfl := Option.some.inj H
              go_enter Try.func16, Try.ntmps16
              go_wp2_with (first | ((with_reducible refine gate_callee (f := 8) rfl ?_); refine goesL_ (some 6) rfl rfl Try.func8 (by kernel_rfl) rfl #[.int .i64 a0] rfl (by (try simp only [List.map_toArray, List.map_cons, List.map_nil]); first | done | rfl | (simp only [List.length_drop, List.length_take]; rfl)) ?_; (with_reducible refine (padlockref14_Good.calls a0 true _ A3.out).mono ?_); rintro e w' ⟨rfl, ⟨nd, rfl⟩⟩; refine ⟨_, rfl, ?_⟩) | (go_at_call 8; (with_reducible refine (padlockref14_Good.calls a1 true _ A5.out).mono ?_); rintro e w' ⟨rfl, ⟨nd, rfl⟩⟩) | ((with_reducible refine gate_dst (N := 13) rfl ?_); refine Kd.R_lit Kd.string _ 9 ?hg (N := 13) ?hd (xs := ([(⟨#[121, 121, 121, 121, 121]⟩ : ByteArray), (⟨#[121, 121, 121, 121, 110]⟩ : ByteArray), (⟨#[121, 121, 121, 110, 110]⟩ : ByteArray), (⟨#[121, 121, 110, 121, 110]⟩ : ByteArray), (⟨#[121, 110, 110, 110, 110]⟩ : ByteArray)] : List ByteArray)) (inner := [.string (⟨#[121, 121, 121, 121, 121]⟩ : ByteArray), .string (⟨#[121, 121, 121, 121, 110]⟩ : ByteArray), .string (⟨#[121, 121, 121, 110, 110]⟩ : ByteArray), .string (⟨#[121, 121, 110, 121, 110]⟩ : ByteArray), .string (⟨#[121, 110, 110, 110, 110]⟩ : ByteArray)]) (ok := fun _ => True) (okp := fun _ => True) ?hr ?hp (fun _ hk => hk) trivial (Below.refl _ _) (Nat.le_refl _) (by simp) ?_; (case hd => rfl); (case hg => rfl); (case hr => first | (go_simp; done) | (go_simp; rfl)); (case hp => exact (Reps.one (show Kd.M Kd.string _ _ _ (⟨#[121, 121, 121, 121, 121]⟩ : ByteArray) [.string (⟨#[121, 121, 121, 121, 121]⟩ : ByteArray)] from rfl) (Reps.one (show Kd.M Kd.string _ _ _ (⟨#[121, 121, 121, 121, 110]⟩ : ByteArray) [.string (⟨#[121, 121, 121, 121, 110]⟩ : ByteArray)] from rfl) (Reps.one (show Kd.M Kd.string _ _ _ (⟨#[121, 121, 121, 110, 110]⟩ : ByteArray) [.string (⟨#[121, 121, 121, 110, 110]⟩ : ByteArray)] from rfl) (Reps.one (show Kd.M Kd.string _ _ _ (⟨#[121, 121, 110, 121, 110]⟩ : ByteArray) [.string (⟨#[121, 121, 110, 121, 110]⟩ : ByteArray)] from rfl) (Reps.one (show Kd.M Kd.string _ _ _ (⟨#[121, 110, 110, 110, 110]⟩ : ByteArray) [.string (⟨#[121, 110, 110, 110, 110]⟩ : ByteArray)] from rfl) (Reps.none _ _))))))); intro v126 w12 ho13 hb hg_ hnew_; clear hg_ hnew_; (first | rw [← Ny125.out] at ho13 | (simp only [Int.reduceToNat] at ho13; rw [← Ny125.out] at ho13)); have n0_ := Aside0.mk (Kd.R_lower ho13 (below_size (by repeat (first | (with_reducible first | exact HB.out | apply below_alloc | apply pw_below_drewN | apply below_drew1) | exact HB.out)))); have n1_ := Aside0.mk (below_step (by repeat (first | (with_reducible first | exact HB.out | apply below_alloc | apply pw_below_drewN | apply below_drew1) | exact HB.out)) hb); clear HB; have HO127 := n0_; have HB := n1_; clear n0_ n1_; clear hb ho13; obtain ⟨Ao14, co14, eo14⟩ := Kd.R_slice HO127.out; subst eo14; have p128 : 0 ≤ (a0 : Int) := of_decide_eq_true (by first | (with_reducible assumption) | assumption); have q128 : a0 < (y125.length : Int) := of_decide_eq_true (by first | (with_reducible assumption) | assumption); obtain ⟨ad128, e128, hx128_0⟩ := Kd.at_string (Kd.R_reads' HO127.out).2.2 a0 p128 q128; cases e128; replace p128 := eq_true p128; replace q128 := eq_true q128; have p11 : 0 ≤ (a1 : Int) := of_decide_eq_true (by first | (with_reducible assumption) | assumption); have q11 : a1 < ((rdOf ByteArray.empty y125 a0).size : Int) := of_decide_eq_true (by first | (with_reducible assumption) | assumption); have hx11 := bt_at (rdOf ByteArray.empty y125 a0) a1; replace p11 := eq_true p11; replace q11 := eq_true q11))
              go_ret
              exact ⟨by first | rfl | (simp [errW_none, errW_some] <;> rfl) | (simp [*, errW_none, errW_some] <;> rfl), by repeat (first | (with_reducible first | exact HB.out | apply below_alloc | apply pw_below_drewN | apply below_drew1) | exact HB.out)⟩
            · rw [if_neg c10] at H
              exact absurd H (by simp)
          · rw [if_neg c9] at H
            exact absurd H (by simp)
        · rw [if_neg c8] at H
          exact absurd H (by simp)
      · rw [if_neg c7] at H
        exact absurd H (by simp)
    · replace c6 := Bool.eq_false_iff.mpr c6
      subst c6
      have H1 : (some false) = some r := by rw [if_neg (show ¬ (false = true) by decide)] at H; exact H
      clear H
      have H := H1
      clear H1
      obtain rfl := Option.some.inj H
      go_enter Try.func16, Try.ntmps16
      go_wp2_with (first | ((with_reducible refine gate_callee (f := 8) rfl ?_); refine goesL_ (some 6) rfl rfl Try.func8 (by kernel_rfl) rfl #[.int .i64 a0] rfl (by (try simp only [List.map_toArray, List.map_cons, List.map_nil]); first | done | rfl | (simp only [List.length_drop, List.length_take]; rfl)) ?_; (with_reducible refine (padlockref14_Good.calls a0 true _ A3.out).mono ?_); rintro e w' ⟨rfl, ⟨nd, rfl⟩⟩; refine ⟨_, rfl, ?_⟩) | (go_at_call 8; (with_reducible refine (padlockref14_Good.calls a1 false _ A5.out).mono ?_); rintro e w' ⟨rfl, ⟨nd, rfl⟩⟩))
      go_ret
      exact ⟨by first | rfl | (simp [errW_none, errW_some] <;> rfl) | (simp [*, errW_none, errW_some] <;> rfl), by repeat (first | (with_reducible first | exact HB.out | apply below_alloc | apply pw_below_drewN | apply below_drew1) | exact HB.out)⟩
  · replace c4 := Bool.eq_false_iff.mpr c4
    subst c4
    have H1 : (some false) = some r := by rw [if_neg (show ¬ (false = true) by decide)] at H; exact H
    clear H
    have H := H1
    clear H1
    obtain rfl := Option.some.inj H
    go_enter Try.func16, Try.ntmps16
    go_wp2_with (first | ((with_reducible refine gate_callee (f := 8) rfl ?_); refine goesL_ (some 6) rfl rfl Try.func8 (by kernel_rfl) rfl #[.int .i64 a0] rfl (by (try simp only [List.map_toArray, List.map_cons, List.map_nil]); first | done | rfl | (simp only [List.length_drop, List.length_take]; rfl)) ?_; (with_reducible refine (padlockref14_Good.calls a0 false _ A3.out).mono ?_); rintro e w' ⟨rfl, ⟨nd, rfl⟩⟩; refine ⟨_, rfl, ?_⟩))
    go_ret
    exact ⟨by first | rfl | (simp [errW_none, errW_some] <;> rfl) | (simp [*, errW_none, errW_some] <;> rfl), by repeat (first | (with_reducible first | exact HB.out | apply below_alloc | apply pw_below_drewN | apply below_drew1) | exact HB.out)⟩

/-! ### padlockref14_Above: function 17 -/
def padlockref14_Above.f (a0 : Int) : Option (Int) := (padlockref14_Good.f a0).bind fun t129 => (if t129 = true then ((some (([0, 1, 2, 1, 2] : List Int) : List Int)).bind fun y130 => (if 0 ≤ a0 then (if a0 < (y130.length : Int) then (some (rd y130 a0)) else (none)) else (none))) else (some 2))
set_option maxHeartbeats 8000000 in
set_option maxRecDepth 100000 in
theorem padlockref14_Above.calls (a0 : Int) (r : Int) (w : World) (h : padlockref14_Above.f a0 = some r) :
    Calls Try.prog 17 #[.int .i64 a0] w fun e w' => e = .returned (.int .i64 r) ∧ Below w.heap.size w w' := by
  have HB := Aside0.mk (Below.refl w.heap.size w)
  have H : ((padlockref14_Good.f a0).bind fun t129 => (if t129 = true then ((some (([0, 1, 2, 1, 2] : List Int) : List Int)).bind fun y130 => (if 0 ≤ a0 then (if a0 < (y130.length : Int) then (some (rd y130 a0)) else (none)) else (none))) else (some 2))) = some r := h
  clear h
  replace H := Option.bind_eq_some_iff.mp H
  obtain ⟨t129, A20, H⟩ := H
  replace H : (if t129 = true then ((some (([0, 1, 2, 1, 2] : List Int) : List Int)).bind fun y130 => (if 0 ≤ a0 then (if a0 < (y130.length : Int) then (some (rd y130 a0)) else (none)) else (none))) else (some 2)) = some r := H
  have A2 := Aside0.mk A20
  clear A20
  by_cases c3 : t129 = true
  · subst c3
    have H1 : ((some (([0, 1, 2, 1, 2] : List Int) : List Int)).bind fun y130 => (if 0 ≤ a0 then (if a0 < (y130.length : Int) then (some (rd y130 a0)) else (none)) else (none))) = some r := by rw [if_pos rfl] at H; exact H
    clear H
    have H := H1
    clear H1
    obtain ⟨y130, hy130⟩ : ∃ y_ : List Int, y_ = (([0, 1, 2, 1, 2] : List Int)) := ⟨_, rfl⟩
    replace H : (if 0 ≤ a0 then (if a0 < (y130.length : Int) then (some (rd y130 a0)) else (none)) else (none)) = some r := by first | (rw [hy130]; with_reducible exact H) | (have H2_ := (Option.bind_some _ _).symm.trans H; rw [hy130]; with_reducible exact H2_) | (have H2_ := (Option.bind_some _ _).symm.trans H; with_reducible exact H2_) | with_reducible exact H | (rw [hy130]; exact H) | exact H
    have Ny130 := Aside0.mk hy130
    clear hy130
    by_cases c4 : 0 ≤ a0
    · rw [if_pos c4] at H
      have c4b0 : decide (0 ≤ a0) = true := decide_eq_true c4
      clear c4
      by_cases c5 : a0 < (y130.length : Int)
      · rw [if_pos c5] at H
        have c5b0 : decide (a0 < (y130.length : Int)) = true := decide_eq_true c5
        clear c5
        obtain rfl := Option.some.inj H
        go_enter Try.func17, Try.ntmps17
        go_wp2_with (first | ((with_reducible refine gate_callee (f := 8) rfl ?_); refine goesL_ (some 4) rfl rfl Try.func8 (by kernel_rfl) rfl #[.int .i64 a0] rfl (by (try simp only [List.map_toArray, List.map_cons, List.map_nil]); first | done | rfl | (simp only [List.length_drop, List.length_take]; rfl)) ?_; (with_reducible refine (padlockref14_Good.calls a0 true _ A2.out).mono ?_); rintro e w' ⟨rfl, ⟨nd, rfl⟩⟩; refine ⟨_, rfl, ?_⟩) | ((with_reducible refine gate_dst (N := 6) rfl ?_); refine Kd.R_lit (Kd.int .i64) _ 3 ?hg (N := 6) ?hd (xs := ([0, 1, 2, 1, 2] : List Int)) (inner := [.int .i64 0, .int .i64 1, .int .i64 2, .int .i64 1, .int .i64 2]) (ok := fun _ => True) (okp := fun _ => True) ?hr ?hp (fun _ hk => hk) trivial (Below.refl _ _) (Nat.le_refl _) (by simp) ?_; (case hd => rfl); (case hg => rfl); (case hr => first | (go_simp; done) | (go_simp; rfl)); (case hp => exact (Reps.one (show Kd.M (Kd.int .i64) _ _ _ 0 [.int .i64 0] from rfl) (Reps.one (show Kd.M (Kd.int .i64) _ _ _ 1 [.int .i64 1] from rfl) (Reps.one (show Kd.M (Kd.int .i64) _ _ _ 2 [.int .i64 2] from rfl) (Reps.one (show Kd.M (Kd.int .i64) _ _ _ 1 [.int .i64 1] from rfl) (Reps.one (show Kd.M (Kd.int .i64) _ _ _ 2 [.int .i64 2] from rfl) (Reps.none _ _))))))); intro v131 w6 ho7 hb hg_ hnew_; clear hg_ hnew_; (first | rw [← Ny130.out] at ho7 | (simp only [Int.reduceToNat] at ho7; rw [← Ny130.out] at ho7)); have n0_ := Aside0.mk (Kd.R_lower ho7 (below_size (by repeat (first | (with_reducible first | exact HB.out | apply below_alloc | apply pw_below_drewN | apply below_drew1) | exact HB.out)))); have n1_ := Aside0.mk (below_step (by repeat (first | (with_reducible first | exact HB.out | apply below_alloc | apply pw_below_drewN | apply below_drew1) | exact HB.out)) hb); clear HB; have HO132 := n0_; have HB := n1_; clear n0_ n1_; clear hb ho7; obtain ⟨Ao8, co8, eo8⟩ := Kd.R_slice HO132.out; subst eo8; have p133 : 0 ≤ (a0 : Int) := of_decide_eq_true (by first | (with_reducible assumption) | assumption); have q133 : a0 < (y130.length : Int) := of_decide_eq_true (by first | (with_reducible assumption) | assumption); obtain ⟨ad133, e133, hx133_0⟩ := Kd.at_int (Kd.R_reads' HO132.out).2.2 a0 p133 q133; cases e133; replace p133 := eq_true p133; replace q133 := eq_true q133))
        go_ret
        exact ⟨by first | rfl | (simp [errW_none, errW_some] <;> rfl) | (simp [*, errW_none, errW_some] <;> rfl), by repeat (first | (with_reducible first | exact HB.out | apply below_alloc | apply pw_below_drewN | apply below_drew1) | exact HB.out)⟩
      · rw [if_neg c5] at H
        exact absurd H (by simp)
    · rw [if_neg c4] at H
      exact absurd H (by simp)
  · replace c3 := Bool.eq_false_iff.mpr c3
    subst c3
    have H1 : (some 2) = some r := by rw [if_neg (show ¬ (false = true) by decide)] at H; exact H
    clear H
    have H := H1
    clear H1
    obtain rfl := Option.some.inj H
    go_enter Try.func17, Try.ntmps17
    go_wp2_with (first | ((with_reducible refine gate_callee (f := 8) rfl ?_); refine goesL_ (some 4) rfl rfl Try.func8 (by kernel_rfl) rfl #[.int .i64 a0] rfl (by (try simp only [List.map_toArray, List.map_cons, List.map_nil]); first | done | rfl | (simp only [List.length_drop, List.length_take]; rfl)) ?_; (with_reducible refine (padlockref14_Good.calls a0 false _ A2.out).mono ?_); rintro e w' ⟨rfl, ⟨nd, rfl⟩⟩; refine ⟨_, rfl, ?_⟩))
    go_ret
    exact ⟨by first | rfl | (simp [errW_none, errW_some] <;> rfl) | (simp [*, errW_none, errW_some] <;> rfl), by repeat (first | (with_reducible first | exact HB.out | apply below_alloc | apply pw_below_drewN | apply below_drew1) | exact HB.out)⟩

/-! ### padlockref14_Covers: function 18 -/
def padlockref14_Covers.f (a0 : Int) (a1 : Int) : Option (Bool) := (padlockref14_Good.f a0).bind fun t134 => (if t134 = true then ((padlockref14_Good.f a1).bind fun t135 => (if t135 = true then ((some (([(⟨#[121, 110, 110, 110, 110]⟩ : ByteArray), (⟨#[121, 110, 110, 110, 110]⟩ : ByteArray), (⟨#[121, 110, 110, 110, 110]⟩ : ByteArray), (⟨#[121, 121, 110, 121, 110]⟩ : ByteArray), (⟨#[121, 121, 121, 121, 121]⟩ : ByteArray)] : List ByteArray) : List ByteArray)).bind fun y136 => (if 0 ≤ a0 then (if a0 < (y136.length : Int) then (if 0 ≤ a1 then (if a1 < ((rdOf ByteArray.empty y136 a0).size : Int) then (some ((bt (rdOf ByteArray.empty y136 a0) a1) == 121)) else (none)) else (none)) else (none)) else (none))) else (some false))) else (some false))
set_option maxHeartbeats 8000000 in
set_option maxRecDepth 100000 in
theorem padlockref14_Covers.calls (a0 : Int) (a1 : Int) (r : Bool) (w : World) (h : padlockref14_Covers.f a0 a1 = some r) :
    Calls Try.prog 18 #[.int .i64 a0, .int .i64 a1] w fun e w' => e = .returned (.bool r) ∧ Below w.heap.size w w' := by
  have HB := Aside0.mk (Below.refl w.heap.size w)
  have H : ((padlockref14_Good.f a0).bind fun t134 => (if t134 = true then ((padlockref14_Good.f a1).bind fun t135 => (if t135 = true then ((some (([(⟨#[121, 110, 110, 110, 110]⟩ : ByteArray), (⟨#[121, 110, 110, 110, 110]⟩ : ByteArray), (⟨#[121, 110, 110, 110, 110]⟩ : ByteArray), (⟨#[121, 121, 110, 121, 110]⟩ : ByteArray), (⟨#[121, 121, 121, 121, 121]⟩ : ByteArray)] : List ByteArray) : List ByteArray)).bind fun y136 => (if 0 ≤ a0 then (if a0 < (y136.length : Int) then (if 0 ≤ a1 then (if a1 < ((rdOf ByteArray.empty y136 a0).size : Int) then (some ((bt (rdOf ByteArray.empty y136 a0) a1) == 121)) else (none)) else (none)) else (none)) else (none))) else (some false))) else (some false))) = some r := h
  clear h
  replace H := Option.bind_eq_some_iff.mp H
  obtain ⟨t134, A30, H⟩ := H
  replace H : (if t134 = true then ((padlockref14_Good.f a1).bind fun t135 => (if t135 = true then ((some (([(⟨#[121, 110, 110, 110, 110]⟩ : ByteArray), (⟨#[121, 110, 110, 110, 110]⟩ : ByteArray), (⟨#[121, 110, 110, 110, 110]⟩ : ByteArray), (⟨#[121, 121, 110, 121, 110]⟩ : ByteArray), (⟨#[121, 121, 121, 121, 121]⟩ : ByteArray)] : List ByteArray) : List ByteArray)).bind fun y136 => (if 0 ≤ a0 then (if a0 < (y136.length : Int) then (if 0 ≤ a1 then (if a1 < ((rdOf ByteArray.empty y136 a0).size : Int) then (some ((bt (rdOf ByteArray.empty y136 a0) a1) == 121)) else (none)) else (none)) else (none)) else (none))) else (some false))) else (some false)) = some r := H
  have A3 := Aside0.mk A30
  clear A30
  by_cases c4 : t134 = true
  · subst c4
    have H1 : ((padlockref14_Good.f a1).bind fun t135 => (if t135 = true then ((some (([(⟨#[121, 110, 110, 110, 110]⟩ : ByteArray), (⟨#[121, 110, 110, 110, 110]⟩ : ByteArray), (⟨#[121, 110, 110, 110, 110]⟩ : ByteArray), (⟨#[121, 121, 110, 121, 110]⟩ : ByteArray), (⟨#[121, 121, 121, 121, 121]⟩ : ByteArray)] : List ByteArray) : List ByteArray)).bind fun y136 => (if 0 ≤ a0 then (if a0 < (y136.length : Int) then (if 0 ≤ a1 then (if a1 < ((rdOf ByteArray.empty y136 a0).size : Int) then (some ((bt (rdOf ByteArray.empty y136 a0) a1) == 121)) else (none)) else (none)) else (none)) else (none))) else (some false))) = some r := by rw [if_pos rfl] at H; exact H
    clear H
    have H := H1
    clear H1
    replace H := Option.bind_eq_some_iff.mp H
    obtain ⟨t135, A50, H⟩ := H
    replace H : (if t135 = true then ((some (([(⟨#[121, 110, 110, 110, 110]⟩ : ByteArray), (⟨#[121, 110, 110, 110, 110]⟩ : ByteArray), (⟨#[121, 110, 110, 110, 110]⟩ : ByteArray), (⟨#[121, 121, 110, 121, 110]⟩ : ByteArray), (⟨#[121, 121, 121, 121, 121]⟩ : ByteArray)] : List ByteArray) : List ByteArray)).bind fun y136 => (if 0 ≤ a0 then (if a0 < (y136.length : Int) then (if 0 ≤ a1 then (if a1 < ((rdOf ByteArray.empty y136 a0).size : Int) then (some ((bt (rdOf ByteArray.empty y136 a0) a1) == 121)) else (none)) else (none)) else (none)) else (none))) else (some false)) = some r := H
    have A5 := Aside0.mk A50
    clear A50
    by_cases c6 : t135 = true
    · subst c6
      have H1 : ((some (([(⟨#[121, 110, 110, 110, 110]⟩ : ByteArray), (⟨#[121, 110, 110, 110, 110]⟩ : ByteArray), (⟨#[121, 110, 110, 110, 110]⟩ : ByteArray), (⟨#[121, 121, 110, 121, 110]⟩ : ByteArray), (⟨#[121, 121, 121, 121, 121]⟩ : ByteArray)] : List ByteArray) : List ByteArray)).bind fun y136 => (if 0 ≤ a0 then (if a0 < (y136.length : Int) then (if 0 ≤ a1 then (if a1 < ((rdOf ByteArray.empty y136 a0).size : Int) then (some ((bt (rdOf ByteArray.empty y136 a0) a1) == 121)) else (none)) else (none)) else (none)) else (none))) = some r := by rw [if_pos rfl] at H; exact H
      clear H
      have H := H1
      clear H1
      obtain ⟨y136, hy136⟩ : ∃ y_ : List ByteArray, y_ = (([(⟨#[121, 110, 110, 110, 110]⟩ : ByteArray), (⟨#[121, 110, 110, 110, 110]⟩ : ByteArray), (⟨#[121, 110, 110, 110, 110]⟩ : ByteArray), (⟨#[121, 121, 110, 121, 110]⟩ : ByteArray), (⟨#[121, 121, 121, 121, 121]⟩ : ByteArray)] : List ByteArray)) := ⟨_, rfl⟩
      replace H : (if 0 ≤ a0 then (if a0 < (y136.length : Int) then (if 0 ≤ a1 then (if a1 < ((rdOf ByteArray.empty y136 a0).size : Int) then (some ((bt (rdOf ByteArray.empty y136 a0) a1) == 121)) else (none)) else (none)) else (none)) else (none)) = some r := by first | (rw [hy136]; with_reducible exact H) | (have H2_ := (Option.bind_some _ _).symm.trans H; rw [hy136]; with_reducible exact H2_) | (have H2_ := (Option.bind_some _ _).symm.trans H; with_reducible exact H2_) | with_reducible exact H | (rw [hy136]; exact H) | exact H
      have Ny136 := Aside0.mk hy136
      clear hy136
      by_cases c7 : 0 ≤ a0
      · rw [if_pos c7] at H
        have c7b0 : decide (0 ≤ a0) = true := decide_eq_true c7
        clear c7
        by_cases c8 : a0 < (y136.length : Int)
        · rw [if_pos c8] at H
          have c8b0 : decide (a0 < (y136.length : Int)) = true := decide_eq_true c8
          clear c8
          by_cases c9 : 0 ≤ a1
          · rw [if_pos c9] at H
            have c9b0 : decide (0 ≤ a1) = true := decide_eq_true c9
            clear c9
            by_cases c10 : a1 < ((rdOf ByteArray.empty y136 a0).size : Int)
            · rw [if_pos c10] at H
              have c10b0 : decide (a1 < ((rdOf ByteArray.empty y136 a0).size : Int)) = true := decide_eq_true c10
              clear c10
              obtain rfl := Option.some.inj H
              go_enter Try.func18, Try.ntmps18
              go_wp2_with (first | ((with_reducible refine gate_callee (f := 8) rfl ?_); refine goesL_ (some 6) rfl rfl Try.func8 (by kernel_rfl) rfl #[.int .i64 a0] rfl (by (try simp only [List.map_toArray, List.map_cons, List.map_nil]); first | done | rfl | (simp only [List.length_drop, List.length_take]; rfl)) ?_; (with_reducible refine (padlockref14_Good.calls a0 true _ A3.out).mono ?_); rintro e w' ⟨rfl, ⟨nd, rfl⟩⟩; refine ⟨_, rfl, ?_⟩) | (go_at_call 8; (with_reducible refine (padlockref14_Good.calls a1 true _ A5.out).mono ?_); rintro e w' ⟨rfl, ⟨nd, rfl⟩⟩) | ((with_reducible refine gate_dst (N := 13) rfl ?_); refine Kd.R_lit Kd.string _ 9 ?hg (N := 13) ?hd (xs := ([(⟨#[121, 110, 110, 110, 110]⟩ : ByteArray), (⟨#[121, 110, 110, 110, 110]⟩ : ByteArray), (⟨#[121, 110, 110, 110, 110]⟩ : ByteArray), (⟨#[121, 121, 110, 121, 110]⟩ : ByteArray), (⟨#[121, 121, 121, 121, 121]⟩ : ByteArray)] : List ByteArray)) (inner := [.string (⟨#[121, 110, 110, 110, 110]⟩ : ByteArray), .string (⟨#[121, 110, 110, 110, 110]⟩ : ByteArray), .string (⟨#[121, 110, 110, 110, 110]⟩ : ByteArray), .string (⟨#[121, 121, 110, 121, 110]⟩ : ByteArray), .string (⟨#[121, 121, 121, 121, 121]⟩ : ByteArray)]) (ok := fun _ => True) (okp := fun _ => True) ?hr ?hp (fun _ hk => hk) trivial (Below.refl _ _) (Nat.le_refl _) (by simp) ?_; (case hd => rfl); (case hg => rfl); (case hr => first | (go_simp; done) | (go_simp; rfl)); (case hp => exact (Reps.one (show Kd.M Kd.string _ _ _ (⟨#[121, 110, 110, 110, 110]⟩ : ByteArray) [.string (⟨#[121, 110, 110, 110, 110]⟩ : ByteArray)] from rfl) (Reps.one (show Kd.M Kd.string _ _ _ (⟨#[121, 110, 110, 110, 110]⟩ : ByteArray) [.string (⟨#[121, 110, 110, 110, 110]⟩ : ByteArray)] from rfl) (Reps.one (show Kd.M Kd.string _ _ _ (⟨#[121, 110, 110, 110, 110]⟩ : ByteArray) [.string (⟨#[121, 110, 110, 110, 110]⟩ : ByteArray)] from rfl) (Reps.one (show Kd.M Kd.string _ _ _ (⟨#[121, 121, 110, 121, 110]⟩ : ByteArray) [.string (⟨#[121, 121, 110, 121, 110]⟩ : ByteArray)] from rfl) (Reps.one (show Kd.M Kd.string _ _ _ (⟨#[121, 121, 121, 121, 121]⟩ : ByteArray) [.string (⟨#[121, 121, 121, 121, 121]⟩ : ByteArray)] from rfl) (Reps.none _ _))))))); intro v137 w12 ho13 hb hg_ hnew_; clear hg_ hnew_; (first | rw [← Ny136.out] at ho13 | (simp only [Int.reduceToNat] at ho13; rw [← Ny136.out] at ho13)); have n0_ := Aside0.mk (Kd.R_lower ho13 (below_size (by repeat (first | (with_reducible first | exact HB.out | apply below_alloc | apply pw_below_drewN | apply below_drew1) | exact HB.out)))); have n1_ := Aside0.mk (below_step (by repeat (first | (with_reducible first | exact HB.out | apply below_alloc | apply pw_below_drewN | apply below_drew1) | exact HB.out)) hb); clear HB; have HO138 := n0_; have HB := n1_; clear n0_ n1_; clear hb ho13; obtain ⟨Ao14, co14, eo14⟩ := Kd.R_slice HO138.out; subst eo14; have p139 : 0 ≤ (a0 : Int) := of_decide_eq_true (by first | (with_reducible assumption) | assumption); have q139 : a0 < (y136.length : Int) := of_decide_eq_true (by first | (with_reducible assumption) | assumption); obtain ⟨ad139, e139, hx139_0⟩ := Kd.at_string (Kd.R_reads' HO138.out).2.2 a0 p139 q139; cases e139; replace p139 := eq_true p139; replace q139 := eq_true q139; have p11 : 0 ≤ (a1 : Int) := of_decide_eq_true (by first | (with_reducible assumption) | assumption); have q11 : a1 < ((rdOf ByteArray.empty y136 a0).size : Int) := of_decide_eq_true (by first | (with_reducible assumption) | assumption); have hx11 := bt_at (rdOf ByteArray.empty y136 a0) a1; replace p11 := eq_true p11; replace q11 := eq_true q11))
              go_ret
              exact ⟨by first | rfl | (simp [errW_none, errW_some] <;> rfl) | (simp [*, errW_none, errW_some] <;> rfl), by repeat (first | (with_reducible first | exact HB.out | apply below_alloc | apply pw_below_drewN | apply below_drew1) | exact HB.out)⟩
            · rw [if_neg c10] at H
              exact absurd H (by simp)
          · rw [if_neg c9] at H
            exact absurd H (by simp)
        · rw [if_neg c8] at H
          exact absurd H (by simp)
      · rw [if_neg c7] at H
        exact absurd H (by simp)
    · replace c6 := Bool.eq_false_iff.mpr c6
      subst c6
      have H1 : (some false) = some r := by rw [if_neg (show ¬ (false = true) by decide)] at H; exact H
      clear H
      have H := H1
      clear H1
      obtain rfl := Option.some.inj H
      go_enter Try.func18, Try.ntmps18
      go_wp2_with (first | ((with_reducible refine gate_callee (f := 8) rfl ?_); refine goesL_ (some 6) rfl rfl Try.func8 (by kernel_rfl) rfl #[.int .i64 a0] rfl (by (try simp only [List.map_toArray, List.map_cons, List.map_nil]); first | done | rfl | (simp only [List.length_drop, List.length_take]; rfl)) ?_; (with_reducible refine (padlockref14_Good.calls a0 true _ A3.out).mono ?_); rintro e w' ⟨rfl, ⟨nd, rfl⟩⟩; refine ⟨_, rfl, ?_⟩) | (go_at_call 8; (with_reducible refine (padlockref14_Good.calls a1 false _ A5.out).mono ?_); rintro e w' ⟨rfl, ⟨nd, rfl⟩⟩))
      go_ret
      exact ⟨by first | rfl | (simp [errW_none, errW_some] <;> rfl) | (simp [*, errW_none, errW_some] <;> rfl), by repeat (first | (with_reducible first | exact HB.out | apply below_alloc | apply pw_below_drewN | apply below_drew1) | exact HB.out)⟩
  · replace c4 := Bool.eq_false_iff.mpr c4
    subst c4
    have H1 : (some false) = some r := by rw [if_neg (show ¬ (false = true) by decide)] at H; exact H
    clear H
    have H := H1
    clear H1
    obtain rfl := Option.some.inj H
    go_enter Try.func18, Try.ntmps18
    go_wp2_with (first | ((with_reducible refine gate_callee (f := 8) rfl ?_); refine goesL_ (some 6) rfl rfl Try.func8 (by kernel_rfl) rfl #[.int .i64 a0] rfl (by (try simp only [List.map_toArray, List.map_cons, List.map_nil]); first | done | rfl | (simp only [List.length_drop, List.length_take]; rfl)) ?_; (with_reducible refine (padlockref14_Good.calls a0 false _ A3.out).mono ?_); rintro e w' ⟨rfl, ⟨nd, rfl⟩⟩; refine ⟨_, rfl, ?_⟩))
    go_ret
    exact ⟨by first | rfl | (simp [errW_none, errW_some] <;> rfl) | (simp [*, errW_none, errW_some] <;> rfl), by repeat (first | (with_reducible first | exact HB.out | apply below_alloc | apply pw_below_drewN | apply below_drew1) | exact HB.out)⟩

/-! ### padlocklaw14_ModeIs: function 6 -/
def padlocklaw14_ModeIs.f (k : Nat) (a0 : Int) (a1 : Int) : Option (Bool) := (padlocklaw14_alive.f k).bind fun t140 => (if t140 = true then ((mode_Good.f a0).bind fun t141 => ((padlockref14_Good.f a0).bind fun t142 => (if (t141 == t142) = true then ((mode_Join.f k a0 a1).bind fun t143 => ((padlockref14_Join.f k a0 a1).bind fun t144 => (if t143 = t144 then ((mode_Least.f k a0 a1).bind fun t145 => ((padlockref14_Join.f k a0 a1).bind fun t146 => (if (t145 == (t146 == a1)) = true then ((mode_Fits.f k a0 a1).bind fun t147 => ((padlockref14_Fits.f a0 a1).bind fun t148 => (if (t147 == t148) = true then ((mode_Above.f k a0).bind fun t149 => ((padlockref14_Above.f a0).bind fun t150 => (if t149 = t150 then ((mode_Covers.f k a0 a1).bind fun t151 => ((padlockref14_Covers.f a0 a1).bind fun t152 => (some (t151 == t152)))) else (some false)))) else (some false)))) else (some false)))) else (some false)))) else (some false)))) else (some false))
theorem padlocklaw14_ModeIs.mono : ∀ a0 a1 k, LeO (padlocklaw14_ModeIs.f k a0 a1) (padlocklaw14_ModeIs.f (k + 1) a0 a1) := by
  intro a0 a1 k
  unfold padlocklaw14_ModeIs.f
  repeat' first
      | (with_reducible exact mode_Above.mono _ _)
      | (with_reducible exact mode_Covers.mono _ _ _)
      | (with_reducible exact mode_Fits.mono _ _ _)
      | (with_reducible exact mode_Join.mono _ _ _)
      | (with_reducible exact mode_Least.mono _ _ _)
      | (with_reducible exact padlocklaw14_alive.mono _)
      | (with_reducible exact padlockref14_Join.mono _ _ _)
      | (with_reducible exact LeO.refl _)
      | (with_reducible exact LeO.none _)
      | (with_reducible refine LeO.ite ?_ ?_)
      | (with_reducible refine LeO.bind ?_ (fun _ => ?_))
      | exact mode_Above.mono _ _
      | exact mode_Covers.mono _ _ _
      | exact mode_Fits.mono _ _ _
      | exact mode_Join.mono _ _ _
      | exact mode_Least.mono _ _ _
      | exact padlocklaw14_alive.mono _
      | exact padlockref14_Join.mono _ _ _
      | exact LeO.none _
      | refine LeO.ite ?_ ?_
      | refine LeO.bind ?_ (fun _ => ?_)
set_option maxHeartbeats 8000000 in
set_option maxRecDepth 100000 in
theorem padlocklaw14_ModeIs.calls (k : Nat) (a0 : Int) (a1 : Int) (r : Bool) (w : World) (h : padlocklaw14_ModeIs.f k a0 a1 = some r) :
    Calls Try.prog 6 #[.int .i64 a0, .int .i64 a1] w fun e w' => e = .returned (.bool r) ∧ Below w.heap.size w w' := by
  have HB := Aside0.mk (Below.refl w.heap.size w)
  have H : ((padlocklaw14_alive.f k).bind fun t140 => (if t140 = true then ((mode_Good.f a0).bind fun t141 => ((padlockref14_Good.f a0).bind fun t142 => (if (t141 == t142) = true then ((mode_Join.f k a0 a1).bind fun t143 => ((padlockref14_Join.f k a0 a1).bind fun t144 => (if t143 = t144 then ((mode_Least.f k a0 a1).bind fun t145 => ((padlockref14_Join.f k a0 a1).bind fun t146 => (if (t145 == (t146 == a1)) = true then ((mode_Fits.f k a0 a1).bind fun t147 => ((padlockref14_Fits.f a0 a1).bind fun t148 => (if (t147 == t148) = true then ((mode_Above.f k a0).bind fun t149 => ((padlockref14_Above.f a0).bind fun t150 => (if t149 = t150 then ((mode_Covers.f k a0 a1).bind fun t151 => ((padlockref14_Covers.f a0 a1).bind fun t152 => (some (t151 == t152)))) else (some false)))) else (some false)))) else (some false)))) else (some false)))) else (some false)))) else (some false))) = some r := h
  clear h
  replace H := Option.bind_eq_some_iff.mp H
  obtain ⟨t140, A30, H⟩ := H
  replace H : (if t140 = true then ((mode_Good.f a0).bind fun t141 => ((padlockref14_Good.f a0).bind fun t142 => (if (t141 == t142) = true then ((mode_Join.f k a0 a1).bind fun t143 => ((padlockref14_Join.f k a0 a1).bind fun t144 => (if t143 = t144 then ((mode_Least.f k a0 a1).bind fun t145 => ((padlockref14_Join.f k a0 a1).bind fun t146 => (if (t145 == (t146 == a1)) = true then ((mode_Fits.f k a0 a1).bind fun t147 => ((padlockref14_Fits.f a0 a1).bind fun t148 => (if (t147 == t148) = true then ((mode_Above.f k a0).bind fun t149 => ((padlockref14_Above.f a0).bind fun t150 => (if t149 = t150 then ((mode_Covers.f k a0 a1).bind fun t151 => ((padlockref14_Covers.f a0 a1).bind fun t152 => (some (t151 == t152)))) else (some false)))) else (some false)))) else (some false)))) else (some false)))) else (some false)))) else (some false)) = some r := H
  have A3 := Aside0.mk A30
  clear A30
  by_cases c4 : t140 = true
  · subst c4
    have H1 : ((mode_Good.f a0).bind fun t141 => ((padlockref14_Good.f a0).bind fun t142 => (if (t141 == t142) = true then ((mode_Join.f k a0 a1).bind fun t143 => ((padlockref14_Join.f k a0 a1).bind fun t144 => (if t143 = t144 then ((mode_Least.f k a0 a1).bind fun t145 => ((padlockref14_Join.f k a0 a1).bind fun t146 => (if (t145 == (t146 == a1)) = true then ((mode_Fits.f k a0 a1).bind fun t147 => ((padlockref14_Fits.f a0 a1).bind fun t148 => (if (t147 == t148) = true then ((mode_Above.f k a0).bind fun t149 => ((padlockref14_Above.f a0).bind fun t150 => (if t149 = t150 then ((mode_Covers.f k a0 a1).bind fun t151 => ((padlockref14_Covers.f a0 a1).bind fun t152 => (some (t151 == t152)))) else (some false)))) else (some false)))) else (some false)))) else (some false)))) else (some false)))) = some r := by rw [if_pos rfl] at H; exact H
    clear H
    have H := H1
    clear H1
    replace H := Option.bind_eq_some_iff.mp H
    obtain ⟨t141, A50, H⟩ := H
    replace H : ((padlockref14_Good.f a0).bind fun t142 => (if (t141 == t142) = true then ((mode_Join.f k a0 a1).bind fun t143 => ((padlockref14_Join.f k a0 a1).bind fun t144 => (if t143 = t144 then ((mode_Least.f k a0 a1).bind fun t145 => ((padlockref14_Join.f k a0 a1).bind fun t146 => (if (t145 == (t146 == a1)) = true then ((mode_Fits.f k a0 a1).bind fun t147 => ((padlockref14_Fits.f a0 a1).bind fun t148 => (if (t147 == t148) = true then ((mode_Above.f k a0).bind fun t149 => ((padlockref14_Above.f a0).bind fun t150 => (if t149 = t150 then ((mode_Covers.f k a0 a1).bind fun t151 => ((padlockref14_Covers.f a0 a1).bind fun t152 => (some (t151 == t152)))) else (some false)))) else (some false)))) else (some false)))) else (some false)))) else (some false))) = some r := H
    have A5 := Aside0.mk A50
    clear A50
    replace H := Option.bind_eq_some_iff.mp H
    obtain ⟨t142, A60, H⟩ := H
    replace H : (if (t141 == t142) = true then ((mode_Join.f k a0 a1).bind fun t143 => ((padlockref14_Join.f k a0 a1).bind fun t144 => (if t143 = t144 then ((mode_Least.f k a0 a1).bind fun t145 => ((padlockref14_Join.f k a0 a1).bind fun t146 => (if (t145 == (t146 == a1)) = true then ((mode_Fits.f k a0 a1).bind fun t147 => ((padlockref14_Fits.f a0 a1).bind fun t148 => (if (t147 == t148) = true then ((mode_Above.f k a0).bind fun t149 => ((padlockref14_Above.f a0).bind fun t150 => (if t149 = t150 then ((mode_Covers.f k a0 a1).bind fun t151 => ((padlockref14_Covers.f a0 a1).bind fun t152 => (some (t151 == t152)))) else (some false)))) else (some false)))) else (some false)))) else (some false)))) else (some false)) = some r := H
    have A6 := Aside0.mk A60
    clear A60
    by_cases c7 : (t141 == t142) = true
    · rw [if_pos c7] at H
      have c7b0 : (t141 == t142) = true := c7
      (try (have c7b1 : decide (t141 = t142) = true := by simpa using c7))
      (try (have c7b2 : (t141 == t142) = true := by simpa using c7))
      clear c7
      replace H := Option.bind_eq_some_iff.mp H
      obtain ⟨t143, A80, H⟩ := H
      replace H : ((padlockref14_Join.f k a0 a1).bind fun t144 => (if t143 = t144 then ((mode_Least.f k a0 a1).bind fun t145 => ((padlockref14_Join.f k a0 a1).bind fun t146 => (if (t145 == (t146 == a1)) = true then ((mode_Fits.f k a0 a1).bind fun t147 => ((padlockref14_Fits.f a0 a1).bind fun t148 => (if (t147 == t148) = true then ((mode_Above.f k a0).bind fun t149 => ((padlockref14_Above.f a0).bind fun t150 => (if t149 = t150 then ((mode_Covers.f k a0 a1).bind fun t151 => ((padlockref14_Covers.f a0 a1).bind fun t152 => (some (t151 == t152)))) else (some false)))) else (some false)))) else (some false)))) else (some false))) = some r := H
      have A8 := Aside0.mk A80
      clear A80
      replace H := Option.bind_eq_some_iff.mp H
      obtain ⟨t144, A90, H⟩ := H
      replace H : (if t143 = t144 then ((mode_Least.f k a0 a1).bind fun t145 => ((padlockref14_Join.f k a0 a1).bind fun t146 => (if (t145 == (t146 == a1)) = true then ((mode_Fits.f k a0 a1).bind fun t147 => ((padlockref14_Fits.f a0 a1).bind fun t148 => (if (t147 == t148) = true then ((mode_Above.f k a0).bind fun t149 => ((padlockref14_Above.f a0).bind fun t150 => (if t149 = t150 then ((mode_Covers.f k a0 a1).bind fun t151 => ((padlockref14_Covers.f a0 a1).bind fun t152 => (some (t151 == t152)))) else (some false)))) else (some false)))) else (some false)))) else (some false)) = some r := H
      have A9 := Aside0.mk A90
      clear A90
      by_cases c10 : t143 = t144
      · rw [if_pos c10] at H
        have c10b0 : (t143 == t144) = true := beq_iff_eq.mpr c10
        have c10b1 : (t143 != t144) = false := bne_eq_false_iff_eq.mpr c10
        clear c10
        replace H := Option.bind_eq_some_iff.mp H
        obtain ⟨t145, A110, H⟩ := H
        replace H : ((padlockref14_Join.f k a0 a1).bind fun t146 => (if (t145 == (t146 == a1)) = true then ((mode_Fits.f k a0 a1).bind fun t147 => ((padlockref14_Fits.f a0 a1).bind fun t148 => (if (t147 == t148) = true then ((mode_Above.f k a0).bind fun t149 => ((padlockref14_Above.f a0).bind fun t150 => (if t149 = t150 then ((mode_Covers.f k a0 a1).bind fun t151 => ((padlockref14_Covers.f a0 a1).bind fun t152 => (some (t151 == t152)))) else (some false)))) else (some false)))) else (some false))) = some r := H
        have A11 := Aside0.mk A110
        clear A110
        replace H := Option.bind_eq_some_iff.mp H
        obtain ⟨t146, A120, H⟩ := H
        replace H : (if (t145 == (t146 == a1)) = true then ((mode_Fits.f k a0 a1).bind fun t147 => ((padlockref14_Fits.f a0 a1).bind fun t148 => (if (t147 == t148) = true then ((mode_Above.f k a0).bind fun t149 => ((padlockref14_Above.f a0).bind fun t150 => (if t149 = t150 then ((mode_Covers.f k a0 a1).bind fun t151 => ((padlockref14_Covers.f a0 a1).bind fun t152 => (some (t151 == t152)))) else (some false)))) else (some false)))) else (some false)) = some r := H
        have A12 := Aside0.mk A120
        clear A120
        obtain rfl := Option.some.inj (A9.out.symm.trans A12.out)
        by_cases c13 : (t145 == (t144 == a1)) = true
        · rw [if_pos c13] at H
          have c13b0 : (t145 == (t144 == a1)) = true := c13
          (try (have c13b1 : decide (t145 = (t144 == a1)) = true := by simpa using c13))
          (try (have c13b2 : (t145 == (t144 == a1)) = true := by simpa using c13))
          clear c13
          replace H := Option.bind_eq_some_iff.mp H
          obtain ⟨t147, A140, H⟩ := H
          replace H : ((padlockref14_Fits.f a0 a1).bind fun t148 => (if (t147 == t148) = true then ((mode_Above.f k a0).bind fun t149 => ((padlockref14_Above.f a0).bind fun t150 => (if t149 = t150 then ((mode_Covers.f k a0 a1).bind fun t151 => ((padlockref14_Covers.f a0 a1).bind fun t152 => (some (t151 == t152)))) else (some false)))) else (some false))) = some r := H
          have A14 := Aside0.mk A140
          clear A140
          replace H := Option.bind_eq_some_iff.mp H
          obtain ⟨t148, A150, H⟩ := H
          replace H : (if (t147 == t148) = true then ((mode_Above.f k a0).bind fun t149 => ((padlockref14_Above.f a0).bind fun t150 => (if t149 = t150 then ((mode_Covers.f k a0 a1).bind fun t151 => ((padlockref14_Covers.f a0 a1).bind fun t152 => (some (t151 == t152)))) else (some false)))) else (some false)) = some r := H
          have A15 := Aside0.mk A150
          clear A150
          by_cases c16 : (t147 == t148) = true
          · rw [if_pos c16] at H
            have c16b0 : (t147 == t148) = true := c16
            (try (have c16b1 : decide (t147 = t148) = true := by simpa using c16))
            (try (have c16b2 : (t147 == t148) = true := by simpa using c16))
            clear c16
            replace H := Option.bind_eq_some_iff.mp H
            obtain ⟨t149, A170, H⟩ := H
            replace H : ((padlockref14_Above.f a0).bind fun t150 => (if t149 = t150 then ((mode_Covers.f k a0 a1).bind fun t151 => ((padlockref14_Covers.f a0 a1).bind fun t152 => (some (t151 == t152)))) else (some false))) = some r := H
            have A17 := Aside0.mk A170
            clear A170
            replace H := Option.bind_eq_some_iff.mp H
            obtain ⟨t150, A180, H⟩ := H
            replace H : (if t149 = t150 then ((mode_Covers.f k a0 a1).bind fun t151 => ((padlockref14_Covers.f a0 a1).bind fun t152 => (some (t151 == t152)))) else (some false)) = some r := H
            have A18 := Aside0.mk A180
            clear A180
            by_cases c19 : t149 = t150
            · rw [if_pos c19] at H
              have c19b0 : (t149 == t150) = true := beq_iff_eq.mpr c19
              have c19b1 : (t149 != t150) = false := bne_eq_false_iff_eq.mpr c19
              clear c19
              replace H := Option.bind_eq_some_iff.mp H
              obtain ⟨t151, A200, H⟩ := H
              replace H : ((padlockref14_Covers.f a0 a1).bind fun t152 => (some (t151 == t152))) = some r := H
              have A20 := Aside0.mk A200
              clear A200
              replace H := Option.bind_eq_some_iff.mp H
              obtain ⟨t152, A210, H⟩ := H
              replace H : (some (t151 == t152)) = some r := H
              have A21 := Aside0.mk A210
              clear A210
              obtain rfl := Option.some.inj H
              go_enter Try.func6, Try.ntmps6
              go_wp2_with (first | ((with_reducible refine gate_callee (f := 7) rfl ?_); refine goesL_ (some 5) rfl rfl Try.func7 (by kernel_rfl) rfl #[] rfl (by (try simp only [List.map_toArray, List.map_cons, List.map_nil]); first | done | rfl | (simp only [List.length_drop, List.length_take]; rfl)) ?_; (with_reducible refine (padlocklaw14_alive.calls k  true _ A3.out).mono ?_); rintro e w22 ⟨rfl, hb⟩; refine ⟨_, rfl, ?_⟩; have n0_ := Aside0.mk (below_step (by repeat (first | (with_reducible first | exact HB.out | apply below_alloc | apply pw_below_drewN | apply below_drew1) | exact HB.out)) hb); clear HB; have HB := n0_; clear n0_; (try clear hb); (try clear hb2); (try clear hk); (try clear hi)) | ((with_reducible refine gate_callee (f := 14) rfl ?_); refine goesL_ (some 8) rfl rfl Try.func14 (by kernel_rfl) rfl #[.int .i64 a0] rfl (by (try simp only [List.map_toArray, List.map_cons, List.map_nil]); first | done | rfl | (simp only [List.length_drop, List.length_take]; rfl)) ?_; (with_reducible refine (mode_Good.calls a0 t141 _ A5.out).mono ?_); rintro e w' ⟨rfl, ⟨nd, rfl⟩⟩; refine ⟨_, rfl, ?_⟩) | ((with_reducible refine gate_callee (f := 8) rfl ?_); refine goesL_ (some 10) rfl rfl Try.func8 (by kernel_rfl) rfl #[.int .i64 a0] rfl (by (try simp only [List.map_toArray, List.map_cons, List.map_nil]); first | done | rfl | (simp only [List.length_drop, List.length_take]; rfl)) ?_; (with_reducible refine (padlockref14_Good.calls a0 t142 _ A6.out).mono ?_); rintro e w' ⟨rfl, ⟨nd, rfl⟩⟩; refine ⟨_, rfl, ?_⟩) | (go_at_call 9; (with_reducible refine (mode_Join.calls k a0 a1 t143 _ A8.out).mono ?_); rintro e w23 ⟨rfl, hb⟩; have n0_ := Aside0.mk (below_step (by repeat (first | (with_reducible first | exact HB.out | apply below_alloc | apply pw_below_drewN | apply below_drew1) | exact HB.out)) hb); clear HB; have HB := n0_; clear n0_; (try clear hb); (try clear hb2); (try clear hk); (try clear hi)) | (go_at_call 15; (with_reducible refine (padlockref14_Join.calls k a0 a1 t144 _ A9.out).mono ?_); rintro e w24 ⟨rfl, hb⟩; have n0_ := Aside0.mk (below_step (by repeat (first | (with_reducible first | exact HB.out | apply below_alloc | apply pw_below_drewN | apply below_drew1) | exact HB.out)) hb); clear HB; have HB := n0_; clear n0_; (try clear hb); (try clear hb2); (try clear hk); (try clear hi)) | (go_at_call 10; (with_reducible refine (mode_Least.calls k a0 a1 t145 _ A11.out).mono ?_); rintro e w25 ⟨rfl, hb⟩; have n0_ := Aside0.mk (below_step (by repeat (first | (with_reducible first | exact HB.out | apply below_alloc | apply pw_below_drewN | apply below_drew1) | exact HB.out)) hb); clear HB; have HB := n0_; clear n0_; (try clear hb); (try clear hb2); (try clear hk); (try clear hi)) | (go_at_call 15; (with_reducible refine (padlockref14_Join.calls k a0 a1 t144 _ A12.out).mono ?_); rintro e w26 ⟨rfl, hb⟩; have n0_ := Aside0.mk (below_step (by repeat (first | (with_reducible first | exact HB.out | apply below_alloc | apply pw_below_drewN | apply below_drew1) | exact HB.out)) hb); clear HB; have HB := n0_; clear n0_; (try clear hb); (try clear hb2); (try clear hk); (try clear hi)) | (go_at_call 11; (with_reducible refine (mode_Fits.calls k a0 a1 t147 _ A14.out).mono ?_); rintro e w27 ⟨rfl, hb⟩; have n0_ := Aside0.mk (below_step (by repeat (first | (with_reducible first | exact HB.out | apply below_alloc | apply pw_below_drewN | apply below_drew1) | exact HB.out)) hb); clear HB; have HB := n0_; clear n0_; (try clear hb); (try clear hb2); (try clear hk); (try clear hi)) | (go_at_call 16; (with_reducible refine (padlockref14_Fits.calls a0 a1 t148 _ A15.out).mono ?_); rintro e w28 ⟨rfl, hb⟩; have n0_ := Aside0.mk (below_step (by repeat (first | (with_reducible first | exact HB.out | apply below_alloc | apply pw_below_drewN | apply below_drew1) | exact HB.out)) hb); clear HB; have HB := n0_; clear n0_; (try clear hb); (try clear hb2); (try clear hk); (try clear hi)) | (go_at_call 12; (with_reducible refine (mode_Above.calls k a0 t149 _ A17.out).mono ?_); rintro e w' ⟨rfl, ⟨nd, rfl⟩⟩) | (go_at_call 17; (with_reducible refine (padlockref14_Above.calls a0 t150 _ A18.out).mono ?_); rintro e w29 ⟨rfl, hb⟩; have n0_ := Aside0.mk (below_step (by repeat (first | (with_reducible first | exact HB.out | apply below_alloc | apply pw_below_drewN | apply below_drew1) | exact HB.out)) hb); clear HB; have HB := n0_; clear n0_; (try clear hb); (try clear hb2); (try clear hk); (try clear hi)) | (go_at_call 13; (with_reducible refine (mode_Covers.calls k a0 a1 t151 _ A20.out).mono ?_); rintro e w' ⟨rfl, ⟨nd, rfl⟩⟩) | (go_at_call 18; (with_reducible refine (padlockref14_Covers.calls a0 a1 t152 _ A21.out).mono ?_); rintro e w30 ⟨rfl, hb⟩; have n0_ := Aside0.mk (below_step (by repeat (first | (with_reducible first | exact HB.out | apply below_alloc | apply pw_below_drewN | apply below_drew1) | exact HB.out)) hb); clear HB; have HB := n0_; clear n0_; (try clear hb); (try clear hb2); (try clear hk); (try clear hi)))
              go_ret
              exact ⟨by first | rfl | (simp [errW_none, errW_some] <;> rfl) | (simp [*, errW_none, errW_some] <;> rfl), by repeat (first | (with_reducible first | exact HB.out | apply below_alloc | apply pw_below_drewN | apply below_drew1) | exact HB.out)⟩
            · rw [if_neg c19] at H
              have c19b0 : (t149 == t150) = false := beq_eq_false_iff_ne.mpr c19
              have c19b1 : (t149 != t150) = true := bne_iff_ne.mpr c19
              obtain rfl := Option.some.inj H
              go_enter Try.func6, Try.ntmps6
              go_wp2_with (first | ((with_reducible refine gate_callee (f := 7) rfl ?_); refine goesL_ (some 5) rfl rfl Try.func7 (by kernel_rfl) rfl #[] rfl (by (try simp only [List.map_toArray, List.map_cons, List.map_nil]); first | done | rfl | (simp only [List.length_drop, List.length_take]; rfl)) ?_; (with_reducible refine (padlocklaw14_alive.calls k  true _ A3.out).mono ?_); rintro e w31 ⟨rfl, hb⟩; refine ⟨_, rfl, ?_⟩; have n0_ := Aside0.mk (below_step (by repeat (first | (with_reducible first | exact HB.out | apply below_alloc | apply pw_below_drewN | apply below_drew1) | exact HB.out)) hb); clear HB; have HB := n0_; clear n0_; (try clear hb); (try clear hb2); (try clear hk); (try clear hi)) | ((with_reducible refine gate_callee (f := 14) rfl ?_); refine goesL_ (some 8) rfl rfl Try.func14 (by kernel_rfl) rfl #[.int .i64 a0] rfl (by (try simp only [List.map_toArray, List.map_cons, List.map_nil]); first | done | rfl | (simp only [List.length_drop, List.length_take]; rfl)) ?_; (with_reducible refine (mode_Good.calls a0 t141 _ A5.out).mono ?_); rintro e w' ⟨rfl, ⟨nd, rfl⟩⟩; refine ⟨_, rfl, ?_⟩) | ((with_reducible refine gate_callee (f := 8) rfl ?_); refine goesL_ (some 10) rfl rfl Try.func8 (by kernel_rfl) rfl #[.int .i64 a0] rfl (by (try simp only [List.map_toArray, List.map_cons, List.map_nil]); first | done | rfl | (simp only [List.length_drop, List.length_take]; rfl)) ?_; (with_reducible refine (padlockref14_Good.calls a0 t142 _ A6.out).mono ?_); rintro e w' ⟨rfl, ⟨nd, rfl⟩⟩; refine ⟨_, rfl, ?_⟩) | (go_at_call 9; (with_reducible refine (mode_Join.calls k a0 a1 t143 _ A8.out).mono ?_); rintro e w32 ⟨rfl, hb⟩; have n0_ := Aside0.mk (below_step (by repeat (first | (with_reducible first | exact HB.out | apply below_alloc | apply pw_below_drewN | apply below_drew1) | exact HB.out)) hb); clear HB; have HB := n0_; clear n0_; (try clear hb); (try clear hb2); (try clear hk); (try clear hi)) | (go_at_call 15; (with_reducible refine (padlockref14_Join.calls k a0 a1 t144 _ A9.out).mono ?_); rintro e w33 ⟨rfl, hb⟩; have n0_ := Aside0.mk (below_step (by repeat (first | (with_reducible first | exact HB.out | apply below_alloc | apply pw_below_drewN | apply below_drew1) | exact HB.out)) hb); clear HB; have HB := n0_; clear n0_; (try clear hb); (try clear hb2); (try clear hk); (try clear hi)) | (go_at_call 10; (with_reducible refine (mode_Least.calls k a0 a1 t145 _ A11.out).mono ?_); rintro e w34 ⟨rfl, hb⟩; have n0_ := Aside0.mk (below_step (by repeat (first | (with_reducible first | exact HB.out | apply below_alloc | apply pw_below_drewN | apply below_drew1) | exact HB.out)) hb); clear HB; have HB := n0_; clear n0_; (try clear hb); (try clear hb2); (try clear hk); (try clear hi)) | (go_at_call 15; (with_reducible refine (padlockref14_Join.calls k a0 a1 t144 _ A12.out).mono ?_); rintro e w35 ⟨rfl, hb⟩; have n0_ := Aside0.mk (below_step (by repeat (first | (with_reducible first | exact HB.out | apply below_alloc | apply pw_below_drewN | apply below_drew1) | exact HB.out)) hb); clear HB; have HB := n0_; clear n0_; (try clear hb); (try clear hb2); (try clear hk); (try clear hi)) | (go_at_call 11; (with_reducible refine (mode_Fits.calls k a0 a1 t147 _ A14.out).mono ?_); rintro e w36 ⟨rfl, hb⟩; have n0_ := Aside0.mk (below_step (by repeat (first | (with_reducible first | exact HB.out | apply below_alloc | apply pw_below_drewN | apply below_drew1) | exact HB.out)) hb); clear HB; have HB := n0_; clear n0_; (try clear hb); (try clear hb2); (try clear hk); (try clear hi)) | (go_at_call 16; (with_reducible refine (padlockref14_Fits.calls a0 a1 t148 _ A15.out).mono ?_); rintro e w37 ⟨rfl, hb⟩; have n0_ := Aside0.mk (below_step (by repeat (first | (with_reducible first | exact HB.out | apply below_alloc | apply pw_below_drewN | apply below_drew1) | exact HB.out)) hb); clear HB; have HB := n0_; clear n0_; (try clear hb); (try clear hb2); (try clear hk); (try clear hi)) | (go_at_call 12; (with_reducible refine (mode_Above.calls k a0 t149 _ A17.out).mono ?_); rintro e w' ⟨rfl, ⟨nd, rfl⟩⟩) | (go_at_call 17; (with_reducible refine (padlockref14_Above.calls a0 t150 _ A18.out).mono ?_); rintro e w38 ⟨rfl, hb⟩; have n0_ := Aside0.mk (below_step (by repeat (first | (with_reducible first | exact HB.out | apply below_alloc | apply pw_below_drewN | apply below_drew1) | exact HB.out)) hb); clear HB; have HB := n0_; clear n0_; (try clear hb); (try clear hb2); (try clear hk); (try clear hi)))
              go_ret
              exact ⟨by first | rfl | (simp [errW_none, errW_some] <;> rfl) | (simp [*, errW_none, errW_some] <;> rfl), by repeat (first | (with_reducible first | exact HB.out | apply below_alloc | apply pw_below_drewN | apply below_drew1) | exact HB.out)⟩
          · rw [if_neg c16] at H
            have c16b0 : (t147 == t148) = false := by simpa using c16
            (try (have c16b1 : decide (t147 = t148) = false := by simpa using c16))
            (try (have c16b2 : (t147 == t148) = false := by simpa using c16))
            (try (have c16b3 : ¬ (t147 = t148) := by simpa using c16))
            clear c16
            obtain rfl := Option.some.inj H
            go_enter Try.func6, Try.ntmps6
            go_wp2_with (first | ((with_reducible refine gate_callee (f := 7) rfl ?_); refine goesL_ (some 5) rfl rfl Try.func7 (by kernel_rfl) rfl #[] rfl (by (try simp only [List.map_toArray, List.map_cons, List.map_nil]); first | done | rfl | (simp only [List.length_drop, List.length_take]; rfl)) ?_; (with_reducible refine (padlocklaw14_alive.calls k  true _ A3.out).mono ?_); rintro e w39 ⟨rfl, hb⟩; refine ⟨_, rfl, ?_⟩; have n0_ := Aside0.mk (below_step (by repeat (first | (with_reducible first | exact HB.out | apply below_alloc | apply pw_below_drewN | apply below_drew1) | exact HB.out)) hb); clear HB; have HB := n0_; clear n0_; (try clear hb); (try clear hb2); (try clear hk); (try clear hi)) | ((with_reducible refine gate_callee (f := 14) rfl ?_); refine goesL_ (some 8) rfl rfl Try.func14 (by kernel_rfl) rfl #[.int .i64 a0] rfl (by (try simp only [List.map_toArray, List.map_cons, List.map_nil]); first | done | rfl | (simp only [List.length_drop, List.length_take]; rfl)) ?_; (with_reducible refine (mode_Good.calls a0 t141 _ A5.out).mono ?_); rintro e w' ⟨rfl, ⟨nd, rfl⟩⟩; refine ⟨_, rfl, ?_⟩) | ((with_reducible refine gate_callee (f := 8) rfl ?_); refine goesL_ (some 10) rfl rfl Try.func8 (by kernel_rfl) rfl #[.int .i64 a0] rfl (by (try simp only [List.map_toArray, List.map_cons, List.map_nil]); first | done | rfl | (simp only [List.length_drop, List.length_take]; rfl)) ?_; (with_reducible refine (padlockref14_Good.calls a0 t142 _ A6.out).mono ?_); rintro e w' ⟨rfl, ⟨nd, rfl⟩⟩; refine ⟨_, rfl, ?_⟩) | (go_at_call 9; (with_reducible refine (mode_Join.calls k a0 a1 t143 _ A8.out).mono ?_); rintro e w40 ⟨rfl, hb⟩; have n0_ := Aside0.mk (below_step (by repeat (first | (with_reducible first | exact HB.out | apply below_alloc | apply pw_below_drewN | apply below_drew1) | exact HB.out)) hb); clear HB; have HB := n0_; clear n0_; (try clear hb); (try clear hb2); (try clear hk); (try clear hi)) | (go_at_call 15; (with_reducible refine (padlockref14_Join.calls k a0 a1 t144 _ A9.out).mono ?_); rintro e w41 ⟨rfl, hb⟩; have n0_ := Aside0.mk (below_step (by repeat (first | (with_reducible first | exact HB.out | apply below_alloc | apply pw_below_drewN | apply below_drew1) | exact HB.out)) hb); clear HB; have HB := n0_; clear n0_; (try clear hb); (try clear hb2); (try clear hk); (try clear hi)) | (go_at_call 10; (with_reducible refine (mode_Least.calls k a0 a1 t145 _ A11.out).mono ?_); rintro e w42 ⟨rfl, hb⟩; have n0_ := Aside0.mk (below_step (by repeat (first | (with_reducible first | exact HB.out | apply below_alloc | apply pw_below_drewN | apply below_drew1) | exact HB.out)) hb); clear HB; have HB := n0_; clear n0_; (try clear hb); (try clear hb2); (try clear hk); (try clear hi)) | (go_at_call 15; (with_reducible refine (padlockref14_Join.calls k a0 a1 t144 _ A12.out).mono ?_); rintro e w43 ⟨rfl, hb⟩; have n0_ := Aside0.mk (below_step (by repeat (first | (with_reducible first | exact HB.out | apply below_alloc | apply pw_below_drewN | apply below_drew1) | exact HB.out)) hb); clear HB; have HB := n0_; clear n0_; (try clear hb); (try clear hb2); (try clear hk); (try clear hi)) | (go_at_call 11; (with_reducible refine (mode_Fits.calls k a0 a1 t147 _ A14.out).mono ?_); rintro e w44 ⟨rfl, hb⟩; have n0_ := Aside0.mk (below_step (by repeat (first | (with_reducible first | exact HB.out | apply below_alloc | apply pw_below_drewN | apply below_drew1) | exact HB.out)) hb); clear HB; have HB := n0_; clear n0_; (try clear hb); (try clear hb2); (try clear hk); (try clear hi)) | (go_at_call 16; (with_reducible refine (padlockref14_Fits.calls a0 a1 t148 _ A15.out).mono ?_); rintro e w45 ⟨rfl, hb⟩; have n0_ := Aside0.mk (below_step (by repeat (first | (with_reducible first | exact HB.out | apply below_alloc | apply pw_below_drewN | apply below_drew1) | exact HB.out)) hb); clear HB; have HB := n0_; clear n0_; (try clear hb); (try clear hb2); (try clear hk); (try clear hi)))
            go_ret
            exact ⟨by first | rfl | (simp [errW_none, errW_some] <;> rfl) | (simp [*, errW_none, errW_some] <;> rfl), by repeat (first | (with_reducible first | exact HB.out | apply below_alloc | apply pw_below_drewN | apply below_drew1) | exact HB.out)⟩
        · rw [if_neg c13] at H
          have c13b0 : (t145 == (t144 == a1)) = false := by simpa using c13
          (try (have c13b1 : decide (t145 = (t144 == a1)) = false := by simpa using c13))
          (try (have c13b2 : (t145 == (t144 == a1)) = false := by simpa using c13))
          (try (have c13b3 : ¬ (t145 = (t144 == a1)) := by simpa using c13))
          clear c13
          obtain rfl := Option.some.inj H
          go_enter Try.func6, Try.ntmps6
          go_wp2_with (first | ((with_reducible refine gate_callee (f := 7) rfl ?_); refine goesL_ (some 5) rfl rfl Try.func7 (by kernel_rfl) rfl #[] rfl (by (try simp only [List.map_toArray, List.map_cons, List.map_nil]); first | done | rfl | (simp only [List.length_drop, List.length_take]; rfl)) ?_; (with_reducible refine (padlocklaw14_alive.calls k  true _ A3.out).mono ?_); rintro e w46 ⟨rfl, hb⟩; refine ⟨_, rfl, ?_⟩; have n0_ := Aside0.mk (below_step (by repeat (first | (with_reducible first | exact HB.out | apply below_alloc | apply pw_below_drewN | apply below_drew1) | exact HB.out)) hb); clear HB; have HB := n0_; clear n0_; (try clear hb); (try clear hb2); (try clear hk); (try clear hi)) | ((with_reducible refine gate_callee (f := 14) rfl ?_); refine goesL_ (some 8) rfl rfl Try.func14 (by kernel_rfl) rfl #[.int .i64 a0] rfl (by (try simp only [List.map_toArray, List.map_cons, List.map_nil]); first | done | rfl | (simp only [List.length_drop, List.length_take]; rfl)) ?_; (with_reducible refine (mode_Good.calls a0 t141 _ A5.out).mono ?_); rintro e w' ⟨rfl, ⟨nd, rfl⟩⟩; refine ⟨_, rfl, ?_⟩) | ((with_reducible refine gate_callee (f := 8) rfl ?_); refine goesL_ (some 10) rfl rfl Try.func8 (by kernel_rfl) rfl #[.int .i64 a0] rfl (by (try simp only [List.map_toArray, List.map_cons, List.map_nil]); first | done | rfl | (simp only [List.length_drop, List.length_take]; rfl)) ?_; (with_reducible refine (padlockref14_Good.calls a0 t142 _ A6.out).mono ?_); rintro e w' ⟨rfl, ⟨nd, rfl⟩⟩; refine ⟨_, rfl, ?_⟩) | (go_at_call 9; (with_reducible refine (mode_Join.calls k a0 a1 t143 _ A8.out).mono ?_); rintro e w47 ⟨rfl, hb⟩; have n0_ := Aside0.mk (below_step (by repeat (first | (with_reducible first | exact HB.out | apply below_alloc | apply pw_below_drewN | apply below_drew1) | exact HB.out)) hb); clear HB; have HB := n0_; clear n0_; (try clear hb); (try clear hb2); (try clear hk); (try clear hi)) | (go_at_call 15; (with_reducible refine (padlockref14_Join.calls k a0 a1 t144 _ A9.out).mono ?_); rintro e w48 ⟨rfl, hb⟩; have n0_ := Aside0.mk (below_step (by repeat (first | (with_reducible first | exact HB.out | apply below_alloc | apply pw_below_drewN | apply below_drew1) | exact HB.out)) hb); clear HB; have HB := n0_; clear n0_; (try clear hb); (try clear hb2); (try clear hk); (try clear hi)) | (go_at_call 10; (with_reducible refine (mode_Least.calls k a0 a1 t145 _ A11.out).mono ?_); rintro e w49 ⟨rfl, hb⟩; have n0_ := Aside0.mk (below_step (by repeat (first | (with_reducible first | exact HB.out | apply below_alloc | apply pw_below_drewN | apply below_drew1) | exact HB.out)) hb); clear HB; have HB := n0_; clear n0_; (try clear hb); (try clear hb2); (try clear hk); (try clear hi)) | (go_at_call 15; (with_reducible refine (padlockref14_Join.calls k a0 a1 t144 _ A12.out).mono ?_); rintro e w50 ⟨rfl, hb⟩; have n0_ := Aside0.mk (below_step (by repeat (first | (with_reducible first | exact HB.out | apply below_alloc | apply pw_below_drewN | apply below_drew1) | exact HB.out)) hb); clear HB; have HB := n0_; clear n0_; (try clear hb); (try clear hb2); (try clear hk); (try clear hi)))
          go_ret
          exact ⟨by first | rfl | (simp [errW_none, errW_some] <;> rfl) | (simp [*, errW_none, errW_some] <;> rfl), by repeat (first | (with_reducible first | exact HB.out | apply below_alloc | apply pw_below_drewN | apply below_drew1) | exact HB.out)⟩
      · rw [if_neg c10] at H
        have c10b0 : (t143 == t144) = false := beq_eq_false_iff_ne.mpr c10
        have c10b1 : (t143 != t144) = true := bne_iff_ne.mpr c10
        obtain rfl := Option.some.inj H
        go_enter Try.func6, Try.ntmps6
        go_wp2_with (first | ((with_reducible refine gate_callee (f := 7) rfl ?_); refine goesL_ (some 5) rfl rfl Try.func7 (by kernel_rfl) rfl #[] rfl (by (try simp only [List.map_toArray, List.map_cons, List.map_nil]); first | done | rfl | (simp only [List.length_drop, List.length_take]; rfl)) ?_; (with_reducible refine (padlocklaw14_alive.calls k  true _ A3.out).mono ?_); rintro e w51 ⟨rfl, hb⟩; refine ⟨_, rfl, ?_⟩; have n0_ := Aside0.mk (below_step (by repeat (first | (with_reducible first | exact HB.out | apply below_alloc | apply pw_below_drewN | apply below_drew1) | exact HB.out)) hb); clear HB; have HB := n0_; clear n0_; (try clear hb); (try clear hb2); (try clear hk); (try clear hi)) | ((with_reducible refine gate_callee (f := 14) rfl ?_); refine goesL_ (some 8) rfl rfl Try.func14 (by kernel_rfl) rfl #[.int .i64 a0] rfl (by (try simp only [List.map_toArray, List.map_cons, List.map_nil]); first | done | rfl | (simp only [List.length_drop, List.length_take]; rfl)) ?_; (with_reducible refine (mode_Good.calls a0 t141 _ A5.out).mono ?_); rintro e w' ⟨rfl, ⟨nd, rfl⟩⟩; refine ⟨_, rfl, ?_⟩) | ((with_reducible refine gate_callee (f := 8) rfl ?_); refine goesL_ (some 10) rfl rfl Try.func8 (by kernel_rfl) rfl #[.int .i64 a0] rfl (by (try simp only [List.map_toArray, List.map_cons, List.map_nil]); first | done | rfl | (simp only [List.length_drop, List.length_take]; rfl)) ?_; (with_reducible refine (padlockref14_Good.calls a0 t142 _ A6.out).mono ?_); rintro e w' ⟨rfl, ⟨nd, rfl⟩⟩; refine ⟨_, rfl, ?_⟩) | (go_at_call 9; (with_reducible refine (mode_Join.calls k a0 a1 t143 _ A8.out).mono ?_); rintro e w52 ⟨rfl, hb⟩; have n0_ := Aside0.mk (below_step (by repeat (first | (with_reducible first | exact HB.out | apply below_alloc | apply pw_below_drewN | apply below_drew1) | exact HB.out)) hb); clear HB; have HB := n0_; clear n0_; (try clear hb); (try clear hb2); (try clear hk); (try clear hi)) | (go_at_call 15; (with_reducible refine (padlockref14_Join.calls k a0 a1 t144 _ A9.out).mono ?_); rintro e w53 ⟨rfl, hb⟩; have n0_ := Aside0.mk (below_step (by repeat (first | (with_reducible first | exact HB.out | apply below_alloc | apply pw_below_drewN | apply below_drew1) | exact HB.out)) hb); clear HB; have HB := n0_; clear n0_; (try clear hb); (try clear hb2); (try clear hk); (try clear hi)))
        go_ret
        exact ⟨by first | rfl | (simp [errW_none, errW_some] <;> rfl) | (simp [*, errW_none, errW_some] <;> rfl), by repeat (first | (with_reducible first | exact HB.out | apply below_alloc | apply pw_below_drewN | apply below_drew1) | exact HB.out)⟩
    · rw [if_neg c7] at H
      have c7b0 : (t141 == t142) = false := by simpa using c7
      (try (have c7b1 : decide (t141 = t142) = false := by simpa using c7))
      (try (have c7b2 : (t141 == t142) = false := by simpa using c7))
      (try (have c7b3 : ¬ (t141 = t142) := by simpa using c7))
      clear c7
      obtain rfl := Option.some.inj H
      go_enter Try.func6, Try.ntmps6
      go_wp2_with (first | ((with_reducible refine gate_callee (f := 7) rfl ?_); refine goesL_ (some 5) rfl rfl Try.func7 (by kernel_rfl) rfl #[] rfl (by (try simp only [List.map_toArray, List.map_cons, List.map_nil]); first | done | rfl | (simp only [List.length_drop, List.length_take]; rfl)) ?_; (with_reducible refine (padlocklaw14_alive.calls k  true _ A3.out).mono ?_); rintro e w54 ⟨rfl, hb⟩; refine ⟨_, rfl, ?_⟩; have n0_ := Aside0.mk (below_step (by repeat (first | (with_reducible first | exact HB.out | apply below_alloc | apply pw_below_drewN | apply below_drew1) | exact HB.out)) hb); clear HB; have HB := n0_; clear n0_; (try clear hb); (try clear hb2); (try clear hk); (try clear hi)) | ((with_reducible refine gate_callee (f := 14) rfl ?_); refine goesL_ (some 8) rfl rfl Try.func14 (by kernel_rfl) rfl #[.int .i64 a0] rfl (by (try simp only [List.map_toArray, List.map_cons, List.map_nil]); first | done | rfl | (simp only [List.length_drop, List.length_take]; rfl)) ?_; (with_reducible refine (mode_Good.calls a0 t141 _ A5.out).mono ?_); rintro e w' ⟨rfl, ⟨nd, rfl⟩⟩; refine ⟨_, rfl, ?_⟩) | ((with_reducible refine gate_callee (f := 8) rfl ?_); refine goesL_ (some 10) rfl rfl Try.func8 (by kernel_rfl) rfl #[.int .i64 a0] rfl (by (try simp only [List.map_toArray, List.map_cons, List.map_nil]); first | done | rfl | (simp only [List.length_drop, List.length_take]; rfl)) ?_; (with_reducible refine (padlockref14_Good.calls a0 t142 _ A6.out).mono ?_); rintro e w' ⟨rfl, ⟨nd, rfl⟩⟩; refine ⟨_, rfl, ?_⟩))
      go_ret
      exact ⟨by first | rfl | (simp [errW_none, errW_some] <;> rfl) | (simp [*, errW_none, errW_some] <;> rfl), by repeat (first | (with_reducible first | exact HB.out | apply below_alloc | apply pw_below_drewN | apply below_drew1) | exact HB.out)⟩
  · replace c4 := Bool.eq_false_iff.mpr c4
    subst c4
    have H1 : (some false) = some r := by rw [if_neg (show ¬ (false = true) by decide)] at H; exact H
    clear H
    have H := H1
    clear H1
    obtain rfl := Option.some.inj H
    go_enter Try.func6, Try.ntmps6
    go_wp2_with (first | ((with_reducible refine gate_callee (f := 7) rfl ?_); refine goesL_ (some 5) rfl rfl Try.func7 (by kernel_rfl) rfl #[] rfl (by (try simp only [List.map_toArray, List.map_cons, List.map_nil]); first | done | rfl | (simp only [List.length_drop, List.length_take]; rfl)) ?_; (with_reducible refine (padlocklaw14_alive.calls k  false _ A3.out).mono ?_); rintro e w55 ⟨rfl, hb⟩; refine ⟨_, rfl, ?_⟩; have n0_ := Aside0.mk (below_step (by repeat (first | (with_reducible first | exact HB.out | apply below_alloc | apply pw_below_drewN | apply below_drew1) | exact HB.out)) hb); clear HB; have HB := n0_; clear n0_; (try clear hb); (try clear hb2); (try clear hk); (try clear hi)))
    go_ret
    exact ⟨by first | rfl | (simp [errW_none, errW_some] <;> rfl) | (simp [*, errW_none, errW_some] <;> rfl), by repeat (first | (with_reducible first | exact HB.out | apply below_alloc | apply pw_below_drewN | apply below_drew1) | exact HB.out)⟩

/-- THE ONE PURE STATEMENT of padlocklaw14_ModeIs: yours. -/
def padlocklaw14_ModeIs.Pure : Prop := ∀ (a0 : Int) (a1 : Int), (Lit.int .i64 a0).wf = true → (Lit.int .i64 a1).wf = true → ∃ k, padlocklaw14_ModeIs.f k a0 a1 = some true
theorem padlocklaw14_ModeIs.walk (P : padlocklaw14_ModeIs.Pure) (a0 : Int) (a1 : Int) (w : World) (w0 : (Lit.int .i64 a0).wf = true) (w1 : (Lit.int .i64 a1).wf = true) :
    Calls Try.prog 6 #[.int .i64 a0, .int .i64 a1] w fun e w' => e = .returned (.bool true) ∧ Below w.heap.size w w' := by
  obtain ⟨k, h⟩ := P a0 a1 w0 w1
  refine (padlocklaw14_ModeIs.calls k a0 a1 true w h).mono ?_
  rintro e w' ⟨rfl, hd⟩
  exact ⟨rfl, hd⟩

end Go.Proofs.Ythibbgmmfdlbeaa.PModeIs
