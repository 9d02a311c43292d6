/- Proved: Join answers the least mode that does no less than both, and what fits with a mode fits with each that does no more, for all numbers. No condition. -/
import Derived.Test.YthibbgmmfdlbeaaPModeJoinsx2
namespace Go.Proofs.Ythibbgmmfdlbeaa.Pure
open Go.RowKit Go.Proofs.Ythibbgmmfdlbeaa.PModeJoins Go.Proofs.YthibbgmmfdlbeaaW.PrintWords Go.Proofs.YthibbgmmfdlbeaaW.PrintLast

theorem ModeJoins_fin : ∀ a b c : Fin 5, padlocklaw14_ModeJoins.f 12 (a.val : Int) (b.val : Int) (c.val : Int) = some true := by decide +kernel

theorem ModeJoins_good {a : Int} (h : 0 ≤ a ∧ a ≤ 4) : ∃ x : Fin 5, (x.val : Int) = a := ⟨⟨a.toNat, by omega⟩, by simp; omega⟩

theorem ModeJoins_alive : padlocklaw14_alive.f 12 = some true := by decide +kernel

theorem ModeJoins_goodf (a : Int) : padlockref14_Good.f a = some (decide (0 ≤ a ∧ a ≤ 4)) := by
  unfold padlockref14_Good.f
  by_cases h : a ≥ 0
  · rw [if_pos h]; congr 1; simp; omega
  · rw [if_neg h]; congr 1; simp; omega

theorem ModeJoins : padlocklaw14_ModeJoins.Pure := by
  intro a b c _ _ _
  refine ⟨12, ?_⟩
  by_cases ha : 0 ≤ a ∧ a ≤ 4
  · by_cases hb : 0 ≤ b ∧ b ≤ 4
    · by_cases hc : 0 ≤ c ∧ c ≤ 4
      · obtain ⟨x, rfl⟩ := ModeJoins_good ha
        obtain ⟨y, rfl⟩ := ModeJoins_good hb
        obtain ⟨z, rfl⟩ := ModeJoins_good hc
        exact ModeJoins_fin x y z
      · unfold padlocklaw14_ModeJoins.f
        rw [ModeJoins_alive, ModeJoins_goodf, ModeJoins_goodf, ModeJoins_goodf]
        simp [ha, hb, hc, padlocklaw14_ModeJoins.j0]
    · unfold padlocklaw14_ModeJoins.f
      rw [ModeJoins_alive, ModeJoins_goodf, ModeJoins_goodf]
      simp [ha, hb, padlocklaw14_ModeJoins.j0]
  · unfold padlocklaw14_ModeJoins.f
    rw [ModeJoins_alive, ModeJoins_goodf]
    simp [ha, padlocklaw14_ModeJoins.j0]

end Go.Proofs.Ythibbgmmfdlbeaa.Pure
