/- Proved: a mode of all that covers a part, and what fits, go together, for all numbers. No condition. -/
import Derived.Test.YthibbgmmfdlbeaaPModeAbovex2
namespace Go.Proofs.Ythibbgmmfdlbeaa.Pure
open Go.RowKit Go.Proofs.Ythibbgmmfdlbeaa.PModeAbove Go.Proofs.YthibbgmmfdlbeaaW.PrintWords Go.Proofs.YthibbgmmfdlbeaaW.PrintLast

theorem ModeAbove_fin : ∀ a b c : Fin 5, padlocklaw14_ModeAbove.f 12 (a.val : Int) (b.val : Int) (c.val : Int) = some true := by decide +kernel

theorem ModeAbove_good {a : Int} (h : 0 ≤ a ∧ a ≤ 4) : ∃ x : Fin 5, (x.val : Int) = a := ⟨⟨a.toNat, by omega⟩, by simp; omega⟩

theorem ModeAbove_alive : padlocklaw14_alive.f 12 = some true := by decide +kernel

theorem ModeAbove_goodf (a : Int) : padlockref14_Good.f a = some (decide (0 ≤ a ∧ a ≤ 4)) := by
  unfold padlockref14_Good.f
  by_cases h : a ≥ 0
  · rw [if_pos h]; congr 1; simp; omega
  · rw [if_neg h]; congr 1; simp; omega

theorem ModeAbove : padlocklaw14_ModeAbove.Pure := by
  intro a b c _ _ _
  refine ⟨12, ?_⟩
  by_cases ha : 0 ≤ a ∧ a ≤ 4
  · by_cases hb : 0 ≤ b ∧ b ≤ 4
    · by_cases hc : 0 ≤ c ∧ c ≤ 4
      · obtain ⟨x, rfl⟩ := ModeAbove_good ha
        obtain ⟨y, rfl⟩ := ModeAbove_good hb
        obtain ⟨z, rfl⟩ := ModeAbove_good hc
        exact ModeAbove_fin x y z
      · unfold padlocklaw14_ModeAbove.f
        rw [ModeAbove_alive, ModeAbove_goodf, ModeAbove_goodf, ModeAbove_goodf]
        simp [ha, hb, hc, padlocklaw14_ModeAbove.j0]
    · unfold padlocklaw14_ModeAbove.f
      rw [ModeAbove_alive, ModeAbove_goodf, ModeAbove_goodf]
      simp [ha, hb, padlocklaw14_ModeAbove.j0]
  · unfold padlocklaw14_ModeAbove.f
    rw [ModeAbove_alive, ModeAbove_goodf]
    simp [ha, padlocklaw14_ModeAbove.j0]

end Go.Proofs.Ythibbgmmfdlbeaa.Pure
