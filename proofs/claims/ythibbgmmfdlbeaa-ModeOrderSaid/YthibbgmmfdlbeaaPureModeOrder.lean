/- Proved: to do no more is an order of the modes, for all numbers. No condition. -/
import Derived.Test.YthibbgmmfdlbeaaPModeOrderx2
namespace Go.Proofs.Ythibbgmmfdlbeaa.Pure
open Go.RowKit Go.Proofs.Ythibbgmmfdlbeaa.PModeOrder Go.Proofs.YthibbgmmfdlbeaaW.PrintWords Go.Proofs.YthibbgmmfdlbeaaW.PrintLast

theorem ModeOrder_fin : ∀ a b c : Fin 5, padlocklaw14_ModeOrder.f 12 (a.val : Int) (b.val : Int) (c.val : Int) = some true := by decide +kernel

theorem ModeOrder_good {a : Int} (h : 0 ≤ a ∧ a ≤ 4) : ∃ x : Fin 5, (x.val : Int) = a := ⟨⟨a.toNat, by omega⟩, by simp; omega⟩

theorem ModeOrder_alive : padlocklaw14_alive.f 12 = some true := by decide +kernel

theorem ModeOrder_goodf (a : Int) : padlockref14_Good.f a = some (decide (0 ≤ a ∧ a ≤ 4)) := by
  unfold padlockref14_Good.f
  by_cases h : a ≥ 0
  · rw [if_pos h]; congr 1; simp; omega
  · rw [if_neg h]; congr 1; simp; omega

theorem ModeOrder : padlocklaw14_ModeOrder.Pure := by
  intro a b c _ _ _
  refine ⟨12, ?_⟩
  by_cases ha : 0 ≤ a ∧ a ≤ 4
  · by_cases hb : 0 ≤ b ∧ b ≤ 4
    · by_cases hc : 0 ≤ c ∧ c ≤ 4
      · obtain ⟨x, rfl⟩ := ModeOrder_good ha
        obtain ⟨y, rfl⟩ := ModeOrder_good hb
        obtain ⟨z, rfl⟩ := ModeOrder_good hc
        exact ModeOrder_fin x y z
      · unfold padlocklaw14_ModeOrder.f
        rw [ModeOrder_alive, ModeOrder_goodf, ModeOrder_goodf, ModeOrder_goodf]
        simp [ha, hb, hc, padlocklaw14_ModeOrder.j0]
    · unfold padlocklaw14_ModeOrder.f
      rw [ModeOrder_alive, ModeOrder_goodf, ModeOrder_goodf]
      simp [ha, hb, padlocklaw14_ModeOrder.j0]
  · unfold padlocklaw14_ModeOrder.f
    rw [ModeOrder_alive, ModeOrder_goodf]
    simp [ha, padlocklaw14_ModeOrder.j0]

end Go.Proofs.Ythibbgmmfdlbeaa.Pure
