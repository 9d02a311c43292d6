/- Proved: all calls of the layer mode answer what the document says, for all numbers. No condition. -/
import Derived.Test.YthibbgmmfdlbeaaOwnModeIs
namespace Go.Proofs.Ythibbgmmfdlbeaa.Pure
open Go.RowKit Go.Proofs.Ythibbgmmfdlbeaa.PModeIs Go.Proofs.YthibbgmmfdlbeaaW.PrintWords Go.Proofs.YthibbgmmfdlbeaaW.PrintLast

theorem ModeIs_fin : ∀ a b : Fin 5, padlocklaw14_ModeIs.f 80 (a.val : Int) (b.val : Int) = some true := by decide +kernel

theorem ModeIs_good {a : Int} (h : 0 ≤ a ∧ a ≤ 4) : ∃ x : Fin 5, (x.val : Int) = a := ⟨⟨a.toNat, by omega⟩, by simp; omega⟩

theorem ModeIs_alive : padlocklaw14_alive.f 80 = some true := by decide +kernel

theorem ModeIs_goodf (a : Int) : padlockref14_Good.f a = some (decide (0 ≤ a ∧ a ≤ 4)) := by
  unfold padlockref14_Good.f
  by_cases h : a ≥ 0
  · rw [if_pos h]; congr 1; simp; omega
  · rw [if_neg h]; congr 1; simp; omega

theorem ModeIs_goodm (a : Int) : mode_Good.f a = some (decide (0 ≤ a ∧ a ≤ 4)) := by
  unfold mode_Good.f
  by_cases h : a ≥ 0
  · rw [if_pos h]; congr 1; simp; omega
  · rw [if_neg h]; congr 1; simp; omega

theorem ModeIs_bad (a b : Int) (h : ¬ ((0 ≤ a ∧ a ≤ 4) ∧ (0 ≤ b ∧ b ≤ 4))) (k : Nat) :
    mode_Join.f (k + 1) a b = some 4 ∧ padlockref14_Join.f (k + 1) a b = some 4 ∧ mode_Fits.f (k + 1) a b = some false ∧ padlockref14_Fits.f a b = some false ∧
    mode_Covers.f (k + 1) a b = some false ∧ padlockref14_Covers.f a b = some false := by
  unfold mode_Join.f padlockref14_Join.f mode_Fits.f padlockref14_Fits.f mode_Covers.f padlockref14_Covers.f
  simp only [ModeIs_goodf, ModeIs_goodm, Option.bind_some]
  by_cases ha : 0 ≤ a ∧ a ≤ 4
  · have hb : ¬ (0 ≤ b ∧ b ≤ 4) := fun x => h ⟨ha, x⟩
    simp [ha, hb, mode_Join.j0, padlockref14_Join.j0, mode_Fits.j0, mode_Covers.j0]
  · simp [ha, mode_Join.j0, padlockref14_Join.j0, mode_Fits.j0, mode_Covers.j0]

theorem ModeIs_above : ∀ a : Fin 5, mode_Above.f 80 (a.val : Int) = padlockref14_Above.f (a.val : Int) ∧ (padlockref14_Above.f (a.val : Int)).isSome := by decide +kernel

theorem ModeIs_aboveb (a : Int) (h : ¬ (0 ≤ a ∧ a ≤ 4)) : mode_Above.f 80 a = some 2 ∧ padlockref14_Above.f a = some 2 := by
  have h1 : ¬ a = 1 := by omega
  have h3 : ¬ a = 3 := by omega
  have h0 : ¬ a = 0 := by omega
  unfold mode_Above.f padlockref14_Above.f
  rw [ModeIs_goodf]
  simp [h, h1, h3, h0, mode_Above.j0]

theorem ModeIs : padlocklaw14_ModeIs.Pure := by
  intro a b _ _
  refine ⟨80, ?_⟩
  by_cases hab : (0 ≤ a ∧ a ≤ 4) ∧ (0 ≤ b ∧ b ≤ 4)
  · obtain ⟨x, rfl⟩ := ModeIs_good hab.1
    obtain ⟨y, rfl⟩ := ModeIs_good hab.2
    exact ModeIs_fin x y
  · obtain ⟨j1, j2, f1, f2, c1, c2⟩ := ModeIs_bad a b hab 79
    have hA : ∃ v, mode_Above.f 80 a = some v ∧ padlockref14_Above.f a = some v := by
      by_cases ha : 0 ≤ a ∧ a ≤ 4
      · obtain ⟨x, rfl⟩ := ModeIs_good ha
        obtain ⟨e, s⟩ := ModeIs_above x
        obtain ⟨v, hv⟩ := Option.isSome_iff_exists.mp s
        exact ⟨v, by rw [e, hv], hv⟩
      · exact ⟨2, ModeIs_aboveb a ha⟩
    obtain ⟨v, v1, v2⟩ := hA
    unfold padlocklaw14_ModeIs.f mode_Least.f
    rw [ModeIs_alive, ModeIs_goodf, ModeIs_goodm, j1, j2, f1, f2, c1, c2, v1, v2]
    simp

end Go.Proofs.Ythibbgmmfdlbeaa.Pure
