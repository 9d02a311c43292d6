/- The abstract machine: append. No condition. -/
import Derived.Test.YtkbhejcfejembaaM10
import Derived.Test.YtkbhejcfejembaaM22
set_option linter.all false
set_option linter.unusedVariables false
namespace Go.AM
open Go Go.RowKit

section
variable {P : Program} {w : World} {C : Ctx} {st : St} {bs : List (Nat × Nat × Nat)}

theorem byT_some {t : TypeId} (h : byT P t ≠ 0) : ∃ i z, P.info? t = some i ∧ i.zero = some z ∧ z.cells.size = szT P t ∧ byT P t = i.bytes := by
  cases hi : P.info? t with
  | none => exact absurd (by simp [byT, hi]) h
  | some i =>
    cases hz : i.zero with
    | none => exact absurd (by simp [byT, hi, hz]) h
    | some z =>
      cases hb : Nat.beq z.cells.size i.size with
      | false => exact absurd (by simp only [byT, hi, hz, hb, cond_false]) h
      | true => exact ⟨i, z, rfl, hz, by rw [szT_eq hi]; exact Nat.eq_of_beq_eq_true hb, by simp only [byT, hi, hz, hb, cond_true]⟩

/-- The new row, and its room. -/
theorem grown (H : Sim w C st bs) {st' : St} {h : Ow} {t e s sz need cap : Nat} {elem : TypeId} (arr : Array Value) (hg : Goes st st' h t e s) (hs : sz = s) (hcap : arr.size = cap * sz) (hneed : need ≤ cap)
    (hgo : ∀ B' f' to' e' s', C.tl h t = some (B', f', to', e', s') → s' = s ∧ e' < e) :
    ∃ C', Sim { w with heap := w.heap.push (.cells arr elem (0, 0)) } C' st' bs ∧ Ext w C { w with heap := w.heap.push (.cells arr elem (0, 0)) } C' ∧ (∀ o, o < need * sz → C'.S w.heap.size o) ∧
      CapRep C' (some ⟨w.heap.size, 0, none⟩) need cap sz (.own h t e) := by
  obtain ⟨h1, h2⟩ := H.alloc (.cells arr elem (0, 0))
  have hσ : ∀ a b, C.σ a b ≠ some w.heap.size := fun a b q => by have := H.σlt q; omega
  obtain ⟨g1, g2⟩ := h1.claim (st' := st') (X := fun B o => B = w.heap.size ∧ o < need * sz) (o := h) (t := t) (B := w.heap.size) (f := need * sz) (to := cap * sz) (e := e) (s := s)
    hg.blk hg.tok hg.stk hg.tk hg.lp (by rintro B o ⟨rfl, _⟩; exact ⟨by simp, fun a b cs q _ => absurd q (hσ a b)⟩)
    (fun o a b => ⟨⟨fun q => by have := H.Sok _ _ q; omega, ⟨hσ, H.low.1⟩, arr, elem, (0, 0), by simp, by omega, by simp [notFrozen]⟩, fun q => by omega⟩)
    (fun h' t' B' f' to' e' s' x q o a b => by
      have := H.tail_lt x a b
      exact ⟨fun z => by omega, fun z => by omega⟩)
    (fun B' f' to' e' s' x => by
      obtain ⟨q1, q2⟩ := hgo B' f' to' e' s' x
      exact ⟨q1, Nat.le_of_lt q2, fun q => by omega⟩)
  refine ⟨_, g1, h2.trans g2, fun o ho => Or.inr ⟨rfl, ho⟩, ?_⟩
  refine ⟨w.heap.size, need * sz, cap * sz, e, s, by simp [Ctx.claim], Nat.le_refl _, fun _ => ⟨hs.symm, Or.inr ⟨0, rfl, by omega, by omega⟩⟩⟩

theorem rep_append {w : World} {C : Ctx} {B o sz cap : Nat} {es ys : List (List PV)} {c : Cap} {f : Nat → Value} (hok1 : okSz sz es = true) (hok2 : okSz sz ys = true) (hle : es.length + ys.length ≤ cap)
    (hS : ∀ k, k < (es.length + ys.length) * sz → C.S B (o + k)) (hcell : ∀ k, k < (es.length + ys.length) * sz → w.cell? ⟨B, o + k, none⟩ = some (f k))
    (hold : ∀ (i : Nat) (e : List PV) (j : Nat) (p : PV), es[i]? = some e → e[j]? = some p → (f (i * sz + j)).oneCell' = true ∧ Rep w C.fz (f (i * sz + j)) p)
    (hnew : ∀ (i : Nat) (e : List PV) (j : Nat) (p : PV), ys[i]? = some e → e[j]? = some p → (f (es.length * sz + (i * sz + j))).oneCell' = true ∧ Rep w C.fz (f (es.length * sz + (i * sz + j))) p)
    (hcap : CapRep C (some ⟨B, o, none⟩) (es.length + ys.length) cap sz c) : Rep w C (.slice (some ⟨B, o, none⟩) (es.length + ys.length) cap) (.sl (es ++ ys) c) := by
  have hsz : ∀ (i : Nat) (e : List PV), (es ++ ys)[i]? = some e → e.length = sz := by
    intro i e he
    rw [List.getElem?_append] at he
    split at he
    · exact okSz_get hok1 he
    · exact okSz_get hok2 he
  have hlt : ∀ (i : Nat) (e : List PV) (j : Nat) (p : PV), (es ++ ys)[i]? = some e → e[j]? = some p → i * sz + j < (es.length + ys.length) * sz := by
    intro i e j p he hp
    have hi := (List.getElem?_eq_some_iff.1 he).1
    have hj := (List.getElem?_eq_some_iff.1 hp).1
    rw [hsz i e he] at hj
    rw [List.length_append] at hi
    have : (i + 1) * sz ≤ (es.length + ys.length) * sz := Nat.mul_le_mul_right _ hi
    rw [Nat.succ_mul] at this
    omega
  have hrep : ∀ (i : Nat) (e : List PV) (j : Nat) (p : PV), (es ++ ys)[i]? = some e → e[j]? = some p → (f (i * sz + j)).oneCell' = true ∧ Rep w C.fz (f (i * sz + j)) p := by
    intro i e j p he hp
    rw [List.getElem?_append] at he
    split at he
    · exact hold i e j p he hp
    · rename_i hge
      have := hnew (i - es.length) e j p he hp
      have q : es.length * sz + ((i - es.length) * sz + j) = i * sz + j := by
        rw [Nat.sub_mul]
        have : es.length * sz ≤ i * sz := Nat.mul_le_mul_right _ (by omega)
        omega
      rw [q] at this
      exact this
  refine .sl sz (fun i j => f (i * sz + j)) (by simp) hle hsz (fun i e j p he hp => ?_) (fun i e j p he hp => ?_) (fun i e j p he hp => (hrep i e j p he hp).1) (fun i e j p he hp => (hrep i e j p he hp).2) hcap
  · rw [Nat.add_assoc]; exact hS _ (hlt i e j p he hp)
  · rw [Nat.add_assoc]; exact hcell _ (hlt i e j p he hp)

end
end Go.AM
