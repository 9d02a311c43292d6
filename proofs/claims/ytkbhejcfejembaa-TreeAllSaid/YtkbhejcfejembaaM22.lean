/- The abstract machine: append, as the model runs it. No condition. -/
import Derived.Test.YtkbhejcfejembaaM7
import Derived.Laws.Append
set_option linter.all false
set_option linter.unusedVariables false
namespace Go.AM
open Go Go.RowKit

section
variable {P : Program} {w : World}

set_option maxHeartbeats 2000000 in
theorem run_append_grow {t u ty e : TypeId} {d : TypeDesc} (hu : P.underlying t = some (.slice e)) (hu2 : P.underlying u = some d) (hd : ∀ k, d ≠ .int k) {base : Option Addr} {len cap n : Nat} {x : Value} {old new : Array Value} {ie : TypeInfo} {z : Value}
    (hie : P.info? e = some ie) (hz : ie.zero = some z) (hb0 : ie.bytes ≠ 0) (hlen : (Builtin.lenOf x).run P w = .ok n w) (hgrow : cap < len + n) (hbytes : (len + n) * ie.bytes ≤ 140737488355328)
    (h1 : (Builtin.firstCells ie.size len (.slice base len cap)).run P w.drew = .ok old w.drew) (h2 : (Builtin.firstCells ie.size n x).run P w.drew = .ok new w.drew) :
    ∃ newCap, len + n ≤ newCap ∧ (Builtin.append_ #[t, u] ty #[.slice base len cap, x]).run P w =
      .ok (.slice (some ⟨w.heap.size, 0, none⟩) (len + n) newCap) (w.drew.alloc (.cells (old ++ new ++ Builtin.zeroCells z.cells (newCap - (len + n))) e)) := by
  have hfit := growslice_fits hgrow hbytes
  refine ⟨(Question.appendCap (len + n) cap e).cut (w.tape w.drawn (.appendCap (len + n) cap e)), ?_, ?_⟩
  · simp [Question.cut]
  · have hf : (Question.appendCap (len + n) cap e).forced = false := rfl
    have hn : ¬ (len + n ≤ cap) := by omega
    have hpos : 0 < ie.bytes := Nat.pos_of_ne_zero hb0
    have h63 : len + n ≤ 140737488355328 := Nat.le_trans (Nat.le_mul_of_pos_right _ hpos) hbytes
    have h63' : ¬ (9223372036854775807 < ((len : Int) + (n : Int))) := by omega
    have h48 : ¬ (281474976710656 < Builtin.nextslicecap (len + n) cap * ie.bytes) := by omega
    cases d <;> first
      | (rename_i k; exact absurd rfl (hd k))
      | (simp [Builtin.append_, run_underlying hu, run_underlying hu2, sizeOf, typeInfo, zeroValue, hie, hz, hlen, hn, h48, hb0, hf, h1, h2, newRow]; done)

set_option maxHeartbeats 2000000 in
theorem run_append_room {t u ty e : TypeId} {d : TypeDesc} (hu : P.underlying t = some (.slice e)) (hu2 : P.underlying u = some d) (hd : ∀ k, d ≠ .int k) {base : Option Addr} {len cap n : Nat} {x : Value} {new : Array Value} {ie : TypeInfo}
    (hie : P.info? e = some ie) (hlen : (Builtin.lenOf x).run P w = .ok n w) (hroom : len + n ≤ cap) (hnew : (Builtin.firstCells ie.size n x).run P w = .ok new w) (w' : World)
    (hst : (match base with | some a => storeCells (a.add (len * ie.size)) new.toList | none => pure ()).run P w = .ok () w') :
    (Builtin.append_ #[t, u] ty #[.slice base len cap, x]).run P w = .ok (.slice base (len + n) cap) w' := by
  cases base with
  | none =>
    simp at hst
    subst hst
    cases d <;> first
      | (rename_i k; exact absurd rfl (hd k))
      | (simp [Builtin.append_, run_underlying hu, run_underlying hu2, sizeOf, typeInfo, hie, hlen, hroom, hnew]; done)
  | some a =>
    simp at hst
    cases d <;> first
      | (rename_i k; exact absurd rfl (hd k))
      | (simp [Builtin.append_, run_underlying hu, run_underlying hu2, sizeOf, typeInfo, hie, hlen, hroom, hnew, hst]; done)

end
end Go.AM
