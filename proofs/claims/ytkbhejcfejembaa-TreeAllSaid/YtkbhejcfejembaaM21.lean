/- The abstract machine: a law's call: from what the evaluator answers to what the row asks. No condition. -/
import Derived.Test.YtkbhejcfejembaaM20
import GoSem.ClaimWide
set_option linter.all false
set_option linter.unusedVariables false
namespace Go.AM
open Go Go.RowKit

/-- At a call's start: all memory stays, and nothing is told of it. -/
def ctx0 (w : World) : Ctx := ⟨fun B _ => B < w.heap.size, fun _ _ => none, fun _ _ => none, fun _ => none, w.heap.size⟩
def st0 : St := ⟨[], [], [], []⟩

theorem sim0 (w : World) : Sim w (ctx0 w) st0 [] := by
  refine ⟨?_, ?_, ?_, fun B o h => h, ?_, ?_, ?_, ?_, ⟨Nat.le_refl _, ?_, ?_⟩, ?_, ?_, ?_⟩
  · intro h b cs x; cases h <;> simp [St.blk, St.bk, st0] at x
  · intro h b B x; cases x
  · intro h b h' b' B x; cases x
  · intro o t B f to e s x; cases x
  · intro o t e s x
    cases o with
    | fr => simp [St.tok, st0] at x
    | bl h b => cases h <;> simp [St.tok, St.bk, st0] at x
  · intro h t h' t' B f to e s f' to' e' s' x; cases x
  · intro m t l x; cases x
  · intro h b B x; cases x
  · intro i B x; cases x
  · intro i r x; simp [st0] at x
  · intro i B x; cases x
  · intro i i' B x; cases x

theorem law_calls {L : Lib} (ok : LibOk L) {k f : Nat} {args : List PV} {b : Bool} {st' : St} (h : evF L k (.func f) args st0 = some (.v (.bool b), st')) {w : World} {xs : Array Value} (hs : xs.size = args.length)
    (hr : ∀ (i : Nat) (x : Value) (p : PV), xs[i]? = some x → args[i]? = some p → Rep w (ctx0 w) x p) :
    Calls L.P f xs w fun e w' => e = .returned (.bool b) ∧ Below w.heap.size w w' := by
  obtain ⟨_, g⟩ := evF_good ok k (.func f) args st0 _ h
  refine (g w (ctx0 w) [] xs (sim0 w) hs hr).mono ?_
  rintro e w' ⟨v, C', rfl, h1, h2, h3⟩
  cases h3
  exact ⟨rfl, h2.below⟩

theorem rep_int (w : World) (C : Ctx) (k : IntKind) (n : Int) : Rep w C (.int k n) (.v (.int k n)) := .v rfl
theorem rep_bool (w : World) (C : Ctx) (b : Bool) : Rep w C (.bool b) (.v (.bool b)) := .v rfl
theorem rep_str (w : World) (C : Ctx) (s : ByteArray) : Rep w C (.string s) (.v (.string s)) := .v rfl

/-- What a slice that came in is, as far as its address goes. -/
theorem okWide_addr {P : Program} {w : World} {base : Nat} {t e : TypeId} {a : Addr} {len cap : Nat} (ht : P.underlying t = some (.slice e)) (h : Value.okWide P w .any base t (.slice (some a) len cap)) :
    a.spot = none ∧ a.block < w.heap.size ∧ len ≤ cap := by
  simp only [Value.okWide, ht, Cell.okWide, Cell.ok] at h
  obtain ⟨h1, _, _, h3, row, cells, h4, _⟩ := h
  refine ⟨h3, ?_, h1⟩
  unfold World.shape? at h4
  cases hb : w.heap[a.block]? with
  | none => rw [hb] at h4; cases h4
  | some o => exact (Array.getElem?_eq_some_iff.1 hb).1

def intsPV (k : IntKind) (zs : List Int) : PV := .sl (zs.map fun z => [.v (.int k z)]) .dead

theorem rep_ints {P : Program} {w : World} {base : Nat} {t e : TypeId} {k : IntKind} {a : Option Addr} {len cap : Nat} {zs : List Int} (ht : P.underlying t = some (.slice e)) (hv : Value.okWide P w .any base t (.slice a len cap))
    (h : (a = none ∧ len = 0 ∧ cap = 0 ∧ zs = []) ∨ ∃ x, a = some x ∧ len ≤ cap ∧ zs.length = cap ∧ ∀ i, i < zs.length → w.cell? (x.add i) = some (.int k (zs.getD i 0))) :
    Rep w (ctx0 w) (.slice a len cap) (intsPV k (zs.take len)) := by
  rcases h with ⟨rfl, rfl, rfl, rfl⟩ | ⟨x, rfl, h1, h2, h3⟩
  · exact .slnil trivial
  · obtain ⟨a1, a2, a3⟩ := okWide_addr ht hv
    obtain ⟨B, o, s⟩ := x
    simp only at a1 a2
    subst a1
    have hget : ∀ (i : Nat) (es : List PV), ((zs.take len).map fun z => [PV.v (.int k z)])[i]? = some es → i < zs.length ∧ es = [.v (.int k (zs.getD i 0))] := by
      intro i es hi
      obtain ⟨z, hz, rfl⟩ := getElem?_map_some hi
      rw [List.getElem?_take] at hz
      split at hz
      · refine ⟨(List.getElem?_eq_some_iff.1 hz).1, ?_⟩
        simp [List.getD, hz]
      · cases hz
    refine .sl 1 (fun i _ => .int k (zs.getD i 0)) ?_ h1 (fun i es hi => ?_) (fun i es j p hi hp => a2) (fun i es j p hi hp => ?_) (fun i es j p hi hp => rfl) (fun i es j p hi hp => ?_) trivial
    · simp; omega
    · rw [(hget i es hi).2]; rfl
    · obtain ⟨q1, rfl⟩ := hget i es hi
      have hj : j = 0 := by cases j with | zero => rfl | succ j => simp at hp
      subst hj
      have := h3 i q1
      rw [add_mk] at this
      rw [Nat.mul_one, Nat.add_zero]
      exact this
    · obtain ⟨q1, rfl⟩ := hget i es hi
      cases j with
      | zero => simp at hp; subst hp; exact .v rfl
      | succ j => simp at hp

end Go.AM
