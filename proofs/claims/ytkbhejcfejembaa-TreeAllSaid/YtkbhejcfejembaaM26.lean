/- The abstract machine: words in which functions are told. No condition. -/
import Derived.Test.YtkbhejcfejembaaM25
set_option linter.all false
set_option linter.unusedVariables false
namespace Go.AM
open Go

def _root_.Go.Code.l : Code → Code
  | .seq a _ | .cond _ a _ | .block _ a | .loop a | .scope a | .rangeFunc _ _ a _ => a
  | c => c
def _root_.Go.Code.r : Code → Code
  | .seq _ b | .cond _ _ b | .rangeFunc _ _ _ b => b
  | c => c

def rBuild (places : List (Nat × Nat)) (z : List PV) (parts : List (Nat × PV)) : Option PV := (fillP (fun i => places.toArray[i]?) z parts).bind fun cs => some (.agg cs)
def rLit (sz : Nat) (z : List PV) (n : Nat) (parts : List (Nat × PV)) : Option (List PV × Nat) := (fillP (fun i => some (i * sz, sz)) (reps n z) parts).bind fun cs => (plainCs cs).bind fun ds => some (ds, sz)
def rBuildSlice (sz : Nat) (z : List PV) (n : Nat) (parts : List (Nat × PV)) : Option PV := (rLit sz z n parts).bind fun r => some (.sl (chunks r.2 n r.1) .full)
def rAppend (base : Nat) (z : List PV) (sz bytes : Nat) (s : PV) (ys : List (List PV)) (st : St) : Option (PV × St) := match s with
  | .rs h b off len sz' => (some z).bind fun _ => aAppendR base sz bytes (.rs h b off len sz') ys st
  | s => aAppend sz bytes s ys st
def rAppendM (h : Bool) (base : Nat) (z : List PV) (sz bytes : Nat) (s : PV) (ys : List (List PV)) (st : St) : Option (PV × St) := match s with
  | .rs h' b off len sz' => (some z).bind fun _ => aAppendR base sz bytes (.rs h' b off len sz') ys st
  | s => (some z).bind fun _ => aAppendM h sz bytes s ys st

theorem E_func' {L : Lib} {f : FuncId} {fn : Func} (hp : L.prim f = none) (hf : L.P.funcs[f]? = some fn) (args : List PV) (st : St) : E L (.func f) args st = match fn.body with
    | some c => evBody L (E L) itE f fn c args st
    | none => none := by
  cases hb : fn.body with
  | some c => exact E_func hp hf hb args st
  | none =>
    cases he : E L (.func f) args st with
    | none => rfl
    | some r =>
      obtain ⟨k, hk⟩ := limit_some he
      have := hk (k + 1) (by omega)
      simp only [evF, hp, hf, hb] at this
      cases this

end Go.AM
