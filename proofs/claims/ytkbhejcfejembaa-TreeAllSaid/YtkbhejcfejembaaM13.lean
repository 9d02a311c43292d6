/- The abstract machine: one operation, whatever it is: what the evaluator answers, the model's run does. No condition. -/
import Derived.Test.YtkbhejcfejembaaM12
import Derived.Test.YtkbhejcfejembaaM2
import Derived.RangeFuncIn
set_option linter.all false
set_option linter.unusedVariables false
namespace Go.AM
open Go

/-- No fence at all; a round's frame, if one is told. -/
def fen (rd : Option Nat) : Fence := { Fence.wide with round := rd }
theorem fen_room (rd : Option Nat) (n : Nat) : (fen rd).room n := fun _ h => by simp [fen, Fence.wide] at h
theorem callsIn_fen {rd : Option Nat} {n : Nat} {P : Program} {f : FuncId} {args : Array Value} {w : World} {R : Ending → World → Prop} (h : Calls P f args w R) : CallsIn (fen rd) n P f args w R := by
  have := callsIn_wide (n := n).2 h
  exact this
theorem fen_callsIn {rd : Option Nat} {n : Nat} {P : Program} {f : FuncId} {args : Array Value} {w : World} {R : Ending → World → Prop} (h : CallsIn (fen rd) n P f args w R) : Calls P f args w R := by
  have : CallsIn Fence.wide n P f args w R := h
  exact callsIn_wide.1 this
theorem roundIn_fen {rd rd' : Option Nat} {n n' : Nat} {P : Program} {l : Nat} {f : FuncId} {tmps : Array Value} {assign body : Code} {w : World} {R : Ending → World → Prop} (h : RoundIn (fen rd) n P l f tmps assign body w R) : RoundIn (fen rd') n' P l f tmps assign body w R :=
  ⟨trivial, fun c cs _ => h.2 c cs (fen_room _ _)⟩

/-- What holds behind a call. -/
def Post (r : PV × St) (bs : List (Nat × Nat × Nat)) (w : World) (C : Ctx) : Ending → World → Prop :=
  fun e w' => ∃ v C', e = .returned v ∧ Sim w' C' r.2 bs ∧ Ext w C w' C' ∧ Rep w' C' v r.1

/-- What is asked of the calls that an evaluator goes by. -/
def Good (P : Program) (call : CallF) : Prop := ∀ g args st r, call g args st = some r → match g with
  | .func f => (∃ fn, P.funcs[f]? = some fn ∧ (fn.name == "runtime.NumGoroutine") = false ∧ fn.body.isNone = false) ∧
      ∀ w C bs (xs : Array Value), Sim w C st bs → xs.size = args.length → (∀ (i : Nat) (x : Value) (p : PV), xs[i]? = some x → args[i]? = some p → Rep w C x p) → Calls P f xs w (Post r bs w C)
  | .yield i => ∀ w C bs (xs : Array Value) B, C.lp i = some B → Sim w C st bs → xs.size = args.length → (∀ (i : Nat) (x : Value) (p : PV), xs[i]? = some x → args[i]? = some p → Rep w C x p) →
      ∃ fn tmps assign body, (Instr.yield B xs).run P w = .ok (.round B fn tmps assign body) w ∧ RoundIn (fen none) 0 P B fn tmps assign body w (Post r bs w C)
  | _ => False

section
variable {Cf : Cfg} {rd : Option Nat} {lo : Nat} {w : World} {C : Ctx} {st : St} {bs : List (Nat × Nat × Nat)} {o : Oper} {e : Env} {a : Act} {next : Act → World → Prop} {Q : Exit → Act → World → Prop}

theorem wp_of_run {P : Program} {w' : World} {v : Value} (hnd : ∀ c, o.op ≠ .defer c) (h : (execOp a.eval o).run P w = .ok (.value v) w') (hn : next (a.put o.dst v) w') : o.wpIn (fen rd) 0 P a w next Q := by
  refine ⟨fun _ _ => trivial, ?_⟩
  rw [Oper.semAt_eq _ _ _ hnd, h]
  exact hn
theorem wp_of_skip {P : Program} {w' : World} (hnd : ∀ c, o.op ≠ .defer c) (h : (execOp a.eval o).run P w = .ok .skip w') (hn : next (a.put o.dst undef) w') : o.wpIn (fen rd) 0 P a w next Q := by
  refine ⟨fun _ _ => trivial, ?_⟩
  rw [Oper.semAt_eq _ _ _ hnd, h]
  exact hn
theorem run_v {P : Program} {s : Sem Value} {v : Value} {w' : World} (h : s.run P w = .ok v w') : (do pure (Next.value (← s)) : Sem Next).run P w = .ok (.value v) w' := by
  simp [h]

theorem bind_run {R : Type} {x : Option PV} {K : PV → Option R} {r : R} (h : x.bind K = some r) : ∃ p, x = some p ∧ K p = some r := Option.bind_eq_some_iff.1 h

/-- The parts of a literal, one held against the other. -/
theorem parts_rep {ps : Array (Nat × Operand)} (hE : RelE lo w C e Cf.n a) : (ps.map fun (i, x) => (i, a.eval x)).size = (ps.toList.map fun p => (p.1, opnd e p.2)).length ∧
    ∀ (i : Nat) (v : Nat × Value) (q : Nat × PV), (ps.map fun (i, x) => (i, a.eval x))[i]? = some v → (ps.toList.map fun p => (p.1, opnd e p.2))[i]? = some q → v.1 = q.1 ∧ Rep w C v.2 q.2 := by
  refine ⟨by simp, fun i v q hv hq => ?_⟩
  rw [Array.getElem?_map] at hv
  obtain ⟨y, hy, rfl⟩ := Option.map_eq_some_iff.1 hv
  obtain ⟨z, hz, rfl⟩ := getElem?_map_some hq
  rw [Array.getElem?_toList, hy] at hz
  obtain rfl := Option.some.inj hz
  exact ⟨rfl, rep_opnd hE y.2⟩

theorem opt_rep (hE : RelE lo w C e Cf.n a) (x : Option Operand) : RepO w C (x.map a.eval) (x.map (opnd e)) := by
  cases x with
  | none => exact trivial
  | some y => exact rep_opnd hE y

theorem ops_rep (hE : RelE lo w C e Cf.n a) (xs : Array Operand) : (xs.map a.eval).size = (xs.toList.map (opnd e)).length ∧
    ∀ (i : Nat) (v : Value) (p : PV), (xs.map a.eval)[i]? = some v → (xs.toList.map (opnd e))[i]? = some p → Rep w C v p := by
  refine ⟨by simp, fun i v q hv hq => ?_⟩
  rw [Array.getElem?_map] at hv
  obtain ⟨y, hy, rfl⟩ := Option.map_eq_some_iff.1 hv
  obtain ⟨z, hz, rfl⟩ := getElem?_map_some hq
  rw [Array.getElem?_toList, hy] at hz
  obtain rfl := Option.some.inj hz
  exact rep_opnd hE y

theorem args_rep (hE : RelE lo w C e Cf.n a) (xs : Array Operand) : (xs.map a.eval).size = (argsOf (opnd e) xs).length ∧
    ∀ (i : Nat) (v : Value) (p : PV), (xs.map a.eval)[i]? = some v → (argsOf (opnd e) xs)[i]? = some p → Rep w C v p := by
  refine ⟨by simp [argsOf], fun i v q hv hq => ?_⟩
  rw [Array.getElem?_map] at hv
  obtain ⟨y, hy, rfl⟩ := Option.map_eq_some_iff.1 hv
  obtain ⟨z, hz, rfl⟩ := getElem?_map_some hq
  rw [Array.getElem?_toList, hy] at hz
  obtain rfl := Option.some.inj hz
  exact rep_canon (rep_opnd hE y)

theorem run_enter {P : Program} {f : FuncId} {fn : Func} {args : Array Value} (h : P.funcs[f]? = some fn) (hn : (fn.name == "runtime.NumGoroutine") = false) (hb : fn.body.isNone = false) (w : World) :
    (callFunc f args).run P w = .ok (.enter f args) w := by
  unfold callFunc
  simp only [Sem.run_bind, run_program, Result.andThen_ok, h]
  rw [if_neg (by rw [hn]; simp), if_neg (by rw [hb]; simp)]
  rfl

theorem one_arg (hE : RelE lo w C e Cf.n a) {xs : Array Operand} {x : PV} (hxs : xs.toList.map (fun x => opnd e x) = [x]) : ∃ y, xs.map a.eval = #[y] ∧ Rep w C y x := by
  obtain ⟨s1, s2⟩ := ops_rep hE xs
  rw [hxs] at s1 s2
  have : (xs.map a.eval).size = 1 := s1
  refine ⟨(xs.map a.eval)[0], ?_, s2 0 _ _ (Array.getElem?_eq_getElem (by omega)) rfl⟩
  apply Array.ext (by simp [this])
  intro i h1 h2
  have : i = 0 := by simp at h2; exact h2
  subst this; simp
theorem two_args (hE : RelE lo w C e Cf.n a) {xs : Array Operand} {x1 x2 : PV} (hxs : xs.toList.map (fun x => opnd e x) = [x1, x2]) : ∃ y1 y2, xs.map a.eval = #[y1, y2] ∧ Rep w C y1 x1 ∧ Rep w C y2 x2 := by
  obtain ⟨s1, s2⟩ := ops_rep hE xs
  rw [hxs] at s1 s2
  have hs : (xs.map a.eval).size = 2 := s1
  refine ⟨(xs.map a.eval)[0], (xs.map a.eval)[1], ?_, s2 0 _ _ (Array.getElem?_eq_getElem (by omega)) rfl, s2 1 _ _ (Array.getElem?_eq_getElem (by omega)) rfl⟩
  apply Array.ext (by simp [hs])
  intro i h1 h2
  have : i = 0 ∨ i = 1 := by simp at h2; omega
  rcases this with rfl | rfl <;> simp

theorem stepB_sound {R : Type} (hbase : ∀ m t l, (m, t, l) ∈ bs → m ≤ Cf.base) {b : Builtin} {c : Call} {m : Nat} {K : PV → St → Option R} {r : R} (hop : o.op = .call c) (hcal : c.callee = .builtin b) (H : Sim w C st bs) (hE : RelE lo w C e Cf.n a)
    (h : stepB Cf m b c.argTypes (c.args.toList.map fun x => opnd e x) st K = some r)
    (hK : ∀ p st' v w' C', K p st' = some r → Sim w' C' st' bs → Ext w C w' C' → Rep w' C' v p → next (a.put o.dst v) w') : o.wpIn (fen rd) 0 Cf.P a w next Q := by
  have hexec : ∀ s : Sem Next, (∀ consts, builtin b c.argTypes o.type consts (c.args.map a.eval) = s) → (execOp a.eval o).run Cf.P w = s.run Cf.P w := by
    intro s hs
    simp only [execOp, hop, resolve, hcal, Sem.run_bind, Sem.run_pure, Result.andThen_ok, invoke, hs]
  have hnd : ∀ c, o.op ≠ .defer c := fun c q => by rw [hop] at q; cases q
  have fin : ∀ {s : Sem Value} {p : PV} {st' : St}, K p st' = some r → (∀ consts, builtin b c.argTypes o.type consts (c.args.map a.eval) = (do pure (Next.value (← s)))) → Lays Cf.P w C bs s p st' → o.wpIn (fen rd) 0 Cf.P a w next Q := by
    intro s p st' hk hs hl
    obtain ⟨v, w', C', k1, k2, k3, k4⟩ := hl
    refine wp_of_run hnd ?_ (hK p st' v w' C' hk k2 k3 k4)
    rw [hexec _ hs]
    exact run_v k1
  unfold stepB at h
  split at h
  · -- len
    rename_i t x hats hxs
    have hat : c.argTypes = #[t] := by cases hc : c.argTypes; rw [hc] at hats; simp at hats; rw [hats]
    obtain ⟨y, hy, hrep⟩ := one_arg hE hxs
    obtain ⟨p, hp, h⟩ := bind_run h
    exact fin h (fun _ => by rw [hy, hat]; rfl) ((tells_len (ty := o.type) hp hrep).lays H)
  · -- cap
    rename_i t x hats hxs
    have hat : c.argTypes = #[t] := by cases hc : c.argTypes; rw [hc] at hats; simp at hats; rw [hats]
    obtain ⟨y, hy, hrep⟩ := one_arg hE hxs
    obtain ⟨p, hp, h⟩ := bind_run h
    exact fin h (fun _ => by rw [hy, hat]; rfl) ((tells_cap (ty := o.type) hp hrep).lays H)
  · -- max
    rename_i x1 x2 hxs
    obtain ⟨y1, y2, hy, hr1, hr2⟩ := two_args hE hxs
    obtain ⟨p, hp, h⟩ := bind_run h
    exact fin h (fun _ => by rw [hy]; rfl) ((tells_max (ats := c.argTypes) (ty := o.type) hp hr1 hr2).lays H)
  · -- min
    rename_i x1 x2 hxs
    obtain ⟨y1, y2, hy, hr1, hr2⟩ := two_args hE hxs
    obtain ⟨p, hp, h⟩ := bind_run h
    exact fin h (fun _ => by rw [hy]; rfl) ((tells_min (ats := c.argTypes) (ty := o.type) hp hr1 hr2).lays H)
  · -- append
    rename_i t u x1 x2 hats hxs
    have hat : c.argTypes = #[t, u] := by cases hc : c.argTypes; rw [hc] at hats; simp at hats; rw [hats]
    obtain ⟨y1, y2, hy, hr1, hr2⟩ := two_args hE hxs
    split at h
    · cases h
    · rename_i el d hni hu hu2
      obtain ⟨ys, hys, h⟩ := Option.bind_eq_some_iff.1 h
      obtain ⟨q, hq, h2⟩ := Option.bind_eq_some_iff.1 h
      unfold appendS at hq
      split at hq
      · obtain ⟨zz, hzz, hq⟩ := Option.bind_eq_some_iff.1 hq
        exact fin h2 (fun _ => by rw [hy, hat]; rfl) (appendR_ok (ty := o.type) H Cf.base hbase hu hu2 (fun k z => hni k z) hzz hys hq hr1 hr2)
      · cases hm : Nat.beq m 0 with
        | true =>
          rw [hm] at hq
          exact fin h2 (fun _ => by rw [hy, hat]; rfl) (append_ok (ty := o.type) H hu hu2 (fun k z => hni k z) hys hq hr1 hr2)
        | false =>
          rw [hm] at hq
          obtain ⟨zz, hzz, hq⟩ := Option.bind_eq_some_iff.1 hq
          exact fin h2 (fun _ => by rw [hy, hat]; rfl) (appendM_ok (ty := o.type) H hu hu2 (fun k z => hni k z) hzz hys hq hr1 hr2)
    · cases h
  · -- copy
    rename_i t u x1 x2 hats hxs
    have hat : c.argTypes = #[t, u] := by cases hc : c.argTypes; rw [hc] at hats; simp at hats; rw [hats]
    obtain ⟨y1, y2, hy, hr1, hr2⟩ := two_args hE hxs
    split at h
    · rename_i el hu
      obtain ⟨ys, hys, h⟩ := Option.bind_eq_some_iff.1 h
      obtain ⟨q, hq, h⟩ := Option.bind_eq_some_iff.1 h
      exact fin h (fun _ => by rw [hy, hat]; rfl) (copy_ok (ty := o.type) H Cf.base hbase hu hys hq hr1 hr2)
    · cases h
  · -- clear
    rename_i t x hats hxs
    have hat : c.argTypes = #[t] := by cases hc : c.argTypes; rw [hc] at hats; simp at hats; rw [hats]
    obtain ⟨y, hy, hrep⟩ := one_arg hE hxs
    obtain ⟨st', hst, h⟩ := Option.bind_eq_some_iff.1 h
    exact fin h (fun _ => by rw [hy, hat]; rfl) (clear_ok (ty := o.type) H Cf.base hbase hst hrep)
  · cases h

theorem stepK_sound {R : Type} (G : Good Cf.P Cf.call) (hbase : ∀ m t l, (m, t, l) ∈ bs → m ≤ Cf.base) {K : PV → St → Option R} {r : R} (H : Sim w C st bs) (hE : RelE lo w C e Cf.n a)
    (h : stepK Cf o e st K = some r)
    (hK : ∀ p st' v w' C', K p st' = some r → Sim w' C' st' bs → Ext w C w' C' → Rep w' C' v p → next (a.put o.dst v) w') : o.wpIn (fen rd) 0 Cf.P a w next Q := by
  have lay1 : ∀ {s : Sem Value} {p : PV} {st' : St}, K p st' = some r → (∀ c, o.op ≠ .defer c) → (execOp a.eval o = do pure (Next.value (← s))) → Lays Cf.P w C bs s p st' → o.wpIn (fen rd) 0 Cf.P a w next Q :=
    fun {s p st'} hk hnd hs ht => by
      obtain ⟨v, w', C', k1, k2, k3, k4⟩ := ht
      exact wp_of_run hnd (by rw [hs]; exact run_v k1) (hK p st' v w' C' hk k2 k3 k4)
  have pure1 : ∀ {p : PV} {v : Value}, K p st = some r → (∀ c, o.op ≠ .defer c) → (execOp a.eval o).run Cf.P w = .ok (.value v) w → Rep w C v p → o.wpIn (fen rd) 0 Cf.P a w next Q :=
    fun {p v} hk hnd hr hrep => wp_of_run hnd hr (hK p st v w C hk H (Ext.refl w C) hrep)
  have pure2 : ∀ {s : Sem Value} {p : PV}, K p st = some r → (∀ c, o.op ≠ .defer c) → (execOp a.eval o = do pure (Next.value (← s))) → Tells Cf.P w C s p → o.wpIn (fen rd) 0 Cf.P a w next Q :=
    fun {s p} hk hnd hs ht => lay1 hk hnd hs (ht.lays H)
  unfold stepK at h
  split at h
  · rename_i x hop; exact pure1 h (by rw [hop]; simp) (by simp [execOp, hop]) (rep_opnd hE x)
  · rename_i x hop; exact pure1 h (by rw [hop]; simp) (by simp [execOp, hop]) (rep_opnd hE x)
  · rename_i c x y hop
    obtain ⟨p, hp, h⟩ := bind_run h
    refine pure2 (s := do pure (if ← asBool (a.eval c) then a.eval x else a.eval y)) h (by rw [hop]; simp) ?_ (tells_pick hp (rep_opnd hE c) (rep_opnd hE x) (rep_opnd hE y))
    simp [execOp, hop]
  · -- alloc
    rename_i t hop
    obtain ⟨z, hz, h⟩ := Option.bind_eq_some_iff.1 h
    obtain ⟨i, v, hi, hzv, hc⟩ := zero_rep (w := w) (C := C) hz
    have hcut : ∀ C' : Ctx, RepCells w C' v.cells z := fun C' => by
      obtain ⟨i', v', hi', hzv', hc'⟩ := zero_rep (w := w) (C := C') hz
      rw [hi] at hi'; cases hi'
      rw [hzv] at hzv'; cases hzv'
      exact hc'
    obtain ⟨w', C', k1, k2, k3, k4, k5⟩ := lay_ok (P := Cf.P) (elem := t) H (hB (Cf.md.of o.dst)) hc fun m t l _ _ => hcut _
    refine wp_of_run (by rw [hop]; simp) ?_ (hK _ _ _ w' C' h k2 k3 (.ptr k5))
    have : (Instr.alloc t true (.tuple #[])).run Cf.P w = .ok (.pointer (some ⟨w.heap.size, 0, none⟩)) w' := by
      simp [Instr.alloc, zeroValue, typeInfo, hi, hzv, newVar, k1]
    simp only [execOp, hop]
    exact run_v this
  · -- box
    rename_i t x hop
    obtain ⟨cs, hcs, h⟩ := Option.bind_eq_some_iff.1 h
    obtain ⟨q, hq, h⟩ := Option.bind_eq_some_iff.1 h
    obtain ⟨c1, c2, c3⟩ := rep_cells hcs (rep_opnd hE x)
    obtain ⟨w', C', k1, k2, k3, k4⟩ := box_ok (P := Cf.P) (elem := t) H ⟨c1, c2, c3⟩ hq
    refine wp_of_run (by rw [hop]; simp) ?_ (hK _ _ _ w' C' h k2 k3 k4)
    have : (Instr.box t (a.eval x)).run Cf.P w = .ok (.pointer (some ⟨w.heap.size, 0, none⟩)) w' := by
      simp [Instr.box, newVar, k1]
    simp only [execOp, hop]
    exact run_v this
  · -- build
    rename_i t ps hop
    obtain ⟨p, hp, h⟩ := bind_run h
    obtain ⟨s1, s2⟩ := parts_rep (Cf := Cf) (ps := ps) hE
    exact pure2 h (by rw [hop]; simp) (by simp only [execOp, hop]) (tells_build hp s1 s2)
  · -- buildSlice
    rename_i t n ps hop
    obtain ⟨s1, s2⟩ := parts_rep (Cf := Cf) (ps := ps) hE
    cases hm : Nat.beq (Cf.md.of o.dst) 0 with
    | true =>
      rw [hm] at h
      obtain ⟨p, hp, h⟩ := bind_run h
      exact lay1 h (by rw [hop]; simp) (by simp only [execOp, hop]) (buildSlice_ok H hp s1 s2)
    | false =>
      rw [hm] at h
      obtain ⟨q, hq, h⟩ := Option.bind_eq_some_iff.1 h
      exact lay1 h (by rw [hop]; simp) (by simp only [execOp, hop]) (buildRow_ok H hq s1 s2)
  · -- load
    rename_i t x hop
    split at h
    · rename_i d hu
      obtain ⟨p, hp, h⟩ := bind_run h
      exact pure2 h (by rw [hop]; simp) (by simp only [execOp, hop]) (tells_load H ⟨d, hu⟩ hp (rep_opnd hE x))
    · cases h
  · -- store
    rename_i t x y hop
    obtain ⟨st', hst, h⟩ := Option.bind_eq_some_iff.1 h
    obtain ⟨w', C', k1, k2, k3⟩ := store_ok (P := Cf.P) H Cf.base hbase hst (rep_opnd hE x) (rep_opnd hE y)
    refine wp_of_skip (by rw [hop]; simp) ?_ (hK _ _ undef w' C' h k2 k3 .u)
    simp only [execOp, hop, Sem.run_bind, k1, Result.andThen_ok]
    rfl
  · -- nilCheck
    rename_i x hop
    obtain ⟨p, hp, h⟩ := bind_run h
    obtain ⟨k1, k2⟩ := tells_nilCheck (P := Cf.P) hp (rep_opnd hE x)
    exact pure1 h (by rw [hop]; simp) (k1 o a.eval x hop rfl) k2
  · rename_i op t x y yt hop
    obtain ⟨p, hp, h⟩ := bind_run h
    exact pure2 (s := do eqGuard op t x y (a.eval x) (a.eval y); binOp op t (a.eval x) (a.eval y)) h (by rw [hop]; simp) (by simp only [execOp, hop]) (tells_bin hp (rep_opnd hE x) (rep_opnd hE y))
  · -- range
    rename_i t x hop
    obtain ⟨q, hq, h⟩ := Option.bind_eq_some_iff.1 h
    exact lay1 h (by rw [hop]; simp) (by simp only [execOp, hop]) (range_ok H hq (rep_opnd hE x))
  · -- next
    rename_i x hop
    obtain ⟨q, hq, h⟩ := Option.bind_eq_some_iff.1 h
    exact lay1 h (by rw [hop]; simp) (by simp only [execOp, hop]) (next_ok (ty := o.type) H hq (rep_opnd hE x))
  · rename_i op t x hop
    obtain ⟨p, hp, h⟩ := bind_run h
    exact pure2 h (by rw [hop]; simp) (by simp only [execOp, hop]) (tells_un hp (rep_opnd hE x))
  · rename_i src dst x hop
    obtain ⟨p, hp, h⟩ := bind_run h
    exact lay1 h (by rw [hop]; simp) (by simp only [execOp, hop]) (conv_ok H hp (rep_opnd hE x))
  · -- makeFunc
    rename_i f fs cs hop
    obtain ⟨p, hp, h⟩ := bind_run h
    unfold aMakeFunc at hp
    cases hf : fs.isEmpty && plainFn f with
    | false => rw [hf] at hp; simp at hp
    | true =>
      rw [hf] at hp
      obtain rfl := Option.some.inj hp
      rw [Bool.and_eq_true] at hf
      have hfs : fs = #[] := by simpa using hf.1
      subst hfs
      obtain ⟨s1, s2⟩ := ops_rep (Cf := Cf) hE cs
      obtain ⟨f', rfl⟩ : ∃ f', f = .func f' := by
        cases f <;> first | exact ⟨_, rfl⟩ | (have := hf.2; simp [plainFn] at this)
      refine pure1 (v := .func (.func f') #[] (cs.map a.eval)) h (by rw [hop]; simp) ?_ (.clo (by simpa using s1) fun i x p hx hp => ?_)
      · simp [execOp, hop, Instr.makeFunc]
      · obtain ⟨q, hq, rfl⟩ := getElem?_map_some hp
        exact rep_canon (s2 i x q hx hq)
  · -- makeSlice
    rename_i t x y hop
    obtain ⟨q, hq, h⟩ := Option.bind_eq_some_iff.1 h
    exact lay1 h (by rw [hop]; simp) (by simp only [execOp, hop]) (makeSlice_ok H hq (rep_opnd hE x) (rep_opnd hE y))
  · rename_i t x lo hi mx hop
    obtain ⟨p, hp, h⟩ := bind_run h
    exact pure2 h (by rw [hop]; simp) (by simp only [execOp, hop]) (tells_slice hp (rep_opnd hE x) (opt_rep hE lo) (opt_rep hE hi) (opt_rep hE mx))
  · rename_i s x f hop
    obtain ⟨p, hp, h⟩ := bind_run h
    exact pure2 h (by rw [hop]; simp) (by simp only [execOp, hop]) (tells_fieldAddr hp (rep_opnd hE x))
  · rename_i t x f hop
    obtain ⟨p, hp, h⟩ := bind_run h
    exact pure2 h (by rw [hop]; simp) (by simp only [execOp, hop]) (tells_field hp (rep_opnd hE x))
  · rename_i t x i hop
    obtain ⟨p, hp, h⟩ := bind_run h
    exact pure2 h (by rw [hop]; simp) (by simp only [execOp, hop]) (tells_indexAddr hp (rep_opnd hE x) (rep_opnd hE i))
  · rename_i t x i hop
    obtain ⟨p, hp, h⟩ := bind_run h
    exact pure2 h (by rw [hop]; simp) (by simp only [execOp, hop]) (tells_index hp (rep_opnd hE x) (rep_opnd hE i))
  · rename_i x i hop
    obtain ⟨p, hp, h⟩ := bind_run h
    exact pure2 h (by rw [hop]; simp) (by simp only [execOp, hop]) (tells_extract hp (rep_opnd hE x))
  · -- a call
    rename_i c hop
    have hnd : ∀ c, o.op ≠ .defer c := by rw [hop]; simp
    split at h
    · rename_i b hcal
      exact stepB_sound hbase hop hcal H hE h hK
    · rename_i f hcal
      have hrf := rep_opnd hE f
      obtain ⟨s1, s2⟩ := args_rep (Cf := Cf) hE c.args
      unfold onFn at h
      split at h
      · rename_i g caps hf
        obtain ⟨q, hq, h⟩ := Option.bind_eq_some_iff.1 h
        obtain ⟨⟨fn, g1, g2, g3⟩, gc⟩ := G _ _ st q hq
        rw [hf] at hrf
        obtain ⟨cs, hcs, hcl, hcr⟩ : ∃ cs : Array Value, a.eval f = .func (.func g) #[] cs ∧ cs.size = caps.length ∧ ∀ (i : Nat) (x : Value) (p : PV), cs[i]? = some x → caps[i]? = some p → Rep w C x p := by
          cases hv : a.eval f <;> rw [hv] at hrf <;> cases hrf
          rename_i h1 h2
          exact ⟨_, rfl, h1, h2⟩
        have hrun : (execOp a.eval o).run Cf.P w = .ok (.enter g (c.args.map a.eval ++ cs)) w := by
          simp only [execOp, hop, resolve, hcal, hcs, Deferred.ofValue, Sem.run_bind, Sem.run_pure, Result.andThen_ok, invoke, Array.empty_append]
          exact run_enter g1 g2 g3 w
        refine ⟨fun _ _ => trivial, ?_⟩
        rw [Oper.semAt_eq _ _ _ hnd, hrun, Oper.uponIn_enter]
        refine ⟨fun z => by simp [fen, Fence.wide] at z, callsIn_fen ?_⟩
        refine (gc w C bs (c.args.map a.eval ++ cs) H (by rw [Array.size_append, List.length_append, s1, hcl]) fun i x p hx hp => ?_).mono ?_
        · rw [Array.getElem?_append] at hx
          rw [List.getElem?_append, ← s1] at hp
          split at hx
          · rename_i hlt; rw [if_pos hlt] at hp; exact s2 i x p hx hp
          · rename_i hlt; rw [if_neg hlt] at hp; exact hcr _ x p hx hp
        · rintro e' w' ⟨v, C', rfl, k1, k2, k3⟩
          exact hK _ _ v w' C' h k1 k2 k3
      · rename_i i caps hf
        obtain ⟨q, hq, h2⟩ := Option.bind_eq_some_iff.1 h
        rw [hf] at hrf
        obtain ⟨B, hv, rfl, hB⟩ : ∃ B, a.eval f = .func (.yield B) #[] #[] ∧ caps = [] ∧ C.lp i = some B := by
          cases hv : a.eval f <;> rw [hv] at hrf <;> cases hrf
          rename_i h1
          exact ⟨_, rfl, rfl, h1⟩
        rw [List.append_nil] at hq
        obtain ⟨fn, tmps, assign, body, g1, g2⟩ := G _ _ st q hq w C bs (c.args.map a.eval) B hB H s1 s2
        have hrun : (execOp a.eval o).run Cf.P w = .ok (.round B fn tmps assign body) w := by
          simp only [execOp, hop, resolve, hcal, hv, Deferred.ofValue, Sem.run_bind, Sem.run_pure, Result.andThen_ok, invoke, Array.empty_append]
          exact g1
        refine ⟨fun _ _ => trivial, ?_⟩
        rw [Oper.semAt_eq _ _ _ hnd, hrun, Oper.uponIn_round]
        refine ⟨fun z => by simp [fen, Fence.wide] at z, (roundIn_fen g2).mono ?_⟩
        rintro e' w' ⟨v, C', rfl, k1, k2, k3⟩
        exact hK _ _ v w' C' h2 k1 k2 k3
      · cases h
    · cases h
  · cases h

end
end Go.AM
