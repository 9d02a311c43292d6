/- The abstract machine: how code is evaluated over plain values. Definitions alone. No condition. -/
import Derived.Test.YtkbhejcfejembaaM1
set_option linter.all false
namespace Go.AM
open Go

abbrev CallF := Fn → List PV → St → Option (PV × St)
/-- How a loop is gone through, by its round. -/
abbrev LoopF := (List PV → St → Option (Ex × List PV × St)) → List PV → St → Option (Ex × List PV × St)

structure Cfg where
  P : Program
  call : CallF
  n : Nat
  base : Nat
  it : LoopF
  /-- The functions that may change what was there: they stand in an order with all that reads. -/
  imp : List FuncId
  md : Md
  /-- The loop over a function of which this frame is a round. -/
  rd : Option Nat
  /-- How many loops and iterators there were when this frame began. -/
  lb : Nat

def onBool {R : Type} (p : PV) (K : Bool → Option R) : Option R := match p with
  | .v (.bool t) => K t
  | _ => none
/-- Is an operation to run, as its guard was told? One whose guard did not run doesn't. -/
def onG (p : PV) (want : Bool) (A : Option (PV × St)) (st : St) : Option (PV × St) := match p with
  | .v (.bool b) => bif (b == want) then A else some (.tup [], st)
  | .tup [] => some (.tup [], st)
  | _ => none
def onFn {R : Type} (p : PV) (K : Fn → List PV → Option R) : Option R := match p with
  | .clo (.func g) caps => K (.func g) caps
  | .clo (.yield i) caps => K (.yield i) caps
  | _ => none
def seqK {R : Type} (x : Ex) (A : Option R) (B : Ex → Option R) : Option R := match x with
  | .normal => A
  | .exit i => B (.exit i)
  | .ret => B .ret
def retK {R : Type} (x : Ex) (A : Option R) : Option R := match x with
  | .exit _ => none
  | .normal => A
  | .ret => A

section
variable {R : Type} (C : Cfg)

def argsOf (ρ : Operand → PV) (args : Array Operand) : List PV := args.toList.map fun x => canon (ρ x)

def hB (m : Nat) : Bool := Nat.beq m 2
def appendS (P : Program) (base m : Nat) (e : TypeId) (s : PV) (ys : List (List PV)) (st : St) : Option (PV × St) := match s with
  | .rs h b off len sz => (zeroT P e).bind fun _ => aAppendR base (szT P e) (byT P e) (.rs h b off len sz) ys st
  | s => bif Nat.beq m 0 then aAppend (szT P e) (byT P e) s ys st else (zeroT P e).bind fun _ => aAppendM (hB m) (szT P e) (byT P e) s ys st
def stepB (m : Nat) (b : Builtin) (ats : Array TypeId) (xs : List PV) (st : St) (K : PV → St → Option R) : Option R :=
  match b, ats.toList, xs with
  | .len, [t], [x] => (aLen C.P t x).bind fun p => K p st
  | .cap, [t], [x] => (aCap C.P t x).bind fun p => K p st
  | .max, _, [x, y] => (aMax2 C.P x y).bind fun p => K p st
  | .min, _, [x, y] => (aMin2 C.P x y).bind fun p => K p st
  | .append, [t, u], [s, x] => match C.P.underlying t, C.P.underlying u with
    | some (.slice _), some (.int _) => none
    | some (.slice e), some _ => (elemsOf st x).bind fun ys => (appendS C.P C.base m e s ys st).bind fun r => K r.1 r.2
    | _, _ => none
  | .copy, [t, _], [d, x] => match C.P.underlying t with
    | some (.slice e) => (elemsOf st x).bind fun ys => (aCopy C.base (szT C.P e) d ys st).bind fun r => K r.1 r.2
    | _ => none
  | .clear, [t], [x] => (aClear C.P C.base t x st).bind fun st' => K (.tup []) st'
  | _, _, _ => none

def stepK (o : Oper) (e : Env) (st : St) (K : PV → St → Option R) : Option R :=
  match o.op with
  | .move x | .assign x => K (opnd e x) st
  | .pick c a b => (aPick (opnd e c) (opnd e a) (opnd e b)).bind fun p => K p st
  | .alloc t => (zeroT C.P t).bind fun z => K (.ptr (hB (C.md.of o.dst)) (st.len (hB (C.md.of o.dst))) 0) (st.lay (hB (C.md.of o.dst)) z)
  | .box _ x => (cellsOf (opnd e x)).bind fun cs => (aBox (hB (C.md.of o.dst)) cs st).bind fun r => K r.1 r.2
  | .build t ps => (aBuild C.P t (ps.toList.map fun p => (p.1, opnd e p.2))).bind fun p => K p st
  | .buildSlice t n ps => bif Nat.beq (C.md.of o.dst) 0 then (aBuildSlice C.P t n (ps.toList.map fun p => (p.1, opnd e p.2))).bind fun p => K p st
    else (aBuildRow C.P (hB (C.md.of o.dst)) t n (ps.toList.map fun p => (p.1, opnd e p.2)) st).bind fun r => K r.1 r.2
  | .load t a => match C.P.underlying t with
    | some _ => (aLoad (aggT C.P t) (szT C.P t) (opnd e a) st).bind fun p => K p st
    | none => none
  | .store t a x => (aStore C.base (szT C.P t) (opnd e a) (opnd e x) st).bind fun st' => K .u st'
  | .nilCheck x => (aNilCheck (opnd e x)).bind fun p => K p st
  | .binOp op t x y _ => (aBin C.P (isConst x || isConst y) op t (opnd e x) (opnd e y)).bind fun p => K p st
  | .range t x => (aRange C.P t (opnd e x) st).bind fun r => K r.1 r.2
  | .next x true => (aNext (opnd e x) st).bind fun r => K r.1 r.2
  | .unOp op _ x => (aUn C.P op (opnd e x)).bind fun p => K p st
  | .convert src dst x => (aConv C.P src dst (opnd e x)).bind fun p => K p st
  | .makeFunc f fs cs => (aMakeFunc f fs.isEmpty (cs.toList.map fun x => opnd e x)).bind fun p => K p st
  | .makeSlice t l c => (aMakeSlice C.P (hB (C.md.of o.dst)) t (opnd e l) (opnd e c) st).bind fun r => K r.1 r.2
  | .slice t x lo hi mx => (aSlice C.P t (opnd e x) (lo.map (opnd e)) (hi.map (opnd e)) (mx.map (opnd e))).bind fun p => K p st
  | .fieldAddr s x f => (aFieldAddr C.P s (opnd e x) f).bind fun p => K p st
  | .field t x f => (aField C.P t (opnd e x) f).bind fun p => K p st
  | .indexAddr t x i => (aIndexAddr C.P t (opnd e x) (opnd e i)).bind fun p => K p st
  | .index t x i => (aIndex C.P t (opnd e x) (opnd e i)).bind fun p => K p st
  | .extract x i => (aExtract (opnd e x) i).bind fun p => K p st
  | .call c => match c.callee with
    | .builtin b => stepB C (C.md.of o.dst) b c.argTypes (c.args.toList.map fun x => opnd e x) st K
    | .value f => onFn (opnd e f) fun g caps => (C.call g (argsOf (opnd e) c.args ++ caps) st).bind fun r => K r.1 r.2
    | .invoke _ _ => none
  | _ => none

/-- One operation, its guard heeded. -/
def guarded (ops : Array Oper) (o : Oper) (e : Env) (st : St) (K : PV → St → Option R) : Option R :=
  match o.guard with
  | none => stepK C o e st K
  | some (j, want) => match (ops[j]?).bind (·.dst) with
    | some t => (onG (e t) want (stepK C o e st fun p s => some (p, s)) st).bind fun r => K r.1 r.2
    | none => none

def evOps (ops : Array Oper) : List Oper → Env → St → (Env → St → Option R) → Option R
  | [], e, st, K => K e st
  | o :: os, e, st, K => guarded C ops o e st fun p st' => evOps ops os (put C.n e o.dst p) st' K

/-! ### a region that draws its order -/
inductive Kind where
  | quiet   -- hangs on its operands alone
  | reads   -- hangs on the state, and leaves it
  | acts    -- may change the state
def kindB : Builtin → Kind
  | .append | .copy | .clear => .acts
  | _ => .quiet
def kindOf (imp : List FuncId) (md : Md) (o : Oper) : Kind := match o.op with
  | .alloc _ | .box _ _ | .store _ _ _ | .makeSlice _ _ _ | .range _ _ | .next _ _ => .acts
  | .buildSlice _ _ _ => bif Nat.beq (md.of o.dst) 0 then .quiet else .acts
  | .load _ _ => .reads
  | .call c => match c.callee with
    | .builtin b => kindB b
    | .value (.func f) => bif imp.any (Nat.beq f) then .acts else .reads
    | _ => .acts
  | _ => .quiet

/-- What an operation answers at a state, alone. -/
def alone (ops : Array Oper) (o : Oper) (e : Env) (s : St) : Option (PV × St) := guarded C ops o e s fun p s' => some (p, s')

open Classical in
noncomputable def need (c : Prop) (x : Option R) : Option R := if c then x else none
noncomputable def needAll : List Prop → Option R → Option R
  | [], x => x
  | c :: cs, x => need c (needAll cs x)

/-- An operation that reads: where it stands, its number, its operation, what it read by, and what it told. -/
structure Seen where
  i : Nat
  o : Oper
  e : Env
  p : PV

def told (ops : Array Oper) (x : Seen) (s : St) : Prop := alone C ops x.o x.e s = some (x.p, s)

noncomputable def evDraw (ops : Array Oper) (bs : Array Nat) : List Oper → Nat → Env → St → List Seen → List (Nat × St) → (Env → St → Option R) → Option R
  | [], _, e, st, _, _, K => K e st
  | o :: os, i, e, st, seen, acts, K => match kindOf C.imp C.md o with
    | .quiet => guarded C ops o e st fun p _ => evDraw ops bs os (i + 1) (put C.n e o.dst p) st seen acts K
    | .reads => guarded C ops o e st fun p st' => need (st' = st)
        (needAll ((acts.filter fun a => !(bs.getD i 0).testBit a.1).map fun a => told C ops ⟨i, o, e, p⟩ a.2)
          (evDraw ops bs os (i + 1) (put C.n e o.dst p) st (⟨i, o, e, p⟩ :: seen) acts K))
    | .acts => bif acts.all (fun a => (bs.getD i 0).testBit a.1) then
        guarded C ops o e st fun p st' =>
          needAll ((seen.filter fun x => !(bs.getD i 0).testBit x.i).map fun x => told C ops x st')
            (evDraw ops bs os (i + 1) (put C.n e o.dst p) st' seen ((i, st) :: acts) K)
      else none

def tmpsOf (ops : Array Oper) (o : Oper) : List Nat := o.dst.toList ++ o.op.operands.toList.filterMap (fun x => match x with | .tmp t => some t | _ => none) ++ (match o.guard with
  | some (g, _) => ((ops[g]?).bind (·.dst)).toList
  | none => [])
/-- Is each operation that writes a slot in an order with each that names it? -/
def apartOk (bs : Array Nat) (i : Nat) (ts : List Nat) : List Oper → Nat → Bool
  | [], _ => true
  | o :: os, j => (match o.dst with
      | some d => !(ts.any (Nat.beq d)) || Nat.beq i j || (bif Nat.blt i j then (bs.getD j 0).testBit i else (bs.getD i 0).testBit j)
      | none => true) && apartOk bs i ts os (j + 1)
def drawChk (ops : Array Oper) (bs : Array Nat) : List Oper → Nat → Bool
  | [], _ => true
  | o :: os, i => o.after.toList.all (fun e => !Region.binds .any e || Nat.blt e.on i) && apartOk bs i (tmpsOf ops o) ops.toList 0 && drawChk ops bs os (i + 1)

/-! ### code -/
def iter (body : List PV → St → Option (Ex × List PV × St)) : Nat → List PV → St → Option (Ex × List PV × St)
  | 0, _, _ => none
  | k + 1, vs, st => (body vs st).bind fun r => seqK r.1 (iter body k r.2.1 r.2.2) fun _ => some r

def leave (live : List Nat) (x : Ex) (e : Env) (st : St) : Option (Ex × List PV × St) := some (x, live.map e, st)
/-- At the end of a loop's round: what the round laid on the stack is gone, if nothing that stays means it. -/
def isIter : Aux → Bool
  | .iter _ _ => true
  | _ => false
def leaveV (base lb m : Nat) (x : Ex) (vs : List PV) (st : St) : Option (Ex × List PV × St) :=
  bif (st.lp.drop lb).all isIter && vs.all (sf true m 4) && ((st.stk.drop base).take (m - base)).all (fun b => b.cs.all (sf true m 4)) then some (x, vs, { st with stk := st.stk.take m }) else none
def leaveT (base lb m : Nat) (live : List Nat) (x : Ex) (e : Env) (st : St) : Option (Ex × List PV × St) := leaveV base lb m x (live.map e) st
def leaveL (tr : Bool) (base lb m : Nat) (live : List Nat) : Ex → Env → St → Option (Ex × List PV × St) := match tr with
  | true => leaveT base lb m live
  | false => leave live
def Ex.outOf (id : Nat) : Ex → Ex
  | .exit i => bif Nat.beq i id then .normal else .exit i
  | x => x

/-- Is the loop of which this is a round at hand? -/
def inRd (st : St) : Bool := match C.rd with
  | none => true
  | some i => Nat.blt i st.lp.length && (st.loop i).isSome
def endLp (s : St) (m t l : Nat) (K : Ex → St → Option R) : Option R := match s.loop l with
  | some q => bif Nat.beq q.at_ 1 then none else K q.pend (s.back m t l)
  | none => none
noncomputable def evCode : Code → Ann → Env → St → {R : Type} → (Ex → Env → St → Option R) → Option R
  | .skip, _, e, st, _, K => K .normal e st
  | .region _ ops false, _, e, st, _, K => evOps C ops ops.toList e st fun e' st' => K .normal e' st'
  | .region _ ops true, _, e, st, _, K => bif drawChk ops (Region.before ops) ops.toList 0 then evDraw C ops (Region.before ops) ops.toList 0 e st [] [] fun e' st' => K .normal e' st' else none
  | .seq a b, A, e, st, _, K => evCode a A.x e st fun x e' st' => seqK x (evCode b A.y e' st' K) fun y => K y e' st'
  | .cond c a b, A, e, st, _, K => onBool (opnd e c) fun t =>
    (bif t then evCode a A.x e st (leave A.live) else evCode b A.y e st (leave A.live)).bind fun r => K r.1 (mkEnv A.live r.2.1) r.2.2
  | .block id c, A, e, st, _, K => evCode c A.x e st fun x e' st' => K (x.outOf id) e' st'
  | .loop c, A, e, st, _, K => (C.it (fun vs s => evCode c A.x (mkEnv A.live vs) s (leaveL A.tr C.base C.lb s.stk.length A.live)) (A.live.map e) st).bind fun r => K r.1 (mkEnv A.live r.2.1) r.2.2
  | .rangeFunc g ps a b, A, e, st, _, K => onFn (opnd e g) fun f caps => bif inRd C st && plainFn f then
      (C.call f (.clo (.yield st.lp.length) [] :: caps) { st with lp := st.lp ++ [.loop ⟨A.live, A.live.map e, C.n, C.md, ps.toList, a, b, A.x, 0, .normal⟩] }).bind fun r => endLp r.2 st.stk.length st.tk.length st.lp.length fun x s => K x e s
    else none
  | .exit id, _, e, st, _, K => K (.exit id) e st
  | .ret, _, e, st, _, K => K .ret e st
  | _, _, _, _, _, _ => none

def resultsK (rs : List ResultVar) (e : Env) (st : St) (K : List PV → Option R) : Option R := match rs with
  | [] => K []
  | .tmp t :: rs => resultsK rs e st fun ps => K (e t :: ps)
  | .cell a t :: rs => match C.P.underlying t with
    | some _ => (aLoad (aggT C.P t) (szT C.P t) (e a) st).bind fun p => resultsK rs e st fun ps => K (p :: ps)
    | none => none
def packRes : List PV → PV
  | [p] => p
  | ps => .tup ps
/-- What a call answers, in its plain form: a row of this frame's own is frozen. -/
def canonF (base : Nat) (st : St) (p : PV) : Option PV := match p with
  | .rs false b off len sz => bif Nat.ble base b then (rsCells st false b off (len * sz)).bind fun cs => (plainCs cs).bind fun ds => bif ds.all (sf false 0 4) && !Nat.beq sz 0 then some (.sl (chunks sz len ds) .dead) else none
    else some (.rs false b off len sz)
  | p => some (canonC p)
def canonFs (base : Nat) (st : St) : List PV → Option (List PV)
  | [] => some []
  | p :: ps => (canonF base st p).bind fun q => (canonFs base st ps).bind fun qs => some (q :: qs)
def canonFA (base : Nat) (st : St) (p : PV) : Option PV := match p with
  | .agg cs => (canonFs base st cs).bind fun ds => some (.agg ds)
  | p => canonF base st p
def canonFAs (base : Nat) (st : St) : List PV → Option (List PV)
  | [] => some []
  | p :: ps => (canonFA base st p).bind fun q => (canonFAs base st ps).bind fun qs => some (q :: qs)
def canonFT (base : Nat) (st : St) (p : PV) : Option PV := match p with
  | .tup cs => (canonFAs base st cs).bind fun ds => some (.tup ds)
  | p => canonFA base st p
/-- What a call answers; what it laid on the stack is gone. -/
def fin (m t l : Nat) (ps : List PV) (st : St) : Option (PV × St) :=
  (canonFT m st (packRes ps)).bind fun p => bif sf false m 4 p then some (p, st.back m t l) else none
end

structure Lib where
  P : Program
  ann : FuncId → Ann
  md : FuncId → Md
  imp : List FuncId
  prim : FuncId → Option (List PV → St → Option (PV × St))

def itK (k : Nat) : LoopF := fun b vs st => iter b k vs st
noncomputable def evBody (L : Lib) (call : CallF) (it : LoopF) (f : FuncId) (fn : Func) (c : Code) (args : List PV) (st : St) : Option (PV × St) :=
  bif Nat.ble args.length fn.ntmps then
    evCode ⟨L.P, call, fn.ntmps, st.stk.length, it, L.imp, L.md f, none, st.lp.length⟩ c (L.ann f) (argEnv 0 args) st fun x e s =>
      retK x (resultsK ⟨L.P, call, fn.ntmps, st.stk.length, it, L.imp, L.md f, none, st.lp.length⟩ fn.results.toList e s fun ps => fin st.stk.length st.tk.length st.lp.length ps s)
  else none

/-! ### a round -/
def putAll (n : Nat) (e : Env) : List Nat → List PV → Env
  | t :: ts, p :: ps => putAll n (put n e (some t) p) ts ps
  | _, _ => e
def beginR (i : Nat) (st : St) (K : St → Option (PV × St)) : Option (PV × St) := match st.loop i with
  | some q => bif Nat.beq q.at_ 0 then K (st.setLp i (.loop { q with at_ := 1 })) else none
  | none => none
def isNormal : Ex → Bool
  | .normal => true
  | _ => false
def finR (m t l i : Nat) (x : Ex) (st : St) : Option (PV × St) := match st.loop i with
  | some q => bif Nat.beq q.at_ 1 then some (.v (.bool (isNormal x)), (st.setLp i (.loop { q with at_ := bif isNormal x then 0 else 2, pend := x })).back m t l) else none
  | none => none
noncomputable def evRound (L : Lib) (call : CallF) (it : LoopF) (i : Nat) (r : Lp) (args : List PV) (st : St) : Option (PV × St) :=
  bif Nat.beq r.at_ 0 && Nat.beq args.length r.ps.length then
    evCode ⟨L.P, call, r.n, st.stk.length, it, L.imp, r.md, some i, st.lp.length⟩ r.assign r.A.x (putAll r.n (mkEnv r.live r.vs) r.ps args) st fun x e s =>
      bif isNormal x then beginR i s fun s => evCode ⟨L.P, call, r.n, st.stk.length, it, L.imp, r.md, some i, st.lp.length⟩ r.body r.A.y e s fun x _ s => finR st.stk.length st.tk.length st.lp.length i x s else none
  else none

noncomputable def evF (L : Lib) : Nat → CallF
  | 0, _, _, _ => none
  | k + 1, .func f, args, st => match L.prim f with
    | some g => g args st
    | none => match L.P.funcs[f]? with
      | some fn => match fn.body with
        | some c => evBody L (evF L k) (itK k) f fn c args st
        | none => none
      | none => none
  | k + 1, .yield i, args, st => match st.loop i with
    | some r => evRound L (evF L k) (itK k) i r args st
    | none => none
  | _ + 1, _, _, _ => none

end Go.AM
