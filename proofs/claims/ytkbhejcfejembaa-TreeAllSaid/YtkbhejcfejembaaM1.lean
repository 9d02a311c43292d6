/- The abstract machine: plain values, states, and what each operation does to them. Definitions alone. No condition. -/
import Derived.Orders
import Derived.OrdersHeld
import Derived.Laws.Sem
set_option linter.all false
namespace Go.AM
open Go

inductive Ex where
  | normal | exit (id : Nat) | ret

/-- What lives behind each if and at each loop's head, along the code. -/
inductive Ann where
  | nil
  | seq (u v : Ann)
  | cnd (live : List Nat) (u v : Ann)
  | lop (live : List Nat) (tr : Bool) (u : Ann)
  | blk (u : Ann)
def Ann.x : Ann → Ann
  | .seq u _ | .cnd _ u _ | .lop _ _ u | .blk u => u
  | .nil => .nil
def Ann.y : Ann → Ann
  | .seq _ v | .cnd _ _ v => v
  | _ => .nil
def Ann.live : Ann → List Nat
  | .cnd w _ _ | .lop w _ _ => w
  | _ => []
def Ann.tr : Ann → Bool
  | .lop _ t _ => t
  | _ => false

/-- Whose a token is: the frame's, or a block's. -/
inductive Ow where
  | fr
  | bl (h : Bool) (b : Nat)
def eqB : Bool → Bool → Bool
  | true, true | false, false => true
  | _, _ => false
def Ow.is (o : Ow) (h : Bool) (b : Nat) : Bool := match o with
  | .fr => false
  | .bl h' b' => eqB h' h && Nat.beq b' b

/-- What is known of a slice's room: it is nil; it has none; nothing is known; the room behind it is its own, as token t of an owner tells, while it ends at e. -/
inductive Cap where
  | nil | full | dead
  | own (o : Ow) (t e : Nat)

inductive PV where
  | u
  | v (x : Value)
  | agg (cs : List PV)
  | tup (cs : List PV)
  | ptr (h : Bool) (b off : Nat)
  | fp (cs : List PV) (off : Nat)
  | sl (es : List (List PV)) (c : Cap)
  /-- A slice that is written in place: a part of a block. -/
  | rs (h : Bool) (b off len sz : Nat)
  | clo (f : Fn) (caps : List PV)
  /-- An interface's value that is not nil. -/
  | ni
  /-- A string's iterator. -/
  | it (i : Nat)

instance : Inhabited PV := ⟨.u⟩

/-- Which of a function's temporaries are laid on the heap; which rows are written in place. -/
structure Md where
  hp : List Nat
  mu : List Nat
def Md.of (m : Md) (dst : Option Nat) : Nat := match dst with
  | some d => bif m.hp.any (Nat.beq d) then 2 else bif m.mu.any (Nat.beq d) then 1 else 0
  | none => 0

/-- A loop over a function, at work. -/
structure Lp where
  live : List Nat
  vs : List PV
  n : Nat
  md : Md
  ps : List Nat
  assign : Code
  body : Code
  A : Ann
  /-- 0: ready; 1: busy; 2: done -/
  at_ : Nat
  pend : Ex

/-- What lies beside the blocks: loops over functions, iterators. -/
inductive Aux where
  | loop (r : Lp)
  | iter (s : ByteArray) (pos : Nat)

structure Blk where
  cs : List PV
  tk : List (Nat × Nat)

structure St where
  stk : List Blk
  hp : List Blk
  tk : List (Nat × Nat)
  lp : List Aux

def St.bk (s : St) (h : Bool) (b : Nat) : Option Blk := match h with | true => s.hp[b]? | false => s.stk[b]?
def St.blk (s : St) (h : Bool) (b : Nat) : Option (List PV) := (s.bk h b).map Blk.cs
def St.tok (s : St) (o : Ow) (t : Nat) : Option (Nat × Nat) := match o with | .fr => s.tk[t]? | .bl h b => (s.bk h b).bind fun x => x.tk[t]?
def St.push (s : St) (cs : List PV) : St := { s with stk := s.stk ++ [⟨cs, []⟩] }
def St.hpush (s : St) (cs : List PV) : St := { s with hp := s.hp ++ [⟨cs, []⟩] }
def St.lay (s : St) (h : Bool) (cs : List PV) : St := match h with | true => s.hpush cs | false => s.push cs
def St.len (s : St) (h : Bool) : Nat := match h with | true => s.hp.length | false => s.stk.length
def St.upB (s : St) (h : Bool) (b : Nat) (f : Blk → Blk) : St := match h with | true => { s with hp := s.hp.modify b f } | false => { s with stk := s.stk.modify b f }
def St.setBlk (s : St) (h : Bool) (b : Nat) (cs : List PV) : St := s.upB h b fun x => ⟨cs, x.tk⟩
def St.setTok (s : St) (o : Ow) (t : Nat) (e : Nat × Nat) : St := match o with | .fr => { s with tk := s.tk.set t e } | .bl h b => s.upB h b fun x => ⟨x.cs, x.tk.set t e⟩
def St.pushTok (s : St) (e : Nat × Nat) : St := { s with tk := s.tk ++ [e] }
def St.pushBTok (s : St) (h : Bool) (b : Nat) (e : Nat × Nat) : St := s.upB h b fun x => ⟨x.cs, x.tk ++ [e]⟩
def St.ntok (s : St) (h : Bool) (b : Nat) : Nat := match s.bk h b with | some x => x.tk.length | none => 0
def St.setLp (s : St) (i : Nat) (r : Aux) : St := { s with lp := s.lp.set i r }
def St.loop (s : St) (i : Nat) : Option Lp := match s.lp[i]? with | some (.loop r) => some r | _ => none
/-- What a call or a round laid goes. -/
def St.back (s : St) (m t l : Nat) : St := ⟨s.stk.take m, s.hp, s.tk.take t, s.lp.take l⟩

abbrev Env := Nat → PV
def upd (e : Env) (i : Nat) (p : PV) : Env := fun j => bif Nat.beq j i then p else e j
def put (n : Nat) (e : Env) (dst : Option Nat) (p : PV) : Env := match dst with | some d => bif Nat.blt d n then upd e d p else e | none => e
def nth (vs : List PV) (i : Nat) : PV := vs.getD i .u
def mkEnvI (vs : List PV) : List Nat → Nat → Env
  | i :: is, j => upd (mkEnvI vs is (j + 1)) i (nth vs j)
  | [], _ => fun _ => .u
def mkEnv (is : List Nat) (vs : List PV) : Env := mkEnvI vs is 0
def argEnv : Nat → List PV → Env
  | i, p :: ps => upd (argEnv (i + 1) ps) i p
  | _, [] => fun _ => .u

def flatV : Value → Bool
  | .bool _ | .int _ _ | .float _ _ | .complex _ _ _ | .string _ | .pointer none | .nilFunc | .nilIface | .map none | .chan none => true
  | _ => false

def ofLeaf (x : Value) : PV := match x with
  | .slice none l c => match l, c with | 0, 0 => .sl [] .nil | _, _ => .u
  | .func f a b => match f, a, b with | .func g, ⟨[]⟩, ⟨[]⟩ => .clo (.func g) [] | _, _, _ => .u
  | x => bif flatV x then .v x else .u
def ofConst (x : Value) : PV := match x with
  | .agg cs => bif cs.toList.all Value.oneCell' then .agg (cs.toList.map ofLeaf) else .u
  | x => ofLeaf x

def opnd (e : Env) : Operand → PV
  | .tmp t => e t
  | .const v => ofConst v
  | .global _ => .u
  | .func f => .clo (.func f) []

def aggT (P : Program) (t : TypeId) : Bool := match P.underlying t with | some (.struct _) | some (.array _ _) => true | _ => false
def szT (P : Program) (t : TypeId) : Nat := match P.info? t with | some i => i.size | none => 0
def byT (P : Program) (t : TypeId) : Nat := match P.info? t with
  | some i => match i.zero with
    | some v => bif Nat.beq v.cells.size i.size then i.bytes else 0
    | none => 0
  | none => 0
def zeroT (P : Program) (t : TypeId) : Option (List PV) := match P.info? t with
  | some i => match i.zero with
    | some v => bif v.cells.toList.all Value.oneCell' then some (v.cells.toList.map ofLeaf) else none
    | none => none
  | none => none

def pureIn {α : Type} (P : Program) : Sem α → Option α
  | .pure a => some a
  | .program k => pureIn P (k P)
  | _ => none

def flatRes : Option Value → Option PV
  | some x => bif flatV x then some (.v x) else none
  | none => none

/-- All cells of a value, one by one. -/
def cellsOf : PV → Option (List PV)
  | .agg cs => some cs
  | .tup _ | .u => none
  | p => some [p]

def canonC : PV → PV
  | .sl es _ => .sl es .dead
  | p => p
def canonA : PV → PV
  | .agg cs => .agg (cs.map canonC)
  | p => canonC p
def canon : PV → PV
  | .tup cs => .tup (cs.map canonA)
  | p => canonA p

/-- Does what a slice knows of its room stay, where the blocks of the stack from base on go? -/
def Cap.sf (own : Bool) (base : Nat) : Cap → Bool
  | .own o _ _ => own && (match o with | .bl false b => Nat.blt b base | _ => true)
  | _ => true
def plainFn : Fn → Bool
  | .func _ => true
  | _ => false
/-- Does a value mean no block of the stack from base on? (own: a slice may own its room, and a round be meant) -/
def sf (own : Bool) (base : Nat) : Nat → PV → Bool
  | 0, _ => false
  | n + 1, p => match p with
    | .ptr false b _ => Nat.blt b base
    | .rs false b _ _ _ => Nat.blt b base
    | .clo f caps => (own || plainFn f) && caps.all (sf own base n)
    | .agg cs => cs.all (sf own base n)
    | .tup cs => cs.all (sf own base n)
    | .sl _ c => c.sf own base
    | .it _ => own
    | _ => true

/-- One cell that may be put into a frozen row. -/
def plainC : PV → Option PV
  | .sl es _ => some (.sl es .dead)
  | .v x => some (.v x)
  | .ptr true b off => some (.ptr true b off)
  | .rs true b off len sz => some (.rs true b off len sz)
  | .fp cs off => some (.fp cs off)
  | .ni => some .ni
  | .clo f caps => bif plainFn f && caps.all (AM.sf false 0 3) then some (.clo f caps) else none
  | _ => none
def plainCs : List PV → Option (List PV)
  | [] => some []
  | p :: ps => (plainC p).bind fun q => (plainCs ps).bind fun qs => some (q :: qs)

/-! ### operations without a state -/
def isEq : BinOp → Bool
  | .eql | .neq => true
  | _ => false
def eqRes (op : BinOp) (b : Bool) : Option PV := match op with
  | .eql => some (.v (.bool b))
  | .neq => some (.v (.bool (!b)))
  | _ => none

def part (agg : Bool) (size off : Nat) (cs : List PV) : Option PV :=
  match agg with
  | true => bif Nat.ble (off + size) cs.length then some (.agg ((cs.drop off).take size)) else none
  | false => cs[off]?

def eqFs (P : Program) (eq : TypeId → PV → PV → Option Bool) (xs ys : List PV) : List Field → Option Bool
  | [] => some true
  | f :: fs => bif f.name == "_" then none else
    (part (aggT P f.type) (szT P f.type) f.offset xs).bind fun a => (part (aggT P f.type) (szT P f.type) f.offset ys).bind fun b =>
      (eq f.type a b).bind fun c => (eqFs P eq xs ys fs).bind fun d => some (c && d)
/-- Are two values of a plain type the same? -/
def aEq (P : Program) : Nat → TypeId → PV → PV → Option Bool
  | 0, _, _, _ => none
  | n + 1, t, x, y => match P.underlying t with
    | some .bool => match x, y with | .v (.bool a), .v (.bool b) => some (a == b) | _, _ => none
    | some (.int _) => match x, y with | .v (.int k a), .v (.int k' b) => bif decide (k = k') then some (a == b) else none | _, _ => none
    | some .string => match x, y with | .v (.string a), .v (.string b) => some (a == b) | _, _ => none
    | some (.struct fs) => bif P.stoodInHeld t then none else match x, y with | .agg xs, .agg ys => eqFs P (aEq P n) xs ys fs.toList | _, _ => none
    | _ => none

def isConst : Operand → Bool
  | .const _ => true
  | _ => false
def aBin (P : Program) (cst : Bool) (op : BinOp) (t : TypeId) (x y : PV) : Option PV :=
  match x, y with
  | .v .nilIface, .v .nilIface => match P.underlying t with | some (.interface _) => bif cst then eqRes op true else none | _ => none
  | .ni, .v .nilIface => match P.underlying t with | some (.interface _) => eqRes op false | _ => none
  | .v .nilIface, .ni => match P.underlying t with | some (.interface _) => eqRes op false | _ => none
  | .v (.bool a), .v (.bool b) => match P.underlying t with | some .bool => eqRes op (a == b) | _ => none
  | .v a, .v b => flatRes (pureIn P (binOp op t a b))
  | .ptr _ _ _, .v (.pointer none) => match P.underlying t with | some (.pointer _) => eqRes op false | _ => none
  | .v (.pointer none), .ptr _ _ _ => match P.underlying t with | some (.pointer _) => eqRes op false | _ => none
  | .sl (_ :: _) _, .sl [] .nil => match P.underlying t with | some (.slice _) => eqRes op false | _ => none
  | .sl [] .nil, .sl [] .nil => match P.underlying t with | some (.slice _) => eqRes op true | _ => none
  | .rs _ _ _ _ _, .sl [] .nil => match P.underlying t with | some (.slice _) => eqRes op false | _ => none
  | .agg xs, .agg ys => bif P.eqGuardType P.depth t then none else (aEq P 6 t (.agg xs) (.agg ys)).bind fun b => eqRes op b
  | _, _ => none

def aUn (P : Program) (op : UnOp) (x : PV) : Option PV := match x with
  | .v a => flatRes (pureIn P (Op.unary op a))
  | _ => none

/-- A string's bytes, as a slice's elements. -/
def bytesEs (s : ByteArray) : List (List PV) := s.data.toList.map fun b => [.v (.int .u8 b.toNat)]
def byteOfCell : List PV → Option UInt8
  | [.v (.int .u8 n)] => some (UInt8.ofNat n.toNat)
  | _ => none
def bytesOf : List (List PV) → Option (List UInt8)
  | [] => some []
  | c :: cs => (byteOfCell c).bind fun b => (bytesOf cs).bind fun bs => some (b :: bs)

def aConv (P : Program) (src dst : TypeId) (x : PV) : Option PV := match x with
  | .v (.string s) => match P.underlying src, P.underlying dst with
    | some .string, some (.slice e) => match P.underlying e with
      | some (.int .u8) => some (.sl (bytesEs s) .dead)
      | _ => none
    | _, _ => flatRes (pureIn P (convert src dst (.string s)))
  | .v a => flatRes (pureIn P (convert src dst a))
  | .sl es _ => match P.underlying src, P.underlying dst with
    | some (.slice e), some .string => match P.underlying e with
      | some (.int .u8) => (bytesOf es).bind fun bs => some (.v (.string ⟨bs.toArray⟩))
      | _ => none
    | _, _ => none
  | _ => none

def aPick (c a b : PV) : Option PV := match c with
  | .v (.bool t) => some (bif t then a else b)
  | _ => none

def fieldOf (P : Program) (s : TypeId) (f : Nat) : Option Field := match P.underlying s with
  | some (.struct fields) => fields[f]?
  | _ => none
/-- p, n cells further on. -/
def shift (p : PV) (n : Nat) : Option PV := match p with
  | .ptr h b off => some (.ptr h b (off + n))
  | .fp cs off => some (.fp cs (off + n))
  | _ => none
def aFieldAddr (P : Program) (s : TypeId) (x : PV) (f : Nat) : Option PV := match fieldOf P s f with
  | some g => bif Nat.beq (szT P g.type) 0 then none else shift x g.offset
  | none => none

def aField (P : Program) (s : TypeId) (x : PV) (f : Nat) : Option PV := match fieldOf P s f, x with
  | some g, .agg cs => match P.underlying g.type with
    | some _ => part (aggT P g.type) (szT P g.type) g.offset cs
    | none => none
  | _, _ => none

def aExtract (x : PV) (i : Nat) : Option PV := match x with
  | .tup vs => vs[i]?
  | _ => none

def inRange (i : Int) (n : Nat) : Bool := decide (0 ≤ i) && decide (i < (n : Int))
def aIndexAddr (P : Program) (t : TypeId) (x i : PV) : Option PV := match i with
  | .v (.int _ n) => match P.underlying t, x with
    | some (.slice elem), .sl es _ => bif inRange n es.length then (es[n.toNat]?).bind fun e => bif Nat.beq e.length (szT P elem) && !Nat.beq (szT P elem) 0 then some (.fp e 0) else none else none
    | some (.slice elem), .rs h b off len sz => bif inRange n len && Nat.beq (szT P elem) sz && !Nat.beq sz 0 then some (.ptr h b (off + n.toNat * sz)) else none
    | some (.array len elem), p => bif inRange n len && !Nat.beq (szT P elem) 0 then shift p (n.toNat * szT P elem) else none
    | _, _ => none
  | _ => none
def aIndex (P : Program) (t : TypeId) (x i : PV) : Option PV := match x, i with
  | .v s, .v n => flatRes (pureIn P (Instr.index t s n))
  | .agg cs, .v (.int _ n) => match P.underlying t with
    | some (.array len elem) => bif inRange n len && Nat.beq cs.length (len * szT P elem) then (match P.underlying elem with | some _ => part (aggT P elem) (szT P elem) (n.toNat * szT P elem) cs | none => none) else none
    | _ => none
  | _, _ => none

/-- A bound of a slicing: it has to be a whole number from 0 to n. -/
def bnd (x : Option PV) (d n : Nat) : Option Nat := match x with
  | none => some d
  | some (.v (.int _ i)) => bif decide (0 ≤ i) && decide (i ≤ (n : Int)) then some i.toNat else none
  | some _ => none
def optV : Option PV → Option (Option Value)
  | none => some none
  | some (.v a) => some (some a)
  | some _ => none
/-- Is each element of so many cells? -/
def okSz (size : Nat) (es : List (List PV)) : Bool := es.all fun e => Nat.beq e.length size
def sliceCap (c : Cap) (hi len : Nat) (full : Bool) : Cap :=
  bif full then .full else bif Nat.beq hi len then c else .dead
def aSlice (P : Program) (t : TypeId) (x : PV) (lo hi mx : Option PV) : Option PV := match x with
  | .v (.string s) => match optV lo, optV hi, mx with
    | some l, some h, none => match P.underlying t with
      | some .string => flatRes (pureIn P (Instr.slice t (.string s) l h none))
      | _ => none
    | _, _, _ => none
  | .sl es c => match P.underlying t with
    | some (.slice e) => bif Nat.beq (szT P e) 0 then none else
      (bnd mx es.length es.length).bind fun m => (bnd hi es.length m).bind fun h => (bnd lo 0 h).bind fun l =>
        bif (mx.isSome && (hi.isNone || !Nat.beq m h)) || !okSz (szT P e) es then none else
        some (.sl ((es.take h).drop l) (sliceCap c h es.length mx.isSome))
    | _ => none
  | .rs rh rb off len sz => match P.underlying t with
    | some (.slice e) => bif Nat.beq sz 0 || !Nat.beq (szT P e) sz then none else
      (bnd mx len len).bind fun m => (bnd hi len m).bind fun h => (bnd lo 0 h).bind fun l =>
        match mx with
        | none => bif Nat.beq l 0 || Nat.blt l len then some (.rs rh rb (off + l * sz) (h - l) sz) else some (.sl [] .dead)
        | some _ => bif hi.isSome && Nat.beq m h && Nat.beq h l then some (.sl [] .full) else none
    | _ => none
  | _ => none

def aLen (P : Program) (t : TypeId) (x : PV) : Option PV := match x with
  | .sl es _ => match P.underlying t with
    | some (.slice _) => some (.v (.int .i64 es.length))
    | _ => none
  | .rs _ _ _ len _ => match P.underlying t with
    | some (.slice _) => some (.v (.int .i64 len))
    | _ => none
  | .v (.string s) => match P.underlying t with
    | some .string => some (.v (.int .i64 s.size))
    | _ => none
  | _ => none

def aMax2 (P : Program) (x y : PV) : Option PV := match x, y with
  | .v a, .v b => flatRes (pureIn P (Builtin.max2 a b))
  | _, _ => none
def aMin2 (P : Program) (x y : PV) : Option PV := match x, y with
  | .v a, .v b => flatRes (pureIn P (Builtin.min2 a b))
  | _, _ => none

/-- Parts laid into a row of cells. -/
def laid (cells : List PV) (off : Nat) : List PV → List PV
  | [] => cells
  | c :: cs => laid (cells.set off c) (off + 1) cs
def fillP (place : Nat → Option (Nat × Nat)) (cells : List PV) : List (Nat × PV) → Option (List PV)
  | [] => some cells
  | (i, v) :: rest => match place i, cellsOf v with
    | some (off, size), some cs => bif Nat.beq cs.length size && Nat.ble (off + size) cells.length then fillP place (laid cells off cs) rest else none
    | _, _ => none
def placesOf (P : Program) (fields : Array Field) : Option (List (Nat × Nat)) := fields.toList.mapM (fun f => (P.info? f.type).map fun i => (f.offset, i.size))
def aBuild (P : Program) (t : TypeId) (parts : List (Nat × PV)) : Option PV :=
  (zeroT P t).bind fun z => match P.underlying t with
    | some (.struct fields) => (placesOf P fields).bind fun pl => (fillP (fun i => pl.toArray[i]?) z parts).bind fun cs => some (.agg cs)
    | some (.array _ e) => match P.info? e with
      | some ie => (fillP (fun i => some (i * ie.size, ie.size)) z parts).bind fun cs => some (.agg cs)
      | none => none
    | _ => none

/-- A row of cells, size by size. -/
def chunks (size : Nat) : Nat → List PV → List (List PV)
  | 0, _ => []
  | n + 1, cs => cs.take size :: chunks size n (cs.drop size)
def reps (n : Nat) (z : List PV) : List PV := match n with
  | 0 => []
  | n + 1 => z ++ reps n z
def litCells (P : Program) (t : TypeId) (len : Nat) (parts : List (Nat × PV)) : Option (List PV × Nat) := match P.underlying t with
  | some (.slice e) => (zeroT P e).bind fun z =>
    bif Nat.beq z.length (szT P e) && Nat.ble (len * szT P e) 16777216 && !Nat.beq (szT P e) 0 then
      (fillP (fun i => some (i * szT P e, szT P e)) (reps len z) parts).bind fun cs => (plainCs cs).bind fun ds => some (ds, szT P e)
    else none
  | _ => none
def aBuildSlice (P : Program) (t : TypeId) (len : Nat) (parts : List (Nat × PV)) : Option PV := (litCells P t len parts).bind fun r => some (.sl (chunks r.2 len r.1) .full)
def aBuildRow (P : Program) (h : Bool) (t : TypeId) (len : Nat) (parts : List (Nat × PV)) (st : St) : Option (PV × St) :=
  (litCells P t len parts).bind fun r => some (.rs h (st.len h) 0 len r.2, st.lay h r.1)

/-- A string's iterator: made, and asked. -/
def aRange (P : Program) (t : TypeId) (x : PV) (st : St) : Option (PV × St) := match P.underlying t, x with
  | some .string, .v (.string s) => some (.it st.lp.length, { st with lp := st.lp ++ [.iter s 0] })
  | _, _ => none
def aNext (x : PV) (st : St) : Option (PV × St) := match x with
  | .it i => match st.lp[i]? with
    | some (.iter s pos) => bif Nat.blt pos s.size then some (.tup [.v (.bool true), .v (.int .i64 pos), .v (.int .i32 (Utf8.decode s pos).1)], st.setLp i (.iter s (pos + (Utf8.decode s pos).2)))
      else some (.tup [.v (.bool false)], st)
    | _ => none
  | _ => none

def aMakeFunc (f : Fn) (first : Bool) (caps : List PV) : Option PV := bif first && plainFn f then some (.clo f (caps.map canon)) else none

def aNilCheck (x : PV) : Option PV := match x with
  | .ptr h b off => some (.ptr h b off)
  | .fp cs off => some (.fp cs off)
  | .clo (.func f) caps => some (.clo (.func f) caps)
  | .clo (.yield i) caps => some (.clo (.yield i) caps)
  | _ => none

/-! ### operations with a state -/
def aLoad (agg : Bool) (size : Nat) (x : PV) (st : St) : Option PV := match x with
  | .ptr h b off => (st.blk h b).bind (part agg size off)
  | .fp cs off => part agg size off cs
  | _ => none

/-- Are all of these cells, and may they lie in a block of this frame? -/
def okCells : List PV → Bool
  | [] => true
  | .agg _ :: _ | .tup _ :: _ | .u :: _ => false
  | _ :: cs => okCells cs
/-- One cell that goes into a block that is not this frame's own: a slice's room goes with it. -/
def moveC (h : Bool) (b : Nat) (p : PV) (st : St) : Option (PV × St) := match p with
  | .sl es (.own o t e) => bif o.is h b then some (p, st) else
    match st.tok o t with
    | some y => bif Nat.beq y.1 e then some (.sl es (.own (.bl h b) (st.ntok h b) e), (st.setTok o t (e + 1, y.2)).pushBTok h b (e, y.2)) else some (.sl es .dead, st)
    | none => some (.sl es .dead, st)
  | .sl es c => some (.sl es c, st)
  | .v x => some (.v x, st)
  | .fp cs off => some (.fp cs off, st)
  | .ni => some (.ni, st)
  | .ptr true b off => some (.ptr true b off, st)
  | .rs true b off len sz => some (.rs true b off len sz, st)
  | .clo f caps => bif plainFn f && caps.all (sf false 0 3) then some (.clo f caps, st) else none
  | _ => none
def moveCs (h : Bool) (b : Nat) : List PV → St → Option (List PV × St)
  | [], st => some ([], st)
  | p :: ps, st => (moveC h b p st).bind fun r => (moveCs h b ps r.2).bind fun q => some (r.1 :: q.1, q.2)
/-- Cells are written into a block. -/
def putCells (base : Nat) (h : Bool) (b off : Nat) (cs : List PV) (st : St) : Option St :=
  (st.blk h b).bind fun old => bif Nat.ble (off + cs.length) old.length && okCells cs then
    bif h || Nat.blt b base then (moveCs h b cs st).bind fun r => some (r.2.setBlk h b (laid old off r.1)) else some (st.setBlk h b (laid old off cs))
  else none
def aStore (base size : Nat) (x v : PV) (st : St) : Option St := match x with
  | .ptr h b off => (cellsOf v).bind fun cs => bif Nat.beq cs.length size && !Nat.beq size 0 then putCells base h b off cs st else none
  | _ => none
/-- A new block that holds a value's cells. -/
def aBox (h : Bool) (cs : List PV) (st : St) : Option (PV × St) := match h with
  | false => some (.ptr false st.stk.length 0, st.push cs)
  | true => bif okCells cs then (moveCs true st.hp.length cs (st.hpush (cs.map fun _ => .u))).bind fun r => some (.ptr true st.hp.length 0, r.2.setBlk true st.hp.length r.1) else none

def maxLenB : Nat := 140737488355328
/-- The cells of a slice's elements: frozen, or read now. -/
def rsCells (st : St) (h : Bool) (b off n : Nat) : Option (List PV) := (st.blk h b).bind fun cs => bif Nat.ble (off + n) cs.length then some ((cs.drop off).take n) else none
def elemsOf (st : St) (x : PV) : Option (List (List PV)) := match x with
  | .sl es _ => some es
  | .v (.string s) => some (bytesEs s)
  | .rs h b off len sz => (rsCells st h b off (len * sz)).bind fun cs => (plainCs cs).bind fun ds => some (chunks sz len ds)
  | _ => none
def flat (es : List (List PV)) : List PV := es.flatten
def aAppend (size bytes : Nat) (s : PV) (ys : List (List PV)) (st : St) : Option (PV × St) := match s with
  | .sl es c => bif Nat.ble ((es.length + ys.length) * bytes) maxLenB && okSz size es && okSz size ys && !Nat.beq size 0 && !Nat.beq bytes 0 then
      match c with
      | .dead => none
      | .own o t e => match st.tok o t with
        | some e' => bif Nat.beq e'.1 e && Nat.beq e'.2 size then some (.sl (es ++ ys) (.own o t (e + ys.length)), st.setTok o t (e + ys.length, size)) else none
        | none => none
      | .nil | .full => some (.sl (es ++ ys) (.own .fr st.tk.length (es.length + ys.length)), st.pushTok (es.length + ys.length, size))
    else none
  | _ => none
/-- Append that lays a new row, to be written in place. -/
def aAppendM (h : Bool) (size bytes : Nat) (s : PV) (ys : List (List PV)) (st : St) : Option (PV × St) := match s with
  | .sl es c => bif Nat.ble ((es.length + ys.length) * bytes) maxLenB && okSz size es && okSz size ys && !Nat.beq size 0 && !Nat.beq bytes 0 then
      match c with
      | .nil | .full => match ys with
        | [] => some (.sl es c, st)
        | _ :: _ => some (.rs h (st.len h) 0 (es.length + ys.length) size, st.lay h (flat (es ++ ys)))
      | _ => none
    else none
  | _ => none
/-- Append to a row that is written in place: within its block, or into a new one; the old one is shut. -/
def aAppendR (base size bytes : Nat) (s : PV) (ys : List (List PV)) (st : St) : Option (PV × St) := match s with
  | .rs h b off len sz => bif Nat.beq sz size && Nat.ble ((len + ys.length) * bytes) maxLenB && okSz size ys && !Nat.beq size 0 && !Nat.beq bytes 0 then
      (st.blk h b).bind fun old =>
        bif Nat.ble (off + (len + ys.length) * size) old.length then (putCells base h b (off + len * size) (flat ys) st).bind fun st' => some (.rs h b off (len + ys.length) size, st')
        else bif Nat.beq off 0 && Nat.ble (len * size) old.length && Nat.blt 0 old.length then some (.rs h (st.len h) 0 (len + ys.length) size, (st.setBlk h b []).lay h (old.take (len * size) ++ flat ys))
        else none
    else none
  | _ => none
def aCopy (base size : Nat) (d : PV) (ys : List (List PV)) (st : St) : Option (PV × St) := match d with
  | .rs h b off len sz => bif Nat.beq sz size && okSz size ys && !Nat.beq size 0 then
      (putCells base h b off (flat (ys.take len)) st).bind fun st' => some (.v (.int .i64 (min ys.length len)), st')
    else none
  | _ => none
def aMakeSlice (P : Program) (h : Bool) (t : TypeId) (l c : PV) (st : St) : Option (PV × St) := match P.underlying t, l, c with
  | some (.slice e), .v (.int _ n), .v (.int _ m) => (zeroT P e).bind fun z =>
    bif decide (0 ≤ n) && decide (n = m) && Nat.ble (n.toNat * byT P e) maxLenB && Nat.ble (n.toNat) maxLenB && Nat.beq z.length (szT P e) && !Nat.beq (szT P e) 0 then
      some (.rs h (st.len h) 0 n.toNat (szT P e), st.lay h (reps n.toNat z))
    else none
  | _, _, _ => none
def aCap (P : Program) (t : TypeId) (x : PV) : Option PV := match P.underlying t, x with
  | some (.slice _), .sl es .nil => some (.v (.int .i64 es.length))
  | some (.slice _), .sl es .full => some (.v (.int .i64 es.length))
  | _, _ => none
def aClear (P : Program) (base : Nat) (t : TypeId) (x : PV) (st : St) : Option St := match P.underlying t, x with
  | some (.slice e), .rs h b off len sz => (zeroT P e).bind fun z => bif Nat.beq z.length sz && Nat.beq (szT P e) sz && !Nat.beq sz 0 then putCells base h b off (reps len z) st else none
  | _, _ => none

end Go.AM
