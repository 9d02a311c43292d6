/- The abstract machine: plain values, states, and what each operation does to them. Definitions alone. No condition. -/
import Derived.Orders
import Derived.OrdersHeld
import Derived.Laws.Sem
import Derived.Below
import Derived.Laws.IdiomCopy
import Derived.Laws.Cells
import Derived.Laws.Entries
import Derived.Laws.StructEq
import Derived.Laws.BytesString
import Derived.Laws.Tables
import Derived.Laws.Append
set_option linter.all false
namespace Go.AM
open Go

/-- What lives behind each if and at each loop's head, along the code. -/
inductive Ann where
  | nil
  | seq (u v : Ann)
  | cnd (live : List Nat) (u v : Ann)
  | lop (live : List Nat) (tr : Bool) (u : Ann)
  | blk (u : Ann)
def Ann.x : Ann → Ann
  | .seq u _ | .cnd _ u _ | .lop _ _ u | .blk u => u
  | .nil => .nil
def Ann.y : Ann → Ann
  | .seq _ v | .cnd _ _ v => v
  | _ => .nil
def Ann.live : Ann → List Nat
  | .cnd w _ _ | .lop w _ _ => w
  | _ => []
def Ann.tr : Ann → Bool
  | .lop _ t _ => t
  | _ => false

/-- Whose a token is: the frame's, or a block's. -/
inductive Ow where
  | fr
  | bl (h : Bool) (b : Nat)
def eqB : Bool → Bool → Bool
  | true, true | false, false => true
  | _, _ => false
def Ow.is (o : Ow) (h : Bool) (b : Nat) : Bool := match o with
  | .fr => false
  | .bl h' b' => eqB h' h && Nat.beq b' b

/-- What is known of a slice's room: it is nil; it has none; nothing is known; the room behind it is its own, as token t of an owner tells, while it ends at e. -/
inductive Cap where
  | nil | full | dead
  | own (o : Ow) (t e : Nat)

inductive PV where
  | u
  | v (x : Value)
  | agg (cs : List PV)
  | tup (cs : List PV)
  | ptr (h : Bool) (b off : Nat)
  | fp (cs : List PV) (off : Nat)
  | sl (es : List (List PV)) (c : Cap)
  /-- A slice that is written in place: a part of a block. -/
  | rs (h : Bool) (b off len sz : Nat)
  | clo (f : Fn) (caps : List PV)
  /-- An interface's value that is not nil. -/
  | ni
  /-- A string's iterator. -/
  | it (i : Nat)
  /-- An interface's value, of a type: a plain one. -/
  | ifc (t : TypeId) (x : Value)
  /-- What a call ends with that panics. -/
  | pan (t : TypeId) (x : Value)

instance : Inhabited PV := ⟨.u⟩

inductive Ex where
  | normal | exit (id : Nat) | ret
  /-- A panic, with its value. -/
  | pan (t : TypeId) (x : Value)

/-- Which of a function's temporaries are laid on the heap; which rows are written in place. -/
structure Md where
  hp : List Nat
  mu : List Nat
def Md.of (m : Md) (dst : Option Nat) : Nat := match dst with
  | some d => bif m.hp.any (Nat.beq d) then 2 else bif m.mu.any (Nat.beq d) then 1 else 0
  | none => 0

/-- A loop over a function, at work. -/
structure Lp where
  live : List Nat
  vs : List PV
  n : Nat
  md : Md
  ps : List Nat
  assign : Code
  body : Code
  A : Ann
  /-- 0: ready; 1: busy; 2: done -/
  at_ : Nat
  pend : Ex

/-- What lies beside the blocks: loops over functions, iterators. -/
inductive Aux where
  | loop (r : Lp)
  | iter (s : ByteArray) (pos : Nat)

structure Blk where
  cs : List PV
  tk : List (Nat × Nat)

structure St where
  stk : List Blk
  hp : List Blk
  tk : List (Nat × Nat)
  lp : List Aux

def St.bk (s : St) (h : Bool) (b : Nat) : Option Blk := match h with | true => s.hp[b]? | false => s.stk[b]?
def St.blk (s : St) (h : Bool) (b : Nat) : Option (List PV) := (s.bk h b).map Blk.cs
def St.tok (s : St) (o : Ow) (t : Nat) : Option (Nat × Nat) := match o with | .fr => s.tk[t]? | .bl h b => (s.bk h b).bind fun x => x.tk[t]?
def St.push (s : St) (cs : List PV) : St := { s with stk := s.stk ++ [⟨cs, []⟩] }
def St.hpush (s : St) (cs : List PV) : St := { s with hp := s.hp ++ [⟨cs, []⟩] }
def St.lay (s : St) (h : Bool) (cs : List PV) : St := match h with | true => s.hpush cs | false => s.push cs
def St.len (s : St) (h : Bool) : Nat := match h with | true => s.hp.length | false => s.stk.length
def St.upB (s : St) (h : Bool) (b : Nat) (f : Blk → Blk) : St := match h with | true => { s with hp := s.hp.modify b f } | false => { s with stk := s.stk.modify b f }
def St.setBlk (s : St) (h : Bool) (b : Nat) (cs : List PV) : St := s.upB h b fun x => ⟨cs, x.tk⟩
def St.setTok (s : St) (o : Ow) (t : Nat) (e : Nat × Nat) : St := match o with | .fr => { s with tk := s.tk.set t e } | .bl h b => s.upB h b fun x => ⟨x.cs, x.tk.set t e⟩
def St.pushTok (s : St) (e : Nat × Nat) : St := { s with tk := s.tk ++ [e] }
def St.pushBTok (s : St) (h : Bool) (b : Nat) (e : Nat × Nat) : St := s.upB h b fun x => ⟨x.cs, x.tk ++ [e]⟩
def St.ntok (s : St) (h : Bool) (b : Nat) : Nat := match s.bk h b with | some x => x.tk.length | none => 0
def St.setLp (s : St) (i : Nat) (r : Aux) : St := { s with lp := s.lp.set i r }
def St.loop (s : St) (i : Nat) : Option Lp := match s.lp[i]? with | some (.loop r) => some r | _ => none
/-- What a call or a round laid goes. -/
def St.back (s : St) (m t l : Nat) : St := ⟨s.stk.take m, s.hp, s.tk.take t, s.lp.take l⟩

abbrev Env := Nat → PV
def upd (e : Env) (i : Nat) (p : PV) : Env := fun j => bif Nat.beq j i then p else e j
def put (n : Nat) (e : Env) (dst : Option Nat) (p : PV) : Env := match dst with | some d => bif Nat.blt d n then upd e d p else e | none => e
def nth (vs : List PV) (i : Nat) : PV := vs.getD i .u
def mkEnvI (vs : List PV) : List Nat → Nat → Env
  | i :: is, j => upd (mkEnvI vs is (j + 1)) i (nth vs j)
  | [], _ => fun _ => .u
def mkEnv (is : List Nat) (vs : List PV) : Env := mkEnvI vs is 0
def argEnv : Nat → List PV → Env
  | i, p :: ps => upd (argEnv (i + 1) ps) i p
  | _, [] => fun _ => .u

def flatV : Value → Bool
  | .bool _ | .int _ _ | .float _ _ | .complex _ _ _ | .string _ | .pointer none | .nilFunc | .nilIface | .map none | .chan none => true
  | _ => false

def ofLeaf (x : Value) : PV := match x with
  | .slice none l c => match l, c with | 0, 0 => .sl [] .nil | _, _ => .u
  | .func f a b => match f, a, b with | .func g, ⟨[]⟩, ⟨[]⟩ => .clo (.func g) [] | _, _, _ => .u
  | x => bif flatV x then .v x else .u
def ofConst (x : Value) : PV := match x with
  | .agg cs => bif cs.toList.all Value.oneCell' then .agg (cs.toList.map ofLeaf) else .u
  | x => ofLeaf x

def opnd (gl : Nat → PV) (e : Env) : Operand → PV
  | .tmp t => e t
  | .const v => ofConst v
  | .global g => gl g
  | .func f => .clo (.func f) []

def aggT (P : Program) (t : TypeId) : Bool := match P.underlying t with | some (.struct _) | some (.array _ _) => true | _ => false
def szT (P : Program) (t : TypeId) : Nat := match P.info? t with | some i => i.size | none => 0
def byT (P : Program) (t : TypeId) : Nat := match P.info? t with
  | some i => match i.zero with
    | some v => bif Nat.beq v.cells.size i.size then i.bytes else 0
    | none => 0
  | none => 0
def zeroT (P : Program) (t : TypeId) : Option (List PV) := match P.info? t with
  | some i => match i.zero with
    | some v => bif v.cells.toList.all Value.oneCell' then some (v.cells.toList.map ofLeaf) else none
    | none => none
  | none => none

def pureIn {α : Type} (P : Program) : Sem α → Option α
  | .pure a => some a
  | .program k => pureIn P (k P)
  | _ => none

def flatRes : Option Value → Option PV
  | some x => bif flatV x then some (.v x) else none
  | none => none

/-- All cells of a value, one by one. -/
def cellsOf : PV → Option (List PV)
  | .agg cs => some cs
  | .tup _ | .u | .pan _ _ => none
  | p => some [p]

def canonC : PV → PV
  | .sl es _ => .sl es .dead
  | p => p
def canonA : PV → PV
  | .agg cs => .agg (cs.map canonC)
  | p => canonC p
def canon : PV → PV
  | .tup cs => .tup (cs.map canonA)
  | p => canonA p

/-- Does what a slice knows of its room stay, where the blocks of the stack from base on go? -/
def Cap.sf (own : Bool) (base : Nat) : Cap → Bool
  | .own o _ _ => own && (match o with | .bl false b => Nat.blt b base | _ => true)
  | _ => true
def plainFn : Fn → Bool
  | .func _ => true
  | _ => false
/-- Does a value mean no block of the stack from base on? (own: a slice may own its room, and a round be meant) -/
def sf (own : Bool) (base : Nat) : Nat → PV → Bool
  | 0, _ => false
  | n + 1, p => match p with
    | .ptr false b _ => Nat.blt b base
    | .rs false b _ _ _ => Nat.blt b base
    | .clo f caps => (own || plainFn f) && caps.all (sf own base n)
    | .agg cs => cs.all (sf own base n)
    | .tup cs => cs.all (sf own base n)
    | .sl _ c => c.sf own base
    | .it _ => own
    | .pan _ _ => false
    | _ => true

/-- One cell that may be put into a frozen row. -/
def plainC : PV → Option PV
  | .sl es _ => some (.sl es .dead)
  | .v x => some (.v x)
  | .ptr true b off => some (.ptr true b off)
  | .rs true b off len sz => some (.rs true b off len sz)
  | .fp cs off => some (.fp cs off)
  | .ni => some .ni
  | .ifc t x => some (.ifc t x)
  | .clo f caps => bif plainFn f && caps.all (AM.sf false 0 3) then some (.clo f caps) else none
  | _ => none
def plainCs : List PV → Option (List PV)
  | [] => some []
  | p :: ps => (plainC p).bind fun q => (plainCs ps).bind fun qs => some (q :: qs)

/-! ### operations without a state -/
def isEq : BinOp → Bool
  | .eql | .neq => true
  | _ => false
def eqRes (op : BinOp) (b : Bool) : Option PV := match op with
  | .eql => some (.v (.bool b))
  | .neq => some (.v (.bool (!b)))
  | _ => none

def part (agg : Bool) (size off : Nat) (cs : List PV) : Option PV :=
  match agg with
  | true => bif Nat.ble (off + size) cs.length then some (.agg ((cs.drop off).take size)) else none
  | false => cs[off]?

def eqFs (P : Program) (eq : TypeId → PV → PV → Option Bool) (xs ys : List PV) : List Field → Option Bool
  | [] => some true
  | f :: fs => bif f.name == "_" then none else
    (part (aggT P f.type) (szT P f.type) f.offset xs).bind fun a => (part (aggT P f.type) (szT P f.type) f.offset ys).bind fun b =>
      (eq f.type a b).bind fun c => (eqFs P eq xs ys fs).bind fun d => some (c && d)
/-- Are two values of a plain type the same? -/
def aEq (P : Program) : Nat → TypeId → PV → PV → Option Bool
  | 0, _, _, _ => none
  | n + 1, t, x, y => match P.underlying t with
    | some .bool => match x, y with | .v (.bool a), .v (.bool b) => some (a == b) | _, _ => none
    | some (.int _) => match x, y with | .v (.int k a), .v (.int k' b) => bif decide (k = k') then some (a == b) else none | _, _ => none
    | some .string => match x, y with | .v (.string a), .v (.string b) => some (a == b) | _, _ => none
    | some (.struct fs) => bif P.stoodInHeld t then none else match x, y with | .agg xs, .agg ys => eqFs P (aEq P n) xs ys fs.toList | _, _ => none
    | _ => none

/-- Are two values the same that interfaces hold: of two types, or whole numbers of one? -/
def ifcEq (P : Program) (a b : TypeId) (x y : Value) : Option Bool := bif Nat.beq a b then
    (match P.info? a with
      | some i => bif i.comparable then (match P.underlying a, x, y with | some (.int _), .int k m, .int l n => bif decide (k = l) then some (m == n) else none | _, _, _ => none) else none
      | none => none)
  else some false
def isConst : Operand → Bool
  | .const _ => true
  | _ => false
def aBin (P : Program) (cst : Bool) (op : BinOp) (t : TypeId) (x y : PV) : Option PV :=
  match x, y with
  | .v .nilIface, .v .nilIface => match P.underlying t with | some (.interface _) => bif cst then eqRes op true else none | _ => none
  | .ni, .v .nilIface => match P.underlying t with | some (.interface _) => eqRes op false | _ => none
  | .ifc _ _, .v .nilIface => match P.underlying t with | some (.interface _) => eqRes op false | _ => none
  | .v .nilIface, .ifc _ _ => match P.underlying t with | some (.interface _) => eqRes op false | _ => none
  | .ifc a x, .ifc b y => match P.underlying t with | some (.interface _) => (ifcEq P a b x y).bind fun c => eqRes op c | _ => none
  | .v .nilIface, .ni => match P.underlying t with | some (.interface _) => eqRes op false | _ => none
  | .v (.bool a), .v (.bool b) => match P.underlying t with | some .bool => eqRes op (a == b) | _ => none
  | .v a, .v b => flatRes (pureIn P (binOp op t a b))
  | .ptr _ _ _, .v (.pointer none) => match P.underlying t with | some (.pointer _) => eqRes op false | _ => none
  | .v (.pointer none), .ptr _ _ _ => match P.underlying t with | some (.pointer _) => eqRes op false | _ => none
  | .sl (_ :: _) _, .sl [] .nil => match P.underlying t with | some (.slice _) => eqRes op false | _ => none
  | .sl [] .nil, .sl [] .nil => match P.underlying t with | some (.slice _) => eqRes op true | _ => none
  | .rs _ _ _ _ _, .sl [] .nil => match P.underlying t with | some (.slice _) => eqRes op false | _ => none
  | .agg xs, .agg ys => bif P.eqGuardType P.depth t then none else (aEq P 6 t (.agg xs) (.agg ys)).bind fun b => eqRes op b
  | _, _ => none

def aUn (P : Program) (op : UnOp) (x : PV) : Option PV := match x with
  | .v a => flatRes (pureIn P (Op.unary op a))
  | _ => none

/-- A string's bytes, as a slice's elements. -/
def bytesEs (s : ByteArray) : List (List PV) := s.data.toList.map fun b => [.v (.int .u8 b.toNat)]
def byteOfCell : List PV → Option UInt8
  | [.v (.int .u8 n)] => some (UInt8.ofNat n.toNat)
  | _ => none
def bytesOf : List (List PV) → Option (List UInt8)
  | [] => some []
  | c :: cs => (byteOfCell c).bind fun b => (bytesOf cs).bind fun bs => some (b :: bs)

def aConv (P : Program) (src dst : TypeId) (x : PV) : Option PV := match x with
  | .v (.string s) => match P.underlying src, P.underlying dst with
    | some .string, some (.slice e) => match P.underlying e with
      | some (.int .u8) => some (.sl (bytesEs s) .dead)
      | _ => none
    | _, _ => flatRes (pureIn P (convert src dst (.string s)))
  | .v a => flatRes (pureIn P (convert src dst a))
  | .sl es _ => match P.underlying src, P.underlying dst with
    | some (.slice e), some .string => match P.underlying e with
      | some (.int .u8) => (bytesOf es).bind fun bs => some (.v (.string ⟨bs.toArray⟩))
      | _ => none
    | _, _ => none
  | _ => none

/-- A value put into an interface. -/
def aIface (P : Program) (t : TypeId) (x : PV) : Option PV := match P.underlying t with
  | some (.interface _) => none
  | some _ => match x with
    | .v a => some (.ifc t a)
    | .agg [] => some (.ifc t (.agg #[]))
    | .u | .pan _ _ | .tup _ => none
    | _ => some .ni
  | none => none
def aPick (c a b : PV) : Option PV := match c with
  | .v (.bool t) => some (bif t then a else b)
  | _ => none

def fieldOf (P : Program) (s : TypeId) (f : Nat) : Option Field := match P.underlying s with
  | some (.struct fields) => fields[f]?
  | _ => none
/-- p, n cells further on. -/
def shift (p : PV) (n : Nat) : Option PV := match p with
  | .ptr h b off => some (.ptr h b (off + n))
  | .fp cs off => some (.fp cs (off + n))
  | _ => none
def aFieldAddr (P : Program) (s : TypeId) (x : PV) (f : Nat) : Option PV := match fieldOf P s f with
  | some g => bif Nat.beq (szT P g.type) 0 then none else shift x g.offset
  | none => none

def aField (P : Program) (s : TypeId) (x : PV) (f : Nat) : Option PV := match fieldOf P s f, x with
  | some g, .agg cs => match P.underlying g.type with
    | some _ => part (aggT P g.type) (szT P g.type) g.offset cs
    | none => none
  | _, _ => none

def aExtract (x : PV) (i : Nat) : Option PV := match x with
  | .tup vs => vs[i]?
  | _ => none

def inRange (i : Int) (n : Nat) : Bool := decide (0 ≤ i) && decide (i < (n : Int))
def aIndexAddr (P : Program) (t : TypeId) (x i : PV) : Option PV := match i with
  | .v (.int _ n) => match P.underlying t, x with
    | some (.slice elem), .sl es _ => bif inRange n es.length then (es[n.toNat]?).bind fun e => bif Nat.beq e.length (szT P elem) && !Nat.beq (szT P elem) 0 then some (.fp e 0) else none else none
    | some (.slice elem), .rs h b off len sz => bif inRange n len && Nat.beq (szT P elem) sz && !Nat.beq sz 0 then some (.ptr h b (off + n.toNat * sz)) else none
    | some (.array len elem), p => bif inRange n len && !Nat.beq (szT P elem) 0 then shift p (n.toNat * szT P elem) else none
    | _, _ => none
  | _ => none
def aIndex (P : Program) (t : TypeId) (x i : PV) : Option PV := match x, i with
  | .v s, .v n => flatRes (pureIn P (Instr.index t s n))
  | .agg cs, .v (.int _ n) => match P.underlying t with
    | some (.array len elem) => bif inRange n len && Nat.beq cs.length (len * szT P elem) then (match P.underlying elem with | some _ => part (aggT P elem) (szT P elem) (n.toNat * szT P elem) cs | none => none) else none
    | _ => none
  | _, _ => none

/-- A bound of a slicing: it has to be a whole number from 0 to n. -/
def bnd (x : Option PV) (d n : Nat) : Option Nat := match x with
  | none => some d
  | some (.v (.int _ i)) => bif decide (0 ≤ i) && decide (i ≤ (n : Int)) then some i.toNat else none
  | some _ => none
def optV : Option PV → Option (Option Value)
  | none => some none
  | some (.v a) => some (some a)
  | some _ => none
/-- Is each element of so many cells? -/
def okSz (size : Nat) (es : List (List PV)) : Bool := es.all fun e => Nat.beq e.length size
def sliceCap (c : Cap) (hi len : Nat) (full : Bool) : Cap :=
  bif full then .full else bif Nat.beq hi len then c else .dead
def aSlice (P : Program) (t : TypeId) (x : PV) (lo hi mx : Option PV) : Option PV := match x with
  | .v (.string s) => match optV lo, optV hi, mx with
    | some l, some h, none => match P.underlying t with
      | some .string => flatRes (pureIn P (Instr.slice t (.string s) l h none))
      | _ => none
    | _, _, _ => none
  | .sl es c => match P.underlying t with
    | some (.slice e) => bif Nat.beq (szT P e) 0 then none else
      (bnd mx es.length es.length).bind fun m => (bnd hi es.length m).bind fun h => (bnd lo 0 h).bind fun l =>
        bif (mx.isSome && (hi.isNone || !Nat.beq m h)) || !okSz (szT P e) es then none else
        some (.sl ((es.take h).drop l) (sliceCap c h es.length mx.isSome))
    | _ => none
  | .rs rh rb off len sz => match P.underlying t with
    | some (.slice e) => bif Nat.beq sz 0 || !Nat.beq (szT P e) sz then none else
      (bnd mx len len).bind fun m => (bnd hi len m).bind fun h => (bnd lo 0 h).bind fun l =>
        match mx with
        | none => bif Nat.beq l 0 || Nat.blt l len then some (.rs rh rb (off + l * sz) (h - l) sz) else some (.sl [] .dead)
        | some _ => bif hi.isSome && Nat.beq m h && Nat.beq h l then some (.sl [] .full) else none
    | _ => none
  | _ => none

def aLen (P : Program) (t : TypeId) (x : PV) : Option PV := match x with
  | .sl es _ => match P.underlying t with
    | some (.slice _) => some (.v (.int .i64 es.length))
    | _ => none
  | .rs _ _ _ len _ => match P.underlying t with
    | some (.slice _) => some (.v (.int .i64 len))
    | _ => none
  | .v (.string s) => match P.underlying t with
    | some .string => some (.v (.int .i64 s.size))
    | _ => none
  | _ => none

def aMax2 (P : Program) (x y : PV) : Option PV := match x, y with
  | .v a, .v b => flatRes (pureIn P (Builtin.max2 a b))
  | _, _ => none
def aMin2 (P : Program) (x y : PV) : Option PV := match x, y with
  | .v a, .v b => flatRes (pureIn P (Builtin.min2 a b))
  | _, _ => none

/-- Parts laid into a row of cells. -/
def laid (cells : List PV) (off : Nat) : List PV → List PV
  | [] => cells
  | c :: cs => laid (cells.set off c) (off + 1) cs
def fillP (place : Nat → Option (Nat × Nat)) (cells : List PV) : List (Nat × PV) → Option (List PV)
  | [] => some cells
  | (i, v) :: rest => match place i, cellsOf v with
    | some (off, size), some cs => bif Nat.beq cs.length size && Nat.ble (off + size) cells.length then fillP place (laid cells off cs) rest else none
    | _, _ => none
def placesOf (P : Program) (fields : Array Field) : Option (List (Nat × Nat)) := fields.toList.mapM (fun f => (P.info? f.type).map fun i => (f.offset, i.size))
def aBuild (P : Program) (t : TypeId) (parts : List (Nat × PV)) : Option PV :=
  (zeroT P t).bind fun z => match P.underlying t with
    | some (.struct fields) => (placesOf P fields).bind fun pl => (fillP (fun i => pl.toArray[i]?) z parts).bind fun cs => some (.agg cs)
    | some (.array _ e) => match P.info? e with
      | some ie => (fillP (fun i => some (i * ie.size, ie.size)) z parts).bind fun cs => some (.agg cs)
      | none => none
    | _ => none

/-- A row of cells, size by size. -/
def chunks (size : Nat) : Nat → List PV → List (List PV)
  | 0, _ => []
  | n + 1, cs => cs.take size :: chunks size n (cs.drop size)
def reps (n : Nat) (z : List PV) : List PV := match n with
  | 0 => []
  | n + 1 => z ++ reps n z
def litCells (P : Program) (t : TypeId) (len : Nat) (parts : List (Nat × PV)) : Option (List PV × Nat) := match P.underlying t with
  | some (.slice e) => (zeroT P e).bind fun z =>
    bif Nat.beq z.length (szT P e) && Nat.ble (len * szT P e) 16777216 && !Nat.beq (szT P e) 0 then
      (fillP (fun i => some (i * szT P e, szT P e)) (reps len z) parts).bind fun cs => (plainCs cs).bind fun ds => some (ds, szT P e)
    else none
  | _ => none
def aBuildSlice (P : Program) (t : TypeId) (len : Nat) (parts : List (Nat × PV)) : Option PV := (litCells P t len parts).bind fun r => some (.sl (chunks r.2 len r.1) .full)
def aBuildRow (P : Program) (h : Bool) (t : TypeId) (len : Nat) (parts : List (Nat × PV)) (st : St) : Option (PV × St) :=
  (litCells P t len parts).bind fun r => some (.rs h (st.len h) 0 len r.2, st.lay h r.1)

/-- A string's iterator: made, and asked. -/
def aRange (P : Program) (t : TypeId) (x : PV) (st : St) : Option (PV × St) := match P.underlying t, x with
  | some .string, .v (.string s) => some (.it st.lp.length, { st with lp := st.lp ++ [.iter s 0] })
  | _, _ => none
def aNext (x : PV) (st : St) : Option (PV × St) := match x with
  | .it i => match st.lp[i]? with
    | some (.iter s pos) => bif Nat.blt pos s.size then some (.tup [.v (.bool true), .v (.int .i64 pos), .v (.int .i32 (Utf8.decode s pos).1)], st.setLp i (.iter s (pos + (Utf8.decode s pos).2)))
      else some (.tup [.v (.bool false)], st)
    | _ => none
  | _ => none

def aMakeFunc (f : Fn) (first : Bool) (caps : List PV) : Option PV := bif first && plainFn f then some (.clo f (caps.map canon)) else none

def aNilCheck (x : PV) : Option PV := match x with
  | .ptr h b off => some (.ptr h b off)
  | .fp cs off => some (.fp cs off)
  | .clo (.func f) caps => some (.clo (.func f) caps)
  | .clo (.yield i) caps => some (.clo (.yield i) caps)
  | _ => none

/-! ### operations with a state -/
def aLoad (agg : Bool) (size : Nat) (x : PV) (st : St) : Option PV := match x with
  | .ptr h b off => (st.blk h b).bind (part agg size off)
  | .fp cs off => part agg size off cs
  | _ => none

/-- Are all of these cells, and may they lie in a block of this frame? -/
def okCells : List PV → Bool
  | [] => true
  | .agg _ :: _ | .tup _ :: _ | .u :: _ | .pan _ _ :: _ => false
  | _ :: cs => okCells cs
/-- One cell that goes into a block that is not this frame's own: a slice's room goes with it. -/
def moveC (h : Bool) (b : Nat) (p : PV) (st : St) : Option (PV × St) := match p with
  | .sl es (.own o t e) => bif o.is h b then some (p, st) else
    match st.tok o t with
    | some y => bif Nat.beq y.1 e then some (.sl es (.own (.bl h b) (st.ntok h b) e), (st.setTok o t (e + 1, y.2)).pushBTok h b (e, y.2)) else some (.sl es .dead, st)
    | none => some (.sl es .dead, st)
  | .sl es c => some (.sl es c, st)
  | .v x => some (.v x, st)
  | .fp cs off => some (.fp cs off, st)
  | .ni => some (.ni, st)
  | .ifc t x => some (.ifc t x, st)
  | .ptr true b off => some (.ptr true b off, st)
  | .rs true b off len sz => some (.rs true b off len sz, st)
  | .clo f caps => bif plainFn f && caps.all (sf false 0 3) then some (.clo f caps, st) else none
  | _ => none
def moveCs (h : Bool) (b : Nat) : List PV → St → Option (List PV × St)
  | [], st => some ([], st)
  | p :: ps, st => (moveC h b p st).bind fun r => (moveCs h b ps r.2).bind fun q => some (r.1 :: q.1, q.2)
/-- Cells are written into a block. -/
def putCells (base : Nat) (h : Bool) (b off : Nat) (cs : List PV) (st : St) : Option St :=
  (st.blk h b).bind fun old => bif Nat.ble (off + cs.length) old.length && okCells cs then
    bif h || Nat.blt b base then (moveCs h b cs st).bind fun r => some (r.2.setBlk h b (laid old off r.1)) else some (st.setBlk h b (laid old off cs))
  else none
def aStore (base size : Nat) (x v : PV) (st : St) : Option St := match x with
  | .ptr h b off => (cellsOf v).bind fun cs => bif Nat.beq cs.length size && !Nat.beq size 0 then putCells base h b off cs st else none
  | _ => none
/-- A new block that holds a value's cells. -/
def aBox (h : Bool) (cs : List PV) (st : St) : Option (PV × St) := match h with
  | false => some (.ptr false st.stk.length 0, st.push cs)
  | true => bif okCells cs then (moveCs true st.hp.length cs (st.hpush (cs.map fun _ => .u))).bind fun r => some (.ptr true st.hp.length 0, r.2.setBlk true st.hp.length r.1) else none

def maxLenB : Nat := 140737488355328
/-- The cells of a slice's elements: frozen, or read now. -/
def rsCells (st : St) (h : Bool) (b off n : Nat) : Option (List PV) := (st.blk h b).bind fun cs => bif Nat.ble (off + n) cs.length then some ((cs.drop off).take n) else none
def elemsOf (st : St) (x : PV) : Option (List (List PV)) := match x with
  | .sl es _ => some es
  | .v (.string s) => some (bytesEs s)
  | .rs h b off len sz => (rsCells st h b off (len * sz)).bind fun cs => (plainCs cs).bind fun ds => some (chunks sz len ds)
  | _ => none
def flat (es : List (List PV)) : List PV := es.flatten
def aAppend (size bytes : Nat) (s : PV) (ys : List (List PV)) (st : St) : Option (PV × St) := match s with
  | .sl es c => bif Nat.ble ((es.length + ys.length) * bytes) maxLenB && okSz size es && okSz size ys && !Nat.beq size 0 && !Nat.beq bytes 0 then
      match c with
      | .dead => none
      | .own o t e => match st.tok o t with
        | some e' => bif Nat.beq e'.1 e && Nat.beq e'.2 size then some (.sl (es ++ ys) (.own o t (e + ys.length)), st.setTok o t (e + ys.length, size)) else none
        | none => none
      | .nil | .full => some (.sl (es ++ ys) (.own .fr st.tk.length (es.length + ys.length)), st.pushTok (es.length + ys.length, size))
    else none
  | _ => none
/-- Append that lays a new row, to be written in place. -/
def aAppendM (h : Bool) (size bytes : Nat) (s : PV) (ys : List (List PV)) (st : St) : Option (PV × St) := match s with
  | .sl es c => bif Nat.ble ((es.length + ys.length) * bytes) maxLenB && okSz size es && okSz size ys && !Nat.beq size 0 && !Nat.beq bytes 0 then
      match c with
      | .nil | .full => match ys with
        | [] => some (.sl es c, st)
        | _ :: _ => some (.rs h (st.len h) 0 (es.length + ys.length) size, st.lay h (flat (es ++ ys)))
      | _ => none
    else none
  | _ => none
/-- Append to a row that is written in place: within its block, or into a new one; the old one is shut. -/
def aAppendR (base size bytes : Nat) (s : PV) (ys : List (List PV)) (st : St) : Option (PV × St) := match s with
  | .rs h b off len sz => bif Nat.beq sz size && Nat.ble ((len + ys.length) * bytes) maxLenB && okSz size ys && !Nat.beq size 0 && !Nat.beq bytes 0 then
      (st.blk h b).bind fun old =>
        bif Nat.ble (off + (len + ys.length) * size) old.length then (putCells base h b (off + len * size) (flat ys) st).bind fun st' => some (.rs h b off (len + ys.length) size, st')
        else bif Nat.beq off 0 && Nat.ble (len * size) old.length && Nat.blt 0 old.length then some (.rs h (st.len h) 0 (len + ys.length) size, (st.setBlk h b []).lay h (old.take (len * size) ++ flat ys))
        else none
    else none
  | _ => none
def aCopy (base size : Nat) (d : PV) (ys : List (List PV)) (st : St) : Option (PV × St) := match d with
  | .rs h b off len sz => bif Nat.beq sz size && okSz size ys && !Nat.beq size 0 then
      (putCells base h b off (flat (ys.take len)) st).bind fun st' => some (.v (.int .i64 (min ys.length len)), st')
    else none
  | _ => none
def aMakeSlice (P : Program) (h : Bool) (t : TypeId) (l c : PV) (st : St) : Option (PV × St) := match P.underlying t, l, c with
  | some (.slice e), .v (.int _ n), .v (.int _ m) => (zeroT P e).bind fun z =>
    bif decide (0 ≤ n) && decide (n = m) && Nat.ble (n.toNat * byT P e) maxLenB && Nat.ble (n.toNat) maxLenB && Nat.beq z.length (szT P e) && !Nat.beq (szT P e) 0 then
      some (.rs h (st.len h) 0 n.toNat (szT P e), st.lay h (reps n.toNat z))
    else none
  | _, _, _ => none
def aCap (P : Program) (t : TypeId) (x : PV) : Option PV := match P.underlying t, x with
  | some (.slice _), .sl es .nil => some (.v (.int .i64 es.length))
  | some (.slice _), .sl es .full => some (.v (.int .i64 es.length))
  | _, _ => none
def aClear (P : Program) (base : Nat) (t : TypeId) (x : PV) (st : St) : Option St := match P.underlying t, x with
  | some (.slice e), .rs h b off len sz => (zeroT P e).bind fun z => bif Nat.beq z.length sz && Nat.beq (szT P e) sz && !Nat.beq sz 0 then putCells base h b off (reps len z) st else none
  | _, _ => none

end Go.AM

/- The abstract machine: how code is evaluated over plain values. Definitions alone. No condition. -/
namespace Go.AM
open Go

abbrev CallF := Fn → List PV → St → Option (PV × St)
/-- How a loop is gone through, by its round. -/
abbrev LoopF := (List PV → St → Option (Ex × List PV × St)) → List PV → St → Option (Ex × List PV × St)

structure Cfg where
  P : Program
  call : CallF
  n : Nat
  base : Nat
  it : LoopF
  /-- The functions that may change what was there: they stand in an order with all that reads. -/
  imp : List FuncId
  md : Md
  /-- The loop over a function of which this frame is a round. -/
  rd : Option Nat
  /-- How many loops and iterators there were when this frame began. -/
  lb : Nat
  /-- Package-level variables. -/
  gl : Nat → PV
  /-- The functions that may panic. -/
  pn : List FuncId

def onBool {R : Type} (p : PV) (K : Bool → Option R) : Option R := match p with
  | .v (.bool t) => K t
  | _ => none
/-- Is an operation to run, as its guard was told? One whose guard did not run doesn't. -/
def onG (p : PV) (want : Bool) (A : Option (PV × St)) (st : St) : Option (PV × St) := match p with
  | .v (.bool b) => bif (b == want) then A else some (.tup [], st)
  | .tup [] => some (.tup [], st)
  | _ => none
def onFn {R : Type} (p : PV) (K : Fn → List PV → Option R) : Option R := match p with
  | .clo (.func g) caps => K (.func g) caps
  | .clo (.yield i) caps => K (.yield i) caps
  | _ => none
def seqK {R : Type} (x : Ex) (A : Option R) (B : Ex → Option R) : Option R := match x with
  | .normal => A
  | .exit i => B (.exit i)
  | .ret => B .ret
  | .pan t v => B (.pan t v)
def retK {R : Type} (x : Ex) (A : Option R) : Option R := match x with
  | .exit _ => none
  | .pan _ _ => none
  | .normal => A
  | .ret => A

def isPn (C : Cfg) (g : FuncId) : Bool := C.pn.any (Nat.beq g)
/-- What a call that may panic comes to. -/
def onRet {R : Type} (r : PV × St) (K : PV → St → Option R) (N : TypeId → Value → St → Option R) : Option R := match r.1 with
  | .pan t v => N t v r.2
  | p => K p r.2
/-- What a call comes to that must not panic. -/
def noPan {R : Type} (r : PV × St) (K : PV → St → Option R) : Option R := match r.1 with
  | .pan _ _ => none
  | p => K p r.2
def onIfc {R : Type} (p : PV) (N : TypeId → Value → Option R) : Option R := match p with
  | .ifc t x => N t x
  | _ => none
/-- What an operation comes to: a value, or a panic. -/
inductive Rs where
  | ret (p : PV)
  | pan (t : TypeId) (x : Value)
def onRs {R : Type} (r : Rs × St) (K : PV → St → Option R) (N : TypeId → Value → St → Option R) : Option R := match r.1 with
  | .ret p => K p r.2
  | .pan t x => N t x r.2

section
variable {R : Type} (C : Cfg)

def argsOf (ρ : Operand → PV) (args : Array Operand) : List PV := args.toList.map fun x => canon (ρ x)

def hB (m : Nat) : Bool := Nat.beq m 2
def appendS (P : Program) (base m : Nat) (e : TypeId) (s : PV) (ys : List (List PV)) (st : St) : Option (PV × St) := match s with
  | .rs h b off len sz => (zeroT P e).bind fun _ => aAppendR base (szT P e) (byT P e) (.rs h b off len sz) ys st
  | s => bif Nat.beq m 0 then aAppend (szT P e) (byT P e) s ys st else (zeroT P e).bind fun _ => aAppendM (hB m) (szT P e) (byT P e) s ys st
def stepB (m : Nat) (b : Builtin) (ats : Array TypeId) (xs : List PV) (st : St) (K : PV → St → Option R) : Option R :=
  match b, ats.toList, xs with
  | .len, [t], [x] => (aLen C.P t x).bind fun p => K p st
  | .cap, [t], [x] => (aCap C.P t x).bind fun p => K p st
  | .max, _, [x, y] => (aMax2 C.P x y).bind fun p => K p st
  | .min, _, [x, y] => (aMin2 C.P x y).bind fun p => K p st
  | .append, [t, u], [s, x] => match C.P.underlying t, C.P.underlying u with
    | some (.slice _), some (.int _) => none
    | some (.slice e), some _ => (elemsOf st x).bind fun ys => (appendS C.P C.base m e s ys st).bind fun r => K r.1 r.2
    | _, _ => none
  | .copy, [t, _], [d, x] => match C.P.underlying t with
    | some (.slice e) => (elemsOf st x).bind fun ys => (aCopy C.base (szT C.P e) d ys st).bind fun r => K r.1 r.2
    | _ => none
  | .clear, [t], [x] => (aClear C.P C.base t x st).bind fun st' => K (.tup []) st'
  | _, _, _ => none

def stepK (o : Oper) (e : Env) (st : St) (K : PV → St → Option R) (N : TypeId → Value → St → Option R) : Option R :=
  match o.op with
  | .move x | .assign x => K (opnd C.gl e x) st
  | .pick c a b => (aPick (opnd C.gl e c) (opnd C.gl e a) (opnd C.gl e b)).bind fun p => K p st
  | .alloc t => (zeroT C.P t).bind fun z => K (.ptr (hB (C.md.of o.dst)) (st.len (hB (C.md.of o.dst))) 0) (st.lay (hB (C.md.of o.dst)) z)
  | .box _ x => (cellsOf (opnd C.gl e x)).bind fun cs => (aBox (hB (C.md.of o.dst)) cs st).bind fun r => K r.1 r.2
  | .build t ps => (aBuild C.P t (ps.toList.map fun p => (p.1, opnd C.gl e p.2))).bind fun p => K p st
  | .buildSlice t n ps => bif Nat.beq (C.md.of o.dst) 0 then (aBuildSlice C.P t n (ps.toList.map fun p => (p.1, opnd C.gl e p.2))).bind fun p => K p st
    else (aBuildRow C.P (hB (C.md.of o.dst)) t n (ps.toList.map fun p => (p.1, opnd C.gl e p.2)) st).bind fun r => K r.1 r.2
  | .load t a => match C.P.underlying t with
    | some _ => (aLoad (aggT C.P t) (szT C.P t) (opnd C.gl e a) st).bind fun p => K p st
    | none => none
  | .store t a x => (aStore C.base (szT C.P t) (opnd C.gl e a) (opnd C.gl e x) st).bind fun st' => K .u st'
  | .nilCheck x => (aNilCheck (opnd C.gl e x)).bind fun p => K p st
  | .binOp op t x y _ => (aBin C.P (isConst x || isConst y) op t (opnd C.gl e x) (opnd C.gl e y)).bind fun p => K p st
  | .range t x => (aRange C.P t (opnd C.gl e x) st).bind fun r => K r.1 r.2
  | .next x true => (aNext (opnd C.gl e x) st).bind fun r => K r.1 r.2
  | .unOp op _ x => (aUn C.P op (opnd C.gl e x)).bind fun p => K p st
  | .convert src dst x => (aConv C.P src dst (opnd C.gl e x)).bind fun p => K p st
  | .makeFunc f fs cs => (aMakeFunc f fs.isEmpty (cs.toList.map fun x => opnd C.gl e x)).bind fun p => K p st
  | .makeSlice t l c => (aMakeSlice C.P (hB (C.md.of o.dst)) t (opnd C.gl e l) (opnd C.gl e c) st).bind fun r => K r.1 r.2
  | .slice t x lo hi mx => (aSlice C.P t (opnd C.gl e x) (lo.map (opnd C.gl e)) (hi.map (opnd C.gl e)) (mx.map (opnd C.gl e))).bind fun p => K p st
  | .fieldAddr s x f => (aFieldAddr C.P s (opnd C.gl e x) f).bind fun p => K p st
  | .field t x f => (aField C.P t (opnd C.gl e x) f).bind fun p => K p st
  | .indexAddr t x i => (aIndexAddr C.P t (opnd C.gl e x) (opnd C.gl e i)).bind fun p => K p st
  | .index t x i => (aIndex C.P t (opnd C.gl e x) (opnd C.gl e i)).bind fun p => K p st
  | .extract x i => (aExtract (opnd C.gl e x) i).bind fun p => K p st
  | .call c => match c.callee with
    | .builtin b => stepB C (C.md.of o.dst) b c.argTypes (c.args.toList.map fun x => opnd C.gl e x) st K
    | .value (.func g) => (C.call (.func g) (argsOf (opnd C.gl e) c.args ++ []) st).bind fun r => bif isPn C g then onRet r K N else K r.1 r.2
    | .value f => onFn (opnd C.gl e f) fun g caps => (C.call g (argsOf (opnd C.gl e) c.args ++ caps) st).bind fun r => noPan r K
    | .invoke _ _ => none
  | .panic x => onIfc (opnd C.gl e x) fun t v => N t v st
  | .makeInterface t x => (aIface C.P t (opnd C.gl e x)).bind fun p => K p st
  | _ => none

/-- One operation, its guard heeded. -/
def guarded (ops : Array Oper) (o : Oper) (e : Env) (st : St) (K : PV → St → Option R) (N : TypeId → Value → St → Option R) : Option R :=
  match o.guard with
  | none => stepK C o e st K N
  | some (j, want) => match (ops[j]?).bind (·.dst) with
    | some t => (onG (e t) want (stepK C o e st (fun p s => some (p, s)) fun _ _ _ => none) st).bind fun r => K r.1 r.2
    | none => none

def evOps (ops : Array Oper) : List Oper → Env → St → (Env → St → Option R) → (TypeId → Value → St → Option R) → Option R
  | [], e, st, K, _ => K e st
  | o :: os, e, st, K, N => guarded C ops o e st (fun p st' => evOps ops os (put C.n e o.dst p) st' K N) N

/-! ### a region that draws its order -/
inductive Kind where
  | quiet   -- hangs on its operands alone
  | reads   -- hangs on the state, and leaves it
  | acts    -- may change the state
def kindB : Builtin → Kind
  | .append | .copy | .clear => .acts
  | _ => .quiet
def kindOf (imp : List FuncId) (md : Md) (o : Oper) : Kind := match o.op with
  | .alloc _ | .box _ _ | .store _ _ _ | .makeSlice _ _ _ | .range _ _ | .next _ _ => .acts
  | .buildSlice _ _ _ => bif Nat.beq (md.of o.dst) 0 then .quiet else .acts
  | .load _ _ => .reads
  | .call c => match c.callee with
    | .builtin b => kindB b
    | .value (.func f) => bif imp.any (Nat.beq f) then .acts else .reads
    | _ => .acts
  | .panic _ => .acts
  | _ => .quiet

/-- What an operation answers at a state, alone. -/
def alone (ops : Array Oper) (o : Oper) (e : Env) (s : St) : Option (Rs × St) := guarded C ops o e s (fun p s' => some (.ret p, s')) fun t x s' => some (.pan t x, s')

open Classical in
noncomputable def need (c : Prop) (x : Option R) : Option R := if c then x else none
noncomputable def needAll : List Prop → Option R → Option R
  | [], x => x
  | c :: cs, x => need c (needAll cs x)

/-- An operation that reads: where it stands, its number, its operation, what it read by, and what it told. -/
structure Seen where
  i : Nat
  o : Oper
  e : Env
  p : PV

def told (ops : Array Oper) (x : Seen) (s : St) : Prop := alone C ops x.o x.e s = some (.ret x.p, s)

/-- Behind a panic at operation k: what may have been done ahead of it all the same must have gone well. -/
noncomputable def evDead (ops : Array Oper) (bs : Array Nat) (k : Nat) (st : St) (acts : List (Nat × St)) (fin : Option R) : List Oper → Nat → Env → Option R
  | [], _, _ => fin
  | o :: os, i, e => bif (bs.getD i 0).testBit k then evDead ops bs k st acts fin os (i + 1) e else match kindOf C.imp C.md o with
    | .quiet => guarded C ops o e st (fun p _ => evDead ops bs k st acts fin os (i + 1) (put C.n e o.dst p)) fun _ _ _ => none
    | .reads => guarded C ops o e st (fun p st' => need (st' = st)
        (needAll ((acts.filter fun a => !(bs.getD i 0).testBit a.1).map fun a => told C ops ⟨i, o, e, p⟩ a.2)
          (evDead ops bs k st acts fin os (i + 1) (put C.n e o.dst p)))) fun _ _ _ => none
    | .acts => none
noncomputable def evDraw (ops : Array Oper) (bs : Array Nat) : List Oper → Nat → Env → St → List Seen → List (Nat × St) → (Env → St → Option R) → (TypeId → Value → St → Option R) → Option R
  | [], _, e, st, _, _, K, _ => K e st
  | o :: os, i, e, st, seen, acts, K, N => match kindOf C.imp C.md o with
    | .quiet => guarded C ops o e st (fun p _ => evDraw ops bs os (i + 1) (put C.n e o.dst p) st seen acts K N) fun _ _ _ => none
    | .reads => guarded C ops o e st (fun p st' => need (st' = st)
        (needAll ((acts.filter fun a => !(bs.getD i 0).testBit a.1).map fun a => told C ops ⟨i, o, e, p⟩ a.2)
          (evDraw ops bs os (i + 1) (put C.n e o.dst p) st (⟨i, o, e, p⟩ :: seen) acts K N))) fun _ _ _ => none
    | .acts => bif acts.all (fun a => (bs.getD i 0).testBit a.1) then
        guarded C ops o e st (fun p st' =>
          needAll ((seen.filter fun x => !(bs.getD i 0).testBit x.i).map fun x => told C ops x st')
            (evDraw ops bs os (i + 1) (put C.n e o.dst p) st' seen ((i, st) :: acts) K N))
          fun t x st' => evDead C ops bs i st acts (N t x st') os (i + 1) e
      else none

def tmpsOf (ops : Array Oper) (o : Oper) : List Nat := o.dst.toList ++ o.op.operands.toList.filterMap (fun x => match x with | .tmp t => some t | _ => none) ++ (match o.guard with
  | some (g, _) => ((ops[g]?).bind (·.dst)).toList
  | none => [])
/-- Is each operation that writes a slot in an order with each that names it? -/
def apartOk (bs : Array Nat) (i : Nat) (ts : List Nat) : List Oper → Nat → Bool
  | [], _ => true
  | o :: os, j => (match o.dst with
      | some d => !(ts.any (Nat.beq d)) || Nat.beq i j || (bif Nat.blt i j then (bs.getD j 0).testBit i else (bs.getD i 0).testBit j)
      | none => true) && apartOk bs i ts os (j + 1)
def drawChk (ops : Array Oper) (bs : Array Nat) : List Oper → Nat → Bool
  | [], _ => true
  | o :: os, i => o.after.toList.all (fun e => !Region.binds .any e || Nat.blt e.on i) && apartOk bs i (tmpsOf ops o) ops.toList 0 && drawChk ops bs os (i + 1)

/-! ### code -/
def iter (body : List PV → St → Option (Ex × List PV × St)) : Nat → List PV → St → Option (Ex × List PV × St)
  | 0, _, _ => none
  | k + 1, vs, st => (body vs st).bind fun r => seqK r.1 (iter body k r.2.1 r.2.2) fun _ => some r

def leave (live : List Nat) (x : Ex) (e : Env) (st : St) : Option (Ex × List PV × St) := some (x, live.map e, st)
/-- At the end of a loop's round: what the round laid on the stack is gone, if nothing that stays means it. -/
def isIter : Aux → Bool
  | .iter _ _ => true
  | _ => false
def leaveV (base lb m : Nat) (x : Ex) (vs : List PV) (st : St) : Option (Ex × List PV × St) :=
  bif (st.lp.drop lb).all isIter && vs.all (sf true m 4) && ((st.stk.drop base).take (m - base)).all (fun b => b.cs.all (sf true m 4)) then some (x, vs, { st with stk := st.stk.take m }) else none
def leaveT (base lb m : Nat) (live : List Nat) (x : Ex) (e : Env) (st : St) : Option (Ex × List PV × St) := leaveV base lb m x (live.map e) st
def leaveL (tr : Bool) (base lb m : Nat) (live : List Nat) : Ex → Env → St → Option (Ex × List PV × St) := match tr with
  | true => leaveT base lb m live
  | false => leave live
def Ex.outOf (id : Nat) : Ex → Ex
  | .exit i => bif Nat.beq i id then .normal else .exit i
  | x => x

/-- Is the loop of which this is a round at hand? -/
def inRd (st : St) : Bool := match C.rd with
  | none => true
  | some i => Nat.blt i st.lp.length && (st.loop i).isSome
def isPan : Ex → Bool
  | .pan _ _ => true
  | _ => false
def endLp (s : St) (m t l : Nat) (K : Ex → St → Option R) : Option R := match s.loop l with
  | some q => bif Nat.beq q.at_ 1 || isPan q.pend then none else K q.pend (s.back m t l)
  | none => none
noncomputable def evCode : Code → Ann → Env → St → {R : Type} → (Ex → Env → St → Option R) → Option R
  | .skip, _, e, st, _, K => K .normal e st
  | .region _ ops false, _, e, st, _, K => evOps C ops ops.toList e st (fun e' st' => K .normal e' st') fun t x st' => K (.pan t x) e st'
  | .region _ ops true, _, e, st, _, K => bif drawChk ops (Region.before ops) ops.toList 0 then evDraw C ops (Region.before ops) ops.toList 0 e st [] [] (fun e' st' => K .normal e' st') (fun t x st' => K (.pan t x) e st') else none
  | .seq a b, A, e, st, _, K => evCode a A.x e st fun x e' st' => seqK x (evCode b A.y e' st' K) fun y => K y e' st'
  | .cond c a b, A, e, st, _, K => onBool (opnd C.gl e c) fun t =>
    (bif t then evCode a A.x e st (leave A.live) else evCode b A.y e st (leave A.live)).bind fun r => K r.1 (mkEnv A.live r.2.1) r.2.2
  | .block id c, A, e, st, _, K => evCode c A.x e st fun x e' st' => K (x.outOf id) e' st'
  | .loop c, A, e, st, _, K => (C.it (fun vs s => evCode c A.x (mkEnv A.live vs) s (leaveL A.tr C.base C.lb s.stk.length A.live)) (A.live.map e) st).bind fun r => K r.1 (mkEnv A.live r.2.1) r.2.2
  | .rangeFunc g ps a b, A, e, st, _, K => onFn (opnd C.gl e g) fun f caps => bif inRd C st && plainFn f then
      (C.call f (.clo (.yield st.lp.length) [] :: caps) { st with lp := st.lp ++ [.loop ⟨A.live, A.live.map e, C.n, C.md, ps.toList, a, b, A.x, 0, .normal⟩] }).bind fun r => noPan r fun _ s => endLp s st.stk.length st.tk.length st.lp.length fun x s => K x e s
    else none
  | .exit id, _, e, st, _, K => K (.exit id) e st
  | .ret, _, e, st, _, K => K .ret e st
  | .scope c, A, e, st, _, K => evCode c A e st K
  | .label _, _, e, st, _, K => K .normal e st
  | _, _, _, _, _, _ => none

def resultsK (rs : List ResultVar) (e : Env) (st : St) (K : List PV → Option R) : Option R := match rs with
  | [] => K []
  | .tmp t :: rs => resultsK rs e st fun ps => K (e t :: ps)
  | .cell a t :: rs => match C.P.underlying t with
    | some _ => (aLoad (aggT C.P t) (szT C.P t) (e a) st).bind fun p => resultsK rs e st fun ps => K (p :: ps)
    | none => none
def packRes : List PV → PV
  | [p] => p
  | ps => .tup ps
/-- What a call answers, in its plain form: a row of this frame's own is frozen. -/
def canonF (base : Nat) (st : St) (p : PV) : Option PV := match p with
  | .rs false b off len sz => bif Nat.ble base b then (rsCells st false b off (len * sz)).bind fun cs => (plainCs cs).bind fun ds => bif ds.all (sf false 0 4) && !Nat.beq sz 0 then some (.sl (chunks sz len ds) .dead) else none
    else some (.rs false b off len sz)
  | p => some (canonC p)
def canonFs (base : Nat) (st : St) : List PV → Option (List PV)
  | [] => some []
  | p :: ps => (canonF base st p).bind fun q => (canonFs base st ps).bind fun qs => some (q :: qs)
def canonFA (base : Nat) (st : St) (p : PV) : Option PV := match p with
  | .agg cs => (canonFs base st cs).bind fun ds => some (.agg ds)
  | p => canonF base st p
def canonFAs (base : Nat) (st : St) : List PV → Option (List PV)
  | [] => some []
  | p :: ps => (canonFA base st p).bind fun q => (canonFAs base st ps).bind fun qs => some (q :: qs)
def canonFT (base : Nat) (st : St) (p : PV) : Option PV := match p with
  | .tup cs => (canonFAs base st cs).bind fun ds => some (.tup ds)
  | p => canonFA base st p
/-- What a call answers; what it laid on the stack is gone. -/
def fin (m t l : Nat) (ps : List PV) (st : St) : Option (PV × St) :=
  (canonFT m st (packRes ps)).bind fun p => bif sf false m 4 p then some (p, st.back m t l) else none
/-- How a function ends that may panic. -/
def retP (m t l : Nat) (x : Ex) (st : St) (A : Option (PV × St)) : Option (PV × St) := match x with
  | .exit _ => none
  | .pan ty v => some (.pan ty v, st.back m t l)
  | .normal => A
  | .ret => A
end

structure Lib where
  P : Program
  ann : FuncId → Ann
  md : FuncId → Md
  imp : List FuncId
  prim : FuncId → Option (List PV → St → Option (PV × St))
  gl : Nat → PV
  pn : List FuncId

def itK (k : Nat) : LoopF := fun b vs st => iter b k vs st
noncomputable def evBody (L : Lib) (call : CallF) (it : LoopF) (f : FuncId) (fn : Func) (c : Code) (args : List PV) (st : St) : Option (PV × St) :=
  bif Nat.ble args.length fn.ntmps then
    evCode ⟨L.P, call, fn.ntmps, st.stk.length, it, L.imp, L.md f, none, st.lp.length, L.gl, L.pn⟩ c (L.ann f) (argEnv 0 args) st fun x e s =>
      bif L.pn.any (Nat.beq f) then
        retP st.stk.length st.tk.length st.lp.length x s (resultsK ⟨L.P, call, fn.ntmps, st.stk.length, it, L.imp, L.md f, none, st.lp.length, L.gl, L.pn⟩ fn.results.toList e s fun ps => fin st.stk.length st.tk.length st.lp.length ps s)
      else retK x (resultsK ⟨L.P, call, fn.ntmps, st.stk.length, it, L.imp, L.md f, none, st.lp.length, L.gl, L.pn⟩ fn.results.toList e s fun ps => fin st.stk.length st.tk.length st.lp.length ps s)
  else none

/-! ### a round -/
def putAll (n : Nat) (e : Env) : List Nat → List PV → Env
  | t :: ts, p :: ps => putAll n (put n e (some t) p) ts ps
  | _, _ => e
def beginR (i : Nat) (st : St) (K : St → Option (PV × St)) : Option (PV × St) := match st.loop i with
  | some q => bif Nat.beq q.at_ 0 then K (st.setLp i (.loop { q with at_ := 1 })) else none
  | none => none
def isNormal : Ex → Bool
  | .normal => true
  | _ => false
def finR (m t l i : Nat) (x : Ex) (st : St) : Option (PV × St) := match st.loop i with
  | some q => bif Nat.beq q.at_ 1 && !isPan x then some (.v (.bool (isNormal x)), (st.setLp i (.loop { q with at_ := bif isNormal x then 0 else 2, pend := x })).back m t l) else none
  | none => none
noncomputable def evRound (L : Lib) (call : CallF) (it : LoopF) (i : Nat) (r : Lp) (args : List PV) (st : St) : Option (PV × St) :=
  bif Nat.beq r.at_ 0 && Nat.beq args.length r.ps.length then
    evCode ⟨L.P, call, r.n, st.stk.length, it, L.imp, r.md, some i, st.lp.length, L.gl, L.pn⟩ r.assign r.A.x (putAll r.n (mkEnv r.live r.vs) r.ps args) st fun x e s =>
      bif isNormal x then beginR i s fun s => evCode ⟨L.P, call, r.n, st.stk.length, it, L.imp, r.md, some i, st.lp.length, L.gl, L.pn⟩ r.body r.A.y e s fun x _ s => finR st.stk.length st.tk.length st.lp.length i x s else none
  else none

noncomputable def evF (L : Lib) : Nat → CallF
  | 0, _, _, _ => none
  | k + 1, .func f, args, st => match L.prim f with
    | some g => g args st
    | none => match L.P.funcs[f]? with
      | some fn => match fn.body with
        | some c => evBody L (evF L k) (itK k) f fn c args st
        | none => none
      | none => none
  | k + 1, .yield i, args, st => match st.loop i with
    | some r => evRound L (evF L k) (itK k) i r args st
    | none => none
  | _ + 1, _, _, _ => none

end Go.AM

/- The abstract machine: what it means that memory holds a plain value, and that a later memory still does. No condition. -/
namespace Go.AM
open Go Go.RowKit

structure Ctx where
  /-- The cells that stay as they are. -/
  S : Nat → Nat → Prop
  /-- Where a block lies. -/
  σ : Bool → Nat → Option Nat
  /-- What room a token owns: the block, from where, up to where; where the slice ends; an element's size. -/
  tl : Ow → Nat → Option (Nat × Nat × Nat × Nat × Nat)
  /-- Where a loop's record lies. -/
  lp : Nat → Option Nat
  /-- What lies below is never touched. -/
  N : Nat

def Ctx.fz (C : Ctx) : Ctx := ⟨C.S, fun h b => match h with | true => C.σ true b | false => none, fun _ _ => none, fun _ => none, C.N⟩
def Ctx.cut (C : Ctx) (m t l : Nat) : Ctx :=
  ⟨C.S, fun h b => match h with | true => C.σ true b | false => if b < m then C.σ false b else none,
    fun o i => match o with | .fr => if i < t then C.tl .fr i else none | .bl true b => C.tl (.bl true b) i | .bl false b => if b < m then C.tl (.bl false b) i else none,
    fun i => if i < l then C.lp i else none, C.N⟩

def CapRep (C : Ctx) (base : Option Addr) (len cap sz : Nat) : Cap → Prop
  | .nil => base = none
  | .full => cap = len
  | .dead => True
  | .own o t e => ∃ B f to e' s, C.tl o t = some (B, f, to, e', s) ∧ e ≤ e' ∧
      (e = e' → s = sz ∧ (cap = len ∨ ∃ o, base = some ⟨B, o, none⟩ ∧ f = o + len * sz ∧ to = o + cap * sz))

def NilCap (C : Ctx) : Cap → Prop
  | .own o t e => ∃ B f to e' s, C.tl o t = some (B, f, to, e', s) ∧ e ≤ e'
  | _ => True

inductive Rep (w : World) : Ctx → Value → PV → Prop
  | u {C : Ctx} {x : Value} : Rep w C x .u
  | v {C : Ctx} {x : Value} : flatV x = true → Rep w C x (.v x)
  | agg {C : Ctx} {xs : Array Value} {ps : List PV} : xs.size = ps.length → (∀ (i : Nat) (x : Value), xs[i]? = some x → x.oneCell' = true) →
      (∀ (i : Nat) (x : Value) (p : PV), xs[i]? = some x → ps[i]? = some p → Rep w C x p) → Rep w C (.agg xs) (.agg ps)
  | tup {C : Ctx} {xs : Array Value} {ps : List PV} : xs.size = ps.length →
      (∀ (i : Nat) (x : Value) (p : PV), xs[i]? = some x → ps[i]? = some p → Rep w C x p) → Rep w C (.tuple xs) (.tup ps)
  | ptr {C : Ctx} {h : Bool} {b off B : Nat} : C.σ h b = some B → Rep w C (.pointer (some ⟨B, off, none⟩)) (.ptr h b off)
  | fp {C : Ctx} {cs : List PV} {off B o : Nat} (val : Nat → Value) : (∀ (j : Nat) (p : PV), cs[j]? = some p → C.S B (o + j)) →
      (∀ (j : Nat) (p : PV), cs[j]? = some p → w.cell? ⟨B, o + j, none⟩ = some (val j)) → (∀ (j : Nat) (p : PV), cs[j]? = some p → (val j).oneCell' = true) →
      (∀ (j : Nat) (p : PV), cs[j]? = some p → Rep w C.fz (val j) p) → Rep w C (.pointer (some ⟨B, o + off, none⟩)) (.fp cs off)
  | slnil {C : Ctx} {c : Cap} : NilCap C c → Rep w C (.slice none 0 0) (.sl [] c)
  | sl {C : Ctx} {es : List (List PV)} {B o len cap : Nat} {c : Cap} (sz : Nat) (val : Nat → Nat → Value) : len = es.length → len ≤ cap →
      (∀ (i : Nat) (e : List PV), es[i]? = some e → e.length = sz) →
      (∀ (i : Nat) (e : List PV) (j : Nat) (p : PV), es[i]? = some e → e[j]? = some p → C.S B (o + i * sz + j)) →
      (∀ (i : Nat) (e : List PV) (j : Nat) (p : PV), es[i]? = some e → e[j]? = some p → w.cell? ⟨B, o + i * sz + j, none⟩ = some (val i j)) →
      (∀ (i : Nat) (e : List PV) (j : Nat) (p : PV), es[i]? = some e → e[j]? = some p → (val i j).oneCell' = true) →
      (∀ (i : Nat) (e : List PV) (j : Nat) (p : PV), es[i]? = some e → e[j]? = some p → Rep w C.fz (val i j) p) →
      CapRep C (some ⟨B, o, none⟩) len cap sz c → Rep w C (.slice (some ⟨B, o, none⟩) len cap) (.sl es c)
  | rs {C : Ctx} {h : Bool} {b off len cap sz B : Nat} {arr : Array Value} {elem : TypeId} {fr : Nat × Nat} : C.σ h b = some B → len ≤ cap → w.heap[B]? = some (.cells arr elem fr) → off + cap * sz = arr.size →
      Rep w C (.slice (some ⟨B, off, none⟩) len cap) (.rs h b off len sz)
  | ni {C : Ctx} {t : TypeId} {x : Value} : Rep w C (.iface t x) .ni
  | ifc {C : Ctx} {t : TypeId} {x : Value} : Rep w C (.iface t x) (.ifc t x)
  | it {C : Ctx} {i B : Nat} : C.lp i = some B → Rep w C (.pointer (some ⟨B, 0, none⟩)) (.it i)
  | yld {C : Ctx} {i B : Nat} : C.lp i = some B → Rep w C (.func (.yield B) #[] #[]) (.clo (.yield i) [])
  | clo {C : Ctx} {f : FuncId} {xs : Array Value} {ps : List PV} : xs.size = ps.length →
      (∀ (i : Nat) (x : Value) (p : PV), xs[i]? = some x → ps[i]? = some p → Rep w C x p) → Rep w C (.func (.func f) #[] xs) (.clo (.func f) ps)

/-- A later memory: the cells that stay are as they were, blocks lie where they lay, tokens go on. -/
structure Ext (w : World) (C : Ctx) (w' : World) (C' : Ctx) : Prop where
  size : w.heap.size ≤ w'.heap.size
  N : C'.N = C.N
  below : Below C.N w w'
  S : ∀ B o, C.S B o → C'.S B o
  cell : ∀ B o, C.S B o → w'.cell? ⟨B, o, none⟩ = w.cell? ⟨B, o, none⟩
  σ : ∀ h b B, C.σ h b = some B → C'.σ h b = some B
  tl : ∀ o t B f to e s, C.tl o t = some (B, f, to, e, s) → ∃ B' f' to' e', C'.tl o t = some (B', f', to', e', s) ∧ e ≤ e' ∧ (e = e' → B' = B ∧ f' = f ∧ to' = to)
  lp : ∀ i B, C.lp i = some B → C'.lp i = some B
  shape : ∀ h b B, C.σ h b = some B → ∀ arr elem fr, w.heap[B]? = some (.cells arr elem fr) → ∃ arr' elem' fr', w'.heap[B]? = some (.cells arr' elem' fr') ∧ arr'.size = arr.size
  dfr : ∀ D : Nat, w.heap[D]? = some (Obj.deferred (some [])) → w'.heap[D]? = some (Obj.deferred (some []))

theorem Ext.refl (w : World) (C : Ctx) : Ext w C w C :=
  ⟨Nat.le_refl _, rfl, Below.refl _ _, fun _ _ h => h, fun _ _ _ => rfl, fun _ _ _ h => h, fun _ _ B f to e _ h => ⟨B, f, to, e, h, Nat.le_refl _, fun _ => ⟨rfl, rfl, rfl⟩⟩, fun _ _ h => h, fun _ _ _ _ arr elem fr h => ⟨arr, elem, fr, h, rfl⟩, fun _ h => h⟩

/-- One memory, and two of whom the second one knows more. -/
theorem Ext.same {w : World} {C C' : Ctx} (hN : C'.N = C.N) (hS : ∀ B o, C.S B o → C'.S B o) (hσ : ∀ h b B, C.σ h b = some B → C'.σ h b = some B)
    (htl : ∀ o t B f to e s, C.tl o t = some (B, f, to, e, s) → ∃ B' f' to' e', C'.tl o t = some (B', f', to', e', s) ∧ e ≤ e' ∧ (e = e' → B' = B ∧ f' = f ∧ to' = to)) (hlp : ∀ i B, C.lp i = some B → C'.lp i = some B) : Ext w C w C' :=
  ⟨Nat.le_refl _, hN, Below.refl _ _, hS, fun _ _ _ => rfl, hσ, htl, hlp, fun _ _ _ _ arr elem fr h => ⟨arr, elem, fr, h, rfl⟩, fun _ h => h⟩

theorem Ext.trans {w w1 w2 : World} {C C1 C2 : Ctx} (h : Ext w C w1 C1) (g : Ext w1 C1 w2 C2) : Ext w C w2 C2 := by
  refine ⟨Nat.le_trans h.size g.size, g.N.trans h.N, h.below.trans (h.N ▸ g.below), fun B o x => g.S B o (h.S B o x), fun B o x => (g.cell B o (h.S B o x)).trans (h.cell B o x), fun a b B x => g.σ a b B (h.σ a b B x), ?_,
    fun i B x => g.lp i B (h.lp i B x), ?_, fun D x => g.dfr D (h.dfr D x)⟩
  · intro a t B f to e s x
    obtain ⟨B1, f1, to1, e1, y, le1, k1⟩ := h.tl a t B f to e s x
    obtain ⟨B2, f2, to2, e2, z, le2, k2⟩ := g.tl a t B1 f1 to1 e1 s y
    refine ⟨B2, f2, to2, e2, z, Nat.le_trans le1 le2, fun q => ?_⟩
    subst q
    obtain rfl : e = e1 := Nat.le_antisymm le1 le2
    obtain ⟨rfl, rfl, rfl⟩ := k1 rfl
    exact k2 rfl
  · intro a b B x arr elem fr y
    obtain ⟨arr1, elem1, fr1, y1, z1⟩ := h.shape a b B x arr elem fr y
    obtain ⟨arr2, elem2, fr2, y2, z2⟩ := g.shape a b B (h.σ a b B x) arr1 elem1 fr1 y1
    exact ⟨arr2, elem2, fr2, y2, z2.trans z1⟩

theorem Ext.fz {w w' : World} {C C' : Ctx} (h : Ext w C w' C') : Ext w C.fz w' C'.fz := by
  refine ⟨h.size, h.N, h.below, h.S, h.cell, ?_, fun _ _ _ _ _ _ _ x => by simp [Ctx.fz] at x, fun _ _ x => by simp [Ctx.fz] at x, ?_, h.dfr⟩
  · intro a b B x
    cases a with
    | true => exact h.σ true b B x
    | false => simp [Ctx.fz] at x
  · intro a b B x
    cases a with
    | true => exact h.shape true b B x
    | false => simp [Ctx.fz] at x

theorem Ext.cut {w w' : World} {C C' : Ctx} (h : Ext w C w' C') (m t l : Nat) : Ext w (C.cut m t l) w' (C'.cut m t l) := by
  refine ⟨h.size, h.N, h.below, h.S, h.cell, ?_, ?_, ?_, ?_, h.dfr⟩
  · intro a b B x
    cases a with
    | true => exact h.σ true b B x
    | false =>
      simp only [Ctx.cut] at x ⊢
      split at x
      · rename_i hb; rw [if_pos hb]; exact h.σ false b B x
      · cases x
  · intro a i B f to e s x
    cases a with
    | fr =>
      simp only [Ctx.cut] at x ⊢
      split at x
      · rename_i hb; rw [if_pos hb]; exact h.tl _ i B f to e s x
      · cases x
    | bl a b =>
      cases a with
      | true => exact h.tl _ i B f to e s x
      | false =>
        simp only [Ctx.cut] at x ⊢
        split at x
        · rename_i hb; rw [if_pos hb]; exact h.tl _ i B f to e s x
        · cases x
  · intro i B x
    simp only [Ctx.cut] at x ⊢
    split at x
    · rename_i hb; rw [if_pos hb]; exact h.lp i B x
    · cases x
  · intro a b B x
    cases a with
    | true => exact h.shape true b B x
    | false =>
      simp only [Ctx.cut] at x
      split at x
      · exact h.shape false b B x
      · cases x

theorem CapRep.mono {w w' : World} {C C' : Ctx} {base : Option Addr} {len cap sz : Nat} {c : Cap} (h : CapRep C base len cap sz c) (x : Ext w C w' C') : CapRep C' base len cap sz c := by
  cases c with
  | nil => exact h
  | full => exact h
  | dead => exact trivial
  | own a t e =>
    obtain ⟨B, f, to, e', s, h1, h2, h3⟩ := h
    obtain ⟨B', f', to', e2, g1, g2, g3⟩ := x.tl a t B f to e' s h1
    refine ⟨B', f', to', e2, s, g1, Nat.le_trans h2 g2, fun q => ?_⟩
    subst q
    obtain rfl : e = e' := Nat.le_antisymm h2 g2
    obtain ⟨rfl, rfl, rfl⟩ := g3 rfl
    exact h3 rfl

theorem NilCap.mono {w w' : World} {C C' : Ctx} {c : Cap} (h : NilCap C c) (x : Ext w C w' C') : NilCap C' c := by
  cases c with
  | own a t e =>
    obtain ⟨B, f, to, e', s, h1, h2⟩ := h
    obtain ⟨B', f', to', e2, g1, g2, _⟩ := x.tl a t B f to e' s h1
    exact ⟨B', f', to', e2, s, g1, Nat.le_trans h2 g2⟩
  | _ => exact trivial

theorem Rep.mono {w w' : World} {C : Ctx} {x : Value} {p : PV} (h : Rep w C x p) : ∀ {C' : Ctx}, Ext w C w' C' → Rep w' C' x p := by
  induction h with
  | u => exact fun _ => .u
  | v h => exact fun _ => .v h
  | agg h1 h2 _ ih => exact fun e => .agg h1 h2 fun i x p hx hp => ih i x p hx hp e
  | tup h1 _ ih => exact fun e => .tup h1 fun i x p hx hp => ih i x p hx hp e
  | ptr h => exact fun e => .ptr (e.σ _ _ _ h)
  | fp val h1 h2 h3 _ ih => exact fun e => .fp val (fun j p hp => e.S _ _ (h1 j p hp)) (fun j p hp => (e.cell _ _ (h1 j p hp)).trans (h2 j p hp)) h3 fun j p hp => ih j p hp e.fz
  | slnil h =>
    intro C' e
    exact .slnil (h.mono e)
  | sl sz val h1 h2 h3 h4 h5 h6 _ h8 ih =>
    exact fun e => .sl sz val h1 h2 h3 (fun i a j p ha hp => e.S _ _ (h4 i a j p ha hp)) (fun i a j p ha hp => (e.cell _ _ (h4 i a j p ha hp)).trans (h5 i a j p ha hp)) h6
      (fun i a j p ha hp => ih i a j p ha hp e.fz) (h8.mono e)
  | @rs C hh b off len cap sz B arr elem fr h1 h2 h3 h4 =>
    intro C' e
    obtain ⟨arr', elem', fr', y, z⟩ := e.shape _ _ _ h1 arr elem fr h3
    exact .rs (e.σ _ _ _ h1) h2 y (by omega)
  | yld h => exact fun e => .yld (e.lp _ _ h)
  | ni => exact fun _ => .ni
  | ifc => exact fun _ => .ifc
  | it h => exact fun e => .it (e.lp _ _ h)
  | clo h1 _ ih => exact fun e => .clo h1 fun i x p hx hp => ih i x p hx hp e

/-- One of the same memory, whatever else the other one knows. -/
theorem Ext.of_cut (w : World) (C : Ctx) (m t l : Nat) : Ext w (C.cut m t l) w C := by
  refine Ext.same rfl (fun _ _ h => h) ?_ ?_ ?_
  · intro a b B x
    cases a with
    | true => exact x
    | false => simp only [Ctx.cut] at x; split at x <;> first | exact x | cases x
  · intro a i B f to e s x
    refine ⟨B, f, to, e, ?_, Nat.le_refl _, fun _ => ⟨rfl, rfl, rfl⟩⟩
    cases a with
    | fr => simp only [Ctx.cut] at x; split at x <;> first | exact x | cases x
    | bl a b =>
      cases a with
      | true => exact x
      | false => simp only [Ctx.cut] at x; split at x <;> first | exact x | cases x
  · intro i B x
    simp only [Ctx.cut] at x; split at x <;> first | exact x | cases x

theorem Ext.of_fz (w : World) (C : Ctx) : Ext w C.fz w C := by
  refine Ext.same rfl (fun _ _ h => h) ?_ (fun _ _ _ _ _ _ _ x => by simp [Ctx.fz] at x) (fun _ _ x => by simp [Ctx.fz] at x)
  intro a b B x
  cases a with
  | true => exact x
  | false => simp [Ctx.fz] at x

theorem Ext.fz_cut (w : World) (C : Ctx) (m t l : Nat) : Ext w C.fz w (C.cut m t l) := by
  refine Ext.same rfl (fun _ _ h => h) ?_ (fun _ _ _ _ _ _ _ x => by simp [Ctx.fz] at x) (fun _ _ x => by simp [Ctx.fz] at x)
  intro a b B x
  cases a with
  | true => exact x
  | false => simp [Ctx.fz] at x

theorem Ctx.fz_fz (C : Ctx) : C.fz.fz = C.fz := by
  simp only [Ctx.fz]
theorem Ctx.cut_fz (C : Ctx) (m t l : Nat) : (C.cut m t l).fz = C.fz := by
  simp only [Ctx.fz, Ctx.cut]

/-- Which values are one cell. -/
def cellLike : PV → Bool
  | .agg _ | .tup _ | .u => false
  | _ => true
theorem Rep.oneCell {w : World} {C : Ctx} {x : Value} {p : PV} (h : Rep w C x p) (hp : cellLike p = true) : x.oneCell' = true := by
  cases h <;> first | rfl | (simp [cellLike] at hp; done) | skip
  rename_i h; cases x <;> first | rfl | (simp [flatV] at h)

/-! ### the cuts: what lies not on the part of the stack that goes -/
def Ctx.cutS (C : Ctx) (m : Nat) : Ctx := ⟨C.S, fun h b => match h with | true => C.σ true b | false => if b < m then C.σ false b else none,
  fun o i => match o with | .fr => C.tl .fr i | .bl true b => C.tl (.bl true b) i | .bl false b => if b < m then C.tl (.bl false b) i else none, C.lp, C.N⟩

theorem cap_own_cut {ok : Bool} {m : Nat} {C C' : Ctx} (htl : ok = true → ∀ o, (∀ b, o = .bl false b → b < m) → C'.tl o = C.tl o) {o : Ow} {t e : Nat} (hs : Cap.sf ok m (.own o t e) = true) : C'.tl o = C.tl o := by
  simp only [Cap.sf, Bool.and_eq_true] at hs
  refine htl hs.1 o fun b hb => ?_
  subst hb
  simpa [Nat.blt_eq] using hs.2

theorem rep_cut {w : World} {ok : Bool} (m : Nat) {C C' : Ctx} (hS : C'.S = C.S) (hfz : C'.fz = C.fz) (hσ : ∀ h b, (h = false → b < m) → C'.σ h b = C.σ h b)
    (htl : ok = true → ∀ o, (∀ b, o = .bl false b → b < m) → C'.tl o = C.tl o) (hlp : ok = true → C'.lp = C.lp) :
    ∀ (n : Nat) {x : Value} {p : PV}, Rep w C x p → sf ok m n p = true → Rep w C' x p := by
  intro n
  induction n with
  | zero => intro x p _ h; simp [sf] at h
  | succ n ih =>
    intro x p h hs
    cases h with
    | u => exact .u
    | v h => exact .v h
    | agg h1 h2 h3 =>
      simp only [sf, List.all_eq_true] at hs
      exact .agg h1 h2 fun i x p hx hp => ih (h3 i x p hx hp) (hs p (List.mem_of_getElem? hp))
    | tup h1 h3 =>
      simp only [sf, List.all_eq_true] at hs
      exact .tup h1 fun i x p hx hp => ih (h3 i x p hx hp) (hs p (List.mem_of_getElem? hp))
    | clo h1 h3 =>
      simp only [sf, List.all_eq_true, Bool.and_eq_true] at hs
      exact .clo h1 fun i x p hx hp => ih (h3 i x p hx hp) (hs.2 p (List.mem_of_getElem? hp))
    | ni => exact .ni
    | ifc => exact .ifc
    | it h1 =>
      refine .it ?_
      rw [hlp (by simpa only [sf] using hs)]; exact h1
    | yld h1 =>
      simp only [sf, Bool.and_eq_true, plainFn, Bool.or_false] at hs
      refine .yld ?_
      rw [hlp hs.1]; exact h1
    | @rs _ h b off len cap sz B arr elem fr h1 h2 h3 h4 =>
      refine .rs ?_ h2 h3 h4
      rw [hσ h b fun e => by subst e; simpa [sf, Nat.blt_eq] using hs]
      exact h1
    | @ptr _ h b off B h1 =>
      refine .ptr ?_
      rw [hσ h b fun e => by subst e; simpa [sf, Nat.blt_eq] using hs]
      exact h1
    | fp val h1 h2 h3 h4 => exact .fp val (by rw [hS]; exact h1) h2 h3 (by rw [hfz]; exact h4)
    | @slnil _ c h1 =>
      refine .slnil ?_
      cases c with
      | own a t e =>
        have := cap_own_cut htl (o := a) (t := t) (e := e) (by simpa only [sf] using hs)
        simp only [NilCap, this] at h1 ⊢
        exact h1
      | _ => exact trivial
    | @sl _ es B o len cap c sz val h1 h2 h3 h4 h5 h6 h7 h8 =>
      refine .sl sz val h1 h2 h3 (by rw [hS]; exact h4) h5 h6 (by rw [hfz]; exact h7) ?_
      cases c with
      | own a t e =>
        have := cap_own_cut htl (o := a) (t := t) (e := e) (by simpa only [sf] using hs)
        simp only [CapRep, this] at h8 ⊢
        exact h8
      | _ => exact h8

theorem rep_cutS {w : World} {m n : Nat} {C : Ctx} {x : Value} {p : PV} (h : Rep w C x p) (hs : sf true m n p = true) : Rep w (C.cutS m) x p :=
  rep_cut (ok := true) (C := C) (C' := C.cutS m) m rfl (by simp only [Ctx.fz, Ctx.cutS]) (fun h b g => by
    cases h with
    | true => rfl
    | false => simp only [Ctx.cutS]; rw [if_pos (g rfl)]) (fun _ o ho => by
    funext i
    cases o with
    | fr => rfl
    | bl a b =>
      cases a with
      | true => rfl
      | false => simp only [Ctx.cutS]; rw [if_pos (ho b rfl)]) (fun _ => rfl) n h hs

theorem rep_cutT {w : World} {m n : Nat} {C : Ctx} {x : Value} {p : PV} (t l : Nat) (h : Rep w C x p) (hs : sf false m n p = true) : Rep w (C.cut m t l) x p :=
  rep_cut (ok := false) (C := C) (C' := C.cut m t l) m rfl (C.cut_fz m t l) (fun h b g => by
    cases h with
    | true => rfl
    | false => simp only [Ctx.cut]; rw [if_pos (g rfl)]) (fun h => by cases h) (fun h => by cases h) n h hs

/-- What means no block of the stack at all, no round, and no room of its own, may be frozen. -/
theorem rep_fz {w : World} {n : Nat} {C : Ctx} {x : Value} {p : PV} (h : Rep w C x p) (hs : sf false 0 n p = true) : Rep w C.fz x p :=
  rep_cut (ok := false) (C := C) (C' := C.fz) 0 rfl (by simp only [Ctx.fz]) (fun h b g => by
    cases h with
    | true => rfl
    | false => exact absurd (g rfl) (by omega)) (fun h => by cases h) (fun h => by cases h) n h hs

/-- canon forgets: what was read still is. -/
theorem rep_canonC {w : World} {C : Ctx} {x : Value} {p : PV} (h : Rep w C x p) : Rep w C x (canonC p) := by
  cases h with
  | slnil h => exact .slnil trivial
  | sl sz val h1 h2 h3 h4 h5 h6 h7 h8 => exact .sl sz val h1 h2 h3 h4 h5 h6 h7 trivial
  | u => exact .u
  | v h => exact .v h
  | agg h1 h2 h3 => exact .agg h1 h2 h3
  | tup h1 h3 => exact .tup h1 h3
  | ptr h => exact .ptr h
  | fp val h1 h2 h3 h4 => exact .fp val h1 h2 h3 h4
  | clo h1 h3 => exact .clo h1 h3
  | rs h1 h2 h3 h4 => exact .rs h1 h2 h3 h4
  | yld h => exact .yld h
  | ni => exact .ni
  | ifc => exact .ifc
  | it h => exact .it h
theorem getElem?_map_some {α β : Type} {f : α → β} {l : List α} {i : Nat} {y : β} (h : (l.map f)[i]? = some y) : ∃ x, l[i]? = some x ∧ f x = y := by
  rw [List.getElem?_map] at h
  exact Option.map_eq_some_iff.1 h
theorem rep_canonA {w : World} {C : Ctx} {x : Value} {p : PV} (h : Rep w C x p) : Rep w C x (canonA p) := by
  cases p with
  | agg cs =>
    cases h with
    | agg h1 h2 h3 =>
      refine .agg (by simpa using h1) h2 fun i x p hx hp => ?_
      obtain ⟨q, hq, rfl⟩ := getElem?_map_some hp
      exact rep_canonC (h3 i x q hx hq)
  | _ => exact rep_canonC h
theorem rep_canon {w : World} {C : Ctx} {x : Value} {p : PV} (h : Rep w C x p) : Rep w C x (canon p) := by
  cases p with
  | tup cs =>
    cases h with
    | tup h1 h3 =>
      refine .tup (by simpa using h1) fun i x p hx hp => ?_
      obtain ⟨q, hq, rfl⟩ := getElem?_map_some hp
      exact rep_canonA (h3 i x q hx hq)
  | _ => exact rep_canonA h

end Go.AM

/- The abstract machine: what a memory holds for a state, and how it goes on when something is laid, stored or grown. No condition. -/
set_option linter.unusedVariables false
namespace Go.AM
open Go Go.RowKit

/-! ### states -/
theorem bk_lay (st : St) (h : Bool) (cs : List PV) (h' : Bool) (b : Nat) : (st.lay h cs).bk h' b = if h' = h ∧ b = st.len h then some ⟨cs, []⟩ else st.bk h' b := by
  have key : ∀ (l : List Blk), (l ++ [⟨cs, []⟩])[b]? = if b = l.length then some ⟨cs, []⟩ else l[b]? := by
    intro l
    rw [List.getElem?_append]
    split
    · rename_i hlt; rw [if_neg (by omega)]
    · rename_i hlt
      by_cases e : b = l.length
      · subst e; simp
      · rw [if_neg e, List.getElem?_eq_none (by simp; omega), List.getElem?_eq_none (by omega)]
  cases h <;> cases h' <;> simp [St.lay, St.bk, St.push, St.hpush, St.len, key]

theorem blk_lay (st : St) (h : Bool) (cs : List PV) (h' : Bool) (b : Nat) : (st.lay h cs).blk h' b = if h' = h ∧ b = st.len h then some cs else st.blk h' b := by
  simp only [St.blk, bk_lay]
  split <;> rfl

theorem bk_len (st : St) (h : Bool) (b : Nat) (hb : st.len h ≤ b) : st.bk h b = none := by
  cases h <;> simpa [St.bk, St.len] using hb
theorem bk_lt {st : St} {h : Bool} {b : Nat} {x : Blk} (e : st.bk h b = some x) : b < st.len h := by
  cases h <;> exact (List.getElem?_eq_some_iff.1 e).1
theorem blk_lt {st : St} {h : Bool} {b : Nat} {x : List PV} (e : st.blk h b = some x) : b < st.len h := by
  obtain ⟨y, hy, _⟩ := Option.map_eq_some_iff.1 e
  exact bk_lt hy

theorem tok_lay (st : St) (h : Bool) (cs : List PV) (o : Ow) (t : Nat) : (st.lay h cs).tok o t = st.tok o t := by
  cases o with
  | fr => cases h <;> rfl
  | bl h' b =>
    simp only [St.tok, bk_lay]
    split
    · rename_i e
      obtain ⟨rfl, rfl⟩ := e
      rw [bk_len st h' _ (Nat.le_refl _)]
      simp
    · rfl

theorem bk_upB (st : St) (h : Bool) (b : Nat) (f : Blk → Blk) (h' : Bool) (b' : Nat) : (st.upB h b f).bk h' b' = if h' = h ∧ b' = b then (st.bk h b).map f else st.bk h' b' := by
  cases h <;> cases h' <;> simp only [St.upB, St.bk, Bool.false_eq_true, Bool.true_eq_false, false_and, true_and, if_false]
  · rw [List.getElem?_modify]
    by_cases e : b = b'
    · subst e; simp
    · simp [e, Ne.symm e]
  · rw [List.getElem?_modify]
    by_cases e : b = b'
    · subst e; simp
    · simp [e, Ne.symm e]

theorem blk_setBlk (st : St) (h : Bool) (b : Nat) (cs : List PV) (h' : Bool) (b' : Nat) {old : List PV} (hb : st.blk h b = some old) :
    (st.setBlk h b cs).blk h' b' = if h' = h ∧ b' = b then some cs else st.blk h' b' := by
  obtain ⟨y, hy, _⟩ := Option.map_eq_some_iff.1 hb
  simp only [St.setBlk, St.blk, bk_upB]
  split
  · rw [hy]; rfl
  · rfl

theorem tok_setBlk (st : St) (h : Bool) (b : Nat) (cs : List PV) (o : Ow) (t : Nat) : (st.setBlk h b cs).tok o t = st.tok o t := by
  cases o with
  | fr => cases h <;> rfl
  | bl h' b' =>
    simp only [St.setBlk, St.tok, bk_upB]
    split
    · rename_i e
      obtain ⟨rfl, rfl⟩ := e
      cases st.bk h' b' <;> rfl
    · rfl

theorem lp_lay (st : St) (h : Bool) (cs : List PV) : (st.lay h cs).lp = st.lp := by cases h <;> rfl
theorem tk_lay (st : St) (h : Bool) (cs : List PV) : (st.lay h cs).tk = st.tk := by cases h <;> rfl
theorem len_lay (st : St) (h : Bool) (cs : List PV) (h' : Bool) : (st.lay h cs).len h' = if h' = h then st.len h + 1 else st.len h' := by
  cases h <;> cases h' <;> simp [St.lay, St.len, St.push, St.hpush]
theorem lp_upB (st : St) (h : Bool) (b : Nat) (f : Blk → Blk) : (st.upB h b f).lp = st.lp := by cases h <;> rfl
theorem tk_upB (st : St) (h : Bool) (b : Nat) (f : Blk → Blk) : (st.upB h b f).tk = st.tk := by cases h <;> rfl
theorem len_upB (st : St) (h : Bool) (b : Nat) (f : Blk → Blk) (h' : Bool) : (st.upB h b f).len h' = st.len h' := by
  cases h <;> cases h' <;> simp [St.upB, St.len]

theorem Ow.is_iff {o : Ow} {h : Bool} {b : Nat} : o.is h b = true ↔ o = .bl h b := by
  cases o with
  | fr => simp [Ow.is]
  | bl h' b' =>
    cases h <;> cases h' <;> simp [Ow.is, eqB]

/-! ### memory -/
def notFrozen (fr : Nat × Nat) (o : Nat) : Prop := ¬ (fr.1 ≤ o ∧ o < fr.2)

/-- Cell o of block B can be written, and nobody reads it. -/
def spare (w : World) (C : Ctx) (B o : Nat) : Prop :=
  ¬ C.S B o ∧ ((∀ h b, C.σ h b ≠ some B) ∧ C.N ≤ B) ∧ ∃ arr elem fr, w.heap[B]? = some (.cells arr elem fr) ∧ o < arr.size ∧ notFrozen fr o

def stateOf : Nat → LoopState
  | 0 => .ready
  | 1 => .busy
  | _ => .done
def pendOf : Ex → Option Code
  | .normal => none
  | .exit i => some (.exit i)
  | .ret => some .ret
  | .pan _ _ => none
/-- A loop's record. -/
def recOf (r : Lp) (fn D : Nat) (tmps : Array Value) : Loop :=
  { state := stateOf r.at_, pending := pendOf r.pend, fn := fn, tmps := tmps, params := r.ps.toArray, assign := r.assign, body := r.body, defers := D }

/-- What lies beside the blocks, in memory. -/
def AuxAt (w : World) (C : Ctx) (bs : List (Nat × Nat × Nat)) (i B : Nat) : Aux → Prop
  | .iter s pos => w.heap[B]? = some (.stringIter s pos)
  | .loop r => ∃ fn D tmps, w.heap[B]? = some (.loop (recOf r fn D tmps)) ∧ tmps.size = r.n ∧
      (∀ j, Rep w C (tmps.getD j undef) (mkEnv r.live r.vs j)) ∧ ∀ m t l, (m, t, l) ∈ bs → i < l → ∀ j, Rep w (C.cut m t l) (tmps.getD j undef) (mkEnv r.live r.vs j)
theorem AuxAt.mono {w w' : World} {C C' : Ctx} {bs : List (Nat × Nat × Nat)} {i B : Nat} {r : Aux} (h : AuxAt w C bs i B r) (hx : Ext w C w' C')
    (hB : ∀ ob, w.heap[B]? = some ob → (∀ arr elem fr, ob ≠ .cells arr elem fr) → w'.heap[B]? = some ob) : AuxAt w' C' bs i B r := by
  cases r with
  | iter s pos => exact hB _ h (by intro _ _ _ q; cases q)
  | loop r =>
    obtain ⟨fn, D, tmps, h1, h2, h3, h4⟩ := h
    exact ⟨fn, D, tmps, hB _ h1 (by intro _ _ _ q; cases q), h2, fun j => (h3 j).mono hx, fun m t l hm hl j => (h4 m t l hm hl j).mono (hx.cut m t l)⟩
theorem AuxAt.lt {w : World} {C : Ctx} {bs : List (Nat × Nat × Nat)} {i B : Nat} {r : Aux} (h : AuxAt w C bs i B r) : B < w.heap.size := by
  cases r with
  | iter s pos => exact (Array.getElem?_eq_some_iff.1 h).1
  | loop r =>
    obtain ⟨fn, D, tmps, h1, _⟩ := h
    exact (Array.getElem?_eq_some_iff.1 h1).1

structure Sim (w : World) (C : Ctx) (st : St) (bs : List (Nat × Nat × Nat)) : Prop where
  blk : ∀ h b cs, st.blk h b = some cs → ∃ B arr elem fr, C.σ h b = some B ∧ w.heap[B]? = some (.cells arr elem fr) ∧ cs.length ≤ arr.size ∧
    (∀ o, notFrozen fr o) ∧ (cs ≠ [] → ∀ o, ¬ C.S B o) ∧ (∀ (o : Nat) (x : Value), arr[o]? = some x → x.oneCell' = true) ∧
    (∀ (o : Nat) (x : Value) (p : PV), arr[o]? = some x → cs[o]? = some p → Rep w C x p) ∧
    (∀ m t l, (m, t, l) ∈ bs → (h = true ∨ b < m) → ∀ (o : Nat) (x : Value) (p : PV), arr[o]? = some x → cs[o]? = some p → Rep w (C.cut m t l) x p)
  dom : ∀ h b B, C.σ h b = some B → ∃ cs, st.blk h b = some cs
  inj : ∀ h b h' b' B, C.σ h b = some B → C.σ h' b' = some B → (h = h' ∧ b = b') ∨ st.blk h b = some [] ∨ st.blk h' b' = some []
  Sok : ∀ B o, C.S B o → B < w.heap.size
  tok : ∀ o t B f to e s, C.tl o t = some (B, f, to, e, s) → st.tok o t = some (e, s) ∧ ∀ i, f ≤ i → i < to → spare w C B i
  tokdom : ∀ o t e s, st.tok o t = some (e, s) → ∃ B f to, C.tl o t = some (B, f, to, e, s)
  disj : ∀ o t o' t' B f to e s f' to' e' s', C.tl o t = some (B, f, to, e, s) → C.tl o' t' = some (B, f', to', e', s') → (o = o' ∧ t = t') ∨ ∀ i, f ≤ i → i < to → f' ≤ i → i < to' → False
  bnd : ∀ m t l, (m, t, l) ∈ bs → m ≤ st.stk.length ∧ t ≤ st.tk.length ∧ l ≤ st.lp.length
  low : C.N ≤ w.heap.size ∧ (∀ h b B, C.σ h b = some B → C.N ≤ B) ∧ ∀ i B, C.lp i = some B → C.N ≤ B
  lps : ∀ i r, st.lp[i]? = some r → ∃ B, C.lp i = some B ∧ AuxAt w C bs i B r
  lpdom : ∀ i B, C.lp i = some B → ∃ r, st.lp[i]? = some r
  lpinj : ∀ i i' B, C.lp i = some B → C.lp i' = some B → i = i'

section
variable {w : World} {C : Ctx} {st : St} {bs : List (Nat × Nat × Nat)}

theorem Sim.σlt (h : Sim w C st bs) {a : Bool} {b B : Nat} (x : C.σ a b = some B) : B < w.heap.size := by
  obtain ⟨cs, hc⟩ := h.dom a b B x
  obtain ⟨B', arr, elem, fr, h1, h2, _⟩ := h.blk a b cs hc
  rw [x] at h1
  obtain rfl := Option.some.inj h1
  exact (Array.getElem?_eq_some_iff.1 h2).1

theorem Sim.σlen (h : Sim w C st bs) {a : Bool} {b B : Nat} (x : C.σ a b = some B) : b < st.len a := by
  obtain ⟨cs, hc⟩ := h.dom a b B x
  exact blk_lt hc

theorem Sim.σstk (h : Sim w C st bs) {b B : Nat} (x : C.σ false b = some B) : b < st.stk.length := h.σlen x

theorem Sim.σnone (h : Sim w C st bs) {a : Bool} {b : Nat} (x : st.len a ≤ b) : C.σ a b = none := by
  cases e : C.σ a b with
  | none => rfl
  | some B => have := h.σlen e; omega

theorem Sim.tlnone (h : Sim w C st bs) {t : Nat} (x : st.tk.length ≤ t) : C.tl .fr t = none := by
  cases e : C.tl .fr t with
  | none => rfl
  | some q =>
    obtain ⟨B, f, to, e', s⟩ := q
    have := (h.tok .fr t B f to e' s e).1
    have := (List.getElem?_eq_some_iff.1 this).1
    omega

theorem Sim.tlbnone (h : Sim w C st bs) {a : Bool} {b : Nat} (x : st.len a ≤ b) (t : Nat) : C.tl (.bl a b) t = none := by
  cases e : C.tl (.bl a b) t with
  | none => rfl
  | some q =>
    obtain ⟨B, f, to, e', s⟩ := q
    have := (h.tok _ t B f to e' s e).1
    simp only [St.tok, bk_len st a b x] at this
    cases this

theorem Sim.lpnone (h : Sim w C st bs) {i : Nat} (x : st.lp.length ≤ i) : C.lp i = none := by
  cases e : C.lp i with
  | none => rfl
  | some B =>
    obtain ⟨r, hr⟩ := h.lpdom i B e
    have := (List.getElem?_eq_some_iff.1 hr).1
    omega

theorem Sim.lplt (h : Sim w C st bs) {i B : Nat} (x : C.lp i = some B) : B < w.heap.size := by
  obtain ⟨r, hr⟩ := h.lpdom i B x
  obtain ⟨B', h1, h2⟩ := h.lps i r hr
  rw [x] at h1
  obtain rfl := Option.some.inj h1
  exact h2.lt

/-- The cut at the whole of the stack changes nothing. -/
theorem Sim.cut_self (h : Sim w C st bs) : C.cut st.stk.length st.tk.length st.lp.length = C := by
  cases C with
  | mk S σ tl lp N =>
    simp only [Ctx.cut, Ctx.mk.injEq, true_and, and_true]
    refine ⟨?_, ?_, ?_⟩
    · funext a b
      cases a with
      | true => rfl
      | false =>
        simp only []
        split
        · rfl
        · exact (h.σnone (a := false) (by simp only [St.len]; omega)).symm
    · funext a b
      cases a with
      | fr =>
        simp only []
        split
        · rfl
        · exact (h.tlnone (by omega)).symm
      | bl a b' =>
        cases a with
        | true => rfl
        | false =>
          simp only []
          split
          · rfl
          · exact (h.tlbnone (a := false) (by simp only [St.len]; omega) b).symm
    · funext i
      split
      · rfl
      · exact (h.lpnone (by omega)).symm

theorem Sim.enter (h : Sim w C st bs) : Sim w C st ((st.stk.length, st.tk.length, st.lp.length) :: bs) := by
  refine ⟨?_, h.dom, h.inj, h.Sok, h.tok, h.tokdom, h.disj, ?_, h.low, ?_, h.lpdom, h.lpinj⟩
  · intro a b cs hc
    obtain ⟨B, arr, elem, fr, h1, h2, h3, h4, h5, h6, h7, h8⟩ := h.blk a b cs hc
    refine ⟨B, arr, elem, fr, h1, h2, h3, h4, h5, h6, h7, fun m t l hm => ?_⟩
    rcases List.mem_cons.1 hm with hm | hm
    · obtain ⟨rfl, rfl, rfl⟩ : m = st.stk.length ∧ t = st.tk.length ∧ l = st.lp.length := by simpa using hm
      intro _
      rw [h.cut_self]
      exact h7
    · exact h8 m t l hm
  · intro m t l hm
    rcases List.mem_cons.1 hm with hm | hm
    · obtain ⟨rfl, rfl, rfl⟩ : m = st.stk.length ∧ t = st.tk.length ∧ l = st.lp.length := by simpa using hm
      exact ⟨Nat.le_refl _, Nat.le_refl _, Nat.le_refl _⟩
    · exact h.bnd m t l hm
  · intro i r hr
    obtain ⟨B, h1, h2⟩ := h.lps i r hr
    refine ⟨B, h1, ?_⟩
    cases r with
    | iter s pos => exact h2
    | loop r =>
    obtain ⟨fn, D, tmps, h2, h3, h4, h5⟩ := h2
    refine ⟨fn, D, tmps, h2, h3, h4, fun m t l hm => ?_⟩
    rcases List.mem_cons.1 hm with hm | hm
    · obtain ⟨rfl, rfl, rfl⟩ : m = st.stk.length ∧ t = st.tk.length ∧ l = st.lp.length := by simpa using hm
      intro _
      rw [h.cut_self]
      exact h4
    · exact h5 m t l hm

/-! ### a new object -/
theorem cell_push (w : World) (o : Obj) {B i : Nat} (h : B < w.heap.size) : World.cell? { w with heap := w.heap.push o } ⟨B, i, none⟩ = w.cell? ⟨B, i, none⟩ := by
  simp only [World.cell?]
  rw [Array.getElem?_push, if_neg (by omega)]

theorem get_push (w : World) (o : Obj) {B : Nat} {x : Obj} (h : w.heap[B]? = some x) : ({ w with heap := w.heap.push o } : World).heap[B]? = some x := by
  have := (Array.getElem?_eq_some_iff.1 h).1
  show (w.heap.push o)[B]? = _
  rw [Array.getElem?_push, if_neg (by omega)]; exact h

theorem Ext.of_push (hS : ∀ B o, C.S B o → B < w.heap.size) (hN : C.N ≤ w.heap.size) (ob : Obj) : Ext w C { w with heap := w.heap.push ob } C :=
  ⟨by simp, rfl, (Below.refl _ _).alloc hN ob, fun _ _ x => x, fun B i x => cell_push w ob (hS B i x), fun _ _ _ x => x, fun _ _ B f to e _ x => ⟨B, f, to, e, x, Nat.le_refl _, fun _ => ⟨rfl, rfl, rfl⟩⟩,
    fun _ _ x => x, fun _ _ _ _ arr elem fr h => ⟨arr, elem, fr, get_push w ob h, rfl⟩, fun _ h => get_push w ob h⟩

/-- A new object of the memory's, that no block means. -/
theorem Sim.alloc (H : Sim w C st bs) (ob : Obj) : Sim { w with heap := w.heap.push ob } C st bs ∧ Ext w C { w with heap := w.heap.push ob } C := by
  have hx := Ext.of_push (C := C) H.Sok H.low.1 ob
  refine ⟨⟨?_, H.dom, H.inj, ?_, ?_, H.tokdom, H.disj, H.bnd, ⟨Nat.le_trans H.low.1 (by simp), H.low.2⟩, ?_, H.lpdom, H.lpinj⟩, hx⟩
  · intro h' b' ds hd
    obtain ⟨B2, arr2, elem2, fr2, c1, c2, c3, c4, c5, c6, c7, c8⟩ := H.blk h' b' ds hd
    exact ⟨B2, arr2, elem2, fr2, c1, get_push w ob c2, c3, c4, c5, c6, fun o x p hx' hp => (c7 o x p hx' hp).mono hx, fun m t l hm hbm o x p hx' hp => (c8 m t l hm hbm o x p hx' hp).mono (hx.cut m t l)⟩
  · intro B2 o x; have := H.Sok B2 o x; simp; omega
  · intro h' t B2 f to e s x
    refine ⟨(H.tok h' t B2 f to e s x).1, fun o h1 h2 => ?_⟩
    obtain ⟨g1, g2, arr, elem, fr, g3, g4, g5⟩ := (H.tok h' t B2 f to e s x).2 o h1 h2
    exact ⟨g1, g2, arr, elem, fr, get_push w ob g3, g4, g5⟩
  · intro i r hr
    obtain ⟨B, h1, h2⟩ := H.lps i r hr
    exact ⟨B, h1, h2.mono hx fun _ a _ => get_push w ob a⟩

/-! ### a new block -/
def Ctx.lay (C : Ctx) (h : Bool) (n B : Nat) : Ctx := ⟨C.S, fun h' b => if h' = h ∧ b = n then some B else C.σ h' b, C.tl, C.lp, C.N⟩

theorem Sim.layAt (H : Sim w C st bs) (h : Bool) {B : Nat} {arr : Array Value} {elem : TypeId} {fr : Nat × Nat} {cs : List PV} (hB : w.heap[B]? = some (.cells arr elem fr)) (hfr : ∀ o, notFrozen fr o)
    (hS : ∀ o, ¬ C.S B o) (hN : C.N ≤ B) (hσ : ∀ h' b', C.σ h' b' = some B → st.blk h' b' = some [])
    (htk : ∀ o t B' f to e s i, C.tl o t = some (B', f, to, e, s) → f ≤ i → i < to → B' ≠ B) (hlen : cs.length ≤ arr.size)
    (hone : ∀ (o : Nat) (x : Value), arr[o]? = some x → x.oneCell' = true)
    (hrep : ∀ (o : Nat) (x : Value) (p : PV), arr[o]? = some x → cs[o]? = some p → Rep w C x p)
    (hcut : ∀ m t l, (m, t, l) ∈ bs → h = true → ∀ (o : Nat) (x : Value) (p : PV), arr[o]? = some x → cs[o]? = some p → Rep w (C.cut m t l) x p) :
    Sim w (C.lay h (st.len h) B) (st.lay h cs) bs ∧ Ext w C w (C.lay h (st.len h) B) := by
  have hx : Ext w C w (C.lay h (st.len h) B) := by
    refine Ext.same rfl (fun _ _ x => x) ?_ (fun _ _ B f to e _ x => ⟨B, f, to, e, x, Nat.le_refl _, fun _ => ⟨rfl, rfl, rfl⟩⟩) (fun _ _ x => x)
    intro a b B' x
    simp only [Ctx.lay]
    rw [if_neg (by rintro ⟨rfl, rfl⟩; have := H.σlen x; omega)]
    exact x
  refine ⟨⟨?_, ?_, ?_, H.Sok, ?_, ?_, H.disj, ?_, ?_, ?_, ?_, H.lpinj⟩, hx⟩
  · intro a b ds hb
    rw [blk_lay] at hb
    split at hb
    · rename_i hab
      obtain ⟨rfl, rfl⟩ := hab
      obtain rfl := Option.some.inj hb
      refine ⟨B, arr, elem, fr, by simp [Ctx.lay], hB, hlen, hfr, fun _ => hS, hone, fun o x p hx' hp => (hrep o x p hx' hp).mono hx, ?_⟩
      intro m t l hm hbm o x p hx' hp
      rcases hbm with hbm | hbm
      · exact (hcut m t l hm hbm o x p hx' hp).mono (hx.cut m t l)
      · have := (H.bnd m t l hm).1
        cases a with
        | true => exact (hcut m t l hm rfl o x p hx' hp).mono (hx.cut m t l)
        | false => simp only [St.len] at hbm; omega
    · rename_i hab
      obtain ⟨B', arr', elem', fr', h1, h2, h3, h4, h5, h6, h7, h8⟩ := H.blk a b ds hb
      exact ⟨B', arr', elem', fr', hx.σ _ _ _ h1, h2, h3, h4, h5, h6, fun o x p hx' hp => (h7 o x p hx' hp).mono hx, fun m t l hm hbm o x p hx' hp => (h8 m t l hm hbm o x p hx' hp).mono (hx.cut m t l)⟩
  · intro a b B' x
    rw [blk_lay]
    split
    · exact ⟨_, rfl⟩
    · rename_i hab
      simp only [Ctx.lay] at x
      rw [if_neg hab] at x
      exact H.dom a b B' x
  · intro a b a' b' B' x y
    simp only [Ctx.lay] at x y
    rw [blk_lay, blk_lay]
    split at x
    · rename_i e1
      split at y
      · rename_i e2; exact Or.inl ⟨e1.1.trans e2.1.symm, e1.2.trans e2.2.symm⟩
      · rename_i e2
        obtain rfl := Option.some.inj x
        right; right
        rw [if_neg e2]
        exact hσ _ _ y
    · rename_i e1
      split at y
      · rename_i e2
        obtain rfl := Option.some.inj y
        right; left
        rw [if_neg e1]
        exact hσ _ _ x
      · rename_i e2
        rw [if_neg e1, if_neg e2]
        exact H.inj a b a' b' B' x y
  · intro o t B' f to e s x
    rw [tok_lay]
    refine ⟨(H.tok o t B' f to e s x).1, fun i a b => ?_⟩
    obtain ⟨g1, g2, g3⟩ := (H.tok o t B' f to e s x).2 i a b
    refine ⟨g1, ⟨fun a' b' => ?_, g2.2⟩, g3⟩
    simp only [Ctx.lay]
    split
    · intro q
      exact htk o t B' f to e s i x a b (Option.some.inj q).symm
    · exact g2.1 a' b'
  · intro o t e s x
    rw [tok_lay] at x
    exact H.tokdom o t e s x
  · intro m t l hm
    have := H.bnd m t l hm
    have h1 := len_lay st h cs false
    rw [tk_lay, lp_lay]
    refine ⟨?_, this.2⟩
    have h2 : (st.lay h cs).stk.length = (st.lay h cs).len false := rfl
    rw [h2, h1]
    have h3 : st.stk.length = st.len false := rfl
    split
    · rename_i q; rw [← q]; omega
    · omega
  · refine ⟨H.low.1, fun a b B' x => ?_, H.low.2.2⟩
    simp only [Ctx.lay] at x
    split at x
    · obtain rfl := Option.some.inj x; exact hN
    · exact H.low.2.1 a b B' x
  · intro i r hr
    rw [lp_lay] at hr
    obtain ⟨B', h1, h2⟩ := H.lps i r hr
    exact ⟨B', h1, h2.mono hx fun _ a _ => a⟩
  · intro i B' x
    rw [lp_lay]
    exact H.lpdom i B' x

/-- A new block in a new object. -/
theorem Sim.lay (H : Sim w C st bs) (h : Bool) (arr : Array Value) (elem : TypeId) (cs : List PV)
    (hlen : cs.length ≤ arr.size) (hone : ∀ (o : Nat) (x : Value), arr[o]? = some x → x.oneCell' = true)
    (hrep : ∀ (o : Nat) (x : Value) (p : PV), arr[o]? = some x → cs[o]? = some p → Rep w C x p)
    (hcut : ∀ m t l, (m, t, l) ∈ bs → h = true → ∀ (o : Nat) (x : Value) (p : PV), arr[o]? = some x → cs[o]? = some p → Rep w (C.cut m t l) x p) :
    Sim { w with heap := w.heap.push (.cells arr elem (0, 0)) } (C.lay h (st.len h) w.heap.size) (st.lay h cs) bs ∧ Ext w C { w with heap := w.heap.push (.cells arr elem (0, 0)) } (C.lay h (st.len h) w.heap.size) := by
  obtain ⟨h1, h2⟩ := H.alloc (.cells arr elem (0, 0))
  obtain ⟨g1, g2⟩ := h1.layAt h (B := w.heap.size) (arr := arr) (elem := elem) (fr := (0, 0)) (cs := cs) (by simp) (fun o => by simp [notFrozen]) (fun o x => by have := H.Sok _ _ x; omega) H.low.1
    (fun h' b' x => by have := H.σlt x; omega) (fun o t B' f to e s i x a b => by
      obtain ⟨_, _, arr', elem', fr', q, _⟩ := (H.tok o t B' f to e s x).2 i a b
      have := (Array.getElem?_eq_some_iff.1 q).1
      omega) hlen hone (fun o x p a b => (hrep o x p a b).mono h2) (fun m t l hm hh o x p a b => (hcut m t l hm hh o x p a b).mono (h2.cut m t l))
  exact ⟨g1, h2.trans g2⟩

end
end Go.AM

/- The abstract machine: stores into a block, and rows that grow. No condition. -/
set_option linter.unusedVariables false
namespace Go.AM
open Go Go.RowKit

def laidA (c : Array Value) (off : Nat) : List Value → Array Value
  | [] => c
  | v :: vs => laidA (c.setIfInBounds off v) (off + 1) vs

theorem laidA_size : ∀ (vs : List Value) (c : Array Value) (off : Nat), (laidA c off vs).size = c.size
  | [], _, _ => rfl
  | v :: vs, c, off => by rw [laidA, laidA_size vs]; simp

theorem laidA_get : ∀ (vs : List Value) (c : Array Value) (off i : Nat), off + vs.length ≤ c.size →
    (laidA c off vs)[i]? = if off ≤ i ∧ i < off + vs.length then vs[i - off]? else c[i]?
  | [], c, off, i, _ => by rw [laidA, if_neg (by simp <;> omega)]
  | v :: vs, c, off, i, h => by
    simp only [List.length_cons] at h ⊢
    rw [laidA, laidA_get vs _ (off + 1) i (by simp; omega)]
    by_cases h1 : off + 1 ≤ i ∧ i < off + 1 + vs.length
    · rw [if_pos h1, if_pos (by omega), show i - off = (i - (off + 1)) + 1 by omega, List.getElem?_cons_succ]
    · rw [if_neg h1]
      by_cases h2 : i = off
      · subst h2
        rw [if_pos (by omega), Nat.sub_self, Array.getElem?_setIfInBounds_self_of_lt (by omega), List.getElem?_cons_zero]
      · rw [if_neg (by omega), Array.getElem?_setIfInBounds_ne (Ne.symm h2)]

theorem laid_length : ∀ (cs : List PV) (l : List PV) (off : Nat), (laid l off cs).length = l.length
  | [], _, _ => rfl
  | c :: cs, l, off => by rw [laid, laid_length cs]; simp

theorem laid_get : ∀ (cs : List PV) (l : List PV) (off i : Nat), off + cs.length ≤ l.length →
    (laid l off cs)[i]? = if off ≤ i ∧ i < off + cs.length then cs[i - off]? else l[i]?
  | [], l, off, i, _ => by rw [laid, if_neg (by simp <;> omega)]
  | v :: vs, l, off, i, h => by
    simp only [List.length_cons] at h ⊢
    rw [laid, laid_get vs _ (off + 1) i (by simp; omega)]
    by_cases h1 : off + 1 ≤ i ∧ i < off + 1 + vs.length
    · rw [if_pos h1, if_pos (by omega), show i - off = (i - (off + 1)) + 1 by omega, List.getElem?_cons_succ]
    · rw [if_neg h1]
      by_cases h2 : i = off
      · subst h2
        rw [if_pos (by omega), Nat.sub_self, List.getElem?_set_self (by omega), List.getElem?_cons_zero]
      · rw [if_neg (by omega), List.getElem?_set_ne (Ne.symm h2)]

theorem setCell_heap (w : World) (b o : Nat) (v : Value) (B : Nat) : (w.setCell ⟨b, o, none⟩ v).heap[B]? =
    if B = b then (match w.heap[b]? with | some (.cells c e fr) => some (.cells (c.setIfInBounds o v) e fr) | x => x) else w.heap[B]? := by
  simp only [World.setCell, Array.getElem?_modify]
  by_cases h : b = B
  · subst h
    simp only [if_true]
    cases w.heap[b]? with
    | none => rfl
    | some x => cases x <;> rfl
  · rw [if_neg h, if_neg (Ne.symm h)]

theorem setCells_heap : ∀ (vs : List Value) (w : World) (b o B : Nat), (w.setCells b o vs).heap[B]? =
    if B = b then (match w.heap[b]? with | some (.cells c e fr) => some (.cells (laidA c o vs) e fr) | x => x) else w.heap[B]?
  | [], w, b, o, B => by
    simp only [World.setCells, laidA]
    split
    · rename_i h; subst h; split <;> rename_i h <;> simp [h]
    · rfl
  | v :: vs, w, b, o, B => by
    rw [World.setCells, setCells_heap vs, setCell_heap, setCell_heap]
    simp only [if_true]
    by_cases h : B = b
    · rw [if_pos h, if_pos h]
      cases w.heap[b]? with
      | none => rfl
      | some x => cases x <;> rfl
    · rw [if_neg h, if_neg h, if_neg h]

theorem setCells_size (w : World) (b : Nat) : ∀ (vs : List Value) (o : Nat) , (w.setCells b o vs).heap.size = w.heap.size := by
  intro vs
  induction vs generalizing w with
  | nil => intro o; rfl
  | cons v vs ih => intro o; rw [World.setCells, ih]; simp [World.setCell]

/-- Cells of a block that is not read in another place may be overwritten. -/
theorem below_set {N B : Nat} (hB : N ≤ B) : ∀ (vs : List Value) (off : Nat) (w : World), Below N w (w.setCells B off vs)
  | [], _, _ => Below.refl _ _
  | v :: vs, off, w => ((Below.refl N w).setCell (p := ⟨B, off, none⟩) hB v).trans (below_set hB vs (off + 1) _)

theorem setCells_shape (w : World) (b off : Nat) (vs : List Value) {B : Nat} {arr : Array Value} {elem : TypeId} {fr : Nat × Nat} (h : w.heap[B]? = some (.cells arr elem fr)) :
    (w.setCells b off vs).heap[B]? = some (.cells (if B = b then laidA arr off vs else arr) elem fr) := by
  rw [setCells_heap]
  by_cases e : B = b
  · subst e; rw [if_pos rfl, if_pos rfl, h]
  · rw [if_neg e, if_neg e]; exact h
theorem setCells_other (w : World) (b off : Nat) (vs : List Value) {B : Nat} {ob : Obj} (h : w.heap[B]? = some ob) (ho : ∀ arr elem fr, ob ≠ .cells arr elem fr) :
    (w.setCells b off vs).heap[B]? = some ob := by
  rw [setCells_heap]
  by_cases e : B = b
  · subst e
    rw [if_pos rfl, h]
    cases ob <;> first | rfl | exact absurd rfl (ho _ _ _)
  · rw [if_neg e]; exact h

theorem Ext.of_set {w : World} {C : Ctx} {B off : Nat} {vs : List Value} (h : ∀ i, off ≤ i → i < off + vs.length → ¬ C.S B i) (hN : vs = [] ∨ C.N ≤ B) : Ext w C (w.setCells B off vs) C := by
  refine ⟨by rw [setCells_size]; exact Nat.le_refl _, rfl, (by
    rcases hN with rfl | hN
    · exact Below.refl _ _
    · exact below_set hN vs off w), fun _ _ x => x, ?_, fun _ _ _ x => x, fun _ _ B f to e _ x => ⟨B, f, to, e, x, Nat.le_refl _, fun _ => ⟨rfl, rfl, rfl⟩⟩, fun _ _ x => x, ?_, ?_⟩
  · intro B' o x
    refine World.cell?_setCells_out B vs off w _ fun h1 _ => ?_
    simp only at h1 ⊢
    subst h1
    by_cases q : off ≤ o ∧ o < off + vs.length
    · exact absurd x (h o q.1 q.2)
    · omega
  · intro a b B' x arr elem fr y
    refine ⟨_, _, _, setCells_shape w B off vs y, ?_⟩
    split
    · exact laidA_size _ _ _
    · rfl
  · intro D x
    exact setCells_other w B off vs x (by intro _ _ _ q; cases q)

theorem spare_set {w : World} {C : Ctx} {B off : Nat} {vs : List Value} {B' o : Nat} (x : spare w C B' o) : spare (w.setCells B off vs) C B' o := by
  obtain ⟨h1, h2, arr, elem, fr, h3, h4, h5⟩ := x
  refine ⟨h1, h2, _, _, _, setCells_shape w B off vs h3, ?_, h5⟩
  split
  · rw [laidA_size]; exact h4
  · exact h4

section
variable {w : World} {C : Ctx} {st : St} {bs : List (Nat × Nat × Nat)}

/-- A block's cells are written, and what is known of them is told anew. -/
theorem Sim.put (H : Sim w C st bs) {h : Bool} {b B off : Nat} {old ds : List PV} {vs : List Value} {arr : Array Value} {elem : TypeId} {fr : Nat × Nat}
    (hσ : C.σ h b = some B) (hb : st.blk h b = some old) (hB : w.heap[B]? = some (.cells arr elem fr)) (hl : ds.length ≤ arr.size) (hone : ∀ v ∈ vs, v.oneCell' = true) (hin : off + vs.length ≤ arr.size)
    (hne : old ≠ [] ∨ vs = [] ∧ ds = [])
    (hrep : ∀ (o : Nat) (x : Value) (p : PV), (laidA arr off vs)[o]? = some x → ds[o]? = some p → Rep w C x p)
    (hcut : ∀ m t l, (m, t, l) ∈ bs → (h = true ∨ b < m) → ∀ (o : Nat) (x : Value) (p : PV), (laidA arr off vs)[o]? = some x → ds[o]? = some p → Rep w (C.cut m t l) x p) :
    Sim (w.setCells B off vs) C (st.setBlk h b ds) bs ∧ Ext w C (w.setCells B off vs) C := by
  obtain ⟨B', arr', elem', fr', a1, a2, a3, a4, a5, a6, a7, a8⟩ := H.blk h b old hb
  rw [hσ] at a1
  obtain rfl := Option.some.inj a1
  rw [hB] at a2
  obtain ⟨rfl, rfl, rfl⟩ : arr = arr' ∧ elem = elem' ∧ fr = fr' := by cases a2; exact ⟨rfl, rfl, rfl⟩
  have hx : Ext w C (w.setCells B off vs) C := Ext.of_set (fun i k1 k2 => by
    rcases hne with hne | ⟨rfl, _⟩
    · exact a5 hne i
    · simp at k2; omega) (Or.inr (H.low.2.1 _ _ _ hσ))
  refine ⟨⟨?_, ?_, ?_, ?_, ?_, ?_, H.disj, ?_, ⟨by rw [setCells_size]; exact H.low.1, H.low.2⟩, ?_, ?_, H.lpinj⟩, hx⟩
  · intro h' b' es hd
    rw [blk_setBlk st h b _ h' b' hb] at hd
    by_cases e : h' = h ∧ b' = b
    · obtain ⟨rfl, rfl⟩ := e
      rw [if_pos ⟨rfl, rfl⟩] at hd
      obtain rfl := Option.some.inj hd
      refine ⟨B, laidA arr off vs, elem, fr, hσ, ?_, ?_, a4, ?_, ?_, fun o x p hx' hp => (hrep o x p hx' hp).mono hx, fun m t l hm hbm o x p hx' hp => (hcut m t l hm hbm o x p hx' hp).mono (hx.cut m t l)⟩
      · rw [setCells_heap, if_pos rfl, hB]
      · rw [laidA_size]; exact hl
      · intro q
        rcases hne with hne | ⟨_, rfl⟩
        · exact a5 hne
        · exact absurd rfl q
      · intro o x hx'
        rw [laidA_get vs arr off o hin] at hx'
        split at hx'
        · exact hone x (List.mem_of_getElem? hx')
        · exact a6 o x hx'
    · rw [if_neg e] at hd
      obtain ⟨B2, arr2, elem2, fr2, c1, c2, c3, c4, c5, c6, c7, c8⟩ := H.blk h' b' es hd
      by_cases hBB : B2 = B
      · subst hBB
        rcases H.inj _ _ _ _ _ c1 hσ with q | q | q
        · exact absurd q e
        · rw [hd] at q
          obtain rfl := Option.some.inj q
          refine ⟨B2, _, _, _, c1, setCells_shape w B2 off vs c2, Nat.zero_le _, c4, fun q => absurd rfl q, ?_, by simp, by simp⟩
          rw [c2] at hB
          cases hB
          intro o x hx'
          rw [if_pos rfl, laidA_get vs arr off o hin] at hx'
          split at hx'
          · exact hone x (List.mem_of_getElem? hx')
          · exact a6 o x hx'
        · rw [hb] at q
          obtain rfl := Option.some.inj q
          rcases hne with hne | ⟨rfl, rfl⟩
          · exact absurd rfl hne
          · exact ⟨B2, arr2, elem2, fr2, c1, c2, c3, c4, c5, c6, c7, c8⟩
      · refine ⟨B2, arr2, elem2, fr2, c1, ?_, c3, c4, c5, c6, fun o x p hx' hp => (c7 o x p hx' hp).mono hx, fun m t l hm hbm o x p hx' hp => (c8 m t l hm hbm o x p hx' hp).mono (hx.cut m t l)⟩
        rw [setCells_heap, if_neg hBB]; exact c2
  · intro h' b' B2 x
    rw [blk_setBlk st h b _ h' b' hb]
    split
    · exact ⟨_, rfl⟩
    · exact H.dom h' b' B2 x
  · intro h1 b1 h2 b2 B2 x y
    rw [blk_setBlk st h b _ h1 b1 hb, blk_setBlk st h b _ h2 b2 hb]
    rcases H.inj h1 b1 h2 b2 B2 x y with q | q | q
    · exact Or.inl q
    · split
      · rename_i e
        obtain ⟨rfl, rfl⟩ := e
        rw [hb] at q
        obtain rfl := Option.some.inj q
        rcases hne with hne | ⟨_, rfl⟩
        · exact absurd rfl hne
        · exact Or.inr (Or.inl rfl)
      · exact Or.inr (Or.inl q)
    · right
      split
      · rename_i e
        obtain ⟨rfl, rfl⟩ := e
        by_cases e2 : h2 = h1 ∧ b2 = b1
        · obtain ⟨rfl, rfl⟩ := e2
          rw [hb] at q
          obtain rfl := Option.some.inj q
          rcases hne with hne | ⟨_, rfl⟩
          · exact absurd rfl hne
          · exact Or.inl rfl
        · rw [if_neg e2]; exact Or.inr q
      · by_cases e2 : h2 = h ∧ b2 = b
        · obtain ⟨rfl, rfl⟩ := e2
          rw [hb] at q
          obtain rfl := Option.some.inj q
          rcases hne with hne | ⟨_, rfl⟩
          · exact absurd rfl hne
          · rw [if_pos ⟨rfl, rfl⟩]; exact Or.inr rfl
        · rw [if_neg e2]; exact Or.inr q
  · intro B2 o x; rw [setCells_size]; exact H.Sok B2 o x
  · intro h' t B2 f to e s x
    exact ⟨by rw [tok_setBlk]; exact (H.tok h' t B2 f to e s x).1, fun o h1 h2 => spare_set ((H.tok h' t B2 f to e s x).2 o h1 h2)⟩
  · intro h' t e s x
    rw [tok_setBlk] at x
    exact H.tokdom h' t e s x
  · intro m t l hm
    have := H.bnd m t l hm
    have h1 : (st.setBlk h b ds).stk.length = st.stk.length := len_upB st h b _ false
    rw [h1, St.setBlk, tk_upB, lp_upB]
    exact this
  · intro i r hr
    rw [St.setBlk, lp_upB] at hr
    obtain ⟨B2, h1, h2⟩ := H.lps i r hr
    exact ⟨B2, h1, h2.mono hx fun _ a b => setCells_other w B off vs a b⟩
  · intro i B2 x
    rw [St.setBlk, lp_upB]
    exact H.lpdom i B2 x

/-- Cells of a block are written, those beside them stay. -/
theorem Sim.store (H : Sim w C st bs) {h : Bool} {b B off : Nat} {old cs : List PV} {vs : List Value}
    (hσ : C.σ h b = some B) (hb : st.blk h b = some old) (hl : vs.length = cs.length) (hr : off + cs.length ≤ old.length)
    (hone : ∀ v ∈ vs, v.oneCell' = true) (hrep : ∀ (i : Nat) (x : Value) (p : PV), vs[i]? = some x → cs[i]? = some p → Rep w C x p)
    (hcut : ∀ m t l, (m, t, l) ∈ bs → (h = true ∨ b < m) → ∀ (i : Nat) (x : Value) (p : PV), vs[i]? = some x → cs[i]? = some p → Rep w (C.cut m t l) x p) :
    Sim (w.setCells B off vs) C (st.setBlk h b (laid old off cs)) bs ∧ Ext w C (w.setCells B off vs) C := by
  obtain ⟨B', arr, elem, fr, a1, a2, a3, a4, a5, a6, a7, a8⟩ := H.blk h b old hb
  rw [hσ] at a1
  obtain rfl := Option.some.inj a1
  refine H.put hσ hb a2 (by rw [laid_length]; exact a3) hone (by omega) ?_ ?_ ?_
  · by_cases q : old = []
    · right
      subst q
      simp at hr
      obtain ⟨rfl, hr⟩ := hr
      subst hr
      simp at hl
      exact ⟨hl, rfl⟩
    · exact Or.inl q
  · intro o x p hx' hp
    rw [laidA_get vs arr off o (by omega)] at hx'
    rw [laid_get cs old off o (by omega), ← hl] at hp
    split at hx'
    · rename_i hin; rw [if_pos hin] at hp; exact hrep _ x p hx' hp
    · rename_i hin; rw [if_neg hin] at hp; exact a7 o x p hx' hp
  · intro m t l hm hbm o x p hx' hp
    rw [laidA_get vs arr off o (by omega)] at hx'
    rw [laid_get cs old off o (by omega), ← hl] at hp
    split at hx'
    · rename_i hin; rw [if_pos hin] at hp; exact hcut m t l hm hbm _ x p hx' hp
    · rename_i hin; rw [if_neg hin] at hp; exact a8 m t l hm hbm o x p hx' hp

/-- Nothing is known of a block any more. -/
theorem Sim.shut (H : Sim w C st bs) {h : Bool} {b : Nat} {old : List PV} (hb : st.blk h b = some old) : Sim w C (st.setBlk h b []) bs := by
  obtain ⟨B, arr, elem, fr, a1, a2, a3, a4, a5, a6, a7, a8⟩ := H.blk h b old hb
  have := (H.put (vs := []) (off := 0) (ds := []) a1 hb a2 (Nat.zero_le _) (by simp) (by simp) (Or.inr ⟨rfl, rfl⟩) (by simp) (by simp)).1
  simpa [World.setCells] using this

/-- Cells that nobody reads are overwritten. -/
theorem Sim.scribble (H : Sim w C st bs) {B off : Nat} {vs : List Value}
    (hS : ∀ i, off ≤ i → i < off + vs.length → ¬ C.S B i) (hσ : vs ≠ [] → (∀ h b, C.σ h b ≠ some B) ∧ C.N ≤ B) :
    Sim (w.setCells B off vs) C st bs ∧ Ext w C (w.setCells B off vs) C := by
  have hx : Ext w C (w.setCells B off vs) C := Ext.of_set hS (by cases vs with | nil => exact Or.inl rfl | cons v vs => exact Or.inr (hσ (by simp)).2)
  refine ⟨⟨?_, H.dom, H.inj, ?_, ?_, H.tokdom, H.disj, H.bnd, ⟨by rw [setCells_size]; exact H.low.1, H.low.2⟩, ?_, H.lpdom, H.lpinj⟩, hx⟩
  · intro h' b' ds hd
    obtain ⟨B2, arr2, elem2, fr2, c1, c2, c3, c4, c5, c6, c7, c8⟩ := H.blk h' b' ds hd
    refine ⟨B2, arr2, elem2, fr2, c1, ?_, c3, c4, c5, c6, fun o x p hx' hp => (c7 o x p hx' hp).mono hx, fun m t l hm hbm o x p hx' hp => (c8 m t l hm hbm o x p hx' hp).mono (hx.cut m t l)⟩
    cases vs with
    | nil => exact c2
    | cons v vs =>
      have hne : B2 ≠ B := fun q => by subst q; exact (hσ (by simp)).1 _ _ c1
      rw [setCells_heap, if_neg hne]; exact c2
  · intro B2 o x; rw [setCells_size]; exact H.Sok B2 o x
  · intro h' t B2 f to e s x
    exact ⟨(H.tok h' t B2 f to e s x).1, fun o h1 h2 => spare_set ((H.tok h' t B2 f to e s x).2 o h1 h2)⟩
  · intro i r hr
    obtain ⟨B2, h1, h2⟩ := H.lps i r hr
    exact ⟨B2, h1, h2.mono hx fun _ a b => setCells_other w B off vs a b⟩

/-- Worlds that differ in nothing but what was drawn, or is outside. -/
theorem Sim.heap {w' : World} (H : Sim w C st bs) (e : w'.heap = w.heap) (e1 : w'.os = w.os) (e2 : w'.tape = w.tape) (e3 : w'.output = w.output) : Sim w' C st bs ∧ Ext w C w' C := by
  have hx : Ext w C w' C := ⟨by rw [e]; exact Nat.le_refl _, rfl, ⟨e1, e2, e3, by rw [e]; exact Nat.le_refl _, fun k _ => by rw [e]⟩, fun _ _ x => x, fun B o _ => by simp only [World.cell?, e], fun _ _ _ x => x, fun _ _ B f to e _ x => ⟨B, f, to, e, x, Nat.le_refl _, fun _ => ⟨rfl, rfl, rfl⟩⟩,
    fun _ _ x => x, fun _ _ _ _ arr elem fr h => ⟨arr, elem, fr, by rw [e]; exact h, rfl⟩, fun _ h => by rw [e]; exact h⟩
  refine ⟨⟨?_, H.dom, H.inj, by rw [e]; exact H.Sok, ?_, H.tokdom, H.disj, H.bnd, by rw [e]; exact H.low, ?_, H.lpdom, H.lpinj⟩, hx⟩
  · intro h' b' ds hd
    obtain ⟨B2, arr2, elem2, fr2, c1, c2, c3, c4, c5, c6, c7, c8⟩ := H.blk h' b' ds hd
    exact ⟨B2, arr2, elem2, fr2, c1, by rw [e]; exact c2, c3, c4, c5, c6, fun o x p hx' hp => (c7 o x p hx' hp).mono hx, fun m t l hm hbm o x p hx' hp => (c8 m t l hm hbm o x p hx' hp).mono (hx.cut m t l)⟩
  · intro h' t B2 f to e' s x
    refine ⟨(H.tok h' t B2 f to e' s x).1, fun o h1 h2 => ?_⟩
    obtain ⟨g1, g2, arr, elem, fr, g3, g4, g5⟩ := (H.tok h' t B2 f to e' s x).2 o h1 h2
    exact ⟨g1, g2, arr, elem, fr, by rw [e]; exact g3, g4, g5⟩
  · intro i r hr
    obtain ⟨B2, h1, h2⟩ := H.lps i r hr
    exact ⟨B2, h1, h2.mono hx fun _ a _ => by rw [e]; exact a⟩

/-! ### a token goes on -/
noncomputable def Ctx.claim (C : Ctx) (X : Nat → Nat → Prop) (o : Ow) (t : Nat) (y : Nat × Nat × Nat × Nat × Nat) : Ctx :=
  ⟨fun B i => C.S B i ∨ X B i, C.σ, fun o' t' => open Classical in if o' = o ∧ t' = t then some y else C.tl o' t', C.lp, C.N⟩

theorem Sim.claim {st' : St} (H : Sim w C st bs) {X : Nat → Nat → Prop} {o : Ow} {t B f to e s : Nat}
    (hblk : ∀ a b, st'.blk a b = st.blk a b) (htok : ∀ o' t', st'.tok o' t' = open Classical in if o' = o ∧ t' = t then some (e, s) else st.tok o' t')
    (hstk : st'.stk.length = st.stk.length) (htk : st.tk.length ≤ st'.tk.length) (hlp : st'.lp = st.lp)
    (hX : ∀ B i, X B i → B < w.heap.size ∧ (∀ a b cs, C.σ a b = some B → st.blk a b = some cs → cs = []))
    (hself : ∀ i, f ≤ i → i < to → spare w C B i ∧ ¬ X B i)
    (hother : ∀ o' t' B' f' to' e' s', C.tl o' t' = some (B', f', to', e', s') → ¬ (o' = o ∧ t' = t) → ∀ i, f' ≤ i → i < to' → ¬ X B' i ∧ (B' = B → i < f ∨ to ≤ i))
    (hgo : ∀ B' f' to' e' s', C.tl o t = some (B', f', to', e', s') → s' = s ∧ e' ≤ e ∧ (e' = e → B' = B ∧ f' = f ∧ to' = to)) :
    Sim w (C.claim X o t (B, f, to, e, s)) st' bs ∧ Ext w C w (C.claim X o t (B, f, to, e, s)) := by
  classical
  have hx : Ext w C w (C.claim X o t (B, f, to, e, s)) := by
    refine Ext.same rfl (fun _ _ x => Or.inl x) (fun _ _ _ x => x) ?_ (fun _ _ x => x)
    intro h' t' B' f' to' e' s' x
    simp only [Ctx.claim]
    by_cases q : h' = o ∧ t' = t
    · obtain ⟨rfl, rfl⟩ := q
      rw [if_pos ⟨rfl, rfl⟩]
      obtain ⟨rfl, g1, g2⟩ := hgo B' f' to' e' s' x
      exact ⟨B, f, to, e, rfl, g1, fun q => by obtain ⟨rfl, rfl, rfl⟩ := g2 q; exact ⟨rfl, rfl, rfl⟩⟩
    · rw [if_neg q]
      exact ⟨B', f', to', e', x, Nat.le_refl _, fun _ => ⟨rfl, rfl, rfl⟩⟩
  refine ⟨⟨?_, ?_, ?_, ?_, ?_, ?_, ?_, ?_, H.low, ?_, ?_, H.lpinj⟩, hx⟩
  · intro h' b' ds hd
    rw [hblk] at hd
    obtain ⟨B2, arr2, elem2, fr2, c1, c2, c3, c4, c5, c6, c7, c8⟩ := H.blk h' b' ds hd
    refine ⟨B2, arr2, elem2, fr2, c1, c2, c3, c4, ?_, c6, fun o x p hx' hp => (c7 o x p hx' hp).mono hx, fun m t l hm hbm o x p hx' hp => (c8 m t l hm hbm o x p hx' hp).mono (hx.cut m t l)⟩
    rintro hne o (x | x)
    · exact c5 hne o x
    · exact hne ((hX _ _ x).2 _ _ _ c1 hd)
  · intro a b B2 x; rw [hblk]; exact H.dom a b B2 x
  · intro a b a' b' B2 x y; rw [hblk, hblk]; exact H.inj a b a' b' B2 x y
  · rintro B2 o (x | x)
    · exact H.Sok B2 o x
    · exact (hX _ _ x).1
  · intro h' t' B' f' to' e' s' x
    rw [htok]
    simp only [Ctx.claim] at x
    split at x
    · rename_i q
      simp only [Option.some.injEq, Prod.mk.injEq] at x
      obtain ⟨rfl, rfl, rfl, rfl, rfl⟩ := x
      rw [if_pos q]
      refine ⟨rfl, fun o h1 h2 => ?_⟩
      obtain ⟨⟨g1, g2, g3⟩, g4⟩ := hself o h1 h2
      exact ⟨fun z => z.elim g1 g4, g2, g3⟩
    · rename_i q
      rw [if_neg q]
      refine ⟨(H.tok h' t' B' f' to' e' s' x).1, fun o h1 h2 => ?_⟩
      obtain ⟨g1, g2, g3⟩ := (H.tok h' t' B' f' to' e' s' x).2 o h1 h2
      exact ⟨fun z => z.elim g1 (hother h' t' B' f' to' e' s' x q o h1 h2).1, g2, g3⟩
  · intro h' t' e' s' x
    rw [htok] at x
    simp only [Ctx.claim]
    split at x
    · rename_i q
      rw [if_pos q]
      obtain ⟨rfl, rfl⟩ := Prod.mk.inj (Option.some.inj x)
      exact ⟨B, f, to, rfl⟩
    · rename_i q
      rw [if_neg q]
      exact H.tokdom h' t' e' s' x
  · intro h1 t1 h2 t2 B' f1 to1 e1 s1 f2 to2 e2 s2 x y
    simp only [Ctx.claim] at x y
    split at x
    · rename_i q1
      split at y
      · rename_i q2
        exact Or.inl ⟨q1.1.trans q2.1.symm, q1.2.trans q2.2.symm⟩
      · rename_i q2
        simp only [Option.some.injEq, Prod.mk.injEq] at x
        obtain ⟨rfl, rfl, rfl, rfl, rfl⟩ := x
        refine Or.inr fun o a b c d => ?_
        rcases (hother h2 t2 B f2 to2 e2 s2 y q2 o c d).2 rfl with z | z <;> omega
    · rename_i q1
      split at y
      · rename_i q2
        simp only [Option.some.injEq, Prod.mk.injEq] at y
        obtain ⟨rfl, rfl, rfl, rfl, rfl⟩ := y
        refine Or.inr fun o a b c d => ?_
        rcases (hother h1 t1 B f1 to1 e1 s1 x q1 o a b).2 rfl with z | z <;> omega
      · exact H.disj h1 t1 h2 t2 B' f1 to1 e1 s1 f2 to2 e2 s2 x y
  · intro m t' l hm
    have := H.bnd m t' l hm
    rw [hstk, hlp]
    exact ⟨this.1, by omega, this.2.2⟩
  · intro i r hr
    rw [hlp] at hr
    obtain ⟨B2, h1, h2⟩ := H.lps i r hr
    exact ⟨B2, h1, h2.mono hx fun _ a _ => a⟩
  · intro i B2 x
    rw [hlp]
    exact H.lpdom i B2 x

end
end Go.AM

/- The abstract machine: operations that leave the state: what they answer, the model answers. No condition. -/
set_option linter.unusedVariables false
namespace Go.AM
open Go

theorem pureIn_run {α : Type} {P : Program} : ∀ {s : Sem α} {a : α}, pureIn P s = some a → ∀ w, s.run P w = .ok a w := by
  intro s
  induction s with
  | pure b => intro a h w; obtain rfl := Option.some.inj h; rfl
  | program k ih => intro a h w; exact ih P h w
  | _ => intro a h w; simp [pureIn] at h

/-- The calls that wait for an activation's end: marks of loops over functions alone, whose blocks are empty. -/
structure Marks (w : World) (lo : Nat) (ds : List Deferred) : Prop where
  le : lo ≤ w.heap.size
  ok : ∀ d ∈ ds, ∃ D, d = ⟨.collected D, #[]⟩ ∧ lo ≤ D ∧ w.heap[D]? = some (.deferred (some []))
  nd : ds.Pairwise fun a b => ∀ D, a.target = .collected D → b.target ≠ .collected D
theorem Marks.nil {w : World} {lo : Nat} (h : lo ≤ w.heap.size) : Marks w lo [] := ⟨h, by simp, .nil⟩
theorem Marks.mono {w w' : World} {C C' : Ctx} {lo : Nat} {ds : List Deferred} (h : Marks w lo ds) (x : Ext w C w' C') : Marks w' lo ds :=
  ⟨Nat.le_trans h.le x.size, fun d hd => by obtain ⟨D, h1, h2, h3⟩ := h.ok d hd; exact ⟨D, h1, h2, x.dfr D h3⟩, h.nd⟩

/-- What the cells of package-level variables hold, all the time; the memory at the start. -/
structure GV where
  cell : Nat → Nat → Option Value
  w0 : World
def GInv (gv : GV) (w : World) (C : Ctx) : Prop := (∀ g o v, gv.cell g o = some v → C.S g o ∧ w.cell? ⟨g, o, none⟩ = some v) ∧ gv.w0.heap.size ≤ C.N ∧ Go.RowKit.Below gv.w0.heap.size gv.w0 w
theorem GInv.mono {gv : GV} {w w' : World} {C C' : Ctx} (h : GInv gv w C) (x : Ext w C w' C') : GInv gv w' C' := ⟨fun g o v hv => by
  obtain ⟨h1, h2⟩ := h.1 g o v hv
  exact ⟨x.S _ _ h1, (x.cell _ _ h1).trans h2⟩, x.N ▸ h.2.1, h.2.2.trans (x.below.mono h.2.1)⟩
theorem GInv.of {gv : GV} {w : World} {C C' : Ctx} (h : GInv gv w C) (x : ∀ B o, C.S B o → C'.S B o) (hN : C'.N = C.N) : GInv gv w C' := ⟨fun g o v hv => by
  obtain ⟨h1, h2⟩ := h.1 g o v hv
  exact ⟨x _ _ h1, h2⟩, hN ▸ h.2.1, h.2.2⟩
/-- What the evaluator goes by holds wherever these cells are so. -/
def GOk (gv : GV) (g : Nat → PV) : Prop := ∀ w C, GInv gv w C → ∀ i, Rep w C (.pointer (some ⟨i, 0, none⟩)) (g i)

structure RelE (gv : GV) (g : Nat → PV) (lo : Nat) (w : World) (C : Ctx) (e : Env) (n : Nat) (a : Act) : Prop where
  gl : GInv gv w C ∧ GOk gv g
  size : a.tmps.size = n
  rep : ∀ i, Rep w C (a.tmps.getD i undef) (e i)
  defers : Marks w lo a.defers

theorem RelE.mono {gv : GV} {g : Nat → PV} {lo : Nat} {w w' : World} {C C' : Ctx} {e : Env} {n : Nat} {a : Act} (h : RelE gv g lo w C e n a) (x : Ext w C w' C') : RelE gv g lo w' C' e n a :=
  ⟨⟨h.gl.1.mono x, h.gl.2⟩, h.size, fun i => (h.rep i).mono x, h.defers.mono x⟩

theorem RelE.put {gv : GV} {g : Nat → PV} {lo : Nat} {w : World} {C : Ctx} {e : Env} {n : Nat} {a : Act} (h : RelE gv g lo w C e n a) (dst : Option Tmp) {v : Value} {p : PV} (hp : Rep w C v p) : RelE gv g lo w C (put n e dst p) n (a.put dst v) := by
  cases dst with
  | none => exact h
  | some d =>
    refine ⟨h.gl, by simp [Act.put, h.size], fun i => ?_, h.defers⟩
    simp only [AM.put, Act.put]
    by_cases hd : d < n
    · rw [show Nat.blt d n = true from by rw [Nat.blt_eq]; exact hd, cond_true]
      simp only [upd]
      by_cases e1 : i = d
      · subst e1
        rw [Nat.beq_refl, cond_true]
        have : (a.tmps.setIfInBounds i v).getD i undef = v := by
          rw [Array.getD_eq_getD_getElem?, Array.getElem?_setIfInBounds_self_of_lt (by rw [h.size]; exact hd)]; rfl
        rw [this]; exact hp
      · have e2 : Nat.beq i d = false := by
          cases hq : Nat.beq i d with
          | false => rfl
          | true => exact absurd (Nat.eq_of_beq_eq_true hq) e1
        rw [e2, cond_false]
        have : (a.tmps.setIfInBounds d v).getD i undef = a.tmps.getD i undef := by
          rw [Array.getD_eq_getD_getElem?, Array.getElem?_setIfInBounds_ne (Ne.symm e1), ← Array.getD_eq_getD_getElem?]
        rw [this]; exact h.rep i
    · have e2 : Nat.blt d n = false := by
        cases hq : Nat.blt d n with
        | false => rfl
        | true => rw [Nat.blt_eq] at hq; exact absurd hq hd
      rw [e2, cond_false]
      have : a.tmps.setIfInBounds d v = a.tmps := by
        have hs := h.size
        have hd' : n ≤ d := Nat.le_of_not_lt hd
        exact Array.setIfInBounds_eq_of_size_le (by omega)
      rw [this]; exact h.rep i

theorem rep_flat {w : World} {C : Ctx} {x : Value} : Rep w C x (bif flatV x then .v x else .u) := by
  cases h : flatV x with
  | true => exact .v h
  | false => exact .u

theorem rep_leaf (w : World) (C : Ctx) (x : Value) : Rep w C x (ofLeaf x) := by
  unfold ofLeaf
  split
  · split
    · exact .slnil trivial
    · exact .u
  · split
    · exact .clo rfl (by simp)
    · exact .u
  · exact rep_flat

theorem rep_const (w : World) (C : Ctx) (x : Value) : Rep w C x (ofConst x) := by
  unfold ofConst
  split
  · rename_i cs
    cases h : cs.toList.all Value.oneCell' with
    | false => exact .u
    | true =>
      refine .agg (by simp) (fun i x hx => ?_) fun i x p hx hp => ?_
      · rw [List.all_eq_true] at h
        exact h x (List.mem_of_getElem? (by simpa using hx))
      · obtain ⟨q, hq, rfl⟩ := getElem?_map_some hp
        rw [Array.getElem?_toList, hx] at hq
        obtain rfl := Option.some.inj hq
        exact rep_leaf w C _
  · exact rep_leaf w C _

theorem rep_opnd {gv : GV} {g : Nat → PV} {lo : Nat} {w : World} {C : Ctx} {e : Env} {n : Nat} {a : Act} (h : RelE gv g lo w C e n a) (x : Operand) : Rep w C (a.eval x) (opnd g e x) := by
  cases x with
  | tmp t => exact h.rep t
  | const v => exact rep_const w C v
  | global i => exact h.gl.2 w C h.gl.1 i
  | func f => exact .clo rfl (by simp)

/-- A value is told, and memory stays. -/
def Tells (P : Program) (w : World) (C : Ctx) (s : Sem Value) (p : PV) : Prop := ∃ v, s.run P w = .ok v w ∧ Rep w C v p

theorem tells_flat {P : Program} {w : World} {C : Ctx} {s : Sem Value} {p : PV} (h : flatRes (pureIn P s) = some p) : Tells P w C s p := by
  cases hs : pureIn P s with
  | none => rw [hs] at h; simp [flatRes] at h
  | some v =>
    rw [hs] at h
    simp only [flatRes] at h
    cases hf : flatV v with
    | false => rw [hf] at h; simp at h
    | true =>
      rw [hf] at h
      obtain rfl := Option.some.inj h
      exact ⟨v, pureIn_run hs w, .v hf⟩

theorem rep_v {w : World} {C : Ctx} {x a : Value} (h : Rep w C x (.v a)) : x = a ∧ flatV a = true := by
  cases h with
  | v h => exact ⟨rfl, h⟩

section
variable {P : Program} {w : World} {C : Ctx}

theorem run_typeInfo {t : TypeId} {i : TypeInfo} (h : P.info? t = some i) (w : World) : (typeInfo t).run P w = .ok i w := by
  simp [typeInfo, h]
theorem szT_eq {t : TypeId} {i : TypeInfo} (h : P.info? t = some i) : szT P t = i.size := by simp [szT, h]
theorem info_of_under {t : TypeId} {d : TypeDesc} (h : P.underlying t = some d) : ∃ i, P.info? t = some i := by
  unfold Program.underlying at h
  cases hi : P.info? t with
  | none => rw [hi] at h; simp at h
  | some i => exact ⟨i, rfl⟩
theorem run_sizeOf {t : TypeId} {d : TypeDesc} (h : P.underlying t = some d) (w : World) : (sizeOf t).run P w = .ok (szT P t) w := by
  obtain ⟨i, hi⟩ := info_of_under h
  simp [sizeOf, typeInfo, hi, szT_eq hi]
theorem run_sizeOf' {t : TypeId} {i : TypeInfo} (hi : P.info? t = some i) (w : World) : (sizeOf t).run P w = .ok (szT P t) w := by
  simp [sizeOf, typeInfo, hi, szT_eq hi]
theorem info_of_sz {t : TypeId} (h : szT P t ≠ 0) : ∃ i, P.info? t = some i := by
  cases hi : P.info? t with
  | none => simp [szT, hi] at h
  | some i => exact ⟨i, rfl⟩

theorem run_isAgg {t : TypeId} {d : TypeDesc} (h : P.underlying t = some d) (w : World) : (isAgg t).run P w = .ok (aggT P t) w := by
  unfold isAgg aggT
  rw [Sem.run_bind, run_underlying h]
  simp only [Result.andThen_ok, h]
  cases d <;> rfl

/-- A part of a row of cells. -/
theorem tells_part {t : TypeId} {d : TypeDesc} {xs : Array Value} {cs : List PV} {off : Nat} {p : PV} (hu : P.underlying t = some d) (h : AM.part (aggT P t) (szT P t) off cs = some p)
    (hx : Rep w C (.agg xs) (.agg cs)) : Tells P w C (Go.part t xs off) p := by
  cases hx with
  | agg h1 h2 h3 =>
    unfold Tells Go.part
    rw [Sem.run_bind, run_isAgg hu]
    simp only [Result.andThen_ok]
    cases ha : aggT P t with
    | true =>
      rw [ha] at h
      simp only [AM.part] at h
      cases hb : Nat.ble (off + szT P t) cs.length with
      | false => rw [hb] at h; simp at h
      | true =>
        rw [hb] at h
        obtain rfl := Option.some.inj h
        have hle := Nat.le_of_ble_eq_true hb
        refine ⟨.agg (xs.extract off (off + szT P t)), by simp [run_sizeOf hu], .agg (by simp; omega) ?_ ?_⟩
        · intro i x hx
          rw [Array.getElem?_extract] at hx
          split at hx
          · exact h2 _ x hx
          · cases hx
        · intro i x p hx hp
          rw [Array.getElem?_extract] at hx
          split at hx
          · rename_i hi
            rw [List.getElem?_take, if_pos (by omega), List.getElem?_drop] at hp
            exact h3 (off + i) x p hx hp
          · cases hx
    | false =>
      rw [ha] at h
      simp only [AM.part] at h
      have hlt : off < cs.length := (List.getElem?_eq_some_iff.1 h).1
      have hget : xs[off]? = some (xs[off]'(by omega)) := Array.getElem?_eq_getElem (by omega)
      refine ⟨xs[off]'(by omega), ?_, h3 off _ p hget h⟩
      simp [hget]

theorem eqRes_some {op : BinOp} {b : Bool} {p : PV} (h : eqRes op b = some p) : (op = .eql ∧ p = .v (.bool b)) ∨ (op = .neq ∧ p = .v (.bool (!b))) := by
  cases op <;> simp [eqRes] at h
  · exact Or.inl ⟨rfl, h.symm⟩
  · exact Or.inr ⟨rfl, h.symm⟩

theorem run_aEq : ∀ (n d : Nat) (t : TypeId) (x y : Value) (p q : PV) (b : Bool), n ≤ d → aEq P n t p q = some b → Rep w C x p → Rep w C y q →
    (Op.equalIn d t x y).run P w = .ok b w := by
  intro n
  induction n with
  | zero => intro d t x y p q b _ h; simp [aEq] at h
  | succ n ih =>
    intro d t x y p q b hd h hx hy
    obtain ⟨d, rfl⟩ : ∃ d', d = d' + 1 := ⟨d - 1, by omega⟩
    simp only [aEq] at h
    split at h
    · rename_i hu
      split at h
      · obtain ⟨rfl, _⟩ := rep_v hx
        obtain ⟨rfl, _⟩ := rep_v hy
        obtain rfl := Option.some.inj h
        exact run_equalIn_bool w d t _ _ hu
      · cases h
    · rename_i k0 hu
      split at h
      · rename_i k a k' b'
        obtain ⟨rfl, _⟩ := rep_v hx
        obtain ⟨rfl, _⟩ := rep_v hy
        by_cases hk : k = k'
        · subst hk
          simp only [decide_true, cond_true, Option.some.injEq] at h
          subst h
          exact run_equalIn_int w d t k k0 a b' hu
        · simp [hk] at h
      · cases h
    · rename_i hu
      split at h
      · obtain ⟨rfl, _⟩ := rep_v hx
        obtain ⟨rfl, _⟩ := rep_v hy
        obtain rfl := Option.some.inj h
        rw [beq_toListBytes]
        exact run_equalIn_string w d t _ _ hu
      · cases h
    · rename_i fs hu
      cases hst : P.stoodInHeld t with
      | true => rw [hst] at h; simp at h
      | false =>
        rw [hst] at h
        simp only [cond_false] at h
        split at h
        · rename_i cs ds
          cases hx with
          | @agg _ xs _ a1 a2 a3 =>
          cases hy with
          | @agg _ ys _ b1 b2 b3 =>
          have hX : Rep w C (.agg xs) (.agg cs) := .agg a1 a2 a3
          have hY : Rep w C (.agg ys) (.agg ds) := .agg b1 b2 b3
          have hfs : P.fieldsOf t = fs := by simp [Program.fieldsOf, hu]
          rw [run_equalIn_struct w d t xs ys (by rw [hfs]; exact hu) hst, hfs]
          clear hfs hu hst
          generalize fs.toList = l at h
          induction l generalizing b with
          | nil =>
            simp only [eqFs, Option.some.injEq] at h
            subst h
            rfl
          | cons f l ihl =>
            simp only [eqFs] at h
            cases hn : f.name == "_" with
            | true => rw [hn] at h; simp at h
            | false =>
              rw [hn] at h
              simp only [cond_false] at h
              obtain ⟨u1, hu1, h⟩ := Option.bind_eq_some_iff.1 h
              obtain ⟨u2, hu2, h⟩ := Option.bind_eq_some_iff.1 h
              obtain ⟨c, hc, h⟩ := Option.bind_eq_some_iff.1 h
              obtain ⟨e, he, h⟩ := Option.bind_eq_some_iff.1 h
              obtain rfl := Option.some.inj h
              have hund : ∃ dd, P.underlying f.type = some dd := by
                cases n with
                | zero => simp [aEq] at hc
                | succ n =>
                  simp only [aEq] at hc
                  cases hq : P.underlying f.type with
                  | none => rw [hq] at hc; cases hc
                  | some dd => exact ⟨dd, rfl⟩
              obtain ⟨dd, hdd⟩ := hund
              obtain ⟨v1, r1, p1⟩ := tells_part (C := C) hdd hu1 hX
              obtain ⟨v2, r2, p2⟩ := tells_part (C := C) hdd hu2 hY
              have r3 := ih d f.type v1 v2 u1 u2 c (by omega) hc p1 p2
              have hne : f.name ≠ "_" := by simpa using hn
              simp only [Op.eqFields]
              rw [if_pos hne]
              simp only [Sem.run_bind, r1, r2, r3, Result.andThen_ok]
              cases c with
              | false => simp
              | true => simp only [Bool.not_true, Bool.false_eq_true, if_false, Bool.true_and]; exact ihl e he
        · cases h
    · cases h

theorem run_eq_ptr_nil {t e : TypeId} (h : P.underlying t = some (.pointer e)) (d : Nat) (a : Addr) : (Op.equalIn (d + 1) t (.pointer (some a)) (.pointer none)).run P w = .ok false w := by simp [Op.equalIn, run_underlying h]
theorem run_eq_nil_ptr {t e : TypeId} (h : P.underlying t = some (.pointer e)) (d : Nat) (a : Addr) : (Op.equalIn (d + 1) t (.pointer none) (.pointer (some a))).run P w = .ok false w := by simp [Op.equalIn, run_underlying h]
theorem run_eq_sl_nil {t e : TypeId} (h : P.underlying t = some (.slice e)) (d : Nat) (a : Addr) (l c l' c' : Nat) : (Op.equalIn (d + 1) t (.slice (some a) l c) (.slice none l' c')).run P w = .ok false w := by simp [Op.equalIn, run_underlying h]
theorem run_eq_if_nil {t : TypeId} {ms : Array (String × TypeId)} (h : P.underlying t = some (.interface ms)) (d : Nat) (ty : TypeId) (v : Value) : (Op.equalIn (d + 1) t (.iface ty v) .nilIface).run P w = .ok false w := by simp [Op.equalIn, run_underlying h]
theorem run_eq_nil_if {t : TypeId} {ms : Array (String × TypeId)} (h : P.underlying t = some (.interface ms)) (d : Nat) (ty : TypeId) (v : Value) : (Op.equalIn (d + 1) t .nilIface (.iface ty v)).run P w = .ok false w := by simp [Op.equalIn, run_underlying h]
theorem run_eq_if_if {t : TypeId} {ms : Array (String × TypeId)} (h : P.underlying t = some (.interface ms)) (d : Nat) : (Op.equalIn (d + 1) t .nilIface .nilIface).run P w = .ok true w := by simp [Op.equalIn, run_underlying h]
theorem run_eq_nil_nil {t e : TypeId} (h : P.underlying t = some (.slice e)) (d : Nat) (l c l' c' : Nat) : (Op.equalIn (d + 1) t (.slice none l c) (.slice none l' c')).run P w = .ok true w := by simp [Op.equalIn, run_underlying h]

theorem tells_eq {op : BinOp} {t : TypeId} {ox oy : Operand} {x y : Value} {b : Bool} {r : PV} (h : eqRes op b = some r)
    (hg : ∀ op, (eqGuard op t ox oy x y).run P w = .ok () w)
    (h1 : binOp .eql t x y = (Op.equal t x y).bind fun b => .pure (.bool b)) (h2 : binOp .neq t x y = (Op.equal t x y).bind fun b => .pure (.bool (!b)))
    (he : (Op.equalIn 10000 t x y).run P w = .ok b w) : Tells P w C (do eqGuard op t ox oy x y; binOp op t x y) r := by
  have he' : (Op.equal t x y).run P w = .ok b w := he
  rcases eqRes_some h with ⟨rfl, rfl⟩ | ⟨rfl, rfl⟩
  · refine ⟨.bool b, ?_, .v rfl⟩
    rw [Sem.run_bind, hg, Result.andThen_ok, h1, Sem.run_bind', he']; rfl
  · refine ⟨.bool (!b), ?_, .v rfl⟩
    rw [Sem.run_bind, hg, Result.andThen_ok, h2, Sem.run_bind', he']; rfl

theorem run_eq_ifc {t a b : TypeId} {ms : Array (String × TypeId)} {x y : Value} {c : Bool} (hu : P.underlying t = some (.interface ms)) (h : ifcEq P a b x y = some c) (d : Nat) :
    (Op.equalIn (d + 1 + 1) t (.iface a x) (.iface b y)).run P w = .ok c w := by
  unfold ifcEq at h
  cases hab : Nat.beq a b with
  | false =>
    rw [hab] at h
    obtain rfl := Option.some.inj h
    have : a ≠ b := Nat.ne_of_beq_eq_false hab
    simp [Op.equalIn, run_underlying hu, this]
  | true =>
    rw [hab] at h
    obtain rfl := Nat.eq_of_beq_eq_true hab
    simp only [cond_true] at h
    split at h
    · rename_i i hi
      cases hc : i.comparable with
      | false => rw [hc] at h; simp at h
      | true =>
        rw [hc] at h
        simp only [cond_true] at h
        split at h
        · rename_i k m l n hua
          by_cases hkl : k = l
          · subst hkl
            simp at h
            subst h
            simp [Op.equalIn, run_underlying hu, run_underlying hua, typeInfo, hi, hc]
          · simp [hkl] at h
        · cases h
    · cases h
theorem tells_bin {op : BinOp} {t : TypeId} {ox oy : Operand} {x y : Value} {p q r : PV} (h : aBin P (isConst ox || isConst oy) op t p q = some r) (hx : Rep w C x p) (hy : Rep w C y q) :
    Tells P w C (do eqGuard op t ox oy x y; binOp op t x y) r := by
  unfold aBin at h
  split at h
  · obtain ⟨rfl, _⟩ := rep_v hx
    obtain ⟨rfl, _⟩ := rep_v hy
    split at h
    · rename_i hu
      cases hc : isConst ox || isConst oy with
      | false => rw [hc] at h; simp at h
      | true =>
        rw [hc] at h
        simp only [cond_true] at h
        refine tells_eq h (fun op => ?_) rfl rfl (run_eq_if_if hu 9999)
        cases ox <;> cases oy <;> simp [isConst] at hc <;> cases op <;> simp [eqGuard]
    · cases h
  · split at h
    · rename_i hu
      cases hx
      obtain ⟨rfl, _⟩ := rep_v hy
      exact tells_eq h (fun op => by cases op <;> rfl) rfl rfl (run_eq_if_nil hu 9999 _ _)
    · cases h
  · split at h
    · rename_i hu
      cases hx
      obtain ⟨rfl, _⟩ := rep_v hy
      exact tells_eq h (fun op => by cases op <;> rfl) rfl rfl (run_eq_if_nil hu 9999 _ _)
    · cases h
  · split at h
    · rename_i hu
      cases hy
      obtain ⟨rfl, _⟩ := rep_v hx
      exact tells_eq h (fun op => by cases op <;> rfl) rfl rfl (run_eq_nil_if hu 9999 _ _)
    · cases h
  · split at h
    · rename_i hu
      cases hx
      cases hy
      obtain ⟨c, hc, h⟩ := Option.bind_eq_some_iff.1 h
      exact tells_eq h (fun op => by cases op <;> rfl) rfl rfl (run_eq_ifc hu hc 9998)
    · cases h
  · split at h
    · rename_i hu
      cases hy
      obtain ⟨rfl, _⟩ := rep_v hx
      exact tells_eq h (fun op => by cases op <;> rfl) rfl rfl (run_eq_nil_if hu 9999 _ _)
    · cases h
  · rename_i a b
    obtain ⟨rfl, _⟩ := rep_v hx
    obtain ⟨rfl, _⟩ := rep_v hy
    split at h
    · rename_i hu
      have he := fun d => run_equalIn_bool (P := P) w d t a b hu
      exact tells_eq h (fun op => by cases op <;> rfl) rfl rfl (he 9999)
    · cases h
  · rename_i a b h1 h2
    obtain ⟨rfl, fx⟩ := rep_v hx
    obtain ⟨rfl, fy⟩ := rep_v hy
    obtain ⟨v, hv, hr⟩ := tells_flat (w := w) (C := C) h
    refine ⟨v, ?_, hr⟩
    have hg : (eqGuard op t ox oy x y).run P w = .ok () w := by
      cases op <;> first | rfl | skip
      all_goals (cases x <;> first | rfl | skip)
      all_goals (cases y <;> first | rfl | skip)
      all_goals first
        | (exact (h1 rfl rfl).elim)
        | (exact absurd fx (by simp [flatV]; done))
    rw [Sem.run_bind, hg]
    exact hv
  · split at h
    · rename_i hu
      cases hx with
      | ptr hb =>
      obtain ⟨rfl, _⟩ := rep_v hy
      exact tells_eq h (fun op => by cases op <;> rfl) rfl rfl (run_eq_ptr_nil hu 9999 _)
    · cases h
  · split at h
    · rename_i hu
      cases hy with
      | ptr hb =>
      obtain ⟨rfl, _⟩ := rep_v hx
      exact tells_eq h (fun op => by cases op <;> rfl) rfl rfl (run_eq_nil_ptr hu 9999 _)
    · cases h
  · split at h
    · rename_i hu
      have hy' : ∃ n c, y = .slice none n c := by
        cases hy with
        | slnil _ => exact ⟨0, 0, rfl⟩
        | sl sz val h1 h2 h3 h4 h5 h6 h7 h8 => simp [CapRep] at h8
      obtain ⟨n, c, rfl⟩ := hy'
      cases hx with
      | sl sz val h1 h2 h3 h4 h5 h6 h7 h8 =>
      exact tells_eq h (fun op => by cases op <;> rfl) rfl rfl (run_eq_sl_nil hu 9999 _ _ _ _ _)
    · cases h
  · split at h
    · rename_i hu
      have hx' : ∃ n c, x = .slice none n c := by
        cases hx with
        | slnil _ => exact ⟨0, 0, rfl⟩
        | sl sz val h1 h2 h3 h4 h5 h6 h7 h8 => simp [CapRep] at h8
      have hy' : ∃ n c, y = .slice none n c := by
        cases hy with
        | slnil _ => exact ⟨0, 0, rfl⟩
        | sl sz val h1 h2 h3 h4 h5 h6 h7 h8 => simp [CapRep] at h8
      obtain ⟨n, c, rfl⟩ := hx'
      obtain ⟨n', c', rfl⟩ := hy'
      exact tells_eq h (fun op => by cases op <;> rfl) rfl rfl (run_eq_nil_nil hu 9999 _ _ _ _)
    · cases h
  · split at h
    · rename_i hu
      have hy' : ∃ n c, y = .slice none n c := by
        cases hy with
        | slnil _ => exact ⟨0, 0, rfl⟩
        | sl sz val h1 h2 h3 h4 h5 h6 h7 h8 => simp [CapRep] at h8
      obtain ⟨n, c, rfl⟩ := hy'
      cases hx with
      | rs h1 h2 h3 h4 =>
      exact tells_eq h (fun op => by cases op <;> rfl) rfl rfl (run_eq_sl_nil hu 9999 _ _ _ _ _)
    · cases h
  · rename_i cs ds
    cases hm : P.eqGuardType P.depth t with
    | true => rw [hm] at h; simp at h
    | false =>
      rw [hm] at h
      simp only [cond_false] at h
      obtain ⟨b, hb, h⟩ := Option.bind_eq_some_iff.1 h
      have hX := hx
      have hY := hy
      cases hx with
      | @agg _ xs _ a1 a2 a3 =>
      cases hy with
      | @agg _ ys _ b1 b2 b3 =>
      have he := run_aEq (w := w) (C := C) 6 10000 t _ _ _ _ b (by omega) hb hX hY
      exact tells_eq h (fun op => run_eqGuard_agg (P := P) w op t ox oy xs ys hm) rfl rfl he
  · cases h

end
end Go.AM

/- The abstract machine: more operations that leave the state. No condition. -/
set_option linter.unusedVariables false
namespace Go.AM
open Go

section
variable {P : Program} {w : World} {C : Ctx}

theorem add_mk (B o n : Nat) : (⟨B, o, none⟩ : Addr).add n = ⟨B, o + n, none⟩ := by
  unfold Addr.add
  split
  · rename_i h; subst h; rfl
  · rfl

theorem tells_un {op : UnOp} {x : Value} {p r : PV} (h : aUn P op p = some r) (hx : Rep w C x p) : Tells P w C (Op.unary op x) r := by
  unfold aUn at h
  split at h
  · obtain ⟨rfl, _⟩ := rep_v hx
    exact tells_flat h
  · cases h

theorem tells_pick {c a b : PV} {x y z : Value} {r : PV} (h : aPick c a b = some r) (hx : Rep w C x c) (hy : Rep w C y a) (hz : Rep w C z b) :
    Tells P w C (do pure (if ← asBool x then y else z)) r := by
  unfold aPick at h
  split at h
  · rename_i t
    obtain ⟨rfl, _⟩ := rep_v hx
    obtain rfl := Option.some.inj h
    cases t with
    | true => exact ⟨y, by simp [asBool], hy⟩
    | false => exact ⟨z, by simp [asBool], hz⟩
  · cases h

theorem bytes_fold (ns : List Int) : ∀ (s : ByteArray), ns.foldl (fun (r : ByteArray) n => r.push (UInt8.ofNat n.toNat)) s = ⟨s.data ++ (ns.map fun n => UInt8.ofNat n.toNat).toArray⟩ := by
  induction ns with
  | nil => intro s; simp
  | cons n ns ih =>
    intro s
    rw [List.foldl_cons, ih]
    simp [ByteArray.push]

theorem bytesOf_get : ∀ {es : List (List PV)} {bs : List UInt8}, bytesOf es = some bs → ∃ ns : List Int, es = ns.map (fun n => [.v (.int .u8 n)]) ∧ bs = ns.map fun n => UInt8.ofNat n.toNat
  | [], bs, h => by obtain rfl := Option.some.inj h; exact ⟨[], rfl, rfl⟩
  | e :: es, bs, h => by
    simp only [bytesOf] at h
    obtain ⟨b, hb, h⟩ := Option.bind_eq_some_iff.1 h
    obtain ⟨cs, hc, h⟩ := Option.bind_eq_some_iff.1 h
    obtain rfl := Option.some.inj h
    obtain ⟨ns, rfl, rfl⟩ := bytesOf_get hc
    unfold byteOfCell at hb
    split at hb
    · rename_i n
      obtain rfl := Option.some.inj hb
      exact ⟨n :: ns, rfl, rfl⟩
    · cases hb

theorem tells_conv {src dst : TypeId} {x : Value} {p r : PV} (h : aConv P src dst p = some r) (hx : Rep w C x p) (hb : ∀ s e, p = .v (.string s) → P.underlying src = some .string → P.underlying dst ≠ some (.slice e)) : Tells P w C (convert src dst x) r := by
  unfold aConv at h
  split at h
  · rename_i s
    obtain ⟨rfl, _⟩ := rep_v hx
    split at h
    · rename_i e h1 h2
      exact absurd h2 (hb s e rfl h1)
    · exact tells_flat h
  · obtain ⟨rfl, _⟩ := rep_v hx
    exact tells_flat h
  · rename_i es c
    split at h
    · rename_i e hs hd
      split at h
      · rename_i he
        obtain ⟨bs, hb, h⟩ := Option.bind_eq_some_iff.1 h
        obtain rfl := Option.some.inj h
        obtain ⟨ns, hes, rfl⟩ := bytesOf_get hb
        cases hx with
        | slnil h1 =>
          have : ns = [] := by cases ns with | nil => rfl | cons n ns => cases hes
          subst this
          refine ⟨.string .empty, ?_, .v rfl⟩
          rw [run_convert_bytes_string w src dst e _ _ _ hs he hd]
          rfl
        | @sl _ _ B o len cap c sz val h1 h2 h3 h4 h5 h6 h7 h8 =>
          refine ⟨_, ?_, .v rfl⟩
          rw [run_convert_bytes_string w src dst e _ _ _ hs he hd]
          have hl : (loadCells ⟨B, o, none⟩ len).run P w = .ok (ns.map (Value.int .u8)).toArray w := by
            have hll : len = (ns.map (Value.int .u8)).length := by rw [h1, hes]; simp
            rw [hll]
            refine run_loadCells_list w _ _ fun j v hj => ?_
            obtain ⟨n, hn, rfl⟩ := getElem?_map_some hj
            have hej : es[j]? = some [.v (.int .u8 n)] := by rw [hes, List.getElem?_map, hn]; rfl
            have hsz : sz = 1 := by rw [← h3 j _ hej]; rfl
            subst hsz
            rw [add_mk]
            have hc := h5 j _ 0 _ hej rfl
            have hr := h7 j _ 0 _ hej rfl
            rw [(rep_v hr).1] at hc
            simpa using hc
          rw [run_bytesToString w _ _ _ _ hl, bytes_fold]
          simp
      · cases h
    · cases h
  · cases h

theorem rep_shift {x : Value} {p r : PV} {n : Nat} (h : shift p n = some r) (hx : Rep w C x p) : ∃ B o, x = .pointer (some ⟨B, o, none⟩) ∧ Rep w C (.pointer (some ⟨B, o + n, none⟩)) r := by
  unfold shift at h
  split at h
  · cases hx with
    | ptr hb =>
      obtain rfl := Option.some.inj h
      exact ⟨_, _, rfl, .ptr hb⟩
  · cases hx with
    | fp val h1 h2 h3 h4 =>
      obtain rfl := Option.some.inj h
      refine ⟨_, _, rfl, ?_⟩
      rw [Nat.add_assoc]
      exact .fp val h1 h2 h3 h4
  · cases h

theorem fieldOf_some {s : TypeId} {f : Nat} {g : Field} (h : fieldOf P s f = some g) : ∃ fs, P.underlying s = some (.struct fs) ∧ fs[f]? = some g := by
  unfold fieldOf at h
  split at h
  · rename_i fs hu; exact ⟨fs, hu, h⟩
  · cases h

theorem tells_fieldAddr {s : TypeId} {x : Value} {p r : PV} {f : Nat} (h : aFieldAddr P s p f = some r) (hx : Rep w C x p) : Tells P w C (Instr.fieldAt s x f) r := by
  unfold aFieldAddr at h
  split at h
  · rename_i g hg
    obtain ⟨fs, hu, hf⟩ := fieldOf_some hg
    cases hz : Nat.beq (szT P g.type) 0 with
    | true => rw [hz] at h; simp at h
    | false =>
      rw [hz] at h
      obtain ⟨B, o, rfl, hr⟩ := rep_shift h hx
      have hne : szT P g.type ≠ 0 := Nat.ne_of_beq_eq_false hz
      obtain ⟨i, hi⟩ := info_of_sz hne
      refine ⟨_, ?_, hr⟩
      simp [Instr.fieldAt, run_underlying hu, hf, Instr.sureAddr, fieldPlace, run_sizeOf' hi, hne, add_mk]
  · cases h

theorem part_under {t : TypeId} {off : Nat} {cs : List PV} {r : PV} {x : Value} (h : AM.part (aggT P t) (szT P t) off cs = some r) (hu : ∃ d, P.underlying t = some d) {xs : Array Value}
    (hx : Rep w C (.agg xs) (.agg cs)) : Tells P w C (Go.part t xs off) r := by
  obtain ⟨d, hd⟩ := hu
  exact tells_part hd h hx

theorem tells_field {s : TypeId} {x : Value} {p r : PV} {f : Nat} (h : aField P s p f = some r) (hx : Rep w C x p) : Tells P w C (Instr.field s x f) r := by
  unfold aField at h
  split at h
  · rename_i g cs hg
    obtain ⟨fs, hu, hf⟩ := fieldOf_some hg
    cases hd : P.underlying g.type with
    | none => rw [hd] at h; simp at h
    | some d =>
      rw [hd] at h
      simp only at h
      have hX := hx
      cases hx with
      | @agg _ xs _ h1 h2 h3 =>
        obtain ⟨v, hv, hr⟩ := tells_part hd h hX
        refine ⟨v, ?_, hr⟩
        simp [Instr.field, run_underlying hu, hf, asAgg, hv]
  · cases h

theorem tells_extract {x : Value} {p r : PV} {i : Nat} (h : aExtract p i = some r) (hx : Rep w C x p) : Tells P w C (Instr.extract x i) r := by
  unfold aExtract at h
  split at h
  · rename_i ps
    cases hx with
    | @tup _ xs _ h1 h3 =>
      have hi : i < ps.length := (List.getElem?_eq_some_iff.1 h).1
      have hget : xs[i]? = some (xs[i]'(by omega)) := Array.getElem?_eq_getElem (by omega)
      exact ⟨_, by simp [Instr.extract, hget], h3 i _ _ hget h⟩
  · cases h

theorem inRange_true {i : Int} {n : Nat} (h : inRange i n = true) : 0 ≤ i ∧ i < n := by
  simpa [inRange] using h

theorem tells_indexAddr {t : TypeId} {x i : Value} {p q r : PV} (h : aIndexAddr P t p q = some r) (hx : Rep w C x p) (hi : Rep w C i q) : Tells P w C (Instr.indexAt t x i) r := by
  unfold aIndexAddr at h
  split at h
  · rename_i k n
    obtain ⟨rfl, _⟩ := rep_v hi
    split at h
    · rename_i elem es c hu
      cases hr : inRange n es.length with
      | false => rw [hr] at h; simp at h
      | true =>
        rw [hr] at h
        simp only [cond_true] at h
        obtain ⟨e, he, h⟩ := Option.bind_eq_some_iff.1 h
        cases hzz : Nat.beq e.length (szT P elem) && !Nat.beq (szT P elem) 0 with
        | false => rw [hzz] at h; simp at h
        | true =>
          rw [hzz] at h
          obtain rfl := Option.some.inj h
          rw [Bool.and_eq_true] at hzz
          have hz := Nat.eq_of_beq_eq_true hzz.1
          have hne : szT P elem ≠ 0 := by
            intro q; rw [q] at hzz; simp at hzz
          obtain ⟨r1, r2⟩ := inRange_true hr
          cases hx with
          | slnil _ => simp at he
          | @sl _ _ B o len cap _ sz val h1 h2 h3 h4 h5 h6 h7 h8 =>
            have hsz : sz = szT P elem := by rw [← h3 _ _ he]; exact hz
            obtain ⟨ie, hie⟩ := info_of_sz hne
            refine ⟨.pointer (some ⟨B, o + n.toNat * szT P elem, none⟩), ?_, ?_⟩
            · simp [Instr.indexAt, run_underlying hu, asIntOf, run_sizeOf' hie, add_mk, r1, h1, r2]
            · have hp := Rep.fp (w := w) (C := C) (cs := e) (off := 0) (B := B) (o := o + n.toNat * sz) (fun j => val n.toNat j) (fun j p hp => h4 _ _ j p he hp) (fun j p hp => h5 _ _ j p he hp)
                (fun j p hp => h6 _ _ j p he hp) (fun j p hp => h7 _ _ j p he hp)
              rw [hsz, Nat.add_zero] at hp
              exact hp
    · rename_i elem hh b off len sz hu
      cases hr : inRange n len && Nat.beq (szT P elem) sz && !Nat.beq sz 0 with
      | false => rw [hr] at h; simp at h
      | true =>
        rw [hr] at h
        obtain rfl := Option.some.inj h
        rw [Bool.and_eq_true, Bool.and_eq_true] at hr
        obtain ⟨r1, r2⟩ := inRange_true hr.1.1
        have hsz := Nat.eq_of_beq_eq_true hr.1.2
        have hne : szT P elem ≠ 0 := by
          intro q; rw [← hsz, q] at hr; simp at hr
        obtain ⟨ie, hie⟩ := info_of_sz hne
        cases hx with
        | @rs _ _ _ _ _ cap _ B arr el fr h1 h2 h3 h4 =>
          refine ⟨.pointer (some ⟨B, off + n.toNat * szT P elem, none⟩), ?_, ?_⟩
          · simp [Instr.indexAt, run_underlying hu, asIntOf, run_sizeOf' hie, add_mk, r1, r2]
          · rw [hsz]; exact .ptr h1
    · rename_i len elem hu
      cases hr : inRange n len && !Nat.beq (szT P elem) 0 with
      | false => rw [hr] at h; simp at h
      | true =>
        rw [hr] at h
        simp only [cond_true] at h
        rw [Bool.and_eq_true] at hr
        obtain ⟨r1, r2⟩ := inRange_true hr.1
        have hne : szT P elem ≠ 0 := by
          intro q; rw [q] at hr; simp at hr
        obtain ⟨ie, hie⟩ := info_of_sz hne
        obtain ⟨B, o, rfl, hrep⟩ := rep_shift h hx
        refine ⟨_, ?_, hrep⟩
        simp [Instr.indexAt, run_underlying hu, asIntOf, Instr.sureAddr, run_sizeOf' hie, add_mk, r1, r2]
    · cases h
  · cases h

theorem tells_index {t : TypeId} {x i : Value} {p q r : PV} (h : aIndex P t p q = some r) (hx : Rep w C x p) (hi : Rep w C i q) : Tells P w C (Instr.index t x i) r := by
  unfold aIndex at h
  split at h
  · obtain ⟨rfl, _⟩ := rep_v hx
    obtain ⟨rfl, _⟩ := rep_v hi
    exact tells_flat h
  · rename_i cs k n
    obtain ⟨rfl, _⟩ := rep_v hi
    split at h
    · rename_i len elem hu
      cases hr : inRange n len && Nat.beq cs.length (len * szT P elem) with
      | false => rw [hr] at h; simp at h
      | true =>
        rw [hr] at h
        simp only [cond_true] at h
        rw [Bool.and_eq_true] at hr
        obtain ⟨r1, r2⟩ := inRange_true hr.1
        cases hd : P.underlying elem with
        | none => rw [hd] at h; simp at h
        | some d =>
          rw [hd] at h
          simp only at h
          have hX := hx
          cases hx with
          | @agg _ xs _ h1 h2 h3 =>
            obtain ⟨v, hv, hrep⟩ := tells_part hd h hX
            refine ⟨v, ?_, hrep⟩
            simp [Instr.index, run_underlying hu, asIntOf, r1, r2, run_sizeOf hd, hv]
    · cases h
  · cases h

theorem tells_len {t ty : TypeId} {x : Value} {p r : PV} (h : aLen P t p = some r) (hx : Rep w C x p) : Tells P w C (Builtin.len_ #[t] ty #[x]) r := by
  unfold aLen at h
  split at h
  · split at h
    · rename_i hu
      obtain rfl := Option.some.inj h
      cases hx with
      | slnil _ => exact ⟨.int .i64 0, by simp [Builtin.len_, run_underlying hu, goInt], .v rfl⟩
      | sl sz val h1 h2 h3 h4 h5 h6 h7 h8 => exact ⟨_, by simp [Builtin.len_, run_underlying hu, goInt, h1], .v rfl⟩
    · cases h
  · split at h
    · rename_i hu
      obtain rfl := Option.some.inj h
      cases hx with
      | rs h1 h2 h3 h4 => exact ⟨_, by simp [Builtin.len_, run_underlying hu, goInt], .v rfl⟩
    · cases h
  · split at h
    · rename_i hu
      obtain ⟨rfl, _⟩ := rep_v hx
      obtain rfl := Option.some.inj h
      exact ⟨_, by simp [Builtin.len_, run_underlying hu, goInt], .v rfl⟩
    · cases h
  · cases h

theorem tells_max {ats : Array TypeId} {ty : TypeId} {x y : Value} {p q r : PV} (h : aMax2 P p q = some r) (hx : Rep w C x p) (hy : Rep w C y q) : Tells P w C (Builtin.max_ ats ty #[x, y]) r := by
  unfold aMax2 at h
  split at h
  · obtain ⟨rfl, _⟩ := rep_v hx
    obtain ⟨rfl, _⟩ := rep_v hy
    obtain ⟨v, hv, hr⟩ := tells_flat (w := w) (C := C) h
    exact ⟨v, by simpa [Builtin.max_] using hv, hr⟩
  · cases h
theorem tells_min {ats : Array TypeId} {ty : TypeId} {x y : Value} {p q r : PV} (h : aMin2 P p q = some r) (hx : Rep w C x p) (hy : Rep w C y q) : Tells P w C (Builtin.min_ ats ty #[x, y]) r := by
  unfold aMin2 at h
  split at h
  · obtain ⟨rfl, _⟩ := rep_v hx
    obtain ⟨rfl, _⟩ := rep_v hy
    obtain ⟨v, hv, hr⟩ := tells_flat (w := w) (C := C) h
    exact ⟨v, by simpa [Builtin.min_] using hv, hr⟩
  · cases h

theorem tells_nilCheck {x : Value} {p r : PV} (h : aNilCheck p = some r) (hx : Rep w C x p) : (∀ (o : Oper) (ρ : Operand → Value) (y : Operand), o.op = .nilCheck y → ρ y = x → (execOp ρ o).run P w = .ok (.value x) w) ∧ Rep w C x r := by
  unfold aNilCheck at h
  split at h
  · cases hx with
    | ptr hb =>
      obtain rfl := Option.some.inj h
      exact ⟨fun o ρ y ho hy => by simp [execOp, ho, hy], .ptr hb⟩
  · cases hx with
    | fp val h1 h2 h3 h4 =>
      obtain rfl := Option.some.inj h
      exact ⟨fun o ρ y ho hy => by simp [execOp, ho, hy], .fp val h1 h2 h3 h4⟩
  · cases hx with
    | clo h1 h3 =>
      obtain rfl := Option.some.inj h
      exact ⟨fun o ρ y ho hy => by simp [execOp, ho, hy], .clo h1 h3⟩
  · cases hx with
    | yld h1 =>
      obtain rfl := Option.some.inj h
      exact ⟨fun o ρ y ho hy => by simp [execOp, ho, hy], .yld h1⟩
  · cases h

theorem tells_iface {t : TypeId} {x : Value} {p q : PV} (h : aIface P t p = some q) (hx : Rep w C x p) : Tells P w C (Instr.makeInterface t x) q := by
  unfold aIface at h
  split at h
  · cases h
  · rename_i d hni hu
    have hrun : (Instr.makeInterface t x).run P w = .ok (.iface t x) w := by
      unfold Instr.makeInterface
      rw [Sem.run_bind, run_underlying hu, Result.andThen_ok]
      cases d <;> first | rfl | (exact (hni _ rfl).elim)
    refine ⟨_, hrun, ?_⟩
    split at h
    · obtain rfl := Option.some.inj h
      obtain ⟨rfl, _⟩ := rep_v hx
      exact .ifc
    · obtain rfl := Option.some.inj h
      cases hx with
      | agg h1 h2 h3 =>
        have := Array.eq_empty_of_size_eq_zero h1
        subst this
        exact .ifc
    · cases h
    · cases h
    · cases h
    · obtain rfl := Option.some.inj h
      exact .ni
  · cases h

/-! ### a value's cells -/
theorem rep_cells {x : Value} {p : PV} {cs : List PV} (h : cellsOf p = some cs) (hx : Rep w C x p) :
    x.cells.size = cs.length ∧ (∀ (i : Nat) (y : Value), x.cells[i]? = some y → y.oneCell' = true) ∧ (∀ (i : Nat) (y : Value) (q : PV), x.cells[i]? = some y → cs[i]? = some q → Rep w C y q) := by
  have one : cellLike p = true → cs = [p] → x.cells.size = cs.length ∧ (∀ (i : Nat) (y : Value), x.cells[i]? = some y → y.oneCell' = true) ∧ (∀ (i : Nat) (y : Value) (q : PV), x.cells[i]? = some y → cs[i]? = some q → Rep w C y q) := by
    intro hp hcs
    have ho := hx.oneCell hp
    have hc : x.cells = #[x] := by cases x <;> first | rfl | (simp [Value.oneCell'] at ho)
    subst hcs
    rw [hc]
    refine ⟨rfl, fun i y hy => ?_, fun i y q hy hq => ?_⟩
    · cases i with
      | zero => simp at hy; subst hy; exact ho
      | succ i => simp at hy
    · cases i with
      | zero => simp at hy hq; subst hy; subst hq; exact hx
      | succ i => simp at hy
  cases p with
  | agg ds =>
    obtain rfl := Option.some.inj h
    cases hx with
    | agg h1 h2 h3 => exact ⟨h1, h2, h3⟩
  | tup _ => cases h
  | u => cases h
  | v _ => exact one rfl (Option.some.inj h).symm
  | ptr _ _ _ => exact one rfl (Option.some.inj h).symm
  | fp _ _ => exact one rfl (Option.some.inj h).symm
  | sl _ _ => exact one rfl (Option.some.inj h).symm
  | clo _ _ => exact one rfl (Option.some.inj h).symm
  | rs _ _ _ _ _ => exact one rfl (Option.some.inj h).symm
  | ni => exact one rfl (Option.some.inj h).symm
  | ifc _ _ => exact one rfl (Option.some.inj h).symm
  | pan _ _ => cases h
  | it _ => exact one rfl (Option.some.inj h).symm

/-- Rows of cells, one held against the other. -/
structure RepCells (w : World) (C : Ctx) (arr : Array Value) (cs : List PV) : Prop where
  size : arr.size = cs.length
  one : ∀ (i : Nat) (y : Value), arr[i]? = some y → y.oneCell' = true
  rep : ∀ (i : Nat) (y : Value) (q : PV), arr[i]? = some y → cs[i]? = some q → Rep w C y q

theorem RepCells.laid {arr : Array Value} {cs ds : List PV} {vs : List Value} {off : Nat} (h : RepCells w C arr cs) (g : RepCells w C vs.toArray ds) (hr : off + ds.length ≤ cs.length) :
    RepCells w C (laidA arr off vs) (laid cs off ds) := by
  have hl : vs.length = ds.length := by simpa using g.size
  have hs := h.size
  refine ⟨by rw [laidA_size, laid_length, hs], fun i y hy => ?_, fun i y q hy hq => ?_⟩
  · rw [laidA_get vs arr off i (by omega)] at hy
    split at hy
    · exact g.one _ y (by simpa using hy)
    · exact h.one i y hy
  · rw [laidA_get vs arr off i (by omega)] at hy
    rw [laid_get ds cs off i (by omega), ← hl] at hq
    split at hy
    · rename_i hin; rw [if_pos hin] at hq; exact g.rep _ y q (by simpa using hy) hq
    · rename_i hin; rw [if_neg hin] at hq; exact h.rep i y q hy hq

theorem zip_fold (off : Nat) : ∀ (vs : List Value) (k : Nat) (cells : Array Value), (vs.zipIdx k).foldl (fun (cs : Array Value) (q : Value × Nat) => cs.setIfInBounds (off + q.2) q.1) cells = laidA cells (off + k) vs
  | [], _, _ => rfl
  | v :: vs, k, cells => by
    rw [List.zipIdx_cons, List.foldl_cons, zip_fold off vs (k + 1)]
    rfl

theorem run_fill (place : Nat → Option (Nat × Nat)) : ∀ (ps : List (Nat × PV)) (vs : List (Nat × Value)) (arr : Array Value) (cs ds : List PV),
    fillP place cs ps = some ds → RepCells w C arr cs → vs.length = ps.length → (∀ (i : Nat) (a : Nat × Value) (b : Nat × PV), vs[i]? = some a → ps[i]? = some b → a.1 = b.1 ∧ Rep w C a.2 b.2) →
    ∃ arr', Instr.fill place arr vs = some arr' ∧ RepCells w C arr' ds
  | [], vs, arr, cs, ds, h, hc, hl, hp => by
    obtain rfl := Option.some.inj h
    have : vs = [] := List.length_eq_zero_iff.1 (by simpa using hl)
    subst this
    exact ⟨arr, rfl, hc⟩
  | (i, p) :: ps, vs, arr, cs, ds, h, hc, hl, hp => by
    match vs, hl, hp with
    | (j, v) :: vs, hl, hp =>
      obtain ⟨e1, e2⟩ := hp 0 (j, v) (i, p) rfl rfl
      simp only at e1 e2
      subst e1
      simp only [fillP] at h
      split at h
      · rename_i off size cs' hpl hcs'
        cases hb : Nat.beq cs'.length size && Nat.ble (off + size) cs.length with
        | false => rw [hb] at h; simp at h
        | true =>
          rw [hb] at h
          simp only [cond_true] at h
          rw [Bool.and_eq_true] at hb
          have b1 := Nat.eq_of_beq_eq_true hb.1
          have b2 := Nat.le_of_ble_eq_true hb.2
          obtain ⟨c1, c2, c3⟩ := rep_cells hcs' e2
          have hg : RepCells w C (v.cells.toList.toArray) cs' := ⟨by simpa using c1, by simpa using c2, by simpa using c3⟩
          have hnew := hc.laid hg (off := off) (by omega)
          obtain ⟨arr', f1, f2⟩ := run_fill place ps vs _ _ ds h hnew (by simpa using hl) fun k a b ha hb => hp (k + 1) a b (by simpa using ha) (by simpa using hb)
          refine ⟨arr', ?_, f2⟩
          simp only [Instr.fill, hpl]
          rw [if_neg (by have := hc.size; simp; omega)]
          have hfold : (v.cells.zipIdx.foldl (fun (cs : Array Value) (q : Value × Nat) => cs.setIfInBounds (off + q.2) q.1) arr) = laidA arr off v.cells.toList := by
            rw [← Array.foldl_toList, Array.toList_zipIdx]
            exact zip_fold off v.cells.toList 0 arr
          rw [← f1, ← hfold]
      · cases h
    | [], hl, _ => simp at hl

theorem zero_rep {t : TypeId} {z : List PV} (h : zeroT P t = some z) : ∃ i v, P.info? t = some i ∧ i.zero = some v ∧ RepCells w C v.cells z := by
  unfold zeroT at h
  split at h
  · rename_i i hi
    split at h
    · rename_i v hv
      cases hb : v.cells.toList.all Value.oneCell' with
      | false => rw [hb] at h; simp at h
      | true =>
        rw [hb] at h
        obtain rfl := Option.some.inj h
        refine ⟨i, v, hi, hv, ⟨by simp, fun k y hy => ?_, fun k y q hy hq => ?_⟩⟩
        · rw [List.all_eq_true] at hb
          exact hb y (List.mem_of_getElem? (by simpa using hy))
        · obtain ⟨y', hy', rfl⟩ := getElem?_map_some hq
          rw [Array.getElem?_toList, hy] at hy'
          obtain rfl := Option.some.inj hy'
          exact rep_leaf w C y
    · cases h
  · cases h

theorem repcells_agg {arr : Array Value} {cs : List PV} (h : RepCells w C arr cs) : Rep w C (.agg arr) (.agg cs) := .agg h.size h.one h.rep

theorem tells_build {t : TypeId} {vs : Array (Nat × Value)} {ps : List (Nat × PV)} {r : PV} (h : aBuild P t ps = some r) (hl : vs.size = ps.length)
    (hp : ∀ (i : Nat) (a : Nat × Value) (b : Nat × PV), vs[i]? = some a → ps[i]? = some b → a.1 = b.1 ∧ Rep w C a.2 b.2) : Tells P w C (Instr.build t vs) r := by
  unfold aBuild at h
  obtain ⟨z, hz, h⟩ := Option.bind_eq_some_iff.1 h
  obtain ⟨it, zv, hi, hzv, hzc⟩ := zero_rep (w := w) (C := C) hz
  have hl' : vs.toList.length = ps.length := by simpa using hl
  have hp' : ∀ (i : Nat) (a : Nat × Value) (b : Nat × PV), vs.toList[i]? = some a → ps[i]? = some b → a.1 = b.1 ∧ Rep w C a.2 b.2 := fun i a b ha hb => hp i a b (by simpa using ha) hb
  split at h
  · rename_i fields hu
    obtain ⟨pl, hpl, h⟩ := Option.bind_eq_some_iff.1 h
    obtain ⟨cs, hcs, h⟩ := Option.bind_eq_some_iff.1 h
    obtain rfl := Option.some.inj h
    obtain ⟨arr, ha, hr⟩ := run_fill _ ps vs.toList _ z cs hcs hzc hl' hp'
    refine ⟨.agg arr, run_build w t vs arr ?_, repcells_agg hr⟩
    unfold placesOf at hpl
    simp only [Program.built, hi, hu, hzv, hpl]
    exact ha
  · rename_i n e hu
    split at h
    · rename_i ie hie
      obtain ⟨cs, hcs, h⟩ := Option.bind_eq_some_iff.1 h
      obtain rfl := Option.some.inj h
      obtain ⟨arr, ha, hr⟩ := run_fill _ ps vs.toList _ z cs hcs hzc hl' hp'
      refine ⟨.agg arr, run_build w t vs arr ?_, repcells_agg hr⟩
      simp only [Program.built, hi, hu, hzv, hie]
      exact ha
    · cases h
  · cases h

end
end Go.AM

/- The abstract machine: append, as the model runs it. No condition. -/
set_option linter.unusedVariables false
namespace Go.AM
open Go Go.RowKit

section
variable {P : Program} {w : World}

set_option maxHeartbeats 2000000 in
theorem run_append_grow {t u ty e : TypeId} {d : TypeDesc} (hu : P.underlying t = some (.slice e)) (hu2 : P.underlying u = some d) (hd : ∀ k, d ≠ .int k) {base : Option Addr} {len cap n : Nat} {x : Value} {old new : Array Value} {ie : TypeInfo} {z : Value}
    (hie : P.info? e = some ie) (hz : ie.zero = some z) (hb0 : ie.bytes ≠ 0) (hlen : (Builtin.lenOf x).run P w = .ok n w) (hgrow : cap < len + n) (hbytes : (len + n) * ie.bytes ≤ 140737488355328)
    (h1 : (Builtin.firstCells ie.size len (.slice base len cap)).run P w.drew = .ok old w.drew) (h2 : (Builtin.firstCells ie.size n x).run P w.drew = .ok new w.drew) :
    ∃ newCap, len + n ≤ newCap ∧ (Builtin.append_ #[t, u] ty #[.slice base len cap, x]).run P w =
      .ok (.slice (some ⟨w.heap.size, 0, none⟩) (len + n) newCap) (w.drew.alloc (.cells (old ++ new ++ Builtin.zeroCells z.cells (newCap - (len + n))) e)) := by
  have hfit := growslice_fits hgrow hbytes
  refine ⟨(Question.appendCap (len + n) cap e).cut (w.tape w.drawn (.appendCap (len + n) cap e)), ?_, ?_⟩
  · simp [Question.cut]
  · have hf : (Question.appendCap (len + n) cap e).forced = false := rfl
    have hn : ¬ (len + n ≤ cap) := by omega
    have hpos : 0 < ie.bytes := Nat.pos_of_ne_zero hb0
    have h63 : len + n ≤ 140737488355328 := Nat.le_trans (Nat.le_mul_of_pos_right _ hpos) hbytes
    have h63' : ¬ (9223372036854775807 < ((len : Int) + (n : Int))) := by omega
    have h48 : ¬ (281474976710656 < Builtin.nextslicecap (len + n) cap * ie.bytes) := by omega
    cases d <;> first
      | (rename_i k; exact absurd rfl (hd k))
      | (simp [Builtin.append_, run_underlying hu, run_underlying hu2, sizeOf, typeInfo, zeroValue, hie, hz, hlen, hn, h48, hb0, hf, h1, h2, newRow]; done)

set_option maxHeartbeats 2000000 in
theorem run_append_room {t u ty e : TypeId} {d : TypeDesc} (hu : P.underlying t = some (.slice e)) (hu2 : P.underlying u = some d) (hd : ∀ k, d ≠ .int k) {base : Option Addr} {len cap n : Nat} {x : Value} {new : Array Value} {ie : TypeInfo}
    (hie : P.info? e = some ie) (hlen : (Builtin.lenOf x).run P w = .ok n w) (hroom : len + n ≤ cap) (hnew : (Builtin.firstCells ie.size n x).run P w = .ok new w) (w' : World)
    (hst : (match base with | some a => storeCells (a.add (len * ie.size)) new.toList | none => pure ()).run P w = .ok () w') :
    (Builtin.append_ #[t, u] ty #[.slice base len cap, x]).run P w = .ok (.slice base (len + n) cap) w' := by
  cases base with
  | none =>
    simp at hst
    subst hst
    cases d <;> first
      | (rename_i k; exact absurd rfl (hd k))
      | (simp [Builtin.append_, run_underlying hu, run_underlying hu2, sizeOf, typeInfo, hie, hlen, hroom, hnew]; done)
  | some a =>
    simp at hst
    cases d <;> first
      | (rename_i k; exact absurd rfl (hd k))
      | (simp [Builtin.append_, run_underlying hu, run_underlying hu2, sizeOf, typeInfo, hie, hlen, hroom, hnew, hst]; done)

end
end Go.AM

/- The abstract machine: reading and writing cells, new blocks, slices of slices. No condition. -/
set_option linter.unusedVariables false
namespace Go.AM
open Go

section
variable {P : Program} {w : World} {C : Ctx} {st : St} {bs : List (Nat × Nat × Nat)}

theorem tells_view {t : TypeId} {d : TypeDesc} {B o off : Nat} {cs : List PV} {r : PV} (hu : P.underlying t = some d)
    (hv : ∀ (j : Nat) (q : PV), cs[j]? = some q → ∃ y, w.cell? ⟨B, o + j, none⟩ = some y ∧ y.oneCell' = true ∧ Rep w C y q)
    (h : AM.part (aggT P t) (szT P t) off cs = some r) : Tells P w C (loadVar t ⟨B, o + off, none⟩) r := by
  unfold Tells loadVar
  rw [Sem.run_bind, run_isAgg hu]
  simp only [Result.andThen_ok]
  cases ha : aggT P t with
  | true =>
    rw [ha] at h
    simp only [AM.part] at h
    cases hb : Nat.ble (off + szT P t) cs.length with
    | false => rw [hb] at h; simp at h
    | true =>
      rw [hb] at h
      obtain rfl := Option.some.inj h
      have hle := Nat.le_of_ble_eq_true hb
      have hval : ∀ j, j < szT P t → ∃ y, w.cell? ⟨B, o + off + j, none⟩ = some y ∧ y.oneCell' = true ∧ Rep w C y (cs[off + j]?.getD .u) := by
        intro j hj
        have hget : cs[off + j]? = some (cs[off + j]'(by omega)) := List.getElem?_eq_getElem (by omega)
        obtain ⟨y, y1, y2, y3⟩ := hv (off + j) _ hget
        exact ⟨y, by rw [← y1]; congr 2; omega, y2, by rw [hget]; exact y3⟩
      have hch : ∃ f : Nat → Value, ∀ j, j < szT P t → w.cell? ⟨B, o + off + j, none⟩ = some (f j) ∧ (f j).oneCell' = true ∧ Rep w C (f j) (cs[off + j]?.getD .u) := by
        refine ⟨fun j => if hj : j < szT P t then (hval j hj).choose else .nilFunc, fun j hj => ?_⟩
        simp only [dif_pos hj]
        exact (hval j hj).choose_spec
      obtain ⟨f, hf⟩ := hch
      refine ⟨.agg ((List.range (szT P t)).map f).toArray, ?_, .agg (by simp; omega) ?_ ?_⟩
      · simp only [if_true, Sem.run_bind, run_sizeOf hu, Result.andThen_ok]
        rw [run_loadCells w _ (szT P t) f fun j hj => by rw [add_mk]; exact (hf j hj).1]
        rfl
      · intro i x hx
        rw [List.getElem?_toArray] at hx
        obtain ⟨j, hj, rfl⟩ := getElem?_map_some hx
        have hj' := List.getElem?_eq_some_iff.1 hj
        obtain ⟨hj1, hj2⟩ := hj'
        rw [List.length_range] at hj1
        rw [List.getElem_range] at hj2
        subst hj2
        exact (hf i hj1).2.1
      · intro i x p hx hp
        rw [List.getElem?_toArray] at hx
        obtain ⟨j, hj, rfl⟩ := getElem?_map_some hx
        have hj' := List.getElem?_eq_some_iff.1 hj
        obtain ⟨hj1, hj2⟩ := hj'
        rw [List.length_range] at hj1
        rw [List.getElem_range] at hj2
        subst hj2
        rw [List.getElem?_take, if_pos hj1, List.getElem?_drop] at hp
        have := (hf i hj1).2.2
        rw [hp] at this
        exact this
  | false =>
    rw [ha] at h
    simp only [AM.part] at h
    obtain ⟨y, y1, y2, y3⟩ := hv off r h
    exact ⟨y, by simp [y1], y3⟩

theorem Sim.view (H : Sim w C st bs) {h : Bool} {b B : Nat} {cs : List PV} (hσ : C.σ h b = some B) (hb : st.blk h b = some cs) :
    ∀ (j : Nat) (q : PV), cs[j]? = some q → ∃ y, w.cell? ⟨B, 0 + j, none⟩ = some y ∧ y.oneCell' = true ∧ Rep w C y q := by
  intro j q hq
  obtain ⟨B', arr, elem, fr, a1, a2, a3, a4, a5, a6, a7, a8⟩ := H.blk h b cs hb
  rw [hσ] at a1
  obtain rfl := Option.some.inj a1
  have hj := (List.getElem?_eq_some_iff.1 hq).1
  have hget : arr[j]? = some (arr[j]'(by omega)) := Array.getElem?_eq_getElem (by omega)
  exact ⟨_, by simp [World.cell?, a2, hget], a6 j _ hget, a7 j _ q hget hq⟩

theorem tells_load (H : Sim w C st bs) {t : TypeId} {x : Value} {p r : PV} (hu : ∃ d, P.underlying t = some d) (h : aLoad (aggT P t) (szT P t) p st = some r) (hx : Rep w C x p) :
    Tells P w C (Instr.loadAt t x) r := by
  obtain ⟨d, hu⟩ := hu
  unfold aLoad at h
  split at h
  · obtain ⟨cs, hcs, h⟩ := Option.bind_eq_some_iff.1 h
    cases hx with
    | @ptr _ a b off B hb =>
      obtain ⟨v, hv, hr⟩ := tells_view hu (H.view hb hcs) h
      rw [Nat.zero_add] at hv
      exact ⟨v, by simpa [Instr.loadAt, Instr.sureAddr] using hv, hr⟩
  · cases hx with
    | @fp _ cs off B o val h1 h2 h3 h4 =>
      obtain ⟨v, hv, hr⟩ := tells_view (o := o) hu (fun j q hq => ⟨val j, h2 j q hq, h3 j q hq, (h4 j q hq).mono (Ext.of_fz w C)⟩) h
      exact ⟨v, by simpa [Instr.loadAt, Instr.sureAddr] using hv, hr⟩
  · cases h

/-! ### plain cells -/
theorem rep_recap {C' : Ctx} {x : Value} {es : List (List PV)} {c c' : Cap} (h : Rep w C x (.sl es c)) (hS : C'.S = C.S) (hfz : C'.fz = C.fz)
    (hc : ∀ base len cap sz, CapRep C base len cap sz c → CapRep C' base len cap sz c') (hn : NilCap C c → NilCap C' c') : Rep w C' x (.sl es c') := by
  cases h with
  | slnil h => exact .slnil (hn h)
  | sl sz val h1 h2 h3 h4 h5 h6 h7 h8 => exact .sl sz val h1 h2 h3 (by rw [hS]; exact h4) h5 h6 (by rw [hfz]; exact h7) (hc _ _ _ _ h8)

theorem fz_σ {C C' : Ctx} (hfz : C'.fz = C.fz) (b : Nat) : C'.σ true b = C.σ true b := by
  have : (C'.fz).σ true b = (C.fz).σ true b := by rw [hfz]
  exact this

theorem plain_rep {x : Value} {p q : PV} (h : plainC p = some q) (hx : Rep w C x p) {C' : Ctx} (hS : C'.S = C.S) (hfz : C'.fz = C.fz) : Rep w C' x q := by
  have hσt := fz_σ hfz
  unfold plainC at h
  split at h
  · obtain rfl := Option.some.inj h
    exact rep_recap hx hS hfz (fun _ _ _ _ _ => trivial) (fun _ => trivial)
  · obtain rfl := Option.some.inj h
    cases hx with
    | v hf => exact .v hf
  · obtain rfl := Option.some.inj h
    cases hx with
    | ptr hb => exact .ptr (by rw [hσt]; exact hb)
  · obtain rfl := Option.some.inj h
    cases hx with
    | rs h1 h2 h3 h4 => exact .rs (by rw [hσt]; exact h1) h2 h3 h4
  · obtain rfl := Option.some.inj h
    cases hx with
    | fp val h1 h2 h3 h4 => exact .fp val (by rw [hS]; exact h1) h2 h3 (by rw [hfz]; exact h4)
  · obtain rfl := Option.some.inj h
    cases hx with
    | ni => exact .ni
  · obtain rfl := Option.some.inj h
    cases hx with
    | ifc => exact .ifc
  · rename_i f caps
    cases hs : plainFn f && caps.all (sf false 0 3) with
    | false => rw [hs] at h; simp at h
    | true =>
      rw [hs] at h
      obtain rfl := Option.some.inj h
      rw [Bool.and_eq_true] at hs
      refine rep_cut (ok := false) (C := C) (C' := C') 0 hS hfz (fun a b g => ?_) (fun h => by cases h) (fun h => by cases h) 4 hx (by simp only [sf, Bool.and_eq_true]; exact ⟨by rw [hs.1]; rfl, hs.2⟩)
      cases a with
      | true => exact hσt b
      | false => exact absurd (g rfl) (by omega)
  · cases h

theorem plain_one {p q : PV} (h : plainC p = some q) {x : Value} (hx : Rep w C x p) : cellLike q = true := by
  unfold plainC at h
  split at h <;> first | (obtain rfl := Option.some.inj h; rfl) | skip
  · rename_i f caps
    cases hs : plainFn f && caps.all (sf false 0 3) with
    | false => rw [hs] at h; simp at h
    | true => rw [hs] at h; obtain rfl := Option.some.inj h; rfl
  · cases h

theorem plainCs_get : ∀ {cs ds : List PV}, plainCs cs = some ds → ds.length = cs.length ∧ ∀ (i : Nat) (q : PV), ds[i]? = some q → ∃ p, cs[i]? = some p ∧ plainC p = some q
  | [], ds, h => by obtain rfl := Option.some.inj h; exact ⟨rfl, by simp⟩
  | c :: cs, ds, h => by
    simp only [plainCs] at h
    obtain ⟨q, hq, h⟩ := Option.bind_eq_some_iff.1 h
    obtain ⟨qs, hqs, h⟩ := Option.bind_eq_some_iff.1 h
    obtain rfl := Option.some.inj h
    obtain ⟨h1, h2⟩ := plainCs_get hqs
    refine ⟨by simp [h1], fun i r hr => ?_⟩
    cases i with
    | zero => simp at hr; subst hr; exact ⟨c, rfl, hq⟩
    | succ i => simp at hr; simpa using h2 i r hr

/-! ### a token goes to a block -/
theorem tok_setTok {st : St} {o : Ow} {t : Nat} {y z : Nat × Nat} (hy : st.tok o t = some y) (o' : Ow) (t' : Nat) : (st.setTok o t z).tok o' t' = open Classical in if o' = o ∧ t' = t then some z else st.tok o' t' := by
  classical
  have key : ∀ l : List (Nat × Nat), l[t]? = some y → (l.set t z)[t']? = if t' = t then some z else l[t']? := by
    intro l hl
    rw [List.getElem?_set]
    have := (List.getElem?_eq_some_iff.1 hl).1
    by_cases e : t = t'
    · subst e; simp [this]
    · rw [if_neg e, if_neg (Ne.symm e)]
  cases o with
  | fr =>
    cases o' with
    | fr => simp only [St.tok, St.setTok] at hy ⊢; rw [key _ hy]; simp
    | bl h b => rw [if_neg (by simp)]; cases h <;> rfl
  | bl h b =>
    cases o' with
    | fr => rw [if_neg (by simp)]; simp only [St.tok, St.setTok, tk_upB]
    | bl h' b' =>
      simp only [St.tok, St.setTok, bk_upB] at hy ⊢
      by_cases e : h' = h ∧ b' = b
      · obtain ⟨rfl, rfl⟩ := e
        rw [if_pos ⟨rfl, rfl⟩]
        cases hb : st.bk h' b' with
        | none => rw [hb] at hy; cases hy
        | some x =>
          rw [hb] at hy
          simp only [Option.map_some, Option.bind_some] at hy ⊢
          rw [key _ hy]; simp
      · rw [if_neg e, if_neg (fun q => e ⟨by injection q.1, by injection q.1⟩)]

theorem blk_setTok (st : St) (o : Ow) (t : Nat) (z : Nat × Nat) (h : Bool) (b : Nat) : (st.setTok o t z).blk h b = st.blk h b := by
  cases o with
  | fr => cases h <;> rfl
  | bl h' b' =>
    simp only [St.setTok, St.blk, bk_upB]
    split
    · rename_i e; obtain ⟨rfl, rfl⟩ := e
      cases st.bk h b <;> rfl
    · rfl
theorem blk_pushBTok (st : St) (h' : Bool) (b' : Nat) (z : Nat × Nat) (h : Bool) (b : Nat) : (st.pushBTok h' b' z).blk h b = st.blk h b := by
  simp only [St.pushBTok, St.blk, bk_upB]
  split
  · rename_i e; obtain ⟨rfl, rfl⟩ := e
    cases st.bk h b <;> rfl
  · rfl
theorem lp_setTok (st : St) (o : Ow) (t : Nat) (z : Nat × Nat) : (st.setTok o t z).lp = st.lp := by
  cases o with
  | fr => rfl
  | bl h b => exact lp_upB st h b _
theorem stk_setTok (st : St) (o : Ow) (t : Nat) (z : Nat × Nat) : (st.setTok o t z).stk.length = st.stk.length := by
  cases o with
  | fr => rfl
  | bl h b => exact len_upB st h b _ false
theorem tk_setTok (st : St) (o : Ow) (t : Nat) (z : Nat × Nat) : (st.setTok o t z).tk.length = st.tk.length := by
  cases o with
  | fr => simp [St.setTok]
  | bl h b => rw [St.setTok, tk_upB]

/-- What a token's going on takes: which state, and that it is one more or one further. -/
structure Goes (st st' : St) (o : Ow) (t e s : Nat) : Prop where
  blk : ∀ a b, st'.blk a b = st.blk a b
  tok : ∀ o' t', st'.tok o' t' = open Classical in if o' = o ∧ t' = t then some (e, s) else st.tok o' t'
  stk : st'.stk.length = st.stk.length
  tk : st.tk.length ≤ st'.tk.length
  lp : st'.lp = st.lp

theorem goes_set {st : St} {o : Ow} {t : Nat} {y : Nat × Nat} {e s : Nat} (hy : st.tok o t = some y) : Goes st (st.setTok o t (e, s)) o t e s :=
  ⟨fun a b => blk_setTok st o t _ a b, fun o' t' => tok_setTok hy o' t', stk_setTok st o t _, Nat.le_of_eq (tk_setTok st o t _).symm, lp_setTok st o t _⟩

theorem tok_pushTok {st : St} {y : Nat × Nat} (o : Ow) (t' : Nat) : (st.pushTok y).tok o t' = open Classical in if o = .fr ∧ t' = st.tk.length then some y else st.tok o t' := by
  classical
  cases o with
  | bl h b => rw [if_neg (by simp)]; rfl
  | fr =>
    simp only [St.pushTok, St.tok, true_and]
    rw [List.getElem?_append]
    split
    · rename_i hlt; rw [if_neg (by omega)]
    · rename_i hlt
      by_cases e : t' = st.tk.length
      · subst e; simp
      · rw [if_neg e, List.getElem?_eq_none (by simp; omega), List.getElem?_eq_none (by omega)]
theorem goes_push {st : St} {e s : Nat} : Goes st (st.pushTok (e, s)) .fr st.tk.length e s :=
  ⟨fun a b => by cases a <;> rfl, fun h' t' => tok_pushTok h' t', rfl, by simp [St.pushTok], rfl⟩

theorem goes_pushB {st : St} {h : Bool} {b e s : Nat} {cs : List PV} (hb : st.blk h b = some cs) : Goes st (st.pushBTok h b (e, s)) (.bl h b) (st.ntok h b) e s := by
  classical
  refine ⟨fun a b' => blk_pushBTok st h b _ a b', fun o t' => ?_, len_upB st h b _ false, by rw [St.pushBTok, tk_upB]; exact Nat.le_refl _, lp_upB st h b _⟩
  obtain ⟨x, hx, _⟩ := Option.map_eq_some_iff.1 hb
  cases o with
  | fr => rw [if_neg (by simp)]; simp only [St.tok, St.pushBTok, tk_upB]
  | bl h' b' =>
    simp only [St.tok, St.pushBTok, bk_upB]
    by_cases q : h' = h ∧ b' = b
    · obtain ⟨rfl, rfl⟩ := q
      rw [if_pos ⟨rfl, rfl⟩, hx]
      have hn : st.ntok h' b' = x.tk.length := by simp only [St.ntok, hx]
      rw [hn]
      simp only [Option.map_some, Option.bind_some, true_and]
      rw [List.getElem?_append]
      split
      · rename_i hlt; rw [if_neg (by omega)]
      · rename_i hlt
        by_cases e' : t' = x.tk.length
        · subst e'; simp
        · rw [if_neg e', List.getElem?_eq_none (by simp; omega), List.getElem?_eq_none (by omega)]
    · rw [if_neg q, if_neg (fun z => q ⟨by injection z.1, by injection z.1⟩)]

theorem ntok_none {st : St} {h : Bool} {b : Nat} : st.tok (.bl h b) (st.ntok h b) = none := by
  simp only [St.tok, St.ntok]
  cases st.bk h b with
  | none => rfl
  | some x => simp

theorem Sim.tl_none (H : Sim w C st bs) {o : Ow} {t : Nat} (h : st.tok o t = none) : C.tl o t = none := by
  cases q : C.tl o t with
  | none => rfl
  | some y =>
    obtain ⟨B, f, to, e', s'⟩ := y
    have := (H.tok o t B f to e' s' q).1
    rw [h] at this
    cases this

/-- A token is laid aside: nothing is told of its room. -/
theorem Sim.drop (H : Sim w C st bs) {st' : St} {o : Ow} {t e s : Nat} (hg : Goes st st' o t e s) (hgo : ∀ y, C.tl o t = some y → y.2.2.2.2 = s ∧ y.2.2.2.1 < e) :
    Sim w (C.claim (fun _ _ => False) o t (0, 0, 0, e, s)) st' bs ∧ Ext w C w (C.claim (fun _ _ => False) o t (0, 0, 0, e, s)) :=
  H.claim hg.blk hg.tok hg.stk hg.tk hg.lp (fun _ _ q => q.elim) (fun o a b => by omega) (fun h' t' B' f' to' e' s' y q o a b => ⟨fun q => q, fun _ => Or.inr (by omega)⟩)
    (fun B' f' to' e' s' y => by obtain ⟨h1, h2⟩ := hgo _ y; exact ⟨h1, Nat.le_of_lt h2, fun q => by simp only at h2; omega⟩)

theorem claim_tl (C : Ctx) (X : Nat → Nat → Prop) (o : Ow) (t : Nat) (y : Nat × Nat × Nat × Nat × Nat) : (C.claim X o t y).tl o t = some y := by simp [Ctx.claim]
theorem claim_ne (C : Ctx) (X : Nat → Nat → Prop) {o o' : Ow} {t t' : Nat} (y : Nat × Nat × Nat × Nat × Nat) (h : ¬ (o' = o ∧ t' = t)) : (C.claim X o t y).tl o' t' = C.tl o' t' := by simp only [Ctx.claim]; rw [if_neg h]

/-- A token goes from one owner to another one. -/
theorem Sim.move (H : Sim w C st bs) {st1 st2 : St} {o o2 : Ow} {t t2 B f to e s : Nat} (htl : C.tl o t = some (B, f, to, e, s)) (hne : ¬ (o2 = o ∧ t2 = t)) (hno : C.tl o2 t2 = none)
    (h1 : Goes st st1 o t (e + 1) s) (h2 : Goes st1 st2 o2 t2 e s) :
    ∃ C', Sim w C' st2 bs ∧ Ext w C w C' ∧ C'.tl o2 t2 = some (B, f, to, e, s) := by
  obtain ⟨k1, k2⟩ := H.drop h1 (fun y hy => by rw [htl] at hy; cases hy; exact ⟨rfl, Nat.lt_succ_self _⟩)
  have htok := (H.tok o t B f to e s htl).2
  obtain ⟨g1, g2⟩ := k1.claim (st' := st2) (X := fun _ _ => False) (o := o2) (t := t2) (B := B) (f := f) (to := to) (e := e) (s := s) h2.blk h2.tok h2.stk h2.tk h2.lp (fun _ _ q => q.elim)
    (fun i a b => by
      obtain ⟨g1, g2, g3⟩ := htok i a b
      exact ⟨⟨fun z => z.elim g1 fun z => z, g2, g3⟩, fun q => q⟩)
    (fun o' t' B' f' to' e' s' y q i a b => ⟨fun q => q, fun z => by
      subst z
      by_cases q2 : o' = o ∧ t' = t
      · obtain ⟨rfl, rfl⟩ := q2
        rw [claim_tl] at y
        cases y
        omega
      · rw [claim_ne _ _ _ q2] at y
        rcases H.disj o' t' o t B' f' to' e' s' f to e s y htl with k | k
        · exact absurd k q2
        · by_cases i < f
          · exact Or.inl ‹_›
          · exact Or.inr (Nat.le_of_not_lt fun z => k i a b (by omega) z)⟩)
    (fun B' f' to' e' s' y => by rw [claim_ne _ _ _ hne, hno] at y; cases y)
  exact ⟨_, g1, k2.trans g2, claim_tl _ _ _ _ _⟩

/-- A cell that goes into a block. -/
theorem moveC_ok (H : Sim w C st bs) {h : Bool} {b : Nat} {old : List PV} (hb : st.blk h b = some old) {p : PV} {r : PV × St} (hm : moveC h b p st = some r) {x : Value} (hx : Rep w C x p) :
    ∃ C', Sim w C' r.2 bs ∧ Ext w C w C' ∧ Rep w C' x r.1 ∧ (∀ a b', r.2.blk a b' = st.blk a b') ∧ ∀ m t l, (h = true ∨ b < m) → Rep w (C'.cut m t l) x r.1 := by
  have stay : ∀ {q : PV}, r = (q, st) → Rep w C x q → (∀ m t l, (h = true ∨ b < m) → Rep w (C.cut m t l) x q) → ∃ C', Sim w C' r.2 bs ∧ Ext w C w C' ∧ Rep w C' x r.1 ∧ (∀ a b', r.2.blk a b' = st.blk a b') ∧ ∀ m t l, (h = true ∨ b < m) → Rep w (C'.cut m t l) x r.1 := by
    intro q e h1 h2
    subst e
    exact ⟨C, H, Ext.refl w C, h1, fun _ _ => rfl, h2⟩
  have keep : ∀ {e n : Nat} {C' : Ctx} {es : List (List PV)}, Rep w C' x (.sl es (.own (.bl h b) n e)) → ∀ m t l, (h = true ∨ b < m) → Rep w (C'.cut m t l) x (.sl es (.own (.bl h b) n e)) := by
    intro e n C' es hr m t l hbm
    have htl : (C'.cut m t l).tl (.bl h b) n = C'.tl (.bl h b) n := by
      cases h with
      | true => rfl
      | false =>
        rcases hbm with q | q
        · cases q
        · simp only [Ctx.cut]; rw [if_pos q]
    refine rep_recap hr rfl (C'.cut_fz m t l) (fun base len cap sz hc => ?_) (fun hn => ?_)
    · simp only [CapRep, htl] at hc ⊢; exact hc
    · simp only [NilCap, htl] at hn ⊢; exact hn
  have pl : ∀ {q : PV}, plainC p = some q → Rep w C x q ∧ ∀ m t l, (h = true ∨ b < m) → Rep w (C.cut m t l) x q := fun hq => ⟨plain_rep hq hx rfl rfl, fun m t l _ => plain_rep hq hx rfl (C.cut_fz m t l)⟩
  unfold moveC at hm
  split at hm
  · rename_i es o t e
    cases hi : o.is h b with
    | true =>
      rw [hi] at hm
      obtain rfl := Option.some.inj hm
      obtain rfl := Ow.is_iff.1 hi
      exact stay rfl hx (keep hx)
    | false =>
      rw [hi] at hm
      simp only [cond_false] at hm
      have dead : ∃ C', Sim w C' ((PV.sl es .dead, st) : PV × St).2 bs ∧ Ext w C w C' ∧ Rep w C' x ((PV.sl es .dead, st) : PV × St).1 ∧ (∀ a b', ((PV.sl es .dead, st) : PV × St).2.blk a b' = st.blk a b') ∧ ∀ m t l, (h = true ∨ b < m) → Rep w (C'.cut m t l) x ((PV.sl es .dead, st) : PV × St).1 :=
        ⟨C, H, Ext.refl w C, rep_recap hx rfl rfl (fun _ _ _ _ _ => trivial) (fun _ => trivial), fun _ _ => rfl, fun m t l _ => rep_recap hx rfl (C.cut_fz m t l) (fun _ _ _ _ _ => trivial) (fun _ => trivial)⟩
      split at hm
      · rename_i y hy
        cases hye : Nat.beq y.1 e with
        | false =>
          rw [hye] at hm
          obtain rfl := Option.some.inj hm
          exact dead
        | true =>
          rw [hye] at hm
          obtain rfl := Option.some.inj hm
          obtain ⟨y1, y2⟩ := y
          obtain rfl : y1 = e := Nat.eq_of_beq_eq_true hye
          obtain ⟨B, f, to, htl⟩ := H.tokdom o t y1 y2 hy
          have hne : ¬ ((Ow.bl h b) = o ∧ st.ntok h b = t) := fun q => by rw [Ow.is_iff.2 q.1.symm] at hi; cases hi
          have g1 : Goes st (st.setTok o t (y1 + 1, y2)) o t (y1 + 1) y2 := goes_set hy
          have hb1 : (st.setTok o t (y1 + 1, y2)).blk h b = some old := by rw [blk_setTok]; exact hb
          have hnt : (st.setTok o t (y1 + 1, y2)).ntok h b = st.ntok h b := by
            cases o with
            | fr => cases h <;> rfl
            | bl h' b' =>
              simp only [St.setTok, St.ntok, bk_upB]
              rw [if_neg]
              rintro ⟨rfl, rfl⟩
              exact absurd (Ow.is_iff.2 rfl) (by rw [hi]; simp)
          have g2 : Goes (st.setTok o t (y1 + 1, y2)) ((st.setTok o t (y1 + 1, y2)).pushBTok h b (y1, y2)) (.bl h b) (st.ntok h b) y1 y2 := by
            have := goes_pushB (e := y1) (s := y2) hb1
            rw [hnt] at this
            exact this
          obtain ⟨C', c1, c2, c3⟩ := H.move htl hne (H.tl_none ntok_none) g1 g2
          have hrep : Rep w C' x (.sl es (.own (.bl h b) (st.ntok h b) y1)) := by
            have hm2 := hx.mono c2
            cases hx with
            | slnil hn => exact .slnil ⟨B, f, to, y1, y2, c3, Nat.le_refl _⟩
            | sl sz val h1 h2 h3 h4 h5 h6 h7 h8 =>
              refine .sl sz val h1 h2 h3 (fun i e j p he hp => c2.S _ _ (h4 i e j p he hp)) (fun i e j p he hp => (c2.cell _ _ (h4 i e j p he hp)).trans (h5 i e j p he hp)) h6 (fun i e j p he hp => (h7 i e j p he hp).mono c2.fz) ?_
              obtain ⟨B', f', to', e', s', k1, k2, k3⟩ := h8
              rw [htl] at k1
              cases k1
              exact ⟨B, f, to, y1, y2, c3, Nat.le_refl _, fun _ => k3 rfl⟩
          exact ⟨C', c1, c2, hrep, fun a b' => by rw [blk_pushBTok, blk_setTok], keep hrep⟩
      · obtain rfl := Option.some.inj hm
        exact dead
  · rename_i es c hcn
    obtain rfl := Option.some.inj hm
    have hcc : ∀ {C'' : Ctx}, (∀ base len cap sz, CapRep C base len cap sz c → CapRep C'' base len cap sz c) ∧ (NilCap C c → NilCap C'' c) := by
      intro C''
      cases c with
      | own o t e => exact absurd rfl (hcn o t e)
      | nil => exact ⟨fun _ _ _ _ h => h, fun _ => trivial⟩
      | full => exact ⟨fun _ _ _ _ h => h, fun _ => trivial⟩
      | dead => exact ⟨fun _ _ _ _ h => h, fun _ => trivial⟩
    exact stay rfl hx fun m t l _ => rep_recap hx rfl (C.cut_fz m t l) hcc.1 hcc.2
  · obtain rfl := Option.some.inj hm
    have := pl (q := _) rfl
    exact stay rfl this.1 this.2
  · obtain rfl := Option.some.inj hm
    have := pl (q := _) rfl
    exact stay rfl this.1 this.2
  · obtain rfl := Option.some.inj hm
    have := pl (q := _) rfl
    exact stay rfl this.1 this.2
  · obtain rfl := Option.some.inj hm
    have := pl (q := _) rfl
    exact stay rfl this.1 this.2
  · obtain rfl := Option.some.inj hm
    have := pl (q := _) rfl
    exact stay rfl this.1 this.2
  · obtain rfl := Option.some.inj hm
    have := pl (q := _) rfl
    exact stay rfl this.1 this.2
  · rename_i f caps
    cases hs : plainFn f && caps.all (sf false 0 3) with
    | false => rw [hs] at hm; simp at hm
    | true =>
      rw [hs] at hm
      obtain rfl := Option.some.inj hm
      have := pl (q := .clo f caps) (by simp only [plainC]; rw [hs]; rfl)
      exact stay rfl this.1 this.2
  · cases hm

theorem moveCs_ok {h : Bool} {b : Nat} {old : List PV} : ∀ {cs : List PV} {st : St} {C : Ctx} {r : List PV × St} {vs : List Value}, moveCs h b cs st = some r → Sim w C st bs → st.blk h b = some old → vs.length = cs.length →
    (∀ (i : Nat) (x : Value) (p : PV), vs[i]? = some x → cs[i]? = some p → Rep w C x p) →
    ∃ C', Sim w C' r.2 bs ∧ Ext w C w C' ∧ r.1.length = cs.length ∧ (∀ a b', r.2.blk a b' = st.blk a b') ∧ (∀ (i : Nat) (x : Value) (p : PV), vs[i]? = some x → r.1[i]? = some p → Rep w C' x p) ∧
      ∀ m t l, (h = true ∨ b < m) → ∀ (i : Nat) (x : Value) (p : PV), vs[i]? = some x → r.1[i]? = some p → Rep w (C'.cut m t l) x p
  | [], st, C, r, vs, hm, H, hb, hl, hr => by
    obtain rfl := Option.some.inj hm
    exact ⟨C, H, Ext.refl w C, rfl, fun _ _ => rfl, by simp, by simp⟩
  | c :: cs, st, C, r, vs, hm, H, hb, hl, hr => by
    match vs, hl, hr with
    | v :: vs, hl, hr =>
      simp only [moveCs] at hm
      obtain ⟨r1, hr1, hm⟩ := Option.bind_eq_some_iff.1 hm
      obtain ⟨r2, hr2, hm⟩ := Option.bind_eq_some_iff.1 hm
      obtain rfl := Option.some.inj hm
      obtain ⟨C1, a1, a2, a3, a4, a5⟩ := moveC_ok H hb hr1 (hr 0 v c rfl rfl)
      obtain ⟨C2, b1, b2, b3, b4, b5, b6⟩ := moveCs_ok (vs := vs) hr2 a1 (by rw [a4]; exact hb) (by simpa using hl) fun i x p hx hp => (hr (i + 1) x p (by simpa using hx) (by simpa using hp)).mono a2
      refine ⟨C2, b1, a2.trans b2, by simp [b3], fun a b' => by rw [b4, a4], fun i x p hx hp => ?_, fun m t l hbm i x p hx hp => ?_⟩
      · cases i with
        | zero => simp at hx hp; subst hx; subst hp; exact a3.mono b2
        | succ i => simp at hx hp; exact b5 i x p hx hp
      · cases i with
        | zero => simp at hx hp; subst hx; subst hp; exact (a5 m t l hbm).mono (b2.cut m t l)
        | succ i => simp at hx hp; exact b6 m t l hbm i x p hx hp

/-- Cells are written into a block. -/
theorem put_ok (H : Sim w C st bs) (base : Nat) (hbase : ∀ m t l, (m, t, l) ∈ bs → m ≤ base) {h : Bool} {b off B : Nat} {cs : List PV} {st' : St} (hp : putCells base h b off cs st = some st') (hσ : C.σ h b = some B)
    {vs : List Value} (hl : vs.length = cs.length) (hone : ∀ v ∈ vs, v.oneCell' = true) (hr : ∀ (i : Nat) (x : Value) (p : PV), vs[i]? = some x → cs[i]? = some p → Rep w C x p) :
    ∃ C', (storeCells ⟨B, off, none⟩ vs).run P w = .ok () (w.setCells B off vs) ∧ Sim (w.setCells B off vs) C' st' bs ∧ Ext w C (w.setCells B off vs) C' := by
  unfold putCells at hp
  obtain ⟨old, hold, hp⟩ := Option.bind_eq_some_iff.1 hp
  cases hb : Nat.ble (off + cs.length) old.length && okCells cs with
  | false => rw [hb] at hp; simp at hp
  | true =>
    rw [hb] at hp
    simp only [cond_true] at hp
    rw [Bool.and_eq_true] at hb
    have b2 := Nat.le_of_ble_eq_true hb.1
    obtain ⟨B', arr, elem, fr, a1, a2, a3, a4, a5, a6, a7, a8⟩ := H.blk h b old hold
    rw [hσ] at a1
    obtain rfl := Option.some.inj a1
    have hrun := run_storeCells_cells (P := P) B off vs 0 w (fun j hj => by
        have hj' : off + 0 + j < arr.size := by omega
        simp only [World.cell?, a2]
        simpa using hj') (fun j hj => by
        simp only [World.frozen?, a2]
        have := a4 (off + 0 + j)
        simp only [notFrozen] at this
        cases hq : (decide (fr.1 ≤ off + 0 + j) && decide (off + 0 + j < fr.2)) with
        | false => rfl
        | true => simp at hq; exact absurd hq (by simpa using this)) hone
    have hrun' : (storeCells ⟨B, off, none⟩ vs).run P w = .ok () (w.setCells B off vs) := by simpa using hrun
    cases hlow : h || Nat.blt b base with
    | true =>
      rw [hlow] at hp
      simp only [cond_true] at hp
      obtain ⟨q, hq, hp⟩ := Option.bind_eq_some_iff.1 hp
      obtain rfl := Option.some.inj hp
      obtain ⟨C1, c1, c2, c3, c4, c5, c6⟩ := moveCs_ok hq H hold hl hr
      obtain ⟨d1, d2⟩ := c1.store (vs := vs) (cs := q.1) (off := off) (old := old) (c2.σ _ _ _ hσ) (by rw [c4]; exact hold) (by omega) (by omega) hone c5 fun m t l hm hbm => c6 m t l hbm
      exact ⟨C1, hrun', d1, c2.trans d2⟩
    | false =>
      rw [hlow] at hp
      obtain rfl := Option.some.inj hp
      obtain ⟨d1, d2⟩ := H.store (vs := vs) (cs := cs) (off := off) hσ hold hl b2 hone hr fun m t l hm hbm => by
        exfalso
        rw [Bool.or_eq_false_iff] at hlow
        rcases hbm with q | q
        · rw [q] at hlow; cases hlow.1
        · have := hbase m t l hm
          have : Nat.blt b base = true := by rw [Nat.blt_eq]; omega
          rw [this] at hlow
          cases hlow.2
      exact ⟨C, hrun', d1, d2⟩

theorem store_ok (H : Sim w C st bs) (base : Nat) (hbase : ∀ m t l, (m, t, l) ∈ bs → m ≤ base) {t : TypeId} {x v : Value} {p q : PV} {st' : St} (h : aStore base (szT P t) p q st = some st') (hx : Rep w C x p) (hv : Rep w C v q) :
    ∃ w' C', (Instr.storeAt t x v).run P w = .ok () w' ∧ Sim w' C' st' bs ∧ Ext w C w' C' := by
  unfold aStore at h
  split at h
  · rename_i a b off
    obtain ⟨cs, hcs, h⟩ := Option.bind_eq_some_iff.1 h
    cases hb : Nat.beq cs.length (szT P t) && !Nat.beq (szT P t) 0 with
    | false => rw [hb] at h; simp at h
    | true =>
      rw [hb] at h
      simp only [cond_true] at h
      rw [Bool.and_eq_true] at hb
      have b1 := Nat.eq_of_beq_eq_true hb.1
      have hne : szT P t ≠ 0 := by intro z; rw [z] at hb; simp at hb
      obtain ⟨ti, hti⟩ := info_of_sz hne
      obtain ⟨c1, c2, c3⟩ := rep_cells hcs hv
      cases hx with
      | @ptr _ _ _ _ B hσ =>
        obtain ⟨C', k1, k2, k3⟩ := put_ok (P := P) H base hbase h hσ (vs := v.cells.toList) (by simpa using c1)
          (fun y hy => by
            obtain ⟨i, hi⟩ := List.mem_iff_getElem?.1 hy
            exact c2 i y (by simpa using hi)) (fun i y r hy hr => c3 i y r (by simpa using hy) hr)
        refine ⟨_, C', ?_, k2, k3⟩
        have hsz : v.cells.size = szT P t := by omega
        simp only [Instr.storeAt, Instr.sureAddr, storeVar, Sem.run_bind, Sem.run_pure, Result.andThen_ok, run_sizeOf' hti, hsz]
        simpa using k1
  · cases h

/-- A new block, of cells of which as much is told in every frame. -/
theorem lay_ok (H : Sim w C st bs) (h : Bool) {elem : TypeId} {arr : Array Value} {cs : List PV} (hr : RepCells w C arr cs) (hc : ∀ m t l, (m, t, l) ∈ bs → h = true → RepCells w (C.cut m t l) arr cs) :
    ∃ w' C', (newRow elem arr).run P w = .ok ⟨w.heap.size, 0, none⟩ w' ∧ Sim w' C' (st.lay h cs) bs ∧ Ext w C w' C' ∧ w'.heap[w.heap.size]? = some (.cells arr elem (0, 0)) ∧ C'.σ h (st.len h) = some w.heap.size := by
  obtain ⟨k1, k2⟩ := H.lay h arr elem cs (Nat.le_of_eq hr.size.symm) hr.one hr.rep fun m t l hm hh o x p a b => (hc m t l hm hh).rep o x p a b
  refine ⟨_, _, ?_, k1, k2, by simp, by simp [Ctx.lay]⟩
  simp [newRow, run_newObj]

/-- A new block that holds a value's cells. -/
theorem box_ok (H : Sim w C st bs) {h : Bool} {elem : TypeId} {arr : Array Value} {cs : List PV} (hr : RepCells w C arr cs) {r : PV × St} (hb : aBox h cs st = some r) :
    ∃ w' C', (newRow elem arr).run P w = .ok ⟨w.heap.size, 0, none⟩ w' ∧ Sim w' C' r.2 bs ∧ Ext w C w' C' ∧ Rep w' C' (.pointer (some ⟨w.heap.size, 0, none⟩)) r.1 := by
  unfold aBox at hb
  cases h with
  | false =>
    obtain rfl := Option.some.inj hb
    obtain ⟨w', C', k1, k2, k3, _, k4⟩ := lay_ok (P := P) (elem := elem) H false hr (fun _ _ _ _ q => by cases q)
    exact ⟨w', C', k1, k2, k3, .ptr k4⟩
  | true =>
    simp only at hb
    cases ho : okCells cs with
    | false => rw [ho] at hb; simp at hb
    | true =>
      rw [ho] at hb
      obtain ⟨q, hq, hb⟩ := Option.bind_eq_some_iff.1 hb
      obtain rfl := Option.some.inj hb
      have hu : ∀ C' : Ctx, RepCells w C' arr (cs.map fun _ => PV.u) := fun C' => ⟨by simp [hr.size], hr.one, fun i y p hy hp => by obtain ⟨_, _, rfl⟩ := getElem?_map_some hp; exact .u⟩
      obtain ⟨w', C', k1, k2, k3, k5, k4⟩ := lay_ok (P := P) (elem := elem) H true (hu C) (fun m t l _ _ => hu _)
      have hlen : st.len true = st.hp.length := rfl
      have hblk : (st.lay true (cs.map fun _ => PV.u)).blk true st.hp.length = some (cs.map fun _ => PV.u) := by rw [blk_lay, if_pos ⟨rfl, rfl⟩]
      have hvl : arr.toList.length = cs.length := by simpa using hr.size
      obtain ⟨C1, c1, c2, c3, c4, c5, c6⟩ := moveCs_ok (vs := arr.toList) hq k2 hblk hvl fun i x p hx hp => (hr.rep i x p (by simpa using hx) hp).mono k3
      have hσ1 := c2.σ _ _ _ k4
      rw [hlen] at hσ1
      obtain ⟨d1, d2⟩ := c1.put (vs := []) (off := 0) (ds := q.1) (old := cs.map fun _ => PV.u) hσ1 (by rw [c4]; exact hblk) k5 (by have := hr.size; omega) (by simp) (by simp) (by
        cases cs with
        | nil => right; exact ⟨rfl, List.length_eq_zero_iff.1 c3⟩
        | cons c cs => left; simp) (fun o x p hx hp => c5 o x p (by simpa [laidA] using hx) hp) (fun m t l hm hbm o x p hx hp => c6 m t l hbm o x p (by simpa [laidA] using hx) hp)
      refine ⟨w', C1, k1, ?_, k3.trans c2, .ptr hσ1⟩
      simpa [World.setCells] using d1

/-! ### slicing -/
theorem run_bound {x : Value} {p : PV} {d n m : Nat} {y : Nat} {code : BoundsCode} (h : bnd (some p) d n = some m) (hx : Rep w C x p) (hn : n ≤ y) : (Instr.sliceBound x y code).run P w = .ok m w ∧ m ≤ n := by
  unfold bnd at h
  split at h
  · rename_i e; cases e
  · rename_i k i e
    obtain rfl := Option.some.inj e
    obtain ⟨rfl, _⟩ := rep_v hx
    cases hb : decide (0 ≤ i) && decide (i ≤ (n : Int)) with
    | false => rw [hb] at h; simp at h
    | true =>
      rw [hb] at h
      obtain rfl := Option.some.inj h
      simp at hb
      refine ⟨?_, by omega⟩
      simp only [Instr.sliceBound, asIntOf, Sem.run_bind, Sem.run_pure, Result.andThen_ok]
      rw [if_pos ⟨hb.1, by omega⟩]
      rfl
  · cases h

end
end Go.AM

/- The abstract machine: slices of slices, rows made of parts, rows that grow. No condition. -/
set_option linter.unusedVariables false
namespace Go.AM
open Go

section
variable {P : Program} {w : World} {C : Ctx} {st : St} {bs : List (Nat × Nat × Nat)}

/-- An option of a value against one of a plain value. -/
def RepO (w : World) (C : Ctx) : Option Value → Option PV → Prop
  | none, none => True
  | some x, some p => Rep w C x p
  | _, _ => False

theorem okSz_get {sz : Nat} {es : List (List PV)} (h : okSz sz es = true) {i : Nat} {e : List PV} (he : es[i]? = some e) : e.length = sz := by
  unfold okSz at h
  rw [List.all_eq_true] at h
  exact Nat.eq_of_beq_eq_true (h e (List.mem_of_getElem? he))

theorem rep_sub {B o len cap l h : Nat} {es : List (List PV)} {c : Cap} {sz : Nat} (hne : sz ≠ 0) (hsz : okSz sz es = true) (hx : Rep w C (.slice (some ⟨B, o, none⟩) len cap) (.sl es c)) (hh : h ≤ es.length) (hl : l ≤ h) (full : Bool) (m : Nat)
    (hm : if full then m = h else m = cap) (base' : Option Addr) (hb : base' = if m = l then some ⟨B, o, none⟩ else some ⟨B, o + l * sz, none⟩) :
    Rep w C (.slice base' (h - l) (m - l)) (.sl ((es.take h).drop l) (sliceCap c h es.length full)) := by
  cases hx with
  | @sl _ _ _ _ _ _ _ sz' val h1 h2 h3 h4 h5 h6 h7 h8 =>
    have hget : ∀ (i : Nat) (e : List PV), ((es.take h).drop l)[i]? = some e → es[l + i]? = some e := by
      intro i e he
      rw [List.getElem?_drop, List.getElem?_take] at he
      split at he
      · exact he
      · cases he
    have hlen : ((es.take h).drop l).length = h - l := by simp; omega
    have hszz : ∀ (i : Nat) (e : List PV), es[i]? = some e → sz' = sz := fun i e he => by rw [← h3 i e he]; exact okSz_get hsz he
    have hhm : h ≤ m := by
      cases full with
      | true => simp at hm; omega
      | false => simp at hm; omega
    by_cases hlm : m = l
    · -- nothing is left
      have hhl : h = l := by omega
      subst hhl
      subst hlm
      rw [if_pos rfl] at hb
      subst hb
      have hnil : (es.take m).drop m = [] := List.length_eq_zero_iff.1 (by omega)
      rw [hnil, Nat.sub_self]
      refine .sl (match c with | .own a t e => (match C.tl a t with | some (_, _, _, _, s) => s | none => 0) | _ => 0) (fun _ _ => .nilFunc) rfl (Nat.le_refl _) (by simp) (by simp) (by simp) (by simp) (by simp) ?_
      cases full with
      | true => exact rfl
      | false =>
        simp only [sliceCap, cond_false]
        cases hq : Nat.beq m es.length with
        | false => exact trivial
        | true =>
          cases c with
          | nil => simp [CapRep] at h8
          | full => exact rfl
          | dead => exact trivial
          | own a t e =>
            obtain ⟨B', f, to, e', s, g1, g2, g3⟩ := h8
            exact ⟨B', f, to, e', s, g1, g2, fun _ => ⟨by simp only [g1], Or.inl rfl⟩⟩
    · rw [if_neg hlm] at hb
      have hls : l * sz = l * sz' := by
        by_cases hes : es = []
        · subst hes
          simp at hh
          obtain rfl : l = 0 := by omega
          simp
        · obtain ⟨e0, he0⟩ : ∃ e0, es[0]? = some e0 := by
            cases es with
            | nil => exact absurd rfl hes
            | cons a b => exact ⟨a, rfl⟩
          rw [hszz _ _ he0]
      rw [hls] at hb
      subst hb
      have hpos : ∀ i j, o + l * sz' + i * sz' + j = o + (l + i) * sz' + j := fun i j => by rw [Nat.add_mul]; omega
      refine .sl sz' (fun i j => val (l + i) j) hlen.symm (by omega) (fun i e he => h3 _ e (hget i e he)) (fun i e j p he hp => ?_) (fun i e j p he hp => ?_) (fun i e j p he hp => h6 _ e j p (hget i e he) hp) (fun i e j p he hp => h7 _ e j p (hget i e he) hp) ?_
      · rw [hpos]; exact h4 _ e j p (hget i e he) hp
      · rw [hpos]; exact h5 _ e j p (hget i e he) hp
      · cases full with
        | true =>
          simp only [sliceCap, cond_true]
          simp only [if_true] at hm
          subst hm
          exact rfl
        | false =>
          simp only [sliceCap, cond_false]
          simp only [Bool.false_eq_true, if_false] at hm
          subst hm
          cases hq : Nat.beq h es.length with
          | false => exact trivial
          | true =>
            have hq := Nat.eq_of_beq_eq_true hq
            simp only [cond_true]
            cases c with
            | nil => simp [CapRep] at h8
            | full => simp only [CapRep] at h8 ⊢; omega
            | dead => exact trivial
            | own a t e =>
              obtain ⟨B', f, to, e', s, g1, g2, g3⟩ := h8
              refine ⟨B', f, to, e', s, g1, g2, fun q => ?_⟩
              obtain ⟨hs, g4⟩ := g3 q
              refine ⟨hs, ?_⟩
              rcases g4 with g4 | ⟨o', g5, g6, g7⟩
              · exact Or.inl (by clear g3 q hs; omega)
              · clear g3 q
                refine Or.inr ⟨o + l * sz', ?_, ?_, ?_⟩
                · injection g5 with g5; injection g5 with g8 g9; subst g8; rfl
                · injection g5 with g5; injection g5 with g8 g9
                  have k1 : l * sz' ≤ h * sz' := Nat.mul_le_mul_right _ hl
                  rw [g6, ← g9, h1, ← hq, Nat.sub_mul]
                  clear g6 g7
                  omega
                · injection g5 with g5; injection g5 with g8 g9
                  have k1 : l * sz' ≤ m * sz' := Nat.mul_le_mul_right _ (Nat.le_trans hl hhm)
                  rw [g7, ← g9, Nat.sub_mul]
                  clear g6 g7
                  omega

/-- The bounds of a slicing. -/
theorem run_bounds {n len cap : Nat} {lo hi mx : Option Value} {l h m : Option PV} {lv hv mv : Nat} (hlen : len = n) (hcap : len ≤ cap) (hl : RepO w C lo l) (hh : RepO w C hi h) (hm : RepO w C mx m)
    (em : bnd m n n = some mv) (eh : bnd h n mv = some hv) (el : bnd l 0 hv = some lv) (hc : (m.isSome && (h.isNone || !Nat.beq mv hv)) = false) :
    ∃ m', (Instr.sliceBounds true len cap lo hi mx).run P w = .ok (lv, hv, m') w ∧ hv ≤ n ∧ lv ≤ hv ∧ (if m.isSome then m' = hv else m' = cap) := by
  have klow : lv ≤ hv ∧ ((lo = none ∧ lv = 0) ∨ ∃ y, lo = some y ∧ ∀ code, (Instr.sliceBound y hv code).run P w = .ok lv w) := by
    cases l with
    | none =>
      cases lo with
      | some _ => exact hl.elim
      | none => obtain rfl : 0 = lv := Option.some.inj el; exact ⟨Nat.zero_le _, Or.inl ⟨rfl, rfl⟩⟩
    | some q =>
      cases lo with
      | none => exact hl.elim
      | some y => exact ⟨(run_bound (P := P) (y := hv) (code := .index) el hl (Nat.le_refl _)).2, Or.inr ⟨y, rfl, fun code => (run_bound el hl (Nat.le_refl _)).1⟩⟩
  cases m with
  | none =>
    cases mx with
    | some _ => exact hm.elim
    | none =>
      obtain rfl : n = mv := Option.some.inj em
      cases h with
      | none =>
        cases hi with
        | some _ => exact hh.elim
        | none =>
          obtain rfl : n = hv := Option.some.inj eh
          refine ⟨cap, ?_, Nat.le_refl _, klow.1, by simp⟩
          rcases klow.2 with ⟨rfl, rfl⟩ | ⟨y, rfl, hy⟩
          · simp [Instr.sliceBounds, hlen]
          · simp [Instr.sliceBounds, hlen, hy]
      | some q =>
        cases hi with
        | none => exact hh.elim
        | some y =>
          have k1 : ∀ code, (Instr.sliceBound y cap code).run P w = .ok hv w ∧ hv ≤ n := fun code => run_bound eh hh (by omega)
          refine ⟨cap, ?_, (k1 .index).2, klow.1, by simp⟩
          have k2 := fun code => (k1 code).1
          rcases klow.2 with ⟨rfl, rfl⟩ | ⟨y, rfl, hy⟩
          · simp [Instr.sliceBounds, k2]
          · simp [Instr.sliceBounds, k2, hy]
  | some qm =>
    cases mx with
    | none => exact hm.elim
    | some ym =>
      have k0 : ∀ code, (Instr.sliceBound ym cap code).run P w = .ok mv w ∧ mv ≤ n := fun code => run_bound em hm (by omega)
      cases h with
      | none => simp at hc
      | some qh =>
        cases hi with
        | none => exact hh.elim
        | some yh =>
          have k1 : ∀ code, (Instr.sliceBound yh mv code).run P w = .ok hv w ∧ hv ≤ mv := fun code => run_bound eh hh (Nat.le_refl _)
          have kmh : mv = hv := by
            have := hc
            simp at this
            exact this
          have k2 := fun code => (k1 code).1
          have k3 := fun code => (k0 code).1
          refine ⟨mv, ?_, ?_, klow.1, by simp [kmh]⟩
          · rcases klow.2 with ⟨rfl, rfl⟩ | ⟨y, rfl, hy⟩
            · simp [Instr.sliceBounds, k2, k3]
            · simp [Instr.sliceBounds, k2, k3, hy]
          · have := (k0 .index).2; have := (k1 .index).2; omega

theorem tells_slice {t : TypeId} {x : Value} {lo hi mx : Option Value} {p r : PV} {l h m : Option PV} (H : aSlice P t p l h m = some r) (hx : Rep w C x p) (hl : RepO w C lo l) (hh : RepO w C hi h) (hm : RepO w C mx m) :
    Tells P w C (Instr.sliceAt t x lo hi mx) r := by
  unfold aSlice at H
  split at H
  · rename_i s
    obtain ⟨rfl, _⟩ := rep_v hx
    split at H
    · rename_i l' h' e1 e2
      split at H
      · rename_i hu
        have ho : ∀ {y : Option Value} {q : Option PV} {v : Option Value}, RepO w C y q → optV q = some v → y = v := by
          intro y q v h1 h2
          cases q with
          | none =>
            cases y with
            | none => exact Option.some.inj h2
            | some _ => exact h1.elim
          | some q =>
            cases y with
            | none => exact h1.elim
            | some y =>
              unfold optV at h2
              split at h2
              · rename_i e; cases e
              · rename_i a e
                obtain rfl := Option.some.inj e
                obtain rfl := Option.some.inj h2
                rw [(rep_v h1).1]
              · cases h2
        have k1 := ho hl e1
        have k2 := ho hh e2
        subst k1
        subst k2
        have k3 : mx = none := by cases mx with | none => rfl | some _ => exact hm.elim
        subst k3
        obtain ⟨v, hv, hr⟩ := tells_flat (w := w) (C := C) H
        refine ⟨v, ?_, hr⟩
        simp only [Instr.sliceAt, Sem.run_bind, run_underlying hu, Result.andThen_ok]
        exact hv
      · cases H
    · cases H
  · rename_i es c
    split at H
    · rename_i elem hu
      cases hz : Nat.beq (szT P elem) 0 with
      | true => rw [hz] at H; simp at H
      | false =>
        rw [hz] at H
        simp only [cond_false] at H
        have hne : szT P elem ≠ 0 := Nat.ne_of_beq_eq_false hz
        obtain ⟨ie, hie⟩ := info_of_sz hne
        obtain ⟨mv, em, H⟩ := Option.bind_eq_some_iff.1 H
        obtain ⟨hv, eh, H⟩ := Option.bind_eq_some_iff.1 H
        obtain ⟨lv, el, H⟩ := Option.bind_eq_some_iff.1 H
        cases hc : (m.isSome && (h.isNone || !Nat.beq mv hv)) || !okSz (szT P elem) es with
        | true => rw [hc] at H; simp at H
        | false =>
          rw [hc] at H
          simp only [cond_false] at H
          obtain rfl := Option.some.inj H
          rw [Bool.or_eq_false_iff] at hc
          have hok : okSz (szT P elem) es = true := by simpa using hc.2
          obtain ⟨base, len, cap, rfl, hlen, hcap⟩ : ∃ base len cap, x = .slice base len cap ∧ len = es.length ∧ len ≤ cap := by
            cases hx with
            | slnil _ => exact ⟨none, 0, 0, rfl, rfl, Nat.le_refl _⟩
            | sl sz val h1 h2 h3 h4 h5 h6 h7 h8 => exact ⟨_, _, _, rfl, h1, h2⟩
          obtain ⟨m', kb, kh, kl, km⟩ := run_bounds (P := P) hlen hcap hl hh hm em eh el hc.1
          refine ⟨.slice (if m' = lv then base else base.map (·.add (lv * szT P elem))) (hv - lv) (m' - lv), ?_, ?_⟩
          · simp only [Instr.sliceAt, Sem.run_bind, run_underlying hu, Result.andThen_ok, Instr.slice]
            rw [kb]
            simp only [Result.andThen_ok, run_sizeOf' hie]
            rfl
          · cases base with
            | none =>
              have hnil : es = [] ∧ len = 0 ∧ cap = 0 := by
                cases hx with
                | slnil _ => exact ⟨rfl, rfl, rfl⟩
              obtain ⟨rfl, rfl, rfl⟩ := hnil
              simp at kh
              subst kh
              obtain rfl : lv = 0 := by omega
              have hm0 : m' = 0 := by
                cases m with
                | none => simpa using km
                | some _ => simpa using km
              subst hm0
              cases hx with
              | slnil hn =>
                refine .slnil ?_
                unfold sliceCap
                cases m.isSome with
                | true => exact trivial
                | false => exact hn
            | some a =>
              have ha : ∃ B o, a = ⟨B, o, none⟩ := by
                cases hx with
                | sl sz val h1 h2 h3 h4 h5 h6 h7 h8 => exact ⟨_, _, rfl⟩
              obtain ⟨B, o, rfl⟩ := ha
              refine rep_sub hne hok hx kh kl m.isSome m' km _ ?_
              rw [Option.map_some, add_mk]
    · cases H
  · rename_i rh rb off len sz
    split at H
    · rename_i elem hu
      cases hz : Nat.beq sz 0 || !Nat.beq (szT P elem) sz with
      | true => rw [hz] at H; simp at H
      | false =>
        rw [hz] at H
        simp only [cond_false] at H
        rw [Bool.or_eq_false_iff] at hz
        have hne : sz ≠ 0 := Nat.ne_of_beq_eq_false hz.1
        have hsz : szT P elem = sz := Nat.eq_of_beq_eq_true (by simpa using hz.2)
        obtain ⟨ie, hie⟩ := info_of_sz (P := P) (t := elem) (by rw [hsz]; exact hne)
        obtain ⟨mv, em, H⟩ := Option.bind_eq_some_iff.1 H
        obtain ⟨hv, eh, H⟩ := Option.bind_eq_some_iff.1 H
        obtain ⟨lv, el, H⟩ := Option.bind_eq_some_iff.1 H
        cases hx with
        | @rs _ _ _ _ _ cap _ B arr elem' fr h1 h2 h3 h4 =>
          have fin : ∀ m', (Instr.sliceBounds true len cap lo hi mx).run P w = .ok (lv, hv, m') w → Rep w C (.slice (if m' = lv then some ⟨B, off, none⟩ else some ⟨B, off + lv * sz, none⟩) (hv - lv) (m' - lv)) r →
              Tells P w C (Instr.sliceAt t (.slice (some ⟨B, off, none⟩) len cap) lo hi mx) r := by
            intro m' kb kr
            refine ⟨_, ?_, kr⟩
            simp only [Instr.sliceAt, Sem.run_bind, run_underlying hu, Result.andThen_ok, Instr.slice]
            rw [kb]
            simp only [Result.andThen_ok, run_sizeOf' hie, hsz]
            by_cases q : m' = lv <;> simp [q, add_mk]
          split at H
          · obtain ⟨m', kb, kh, kl, km⟩ := run_bounds (P := P) (n := len) (m := none) rfl h2 hl hh hm em eh el rfl
            simp only [Option.isSome_none, Bool.false_eq_true, if_false] at km
            subst km
            refine fin m' kb ?_
            cases hq : Nat.beq lv 0 || Nat.blt lv len with
            | true =>
              rw [hq] at H
              obtain rfl := Option.some.inj H
              rw [Bool.or_eq_true] at hq
              have hcase : (m' = lv ∧ lv = 0) ∨ m' ≠ lv := by
                rcases hq with q | q
                · have := Nat.eq_of_beq_eq_true q
                  by_cases z : m' = lv
                  · exact Or.inl ⟨z, this⟩
                  · exact Or.inr z
                · rw [Nat.blt_eq] at q
                  exact Or.inr (by omega)
              have hbase : (if m' = lv then some (⟨B, off, none⟩ : Addr) else some ⟨B, off + lv * sz, none⟩) = some ⟨B, off + lv * sz, none⟩ := by
                rcases hcase with ⟨z, z0⟩ | z
                · rw [if_pos z, z0]; simp
                · rw [if_neg z]
              rw [hbase]
              refine .rs h1 (by omega) h3 ?_
              have hle : lv ≤ m' := by omega
              have : lv * sz + (m' - lv) * sz = m' * sz := by rw [← Nat.add_mul]; congr 1; omega
              omega
            | false =>
              rw [hq] at H
              obtain rfl := Option.some.inj H
              rw [Bool.or_eq_false_iff] at hq
              have hlt : ¬ lv < len := fun z => by rw [← Nat.blt_eq] at z; rw [z] at hq; cases hq.2
              obtain rfl : hv = lv := by omega
              rw [Nat.sub_self]
              split
              · exact .sl 0 (fun _ _ => .nilFunc) rfl (Nat.zero_le _) (by simp) (by simp) (by simp) (by simp) (by simp) trivial
              · exact .sl 0 (fun _ _ => .nilFunc) rfl (Nat.zero_le _) (by simp) (by simp) (by simp) (by simp) (by simp) trivial
          · cases hq : h.isSome && Nat.beq mv hv && Nat.beq hv lv with
            | false => rw [hq] at H; simp at H
            | true =>
              rw [hq] at H
              obtain rfl := Option.some.inj H
              rw [Bool.and_eq_true, Bool.and_eq_true] at hq
              have hnone : h.isNone = false := by
                have := hq.1.1
                cases h with
                | none => cases this
                | some _ => rfl
              obtain ⟨m', kb, kh, kl, km⟩ := run_bounds (P := P) (n := len) (m := some _) rfl h2 hl hh hm em eh el (by rw [hnone, hq.1.2]; rfl)
              simp only [Option.isSome_some, if_true] at km
              have hlh := Nat.eq_of_beq_eq_true hq.2
              subst km
              refine fin m' kb ?_
              rw [← hlh, Nat.sub_self, if_pos rfl]
              exact .sl 0 (fun _ _ => .nilFunc) rfl (Nat.zero_le _) (by simp) (by simp) (by simp) (by simp) (by simp) rfl
    · cases H
  · cases H

end
end Go.AM
