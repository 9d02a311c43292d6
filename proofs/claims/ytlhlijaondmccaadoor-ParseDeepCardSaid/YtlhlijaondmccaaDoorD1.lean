/- Part 1 of the proof of a law of the parser, its names made short by a program. No condition. -/
import Derived.Orders
import Derived.OrdersHeld
import Derived.Laws.Sem
import Derived.Below
import Derived.Laws.IdiomCopy
import Derived.Laws.Cells
import Derived.Laws.Entries
import Derived.Laws.StructEq
import Derived.Laws.BytesString
import Derived.Laws.Tables
import Derived.Laws.Append
import Derived.Laws.MakeOwn
import Derived.Laws.RangeString
import Derived.Lib.ConvBytes
import Derived.Lib.OthersKept
set_option linter.all false
set_option maxRecDepth 100000
set_option maxHeartbeats 4000000
open _root_.Array renaming getD_eq_getD_getElem? → aH, getElem?_eq_getElem → aU, getElem?_setIfInBounds_ne → dR, getElem?_toList → ga
open _root_.Bool renaming and_eq_true → an, false_eq_true → ab, not_true → bz, true_and → bA
open _root_.List renaming all_cons → bB, all_eq_true → dD, getElem?_append → fb, getElem?_cons_succ → ay, getElem?_cons_zero → aC, getElem?_drop → gD, getElem?_eq_getElem → dC, getElem?_take → fc, length_append → bh, length_cons → ak, mem_of_getElem? → dS, range → gg
open _root_.Nat renaming add_zero → bx, beq → ai, ble → di, blt → fC, eq_of_beq_eq_true → ao, le_of_ble_eq_true → dP, le_refl → aq, mul_le_mul_right → eP, zero_add → aZ, zero_le → dh
open _root_.Option renaming bind_some → ag, map_some → aO
open _root_.Or renaming inl → cH, inr → cD
namespace Go.AM
open Go
inductive Ann where
 | nil
 | seq (u v : Ann)
 | cnd (live : List Nat) (u v : Ann)
 | lop (live : List Nat) (tr : Bool) (u : Ann)
 | blk (u : Ann)
def Ann.x : Ann → Ann
 | .seq u _ | .cnd _ u _ | .lop _ _ u | .blk u => u
 | .nil => .nil
def Ann.y : Ann → Ann
 | .seq _ v | .cnd _ _ v => v
 | _ => .nil
def Ann.live : Ann → List Nat
 | .cnd w _ _ | .lop w _ _ => w
 | _ => []
def Ann.tr : Ann → Bool
 | .lop _ t _ => t
 | _ => false
inductive Ow where
 | fr
 | bl (h : Bool) (b : Nat)
def eqB : Bool → Bool → Bool
 | true, true | false, false => true
 | _, _ => false
def Ow.is (o : Ow) (h : Bool) (b : Nat) : Bool := match o with
 | .fr => false
 | .bl h' b' => eqB h' h && ai b' b
inductive Cap where
 | nil | full | dead
 | own (o : Ow) (t e : Nat)
inductive PV where
 | u
 | v (x : Value)
 | agg (cs : List PV)
 | tup (cs : List PV)
 | ptr (h : Bool) (b off : Nat)
 | fp (cs : List PV) (off : Nat)
 | sl (es : List (List PV)) (c : Cap)
 | rs (h : Bool) (b off len sz : Nat)
 | clo (f : Fn) (caps : List PV)
 | ni
 | it (i : Nat)
 | ifc (t : TypeId) (x : Value)
 | pan (t : TypeId) (x : Value)
instance : Inhabited PV := ⟨.u⟩
inductive Ex where
 | normal | exit (id : Nat) | ret
 | pan (t : TypeId) (x : Value)
structure Md where
 hp : List Nat
 mu : List Nat
def Md.of (m : Md) (dst : Option Nat) : Nat := match dst with
 | some d => bif m.hp.any (ai d) then 2 else bif m.mu.any (ai d) then 1 else 0
 | none => 0
structure Lp where
 live : List Nat
 vs : List PV
 n : Nat
 md : Md
 ps : List Nat
 assign : Code
 body : Code
 A : Ann
 at_ : Nat
 mM : Ex
inductive Aux where
 | loop (r : Lp)
 | iter (s : ByteArray) (pos : Nat)
structure Blk where
 cs : List PV
 tk : List (Nat × Nat)
structure St where
 stk : List Blk
 hp : List Blk
 tk : List (Nat × Nat)
 lp : List Aux
def St.bk (s : St) (h : Bool) (b : Nat) : Option Blk := match h with | true => s.hp[b]? | false => s.stk[b]?
def St.blk (s : St) (h : Bool) (b : Nat) : Option (List PV) := (s.bk h b).map Blk.cs
def St.tok (s : St) (o : Ow) (t : Nat) : Option (Nat × Nat) := match o with | .fr => s.tk[t]? | .bl h b => (s.bk h b).bind fun x => x.tk[t]?
def St.push (s : St) (cs : List PV) : St := { s with stk := s.stk ++ [⟨cs, []⟩] }
def St.w8 (s : St) (cs : List PV) : St := { s with hp := s.hp ++ [⟨cs, []⟩] }
def St.lay (s : St) (h : Bool) (cs : List PV) : St := match h with | true => s.w8 cs | false => s.push cs
def St.len (s : St) (h : Bool) : Nat := match h with | true => s.hp.length | false => s.stk.length
def St.upB (s : St) (h : Bool) (b : Nat) (f : Blk → Blk) : St := match h with | true => { s with hp := s.hp.modify b f } | false => { s with stk := s.stk.modify b f }
def St.af (s : St) (h : Bool) (b : Nat) (cs : List PV) : St := s.upB h b fun x => ⟨cs, x.tk⟩
def St.fL (s : St) (o : Ow) (t : Nat) (e : Nat × Nat) : St := match o with | .fr => { s with tk := s.tk.set t e } | .bl h b => s.upB h b fun x => ⟨x.cs, x.tk.set t e⟩
def St.mG (s : St) (e : Nat × Nat) : St := { s with tk := s.tk ++ [e] }
def St.iN (s : St) (h : Bool) (b : Nat) (e : Nat × Nat) : St := s.upB h b fun x => ⟨x.cs, x.tk ++ [e]⟩
def St.pL (s : St) (h : Bool) (b : Nat) : Nat := match s.bk h b with | some x => x.tk.length | none => 0
def St.j7 (s : St) (i : Nat) (r : Aux) : St := { s with lp := s.lp.set i r }
def St.loop (s : St) (i : Nat) : Option Lp := match s.lp[i]? with | some (.loop r) => some r | _ => none
def St.back (s : St) (m t l : Nat) : St := ⟨s.stk.take m, s.hp, s.tk.take t, s.lp.take l⟩
abbrev Env := Nat → PV
def upd (e : Env) (i : Nat) (p : PV) : Env := fun j => bif ai j i then p else e j
def put (n : Nat) (e : Env) (dst : Option Nat) (p : PV) : Env := match dst with | some d => bif fC d n then upd e d p else e | none => e
def ae (vs : List PV) (i : Nat) : PV := vs.getD i .u
def qK (vs : List PV) : List Nat → Nat → Env
 | i :: is, j => upd (qK vs is (j + 1)) i (ae vs j)
 | [], _ => fun _ => .u
def fO (is : List Nat) (vs : List PV) : Env := qK vs is 0
def iW : Nat → List PV → Env
 | i, p :: ps => upd (iW (i + 1) ps) i p
 | _, [] => fun _ => .u
def iL : Value → Bool
 | .bool _ | .int _ _ | .float _ _ | .complex _ _ _ | .string _ | .pointer none | .nilFunc | .nilIface | .map none | .chan none => true
 | _ => false
def qN (x : Value) : PV := match x with
 | .slice none l c => match l, c with | 0, 0 => .sl [] .nil | _, _ => .u
 | .func f a b => match f, a, b with | .func g, ⟨[]⟩, ⟨[]⟩ => .clo (.func g) [] | _, _, _ => .u
 | x => bif iL x then .v x else .u
def ofConst (x : Value) : PV := match x with
 | .agg cs => bif cs.toList.all Value.oneCell' then .agg (cs.toList.map qN) else .u
 | x => qN x
def dI (gl : Nat → PV) (e : Env) : Operand → PV
 | .tmp t => e t
 | .const v => ofConst v
 | .global g => gl g
 | .func f => .clo (.func f) []
def mY (P : Program) (t : TypeId) : Bool := match P.underlying t with | some (.struct _) | some (.array _ _) => true | _ => false
def szT (P : Program) (t : TypeId) : Nat := match P.info? t with | some i => i.size | none => 0
def byT (P : Program) (t : TypeId) : Nat := match P.info? t with
 | some i => match i.zero with
  | some v => bif ai v.cells.size i.size then i.bytes else 0
  | none => 0
 | none => 0
def kN (P : Program) (t : TypeId) : Option (List PV) := match P.info? t with
 | some i => match i.zero with
  | some v => bif v.cells.toList.all Value.oneCell' then some (v.cells.toList.map qN) else none
  | none => none
 | none => none
def eR {α : Type} (P : Program) : Sem α → Option α
 | .pure a => some a
 | .program k => eR P (k P)
 | _ => none
def eZ : Option Value → Option PV
 | some x => bif iL x then some (.v x) else none
 | none => none
def cellsOf : PV → Option (List PV)
 | .agg cs => some cs
 | .tup _ | .u | .pan _ _ => none
 | p => some [p]
def bL : PV → PV
 | .sl es _ => .sl es .dead
 | p => p
def cL : PV → PV
 | .agg cs => .agg (cs.map bL)
 | p => bL p
def ah : PV → PV
 | .tup cs => .tup (cs.map cL)
 | p => cL p
def Cap.sf (own : Bool) (base : Nat) : Cap → Bool
 | .own o _ _ => own && (match o with | .bl false b => fC b base | _ => true)
 | _ => true
def eM : Fn → Bool
 | .func _ => true
 | _ => false
def sf (own : Bool) (base : Nat) : Nat → PV → Bool
 | 0, _ => false
 | n + 1, p => match p with
  | .ptr false b _ => fC b base
  | .rs false b _ _ _ => fC b base
  | .clo f caps => (own || eM f) && caps.all (sf own base n)
  | .agg cs => cs.all (sf own base n)
  | .tup cs => cs.all (sf own base n)
  | .sl _ c => c.sf own base
  | .it _ => own
  | .pan _ _ => false
  | _ => true
def eN : PV → Option PV
 | .sl es _ => some (.sl es .dead)
 | .v x => some (.v x)
 | .ptr true b off => some (.ptr true b off)
 | .rs true b off len sz => some (.rs true b off len sz)
 | .fp cs off => some (.fp cs off)
 | .ni => some .ni
 | .ifc t x => some (.ifc t x)
 | .clo f caps => bif eM f && caps.all (AM.sf false 0 3) then some (.clo f caps) else none
 | _ => none
def cC : List PV → Option (List PV)
 | [] => some []
 | p :: ps => (eN p).bind fun q => (cC ps).bind fun qs => some (q :: qs)
def isEq : BinOp → Bool
 | .eql | .neq => true
 | _ => false
def jb (op : BinOp) (b : Bool) : Option PV := match op with
 | .eql => some (.v (.bool b))
 | .neq => some (.v (.bool (!b)))
 | _ => none
def part (agg : Bool) (size off : Nat) (cs : List PV) : Option PV :=
 match agg with
 | true => bif di (off + size) cs.length then some (.agg ((cs.drop off).take size)) else none
 | false => cs[off]?
def Bx (P : Program) (eq : TypeId → PV → PV → Option Bool) (xs ys : List PV) : List Field → Option Bool
 | [] => some true
 | f :: fs => bif f.name == "_" then none else
  (part (mY P f.type) (szT P f.type) f.offset xs).bind fun a => (part (mY P f.type) (szT P f.type) f.offset ys).bind fun b =>
   (eq f.type a b).bind fun c => (Bx P eq xs ys fs).bind fun d => some (c && d)
def aEq (P : Program) : Nat → TypeId → PV → PV → Option Bool
 | 0, _, _, _ => none
 | n + 1, t, x, y => match P.underlying t with
  | some .bool => match x, y with | .v (.bool a), .v (.bool b) => some (a == b) | _, _ => none
  | some (.int _) => match x, y with | .v (.int k a), .v (.int k' b) => bif decide (k = k') then some (a == b) else none | _, _ => none
  | some .string => match x, y with | .v (.string a), .v (.string b) => some (a == b) | _, _ => none
  | some (.struct fs) => bif P.stoodInHeld t then none else match x, y with | .agg xs, .agg ys => Bx P (aEq P n) xs ys fs.toList | _, _ => none
  | _ => none
def zL (P : Program) (a b : TypeId) (x y : Value) : Option Bool := bif ai a b then
 (match P.info? a with
  | some i => bif i.comparable then (match P.underlying a, x, y with | some (.int _), .int k m, .int l n => bif decide (k = l) then some (m == n) else none | _, _, _ => none) else none
  | none => none)
 else some false
def isConst : Operand → Bool
 | .const _ => true
 | _ => false
def aT (P : Program) (cst : Bool) (op : BinOp) (t : TypeId) (x y : PV) : Option PV :=
 match x, y with
 | .v .nilIface, .v .nilIface => match P.underlying t with | some (.interface _) => bif cst then jb op true else none | _ => none
 | .ni, .v .nilIface => match P.underlying t with | some (.interface _) => jb op false | _ => none
 | .ifc _ _, .v .nilIface => match P.underlying t with | some (.interface _) => jb op false | _ => none
 | .v .nilIface, .ifc _ _ => match P.underlying t with | some (.interface _) => jb op false | _ => none
 | .ifc a x, .ifc b y => match P.underlying t with | some (.interface _) => (zL P a b x y).bind fun c => jb op c | _ => none
 | .v .nilIface, .ni => match P.underlying t with | some (.interface _) => jb op false | _ => none
 | .v (.bool a), .v (.bool b) => match P.underlying t with | some .bool => jb op (a == b) | _ => none
 | .v a, .v b => eZ (eR P (binOp op t a b))
 | .ptr _ _ _, .v (.pointer none) => match P.underlying t with | some (.pointer _) => jb op false | _ => none
 | .v (.pointer none), .ptr _ _ _ => match P.underlying t with | some (.pointer _) => jb op false | _ => none
 | .sl (_ :: _) _, .sl [] .nil => match P.underlying t with | some (.slice _) => jb op false | _ => none
 | .sl [] .nil, .sl [] .nil => match P.underlying t with | some (.slice _) => jb op true | _ => none
 | .rs _ _ _ _ _, .sl [] .nil => match P.underlying t with | some (.slice _) => jb op false | _ => none
 | .agg xs, .agg ys => bif P.eqGuardType P.depth t then none else (aEq P 6 t (.agg xs) (.agg ys)).bind fun b => jb op b
 | _, _ => none
def aUn (P : Program) (op : UnOp) (x : PV) : Option PV := match x with
 | .v a => eZ (eR P (Op.unary op a))
 | _ => none
def iC (s : ByteArray) : List (List PV) := s.data.toList.map fun b => [.v (.int .u8 b.toNat)]
def byteOfCell : List PV → Option UInt8
 | [.v (.int .u8 n)] => some (UInt8.ofNat n.toNat)
 | _ => none
def bytesOf : List (List PV) → Option (List UInt8)
 | [] => some []
 | c :: cs => (byteOfCell c).bind fun b => (bytesOf cs).bind fun bs => some (b :: bs)
def gU (P : Program) (src dst : TypeId) (x : PV) : Option PV := match x with
 | .v (.string s) => match P.underlying src, P.underlying dst with
  | some .string, some (.slice e) => match P.underlying e with
   | some (.int .u8) => some (.sl (iC s) .dead)
   | _ => none
  | _, _ => eZ (eR P (convert src dst (.string s)))
 | .v a => eZ (eR P (convert src dst a))
 | .sl es _ => match P.underlying src, P.underlying dst with
  | some (.slice e), some .string => match P.underlying e with
   | some (.int .u8) => (bytesOf es).bind fun bs => some (.v (.string ⟨bs.toArray⟩))
   | _ => none
  | _, _ => none
 | _ => none
def ij (P : Program) (t : TypeId) (x : PV) : Option PV := match P.underlying t with
 | some (.interface _) => none
 | some _ => match x with
  | .v a => some (.ifc t a)
  | .agg [] => some (.ifc t (.agg #[]))
  | .u | .pan _ _ | .tup _ => none
  | _ => some .ni
 | none => none
def bP (c a b : PV) : Option PV := match c with
 | .v (.bool t) => some (bif t then a else b)
 | _ => none
def pU (P : Program) (s : TypeId) (f : Nat) : Option Field := match P.underlying s with
 | some (.struct fields) => fields[f]?
 | _ => none
def av (p : PV) (n : Nat) : Option PV := match p with
 | .ptr h b off => some (.ptr h b (off + n))
 | .fp cs off => some (.fp cs (off + n))
 | _ => none
def mV (P : Program) (s : TypeId) (x : PV) (f : Nat) : Option PV := match pU P s f with
 | some g => bif ai (szT P g.type) 0 then none else av x g.offset
 | none => none
def fS (P : Program) (s : TypeId) (x : PV) (f : Nat) : Option PV := match pU P s f, x with
 | some g, .agg cs => match P.underlying g.type with
  | some _ => part (mY P g.type) (szT P g.type) g.offset cs
  | none => none
 | _, _ => none
def aV (x : PV) (i : Nat) : Option PV := match x with
 | .tup vs => vs[i]?
 | _ => none
def eT (i : Int) (n : Nat) : Bool := decide (0 ≤ i) && decide (i < (n : Int))
def cJ (P : Program) (t : TypeId) (x i : PV) : Option PV := match i with
 | .v (.int _ n) => match P.underlying t, x with
  | some (.slice elem), .sl es _ => bif eT n es.length then (es[n.toNat]?).bind fun e => bif ai e.length (szT P elem) && !ai (szT P elem) 0 then some (.fp e 0) else none else none
  | some (.slice elem), .rs h b off len sz => bif eT n len && ai (szT P elem) sz && !ai sz 0 then some (.ptr h b (off + n.toNat * sz)) else none
  | some (.array len elem), p => bif eT n len && !ai (szT P elem) 0 then av p (n.toNat * szT P elem) else none
  | _, _ => none
 | _ => none
def du (P : Program) (t : TypeId) (x i : PV) : Option PV := match x, i with
 | .v s, .v n => eZ (eR P (Instr.index t s n))
 | .agg cs, .v (.int _ n) => match P.underlying t with
  | some (.array len elem) => bif eT n len && ai cs.length (len * szT P elem) then (match P.underlying elem with | some _ => part (mY P elem) (szT P elem) (n.toNat * szT P elem) cs | none => none) else none
  | _ => none
 | _, _ => none
def bnd (x : Option PV) (d n : Nat) : Option Nat := match x with
 | none => some d
 | some (.v (.int _ i)) => bif decide (0 ≤ i) && decide (i ≤ (n : Int)) then some i.toNat else none
 | some _ => none
def yf : Option PV → Option (Option Value)
 | none => some none
 | some (.v a) => some (some a)
 | some _ => none
def cK (size : Nat) (es : List (List PV)) : Bool := es.all fun e => ai e.length size
def kK (c : Cap) (hi len : Nat) (full : Bool) : Cap :=
 bif full then .full else bif ai hi len then c else .dead
def gz (P : Program) (t : TypeId) (x : PV) (lo hi mx : Option PV) : Option PV := match x with
 | .v (.string s) => match yf lo, yf hi, mx with
  | some l, some h, none => match P.underlying t with
   | some .string => eZ (eR P (Instr.slice t (.string s) l h none))
   | _ => none
  | _, _, _ => none
 | .sl es c => match P.underlying t with
  | some (.slice e) => bif ai (szT P e) 0 then none else
   (bnd mx es.length es.length).bind fun m => (bnd hi es.length m).bind fun h => (bnd lo 0 h).bind fun l =>
    bif (mx.isSome && (hi.isNone || !ai m h)) || !cK (szT P e) es then none else
    some (.sl ((es.take h).drop l) (kK c h es.length mx.isSome))
  | _ => none
 | .rs rh rb off len sz => match P.underlying t with
  | some (.slice e) => bif ai sz 0 || !ai (szT P e) sz then none else
   (bnd mx len len).bind fun m => (bnd hi len m).bind fun h => (bnd lo 0 h).bind fun l =>
    match mx with
    | none => bif ai l 0 || fC l len then some (.rs rh rb (off + l * sz) (h - l) sz) else some (.sl [] .dead)
    | some _ => bif hi.isSome && ai m h && ai h l then some (.sl [] .full) else none
  | _ => none
 | _ => none
def jP (P : Program) (t : TypeId) (x : PV) : Option PV := match x with
 | .sl es _ => match P.underlying t with
  | some (.slice _) => some (.v (.int .i64 es.length))
  | _ => none
 | .rs _ _ _ len _ => match P.underlying t with
  | some (.slice _) => some (.v (.int .i64 len))
  | _ => none
 | .v (.string s) => match P.underlying t with
  | some .string => some (.v (.int .i64 s.size))
  | _ => none
 | _ => none
def wI (P : Program) (x y : PV) : Option PV := match x, y with
 | .v a, .v b => eZ (eR P (Builtin.max2 a b))
 | _, _ => none
def wJ (P : Program) (x y : PV) : Option PV := match x, y with
 | .v a, .v b => eZ (eR P (Builtin.min2 a b))
 | _, _ => none
def laid (cells : List PV) (off : Nat) : List PV → List PV
 | [] => cells
 | c :: cs => laid (cells.set off c) (off + 1) cs
def cm (place : Nat → Option (Nat × Nat)) (cells : List PV) : List (Nat × PV) → Option (List PV)
 | [] => some cells
 | (i, v) :: rest => match place i, cellsOf v with
  | some (off, size), some cs => bif ai cs.length size && di (off + size) cells.length then cm place (laid cells off cs) rest else none
  | _, _ => none
def placesOf (P : Program) (fields : Array Field) : Option (List (Nat × Nat)) := fields.toList.mapM (fun f => (P.info? f.type).map fun i => (f.offset, i.size))
def jo (P : Program) (t : TypeId) (parts : List (Nat × PV)) : Option PV :=
 (kN P t).bind fun z => match P.underlying t with
  | some (.struct fields) => (placesOf P fields).bind fun pl => (cm (fun i => pl.toArray[i]?) z parts).bind fun cs => some (.agg cs)
  | some (.array _ e) => match P.info? e with
   | some ie => (cm (fun i => some (i * ie.size, ie.size)) z parts).bind fun cs => some (.agg cs)
   | none => none
  | _ => none
def chunks (size : Nat) : Nat → List PV → List (List PV)
 | 0, _ => []
 | n + 1, cs => cs.take size :: chunks size n (cs.drop size)
def fV (n : Nat) (z : List PV) : List PV := match n with
 | 0 => []
 | n + 1 => z ++ fV n z
def n8 (P : Program) (t : TypeId) (len : Nat) (parts : List (Nat × PV)) : Option (List PV × Nat) := match P.underlying t with
 | some (.slice e) => (kN P e).bind fun z =>
  bif ai z.length (szT P e) && di (len * szT P e) 16777216 && !ai (szT P e) 0 then
   (cm (fun i => some (i * szT P e, szT P e)) (fV len z) parts).bind fun cs => (cC cs).bind fun ds => some (ds, szT P e)
  else none
 | _ => none
def lI (P : Program) (t : TypeId) (len : Nat) (parts : List (Nat × PV)) : Option PV := (n8 P t len parts).bind fun r => some (.sl (chunks r.2 len r.1) .full)
def oE (P : Program) (h : Bool) (t : TypeId) (len : Nat) (parts : List (Nat × PV)) (st : St) : Option (PV × St) :=
 (n8 P t len parts).bind fun r => some (.rs h (st.len h) 0 len r.2, st.lay h r.1)
def lJ (P : Program) (t : TypeId) (x : PV) (st : St) : Option (PV × St) := match P.underlying t, x with
 | some .string, .v (.string s) => some (.it st.lp.length, { st with lp := st.lp ++ [.iter s 0] })
 | _, _ => none
def qe (x : PV) (st : St) : Option (PV × St) := match x with
 | .it i => match st.lp[i]? with
  | some (.iter s pos) => bif fC pos s.size then some (.tup [.v (.bool true), .v (.int .i64 pos), .v (.int .i32 (Utf8.decode s pos).1)], st.j7 i (.iter s (pos + (Utf8.decode s pos).2)))
   else some (.tup [.v (.bool false)], st)
  | _ => none
 | _ => none
def ky (f : Fn) (first : Bool) (caps : List PV) : Option PV := bif first && eM f then some (.clo f (caps.map ah)) else none
def aE (x : PV) : Option PV := match x with
 | .ptr h b off => some (.ptr h b off)
 | .fp cs off => some (.fp cs off)
 | .clo (.func f) caps => some (.clo (.func f) caps)
 | .clo (.yield i) caps => some (.clo (.yield i) caps)
 | _ => none
def al (agg : Bool) (size : Nat) (x : PV) (st : St) : Option PV := match x with
 | .ptr h b off => (st.blk h b).bind (part agg size off)
 | .fp cs off => part agg size off cs
 | _ => none
def aG : List PV → Bool
 | [] => true
 | .agg _ :: _ | .tup _ :: _ | .u :: _ | .pan _ _ :: _ => false
 | _ :: cs => aG cs
def qL (h : Bool) (b : Nat) (p : PV) (st : St) : Option (PV × St) := match p with
 | .sl es (.own o t e) => bif o.is h b then some (p, st) else
  match st.tok o t with
  | some y => bif ai y.1 e then some (.sl es (.own (.bl h b) (st.pL h b) e), (st.fL o t (e + 1, y.2)).iN h b (e, y.2)) else some (.sl es .dead, st)
  | none => some (.sl es .dead, st)
 | .sl es c => some (.sl es c, st)
 | .v x => some (.v x, st)
 | .fp cs off => some (.fp cs off, st)
 | .ni => some (.ni, st)
 | .ifc t x => some (.ifc t x, st)
 | .ptr true b off => some (.ptr true b off, st)
 | .rs true b off len sz => some (.rs true b off len sz, st)
 | .clo f caps => bif eM f && caps.all (sf false 0 3) then some (.clo f caps, st) else none
 | _ => none
def lZ (h : Bool) (b : Nat) : List PV → St → Option (List PV × St)
 | [], st => some ([], st)
 | p :: ps, st => (qL h b p st).bind fun r => (lZ h b ps r.2).bind fun q => some (r.1 :: q.1, q.2)
def putCells (base : Nat) (h : Bool) (b off : Nat) (cs : List PV) (st : St) : Option St :=
 (st.blk h b).bind fun old => bif di (off + cs.length) old.length && aG cs then
  bif h || fC b base then (lZ h b cs st).bind fun r => some (r.2.af h b (laid old off r.1)) else some (st.af h b (laid old off cs))
 else none
def au (base size : Nat) (x v : PV) (st : St) : Option St := match x with
 | .ptr h b off => (cellsOf v).bind fun cs => bif ai cs.length size && !ai size 0 then putCells base h b off cs st else none
 | _ => none
def Dc (h : Bool) (cs : List PV) (st : St) : Option (PV × St) := match h with
 | false => some (.ptr false st.stk.length 0, st.push cs)
 | true => bif aG cs then (lZ true st.hp.length cs (st.w8 (cs.map fun _ => .u))).bind fun r => some (.ptr true st.hp.length 0, r.2.af true st.hp.length r.1) else none
def dE : Nat := 140737488355328
def pW (st : St) (h : Bool) (b off n : Nat) : Option (List PV) := (st.blk h b).bind fun cs => bif di (off + n) cs.length then some ((cs.drop off).take n) else none
def cw (st : St) (x : PV) : Option (List (List PV)) := match x with
 | .sl es _ => some es
 | .v (.string s) => some (iC s)
 | .rs h b off len sz => (pW st h b off (len * sz)).bind fun cs => (cC cs).bind fun ds => some (chunks sz len ds)
 | _ => none
def flat (es : List (List PV)) : List PV := es.flatten
def mw (size bytes : Nat) (s : PV) (ys : List (List PV)) (st : St) : Option (PV × St) := match s with
 | .sl es c => bif di ((es.length + ys.length) * bytes) dE && cK size es && cK size ys && !ai size 0 && !ai bytes 0 then
  match c with
  | .dead => none
  | .own o t e => match st.tok o t with
   | some e' => bif ai e'.1 e && ai e'.2 size then some (.sl (es ++ ys) (.own o t (e + ys.length)), st.fL o t (e + ys.length, size)) else none
   | none => none
  | .nil | .full => some (.sl (es ++ ys) (.own .fr st.tk.length (es.length + ys.length)), st.mG (es.length + ys.length, size))
  else none
 | _ => none
def qd (h : Bool) (size bytes : Nat) (s : PV) (ys : List (List PV)) (st : St) : Option (PV × St) := match s with
 | .sl es c => bif di ((es.length + ys.length) * bytes) dE && cK size es && cK size ys && !ai size 0 && !ai bytes 0 then
  match c with
  | .nil | .full => match ys with
   | [] => some (.sl es c, st)
   | _ :: _ => some (.rs h (st.len h) 0 (es.length + ys.length) size, st.lay h (flat (es ++ ys)))
  | _ => none
  else none
 | _ => none
def nE (base size bytes : Nat) (s : PV) (ys : List (List PV)) (st : St) : Option (PV × St) := match s with
 | .rs h b off len sz => bif ai sz size && di ((len + ys.length) * bytes) dE && cK size ys && !ai size 0 && !ai bytes 0 then
  (st.blk h b).bind fun old =>
   bif di (off + (len + ys.length) * size) old.length then (putCells base h b (off + len * size) (flat ys) st).bind fun st' => some (.rs h b off (len + ys.length) size, st')
   else bif ai off 0 && di (len * size) old.length && fC 0 old.length then some (.rs h (st.len h) 0 (len + ys.length) size, (st.af h b []).lay h (old.take (len * size) ++ flat ys))
   else none
  else none
 | _ => none
def zb (base size : Nat) (d : PV) (ys : List (List PV)) (st : St) : Option (PV × St) := match d with
 | .rs h b off len sz => bif ai sz size && cK size ys && !ai size 0 then
  (putCells base h b off (flat (ys.take len)) st).bind fun st' => some (.v (.int .i64 (min ys.length len)), st')
  else none
 | _ => none
def mW (P : Program) (h : Bool) (t : TypeId) (l c : PV) (st : St) : Option (PV × St) := match P.underlying t, l, c with
 | some (.slice e), .v (.int _ n), .v (.int _ m) => (kN P e).bind fun z =>
  bif decide (0 ≤ n) && decide (n = m) && di (n.toNat * byT P e) dE && di (n.toNat) dE && ai z.length (szT P e) && !ai (szT P e) 0 then
   some (.rs h (st.len h) 0 n.toNat (szT P e), st.lay h (fV n.toNat z))
  else none
 | _, _, _ => none
def Dd (P : Program) (t : TypeId) (x : PV) : Option PV := match P.underlying t, x with
 | some (.slice _), .sl es .nil => some (.v (.int .i64 es.length))
 | some (.slice _), .sl es .full => some (.v (.int .i64 es.length))
 | _, _ => none
def vi (P : Program) (base : Nat) (t : TypeId) (x : PV) (st : St) : Option St := match P.underlying t, x with
 | some (.slice e), .rs h b off len sz => (kN P e).bind fun z => bif ai z.length sz && ai (szT P e) sz && !ai sz 0 then putCells base h b off (fV len z) st else none
 | _, _ => none
abbrev bG := Fn → List PV → St → Option (PV × St)
abbrev bO := (List PV → St → Option (Ex × List PV × St)) → List PV → St → Option (Ex × List PV × St)
structure Cfg where
 P : Program
 call : bG
 n : Nat
 base : Nat
 it : bO
 imp : List FuncId
 md : Md
 rd : Option Nat
 lb : Nat
 gl : Nat → PV
 pn : List FuncId
def aD {R : Type} (p : PV) (K : Bool → Option R) : Option R := match p with
 | .v (.bool t) => K t
 | _ => none
def onG (p : PV) (want : Bool) (A : Option (PV × St)) (st : St) : Option (PV × St) := match p with
 | .v (.bool b) => bif (b == want) then A else some (.tup [], st)
 | .tup [] => some (.tup [], st)
 | _ => none
def fJ {R : Type} (p : PV) (K : Fn → List PV → Option R) : Option R := match p with
 | .clo (.func g) caps => K (.func g) caps
 | .clo (.yield i) caps => K (.yield i) caps
 | _ => none
def cd {R : Type} (x : Ex) (A : Option R) (B : Ex → Option R) : Option R := match x with
 | .normal => A
 | .exit i => B (.exit i)
 | .ret => B .ret
 | .pan t v => B (.pan t v)
def ep {R : Type} (x : Ex) (A : Option R) : Option R := match x with
 | .exit _ => none
 | .pan _ _ => none
 | .normal => A
 | .ret => A
def ug (C : Cfg) (g : FuncId) : Bool := C.pn.any (ai g)
def aK {R : Type} (r : PV × St) (K : PV → St → Option R) (N : TypeId → Value → St → Option R) : Option R := match r.1 with
 | .pan t v => N t v r.2
 | p => K p r.2
def dN {R : Type} (r : PV × St) (K : PV → St → Option R) : Option R := match r.1 with
 | .pan _ _ => none
 | p => K p r.2
def sc {R : Type} (p : PV) (N : TypeId → Value → Option R) : Option R := match p with
 | .ifc t x => N t x
 | _ => none
inductive Rs where
 | ret (p : PV)
 | pan (t : TypeId) (x : Value)
def lE {R : Type} (r : Rs × St) (K : PV → St → Option R) (N : TypeId → Value → St → Option R) : Option R := match r.1 with
 | .ret p => K p r.2
 | .pan t x => N t x r.2
section
variable {R : Type} (C : Cfg)
def na (ρ : Operand → PV) (args : Array Operand) : List PV := args.toList.map fun x => ah (ρ x)
def hB (m : Nat) : Bool := ai m 2
def wK (P : Program) (base m : Nat) (e : TypeId) (s : PV) (ys : List (List PV)) (st : St) : Option (PV × St) := match s with
 | .rs h b off len sz => (kN P e).bind fun _ => nE base (szT P e) (byT P e) (.rs h b off len sz) ys st
 | s => bif ai m 0 then mw (szT P e) (byT P e) s ys st else (kN P e).bind fun _ => qd (hB m) (szT P e) (byT P e) s ys st
def mT (m : Nat) (b : Builtin) (ats : Array TypeId) (xs : List PV) (st : St) (K : PV → St → Option R) : Option R :=
 match b, ats.toList, xs with
 | .len, [t], [x] => (jP C.P t x).bind fun p => K p st
 | .cap, [t], [x] => (Dd C.P t x).bind fun p => K p st
 | .max, _, [x, y] => (wI C.P x y).bind fun p => K p st
 | .min, _, [x, y] => (wJ C.P x y).bind fun p => K p st
 | .append, [t, u], [s, x] => match C.P.underlying t, C.P.underlying u with
  | some (.slice _), some (.int _) => none
  | some (.slice e), some _ => (cw st x).bind fun ys => (wK C.P C.base m e s ys st).bind fun r => K r.1 r.2
  | _, _ => none
 | .copy, [t, _], [d, x] => match C.P.underlying t with
  | some (.slice e) => (cw st x).bind fun ys => (zb C.base (szT C.P e) d ys st).bind fun r => K r.1 r.2
  | _ => none
 | .clear, [t], [x] => (vi C.P C.base t x st).bind fun st' => K (.tup []) st'
 | _, _, _ => none
def hZ (o : Oper) (e : Env) (st : St) (K : PV → St → Option R) (N : TypeId → Value → St → Option R) : Option R :=
 match o.op with
 | .move x | .assign x => K (dI C.gl e x) st
 | .pick c a b => (bP (dI C.gl e c) (dI C.gl e a) (dI C.gl e b)).bind fun p => K p st
 | .alloc t => (kN C.P t).bind fun z => K (.ptr (hB (C.md.of o.dst)) (st.len (hB (C.md.of o.dst))) 0) (st.lay (hB (C.md.of o.dst)) z)
 | .box _ x => (cellsOf (dI C.gl e x)).bind fun cs => (Dc (hB (C.md.of o.dst)) cs st).bind fun r => K r.1 r.2
 | .build t ps => (jo C.P t (ps.toList.map fun p => (p.1, dI C.gl e p.2))).bind fun p => K p st
 | .buildSlice t n ps => bif ai (C.md.of o.dst) 0 then (lI C.P t n (ps.toList.map fun p => (p.1, dI C.gl e p.2))).bind fun p => K p st
  else (oE C.P (hB (C.md.of o.dst)) t n (ps.toList.map fun p => (p.1, dI C.gl e p.2)) st).bind fun r => K r.1 r.2
 | .load t a => match C.P.underlying t with
  | some _ => (al (mY C.P t) (szT C.P t) (dI C.gl e a) st).bind fun p => K p st
  | none => none
 | .store t a x => (au C.base (szT C.P t) (dI C.gl e a) (dI C.gl e x) st).bind fun st' => K .u st'
 | .nilCheck x => (aE (dI C.gl e x)).bind fun p => K p st
 | .binOp op t x y _ => (aT C.P (isConst x || isConst y) op t (dI C.gl e x) (dI C.gl e y)).bind fun p => K p st
 | .range t x => (lJ C.P t (dI C.gl e x) st).bind fun r => K r.1 r.2
 | .next x true => (qe (dI C.gl e x) st).bind fun r => K r.1 r.2
 | .unOp op _ x => (aUn C.P op (dI C.gl e x)).bind fun p => K p st
 | .convert src dst x => (gU C.P src dst (dI C.gl e x)).bind fun p => K p st
 | .makeFunc f fs cs => (ky f fs.isEmpty (cs.toList.map fun x => dI C.gl e x)).bind fun p => K p st
 | .makeSlice t l c => (mW C.P (hB (C.md.of o.dst)) t (dI C.gl e l) (dI C.gl e c) st).bind fun r => K r.1 r.2
 | .slice t x lo hi mx => (gz C.P t (dI C.gl e x) (lo.map (dI C.gl e)) (hi.map (dI C.gl e)) (mx.map (dI C.gl e))).bind fun p => K p st
 | .fieldAddr s x f => (mV C.P s (dI C.gl e x) f).bind fun p => K p st
 | .field t x f => (fS C.P t (dI C.gl e x) f).bind fun p => K p st
 | .indexAddr t x i => (cJ C.P t (dI C.gl e x) (dI C.gl e i)).bind fun p => K p st
 | .index t x i => (du C.P t (dI C.gl e x) (dI C.gl e i)).bind fun p => K p st
 | .extract x i => (aV (dI C.gl e x) i).bind fun p => K p st
 | .call c => match c.callee with
  | .builtin b => mT C (C.md.of o.dst) b c.argTypes (c.args.toList.map fun x => dI C.gl e x) st K
  | .value (.func g) => (C.call (.func g) (na (dI C.gl e) c.args ++ []) st).bind fun r => bif ug C g then aK r K N else K r.1 r.2
  | .value f => fJ (dI C.gl e f) fun g caps => (C.call g (na (dI C.gl e) c.args ++ caps) st).bind fun r => dN r K
  | .invoke _ _ => none
 | .panic x => sc (dI C.gl e x) fun t v => N t v st
 | .makeInterface t x => (ij C.P t (dI C.gl e x)).bind fun p => K p st
 | _ => none
def guarded (ops : Array Oper) (o : Oper) (e : Env) (st : St) (K : PV → St → Option R) (N : TypeId → Value → St → Option R) : Option R :=
 match o.guard with
 | none => hZ C o e st K N
 | some (j, want) => match (ops[j]?).bind (·.dst) with
  | some t => (onG (e t) want (hZ C o e st (fun p s => some (p, s)) fun _ _ _ => none) st).bind fun r => K r.1 r.2
  | none => none
def jB (ops : Array Oper) : List Oper → Env → St → (Env → St → Option R) → (TypeId → Value → St → Option R) → Option R
 | [], e, st, K, _ => K e st
 | o :: os, e, st, K, N => guarded C ops o e st (fun p st' => jB ops os (put C.n e o.dst p) st' K N) N
inductive Kind where
 | quiet   -- hangs on its operands alone
 | reads   -- hangs on the state, and leaves it
 | aF    -- may change the state
def Cj : Builtin → Kind
 | .append | .copy | .clear => .aF
 | _ => .quiet
def kindOf (imp : List FuncId) (md : Md) (o : Oper) : Kind := match o.op with
 | .alloc _ | .box _ _ | .store _ _ _ | .makeSlice _ _ _ | .range _ _ | .next _ _ => .aF
 | .buildSlice _ _ _ => bif ai (md.of o.dst) 0 then .quiet else .aF
 | .load _ _ => .reads
 | .call c => match c.callee with
  | .builtin b => Cj b
  | .value (.func f) => bif imp.any (ai f) then .aF else .reads
  | _ => .aF
 | .panic _ => .aF
 | _ => .quiet
def alone (ops : Array Oper) (o : Oper) (e : Env) (s : St) : Option (Rs × St) := guarded C ops o e s (fun p s' => some (.ret p, s')) fun t x s' => some (.pan t x, s')
open Classical in
noncomputable def bM (c : Prop) (x : Option R) : Option R := if c then x else none
noncomputable def hI : List Prop → Option R → Option R
 | [], x => x
 | c :: cs, x => bM c (hI cs x)
structure Seen where
 i : Nat
 o : Oper
 e : Env
 p : PV
def told (ops : Array Oper) (x : Seen) (s : St) : Prop := alone C ops x.o x.e s = some (.ret x.p, s)
noncomputable def jw (ops : Array Oper) (bs : Array Nat) (k : Nat) (st : St) (aF : List (Nat × St)) (fin : Option R) : List Oper → Nat → Env → Option R
 | [], _, _ => fin
 | o :: os, i, e => bif (bs.getD i 0).testBit k then jw ops bs k st aF fin os (i + 1) e else match kindOf C.imp C.md o with
  | .quiet => guarded C ops o e st (fun p _ => jw ops bs k st aF fin os (i + 1) (put C.n e o.dst p)) fun _ _ _ => none
  | .reads => guarded C ops o e st (fun p st' => bM (st' = st)
   (hI ((aF.filter fun a => !(bs.getD i 0).testBit a.1).map fun a => told C ops ⟨i, o, e, p⟩ a.2)
    (jw ops bs k st aF fin os (i + 1) (put C.n e o.dst p)))) fun _ _ _ => none
  | .aF => none
noncomputable def jx (ops : Array Oper) (bs : Array Nat) : List Oper → Nat → Env → St → List Seen → List (Nat × St) → (Env → St → Option R) → (TypeId → Value → St → Option R) → Option R
 | [], _, e, st, _, _, K, _ => K e st
 | o :: os, i, e, st, seen, aF, K, N => match kindOf C.imp C.md o with
  | .quiet => guarded C ops o e st (fun p _ => jx ops bs os (i + 1) (put C.n e o.dst p) st seen aF K N) fun _ _ _ => none
  | .reads => guarded C ops o e st (fun p st' => bM (st' = st)
   (hI ((aF.filter fun a => !(bs.getD i 0).testBit a.1).map fun a => told C ops ⟨i, o, e, p⟩ a.2)
    (jx ops bs os (i + 1) (put C.n e o.dst p) st (⟨i, o, e, p⟩ :: seen) aF K N))) fun _ _ _ => none
  | .aF => bif aF.all (fun a => (bs.getD i 0).testBit a.1) then
   guarded C ops o e st (fun p st' =>
    hI ((seen.filter fun x => !(bs.getD i 0).testBit x.i).map fun x => told C ops x st')
     (jx ops bs os (i + 1) (put C.n e o.dst p) st' seen ((i, st) :: aF) K N))
    fun t x st' => jw C ops bs i st aF (N t x st') os (i + 1) e
   else none
def El : Kind → Bool
 | .aF => true
 | _ => false
def qQ (imp : List FuncId) (md : Md) (bs : Array Nat) (k : Nat) : List Oper → Nat → Bool
 | [], _ => false
 | o :: os, j => (!ai j k && (El (kindOf imp md o) && !(bs.getD j 0).testBit k)) || qQ imp md bs k os (j + 1)
def qD (md : Md) (o : Oper) : Option TypeId := match o.op with
 | .alloc t => bif o.guard.isNone && !hB (md.of o.dst) then some t else none
 | _ => none
def oM (imp : List FuncId) (md : Md) (bs : Array Nat) (all : List Oper) : List Oper → Nat → Option (Nat × TypeId)
 | [], _ => none
 | o :: os, i => match qD md o with
  | some t => bif ai (bs.getD i 0) 0 && qQ imp md bs i all 0 then some (i, t) else oM imp md bs all os (i + 1)
  | none => oM imp md bs all os (i + 1)
def lK (aF : List (Nat × St)) (z : List PV) : List (Nat × St) := aF ++ aF.map fun a => (a.1, a.2.push z)
noncomputable def gj (ops : Array Oper) (bs : Array Nat) (k : Nat) (z : List PV) (m : Nat) (k0 : Nat) (st : St) (aF : List (Nat × St)) (fin : Option R) : List Oper → Nat → Env → Option R
 | [], _, _ => fin
 | o :: os, i, e => bif (bs.getD i 0).testBit k0 then gj ops bs k z m k0 st aF fin os (i + 1) e else bif ai i k then gj ops bs k z m k0 st aF fin os (i + 1) (put C.n e o.dst (.ptr false m 0)) else match kindOf C.imp C.md o with
  | .quiet => guarded C ops o e st (fun p _ => gj ops bs k z m k0 st aF fin os (i + 1) (put C.n e o.dst p)) fun _ _ _ => none
  | .reads => guarded C ops o e st (fun p st' => bM (st' = st)
   (bM (told C ops ⟨i, o, e, p⟩ (st.push z)) (hI (((lK aF z).filter fun a => !(bs.getD i 0).testBit a.1).map fun a => told C ops ⟨i, o, e, p⟩ a.2)
    (gj ops bs k z m k0 st aF fin os (i + 1) (put C.n e o.dst p))))) fun _ _ _ => none
  | .aF => none
noncomputable def jz (ops : Array Oper) (bs : Array Nat) (k : Nat) (z : List PV) (m : Nat) : List Oper → Nat → Env → St → List Seen → List (Nat × St) → (Env → St → Option R) → (TypeId → Value → St → Option R) → Option R
 | [], _, e, st, _, _, K, _ => K e (st.push z)
 | o :: os, i, e, st, seen, aF, K, N => bif ai i k then jz ops bs k z m os (i + 1) (put C.n e o.dst (.ptr false m 0)) st seen aF K N else match kindOf C.imp C.md o with
  | .quiet => guarded C ops o e st (fun p _ => jz ops bs k z m os (i + 1) (put C.n e o.dst p) st seen aF K N) fun _ _ _ => none
  | .reads => bif (bs.getD i 0).testBit k then none else guarded C ops o e st (fun p st' => bM (st' = st)
   (bM (told C ops ⟨i, o, e, p⟩ (st.push z)) (hI (((lK aF z).filter fun a => !(bs.getD i 0).testBit a.1).map fun a => told C ops ⟨i, o, e, p⟩ a.2)
    (jz ops bs k z m os (i + 1) (put C.n e o.dst p) st (⟨i, o, e, p⟩ :: seen) aF K N)))) fun _ _ _ => none
  | .aF => bif (bs.getD i 0).testBit k then jx C ops bs (o :: os) i e (st.push z) seen ((k, st) :: lK aF z) K N
   else bif aF.all (fun a => (bs.getD i 0).testBit a.1) then
    guarded C ops o e st (fun p st' => bM (alone C ops o e (st.push z) = some (.ret p, st'.push z)) (bM (st'.stk.length = m)
     (hI ((seen.filter fun x => !(bs.getD i 0).testBit x.i).map fun x => told C ops x st') (hI ((seen.filter fun x => !(bs.getD i 0).testBit x.i).map fun x => told C ops x (st'.push z))
      (jz ops bs k z m os (i + 1) (put C.n e o.dst p) st' seen ((i, st) :: aF) K N)))))
     fun t x st' => bM (alone C ops o e (st.push z) = some (.pan t x, st'.push z)) ((N t x st').bind fun r => bM (N t x (st'.push z) = some r) (gj C ops bs k z m i st aF (some r) os (i + 1) e))
   else none
noncomputable def lS (ops : Array Oper) (e : Env) (st : St) (K : Env → St → Option R) (N : TypeId → Value → St → Option R) : Option R :=
 match oM C.imp C.md (Region.before ops) ops.toList ops.toList 0 with
 | none => jx C ops (Region.before ops) ops.toList 0 e st [] [] K N
 | some (k, t) => (kN C.P t).bind fun z => jz C ops (Region.before ops) k z st.stk.length ops.toList 0 e st [] [] K N
def tmpsOf (ops : Array Oper) (o : Oper) : List Nat := o.dst.toList ++ o.op.operands.toList.filterMap (fun x => match x with | .tmp t => some t | _ => none) ++ (match o.guard with
 | some (g, _) => ((ops[g]?).bind (·.dst)).toList
 | none => [])
def nG (bs : Array Nat) (i : Nat) (ts : List Nat) : List Oper → Nat → Bool
 | [], _ => true
 | o :: os, j => (match o.dst with
  | some d => !(ts.any (ai d)) || ai i j || (bif fC i j then (bs.getD j 0).testBit i else (bs.getD i 0).testBit j)
  | none => true) && nG bs i ts os (j + 1)
def gB (ops : Array Oper) (bs : Array Nat) : List Oper → Nat → Bool
 | [], _ => true
 | o :: os, i => o.after.toList.all (fun e => !Region.binds .any e || fC e.on i) && nG bs i (tmpsOf ops o) ops.toList 0 && gB ops bs os (i + 1)
def iter (body : List PV → St → Option (Ex × List PV × St)) : Nat → List PV → St → Option (Ex × List PV × St)
 | 0, _, _ => none
 | k + 1, vs, st => (body vs st).bind fun r => cd r.1 (iter body k r.2.1 r.2.2) fun _ => some r
def leave (live : List Nat) (x : Ex) (e : Env) (st : St) : Option (Ex × List PV × St) := some (x, live.map e, st)
def eQ : Aux → Bool
 | .iter _ _ => true
 | _ => false
def iy (base lb m : Nat) (x : Ex) (vs : List PV) (st : St) : Option (Ex × List PV × St) :=
 bif (st.lp.drop lb).all eQ && vs.all (sf true m 4) && ((st.stk.drop base).take (m - base)).all (fun b => b.cs.all (sf true m 4)) then some (x, vs, { st with stk := st.stk.take m }) else none
def Dn (base lb m : Nat) (live : List Nat) (x : Ex) (e : Env) (st : St) : Option (Ex × List PV × St) := iy base lb m x (live.map e) st
def zQ (tr : Bool) (base lb m : Nat) (live : List Nat) : Ex → Env → St → Option (Ex × List PV × St) := match tr with
 | true => Dn base lb m live
 | false => leave live
def Ex.bf (id : Nat) : Ex → Ex
 | .exit i => bif ai i id then .normal else .exit i
 | x => x
def lW (st : St) : Bool := match C.rd with
 | none => true
 | some i => fC i st.lp.length && (st.loop i).isSome
def lX : Ex → Bool
 | .pan _ _ => true
 | _ => false
def lA (s : St) (m t l : Nat) (K : Ex → St → Option R) : Option R := match s.loop l with
 | some q => bif ai q.at_ 1 || lX q.mM then none else K q.mM (s.back m t l)
 | none => none
noncomputable def fq : Code → Ann → Env → St → {R : Type} → (Ex → Env → St → Option R) → Option R
 | .skip, _, e, st, _, K => K .normal e st
 | .region _ ops false, _, e, st, _, K => jB C ops ops.toList e st (fun e' st' => K .normal e' st') fun t x st' => K (.pan t x) e st'
 | .region _ ops true, _, e, st, _, K => bif gB ops (Region.before ops) ops.toList 0 then lS C ops e st (fun e' st' => K .normal e' st') (fun t x st' => K (.pan t x) e st') else none
 | .seq a b, A, e, st, _, K => fq a A.x e st fun x e' st' => cd x (fq b A.y e' st' K) fun y => K y e' st'
 | .cond c a b, A, e, st, _, K => aD (dI C.gl e c) fun t =>
  (bif t then fq a A.x e st (leave A.live) else fq b A.y e st (leave A.live)).bind fun r => K r.1 (fO A.live r.2.1) r.2.2
 | .block id c, A, e, st, _, K => fq c A.x e st fun x e' st' => K (x.bf id) e' st'
 | .loop c, A, e, st, _, K => (C.it (fun vs s => fq c A.x (fO A.live vs) s (zQ A.tr C.base C.lb s.stk.length A.live)) (A.live.map e) st).bind fun r => K r.1 (fO A.live r.2.1) r.2.2
 | .rangeFunc g ps a b, A, e, st, _, K => fJ (dI C.gl e g) fun f caps => bif lW C st && eM f then
  (C.call f (.clo (.yield st.lp.length) [] :: caps) { st with lp := st.lp ++ [.loop ⟨A.live, A.live.map e, C.n, C.md, ps.toList, a, b, A.x, 0, .normal⟩] }).bind fun r => dN r fun _ s => lA s st.stk.length st.tk.length st.lp.length fun x s => K x e s
  else none
 | .exit id, _, e, st, _, K => K (.exit id) e st
 | .ret, _, e, st, _, K => K .ret e st
 | .scope c, A, e, st, _, K => fq c A e st K
 | .label _, _, e, st, _, K => K .normal e st
 | _, _, _, _, _, _ => none
def fi (rs : List ResultVar) (e : Env) (st : St) (K : List PV → Option R) : Option R := match rs with
 | [] => K []
 | .tmp t :: rs => fi rs e st fun ps => K (e t :: ps)
 | .cell a t :: rs => match C.P.underlying t with
  | some _ => (al (mY C.P t) (szT C.P t) (e a) st).bind fun p => fi rs e st fun ps => K (p :: ps)
  | none => none
def lf : List PV → PV
 | [p] => p
 | ps => .tup ps
def kg (base : Nat) (st : St) (p : PV) : Option PV := match p with
 | .rs false b off len sz => bif di base b then (pW st false b off (len * sz)).bind fun cs => (cC cs).bind fun ds => bif ds.all (sf false 0 4) && !ai sz 0 then some (.sl (chunks sz len ds) .dead) else none
  else some (.rs false b off len sz)
 | p => some (bL p)
def jS (base : Nat) (st : St) : List PV → Option (List PV)
 | [] => some []
 | p :: ps => (kg base st p).bind fun q => (jS base st ps).bind fun qs => some (q :: qs)
def jf (base : Nat) (st : St) (p : PV) : Option PV := match p with
 | .agg cs => (jS base st cs).bind fun ds => some (.agg ds)
 | p => kg base st p
def kz (base : Nat) (st : St) : List PV → Option (List PV)
 | [] => some []
 | p :: ps => (jf base st p).bind fun q => (kz base st ps).bind fun qs => some (q :: qs)
def jR (base : Nat) (st : St) (p : PV) : Option PV := match p with
 | .tup cs => (kz base st cs).bind fun ds => some (.tup ds)
 | p => jf base st p
def fin (m t l : Nat) (ps : List PV) (st : St) : Option (PV × St) :=
 (jR m st (lf ps)).bind fun p => bif sf false m 4 p then some (p, st.back m t l) else none
def fv (m t l : Nat) (x : Ex) (st : St) (A : Option (PV × St)) : Option (PV × St) := match x with
 | .exit _ => none
 | .pan ty v => some (.pan ty v, st.back m t l)
 | .normal => A
 | .ret => A
end
def Evt {R : Type} (F : Nat → Option R) (r : R) : Prop := ∃ k0, ∀ k, k0 ≤ k → F k = some r
structure pg where
 g : bG → List PV → St → Option (PV × St)
 lim : ∀ {Ck : Nat → bG} {C : bG}, (∀ f args st r, C f args st = some r → Evt (fun k => Ck k f args st) r) → ∀ args st r, g C args st = some r → Evt (fun k => g (Ck k) args st) r
def pg.pure (g : List PV → St → Option (PV × St)) : pg := ⟨fun _ => g, fun _ _ _ _ h => ⟨0, fun _ _ => h⟩⟩
structure Lib where
 P : Program
 ann : FuncId → Ann
 md : FuncId → Md
 imp : List FuncId
 lh : FuncId → Option pg
 gl : Nat → PV
 pn : List FuncId
def itK (k : Nat) : bO := fun b vs st => iter b k vs st
noncomputable def gO (L : Lib) (call : bG) (it : bO) (f : FuncId) (fn : Func) (c : Code) (args : List PV) (st : St) : Option (PV × St) :=
 bif di args.length fn.ntmps then
  fq ⟨L.P, call, fn.ntmps, st.stk.length, it, L.imp, L.md f, none, st.lp.length, L.gl, L.pn⟩ c (L.ann f) (iW 0 args) st fun x e s =>
   bif L.pn.any (ai f) then
    fv st.stk.length st.tk.length st.lp.length x s (fi ⟨L.P, call, fn.ntmps, st.stk.length, it, L.imp, L.md f, none, st.lp.length, L.gl, L.pn⟩ fn.results.toList e s fun ps => fin st.stk.length st.tk.length st.lp.length ps s)
   else ep x (fi ⟨L.P, call, fn.ntmps, st.stk.length, it, L.imp, L.md f, none, st.lp.length, L.gl, L.pn⟩ fn.results.toList e s fun ps => fin st.stk.length st.tk.length st.lp.length ps s)
 else none
def nt (n : Nat) (e : Env) : List Nat → List PV → Env
 | t :: ts, p :: ps => nt n (put n e (some t) p) ts ps
 | _, _ => e
def sM (i : Nat) (st : St) (K : St → Option (PV × St)) : Option (PV × St) := match st.loop i with
 | some q => bif ai q.at_ 0 then K (st.j7 i (.loop { q with at_ := 1 })) else none
 | none => none
def fT : Ex → Bool
 | .normal => true
 | _ => false
def By (m t l i : Nat) (x : Ex) (st : St) : Option (PV × St) := match st.loop i with
 | some q => bif ai q.at_ 1 && !lX x then some (.v (.bool (fT x)), (st.j7 i (.loop { q with at_ := bif fT x then 0 else 2, mM := x })).back m t l) else none
 | none => none
noncomputable def il (L : Lib) (call : bG) (it : bO) (i : Nat) (r : Lp) (args : List PV) (st : St) : Option (PV × St) :=
 bif ai r.at_ 0 && ai args.length r.ps.length then
  fq ⟨L.P, call, r.n, st.stk.length, it, L.imp, r.md, some i, st.lp.length, L.gl, L.pn⟩ r.assign r.A.x (nt r.n (fO r.live r.vs) r.ps args) st fun x e s =>
   bif fT x then sM i s fun s => fq ⟨L.P, call, r.n, st.stk.length, it, L.imp, r.md, some i, st.lp.length, L.gl, L.pn⟩ r.body r.A.y e s fun x _ s => By st.stk.length st.tk.length st.lp.length i x s else none
 else none
noncomputable def evF (L : Lib) : Nat → bG
 | 0, _, _, _ => none
 | k + 1, .func f, args, st => match L.lh f with
  | some q => q.g (evF L k) args st
  | none => match L.P.funcs[f]? with
   | some fn => match fn.body with
    | some c => gO L (evF L k) (itK k) f fn c args st
    | none => none
   | none => none
 | k + 1, .yield i, args, st => match st.loop i with
  | some r => il L (evF L k) (itK k) i r args st
  | none => none
 | _ + 1, _, _, _ => none
open Go Go.RowKit
structure Ctx where
 S : Nat → Nat → Prop
 σ : Bool → Nat → Option Nat
 tl : Ow → Nat → Option (Nat × Nat × Nat × Nat × Nat)
 lp : Nat → Option Nat
 N : Nat
def Ctx.fz (C : Ctx) : Ctx := ⟨C.S, fun h b => match h with | true => C.σ true b | false => none, fun _ _ => none, fun _ => none, C.N⟩
def Ctx.cut (C : Ctx) (m t l : Nat) : Ctx :=
 ⟨C.S, fun h b => match h with | true => C.σ true b | false => if b < m then C.σ false b else none,
  fun o i => match o with | .fr => if i < t then C.tl .fr i else none | .bl true b => C.tl (.bl true b) i | .bl false b => if b < m then C.tl (.bl false b) i else none,
  fun i => if i < l then C.lp i else none, C.N⟩
def fF (C : Ctx) (base : Option Addr) (len cap sz : Nat) : Cap → Prop
 | .nil => base = none
 | .full => cap = len
 | .dead => True
 | .own o t e => ∃ B f to e' s, C.tl o t = some (B, f, to, e', s) ∧ e ≤ e' ∧
  (e = e' → s = sz ∧ (cap = len ∨ ∃ o, base = some ⟨B, o, none⟩ ∧ f = o + len * sz ∧ to = o + cap * sz))
def kc (C : Ctx) : Cap → Prop
 | .own o t e => ∃ B f to e' s, C.tl o t = some (B, f, to, e', s) ∧ e ≤ e'
 | _ => True
inductive Rep (w : World) : Ctx → Value → PV → Prop
 | u {C : Ctx} {x : Value} : Rep w C x .u
 | v {C : Ctx} {x : Value} : iL x = true → Rep w C x (.v x)
 | agg {C : Ctx} {xs : Array Value} {ps : List PV} : xs.size = ps.length → (∀ (i : Nat) (x : Value), xs[i]? = some x → x.oneCell' = true) →
  (∀ (i : Nat) (x : Value) (p : PV), xs[i]? = some x → ps[i]? = some p → Rep w C x p) → Rep w C (.agg xs) (.agg ps)
 | tup {C : Ctx} {xs : Array Value} {ps : List PV} : xs.size = ps.length →
  (∀ (i : Nat) (x : Value) (p : PV), xs[i]? = some x → ps[i]? = some p → Rep w C x p) → Rep w C (.tuple xs) (.tup ps)
 | ptr {C : Ctx} {h : Bool} {b off B : Nat} : C.σ h b = some B → Rep w C (.pointer (some ⟨B, off, none⟩)) (.ptr h b off)
 | fp {C : Ctx} {cs : List PV} {off B o : Nat} (val : Nat → Value) : (∀ (j : Nat) (p : PV), cs[j]? = some p → C.S B (o + j)) →
  (∀ (j : Nat) (p : PV), cs[j]? = some p → w.cell? ⟨B, o + j, none⟩ = some (val j)) → (∀ (j : Nat) (p : PV), cs[j]? = some p → (val j).oneCell' = true) →
  (∀ (j : Nat) (p : PV), cs[j]? = some p → Rep w C.fz (val j) p) → Rep w C (.pointer (some ⟨B, o + off, none⟩)) (.fp cs off)
 | slnil {C : Ctx} {c : Cap} : kc C c → Rep w C (.slice none 0 0) (.sl [] c)
 | sl {C : Ctx} {es : List (List PV)} {B o len cap : Nat} {c : Cap} (sz : Nat) (val : Nat → Nat → Value) : len = es.length → len ≤ cap →
  (∀ (i : Nat) (e : List PV), es[i]? = some e → e.length = sz) →
  (∀ (i : Nat) (e : List PV) (j : Nat) (p : PV), es[i]? = some e → e[j]? = some p → C.S B (o + i * sz + j)) →
  (∀ (i : Nat) (e : List PV) (j : Nat) (p : PV), es[i]? = some e → e[j]? = some p → w.cell? ⟨B, o + i * sz + j, none⟩ = some (val i j)) →
  (∀ (i : Nat) (e : List PV) (j : Nat) (p : PV), es[i]? = some e → e[j]? = some p → (val i j).oneCell' = true) →
  (∀ (i : Nat) (e : List PV) (j : Nat) (p : PV), es[i]? = some e → e[j]? = some p → Rep w C.fz (val i j) p) →
  fF C (some ⟨B, o, none⟩) len cap sz c → Rep w C (.slice (some ⟨B, o, none⟩) len cap) (.sl es c)
 | rs {C : Ctx} {h : Bool} {b off len cap sz B : Nat} {arr : Array Value} {elem : TypeId} {fr : Nat × Nat} : C.σ h b = some B → len ≤ cap → w.heap[B]? = some (.cells arr elem fr) → off + cap * sz = arr.size →
  Rep w C (.slice (some ⟨B, off, none⟩) len cap) (.rs h b off len sz)
 | ni {C : Ctx} {t : TypeId} {x : Value} : Rep w C (.iface t x) .ni
 | ifc {C : Ctx} {t : TypeId} {x : Value} : Rep w C (.iface t x) (.ifc t x)
 | it {C : Ctx} {i B : Nat} : C.lp i = some B → Rep w C (.pointer (some ⟨B, 0, none⟩)) (.it i)
 | yld {C : Ctx} {i B : Nat} : C.lp i = some B → Rep w C (.func (.yield B) #[] #[]) (.clo (.yield i) [])
 | clo {C : Ctx} {f : FuncId} {xs : Array Value} {ps : List PV} : xs.size = ps.length →
  (∀ (i : Nat) (x : Value) (p : PV), xs[i]? = some x → ps[i]? = some p → Rep w C x p) → Rep w C (.func (.func f) #[] xs) (.clo (.func f) ps)
structure Ext (w : World) (C : Ctx) (w' : World) (C' : Ctx) : Prop where
 size : w.heap.size ≤ w'.heap.size
 N : C'.N = C.N
 below : Below C.N w w'
 S : ∀ B o, C.S B o → C'.S B o
 cell : ∀ B o, C.S B o → w'.cell? ⟨B, o, none⟩ = w.cell? ⟨B, o, none⟩
 σ : ∀ h b B, C.σ h b = some B → C'.σ h b = some B
 tl : ∀ o t B f to e s, C.tl o t = some (B, f, to, e, s) → ∃ B' f' to' e', C'.tl o t = some (B', f', to', e', s) ∧ e ≤ e' ∧ (e = e' → B' = B ∧ f' = f ∧ to' = to)
 lp : ∀ i B, C.lp i = some B → C'.lp i = some B
 shape : ∀ h b B, C.σ h b = some B → ∀ arr elem fr, w.heap[B]? = some (.cells arr elem fr) → ∃ arr' elem' fr', w'.heap[B]? = some (.cells arr' elem' fr') ∧ arr'.size = arr.size
 dfr : ∀ D : Nat, w.heap[D]? = some (Obj.deferred (some [])) → w'.heap[D]? = some (Obj.deferred (some []))
theorem Ext.refl (w : World) (C : Ctx) : Ext w C w C :=
 ⟨aq _, rfl, Below.refl _ _, fun _ _ h => h, fun _ _ _ => rfl, fun _ _ _ h => h, fun _ _ B f to e _ h => ⟨B, f, to, e, h, aq _, fun _ => ⟨rfl, rfl, rfl⟩⟩, fun _ _ h => h, fun _ _ _ _ arr elem fr h => ⟨arr, elem, fr, h, rfl⟩, fun _ h => h⟩
theorem Ext.same {w : World} {C C' : Ctx} (hN : C'.N = C.N) (hS : ∀ B o, C.S B o → C'.S B o) (hσ : ∀ h b B, C.σ h b = some B → C'.σ h b = some B)
 (htl : ∀ o t B f to e s, C.tl o t = some (B, f, to, e, s) → ∃ B' f' to' e', C'.tl o t = some (B', f', to', e', s) ∧ e ≤ e' ∧ (e = e' → B' = B ∧ f' = f ∧ to' = to)) (hlp : ∀ i B, C.lp i = some B → C'.lp i = some B) : Ext w C w C' :=
 ⟨aq _, hN, Below.refl _ _, hS, fun _ _ _ => rfl, hσ, htl, hlp, fun _ _ _ _ arr elem fr h => ⟨arr, elem, fr, h, rfl⟩, fun _ h => h⟩
theorem Ext.trans {w w1 w2 : World} {C C1 C2 : Ctx} (h : Ext w C w1 C1) (g : Ext w1 C1 w2 C2) : Ext w C w2 C2 := by
 refine ⟨Nat.le_trans h.size g.size, g.N.trans h.N, h.below.trans (h.N ▸ g.below), fun B o x => g.S B o (h.S B o x), fun B o x => (g.cell B o (h.S B o x)).trans (h.cell B o x), fun a b B x => g.σ a b B (h.σ a b B x), ?_,
  fun i B x => g.lp i B (h.lp i B x), ?_, fun D x => g.dfr D (h.dfr D x)⟩
 · intro a t B f to e s x
   obtain ⟨B1, f1, to1, e1, y, le1, k1⟩ := h.tl a t B f to e s x; obtain ⟨B2, f2, to2, e2, z, le2, k2⟩ := g.tl a t B1 f1 to1 e1 s y; refine ⟨B2, f2, to2, e2, z, Nat.le_trans le1 le2, fun q => ?_⟩; subst q; obtain rfl : e = e1 := Nat.le_antisymm le1 le2; obtain ⟨rfl, rfl, rfl⟩ := k1 rfl; exact k2 rfl
 · intro a b B x arr elem fr y
   obtain ⟨arr1, elem1, fr1, y1, z1⟩ := h.shape a b B x arr elem fr y; obtain ⟨arr2, elem2, fr2, y2, z2⟩ := g.shape a b B (h.σ a b B x) arr1 elem1 fr1 y1; exact ⟨arr2, elem2, fr2, y2, z2.trans z1⟩
theorem Ext.fz {w w' : World} {C C' : Ctx} (h : Ext w C w' C') : Ext w C.fz w' C'.fz := by
 refine ⟨h.size, h.N, h.below, h.S, h.cell, ?_, fun _ _ _ _ _ _ _ x => by simp [Ctx.fz] at x, fun _ _ x => by simp [Ctx.fz] at x, ?_, h.dfr⟩
 · intro a b B x
   cases a with
   | true => exact h.σ true b B x
   | false => simp [Ctx.fz] at x
 · intro a b B x
   cases a with
   | true => exact h.shape true b B x
   | false => simp [Ctx.fz] at x
theorem Ext.cut {w w' : World} {C C' : Ctx} (h : Ext w C w' C') (m t l : Nat) : Ext w (C.cut m t l) w' (C'.cut m t l) := by
 refine ⟨h.size, h.N, h.below, h.S, h.cell, ?_, ?_, ?_, ?_, h.dfr⟩
 · intro a b B x
   cases a with
   | true => exact h.σ true b B x
   | false =>
    simp only [Ctx.cut] at x ⊢; split at x
    · rename_i hb; rw [if_pos hb]; exact h.σ false b B x
    · cases x
 · intro a i B f to e s x
   cases a with
   | fr =>
    simp only [Ctx.cut] at x ⊢; split at x
    · rename_i hb; rw [if_pos hb]; exact h.tl _ i B f to e s x
    · cases x
   | bl a b =>
    cases a with
    | true => exact h.tl _ i B f to e s x
    | false =>
     simp only [Ctx.cut] at x ⊢; split at x
     · rename_i hb; rw [if_pos hb]; exact h.tl _ i B f to e s x
     · cases x
 · intro i B x
   simp only [Ctx.cut] at x ⊢; split at x
   · rename_i hb; rw [if_pos hb]; exact h.lp i B x
   · cases x
 · intro a b B x
   cases a with
   | true => exact h.shape true b B x
   | false =>
    simp only [Ctx.cut] at x; split at x
    · exact h.shape false b B x
    · cases x
theorem fF.mono {w w' : World} {C C' : Ctx} {base : Option Addr} {len cap sz : Nat} {c : Cap} (h : fF C base len cap sz c) (x : Ext w C w' C') : fF C' base len cap sz c := by
 cases c with
 | nil => exact h
 | full => exact h
 | dead => exact trivial
 | own a t e =>
  obtain ⟨B, f, to, e', s, h1, h2, h3⟩ := h; obtain ⟨B', f', to', e2, g1, g2, g3⟩ := x.tl a t B f to e' s h1; refine ⟨B', f', to', e2, s, g1, Nat.le_trans h2 g2, fun q => ?_⟩; subst q; obtain rfl : e = e' := Nat.le_antisymm h2 g2; obtain ⟨rfl, rfl, rfl⟩ := g3 rfl; exact h3 rfl
theorem kc.mono {w w' : World} {C C' : Ctx} {c : Cap} (h : kc C c) (x : Ext w C w' C') : kc C' c := by
 cases c with
 | own a t e =>
  obtain ⟨B, f, to, e', s, h1, h2⟩ := h; obtain ⟨B', f', to', e2, g1, g2, _⟩ := x.tl a t B f to e' s h1; exact ⟨B', f', to', e2, s, g1, Nat.le_trans h2 g2⟩
 | _ => exact trivial
theorem Rep.mono {w w' : World} {C : Ctx} {x : Value} {p : PV} (h : Rep w C x p) : ∀ {C' : Ctx}, Ext w C w' C' → Rep w' C' x p := by
 induction h with
 | u => exact fun _ => .u
 | v h => exact fun _ => .v h
 | agg h1 h2 _ ih => exact fun e => .agg h1 h2 fun i x p hx hp => ih i x p hx hp e
 | tup h1 _ ih => exact fun e => .tup h1 fun i x p hx hp => ih i x p hx hp e
 | ptr h => exact fun e => .ptr (e.σ _ _ _ h)
 | fp val h1 h2 h3 _ ih => exact fun e => .fp val (fun j p hp => e.S _ _ (h1 j p hp)) (fun j p hp => (e.cell _ _ (h1 j p hp)).trans (h2 j p hp)) h3 fun j p hp => ih j p hp e.fz
 | slnil h =>
  intro C' e; exact .slnil (h.mono e)
 | sl sz val h1 h2 h3 h4 h5 h6 _ h8 ih =>
  exact fun e => .sl sz val h1 h2 h3 (fun i a j p ha hp => e.S _ _ (h4 i a j p ha hp)) (fun i a j p ha hp => (e.cell _ _ (h4 i a j p ha hp)).trans (h5 i a j p ha hp)) h6
   (fun i a j p ha hp => ih i a j p ha hp e.fz) (h8.mono e)
 | @rs C hh b off len cap sz B arr elem fr h1 h2 h3 h4 =>
  intro C' e; obtain ⟨arr', elem', fr', y, z⟩ := e.shape _ _ _ h1 arr elem fr h3; exact .rs (e.σ _ _ _ h1) h2 y (by omega)
 | yld h => exact fun e => .yld (e.lp _ _ h)
 | ni => exact fun _ => .ni
 | ifc => exact fun _ => .ifc
 | it h => exact fun e => .it (e.lp _ _ h)
 | clo h1 _ ih => exact fun e => .clo h1 fun i x p hx hp => ih i x p hx hp e
theorem Ext.Dt (w : World) (C : Ctx) (m t l : Nat) : Ext w (C.cut m t l) w C := by
 refine Ext.same rfl (fun _ _ h => h) ?_ ?_ ?_
 · intro a b B x
   cases a with
   | true => exact x
   | false => simp only [Ctx.cut] at x; split at x <;> first | exact x | cases x
 · intro a i B f to e s x
   refine ⟨B, f, to, e, ?_, aq _, fun _ => ⟨rfl, rfl, rfl⟩⟩
   cases a with
   | fr => simp only [Ctx.cut] at x; split at x <;> first | exact x | cases x
   | bl a b =>
    cases a with
    | true => exact x
    | false => simp only [Ctx.cut] at x; split at x <;> first | exact x | cases x
 · intro i B x
   simp only [Ctx.cut] at x; split at x <;> first | exact x | cases x
theorem Ext.sa (w : World) (C : Ctx) : Ext w C.fz w C := by
 refine Ext.same rfl (fun _ _ h => h) ?_ (fun _ _ _ _ _ _ _ x => by simp [Ctx.fz] at x) (fun _ _ x => by simp [Ctx.fz] at x); intro a b B x
 cases a with
 | true => exact x
 | false => simp [Ctx.fz] at x
theorem Ext.vC (w : World) (C : Ctx) (m t l : Nat) : Ext w C.fz w (C.cut m t l) := by
 refine Ext.same rfl (fun _ _ h => h) ?_ (fun _ _ _ _ _ _ _ x => by simp [Ctx.fz] at x) (fun _ _ x => by simp [Ctx.fz] at x); intro a b B x
 cases a with
 | true => exact x
 | false => simp [Ctx.fz] at x
theorem Ctx.zG (C : Ctx) : C.fz.fz = C.fz := by
 simp only [Ctx.fz]
theorem Ctx.oG (C : Ctx) (m t l : Nat) : (C.cut m t l).fz = C.fz := by
 simp only [Ctx.fz, Ctx.cut]
def qn : PV → Bool
 | .agg _ | .tup _ | .u => false
 | _ => true
theorem Rep.BU {w : World} {C : Ctx} {x : Value} {p : PV} (h : Rep w C x p) (hp : qn p = true) : x.oneCell' = true := by
 cases h <;> first | rfl | (simp [qn] at hp; done) | skip
 rename_i h; cases x <;> first | rfl | (simp [iL] at h)
def Ctx.jt (C : Ctx) (m : Nat) : Ctx := ⟨C.S, fun h b => match h with | true => C.σ true b | false => if b < m then C.σ false b else none,
 fun o i => match o with | .fr => C.tl .fr i | .bl true b => C.tl (.bl true b) i | .bl false b => if b < m then C.tl (.bl false b) i else none, C.lp, C.N⟩
theorem pr {ok : Bool} {m : Nat} {C C' : Ctx} (htl : ok = true → ∀ o, (∀ b, o = .bl false b → b < m) → C'.tl o = C.tl o) {o : Ow} {t e : Nat} (hs : Cap.sf ok m (.own o t e) = true) : C'.tl o = C.tl o := by
 simp only [Cap.sf, an] at hs
 refine htl hs.1 o fun b hb => ?_
 subst hb; simpa [Nat.blt_eq] using hs.2
theorem tu {w : World} {ok : Bool} (m : Nat) {C C' : Ctx} (hS : C'.S = C.S) (hfz : C'.fz = C.fz) (hσ : ∀ h b, (h = false → b < m) → C'.σ h b = C.σ h b)
 (htl : ok = true → ∀ o, (∀ b, o = .bl false b → b < m) → C'.tl o = C.tl o) (hlp : ok = true → C'.lp = C.lp) :
 ∀ (n : Nat) {x : Value} {p : PV}, Rep w C x p → sf ok m n p = true → Rep w C' x p := by
 intro n
 induction n with
 | zero => intro x p _ h; simp [sf] at h
 | succ n ih =>
  intro x p h hs
  cases h with
  | u => exact .u
  | v h => exact .v h
  | agg h1 h2 h3 =>
   simp only [sf, dD] at hs
   exact .agg h1 h2 fun i x p hx hp => ih (h3 i x p hx hp) (hs p (dS hp))
  | tup h1 h3 =>
   simp only [sf, dD] at hs
   exact .tup h1 fun i x p hx hp => ih (h3 i x p hx hp) (hs p (dS hp))
  | clo h1 h3 =>
   simp only [sf, dD, an] at hs
   exact .clo h1 fun i x p hx hp => ih (h3 i x p hx hp) (hs.2 p (dS hp))
  | ni => exact .ni
  | ifc => exact .ifc
  | it h1 =>
   refine .it ?_
   rw [hlp (by simpa only [sf] using hs)]; exact h1
  | yld h1 =>
   simp only [sf, an, eM, Bool.or_false] at hs; refine .yld ?_
   rw [hlp hs.1]; exact h1
  | @rs _ h b off len cap sz B arr elem fr h1 h2 h3 h4 =>
   refine .rs ?_ h2 h3 h4; rw [hσ h b fun e => by subst e; simpa [sf, Nat.blt_eq] using hs]; exact h1
  | @ptr _ h b off B h1 =>
   refine .ptr ?_; rw [hσ h b fun e => by subst e; simpa [sf, Nat.blt_eq] using hs]; exact h1
  | fp val h1 h2 h3 h4 => exact .fp val (by rw [hS]; exact h1) h2 h3 (by rw [hfz]; exact h4)
  | @slnil _ c h1 =>
   refine .slnil ?_
   cases c with
   | own a t e =>
    have := pr htl (o := a) (t := t) (e := e) (by simpa only [sf] using hs); simp only [kc, this] at h1 ⊢; exact h1
   | _ => exact trivial
  | @sl _ es B o len cap c sz val h1 h2 h3 h4 h5 h6 h7 h8 =>
   refine .sl sz val h1 h2 h3 (by rw [hS]; exact h4) h5 h6 (by rw [hfz]; exact h7) ?_
   cases c with
   | own a t e =>
    have := pr htl (o := a) (t := t) (e := e) (by simpa only [sf] using hs); simp only [fF, this] at h8 ⊢; exact h8
   | _ => exact h8
theorem uJ {w : World} {m n : Nat} {C : Ctx} {x : Value} {p : PV} (h : Rep w C x p) (hs : sf true m n p = true) : Rep w (C.jt m) x p :=
 tu (ok := true) (C := C) (C' := C.jt m) m rfl (by simp only [Ctx.fz, Ctx.jt]) (fun h b g => by
  cases h with
  | true => rfl
  | false => simp only [Ctx.jt]; rw [if_pos (g rfl)]) (fun _ o ho => by
  funext i
  cases o with
  | fr => rfl
  | bl a b =>
   cases a with
   | true => rfl
   | false => simp only [Ctx.jt]; rw [if_pos (ho b rfl)]) (fun _ => rfl) n h hs
theorem uK {w : World} {m n : Nat} {C : Ctx} {x : Value} {p : PV} (t l : Nat) (h : Rep w C x p) (hs : sf false m n p = true) : Rep w (C.cut m t l) x p :=
 tu (ok := false) (C := C) (C' := C.cut m t l) m rfl (C.oG m t l) (fun h b g => by
  cases h with
  | true => rfl
  | false => simp only [Ctx.cut]; rw [if_pos (g rfl)]) (fun h => by cases h) (fun h => by cases h) n h hs
theorem nu {w : World} {C : Ctx} {x : Value} {p : PV} (h : Rep w C x p) : Rep w C x (bL p) := by
 cases h with
 | slnil h => exact .slnil trivial
 | sl sz val h1 h2 h3 h4 h5 h6 h7 h8 => exact .sl sz val h1 h2 h3 h4 h5 h6 h7 trivial
 | u => exact .u
 | v h => exact .v h
 | agg h1 h2 h3 => exact .agg h1 h2 h3
 | tup h1 h3 => exact .tup h1 h3
 | ptr h => exact .ptr h
 | fp val h1 h2 h3 h4 => exact .fp val h1 h2 h3 h4
 | clo h1 h3 => exact .clo h1 h3
 | rs h1 h2 h3 h4 => exact .rs h1 h2 h3 h4
 | yld h => exact .yld h
 | ni => exact .ni
 | ifc => exact .ifc
 | it h => exact .it h
theorem cr {α β : Type} {f : α → β} {l : List α} {i : Nat} {y : β} (h : (l.map f)[i]? = some y) : ∃ x, l[i]? = some x ∧ f x = y := by
 rw [List.getElem?_map] at h; exact Option.map_eq_some_iff.1 h
theorem qZ {w : World} {C : Ctx} {x : Value} {p : PV} (h : Rep w C x p) : Rep w C x (cL p) := by
 cases p with
 | agg cs =>
  cases h with
  | agg h1 h2 h3 =>
   refine .agg (by simpa using h1) h2 fun i x p hx hp => ?_
   obtain ⟨q, hq, rfl⟩ := cr hp; exact nu (h3 i x q hx hq)
 | _ => exact nu h
theorem sk {w : World} {C : Ctx} {x : Value} {p : PV} (h : Rep w C x p) : Rep w C x (ah p) := by
 cases p with
 | tup cs =>
  cases h with
  | tup h1 h3 =>
   refine .tup (by simpa using h1) fun i x p hx hp => ?_
   obtain ⟨q, hq, rfl⟩ := cr hp; exact qZ (h3 i x q hx hq)
 | _ => exact qZ h
theorem zk (st : St) (h : Bool) (cs : List PV) (h' : Bool) (b : Nat) : (st.lay h cs).bk h' b = if h' = h ∧ b = st.len h then some ⟨cs, []⟩ else st.bk h' b := by
 have key : ∀ (l : List Blk), (l ++ [⟨cs, []⟩])[b]? = if b = l.length then some ⟨cs, []⟩ else l[b]? := by
  intro l; rw [fb]; split
  · rename_i hlt; rw [if_neg (by omega)]
  · rename_i hlt
    by_cases e : b = l.length
    · subst e; simp
    · rw [if_neg e, List.getElem?_eq_none (by simp; omega), List.getElem?_eq_none (by omega)]
 cases h <;> cases h' <;> simp [St.lay, St.bk, St.push, St.w8, St.len, key]
theorem nK (st : St) (h : Bool) (cs : List PV) (h' : Bool) (b : Nat) : (st.lay h cs).blk h' b = if h' = h ∧ b = st.len h then some cs else st.blk h' b := by
 simp only [St.blk, zk]
 split <;> rfl
theorem sO (st : St) (h : Bool) (b : Nat) (hb : st.len h ≤ b) : st.bk h b = none := by
 cases h <;> simpa [St.bk, St.len] using hb
theorem DO {st : St} {h : Bool} {b : Nat} {x : Blk} (e : st.bk h b = some x) : b < st.len h := by
 cases h <;> exact (List.getElem?_eq_some_iff.1 e).1
theorem Df {st : St} {h : Bool} {b : Nat} {x : List PV} (e : st.blk h b = some x) : b < st.len h := by
 obtain ⟨y, hy, _⟩ := Option.map_eq_some_iff.1 e; exact DO hy
theorem xB (st : St) (h : Bool) (cs : List PV) (o : Ow) (t : Nat) : (st.lay h cs).tok o t = st.tok o t := by
 cases o with
 | fr => cases h <;> rfl
 | bl h' b =>
  simp only [St.tok, zk]; split
  · rename_i e
    obtain ⟨rfl, rfl⟩ := e; rw [sO st h' _ (aq _)]; simp
  · rfl
theorem nc (st : St) (h : Bool) (b : Nat) (f : Blk → Blk) (h' : Bool) (b' : Nat) : (st.upB h b f).bk h' b' = if h' = h ∧ b' = b then (st.bk h b).map f else st.bk h' b' := by
 cases h <;> cases h' <;> simp only [St.upB, St.bk, ab, Bool.true_eq_false, false_and, true_and, if_false]
 · rw [List.getElem?_modify]
   by_cases e : b = b'
   · subst e; simp
   · simp [e, Ne.symm e]
 · rw [List.getElem?_modify]
   by_cases e : b = b'
   · subst e; simp
   · simp [e, Ne.symm e]
theorem jq (st : St) (h : Bool) (b : Nat) (cs : List PV) (h' : Bool) (b' : Nat) {old : List PV} (hb : st.blk h b = some old) :
 (st.af h b cs).blk h' b' = if h' = h ∧ b' = b then some cs else st.blk h' b' := by
 obtain ⟨y, hy, _⟩ := Option.map_eq_some_iff.1 hb; simp only [St.af, St.blk, nc]; split
 · rw [hy]; rfl
 · rfl
theorem rn (st : St) (h : Bool) (b : Nat) (cs : List PV) (o : Ow) (t : Nat) : (st.af h b cs).tok o t = st.tok o t := by
 cases o with
 | fr => cases h <;> rfl
 | bl h' b' =>
  simp only [St.af, St.tok, nc]; split
  · rename_i e
    obtain ⟨rfl, rfl⟩ := e
    cases st.bk h' b' <;> rfl
  · rfl
theorem vL (st : St) (h : Bool) (cs : List PV) : (st.lay h cs).lp = st.lp := by cases h <;> rfl
theorem DC (st : St) (h : Bool) (cs : List PV) : (st.lay h cs).tk = st.tk := by cases h <;> rfl
theorem BO (st : St) (h : Bool) (cs : List PV) (h' : Bool) : (st.lay h cs).len h' = if h' = h then st.len h + 1 else st.len h' := by
 cases h <;> cases h' <;> simp [St.lay, St.len, St.push, St.w8]
theorem qJ (st : St) (h : Bool) (b : Nat) (f : Blk → Blk) : (st.upB h b f).lp = st.lp := by cases h <;> rfl
theorem rm (st : St) (h : Bool) (b : Nat) (f : Blk → Blk) : (st.upB h b f).tk = st.tk := by cases h <;> rfl
theorem n7 (st : St) (h : Bool) (b : Nat) (f : Blk → Blk) (h' : Bool) : (st.upB h b f).len h' = st.len h' := by
 cases h <;> cases h' <;> simp [St.upB, St.len]
theorem Ow.vH {o : Ow} {h : Bool} {b : Nat} : o.is h b = true ↔ o = .bl h b := by
 cases o with
 | fr => simp [Ow.is]
 | bl h' b' =>
  cases h <;> cases h' <;> simp [Ow.is, eqB]
def hU (fr : Nat × Nat) (o : Nat) : Prop := ¬ (fr.1 ≤ o ∧ o < fr.2)
def spare (w : World) (C : Ctx) (B o : Nat) : Prop :=
 ¬ C.S B o ∧ ((∀ h b, C.σ h b ≠ some B) ∧ C.N ≤ B) ∧ ∃ arr elem fr, w.heap[B]? = some (.cells arr elem fr) ∧ o < arr.size ∧ hU fr o
def oo : Nat → LoopState
 | 0 => .ready
 | 1 => .busy
 | _ => .done
def lg : Ex → Option Code
 | .normal => none
 | .exit i => some (.exit i)
 | .ret => some .ret
 | .pan _ _ => none
def mc (r : Lp) (fn D : Nat) (tmps : Array Value) : Loop :=
 { state := oo r.at_, pending := lg r.mM, fn := fn, tmps := tmps, params := r.ps.toArray, assign := r.assign, body := r.body, defers := D }
def lx (w : World) (C : Ctx) (bs : List (Nat × Nat × Nat)) (i B : Nat) : Aux → Prop
 | .iter s pos => w.heap[B]? = some (.stringIter s pos)
 | .loop r => ∃ fn D tmps, w.heap[B]? = some (.loop (mc r fn D tmps)) ∧ tmps.size = r.n ∧
  (∀ j, Rep w C (tmps.getD j undef) (fO r.live r.vs j)) ∧ ∀ m t l, (m, t, l) ∈ bs → i < l → ∀ j, Rep w (C.cut m t l) (tmps.getD j undef) (fO r.live r.vs j)
theorem lx.mono {w w' : World} {C C' : Ctx} {bs : List (Nat × Nat × Nat)} {i B : Nat} {r : Aux} (h : lx w C bs i B r) (hx : Ext w C w' C')
 (hB : ∀ ob, w.heap[B]? = some ob → (∀ arr elem fr, ob ≠ .cells arr elem fr) → w'.heap[B]? = some ob) : lx w' C' bs i B r := by
 cases r with
 | iter s pos => exact hB _ h (by intro _ _ _ q; cases q)
 | loop r =>
  obtain ⟨fn, D, tmps, h1, h2, h3, h4⟩ := h; exact ⟨fn, D, tmps, hB _ h1 (by intro _ _ _ q; cases q), h2, fun j => (h3 j).mono hx, fun m t l hm hl j => (h4 m t l hm hl j).mono (hx.cut m t l)⟩
theorem lx.lt {w : World} {C : Ctx} {bs : List (Nat × Nat × Nat)} {i B : Nat} {r : Aux} (h : lx w C bs i B r) : B < w.heap.size := by
 cases r with
 | iter s pos => exact (Array.getElem?_eq_some_iff.1 h).1
 | loop r =>
  obtain ⟨fn, D, tmps, h1, _⟩ := h; exact (Array.getElem?_eq_some_iff.1 h1).1
structure Sim (w : World) (C : Ctx) (st : St) (bs : List (Nat × Nat × Nat)) : Prop where
 blk : ∀ h b cs, st.blk h b = some cs → ∃ B arr elem fr, C.σ h b = some B ∧ w.heap[B]? = some (.cells arr elem fr) ∧ cs.length ≤ arr.size ∧
  (∀ o, hU fr o) ∧ (cs ≠ [] → ∀ o, ¬ C.S B o) ∧ (∀ (o : Nat) (x : Value), arr[o]? = some x → x.oneCell' = true) ∧
  (∀ (o : Nat) (x : Value) (p : PV), arr[o]? = some x → cs[o]? = some p → Rep w C x p) ∧
  (∀ m t l, (m, t, l) ∈ bs → (h = true ∨ b < m) → ∀ (o : Nat) (x : Value) (p : PV), arr[o]? = some x → cs[o]? = some p → Rep w (C.cut m t l) x p)
 dom : ∀ h b B, C.σ h b = some B → ∃ cs, st.blk h b = some cs
 inj : ∀ h b h' b' B, C.σ h b = some B → C.σ h' b' = some B → (h = h' ∧ b = b') ∨ st.blk h b = some [] ∨ st.blk h' b' = some []
 Sok : ∀ B o, C.S B o → B < w.heap.size
 tok : ∀ o t B f to e s, C.tl o t = some (B, f, to, e, s) → st.tok o t = some (e, s) ∧ ∀ i, f ≤ i → i < to → spare w C B i
 hP : ∀ o t e s, st.tok o t = some (e, s) → ∃ B f to, C.tl o t = some (B, f, to, e, s)
 ng : ∀ o t o' t' B f to e s f' to' e' s', C.tl o t = some (B, f, to, e, s) → C.tl o' t' = some (B, f', to', e', s') → (o = o' ∧ t = t') ∨ ∀ i, f ≤ i → i < to → f' ≤ i → i < to' → False
 bnd : ∀ m t l, (m, t, l) ∈ bs → m ≤ st.stk.length ∧ t ≤ st.tk.length ∧ l ≤ st.lp.length
 low : C.N ≤ w.heap.size ∧ (∀ h b B, C.σ h b = some B → C.N ≤ B) ∧ ∀ i B, C.lp i = some B → C.N ≤ B
 lps : ∀ i r, st.lp[i]? = some r → ∃ B, C.lp i = some B ∧ lx w C bs i B r
 jE : ∀ i B, C.lp i = some B → ∃ r, st.lp[i]? = some r
 jW : ∀ i i' B, C.lp i = some B → C.lp i' = some B → i = i'
section
variable {w : World} {C : Ctx} {st : St} {bs : List (Nat × Nat × Nat)}
theorem Sim.σlt (h : Sim w C st bs) {a : Bool} {b B : Nat} (x : C.σ a b = some B) : B < w.heap.size := by
 obtain ⟨cs, hc⟩ := h.dom a b B x; obtain ⟨B', arr, elem, fr, h1, h2, _⟩ := h.blk a b cs hc; rw [x] at h1; obtain rfl := Option.some.inj h1; exact (Array.getElem?_eq_some_iff.1 h2).1
theorem Sim.DF (h : Sim w C st bs) {a : Bool} {b B : Nat} (x : C.σ a b = some B) : b < st.len a := by
 obtain ⟨cs, hc⟩ := h.dom a b B x; exact Df hc
theorem Sim.DG (h : Sim w C st bs) {b B : Nat} (x : C.σ false b = some B) : b < st.stk.length := h.DF x
theorem Sim.Ej (h : Sim w C st bs) {a : Bool} {b : Nat} (x : st.len a ≤ b) : C.σ a b = none := by
 cases e : C.σ a b with
 | none => rfl
 | some B => have := h.DF e; omega
theorem Sim.AG (h : Sim w C st bs) {t : Nat} (x : st.tk.length ≤ t) : C.tl .fr t = none := by
 cases e : C.tl .fr t with
 | none => rfl
 | some q =>
  obtain ⟨B, f, to, e', s⟩ := q; have := (h.tok .fr t B f to e' s e).1; have := (List.getElem?_eq_some_iff.1 this).1; omega
theorem Sim.tA (h : Sim w C st bs) {a : Bool} {b : Nat} (x : st.len a ≤ b) (t : Nat) : C.tl (.bl a b) t = none := by
 cases e : C.tl (.bl a b) t with
 | none => rfl
 | some q =>
  obtain ⟨B, f, to, e', s⟩ := q; have := (h.tok _ t B f to e' s e).1; simp only [St.tok, sO st a b x] at this; cases this
theorem Sim.vM (h : Sim w C st bs) {i : Nat} (x : st.lp.length ≤ i) : C.lp i = none := by
 cases e : C.lp i with
 | none => rfl
 | some B =>
  obtain ⟨r, hr⟩ := h.jE i B e; have := (List.getElem?_eq_some_iff.1 hr).1; omega
theorem Sim.DZ (h : Sim w C st bs) {i B : Nat} (x : C.lp i = some B) : B < w.heap.size := by
 obtain ⟨r, hr⟩ := h.jE i B x; obtain ⟨B', h1, h2⟩ := h.lps i r hr; rw [x] at h1; obtain rfl := Option.some.inj h1; exact h2.lt
theorem Sim.tY (h : Sim w C st bs) : C.cut st.stk.length st.tk.length st.lp.length = C := by
 cases C with
 | mk S σ tl lp N =>
  simp only [Ctx.cut, Ctx.mk.injEq, true_and, and_true]; refine ⟨?_, ?_, ?_⟩
  · funext a b
    cases a with
    | true => rfl
    | false =>
     simp only []; split
     · rfl
     · exact (h.Ej (a := false) (by simp only [St.len]; omega)).symm
  · funext a b
    cases a with
    | fr =>
     simp only []; split
     · rfl
     · exact (h.AG (by omega)).symm
    | bl a b' =>
     cases a with
     | true => rfl
     | false =>
      simp only []; split
      · rfl
      · exact (h.tA (a := false) (by simp only [St.len]; omega) b).symm
  · funext i
    split
    · rfl
    · exact (h.vM (by omega)).symm
theorem Sim.enter (h : Sim w C st bs) : Sim w C st ((st.stk.length, st.tk.length, st.lp.length) :: bs) := by
 refine ⟨?_, h.dom, h.inj, h.Sok, h.tok, h.hP, h.ng, ?_, h.low, ?_, h.jE, h.jW⟩
 · intro a b cs hc
   obtain ⟨B, arr, elem, fr, h1, h2, h3, h4, h5, h6, h7, h8⟩ := h.blk a b cs hc; refine ⟨B, arr, elem, fr, h1, h2, h3, h4, h5, h6, h7, fun m t l hm => ?_⟩
   rcases List.mem_cons.1 hm with hm | hm
   · obtain ⟨rfl, rfl, rfl⟩ : m = st.stk.length ∧ t = st.tk.length ∧ l = st.lp.length := by simpa using hm
     intro _; rw [h.tY]; exact h7
   · exact h8 m t l hm
 · intro m t l hm
   rcases List.mem_cons.1 hm with hm | hm
   · obtain ⟨rfl, rfl, rfl⟩ : m = st.stk.length ∧ t = st.tk.length ∧ l = st.lp.length := by simpa using hm
     exact ⟨aq _, aq _, aq _⟩
   · exact h.bnd m t l hm
 · intro i r hr
   obtain ⟨B, h1, h2⟩ := h.lps i r hr; refine ⟨B, h1, ?_⟩
   cases r with
   | iter s pos => exact h2
   | loop r =>
   obtain ⟨fn, D, tmps, h2, h3, h4, h5⟩ := h2; refine ⟨fn, D, tmps, h2, h3, h4, fun m t l hm => ?_⟩
   rcases List.mem_cons.1 hm with hm | hm
   · obtain ⟨rfl, rfl, rfl⟩ : m = st.stk.length ∧ t = st.tk.length ∧ l = st.lp.length := by simpa using hm
     intro _; rw [h.tY]; exact h4
   · exact h5 m t l hm
theorem xT (w : World) (o : Obj) {B i : Nat} (h : B < w.heap.size) : World.cell? { w with heap := w.heap.push o } ⟨B, i, none⟩ = w.cell? ⟨B, i, none⟩ := by
 simp only [World.cell?]; rw [Array.getElem?_push, if_neg (by omega)]
theorem lV (w : World) (o : Obj) {B : Nat} {x : Obj} (h : w.heap[B]? = some x) : ({ w with heap := w.heap.push o } : World).heap[B]? = some x := by
 have := (Array.getElem?_eq_some_iff.1 h).1
 show (w.heap.push o)[B]? = _
 rw [Array.getElem?_push, if_neg (by omega)]; exact h
theorem Ext.BT (hS : ∀ B o, C.S B o → B < w.heap.size) (hN : C.N ≤ w.heap.size) (ob : Obj) : Ext w C { w with heap := w.heap.push ob } C :=
 ⟨by simp, rfl, (Below.refl _ _).alloc hN ob, fun _ _ x => x, fun B i x => xT w ob (hS B i x), fun _ _ _ x => x, fun _ _ B f to e _ x => ⟨B, f, to, e, x, aq _, fun _ => ⟨rfl, rfl, rfl⟩⟩,
  fun _ _ x => x, fun _ _ _ _ arr elem fr h => ⟨arr, elem, fr, lV w ob h, rfl⟩, fun _ h => lV w ob h⟩
theorem Sim.alloc (H : Sim w C st bs) (ob : Obj) : Sim { w with heap := w.heap.push ob } C st bs ∧ Ext w C { w with heap := w.heap.push ob } C := by
 have hx := Ext.BT (C := C) H.Sok H.low.1 ob; refine ⟨⟨?_, H.dom, H.inj, ?_, ?_, H.hP, H.ng, H.bnd, ⟨Nat.le_trans H.low.1 (by simp), H.low.2⟩, ?_, H.jE, H.jW⟩, hx⟩
 · intro h' b' ds hd
   obtain ⟨B2, arr2, elem2, fr2, c1, c2, c3, c4, c5, c6, c7, c8⟩ := H.blk h' b' ds hd; exact ⟨B2, arr2, elem2, fr2, c1, lV w ob c2, c3, c4, c5, c6, fun o x p hx' hp => (c7 o x p hx' hp).mono hx, fun m t l hm hbm o x p hx' hp => (c8 m t l hm hbm o x p hx' hp).mono (hx.cut m t l)⟩
 · intro B2 o x; have := H.Sok B2 o x; simp; omega
 · intro h' t B2 f to e s x
   refine ⟨(H.tok h' t B2 f to e s x).1, fun o h1 h2 => ?_⟩; obtain ⟨g1, g2, arr, elem, fr, g3, g4, g5⟩ := (H.tok h' t B2 f to e s x).2 o h1 h2; exact ⟨g1, g2, arr, elem, fr, lV w ob g3, g4, g5⟩
 · intro i r hr
   obtain ⟨B, h1, h2⟩ := H.lps i r hr; exact ⟨B, h1, h2.mono hx fun _ a _ => lV w ob a⟩
def Ctx.lay (C : Ctx) (h : Bool) (n B : Nat) : Ctx := ⟨C.S, fun h' b => if h' = h ∧ b = n then some B else C.σ h' b, C.tl, C.lp, C.N⟩
theorem Sim.Cl (H : Sim w C st bs) (h : Bool) {B : Nat} {arr : Array Value} {elem : TypeId} {fr : Nat × Nat} {cs : List PV} (hB : w.heap[B]? = some (.cells arr elem fr)) (hfr : ∀ o, hU fr o)
 (hS : ∀ o, ¬ C.S B o) (hN : C.N ≤ B) (hσ : ∀ h' b', C.σ h' b' = some B → st.blk h' b' = some [])
 (htk : ∀ o t B' f to e s i, C.tl o t = some (B', f, to, e, s) → f ≤ i → i < to → B' ≠ B) (hlen : cs.length ≤ arr.size)
 (hone : ∀ (o : Nat) (x : Value), arr[o]? = some x → x.oneCell' = true)
 (hrep : ∀ (o : Nat) (x : Value) (p : PV), arr[o]? = some x → cs[o]? = some p → Rep w C x p)
 (hcut : ∀ m t l, (m, t, l) ∈ bs → h = true → ∀ (o : Nat) (x : Value) (p : PV), arr[o]? = some x → cs[o]? = some p → Rep w (C.cut m t l) x p) :
 Sim w (C.lay h (st.len h) B) (st.lay h cs) bs ∧ Ext w C w (C.lay h (st.len h) B) := by
 have hx : Ext w C w (C.lay h (st.len h) B) := by
  refine Ext.same rfl (fun _ _ x => x) ?_ (fun _ _ B f to e _ x => ⟨B, f, to, e, x, aq _, fun _ => ⟨rfl, rfl, rfl⟩⟩) (fun _ _ x => x); intro a b B' x; simp only [Ctx.lay]; rw [if_neg (by rintro ⟨rfl, rfl⟩; have := H.DF x; omega)]; exact x
 refine ⟨⟨?_, ?_, ?_, H.Sok, ?_, ?_, H.ng, ?_, ?_, ?_, ?_, H.jW⟩, hx⟩
 · intro a b ds hb
   rw [nK] at hb; split at hb
   · rename_i hab
     obtain ⟨rfl, rfl⟩ := hab; obtain rfl := Option.some.inj hb; refine ⟨B, arr, elem, fr, by simp [Ctx.lay], hB, hlen, hfr, fun _ => hS, hone, fun o x p hx' hp => (hrep o x p hx' hp).mono hx, ?_⟩; intro m t l hm hbm o x p hx' hp
     rcases hbm with hbm | hbm
     · exact (hcut m t l hm hbm o x p hx' hp).mono (hx.cut m t l)
     · have := (H.bnd m t l hm).1
       cases a with
       | true => exact (hcut m t l hm rfl o x p hx' hp).mono (hx.cut m t l)
       | false => simp only [St.len] at hbm; omega
   · rename_i hab
     obtain ⟨B', arr', elem', fr', h1, h2, h3, h4, h5, h6, h7, h8⟩ := H.blk a b ds hb; exact ⟨B', arr', elem', fr', hx.σ _ _ _ h1, h2, h3, h4, h5, h6, fun o x p hx' hp => (h7 o x p hx' hp).mono hx, fun m t l hm hbm o x p hx' hp => (h8 m t l hm hbm o x p hx' hp).mono (hx.cut m t l)⟩
 · intro a b B' x
   rw [nK]; split
   · exact ⟨_, rfl⟩
   · rename_i hab
     simp only [Ctx.lay] at x; rw [if_neg hab] at x; exact H.dom a b B' x
 · intro a b a' b' B' x y
   simp only [Ctx.lay] at x y; rw [nK, nK]; split at x
   · rename_i e1
     split at y
     · rename_i e2; exact cH ⟨e1.1.trans e2.1.symm, e1.2.trans e2.2.symm⟩
     · rename_i e2
       obtain rfl := Option.some.inj x
       right; right
       rw [if_neg e2]; exact hσ _ _ y
   · rename_i e1
     split at y
     · rename_i e2
       obtain rfl := Option.some.inj y
       right; left
       rw [if_neg e1]; exact hσ _ _ x
     · rename_i e2
       rw [if_neg e1, if_neg e2]; exact H.inj a b a' b' B' x y
 · intro o t B' f to e s x
   rw [xB]; refine ⟨(H.tok o t B' f to e s x).1, fun i a b => ?_⟩; obtain ⟨g1, g2, g3⟩ := (H.tok o t B' f to e s x).2 i a b; refine ⟨g1, ⟨fun a' b' => ?_, g2.2⟩, g3⟩; simp only [Ctx.lay]; split
   · intro q
     exact htk o t B' f to e s i x a b (Option.some.inj q).symm
   · exact g2.1 a' b'
 · intro o t e s x
   rw [xB] at x; exact H.hP o t e s x
 · intro m t l hm
   have := H.bnd m t l hm; have h1 := BO st h cs false; rw [DC, vL]; refine ⟨?_, this.2⟩; have h2 : (st.lay h cs).stk.length = (st.lay h cs).len false := rfl; rw [h2, h1]; have h3 : st.stk.length = st.len false := rfl; split
   · rename_i q; rw [← q]; omega
   · omega
 · refine ⟨H.low.1, fun a b B' x => ?_, H.low.2.2⟩
   simp only [Ctx.lay] at x; split at x
   · obtain rfl := Option.some.inj x; exact hN
   · exact H.low.2.1 a b B' x
 · intro i r hr
   rw [vL] at hr; obtain ⟨B', h1, h2⟩ := H.lps i r hr; exact ⟨B', h1, h2.mono hx fun _ a _ => a⟩
 · intro i B' x
   rw [vL]; exact H.jE i B' x
theorem Sim.lay (H : Sim w C st bs) (h : Bool) (arr : Array Value) (elem : TypeId) (cs : List PV)
 (hlen : cs.length ≤ arr.size) (hone : ∀ (o : Nat) (x : Value), arr[o]? = some x → x.oneCell' = true)
 (hrep : ∀ (o : Nat) (x : Value) (p : PV), arr[o]? = some x → cs[o]? = some p → Rep w C x p)
 (hcut : ∀ m t l, (m, t, l) ∈ bs → h = true → ∀ (o : Nat) (x : Value) (p : PV), arr[o]? = some x → cs[o]? = some p → Rep w (C.cut m t l) x p) :
 Sim { w with heap := w.heap.push (.cells arr elem (0, 0)) } (C.lay h (st.len h) w.heap.size) (st.lay h cs) bs ∧ Ext w C { w with heap := w.heap.push (.cells arr elem (0, 0)) } (C.lay h (st.len h) w.heap.size) := by
 obtain ⟨h1, h2⟩ := H.alloc (.cells arr elem (0, 0))
 obtain ⟨g1, g2⟩ := h1.Cl h (B := w.heap.size) (arr := arr) (elem := elem) (fr := (0, 0)) (cs := cs) (by simp) (fun o => by simp [hU]) (fun o x => by have := H.Sok _ _ x; omega) H.low.1
  (fun h' b' x => by have := H.σlt x; omega) (fun o t B' f to e s i x a b => by
   obtain ⟨_, _, arr', elem', fr', q, _⟩ := (H.tok o t B' f to e s x).2 i a b; have := (Array.getElem?_eq_some_iff.1 q).1
   omega) hlen hone (fun o x p a b => (hrep o x p a b).mono h2) (fun m t l hm hh o x p a b => (hcut m t l hm hh o x p a b).mono (h2.cut m t l))
 exact ⟨g1, h2.trans g2⟩
end
def iq (c : Array Value) (off : Nat) : List Value → Array Value
 | [] => c
 | v :: vs => iq (c.setIfInBounds off v) (off + 1) vs
theorem gF : ∀ (vs : List Value) (c : Array Value) (off : Nat), (iq c off vs).size = c.size
 | [], _, _ => rfl
 | v :: vs, c, off => by rw [iq, gF vs]; simp
theorem gy : ∀ (vs : List Value) (c : Array Value) (off i : Nat), off + vs.length ≤ c.size →
 (iq c off vs)[i]? = if off ≤ i ∧ i < off + vs.length then vs[i - off]? else c[i]?
 | [], c, off, i, _ => by rw [iq, if_neg (by simp <;> omega)]
 | v :: vs, c, off, i, h => by
  simp only [ak] at h ⊢; rw [iq, gy vs _ (off + 1) i (by simp; omega)]
  by_cases h1 : off + 1 ≤ i ∧ i < off + 1 + vs.length
  · rw [if_pos h1, if_pos (by omega), show i - off = (i - (off + 1)) + 1 by omega, ay]
  · rw [if_neg h1]
    by_cases h2 : i = off
    · subst h2
      rw [if_pos (by omega), Nat.sub_self, Array.getElem?_setIfInBounds_self_of_lt (by omega), aC]
    · rw [if_neg (by omega), dR (Ne.symm h2)]
theorem jV : ∀ (cs : List PV) (l : List PV) (off : Nat), (laid l off cs).length = l.length
 | [], _, _ => rfl
 | c :: cs, l, off => by rw [laid, jV cs]; simp
theorem n0 : ∀ (cs : List PV) (l : List PV) (off i : Nat), off + cs.length ≤ l.length →
 (laid l off cs)[i]? = if off ≤ i ∧ i < off + cs.length then cs[i - off]? else l[i]?
 | [], l, off, i, _ => by rw [laid, if_neg (by simp <;> omega)]
 | v :: vs, l, off, i, h => by
  simp only [ak] at h ⊢; rw [laid, n0 vs _ (off + 1) i (by simp; omega)]
  by_cases h1 : off + 1 ≤ i ∧ i < off + 1 + vs.length
  · rw [if_pos h1, if_pos (by omega), show i - off = (i - (off + 1)) + 1 by omega, ay]
  · rw [if_neg h1]
    by_cases h2 : i = off
    · subst h2
      rw [if_pos (by omega), Nat.sub_self, List.getElem?_set_self (by omega), aC]
    · rw [if_neg (by omega), List.getElem?_set_ne (Ne.symm h2)]
theorem oi (w : World) (b o : Nat) (v : Value) (B : Nat) : (w.setCell ⟨b, o, none⟩ v).heap[B]? =
 if B = b then (match w.heap[b]? with | some (.cells c e fr) => some (.cells (c.setIfInBounds o v) e fr) | x => x) else w.heap[B]? := by
 simp only [World.setCell, Array.getElem?_modify]
 by_cases h : b = B
 · subst h
   simp only [if_true]
   cases w.heap[b]? with
   | none => rfl
   | some x => cases x <;> rfl
 · rw [if_neg h, if_neg (Ne.symm h)]
theorem fN : ∀ (vs : List Value) (w : World) (b o B : Nat), (w.setCells b o vs).heap[B]? =
 if B = b then (match w.heap[b]? with | some (.cells c e fr) => some (.cells (iq c o vs) e fr) | x => x) else w.heap[B]?
 | [], w, b, o, B => by
  simp only [World.setCells, iq]; split
  · rename_i h; subst h; split <;> rename_i h <;> simp [h]
  · rfl
 | v :: vs, w, b, o, B => by
  rw [World.setCells, fN vs, oi, oi]; simp only [if_true]
  by_cases h : B = b
  · rw [if_pos h, if_pos h]
    cases w.heap[b]? with
    | none => rfl
    | some x => cases x <;> rfl
  · rw [if_neg h, if_neg h, if_neg h]
theorem setCells_size (w : World) (b : Nat) : ∀ (vs : List Value) (o : Nat) , (w.setCells b o vs).heap.size = w.heap.size := by
 intro vs
 induction vs generalizing w with
 | nil => intro o; rfl
 | cons v vs ih => intro o; rw [World.setCells, ih]; simp [World.setCell]
theorem rJ {N B : Nat} (hB : N ≤ B) : ∀ (vs : List Value) (off : Nat) (w : World), Below N w (w.setCells B off vs)
 | [], _, _ => Below.refl _ _
 | v :: vs, off, w => ((Below.refl N w).setCell (p := ⟨B, off, none⟩) hB v).trans (rJ hB vs (off + 1) _)
theorem gI (w : World) (b off : Nat) (vs : List Value) {B : Nat} {arr : Array Value} {elem : TypeId} {fr : Nat × Nat} (h : w.heap[B]? = some (.cells arr elem fr)) :
 (w.setCells b off vs).heap[B]? = some (.cells (if B = b then iq arr off vs else arr) elem fr) := by
 rw [fN]
 by_cases e : B = b
 · subst e; rw [if_pos rfl, if_pos rfl, h]
 · rw [if_neg e, if_neg e]; exact h
theorem jM (w : World) (b off : Nat) (vs : List Value) {B : Nat} {ob : Obj} (h : w.heap[B]? = some ob) (ho : ∀ arr elem fr, ob ≠ .cells arr elem fr) :
 (w.setCells b off vs).heap[B]? = some ob := by
 rw [fN]
 by_cases e : B = b
 · subst e
   rw [if_pos rfl, h]
   cases ob <;> first | rfl | exact absurd rfl (ho _ _ _)
 · rw [if_neg e]; exact h
theorem Ext.z7 {w : World} {C : Ctx} {B off : Nat} {vs : List Value} (h : ∀ i, off ≤ i → i < off + vs.length → ¬ C.S B i) (hN : vs = [] ∨ C.N ≤ B) : Ext w C (w.setCells B off vs) C := by
 refine ⟨by rw [setCells_size]; exact aq _, rfl, (by
  rcases hN with rfl | hN
  · exact Below.refl _ _
  · exact rJ hN vs off w), fun _ _ x => x, ?_, fun _ _ _ x => x, fun _ _ B f to e _ x => ⟨B, f, to, e, x, aq _, fun _ => ⟨rfl, rfl, rfl⟩⟩, fun _ _ x => x, ?_, ?_⟩
 · intro B' o x
   refine World.cell?_setCells_out B vs off w _ fun h1 _ => ?_
   simp only at h1 ⊢; subst h1
   by_cases q : off ≤ o ∧ o < off + vs.length
   · exact absurd x (h o q.1 q.2)
   · omega
 · intro a b B' x arr elem fr y
   refine ⟨_, _, _, gI w B off vs y, ?_⟩; split
   · exact gF _ _ _
   · rfl
 · intro D x
   exact jM w B off vs x (by intro _ _ _ q; cases q)
theorem o7 {w : World} {C : Ctx} {B off : Nat} {vs : List Value} {B' o : Nat} (x : spare w C B' o) : spare (w.setCells B off vs) C B' o := by
 obtain ⟨h1, h2, arr, elem, fr, h3, h4, h5⟩ := x; refine ⟨h1, h2, _, _, _, gI w B off vs h3, ?_, h5⟩; split
 · rw [gF]; exact h4
 · exact h4
section
variable {w : World} {C : Ctx} {st : St} {bs : List (Nat × Nat × Nat)}
theorem Sim.put (H : Sim w C st bs) {h : Bool} {b B off : Nat} {old ds : List PV} {vs : List Value} {arr : Array Value} {elem : TypeId} {fr : Nat × Nat}
 (hσ : C.σ h b = some B) (hb : st.blk h b = some old) (hB : w.heap[B]? = some (.cells arr elem fr)) (hl : ds.length ≤ arr.size) (hone : ∀ v ∈ vs, v.oneCell' = true) (hin : off + vs.length ≤ arr.size)
 (hne : old ≠ [] ∨ vs = [] ∧ ds = [])
 (hrep : ∀ (o : Nat) (x : Value) (p : PV), (iq arr off vs)[o]? = some x → ds[o]? = some p → Rep w C x p)
 (hcut : ∀ m t l, (m, t, l) ∈ bs → (h = true ∨ b < m) → ∀ (o : Nat) (x : Value) (p : PV), (iq arr off vs)[o]? = some x → ds[o]? = some p → Rep w (C.cut m t l) x p) :
 Sim (w.setCells B off vs) C (st.af h b ds) bs ∧ Ext w C (w.setCells B off vs) C := by
 obtain ⟨B', arr', elem', fr', a1, a2, a3, a4, a5, a6, a7, a8⟩ := H.blk h b old hb; rw [hσ] at a1; obtain rfl := Option.some.inj a1; rw [hB] at a2
 obtain ⟨rfl, rfl, rfl⟩ : arr = arr' ∧ elem = elem' ∧ fr = fr' := by cases a2; exact ⟨rfl, rfl, rfl⟩
 have hx : Ext w C (w.setCells B off vs) C := Ext.z7 (fun i k1 k2 => by
  rcases hne with hne | ⟨rfl, _⟩
  · exact a5 hne i
  · simp at k2; omega) (cD (H.low.2.1 _ _ _ hσ))
 refine ⟨⟨?_, ?_, ?_, ?_, ?_, ?_, H.ng, ?_, ⟨by rw [setCells_size]; exact H.low.1, H.low.2⟩, ?_, ?_, H.jW⟩, hx⟩
 · intro h' b' es hd
   rw [jq st h b _ h' b' hb] at hd
   by_cases e : h' = h ∧ b' = b
   · obtain ⟨rfl, rfl⟩ := e
     rw [if_pos ⟨rfl, rfl⟩] at hd; obtain rfl := Option.some.inj hd; refine ⟨B, iq arr off vs, elem, fr, hσ, ?_, ?_, a4, ?_, ?_, fun o x p hx' hp => (hrep o x p hx' hp).mono hx, fun m t l hm hbm o x p hx' hp => (hcut m t l hm hbm o x p hx' hp).mono (hx.cut m t l)⟩
     · rw [fN, if_pos rfl, hB]
     · rw [gF]; exact hl
     · intro q
       rcases hne with hne | ⟨_, rfl⟩
       · exact a5 hne
       · exact absurd rfl q
     · intro o x hx'
       rw [gy vs arr off o hin] at hx'; split at hx'
       · exact hone x (dS hx')
       · exact a6 o x hx'
   · rw [if_neg e] at hd
     obtain ⟨B2, arr2, elem2, fr2, c1, c2, c3, c4, c5, c6, c7, c8⟩ := H.blk h' b' es hd
     by_cases hBB : B2 = B
     · subst hBB
       rcases H.inj _ _ _ _ _ c1 hσ with q | q | q
       · exact absurd q e
       · rw [hd] at q
         obtain rfl := Option.some.inj q; refine ⟨B2, _, _, _, c1, gI w B2 off vs c2, dh _, c4, fun q => absurd rfl q, ?_, by simp, by simp⟩; rw [c2] at hB; cases hB; intro o x hx'; rw [if_pos rfl, gy vs arr off o hin] at hx'; split at hx'
         · exact hone x (dS hx')
         · exact a6 o x hx'
       · rw [hb] at q
         obtain rfl := Option.some.inj q
         rcases hne with hne | ⟨rfl, rfl⟩
         · exact absurd rfl hne
         · exact ⟨B2, arr2, elem2, fr2, c1, c2, c3, c4, c5, c6, c7, c8⟩
     · refine ⟨B2, arr2, elem2, fr2, c1, ?_, c3, c4, c5, c6, fun o x p hx' hp => (c7 o x p hx' hp).mono hx, fun m t l hm hbm o x p hx' hp => (c8 m t l hm hbm o x p hx' hp).mono (hx.cut m t l)⟩
       rw [fN, if_neg hBB]; exact c2
 · intro h' b' B2 x
   rw [jq st h b _ h' b' hb]; split
   · exact ⟨_, rfl⟩
   · exact H.dom h' b' B2 x
 · intro h1 b1 h2 b2 B2 x y
   rw [jq st h b _ h1 b1 hb, jq st h b _ h2 b2 hb]
   rcases H.inj h1 b1 h2 b2 B2 x y with q | q | q
   · exact cH q
   · split
     · rename_i e
       obtain ⟨rfl, rfl⟩ := e; rw [hb] at q; obtain rfl := Option.some.inj q
       rcases hne with hne | ⟨_, rfl⟩
       · exact absurd rfl hne
       · exact cD (cH rfl)
     · exact cD (cH q)
   · right
     split
     · rename_i e
       obtain ⟨rfl, rfl⟩ := e
       by_cases e2 : h2 = h1 ∧ b2 = b1
       · obtain ⟨rfl, rfl⟩ := e2
         rw [hb] at q; obtain rfl := Option.some.inj q
         rcases hne with hne | ⟨_, rfl⟩
         · exact absurd rfl hne
         · exact cH rfl
       · rw [if_neg e2]; exact cD q
     · by_cases e2 : h2 = h ∧ b2 = b
       · obtain ⟨rfl, rfl⟩ := e2
         rw [hb] at q; obtain rfl := Option.some.inj q
         rcases hne with hne | ⟨_, rfl⟩
         · exact absurd rfl hne
         · rw [if_pos ⟨rfl, rfl⟩]; exact cD rfl
       · rw [if_neg e2]; exact cD q
 · intro B2 o x; rw [setCells_size]; exact H.Sok B2 o x
 · intro h' t B2 f to e s x
   exact ⟨by rw [rn]; exact (H.tok h' t B2 f to e s x).1, fun o h1 h2 => o7 ((H.tok h' t B2 f to e s x).2 o h1 h2)⟩
 · intro h' t e s x
   rw [rn] at x; exact H.hP h' t e s x
 · intro m t l hm
   have := H.bnd m t l hm; have h1 : (st.af h b ds).stk.length = st.stk.length := n7 st h b _ false; rw [h1, St.af, rm, qJ]; exact this
 · intro i r hr
   rw [St.af, qJ] at hr; obtain ⟨B2, h1, h2⟩ := H.lps i r hr; exact ⟨B2, h1, h2.mono hx fun _ a b => jM w B off vs a b⟩
 · intro i B2 x
   rw [St.af, qJ]; exact H.jE i B2 x
theorem Sim.store (H : Sim w C st bs) {h : Bool} {b B off : Nat} {old cs : List PV} {vs : List Value}
 (hσ : C.σ h b = some B) (hb : st.blk h b = some old) (hl : vs.length = cs.length) (hr : off + cs.length ≤ old.length)
 (hone : ∀ v ∈ vs, v.oneCell' = true) (hrep : ∀ (i : Nat) (x : Value) (p : PV), vs[i]? = some x → cs[i]? = some p → Rep w C x p)
 (hcut : ∀ m t l, (m, t, l) ∈ bs → (h = true ∨ b < m) → ∀ (i : Nat) (x : Value) (p : PV), vs[i]? = some x → cs[i]? = some p → Rep w (C.cut m t l) x p) :
 Sim (w.setCells B off vs) C (st.af h b (laid old off cs)) bs ∧ Ext w C (w.setCells B off vs) C := by
 obtain ⟨B', arr, elem, fr, a1, a2, a3, a4, a5, a6, a7, a8⟩ := H.blk h b old hb; rw [hσ] at a1; obtain rfl := Option.some.inj a1; refine H.put hσ hb a2 (by rw [jV]; exact a3) hone (by omega) ?_ ?_ ?_
 · by_cases q : old = []
   · right
     subst q; simp at hr; obtain ⟨rfl, hr⟩ := hr; subst hr; simp at hl; exact ⟨hl, rfl⟩
   · exact cH q
 · intro o x p hx' hp
   rw [gy vs arr off o (by omega)] at hx'; rw [n0 cs old off o (by omega), ← hl] at hp; split at hx'
   · rename_i hin; rw [if_pos hin] at hp; exact hrep _ x p hx' hp
   · rename_i hin; rw [if_neg hin] at hp; exact a7 o x p hx' hp
 · intro m t l hm hbm o x p hx' hp
   rw [gy vs arr off o (by omega)] at hx'; rw [n0 cs old off o (by omega), ← hl] at hp; split at hx'
   · rename_i hin; rw [if_pos hin] at hp; exact hcut m t l hm hbm _ x p hx' hp
   · rename_i hin; rw [if_neg hin] at hp; exact a8 m t l hm hbm o x p hx' hp
theorem Sim.shut (H : Sim w C st bs) {h : Bool} {b : Nat} {old : List PV} (hb : st.blk h b = some old) : Sim w C (st.af h b []) bs := by
 obtain ⟨B, arr, elem, fr, a1, a2, a3, a4, a5, a6, a7, a8⟩ := H.blk h b old hb; have := (H.put (vs := []) (off := 0) (ds := []) a1 hb a2 (dh _) (by simp) (by simp) (cD ⟨rfl, rfl⟩) (by simp) (by simp)).1; simpa [World.setCells] using this
theorem Sim.Ao (H : Sim w C st bs) {B off : Nat} {vs : List Value}
 (hS : ∀ i, off ≤ i → i < off + vs.length → ¬ C.S B i) (hσ : vs ≠ [] → (∀ h b, C.σ h b ≠ some B) ∧ C.N ≤ B) :
 Sim (w.setCells B off vs) C st bs ∧ Ext w C (w.setCells B off vs) C := by
 have hx : Ext w C (w.setCells B off vs) C := Ext.z7 hS (by cases vs with | nil => exact cH rfl | cons v vs => exact cD (hσ (by simp)).2); refine ⟨⟨?_, H.dom, H.inj, ?_, ?_, H.hP, H.ng, H.bnd, ⟨by rw [setCells_size]; exact H.low.1, H.low.2⟩, ?_, H.jE, H.jW⟩, hx⟩
 · intro h' b' ds hd
   obtain ⟨B2, arr2, elem2, fr2, c1, c2, c3, c4, c5, c6, c7, c8⟩ := H.blk h' b' ds hd; refine ⟨B2, arr2, elem2, fr2, c1, ?_, c3, c4, c5, c6, fun o x p hx' hp => (c7 o x p hx' hp).mono hx, fun m t l hm hbm o x p hx' hp => (c8 m t l hm hbm o x p hx' hp).mono (hx.cut m t l)⟩
   cases vs with
   | nil => exact c2
   | cons v vs =>
    have hne : B2 ≠ B := fun q => by subst q; exact (hσ (by simp)).1 _ _ c1
    rw [fN, if_neg hne]; exact c2
 · intro B2 o x; rw [setCells_size]; exact H.Sok B2 o x
 · intro h' t B2 f to e s x
   exact ⟨(H.tok h' t B2 f to e s x).1, fun o h1 h2 => o7 ((H.tok h' t B2 f to e s x).2 o h1 h2)⟩
 · intro i r hr
   obtain ⟨B2, h1, h2⟩ := H.lps i r hr; exact ⟨B2, h1, h2.mono hx fun _ a b => jM w B off vs a b⟩
theorem Sim.heap {w' : World} (H : Sim w C st bs) (e : w'.heap = w.heap) (e1 : w'.os = w.os) (e2 : w'.tape = w.tape) (e3 : w'.output = w.output) : Sim w' C st bs ∧ Ext w C w' C := by
 have hx : Ext w C w' C := ⟨by rw [e]; exact aq _, rfl, ⟨e1, e2, e3, by rw [e]; exact aq _, fun k _ => by rw [e]⟩, fun _ _ x => x, fun B o _ => by simp only [World.cell?, e], fun _ _ _ x => x, fun _ _ B f to e _ x => ⟨B, f, to, e, x, aq _, fun _ => ⟨rfl, rfl, rfl⟩⟩,
  fun _ _ x => x, fun _ _ _ _ arr elem fr h => ⟨arr, elem, fr, by rw [e]; exact h, rfl⟩, fun _ h => by rw [e]; exact h⟩
 refine ⟨⟨?_, H.dom, H.inj, by rw [e]; exact H.Sok, ?_, H.hP, H.ng, H.bnd, by rw [e]; exact H.low, ?_, H.jE, H.jW⟩, hx⟩
 · intro h' b' ds hd
   obtain ⟨B2, arr2, elem2, fr2, c1, c2, c3, c4, c5, c6, c7, c8⟩ := H.blk h' b' ds hd; exact ⟨B2, arr2, elem2, fr2, c1, by rw [e]; exact c2, c3, c4, c5, c6, fun o x p hx' hp => (c7 o x p hx' hp).mono hx, fun m t l hm hbm o x p hx' hp => (c8 m t l hm hbm o x p hx' hp).mono (hx.cut m t l)⟩
 · intro h' t B2 f to e' s x
   refine ⟨(H.tok h' t B2 f to e' s x).1, fun o h1 h2 => ?_⟩; obtain ⟨g1, g2, arr, elem, fr, g3, g4, g5⟩ := (H.tok h' t B2 f to e' s x).2 o h1 h2; exact ⟨g1, g2, arr, elem, fr, by rw [e]; exact g3, g4, g5⟩
 · intro i r hr
   obtain ⟨B2, h1, h2⟩ := H.lps i r hr; exact ⟨B2, h1, h2.mono hx fun _ a _ => by rw [e]; exact a⟩
noncomputable def Ctx.gr (C : Ctx) (X : Nat → Nat → Prop) (o : Ow) (t : Nat) (y : Nat × Nat × Nat × Nat × Nat) : Ctx :=
 ⟨fun B i => C.S B i ∨ X B i, C.σ, fun o' t' => open Classical in if o' = o ∧ t' = t then some y else C.tl o' t', C.lp, C.N⟩
theorem Sim.gr {st' : St} (H : Sim w C st bs) {X : Nat → Nat → Prop} {o : Ow} {t B f to e s : Nat}
 (hblk : ∀ a b, st'.blk a b = st.blk a b) (htok : ∀ o' t', st'.tok o' t' = open Classical in if o' = o ∧ t' = t then some (e, s) else st.tok o' t')
 (hstk : st'.stk.length = st.stk.length) (htk : st.tk.length ≤ st'.tk.length) (hlp : st'.lp = st.lp)
 (hX : ∀ B i, X B i → B < w.heap.size ∧ (∀ a b cs, C.σ a b = some B → st.blk a b = some cs → cs = []))
 (hself : ∀ i, f ≤ i → i < to → spare w C B i ∧ ¬ X B i)
 (hother : ∀ o' t' B' f' to' e' s', C.tl o' t' = some (B', f', to', e', s') → ¬ (o' = o ∧ t' = t) → ∀ i, f' ≤ i → i < to' → ¬ X B' i ∧ (B' = B → i < f ∨ to ≤ i))
 (hgo : ∀ B' f' to' e' s', C.tl o t = some (B', f', to', e', s') → s' = s ∧ e' ≤ e ∧ (e' = e → B' = B ∧ f' = f ∧ to' = to)) :
 Sim w (C.gr X o t (B, f, to, e, s)) st' bs ∧ Ext w C w (C.gr X o t (B, f, to, e, s)) := by
 classical
 have hx : Ext w C w (C.gr X o t (B, f, to, e, s)) := by
  refine Ext.same rfl (fun _ _ x => cH x) (fun _ _ _ x => x) ?_ (fun _ _ x => x); intro h' t' B' f' to' e' s' x; simp only [Ctx.gr]
  by_cases q : h' = o ∧ t' = t
  · obtain ⟨rfl, rfl⟩ := q
    rw [if_pos ⟨rfl, rfl⟩]; obtain ⟨rfl, g1, g2⟩ := hgo B' f' to' e' s' x; exact ⟨B, f, to, e, rfl, g1, fun q => by obtain ⟨rfl, rfl, rfl⟩ := g2 q; exact ⟨rfl, rfl, rfl⟩⟩
  · rw [if_neg q]
    exact ⟨B', f', to', e', x, aq _, fun _ => ⟨rfl, rfl, rfl⟩⟩
 refine ⟨⟨?_, ?_, ?_, ?_, ?_, ?_, ?_, ?_, H.low, ?_, ?_, H.jW⟩, hx⟩
 · intro h' b' ds hd
   rw [hblk] at hd; obtain ⟨B2, arr2, elem2, fr2, c1, c2, c3, c4, c5, c6, c7, c8⟩ := H.blk h' b' ds hd; refine ⟨B2, arr2, elem2, fr2, c1, c2, c3, c4, ?_, c6, fun o x p hx' hp => (c7 o x p hx' hp).mono hx, fun m t l hm hbm o x p hx' hp => (c8 m t l hm hbm o x p hx' hp).mono (hx.cut m t l)⟩
   rintro hne o (x | x)
   · exact c5 hne o x
   · exact hne ((hX _ _ x).2 _ _ _ c1 hd)
 · intro a b B2 x; rw [hblk]; exact H.dom a b B2 x
 · intro a b a' b' B2 x y; rw [hblk, hblk]; exact H.inj a b a' b' B2 x y
 · rintro B2 o (x | x)
   · exact H.Sok B2 o x
   · exact (hX _ _ x).1
 · intro h' t' B' f' to' e' s' x
   rw [htok]; simp only [Ctx.gr] at x; split at x
   · rename_i q
     simp only [Option.some.injEq, Prod.mk.injEq] at x; obtain ⟨rfl, rfl, rfl, rfl, rfl⟩ := x; rw [if_pos q]; refine ⟨rfl, fun o h1 h2 => ?_⟩; obtain ⟨⟨g1, g2, g3⟩, g4⟩ := hself o h1 h2; exact ⟨fun z => z.elim g1 g4, g2, g3⟩
   · rename_i q
     rw [if_neg q]; refine ⟨(H.tok h' t' B' f' to' e' s' x).1, fun o h1 h2 => ?_⟩; obtain ⟨g1, g2, g3⟩ := (H.tok h' t' B' f' to' e' s' x).2 o h1 h2; exact ⟨fun z => z.elim g1 (hother h' t' B' f' to' e' s' x q o h1 h2).1, g2, g3⟩
 · intro h' t' e' s' x
   rw [htok] at x; simp only [Ctx.gr]; split at x
   · rename_i q
     rw [if_pos q]; obtain ⟨rfl, rfl⟩ := Prod.mk.inj (Option.some.inj x); exact ⟨B, f, to, rfl⟩
   · rename_i q
     rw [if_neg q]; exact H.hP h' t' e' s' x
 · intro h1 t1 h2 t2 B' f1 to1 e1 s1 f2 to2 e2 s2 x y
   simp only [Ctx.gr] at x y; split at x
   · rename_i q1
     split at y
     · rename_i q2
       exact cH ⟨q1.1.trans q2.1.symm, q1.2.trans q2.2.symm⟩
     · rename_i q2
       simp only [Option.some.injEq, Prod.mk.injEq] at x; obtain ⟨rfl, rfl, rfl, rfl, rfl⟩ := x
       refine cD fun o a b c d => ?_
       rcases (hother h2 t2 B f2 to2 e2 s2 y q2 o c d).2 rfl with z | z <;> omega
   · rename_i q1
     split at y
     · rename_i q2
       simp only [Option.some.injEq, Prod.mk.injEq] at y; obtain ⟨rfl, rfl, rfl, rfl, rfl⟩ := y
       refine cD fun o a b c d => ?_
       rcases (hother h1 t1 B f1 to1 e1 s1 x q1 o a b).2 rfl with z | z <;> omega
     · exact H.ng h1 t1 h2 t2 B' f1 to1 e1 s1 f2 to2 e2 s2 x y
 · intro m t' l hm
   have := H.bnd m t' l hm; rw [hstk, hlp]; exact ⟨this.1, by omega, this.2.2⟩
 · intro i r hr
   rw [hlp] at hr; obtain ⟨B2, h1, h2⟩ := H.lps i r hr; exact ⟨B2, h1, h2.mono hx fun _ a _ => a⟩
 · intro i B2 x
   rw [hlp]; exact H.jE i B2 x
end
theorem vS {α : Type} {P : Program} : ∀ {s : Sem α} {a : α}, eR P s = some a → ∀ w, s.run P w = .ok a w := by
 intro s
 induction s with
 | pure b => intro a h w; obtain rfl := Option.some.inj h; rfl
 | program k ih => intro a h w; exact ih P h w
 | _ => intro a h w; simp [eR] at h
structure Marks (w : World) (lo : Nat) (ds : List Deferred) : Prop where
 le : lo ≤ w.heap.size
 ok : ∀ d ∈ ds, ∃ D, d = ⟨.collected D, #[]⟩ ∧ lo ≤ D ∧ w.heap[D]? = some (.deferred (some []))
 nd : ds.Pairwise fun a b => ∀ D, a.target = .collected D → b.target ≠ .collected D
theorem Marks.nil {w : World} {lo : Nat} (h : lo ≤ w.heap.size) : Marks w lo [] := ⟨h, by simp, .nil⟩
theorem Marks.mono {w w' : World} {C C' : Ctx} {lo : Nat} {ds : List Deferred} (h : Marks w lo ds) (x : Ext w C w' C') : Marks w' lo ds :=
 ⟨Nat.le_trans h.le x.size, fun d hd => by obtain ⟨D, h1, h2, h3⟩ := h.ok d hd; exact ⟨D, h1, h2, x.dfr D h3⟩, h.nd⟩
structure GV where
 cell : Nat → Nat → Option Value
 w0 : World
def lG (gv : GV) (w : World) (C : Ctx) : Prop := (∀ g o v, gv.cell g o = some v → C.S g o ∧ w.cell? ⟨g, o, none⟩ = some v) ∧ gv.w0.heap.size ≤ C.N ∧ Go.RowKit.Below gv.w0.heap.size gv.w0 w
theorem lG.mono {gv : GV} {w w' : World} {C C' : Ctx} (h : lG gv w C) (x : Ext w C w' C') : lG gv w' C' := ⟨fun g o v hv => by
 obtain ⟨h1, h2⟩ := h.1 g o v hv
 exact ⟨x.S _ _ h1, (x.cell _ _ h1).trans h2⟩, x.N ▸ h.2.1, h.2.2.trans (x.below.mono h.2.1)⟩
theorem lG.of {gv : GV} {w : World} {C C' : Ctx} (h : lG gv w C) (x : ∀ B o, C.S B o → C'.S B o) (hN : C'.N = C.N) : lG gv w C' := ⟨fun g o v hv => by
 obtain ⟨h1, h2⟩ := h.1 g o v hv
 exact ⟨x _ _ h1, h2⟩, hN ▸ h.2.1, h.2.2⟩
def GOk (gv : GV) (g : Nat → PV) : Prop := ∀ w C, lG gv w C → ∀ i, Rep w C (.pointer (some ⟨i, 0, none⟩)) (g i)
structure dT (gv : GV) (g : Nat → PV) (lo : Nat) (w : World) (C : Ctx) (e : Env) (n : Nat) (a : Act) : Prop where
 gl : lG gv w C ∧ GOk gv g
 size : a.tmps.size = n
 rep : ∀ i, Rep w C (a.tmps.getD i undef) (e i)
 defers : Marks w lo a.defers
theorem dT.mono {gv : GV} {g : Nat → PV} {lo : Nat} {w w' : World} {C C' : Ctx} {e : Env} {n : Nat} {a : Act} (h : dT gv g lo w C e n a) (x : Ext w C w' C') : dT gv g lo w' C' e n a :=
 ⟨⟨h.gl.1.mono x, h.gl.2⟩, h.size, fun i => (h.rep i).mono x, h.defers.mono x⟩
theorem dT.put {gv : GV} {g : Nat → PV} {lo : Nat} {w : World} {C : Ctx} {e : Env} {n : Nat} {a : Act} (h : dT gv g lo w C e n a) (dst : Option Tmp) {v : Value} {p : PV} (hp : Rep w C v p) : dT gv g lo w C (put n e dst p) n (a.put dst v) := by
 cases dst with
 | none => exact h
 | some d =>
  refine ⟨h.gl, by simp [Act.put, h.size], fun i => ?_, h.defers⟩; simp only [AM.put, Act.put]
  by_cases hd : d < n
  · rw [show fC d n = true from by rw [Nat.blt_eq]; exact hd, cond_true]
    simp only [upd]
    by_cases e1 : i = d
    · subst e1
      rw [Nat.beq_refl, cond_true]
      have : (a.tmps.setIfInBounds i v).getD i undef = v := by
       rw [aH, Array.getElem?_setIfInBounds_self_of_lt (by rw [h.size]; exact hd)]; rfl
      rw [this]; exact hp
    · have e2 : ai i d = false := by
       cases hq : ai i d with
       | false => rfl
       | true => exact absurd (ao hq) e1
      rw [e2, cond_false]
      have : (a.tmps.setIfInBounds d v).getD i undef = a.tmps.getD i undef := by
       rw [aH, dR (Ne.symm e1), ← aH]
      rw [this]; exact h.rep i
  · have e2 : fC d n = false := by
     cases hq : fC d n with
     | false => rfl
     | true => rw [Nat.blt_eq] at hq; exact absurd hq hd
    rw [e2, cond_false]
    have : a.tmps.setIfInBounds d v = a.tmps := by
     have hs := h.size; have hd' : n ≤ d := Nat.le_of_not_lt hd; exact Array.setIfInBounds_eq_of_size_le (by omega)
    rw [this]; exact h.rep i
theorem Ak {w : World} {C : Ctx} {x : Value} : Rep w C x (bif iL x then .v x else .u) := by
 cases h : iL x with
 | true => exact .v h
 | false => exact .u
theorem q6 (w : World) (C : Ctx) (x : Value) : Rep w C x (qN x) := by
 unfold qN; split
 · split
   · exact .slnil trivial
   · exact .u
 · split
   · exact .clo rfl (by simp)
   · exact .u
 · exact Ak
theorem yp (w : World) (C : Ctx) (x : Value) : Rep w C x (ofConst x) := by
 unfold ofConst; split
 · rename_i cs
   cases h : cs.toList.all Value.oneCell' with
   | false => exact .u
   | true =>
    refine .agg (by simp) (fun i x hx => ?_) fun i x p hx hp => ?_
    · rw [dD] at h
      exact h x (dS (by simpa using hx))
    · obtain ⟨q, hq, rfl⟩ := cr hp
      rw [ga, hx] at hq; obtain rfl := Option.some.inj hq; exact q6 w C _
 · exact q6 w C _
theorem cg {gv : GV} {g : Nat → PV} {lo : Nat} {w : World} {C : Ctx} {e : Env} {n : Nat} {a : Act} (h : dT gv g lo w C e n a) (x : Operand) : Rep w C (a.eval x) (dI g e x) := by
 cases x with
 | tmp t => exact h.rep t
 | const v => exact yp w C v
 | global i => exact h.gl.2 w C h.gl.1 i
 | func f => exact .clo rfl (by simp)
def fQ (P : Program) (w : World) (C : Ctx) (s : Sem Value) (p : PV) : Prop := ∃ v, s.run P w = .ok v w ∧ Rep w C v p
theorem gJ {P : Program} {w : World} {C : Ctx} {s : Sem Value} {p : PV} (h : eZ (eR P s) = some p) : fQ P w C s p := by
 cases hs : eR P s with
 | none => rw [hs] at h; simp [eZ] at h
 | some v =>
  rw [hs] at h; simp only [eZ] at h
  cases hf : iL v with
  | false => rw [hf] at h; simp at h
  | true =>
   rw [hf] at h; obtain rfl := Option.some.inj h; exact ⟨v, vS hs w, .v hf⟩
theorem eo {w : World} {C : Ctx} {x a : Value} (h : Rep w C x (.v a)) : x = a ∧ iL a = true := by
 cases h with
 | v h => exact ⟨rfl, h⟩
section
variable {P : Program} {w : World} {C : Ctx}
theorem ku {t : TypeId} {i : TypeInfo} (h : P.info? t = some i) : szT P t = i.size := by simp [szT, h]
theorem rA {t : TypeId} {d : TypeDesc} (h : P.underlying t = some d) : ∃ i, P.info? t = some i := by
 unfold Program.underlying at h
 cases hi : P.info? t with
 | none => rw [hi] at h; simp at h
 | some i => exact ⟨i, rfl⟩
theorem run_sizeOf {t : TypeId} {d : TypeDesc} (h : P.underlying t = some d) (w : World) : (sizeOf t).run P w = .ok (szT P t) w := by
 obtain ⟨i, hi⟩ := rA h; simp [sizeOf, typeInfo, hi, ku hi]
theorem gf {t : TypeId} {i : TypeInfo} (hi : P.info? t = some i) (w : World) : (sizeOf t).run P w = .ok (szT P t) w := by
 simp [sizeOf, typeInfo, hi, ku hi]
theorem gk {t : TypeId} (h : szT P t ≠ 0) : ∃ i, P.info? t = some i := by
 cases hi : P.info? t with
 | none => simp [szT, hi] at h
 | some i => exact ⟨i, rfl⟩
theorem sr {t : TypeId} {d : TypeDesc} (h : P.underlying t = some d) (w : World) : (isAgg t).run P w = .ok (mY P t) w := by
 unfold isAgg mY; rw [Sem.run_bind, run_underlying h]; simp only [Result.andThen_ok, h]
 cases d <;> rfl
theorem lu {t : TypeId} {d : TypeDesc} {xs : Array Value} {cs : List PV} {off : Nat} {p : PV} (hu : P.underlying t = some d) (h : AM.part (mY P t) (szT P t) off cs = some p)
 (hx : Rep w C (.agg xs) (.agg cs)) : fQ P w C (Go.part t xs off) p := by
 cases hx with
 | agg h1 h2 h3 =>
  unfold fQ Go.part; rw [Sem.run_bind, sr hu]; simp only [Result.andThen_ok]
  cases ha : mY P t with
  | true =>
   rw [ha] at h; simp only [AM.part] at h
   cases hb : di (off + szT P t) cs.length with
   | false => rw [hb] at h; simp at h
   | true =>
    rw [hb] at h; obtain rfl := Option.some.inj h; have hle := dP hb; refine ⟨.agg (xs.extract off (off + szT P t)), by simp [run_sizeOf hu], .agg (by simp; omega) ?_ ?_⟩
    · intro i x hx
      rw [Array.getElem?_extract] at hx; split at hx
      · exact h2 _ x hx
      · cases hx
    · intro i x p hx hp
      rw [Array.getElem?_extract] at hx; split at hx
      · rename_i hi
        rw [fc, if_pos (by omega), gD] at hp; exact h3 (off + i) x p hx hp
      · cases hx
  | false =>
   rw [ha] at h; simp only [AM.part] at h; have hlt : off < cs.length := (List.getElem?_eq_some_iff.1 h).1; have hget : xs[off]? = some (xs[off]'(by omega)) := aU (by omega); refine ⟨xs[off]'(by omega), ?_, h3 off _ p hget h⟩; simp [hget]
theorem vx {op : BinOp} {b : Bool} {p : PV} (h : jb op b = some p) : (op = .eql ∧ p = .v (.bool b)) ∨ (op = .neq ∧ p = .v (.bool (!b))) := by
 cases op <;> simp [jb] at h
 · exact cH ⟨rfl, h.symm⟩
 · exact cD ⟨rfl, h.symm⟩
theorem B5 : ∀ (n d : Nat) (t : TypeId) (x y : Value) (p q : PV) (b : Bool), n ≤ d → aEq P n t p q = some b → Rep w C x p → Rep w C y q →
 (Op.equalIn d t x y).run P w = .ok b w := by
 intro n
 induction n with
 | zero => intro d t x y p q b _ h; simp [aEq] at h
 | succ n ih =>
  intro d t x y p q b hd h hx hy
  obtain ⟨d, rfl⟩ : ∃ d', d = d' + 1 := ⟨d - 1, by omega⟩
  simp only [aEq] at h; split at h
  · rename_i hu
    split at h
    · obtain ⟨rfl, _⟩ := eo hx
      obtain ⟨rfl, _⟩ := eo hy; obtain rfl := Option.some.inj h; exact run_equalIn_bool w d t _ _ hu
    · cases h
  · rename_i k0 hu
    split at h
    · rename_i k a k' b'
      obtain ⟨rfl, _⟩ := eo hx; obtain ⟨rfl, _⟩ := eo hy
      by_cases hk : k = k'
      · subst hk
        simp only [decide_true, cond_true, Option.some.injEq] at h; subst h; exact run_equalIn_int w d t k k0 a b' hu
      · simp [hk] at h
    · cases h
  · rename_i hu
    split at h
    · obtain ⟨rfl, _⟩ := eo hx
      obtain ⟨rfl, _⟩ := eo hy; obtain rfl := Option.some.inj h; rw [beq_toListBytes]; exact run_equalIn_string w d t _ _ hu
    · cases h
  · rename_i fs hu
    cases hst : P.stoodInHeld t with
    | true => rw [hst] at h; simp at h
    | false =>
     rw [hst] at h; simp only [cond_false] at h; split at h
     · rename_i cs ds
       cases hx with
       | @agg _ xs _ a1 a2 a3 =>
       cases hy with
       | @agg _ ys _ b1 b2 b3 =>
       have hX : Rep w C (.agg xs) (.agg cs) := .agg a1 a2 a3; have hY : Rep w C (.agg ys) (.agg ds) := .agg b1 b2 b3
       have hfs : P.fieldsOf t = fs := by simp [Program.fieldsOf, hu]
       rw [run_equalIn_struct w d t xs ys (by rw [hfs]; exact hu) hst, hfs]; clear hfs hu hst; generalize fs.toList = l at h
       induction l generalizing b with
       | nil =>
        simp only [Bx, Option.some.injEq] at h; subst h
        rfl
       | cons f l ihl =>
        simp only [Bx] at h
        cases hn : f.name == "_" with
        | true => rw [hn] at h; simp at h
        | false =>
         rw [hn] at h; simp only [cond_false] at h; obtain ⟨u1, hu1, h⟩ := Option.bind_eq_some_iff.1 h; obtain ⟨u2, hu2, h⟩ := Option.bind_eq_some_iff.1 h; obtain ⟨c, hc, h⟩ := Option.bind_eq_some_iff.1 h; obtain ⟨e, he, h⟩ := Option.bind_eq_some_iff.1 h; obtain rfl := Option.some.inj h
         have hund : ∃ dd, P.underlying f.type = some dd := by
          cases n with
          | zero => simp [aEq] at hc
          | succ n =>
           simp only [aEq] at hc
           cases hq : P.underlying f.type with
           | none => rw [hq] at hc; cases hc
           | some dd => exact ⟨dd, rfl⟩
         obtain ⟨dd, hdd⟩ := hund; obtain ⟨v1, r1, p1⟩ := lu (C := C) hdd hu1 hX; obtain ⟨v2, r2, p2⟩ := lu (C := C) hdd hu2 hY; have r3 := ih d f.type v1 v2 u1 u2 c (by omega) hc p1 p2
         have hne : f.name ≠ "_" := by simpa using hn
         simp only [Op.eqFields]; rw [if_pos hne]; simp only [Sem.run_bind, r1, r2, r3, Result.andThen_ok]
         cases c with
         | false => simp
         | true => simp only [bz, ab, if_false, bA]; exact ihl e he
     · cases h
  · cases h
theorem rf {t e : TypeId} (h : P.underlying t = some (.pointer e)) (d : Nat) (a : Addr) : (Op.equalIn (d + 1) t (.pointer (some a)) (.pointer none)).run P w = .ok false w := by simp [Op.equalIn, run_underlying h]
theorem re {t e : TypeId} (h : P.underlying t = some (.pointer e)) (d : Nat) (a : Addr) : (Op.equalIn (d + 1) t (.pointer none) (.pointer (some a))).run P w = .ok false w := by simp [Op.equalIn, run_underlying h]
theorem mS {t e : TypeId} (h : P.underlying t = some (.slice e)) (d : Nat) (a : Addr) (l c l' c' : Nat) : (Op.equalIn (d + 1) t (.slice (some a) l c) (.slice none l' c')).run P w = .ok false w := by simp [Op.equalIn, run_underlying h]
theorem mQ {t : TypeId} {ms : Array (String × TypeId)} (h : P.underlying t = some (.interface ms)) (d : Nat) (ty : TypeId) (v : Value) : (Op.equalIn (d + 1) t (.iface ty v) .nilIface).run P w = .ok false w := by simp [Op.equalIn, run_underlying h]
theorem mR {t : TypeId} {ms : Array (String × TypeId)} (h : P.underlying t = some (.interface ms)) (d : Nat) (ty : TypeId) (v : Value) : (Op.equalIn (d + 1) t .nilIface (.iface ty v)).run P w = .ok false w := by simp [Op.equalIn, run_underlying h]
theorem tw {t : TypeId} {ms : Array (String × TypeId)} (h : P.underlying t = some (.interface ms)) (d : Nat) : (Op.equalIn (d + 1) t .nilIface .nilIface).run P w = .ok true w := by simp [Op.equalIn, run_underlying h]
theorem ra {t e : TypeId} (h : P.underlying t = some (.slice e)) (d : Nat) (l c l' c' : Nat) : (Op.equalIn (d + 1) t (.slice none l c) (.slice none l' c')).run P w = .ok true w := by simp [Op.equalIn, run_underlying h]
theorem fX {op : BinOp} {t : TypeId} {ox oy : Operand} {x y : Value} {b : Bool} {r : PV} (h : jb op b = some r)
 (hg : ∀ op, (eqGuard op t ox oy x y).run P w = .ok () w)
 (h1 : binOp .eql t x y = (Op.equal t x y).bind fun b => .pure (.bool b)) (h2 : binOp .neq t x y = (Op.equal t x y).bind fun b => .pure (.bool (!b)))
 (he : (Op.equalIn 10000 t x y).run P w = .ok b w) : fQ P w C (do eqGuard op t ox oy x y; binOp op t x y) r := by
 have he' : (Op.equal t x y).run P w = .ok b w := he
 rcases vx h with ⟨rfl, rfl⟩ | ⟨rfl, rfl⟩
 · refine ⟨.bool b, ?_, .v rfl⟩
   rw [Sem.run_bind, hg, Result.andThen_ok, h1, Sem.run_bind', he']; rfl
 · refine ⟨.bool (!b), ?_, .v rfl⟩
   rw [Sem.run_bind, hg, Result.andThen_ok, h2, Sem.run_bind', he']; rfl
theorem vW {t a b : TypeId} {ms : Array (String × TypeId)} {x y : Value} {c : Bool} (hu : P.underlying t = some (.interface ms)) (h : zL P a b x y = some c) (d : Nat) :
 (Op.equalIn (d + 1 + 1) t (.iface a x) (.iface b y)).run P w = .ok c w := by
 unfold zL at h
 cases hab : ai a b with
 | false =>
  rw [hab] at h; obtain rfl := Option.some.inj h; have : a ≠ b := Nat.ne_of_beq_eq_false hab; simp [Op.equalIn, run_underlying hu, this]
 | true =>
  rw [hab] at h; obtain rfl := ao hab; simp only [cond_true] at h; split at h
  · rename_i i hi
    cases hc : i.comparable with
    | false => rw [hc] at h; simp at h
    | true =>
     rw [hc] at h; simp only [cond_true] at h; split at h
     · rename_i k m l n hua
       by_cases hkl : k = l
       · subst hkl
         simp at h; subst h; simp [Op.equalIn, run_underlying hu, run_underlying hua, typeInfo, hi, hc]
       · simp [hkl] at h
     · cases h
  · cases h
theorem yH {op : BinOp} {t : TypeId} {ox oy : Operand} {x y : Value} {p q r : PV} (h : aT P (isConst ox || isConst oy) op t p q = some r) (hx : Rep w C x p) (hy : Rep w C y q) :
 fQ P w C (do eqGuard op t ox oy x y; binOp op t x y) r := by
 unfold aT at h; split at h
 · obtain ⟨rfl, _⟩ := eo hx
   obtain ⟨rfl, _⟩ := eo hy; split at h
   · rename_i hu
     cases hc : isConst ox || isConst oy with
     | false => rw [hc] at h; simp at h
     | true =>
      rw [hc] at h; simp only [cond_true] at h; refine fX h (fun op => ?_) rfl rfl (tw hu 9999)
      cases ox <;> cases oy <;> simp [isConst] at hc <;> cases op <;> simp [eqGuard]
   · cases h
 · split at h
   · rename_i hu
     cases hx; obtain ⟨rfl, _⟩ := eo hy; exact fX h (fun op => by cases op <;> rfl) rfl rfl (mQ hu 9999 _ _)
   · cases h
 · split at h
   · rename_i hu
     cases hx; obtain ⟨rfl, _⟩ := eo hy; exact fX h (fun op => by cases op <;> rfl) rfl rfl (mQ hu 9999 _ _)
   · cases h
 · split at h
   · rename_i hu
     cases hy; obtain ⟨rfl, _⟩ := eo hx; exact fX h (fun op => by cases op <;> rfl) rfl rfl (mR hu 9999 _ _)
   · cases h
 · split at h
   · rename_i hu
     cases hx; cases hy; obtain ⟨c, hc, h⟩ := Option.bind_eq_some_iff.1 h; exact fX h (fun op => by cases op <;> rfl) rfl rfl (vW hu hc 9998)
   · cases h
 · split at h
   · rename_i hu
     cases hy; obtain ⟨rfl, _⟩ := eo hx; exact fX h (fun op => by cases op <;> rfl) rfl rfl (mR hu 9999 _ _)
   · cases h
 · rename_i a b
   obtain ⟨rfl, _⟩ := eo hx; obtain ⟨rfl, _⟩ := eo hy; split at h
   · rename_i hu
     have he := fun d => run_equalIn_bool (P := P) w d t a b hu
     exact fX h (fun op => by cases op <;> rfl) rfl rfl (he 9999)
   · cases h
 · rename_i a b h1 h2
   obtain ⟨rfl, fx⟩ := eo hx; obtain ⟨rfl, fy⟩ := eo hy; obtain ⟨v, hv, hr⟩ := gJ (w := w) (C := C) h; refine ⟨v, ?_, hr⟩
   have hg : (eqGuard op t ox oy x y).run P w = .ok () w := by
    cases op <;> first | rfl | skip
    all_goals (cases x <;> first | rfl | skip)
    all_goals (cases y <;> first | rfl | skip)
    all_goals first
     | (exact (h1 rfl rfl).elim)
     | (exact absurd fx (by simp [iL]; done))
   rw [Sem.run_bind, hg]; exact hv
 · split at h
   · rename_i hu
     cases hx with
     | ptr hb =>
     obtain ⟨rfl, _⟩ := eo hy; exact fX h (fun op => by cases op <;> rfl) rfl rfl (rf hu 9999 _)
   · cases h
 · split at h
   · rename_i hu
     cases hy with
     | ptr hb =>
     obtain ⟨rfl, _⟩ := eo hx; exact fX h (fun op => by cases op <;> rfl) rfl rfl (re hu 9999 _)
   · cases h
 · split at h
   · rename_i hu
     have hy' : ∃ n c, y = .slice none n c := by
      cases hy with
      | slnil _ => exact ⟨0, 0, rfl⟩
      | sl sz val h1 h2 h3 h4 h5 h6 h7 h8 => simp [fF] at h8
     obtain ⟨n, c, rfl⟩ := hy'
     cases hx with
     | sl sz val h1 h2 h3 h4 h5 h6 h7 h8 =>
     exact fX h (fun op => by cases op <;> rfl) rfl rfl (mS hu 9999 _ _ _ _ _)
   · cases h
 · split at h
   · rename_i hu
     have hx' : ∃ n c, x = .slice none n c := by
      cases hx with
      | slnil _ => exact ⟨0, 0, rfl⟩
      | sl sz val h1 h2 h3 h4 h5 h6 h7 h8 => simp [fF] at h8
     have hy' : ∃ n c, y = .slice none n c := by
      cases hy with
      | slnil _ => exact ⟨0, 0, rfl⟩
      | sl sz val h1 h2 h3 h4 h5 h6 h7 h8 => simp [fF] at h8
     obtain ⟨n, c, rfl⟩ := hx'; obtain ⟨n', c', rfl⟩ := hy'; exact fX h (fun op => by cases op <;> rfl) rfl rfl (ra hu 9999 _ _ _ _)
   · cases h
 · split at h
   · rename_i hu
     have hy' : ∃ n c, y = .slice none n c := by
      cases hy with
      | slnil _ => exact ⟨0, 0, rfl⟩
      | sl sz val h1 h2 h3 h4 h5 h6 h7 h8 => simp [fF] at h8
     obtain ⟨n, c, rfl⟩ := hy'
     cases hx with
     | rs h1 h2 h3 h4 =>
     exact fX h (fun op => by cases op <;> rfl) rfl rfl (mS hu 9999 _ _ _ _ _)
   · cases h
 · rename_i cs ds
   cases hm : P.eqGuardType P.depth t with
   | true => rw [hm] at h; simp at h
   | false =>
    rw [hm] at h; simp only [cond_false] at h; obtain ⟨b, hb, h⟩ := Option.bind_eq_some_iff.1 h; have hX := hx; have hY := hy
    cases hx with
    | @agg _ xs _ a1 a2 a3 =>
    cases hy with
    | @agg _ ys _ b1 b2 b3 =>
    have he := B5 (w := w) (C := C) 6 10000 t _ _ _ _ b (by omega) hb hX hY; exact fX h (fun op => run_eqGuard_agg (P := P) w op t ox oy xs ys hm) rfl rfl he
 · cases h
end
section
variable {P : Program} {w : World} {C : Ctx}
theorem iV (B o n : Nat) : (⟨B, o, none⟩ : Addr).add n = ⟨B, o + n, none⟩ := by
 unfold Addr.add; split
 · rename_i h; subst h; rfl
 · rfl
theorem AE {op : UnOp} {x : Value} {p r : PV} (h : aUn P op p = some r) (hx : Rep w C x p) : fQ P w C (Op.unary op x) r := by
 unfold aUn at h; split at h
 · obtain ⟨rfl, _⟩ := eo hx
   exact gJ h
 · cases h
theorem wg {c a b : PV} {x y z : Value} {r : PV} (h : bP c a b = some r) (hx : Rep w C x c) (hy : Rep w C y a) (hz : Rep w C z b) :
 fQ P w C (do pure (if ← asBool x then y else z)) r := by
 unfold bP at h; split at h
 · rename_i t
   obtain ⟨rfl, _⟩ := eo hx; obtain rfl := Option.some.inj h
   cases t with
   | true => exact ⟨y, by simp [asBool], hy⟩
   | false => exact ⟨z, by simp [asBool], hz⟩
 · cases h
theorem vv (ns : List Int) : ∀ (s : ByteArray), ns.foldl (fun (r : ByteArray) n => r.push (UInt8.ofNat n.toNat)) s = ⟨s.data ++ (ns.map fun n => UInt8.ofNat n.toNat).toArray⟩ := by
 induction ns with
 | nil => intro s; simp
 | cons n ns ih =>
  intro s; rw [List.foldl_cons, ih]; simp [ByteArray.push]
theorem po : ∀ {es : List (List PV)} {bs : List UInt8}, bytesOf es = some bs → ∃ ns : List Int, es = ns.map (fun n => [.v (.int .u8 n)]) ∧ bs = ns.map fun n => UInt8.ofNat n.toNat
 | [], bs, h => by obtain rfl := Option.some.inj h; exact ⟨[], rfl, rfl⟩
 | e :: es, bs, h => by
  simp only [bytesOf] at h; obtain ⟨b, hb, h⟩ := Option.bind_eq_some_iff.1 h; obtain ⟨cs, hc, h⟩ := Option.bind_eq_some_iff.1 h; obtain rfl := Option.some.inj h; obtain ⟨ns, rfl, rfl⟩ := po hc; unfold byteOfCell at hb; split at hb
  · rename_i n
    obtain rfl := Option.some.inj hb; exact ⟨n :: ns, rfl, rfl⟩
  · cases hb
theorem we {src dst : TypeId} {x : Value} {p r : PV} (h : gU P src dst p = some r) (hx : Rep w C x p) (hb : ∀ s e, p = .v (.string s) → P.underlying src = some .string → P.underlying dst ≠ some (.slice e)) : fQ P w C (convert src dst x) r := by
 unfold gU at h; split at h
 · rename_i s
   obtain ⟨rfl, _⟩ := eo hx; split at h
   · rename_i e h1 h2
     exact absurd h2 (hb s e rfl h1)
   · exact gJ h
 · obtain ⟨rfl, _⟩ := eo hx
   exact gJ h
 · rename_i es c
   split at h
   · rename_i e hs hd
     split at h
     · rename_i he
       obtain ⟨bs, hb, h⟩ := Option.bind_eq_some_iff.1 h; obtain rfl := Option.some.inj h; obtain ⟨ns, hes, rfl⟩ := po hb
       cases hx with
       | slnil h1 =>
        have : ns = [] := by cases ns with | nil => rfl | cons n ns => cases hes
        subst this; refine ⟨.string .empty, ?_, .v rfl⟩; rw [run_convert_bytes_string w src dst e _ _ _ hs he hd]
        rfl
       | @sl _ _ B o len cap c sz val h1 h2 h3 h4 h5 h6 h7 h8 =>
        refine ⟨_, ?_, .v rfl⟩; rw [run_convert_bytes_string w src dst e _ _ _ hs he hd]
        have hl : (loadCells ⟨B, o, none⟩ len).run P w = .ok (ns.map (Value.int .u8)).toArray w := by
         have hll : len = (ns.map (Value.int .u8)).length := by rw [h1, hes]; simp
         rw [hll]
         refine run_loadCells_list w _ _ fun j v hj => ?_
         obtain ⟨n, hn, rfl⟩ := cr hj
         have hej : es[j]? = some [.v (.int .u8 n)] := by rw [hes, List.getElem?_map, hn]; rfl
         have hsz : sz = 1 := by rw [← h3 j _ hej]; rfl
         subst hsz; rw [iV]; have hc := h5 j _ 0 _ hej rfl; have hr := h7 j _ 0 _ hej rfl; rw [(eo hr).1] at hc; simpa using hc
        rw [run_bytesToString w _ _ _ _ hl, vv]; simp
     · cases h
   · cases h
 · cases h
theorem sn {x : Value} {p r : PV} {n : Nat} (h : av p n = some r) (hx : Rep w C x p) : ∃ B o, x = .pointer (some ⟨B, o, none⟩) ∧ Rep w C (.pointer (some ⟨B, o + n, none⟩)) r := by
 unfold av at h; split at h
 · cases hx with
   | ptr hb =>
    obtain rfl := Option.some.inj h; exact ⟨_, _, rfl, .ptr hb⟩
 · cases hx with
   | fp val h1 h2 h3 h4 =>
    obtain rfl := Option.some.inj h; refine ⟨_, _, rfl, ?_⟩; rw [Nat.add_assoc]; exact .fp val h1 h2 h3 h4
 · cases h
theorem nV {s : TypeId} {f : Nat} {g : Field} (h : pU P s f = some g) : ∃ fs, P.underlying s = some (.struct fs) ∧ fs[f]? = some g := by
 unfold pU at h; split at h
 · rename_i fs hu; exact ⟨fs, hu, h⟩
 · cases h
theorem pM {s : TypeId} {x : Value} {p r : PV} {f : Nat} (h : mV P s p f = some r) (hx : Rep w C x p) : fQ P w C (Instr.fieldAt s x f) r := by
 unfold mV at h; split at h
 · rename_i g hg
   obtain ⟨fs, hu, hf⟩ := nV hg
   cases hz : ai (szT P g.type) 0 with
   | true => rw [hz] at h; simp at h
   | false =>
    rw [hz] at h; obtain ⟨B, o, rfl, hr⟩ := sn h hx; have hne : szT P g.type ≠ 0 := Nat.ne_of_beq_eq_false hz; obtain ⟨i, hi⟩ := gk hne; refine ⟨_, ?_, hr⟩; simp [Instr.fieldAt, run_underlying hu, hf, Instr.sureAddr, fieldPlace, gf hi, hne, iV]
 · cases h
theorem uY {s : TypeId} {x : Value} {p r : PV} {f : Nat} (h : fS P s p f = some r) (hx : Rep w C x p) : fQ P w C (Instr.field s x f) r := by
 unfold fS at h; split at h
 · rename_i g cs hg
   obtain ⟨fs, hu, hf⟩ := nV hg
   cases hd : P.underlying g.type with
   | none => rw [hd] at h; simp at h
   | some d =>
    rw [hd] at h; simp only at h; have hX := hx
    cases hx with
    | @agg _ xs _ h1 h2 h3 =>
     obtain ⟨v, hv, hr⟩ := lu hd h hX; refine ⟨v, ?_, hr⟩; simp [Instr.field, run_underlying hu, hf, asAgg, hv]
 · cases h
theorem rG {x : Value} {p r : PV} {i : Nat} (h : aV p i = some r) (hx : Rep w C x p) : fQ P w C (Instr.extract x i) r := by
 unfold aV at h; split at h
 · rename_i ps
   cases hx with
   | @tup _ xs _ h1 h3 =>
    have hi : i < ps.length := (List.getElem?_eq_some_iff.1 h).1; have hget : xs[i]? = some (xs[i]'(by omega)) := aU (by omega); exact ⟨_, by simp [Instr.extract, hget], h3 i _ _ hget h⟩
 · cases h
theorem jg {i : Int} {n : Nat} (h : eT i n = true) : 0 ≤ i ∧ i < n := by
 simpa [eT] using h
theorem pN {t : TypeId} {x i : Value} {p q r : PV} (h : cJ P t p q = some r) (hx : Rep w C x p) (hi : Rep w C i q) : fQ P w C (Instr.indexAt t x i) r := by
 unfold cJ at h; split at h
 · rename_i k n
   obtain ⟨rfl, _⟩ := eo hi; split at h
   · rename_i elem es c hu
     cases hr : eT n es.length with
     | false => rw [hr] at h; simp at h
     | true =>
      rw [hr] at h; simp only [cond_true] at h; obtain ⟨e, he, h⟩ := Option.bind_eq_some_iff.1 h
      cases hzz : ai e.length (szT P elem) && !ai (szT P elem) 0 with
      | false => rw [hzz] at h; simp at h
      | true =>
       rw [hzz] at h; obtain rfl := Option.some.inj h; rw [an] at hzz; have hz := ao hzz.1
       have hne : szT P elem ≠ 0 := by
        intro q; rw [q] at hzz; simp at hzz
       obtain ⟨r1, r2⟩ := jg hr
       cases hx with
       | slnil _ => simp at he
       | @sl _ _ B o len cap _ sz val h1 h2 h3 h4 h5 h6 h7 h8 =>
        have hsz : sz = szT P elem := by rw [← h3 _ _ he]; exact hz
        obtain ⟨ie, hie⟩ := gk hne; refine ⟨.pointer (some ⟨B, o + n.toNat * szT P elem, none⟩), ?_, ?_⟩
        · simp [Instr.indexAt, run_underlying hu, asIntOf, gf hie, iV, r1, h1, r2]
        · have hp := Rep.fp (w := w) (C := C) (cs := e) (off := 0) (B := B) (o := o + n.toNat * sz) (fun j => val n.toNat j) (fun j p hp => h4 _ _ j p he hp) (fun j p hp => h5 _ _ j p he hp)
           (fun j p hp => h6 _ _ j p he hp) (fun j p hp => h7 _ _ j p he hp)
          rw [hsz, bx] at hp; exact hp
   · rename_i elem hh b off len sz hu
     cases hr : eT n len && ai (szT P elem) sz && !ai sz 0 with
     | false => rw [hr] at h; simp at h
     | true =>
      rw [hr] at h; obtain rfl := Option.some.inj h; rw [an, an] at hr; obtain ⟨r1, r2⟩ := jg hr.1.1; have hsz := ao hr.1.2
      have hne : szT P elem ≠ 0 := by
       intro q; rw [← hsz, q] at hr; simp at hr
      obtain ⟨ie, hie⟩ := gk hne
      cases hx with
      | @rs _ _ _ _ _ cap _ B arr el fr h1 h2 h3 h4 =>
       refine ⟨.pointer (some ⟨B, off + n.toNat * szT P elem, none⟩), ?_, ?_⟩
       · simp [Instr.indexAt, run_underlying hu, asIntOf, gf hie, iV, r1, r2]
       · rw [hsz]; exact .ptr h1
   · rename_i len elem hu
     cases hr : eT n len && !ai (szT P elem) 0 with
     | false => rw [hr] at h; simp at h
     | true =>
      rw [hr] at h; simp only [cond_true] at h; rw [an] at hr; obtain ⟨r1, r2⟩ := jg hr.1
      have hne : szT P elem ≠ 0 := by
       intro q; rw [q] at hr; simp at hr
      obtain ⟨ie, hie⟩ := gk hne; obtain ⟨B, o, rfl, hrep⟩ := sn h hx; refine ⟨_, ?_, hrep⟩; simp [Instr.indexAt, run_underlying hu, asIntOf, Instr.sureAddr, gf hie, iV, r1, r2]
   · cases h
 · cases h
theorem u0 {t : TypeId} {x i : Value} {p q r : PV} (h : du P t p q = some r) (hx : Rep w C x p) (hi : Rep w C i q) : fQ P w C (Instr.index t x i) r := by
 unfold du at h; split at h
 · obtain ⟨rfl, _⟩ := eo hx
   obtain ⟨rfl, _⟩ := eo hi; exact gJ h
 · rename_i cs k n
   obtain ⟨rfl, _⟩ := eo hi; split at h
   · rename_i len elem hu
     cases hr : eT n len && ai cs.length (len * szT P elem) with
     | false => rw [hr] at h; simp at h
     | true =>
      rw [hr] at h; simp only [cond_true] at h; rw [an] at hr; obtain ⟨r1, r2⟩ := jg hr.1
      cases hd : P.underlying elem with
      | none => rw [hd] at h; simp at h
      | some d =>
       rw [hd] at h; simp only at h; have hX := hx
       cases hx with
       | @agg _ xs _ h1 h2 h3 =>
        obtain ⟨v, hv, hrep⟩ := lu hd h hX; refine ⟨v, ?_, hrep⟩; simp [Instr.index, run_underlying hu, asIntOf, r1, r2, run_sizeOf hd, hv]
   · cases h
 · cases h
theorem yJ {t ty : TypeId} {x : Value} {p r : PV} (h : jP P t p = some r) (hx : Rep w C x p) : fQ P w C (Builtin.len_ #[t] ty #[x]) r := by
 unfold jP at h; split at h
 · split at h
   · rename_i hu
     obtain rfl := Option.some.inj h
     cases hx with
     | slnil _ => exact ⟨.int .i64 0, by simp [Builtin.len_, run_underlying hu, goInt], .v rfl⟩
     | sl sz val h1 h2 h3 h4 h5 h6 h7 h8 => exact ⟨_, by simp [Builtin.len_, run_underlying hu, goInt, h1], .v rfl⟩
   · cases h
 · split at h
   · rename_i hu
     obtain rfl := Option.some.inj h
     cases hx with
     | rs h1 h2 h3 h4 => exact ⟨_, by simp [Builtin.len_, run_underlying hu, goInt], .v rfl⟩
   · cases h
 · split at h
   · rename_i hu
     obtain ⟨rfl, _⟩ := eo hx; obtain rfl := Option.some.inj h; exact ⟨_, by simp [Builtin.len_, run_underlying hu, goInt], .v rfl⟩
   · cases h
 · cases h
theorem yK {ats : Array TypeId} {ty : TypeId} {x y : Value} {p q r : PV} (h : wI P p q = some r) (hx : Rep w C x p) (hy : Rep w C y q) : fQ P w C (Builtin.max_ ats ty #[x, y]) r := by
 unfold wI at h; split at h
 · obtain ⟨rfl, _⟩ := eo hx
   obtain ⟨rfl, _⟩ := eo hy; obtain ⟨v, hv, hr⟩ := gJ (w := w) (C := C) h; exact ⟨v, by simpa [Builtin.max_] using hv, hr⟩
 · cases h
theorem yL {ats : Array TypeId} {ty : TypeId} {x y : Value} {p q r : PV} (h : wJ P p q = some r) (hx : Rep w C x p) (hy : Rep w C y q) : fQ P w C (Builtin.min_ ats ty #[x, y]) r := by
 unfold wJ at h; split at h
 · obtain ⟨rfl, _⟩ := eo hx
   obtain ⟨rfl, _⟩ := eo hy; obtain ⟨v, hv, hr⟩ := gJ (w := w) (C := C) h; exact ⟨v, by simpa [Builtin.min_] using hv, hr⟩
 · cases h
theorem rk {x : Value} {p r : PV} (h : aE p = some r) (hx : Rep w C x p) : (∀ (o : Oper) (ρ : Operand → Value) (y : Operand), o.op = .nilCheck y → ρ y = x → (execOp ρ o).run P w = .ok (.value x) w) ∧ Rep w C x r := by
 unfold aE at h; split at h
 · cases hx with
   | ptr hb =>
    obtain rfl := Option.some.inj h; exact ⟨fun o ρ y ho hy => by simp [execOp, ho, hy], .ptr hb⟩
 · cases hx with
   | fp val h1 h2 h3 h4 =>
    obtain rfl := Option.some.inj h; exact ⟨fun o ρ y ho hy => by simp [execOp, ho, hy], .fp val h1 h2 h3 h4⟩
 · cases hx with
   | clo h1 h3 =>
    obtain rfl := Option.some.inj h; exact ⟨fun o ρ y ho hy => by simp [execOp, ho, hy], .clo h1 h3⟩
 · cases hx with
   | yld h1 =>
    obtain rfl := Option.some.inj h; exact ⟨fun o ρ y ho hy => by simp [execOp, ho, hy], .yld h1⟩
 · cases h
theorem uZ {t : TypeId} {x : Value} {p q : PV} (h : ij P t p = some q) (hx : Rep w C x p) : fQ P w C (Instr.makeInterface t x) q := by
 unfold ij at h; split at h
 · cases h
 · rename_i d hni hu
   have hrun : (Instr.makeInterface t x).run P w = .ok (.iface t x) w := by
    unfold Instr.makeInterface; rw [Sem.run_bind, run_underlying hu, Result.andThen_ok]
    cases d <;> first | rfl | (exact (hni _ rfl).elim)
   refine ⟨_, hrun, ?_⟩; split at h
   · obtain rfl := Option.some.inj h
     obtain ⟨rfl, _⟩ := eo hx; exact .ifc
   · obtain rfl := Option.some.inj h
     cases hx with
     | agg h1 h2 h3 =>
      have := Array.eq_empty_of_size_eq_zero h1; subst this; exact .ifc
   · cases h
   · cases h
   · cases h
   · obtain rfl := Option.some.inj h
     exact .ni
 · cases h
theorem oY {x : Value} {p : PV} {cs : List PV} (h : cellsOf p = some cs) (hx : Rep w C x p) :
 x.cells.size = cs.length ∧ (∀ (i : Nat) (y : Value), x.cells[i]? = some y → y.oneCell' = true) ∧ (∀ (i : Nat) (y : Value) (q : PV), x.cells[i]? = some y → cs[i]? = some q → Rep w C y q) := by
 have one : qn p = true → cs = [p] → x.cells.size = cs.length ∧ (∀ (i : Nat) (y : Value), x.cells[i]? = some y → y.oneCell' = true) ∧ (∀ (i : Nat) (y : Value) (q : PV), x.cells[i]? = some y → cs[i]? = some q → Rep w C y q) := by
  intro hp hcs; have ho := hx.BU hp
  have hc : x.cells = #[x] := by cases x <;> first | rfl | (simp [Value.oneCell'] at ho)
  subst hcs; rw [hc]; refine ⟨rfl, fun i y hy => ?_, fun i y q hy hq => ?_⟩
  · cases i with
    | zero => simp at hy; subst hy; exact ho
    | succ i => simp at hy
  · cases i with
    | zero => simp at hy hq; subst hy; subst hq; exact hx
    | succ i => simp at hy
 cases p with
 | agg ds =>
  obtain rfl := Option.some.inj h
  cases hx with
  | agg h1 h2 h3 => exact ⟨h1, h2, h3⟩
 | tup _ => cases h
 | u => cases h
 | v _ => exact one rfl (Option.some.inj h).symm
 | ptr _ _ _ => exact one rfl (Option.some.inj h).symm
 | fp _ _ => exact one rfl (Option.some.inj h).symm
 | sl _ _ => exact one rfl (Option.some.inj h).symm
 | clo _ _ => exact one rfl (Option.some.inj h).symm
 | rs _ _ _ _ _ => exact one rfl (Option.some.inj h).symm
 | ni => exact one rfl (Option.some.inj h).symm
 | ifc _ _ => exact one rfl (Option.some.inj h).symm
 | pan _ _ => cases h
 | it _ => exact one rfl (Option.some.inj h).symm
structure eD (w : World) (C : Ctx) (arr : Array Value) (cs : List PV) : Prop where
 size : arr.size = cs.length
 one : ∀ (i : Nat) (y : Value), arr[i]? = some y → y.oneCell' = true
 rep : ∀ (i : Nat) (y : Value) (q : PV), arr[i]? = some y → cs[i]? = some q → Rep w C y q
theorem eD.laid {arr : Array Value} {cs ds : List PV} {vs : List Value} {off : Nat} (h : eD w C arr cs) (g : eD w C vs.toArray ds) (hr : off + ds.length ≤ cs.length) :
 eD w C (iq arr off vs) (laid cs off ds) := by
 have hl : vs.length = ds.length := by simpa using g.size
 have hs := h.size; refine ⟨by rw [gF, jV, hs], fun i y hy => ?_, fun i y q hy hq => ?_⟩
 · rw [gy vs arr off i (by omega)] at hy
   split at hy
   · exact g.one _ y (by simpa using hy)
   · exact h.one i y hy
 · rw [gy vs arr off i (by omega)] at hy
   rw [n0 ds cs off i (by omega), ← hl] at hq; split at hy
   · rename_i hin; rw [if_pos hin] at hq; exact g.rep _ y q (by simpa using hy) hq
   · rename_i hin; rw [if_neg hin] at hq; exact h.rep i y q hy hq
theorem vc (off : Nat) : ∀ (vs : List Value) (k : Nat) (cells : Array Value), (vs.zipIdx k).foldl (fun (cs : Array Value) (q : Value × Nat) => cs.setIfInBounds (off + q.2) q.1) cells = iq cells (off + k) vs
 | [], _, _ => rfl
 | v :: vs, k, cells => by
  rw [List.zipIdx_cons, List.foldl_cons, vc off vs (k + 1)]
  rfl
theorem og (place : Nat → Option (Nat × Nat)) : ∀ (ps : List (Nat × PV)) (vs : List (Nat × Value)) (arr : Array Value) (cs ds : List PV),
 cm place cs ps = some ds → eD w C arr cs → vs.length = ps.length → (∀ (i : Nat) (a : Nat × Value) (b : Nat × PV), vs[i]? = some a → ps[i]? = some b → a.1 = b.1 ∧ Rep w C a.2 b.2) →
 ∃ arr', Instr.fill place arr vs = some arr' ∧ eD w C arr' ds
 | [], vs, arr, cs, ds, h, hc, hl, hp => by
  obtain rfl := Option.some.inj h; have : vs = [] := List.length_eq_zero_iff.1 (by simpa using hl); subst this; exact ⟨arr, rfl, hc⟩
 | (i, p) :: ps, vs, arr, cs, ds, h, hc, hl, hp => by
  match vs, hl, hp with
  | (j, v) :: vs, hl, hp =>
   obtain ⟨e1, e2⟩ := hp 0 (j, v) (i, p) rfl rfl; simp only at e1 e2; subst e1; simp only [cm] at h; split at h
   · rename_i off size cs' hpl hcs'
     cases hb : ai cs'.length size && di (off + size) cs.length with
     | false => rw [hb] at h; simp at h
     | true =>
      rw [hb] at h; simp only [cond_true] at h; rw [an] at hb; have b1 := ao hb.1; have b2 := dP hb.2; obtain ⟨c1, c2, c3⟩ := oY hcs' e2; have hg : eD w C (v.cells.toList.toArray) cs' := ⟨by simpa using c1, by simpa using c2, by simpa using c3⟩; have hnew := hc.laid hg (off := off) (by omega)
      obtain ⟨arr', f1, f2⟩ := og place ps vs _ _ ds h hnew (by simpa using hl) fun k a b ha hb => hp (k + 1) a b (by simpa using ha) (by simpa using hb)
      refine ⟨arr', ?_, f2⟩; simp only [Instr.fill, hpl]; rw [if_neg (by have := hc.size; simp; omega)]
      have hfold : (v.cells.zipIdx.foldl (fun (cs : Array Value) (q : Value × Nat) => cs.setIfInBounds (off + q.2) q.1) arr) = iq arr off v.cells.toList := by
       rw [← Array.foldl_toList, Array.toList_zipIdx]; exact vc off v.cells.toList 0 arr
      rw [← f1, ← hfold]
   · cases h
  | [], hl, _ => simp at hl
theorem iQ {t : TypeId} {z : List PV} (h : kN P t = some z) : ∃ i v, P.info? t = some i ∧ i.zero = some v ∧ eD w C v.cells z := by
 unfold kN at h; split at h
 · rename_i i hi
   split at h
   · rename_i v hv
     cases hb : v.cells.toList.all Value.oneCell' with
     | false => rw [hb] at h; simp at h
     | true =>
      rw [hb] at h; obtain rfl := Option.some.inj h; refine ⟨i, v, hi, hv, ⟨by simp, fun k y hy => ?_, fun k y q hy hq => ?_⟩⟩
      · rw [dD] at hb
        exact hb y (dS (by simpa using hy))
      · obtain ⟨y', hy', rfl⟩ := cr hq
        rw [ga, hy] at hy'; obtain rfl := Option.some.inj hy'; exact q6 w C y
   · cases h
 · cases h
theorem od {arr : Array Value} {cs : List PV} (h : eD w C arr cs) : Rep w C (.agg arr) (.agg cs) := .agg h.size h.one h.rep
theorem uX {t : TypeId} {vs : Array (Nat × Value)} {ps : List (Nat × PV)} {r : PV} (h : jo P t ps = some r) (hl : vs.size = ps.length)
 (hp : ∀ (i : Nat) (a : Nat × Value) (b : Nat × PV), vs[i]? = some a → ps[i]? = some b → a.1 = b.1 ∧ Rep w C a.2 b.2) : fQ P w C (Instr.build t vs) r := by
 unfold jo at h; obtain ⟨z, hz, h⟩ := Option.bind_eq_some_iff.1 h; obtain ⟨it, zv, hi, hzv, hzc⟩ := iQ (w := w) (C := C) hz
 have hl' : vs.toList.length = ps.length := by simpa using hl
 have hp' : ∀ (i : Nat) (a : Nat × Value) (b : Nat × PV), vs.toList[i]? = some a → ps[i]? = some b → a.1 = b.1 ∧ Rep w C a.2 b.2 := fun i a b ha hb => hp i a b (by simpa using ha) hb
 split at h
 · rename_i fields hu
   obtain ⟨pl, hpl, h⟩ := Option.bind_eq_some_iff.1 h; obtain ⟨cs, hcs, h⟩ := Option.bind_eq_some_iff.1 h; obtain rfl := Option.some.inj h; obtain ⟨arr, ha, hr⟩ := og _ ps vs.toList _ z cs hcs hzc hl' hp'; refine ⟨.agg arr, run_build w t vs arr ?_, od hr⟩; unfold placesOf at hpl; simp only [Program.built, hi, hu, hzv, hpl]; exact ha
 · rename_i n e hu
   split at h
   · rename_i ie hie
     obtain ⟨cs, hcs, h⟩ := Option.bind_eq_some_iff.1 h; obtain rfl := Option.some.inj h; obtain ⟨arr, ha, hr⟩ := og _ ps vs.toList _ z cs hcs hzc hl' hp'; refine ⟨.agg arr, run_build w t vs arr ?_, od hr⟩; simp only [Program.built, hi, hu, hzv, hie]; exact ha
   · cases h
 · cases h
end
section
variable {P : Program} {w : World}
theorem run_append_grow {t u ty e : TypeId} {d : TypeDesc} (hu : P.underlying t = some (.slice e)) (hu2 : P.underlying u = some d) (hd : ∀ k, d ≠ .int k) {base : Option Addr} {len cap n : Nat} {x : Value} {old new : Array Value} {ie : TypeInfo} {z : Value}
 (hie : P.info? e = some ie) (hz : ie.zero = some z) (hb0 : ie.bytes ≠ 0) (hlen : (Builtin.lenOf x).run P w = .ok n w) (hgrow : cap < len + n) (hbytes : (len + n) * ie.bytes ≤ 140737488355328)
 (h1 : (Builtin.firstCells ie.size len (.slice base len cap)).run P w.drew = .ok old w.drew) (h2 : (Builtin.firstCells ie.size n x).run P w.drew = .ok new w.drew) :
 ∃ newCap, len + n ≤ newCap ∧ (Builtin.append_ #[t, u] ty #[.slice base len cap, x]).run P w =
  .ok (.slice (some ⟨w.heap.size, 0, none⟩) (len + n) newCap) (w.drew.alloc (.cells (old ++ new ++ Builtin.zeroCells z.cells (newCap - (len + n))) e)) := by
 have hfit := growslice_fits hgrow hbytes; refine ⟨(Question.appendCap (len + n) cap e).cut (w.tape w.drawn (.appendCap (len + n) cap e)), ?_, ?_⟩
 · simp [Question.cut]
 · have hf : (Question.appendCap (len + n) cap e).forced = false := rfl
   have hn : ¬ (len + n ≤ cap) := by omega
   have hpos : 0 < ie.bytes := Nat.pos_of_ne_zero hb0; have h63 : len + n ≤ 140737488355328 := Nat.le_trans (Nat.le_mul_of_pos_right _ hpos) hbytes
   have h63' : ¬ (9223372036854775807 < ((len : Int) + (n : Int))) := by omega
   have h48 : ¬ (281474976710656 < Builtin.nextslicecap (len + n) cap * ie.bytes) := by omega
   cases d <;> first
    | (rename_i k; exact absurd rfl (hd k))
    | (simp [Builtin.append_, run_underlying hu, run_underlying hu2, sizeOf, typeInfo, zeroValue, hie, hz, hlen, hn, h48, hb0, hf, h1, h2, newRow]; done)
theorem run_append_room {t u ty e : TypeId} {d : TypeDesc} (hu : P.underlying t = some (.slice e)) (hu2 : P.underlying u = some d) (hd : ∀ k, d ≠ .int k) {base : Option Addr} {len cap n : Nat} {x : Value} {new : Array Value} {ie : TypeInfo}
 (hie : P.info? e = some ie) (hlen : (Builtin.lenOf x).run P w = .ok n w) (hroom : len + n ≤ cap) (hnew : (Builtin.firstCells ie.size n x).run P w = .ok new w) (w' : World)
 (hst : (match base with | some a => storeCells (a.add (len * ie.size)) new.toList | none => pure ()).run P w = .ok () w') :
 (Builtin.append_ #[t, u] ty #[.slice base len cap, x]).run P w = .ok (.slice base (len + n) cap) w' := by
 cases base with
 | none =>
  simp at hst; subst hst
  cases d <;> first
   | (rename_i k; exact absurd rfl (hd k))
   | (simp [Builtin.append_, run_underlying hu, run_underlying hu2, sizeOf, typeInfo, hie, hlen, hroom, hnew]; done)
 | some a =>
  simp at hst
  cases d <;> first
   | (rename_i k; exact absurd rfl (hd k))
   | (simp [Builtin.append_, run_underlying hu, run_underlying hu2, sizeOf, typeInfo, hie, hlen, hroom, hnew, hst]; done)
end
section
variable {P : Program} {w : World} {C : Ctx} {st : St} {bs : List (Nat × Nat × Nat)}
theorem rl {t : TypeId} {d : TypeDesc} {B o off : Nat} {cs : List PV} {r : PV} (hu : P.underlying t = some d)
 (hv : ∀ (j : Nat) (q : PV), cs[j]? = some q → ∃ y, w.cell? ⟨B, o + j, none⟩ = some y ∧ y.oneCell' = true ∧ Rep w C y q)
 (h : AM.part (mY P t) (szT P t) off cs = some r) : fQ P w C (loadVar t ⟨B, o + off, none⟩) r := by
 unfold fQ loadVar; rw [Sem.run_bind, sr hu]; simp only [Result.andThen_ok]
 cases ha : mY P t with
 | true =>
  rw [ha] at h; simp only [AM.part] at h
  cases hb : di (off + szT P t) cs.length with
  | false => rw [hb] at h; simp at h
  | true =>
   rw [hb] at h; obtain rfl := Option.some.inj h; have hle := dP hb
   have hval : ∀ j, j < szT P t → ∃ y, w.cell? ⟨B, o + off + j, none⟩ = some y ∧ y.oneCell' = true ∧ Rep w C y (cs[off + j]?.getD .u) := by
    intro j hj; have hget : cs[off + j]? = some (cs[off + j]'(by omega)) := dC (by omega); obtain ⟨y, y1, y2, y3⟩ := hv (off + j) _ hget; exact ⟨y, by rw [← y1]; congr 2; omega, y2, by rw [hget]; exact y3⟩
   have hch : ∃ f : Nat → Value, ∀ j, j < szT P t → w.cell? ⟨B, o + off + j, none⟩ = some (f j) ∧ (f j).oneCell' = true ∧ Rep w C (f j) (cs[off + j]?.getD .u) := by
    refine ⟨fun j => if hj : j < szT P t then (hval j hj).choose else .nilFunc, fun j hj => ?_⟩; simp only [dif_pos hj]; exact (hval j hj).choose_spec
   obtain ⟨f, hf⟩ := hch; refine ⟨.agg ((gg (szT P t)).map f).toArray, ?_, .agg (by simp; omega) ?_ ?_⟩
   · simp only [if_true, Sem.run_bind, run_sizeOf hu, Result.andThen_ok]
     rw [run_loadCells w _ (szT P t) f fun j hj => by rw [iV]; exact (hf j hj).1]
     rfl
   · intro i x hx
     rw [List.getElem?_toArray] at hx; obtain ⟨j, hj, rfl⟩ := cr hx; have hj' := List.getElem?_eq_some_iff.1 hj; obtain ⟨hj1, hj2⟩ := hj'; rw [List.length_range] at hj1; rw [List.getElem_range] at hj2; subst hj2; exact (hf i hj1).2.1
   · intro i x p hx hp
     rw [List.getElem?_toArray] at hx; obtain ⟨j, hj, rfl⟩ := cr hx; have hj' := List.getElem?_eq_some_iff.1 hj; obtain ⟨hj1, hj2⟩ := hj'; rw [List.length_range] at hj1; rw [List.getElem_range] at hj2; subst hj2; rw [fc, if_pos hj1, gD] at hp; have := (hf i hj1).2.2; rw [hp] at this; exact this
 | false =>
  rw [ha] at h; simp only [AM.part] at h; obtain ⟨y, y1, y2, y3⟩ := hv off r h; exact ⟨y, by simp [y1], y3⟩
theorem Sim.view (H : Sim w C st bs) {h : Bool} {b B : Nat} {cs : List PV} (hσ : C.σ h b = some B) (hb : st.blk h b = some cs) :
 ∀ (j : Nat) (q : PV), cs[j]? = some q → ∃ y, w.cell? ⟨B, 0 + j, none⟩ = some y ∧ y.oneCell' = true ∧ Rep w C y q := by
 intro j q hq; obtain ⟨B', arr, elem, fr, a1, a2, a3, a4, a5, a6, a7, a8⟩ := H.blk h b cs hb; rw [hσ] at a1; obtain rfl := Option.some.inj a1; have hj := (List.getElem?_eq_some_iff.1 hq).1; have hget : arr[j]? = some (arr[j]'(by omega)) := aU (by omega); exact ⟨_, by simp [World.cell?, a2, hget], a6 j _ hget, a7 j _ q hget hq⟩
theorem rj (H : Sim w C st bs) {t : TypeId} {x : Value} {p r : PV} (hu : ∃ d, P.underlying t = some d) (h : al (mY P t) (szT P t) p st = some r) (hx : Rep w C x p) :
 fQ P w C (Instr.loadAt t x) r := by
 obtain ⟨d, hu⟩ := hu; unfold al at h; split at h
 · obtain ⟨cs, hcs, h⟩ := Option.bind_eq_some_iff.1 h
   cases hx with
   | @ptr _ a b off B hb =>
    obtain ⟨v, hv, hr⟩ := rl hu (H.view hb hcs) h; rw [aZ] at hv; exact ⟨v, by simpa [Instr.loadAt, Instr.sureAddr] using hv, hr⟩
 · cases hx with
   | @fp _ cs off B o val h1 h2 h3 h4 =>
    obtain ⟨v, hv, hr⟩ := rl (o := o) hu (fun j q hq => ⟨val j, h2 j q hq, h3 j q hq, (h4 j q hq).mono (Ext.sa w C)⟩) h; exact ⟨v, by simpa [Instr.loadAt, Instr.sureAddr] using hv, hr⟩
 · cases h
theorem kH {C' : Ctx} {x : Value} {es : List (List PV)} {c c' : Cap} (h : Rep w C x (.sl es c)) (hS : C'.S = C.S) (hfz : C'.fz = C.fz)
 (hc : ∀ base len cap sz, fF C base len cap sz c → fF C' base len cap sz c') (hn : kc C c → kc C' c') : Rep w C' x (.sl es c') := by
 cases h with
 | slnil h => exact .slnil (hn h)
 | sl sz val h1 h2 h3 h4 h5 h6 h7 h8 => exact .sl sz val h1 h2 h3 (by rw [hS]; exact h4) h5 h6 (by rw [hfz]; exact h7) (hc _ _ _ _ h8)
theorem Eo {C C' : Ctx} (hfz : C'.fz = C.fz) (b : Nat) : C'.σ true b = C.σ true b := by
 have : (C'.fz).σ true b = (C.fz).σ true b := by rw [hfz]
 exact this
theorem kF {x : Value} {p q : PV} (h : eN p = some q) (hx : Rep w C x p) {C' : Ctx} (hS : C'.S = C.S) (hfz : C'.fz = C.fz) : Rep w C' x q := by
 have hσt := Eo hfz; unfold eN at h; split at h
 · obtain rfl := Option.some.inj h
   exact kH hx hS hfz (fun _ _ _ _ _ => trivial) (fun _ => trivial)
 · obtain rfl := Option.some.inj h
   cases hx with
   | v hf => exact .v hf
 · obtain rfl := Option.some.inj h
   cases hx with
   | ptr hb => exact .ptr (by rw [hσt]; exact hb)
 · obtain rfl := Option.some.inj h
   cases hx with
   | rs h1 h2 h3 h4 => exact .rs (by rw [hσt]; exact h1) h2 h3 h4
 · obtain rfl := Option.some.inj h
   cases hx with
   | fp val h1 h2 h3 h4 => exact .fp val (by rw [hS]; exact h1) h2 h3 (by rw [hfz]; exact h4)
 · obtain rfl := Option.some.inj h
   cases hx with
   | ni => exact .ni
 · obtain rfl := Option.some.inj h
   cases hx with
   | ifc => exact .ifc
 · rename_i f caps
   cases hs : eM f && caps.all (sf false 0 3) with
   | false => rw [hs] at h; simp at h
   | true =>
    rw [hs] at h; obtain rfl := Option.some.inj h; rw [an] at hs; refine tu (ok := false) (C := C) (C' := C') 0 hS hfz (fun a b g => ?_) (fun h => by cases h) (fun h => by cases h) 4 hx (by simp only [sf, an]; exact ⟨by rw [hs.1]; rfl, hs.2⟩)
    cases a with
    | true => exact hσt b
    | false => exact absurd (g rfl) (by omega)
 · cases h
theorem jZ : ∀ {cs ds : List PV}, cC cs = some ds → ds.length = cs.length ∧ ∀ (i : Nat) (q : PV), ds[i]? = some q → ∃ p, cs[i]? = some p ∧ eN p = some q
 | [], ds, h => by obtain rfl := Option.some.inj h; exact ⟨rfl, by simp⟩
 | c :: cs, ds, h => by
  simp only [cC] at h; obtain ⟨q, hq, h⟩ := Option.bind_eq_some_iff.1 h; obtain ⟨qs, hqs, h⟩ := Option.bind_eq_some_iff.1 h; obtain rfl := Option.some.inj h; obtain ⟨h1, h2⟩ := jZ hqs; refine ⟨by simp [h1], fun i r hr => ?_⟩
  cases i with
  | zero => simp at hr; subst hr; exact ⟨c, rfl, hq⟩
  | succ i => simp at hr; simpa using h2 i r hr
theorem wh {st : St} {o : Ow} {t : Nat} {y z : Nat × Nat} (hy : st.tok o t = some y) (o' : Ow) (t' : Nat) : (st.fL o t z).tok o' t' = open Classical in if o' = o ∧ t' = t then some z else st.tok o' t' := by
 classical
 have key : ∀ l : List (Nat × Nat), l[t]? = some y → (l.set t z)[t']? = if t' = t then some z else l[t']? := by
  intro l hl; rw [List.getElem?_set]; have := (List.getElem?_eq_some_iff.1 hl).1
  by_cases e : t = t'
  · subst e; simp [this]
  · rw [if_neg e, if_neg (Ne.symm e)]
 cases o with
 | fr =>
  cases o' with
  | fr => simp only [St.tok, St.fL] at hy ⊢; rw [key _ hy]; simp
  | bl h b => rw [if_neg (by simp)]; cases h <;> rfl
 | bl h b =>
  cases o' with
  | fr => rw [if_neg (by simp)]; simp only [St.tok, St.fL, rm]
  | bl h' b' =>
   simp only [St.tok, St.fL, nc] at hy ⊢
   by_cases e : h' = h ∧ b' = b
   · obtain ⟨rfl, rfl⟩ := e
     rw [if_pos ⟨rfl, rfl⟩]
     cases hb : st.bk h' b' with
     | none => rw [hb] at hy; cases hy
     | some x =>
      rw [hb] at hy; simp only [aO, ag] at hy ⊢
      rw [key _ hy]; simp
   · rw [if_neg e, if_neg (fun q => e ⟨by injection q.1, by injection q.1⟩)]
theorem nf (st : St) (o : Ow) (t : Nat) (z : Nat × Nat) (h : Bool) (b : Nat) : (st.fL o t z).blk h b = st.blk h b := by
 cases o with
 | fr => cases h <;> rfl
 | bl h' b' =>
  simp only [St.fL, St.blk, nc]; split
  · rename_i e; obtain ⟨rfl, rfl⟩ := e
    cases st.bk h b <;> rfl
  · rfl
theorem nL (st : St) (h' : Bool) (b' : Nat) (z : Nat × Nat) (h : Bool) (b : Nat) : (st.iN h' b' z).blk h b = st.blk h b := by
 simp only [St.iN, St.blk, nc]; split
 · rename_i e; obtain ⟨rfl, rfl⟩ := e
   cases st.bk h b <;> rfl
 · rfl
theorem ya (st : St) (o : Ow) (t : Nat) (z : Nat × Nat) : (st.fL o t z).lp = st.lp := by
 cases o with
 | fr => rfl
 | bl h b => exact qJ st h b _
theorem vZ (st : St) (o : Ow) (t : Nat) (z : Nat × Nat) : (st.fL o t z).stk.length = st.stk.length := by
 cases o with
 | fr => rfl
 | bl h b => exact n7 st h b _ false
theorem yM (st : St) (o : Ow) (t : Nat) (z : Nat × Nat) : (st.fL o t z).tk.length = st.tk.length := by
 cases o with
 | fr => simp [St.fL]
 | bl h b => rw [St.fL, rm]
structure pI (st st' : St) (o : Ow) (t e s : Nat) : Prop where
 blk : ∀ a b, st'.blk a b = st.blk a b
 tok : ∀ o' t', st'.tok o' t' = open Classical in if o' = o ∧ t' = t then some (e, s) else st.tok o' t'
 stk : st'.stk.length = st.stk.length
 tk : st.tk.length ≤ st'.tk.length
 lp : st'.lp = st.lp
theorem ud {st : St} {o : Ow} {t : Nat} {y : Nat × Nat} {e s : Nat} (hy : st.tok o t = some y) : pI st (st.fL o t (e, s)) o t e s :=
 ⟨fun a b => nf st o t _ a b, fun o' t' => wh hy o' t', vZ st o t _, Nat.le_of_eq (yM st o t _).symm, ya st o t _⟩
theorem u7 {st : St} {y : Nat × Nat} (o : Ow) (t' : Nat) : (st.mG y).tok o t' = open Classical in if o = .fr ∧ t' = st.tk.length then some y else st.tok o t' := by
 classical
 cases o with
 | bl h b => rw [if_neg (by simp)]; rfl
 | fr =>
  simp only [St.mG, St.tok, true_and]; rw [fb]; split
  · rename_i hlt; rw [if_neg (by omega)]
  · rename_i hlt
    by_cases e : t' = st.tk.length
    · subst e; simp
    · rw [if_neg e, List.getElem?_eq_none (by simp; omega), List.getElem?_eq_none (by omega)]
theorem rU {st : St} {e s : Nat} : pI st (st.mG (e, s)) .fr st.tk.length e s :=
 ⟨fun a b => by cases a <;> rfl, fun h' t' => u7 h' t', rfl, by simp [St.mG], rfl⟩
theorem vD {st : St} {h : Bool} {b e s : Nat} {cs : List PV} (hb : st.blk h b = some cs) : pI st (st.iN h b (e, s)) (.bl h b) (st.pL h b) e s := by
 classical
 refine ⟨fun a b' => nL st h b _ a b', fun o t' => ?_, n7 st h b _ false, by rw [St.iN, rm]; exact aq _, qJ st h b _⟩; obtain ⟨x, hx, _⟩ := Option.map_eq_some_iff.1 hb
 cases o with
 | fr => rw [if_neg (by simp)]; simp only [St.tok, St.iN, rm]
 | bl h' b' =>
  simp only [St.tok, St.iN, nc]
  by_cases q : h' = h ∧ b' = b
  · obtain ⟨rfl, rfl⟩ := q
    rw [if_pos ⟨rfl, rfl⟩, hx]
    have hn : st.pL h' b' = x.tk.length := by simp only [St.pL, hx]
    rw [hn]; simp only [aO, ag, true_and]; rw [fb]; split
    · rename_i hlt; rw [if_neg (by omega)]
    · rename_i hlt
      by_cases e' : t' = x.tk.length
      · subst e'; simp
      · rw [if_neg e', List.getElem?_eq_none (by simp; omega), List.getElem?_eq_none (by omega)]
  · rw [if_neg q, if_neg (fun z => q ⟨by injection z.1, by injection z.1⟩)]
theorem yd {st : St} {h : Bool} {b : Nat} : st.tok (.bl h b) (st.pL h b) = none := by
 simp only [St.tok, St.pL]
 cases st.bk h b with
 | none => rfl
 | some x => simp
theorem Sim.B9 (H : Sim w C st bs) {o : Ow} {t : Nat} (h : st.tok o t = none) : C.tl o t = none := by
 cases q : C.tl o t with
 | none => rfl
 | some y =>
  obtain ⟨B, f, to, e', s'⟩ := y; have := (H.tok o t B f to e' s' q).1; rw [h] at this; cases this
theorem Sim.drop (H : Sim w C st bs) {st' : St} {o : Ow} {t e s : Nat} (hg : pI st st' o t e s) (hgo : ∀ y, C.tl o t = some y → y.2.2.2.2 = s ∧ y.2.2.2.1 < e) :
 Sim w (C.gr (fun _ _ => False) o t (0, 0, 0, e, s)) st' bs ∧ Ext w C w (C.gr (fun _ _ => False) o t (0, 0, 0, e, s)) :=
 H.gr hg.blk hg.tok hg.stk hg.tk hg.lp (fun _ _ q => q.elim) (fun o a b => by omega) (fun h' t' B' f' to' e' s' y q o a b => ⟨fun q => q, fun _ => cD (by omega)⟩)
  (fun B' f' to' e' s' y => by obtain ⟨h1, h2⟩ := hgo _ y; exact ⟨h1, Nat.le_of_lt h2, fun q => by simp only at h2; omega⟩)
theorem tX (C : Ctx) (X : Nat → Nat → Prop) (o : Ow) (t : Nat) (y : Nat × Nat × Nat × Nat × Nat) : (C.gr X o t y).tl o t = some y := by simp [Ctx.gr]
theorem tW (C : Ctx) (X : Nat → Nat → Prop) {o o' : Ow} {t t' : Nat} (y : Nat × Nat × Nat × Nat × Nat) (h : ¬ (o' = o ∧ t' = t)) : (C.gr X o t y).tl o' t' = C.tl o' t' := by simp only [Ctx.gr]; rw [if_neg h]
theorem Sim.move (H : Sim w C st bs) {st1 st2 : St} {o o2 : Ow} {t t2 B f to e s : Nat} (htl : C.tl o t = some (B, f, to, e, s)) (hne : ¬ (o2 = o ∧ t2 = t)) (hno : C.tl o2 t2 = none)
 (h1 : pI st st1 o t (e + 1) s) (h2 : pI st1 st2 o2 t2 e s) :
 ∃ C', Sim w C' st2 bs ∧ Ext w C w C' ∧ C'.tl o2 t2 = some (B, f, to, e, s) := by
 obtain ⟨k1, k2⟩ := H.drop h1 (fun y hy => by rw [htl] at hy; cases hy; exact ⟨rfl, Nat.lt_succ_self _⟩); have htok := (H.tok o t B f to e s htl).2
 obtain ⟨g1, g2⟩ := k1.gr (st' := st2) (X := fun _ _ => False) (o := o2) (t := t2) (B := B) (f := f) (to := to) (e := e) (s := s) h2.blk h2.tok h2.stk h2.tk h2.lp (fun _ _ q => q.elim)
  (fun i a b => by
   obtain ⟨g1, g2, g3⟩ := htok i a b
   exact ⟨⟨fun z => z.elim g1 fun z => z, g2, g3⟩, fun q => q⟩)
  (fun o' t' B' f' to' e' s' y q i a b => ⟨fun q => q, fun z => by
   subst z
   by_cases q2 : o' = o ∧ t' = t
   · obtain ⟨rfl, rfl⟩ := q2
     rw [tX] at y; cases y; omega
   · rw [tW _ _ _ q2] at y
     rcases H.ng o' t' o t B' f' to' e' s' f to e s y htl with k | k
     · exact absurd k q2
     · by_cases i < f
       · exact cH ‹_›
       · exact cD (Nat.le_of_not_lt fun z => k i a b (by omega) z)⟩)
  (fun B' f' to' e' s' y => by rw [tW _ _ _ hne, hno] at y; cases y)
 exact ⟨_, g1, k2.trans g2, tX _ _ _ _ _⟩
theorem zX (H : Sim w C st bs) {h : Bool} {b : Nat} {old : List PV} (hb : st.blk h b = some old) {p : PV} {r : PV × St} (hm : qL h b p st = some r) {x : Value} (hx : Rep w C x p) :
 ∃ C', Sim w C' r.2 bs ∧ Ext w C w C' ∧ Rep w C' x r.1 ∧ (∀ a b', r.2.blk a b' = st.blk a b') ∧ ∀ m t l, (h = true ∨ b < m) → Rep w (C'.cut m t l) x r.1 := by
 have stay : ∀ {q : PV}, r = (q, st) → Rep w C x q → (∀ m t l, (h = true ∨ b < m) → Rep w (C.cut m t l) x q) → ∃ C', Sim w C' r.2 bs ∧ Ext w C w C' ∧ Rep w C' x r.1 ∧ (∀ a b', r.2.blk a b' = st.blk a b') ∧ ∀ m t l, (h = true ∨ b < m) → Rep w (C'.cut m t l) x r.1 := by
  intro q e h1 h2; subst e; exact ⟨C, H, Ext.refl w C, h1, fun _ _ => rfl, h2⟩
 have keep : ∀ {e n : Nat} {C' : Ctx} {es : List (List PV)}, Rep w C' x (.sl es (.own (.bl h b) n e)) → ∀ m t l, (h = true ∨ b < m) → Rep w (C'.cut m t l) x (.sl es (.own (.bl h b) n e)) := by
  intro e n C' es hr m t l hbm
  have htl : (C'.cut m t l).tl (.bl h b) n = C'.tl (.bl h b) n := by
   cases h with
   | true => rfl
   | false =>
    rcases hbm with q | q
    · cases q
    · simp only [Ctx.cut]; rw [if_pos q]
  refine kH hr rfl (C'.oG m t l) (fun base len cap sz hc => ?_) (fun hn => ?_)
  · simp only [fF, htl] at hc ⊢; exact hc
  · simp only [kc, htl] at hn ⊢; exact hn
 have pl : ∀ {q : PV}, eN p = some q → Rep w C x q ∧ ∀ m t l, (h = true ∨ b < m) → Rep w (C.cut m t l) x q := fun hq => ⟨kF hq hx rfl rfl, fun m t l _ => kF hq hx rfl (C.oG m t l)⟩
 unfold qL at hm; split at hm
 · rename_i es o t e
   cases hi : o.is h b with
   | true =>
    rw [hi] at hm; obtain rfl := Option.some.inj hm; obtain rfl := Ow.vH.1 hi; exact stay rfl hx (keep hx)
   | false =>
    rw [hi] at hm; simp only [cond_false] at hm
    have dead : ∃ C', Sim w C' ((PV.sl es .dead, st) : PV × St).2 bs ∧ Ext w C w C' ∧ Rep w C' x ((PV.sl es .dead, st) : PV × St).1 ∧ (∀ a b', ((PV.sl es .dead, st) : PV × St).2.blk a b' = st.blk a b') ∧ ∀ m t l, (h = true ∨ b < m) → Rep w (C'.cut m t l) x ((PV.sl es .dead, st) : PV × St).1 :=
     ⟨C, H, Ext.refl w C, kH hx rfl rfl (fun _ _ _ _ _ => trivial) (fun _ => trivial), fun _ _ => rfl, fun m t l _ => kH hx rfl (C.oG m t l) (fun _ _ _ _ _ => trivial) (fun _ => trivial)⟩
    split at hm
    · rename_i y hy
      cases hye : ai y.1 e with
      | false =>
       rw [hye] at hm; obtain rfl := Option.some.inj hm; exact dead
      | true =>
       rw [hye] at hm; obtain rfl := Option.some.inj hm; obtain ⟨y1, y2⟩ := y; obtain rfl : y1 = e := ao hye; obtain ⟨B, f, to, htl⟩ := H.hP o t y1 y2 hy
       have hne : ¬ ((Ow.bl h b) = o ∧ st.pL h b = t) := fun q => by rw [Ow.vH.2 q.1.symm] at hi; cases hi
       have g1 : pI st (st.fL o t (y1 + 1, y2)) o t (y1 + 1) y2 := ud hy
       have hb1 : (st.fL o t (y1 + 1, y2)).blk h b = some old := by rw [nf]; exact hb
       have hnt : (st.fL o t (y1 + 1, y2)).pL h b = st.pL h b := by
        cases o with
        | fr => cases h <;> rfl
        | bl h' b' =>
         simp only [St.fL, St.pL, nc]; rw [if_neg]
         rintro ⟨rfl, rfl⟩
         exact absurd (Ow.vH.2 rfl) (by rw [hi]; simp)
       have g2 : pI (st.fL o t (y1 + 1, y2)) ((st.fL o t (y1 + 1, y2)).iN h b (y1, y2)) (.bl h b) (st.pL h b) y1 y2 := by
        have := vD (e := y1) (s := y2) hb1; rw [hnt] at this; exact this
       obtain ⟨C', c1, c2, c3⟩ := H.move htl hne (H.B9 yd) g1 g2
       have hrep : Rep w C' x (.sl es (.own (.bl h b) (st.pL h b) y1)) := by
        have hm2 := hx.mono c2
        cases hx with
        | slnil hn => exact .slnil ⟨B, f, to, y1, y2, c3, aq _⟩
        | sl sz val h1 h2 h3 h4 h5 h6 h7 h8 =>
         refine .sl sz val h1 h2 h3 (fun i e j p he hp => c2.S _ _ (h4 i e j p he hp)) (fun i e j p he hp => (c2.cell _ _ (h4 i e j p he hp)).trans (h5 i e j p he hp)) h6 (fun i e j p he hp => (h7 i e j p he hp).mono c2.fz) ?_; obtain ⟨B', f', to', e', s', k1, k2, k3⟩ := h8; rw [htl] at k1; cases k1; exact ⟨B, f, to, y1, y2, c3, aq _, fun _ => k3 rfl⟩
       exact ⟨C', c1, c2, hrep, fun a b' => by rw [nL, nf], keep hrep⟩
    · obtain rfl := Option.some.inj hm
      exact dead
 · rename_i es c hcn
   obtain rfl := Option.some.inj hm
   have hcc : ∀ {C'' : Ctx}, (∀ base len cap sz, fF C base len cap sz c → fF C'' base len cap sz c) ∧ (kc C c → kc C'' c) := by
    intro C''
    cases c with
    | own o t e => exact absurd rfl (hcn o t e)
    | nil => exact ⟨fun _ _ _ _ h => h, fun _ => trivial⟩
    | full => exact ⟨fun _ _ _ _ h => h, fun _ => trivial⟩
    | dead => exact ⟨fun _ _ _ _ h => h, fun _ => trivial⟩
   exact stay rfl hx fun m t l _ => kH hx rfl (C.oG m t l) hcc.1 hcc.2
 · obtain rfl := Option.some.inj hm
   have := pl (q := _) rfl; exact stay rfl this.1 this.2
 · obtain rfl := Option.some.inj hm
   have := pl (q := _) rfl; exact stay rfl this.1 this.2
 · obtain rfl := Option.some.inj hm
   have := pl (q := _) rfl; exact stay rfl this.1 this.2
 · obtain rfl := Option.some.inj hm
   have := pl (q := _) rfl; exact stay rfl this.1 this.2
 · obtain rfl := Option.some.inj hm
   have := pl (q := _) rfl; exact stay rfl this.1 this.2
 · obtain rfl := Option.some.inj hm
   have := pl (q := _) rfl; exact stay rfl this.1 this.2
 · rename_i f caps
   cases hs : eM f && caps.all (sf false 0 3) with
   | false => rw [hs] at hm; simp at hm
   | true =>
    rw [hs] at hm; obtain rfl := Option.some.inj hm; have := pl (q := .clo f caps) (by simp only [eN]; rw [hs]; rfl); exact stay rfl this.1 this.2
 · cases hm
theorem oS {h : Bool} {b : Nat} {old : List PV} : ∀ {cs : List PV} {st : St} {C : Ctx} {r : List PV × St} {vs : List Value}, lZ h b cs st = some r → Sim w C st bs → st.blk h b = some old → vs.length = cs.length →
 (∀ (i : Nat) (x : Value) (p : PV), vs[i]? = some x → cs[i]? = some p → Rep w C x p) →
 ∃ C', Sim w C' r.2 bs ∧ Ext w C w C' ∧ r.1.length = cs.length ∧ (∀ a b', r.2.blk a b' = st.blk a b') ∧ (∀ (i : Nat) (x : Value) (p : PV), vs[i]? = some x → r.1[i]? = some p → Rep w C' x p) ∧
  ∀ m t l, (h = true ∨ b < m) → ∀ (i : Nat) (x : Value) (p : PV), vs[i]? = some x → r.1[i]? = some p → Rep w (C'.cut m t l) x p
 | [], st, C, r, vs, hm, H, hb, hl, hr => by
  obtain rfl := Option.some.inj hm; exact ⟨C, H, Ext.refl w C, rfl, fun _ _ => rfl, by simp, by simp⟩
 | c :: cs, st, C, r, vs, hm, H, hb, hl, hr => by
  match vs, hl, hr with
  | v :: vs, hl, hr =>
   simp only [lZ] at hm; obtain ⟨r1, hr1, hm⟩ := Option.bind_eq_some_iff.1 hm; obtain ⟨r2, hr2, hm⟩ := Option.bind_eq_some_iff.1 hm; obtain rfl := Option.some.inj hm; obtain ⟨C1, a1, a2, a3, a4, a5⟩ := zX H hb hr1 (hr 0 v c rfl rfl)
   obtain ⟨C2, b1, b2, b3, b4, b5, b6⟩ := oS (vs := vs) hr2 a1 (by rw [a4]; exact hb) (by simpa using hl) fun i x p hx hp => (hr (i + 1) x p (by simpa using hx) (by simpa using hp)).mono a2
   refine ⟨C2, b1, a2.trans b2, by simp [b3], fun a b' => by rw [b4, a4], fun i x p hx hp => ?_, fun m t l hbm i x p hx hp => ?_⟩
   · cases i with
     | zero => simp at hx hp; subst hx; subst hp; exact a3.mono b2
     | succ i => simp at hx hp; exact b5 i x p hx hp
   · cases i with
     | zero => simp at hx hp; subst hx; subst hp; exact (a5 m t l hbm).mono (b2.cut m t l)
     | succ i => simp at hx hp; exact b6 m t l hbm i x p hx hp
theorem tq (H : Sim w C st bs) (base : Nat) (hbase : ∀ m t l, (m, t, l) ∈ bs → m ≤ base) {h : Bool} {b off B : Nat} {cs : List PV} {st' : St} (hp : putCells base h b off cs st = some st') (hσ : C.σ h b = some B)
 {vs : List Value} (hl : vs.length = cs.length) (hone : ∀ v ∈ vs, v.oneCell' = true) (hr : ∀ (i : Nat) (x : Value) (p : PV), vs[i]? = some x → cs[i]? = some p → Rep w C x p) :
 ∃ C', (storeCells ⟨B, off, none⟩ vs).run P w = .ok () (w.setCells B off vs) ∧ Sim (w.setCells B off vs) C' st' bs ∧ Ext w C (w.setCells B off vs) C' := by
 unfold putCells at hp; obtain ⟨old, hold, hp⟩ := Option.bind_eq_some_iff.1 hp
 cases hb : di (off + cs.length) old.length && aG cs with
 | false => rw [hb] at hp; simp at hp
 | true =>
  rw [hb] at hp; simp only [cond_true] at hp; rw [an] at hb; have b2 := dP hb.1; obtain ⟨B', arr, elem, fr, a1, a2, a3, a4, a5, a6, a7, a8⟩ := H.blk h b old hold; rw [hσ] at a1; obtain rfl := Option.some.inj a1
  have hrun := run_storeCells_cells (P := P) B off vs 0 w (fun j hj => by
   have hj' : off + 0 + j < arr.size := by omega
   simp only [World.cell?, a2]
   simpa using hj') (fun j hj => by
   simp only [World.frozen?, a2]; have := a4 (off + 0 + j); simp only [hU] at this
   cases hq : (decide (fr.1 ≤ off + 0 + j) && decide (off + 0 + j < fr.2)) with
   | false => rfl
   | true => simp at hq; exact absurd hq (by simpa using this)) hone
  have hrun' : (storeCells ⟨B, off, none⟩ vs).run P w = .ok () (w.setCells B off vs) := by simpa using hrun
  cases hlow : h || fC b base with
  | true =>
   rw [hlow] at hp; simp only [cond_true] at hp; obtain ⟨q, hq, hp⟩ := Option.bind_eq_some_iff.1 hp; obtain rfl := Option.some.inj hp; obtain ⟨C1, c1, c2, c3, c4, c5, c6⟩ := oS hq H hold hl hr
   obtain ⟨d1, d2⟩ := c1.store (vs := vs) (cs := q.1) (off := off) (old := old) (c2.σ _ _ _ hσ) (by rw [c4]; exact hold) (by omega) (by omega) hone c5 fun m t l hm hbm => c6 m t l hbm
   exact ⟨C1, hrun', d1, c2.trans d2⟩
  | false =>
   rw [hlow] at hp; obtain rfl := Option.some.inj hp
   obtain ⟨d1, d2⟩ := H.store (vs := vs) (cs := cs) (off := off) hσ hold hl b2 hone hr fun m t l hm hbm => by
    exfalso
    rw [Bool.or_eq_false_iff] at hlow
    rcases hbm with q | q
    · rw [q] at hlow; cases hlow.1
    · have := hbase m t l hm
      have : fC b base = true := by rw [Nat.blt_eq]; omega
      rw [this] at hlow; cases hlow.2
   exact ⟨C, hrun', d1, d2⟩
theorem AD (H : Sim w C st bs) (base : Nat) (hbase : ∀ m t l, (m, t, l) ∈ bs → m ≤ base) {t : TypeId} {x v : Value} {p q : PV} {st' : St} (h : au base (szT P t) p q st = some st') (hx : Rep w C x p) (hv : Rep w C v q) :
 ∃ w' C', (Instr.storeAt t x v).run P w = .ok () w' ∧ Sim w' C' st' bs ∧ Ext w C w' C' := by
 unfold au at h; split at h
 · rename_i a b off
   obtain ⟨cs, hcs, h⟩ := Option.bind_eq_some_iff.1 h
   cases hb : ai cs.length (szT P t) && !ai (szT P t) 0 with
   | false => rw [hb] at h; simp at h
   | true =>
    rw [hb] at h; simp only [cond_true] at h; rw [an] at hb; have b1 := ao hb.1
    have hne : szT P t ≠ 0 := by intro z; rw [z] at hb; simp at hb
    obtain ⟨ti, hti⟩ := gk hne; obtain ⟨c1, c2, c3⟩ := oY hcs hv
    cases hx with
    | @ptr _ _ _ _ B hσ =>
     obtain ⟨C', k1, k2, k3⟩ := tq (P := P) H base hbase h hσ (vs := v.cells.toList) (by simpa using c1)
      (fun y hy => by
       obtain ⟨i, hi⟩ := List.mem_iff_getElem?.1 hy
       exact c2 i y (by simpa using hi)) (fun i y r hy hr => c3 i y r (by simpa using hy) hr)
     refine ⟨_, C', ?_, k2, k3⟩
     have hsz : v.cells.size = szT P t := by omega
     simp only [Instr.storeAt, Instr.sureAddr, storeVar, Sem.run_bind, Sem.run_pure, Result.andThen_ok, gf hti, hsz]; simpa using k1
 · cases h
theorem vI (H : Sim w C st bs) (h : Bool) {elem : TypeId} {arr : Array Value} {cs : List PV} (hr : eD w C arr cs) (hc : ∀ m t l, (m, t, l) ∈ bs → h = true → eD w (C.cut m t l) arr cs) :
 ∃ w' C', (newRow elem arr).run P w = .ok ⟨w.heap.size, 0, none⟩ w' ∧ Sim w' C' (st.lay h cs) bs ∧ Ext w C w' C' ∧ w'.heap[w.heap.size]? = some (.cells arr elem (0, 0)) ∧ C'.σ h (st.len h) = some w.heap.size := by
 obtain ⟨k1, k2⟩ := H.lay h arr elem cs (Nat.le_of_eq hr.size.symm) hr.one hr.rep fun m t l hm hh o x p a b => (hc m t l hm hh).rep o x p a b
 refine ⟨_, _, ?_, k1, k2, by simp, by simp [Ctx.lay]⟩; simp [newRow, run_newObj]
theorem Dh (H : Sim w C st bs) {h : Bool} {elem : TypeId} {arr : Array Value} {cs : List PV} (hr : eD w C arr cs) {r : PV × St} (hb : Dc h cs st = some r) :
 ∃ w' C', (newRow elem arr).run P w = .ok ⟨w.heap.size, 0, none⟩ w' ∧ Sim w' C' r.2 bs ∧ Ext w C w' C' ∧ Rep w' C' (.pointer (some ⟨w.heap.size, 0, none⟩)) r.1 := by
 unfold Dc at hb
 cases h with
 | false =>
  obtain rfl := Option.some.inj hb; obtain ⟨w', C', k1, k2, k3, _, k4⟩ := vI (P := P) (elem := elem) H false hr (fun _ _ _ _ q => by cases q); exact ⟨w', C', k1, k2, k3, .ptr k4⟩
 | true =>
  simp only at hb
  cases ho : aG cs with
  | false => rw [ho] at hb; simp at hb
  | true =>
   rw [ho] at hb; obtain ⟨q, hq, hb⟩ := Option.bind_eq_some_iff.1 hb; obtain rfl := Option.some.inj hb
   have hu : ∀ C' : Ctx, eD w C' arr (cs.map fun _ => PV.u) := fun C' => ⟨by simp [hr.size], hr.one, fun i y p hy hp => by obtain ⟨_, _, rfl⟩ := cr hp; exact .u⟩
   obtain ⟨w', C', k1, k2, k3, k5, k4⟩ := vI (P := P) (elem := elem) H true (hu C) (fun m t l _ _ => hu _); have hlen : st.len true = st.hp.length := rfl
   have hblk : (st.lay true (cs.map fun _ => PV.u)).blk true st.hp.length = some (cs.map fun _ => PV.u) := by rw [nK, if_pos ⟨rfl, rfl⟩]
   have hvl : arr.toList.length = cs.length := by simpa using hr.size
   obtain ⟨C1, c1, c2, c3, c4, c5, c6⟩ := oS (vs := arr.toList) hq k2 hblk hvl fun i x p hx hp => (hr.rep i x p (by simpa using hx) hp).mono k3
   have hσ1 := c2.σ _ _ _ k4; rw [hlen] at hσ1
   obtain ⟨d1, d2⟩ := c1.put (vs := []) (off := 0) (ds := q.1) (old := cs.map fun _ => PV.u) hσ1 (by rw [c4]; exact hblk) k5 (by have := hr.size; omega) (by simp) (by simp) (by
    cases cs with
    | nil => right; exact ⟨rfl, List.length_eq_zero_iff.1 c3⟩
    | cons c cs => left; simp) (fun o x p hx hp => c5 o x p (by simpa [iq] using hx) hp) (fun m t l hm hbm o x p hx hp => c6 m t l hbm o x p (by simpa [iq] using hx) hp)
   refine ⟨w', C1, k1, ?_, k3.trans c2, .ptr hσ1⟩; simpa [World.setCells] using d1
theorem kI {x : Value} {p : PV} {d n m : Nat} {y : Nat} {code : BoundsCode} (h : bnd (some p) d n = some m) (hx : Rep w C x p) (hn : n ≤ y) : (Instr.sliceBound x y code).run P w = .ok m w ∧ m ≤ n := by
 unfold bnd at h; split at h
 · rename_i e; cases e
 · rename_i k i e
   obtain rfl := Option.some.inj e; obtain ⟨rfl, _⟩ := eo hx
   cases hb : decide (0 ≤ i) && decide (i ≤ (n : Int)) with
   | false => rw [hb] at h; simp at h
   | true =>
    rw [hb] at h; obtain rfl := Option.some.inj h; simp at hb; refine ⟨?_, by omega⟩; simp only [Instr.sliceBound, asIntOf, Sem.run_bind, Sem.run_pure, Result.andThen_ok]; rw [if_pos ⟨hb.1, by omega⟩]
    rfl
 · cases h
end
section
variable {P : Program} {w : World} {C : Ctx} {st : St} {bs : List (Nat × Nat × Nat)}
def tF (w : World) (C : Ctx) : Option Value → Option PV → Prop
 | none, none => True
 | some x, some p => Rep w C x p
 | _, _ => False
theorem ff {sz : Nat} {es : List (List PV)} (h : cK sz es = true) {i : Nat} {e : List PV} (he : es[i]? = some e) : e.length = sz := by
 unfold cK at h; rw [dD] at h; exact ao (h e (dS he))
theorem BZ {B o len cap l h : Nat} {es : List (List PV)} {c : Cap} {sz : Nat} (hne : sz ≠ 0) (hsz : cK sz es = true) (hx : Rep w C (.slice (some ⟨B, o, none⟩) len cap) (.sl es c)) (hh : h ≤ es.length) (hl : l ≤ h) (full : Bool) (m : Nat)
 (hm : if full then m = h else m = cap) (base' : Option Addr) (hb : base' = if m = l then some ⟨B, o, none⟩ else some ⟨B, o + l * sz, none⟩) :
 Rep w C (.slice base' (h - l) (m - l)) (.sl ((es.take h).drop l) (kK c h es.length full)) := by
 cases hx with
 | @sl _ _ _ _ _ _ _ sz' val h1 h2 h3 h4 h5 h6 h7 h8 =>
  have hget : ∀ (i : Nat) (e : List PV), ((es.take h).drop l)[i]? = some e → es[l + i]? = some e := by
   intro i e he; rw [gD, fc] at he; split at he
   · exact he
   · cases he
  have hlen : ((es.take h).drop l).length = h - l := by simp; omega
  have hszz : ∀ (i : Nat) (e : List PV), es[i]? = some e → sz' = sz := fun i e he => by rw [← h3 i e he]; exact ff hsz he
  have hhm : h ≤ m := by
   cases full with
   | true => simp at hm; omega
   | false => simp at hm; omega
  by_cases hlm : m = l
  · -- nothing is left
    have hhl : h = l := by omega
    subst hhl; subst hlm; rw [if_pos rfl] at hb; subst hb; have hnil : (es.take m).drop m = [] := List.length_eq_zero_iff.1 (by omega); rw [hnil, Nat.sub_self]; refine .sl (match c with | .own a t e => (match C.tl a t with | some (_, _, _, _, s) => s | none => 0) | _ => 0) (fun _ _ => .nilFunc) rfl (aq _) (by simp) (by simp) (by simp) (by simp) (by simp) ?_
    cases full with
    | true => exact rfl
    | false =>
     simp only [kK, cond_false]
     cases hq : ai m es.length with
     | false => exact trivial
     | true =>
      cases c with
      | nil => simp [fF] at h8
      | full => exact rfl
      | dead => exact trivial
      | own a t e =>
       obtain ⟨B', f, to, e', s, g1, g2, g3⟩ := h8; exact ⟨B', f, to, e', s, g1, g2, fun _ => ⟨by simp only [g1], cH rfl⟩⟩
  · rw [if_neg hlm] at hb
    have hls : l * sz = l * sz' := by
     by_cases hes : es = []
     · subst hes
       simp at hh
       obtain rfl : l = 0 := by omega
       simp
     · obtain ⟨e0, he0⟩ : ∃ e0, es[0]? = some e0 := by
        cases es with
        | nil => exact absurd rfl hes
        | cons a b => exact ⟨a, rfl⟩
       rw [hszz _ _ he0]
    rw [hls] at hb; subst hb
    have hpos : ∀ i j, o + l * sz' + i * sz' + j = o + (l + i) * sz' + j := fun i j => by rw [Nat.add_mul]; omega
    refine .sl sz' (fun i j => val (l + i) j) hlen.symm (by omega) (fun i e he => h3 _ e (hget i e he)) (fun i e j p he hp => ?_) (fun i e j p he hp => ?_) (fun i e j p he hp => h6 _ e j p (hget i e he) hp) (fun i e j p he hp => h7 _ e j p (hget i e he) hp) ?_
    · rw [hpos]; exact h4 _ e j p (hget i e he) hp
    · rw [hpos]; exact h5 _ e j p (hget i e he) hp
    · cases full with
      | true =>
       simp only [kK, cond_true]; simp only [if_true] at hm; subst hm; exact rfl
      | false =>
       simp only [kK, cond_false]; simp only [ab, if_false] at hm; subst hm
       cases hq : ai h es.length with
       | false => exact trivial
       | true =>
        have hq := ao hq; simp only [cond_true]
        cases c with
        | nil => simp [fF] at h8
        | full => simp only [fF] at h8 ⊢; omega
        | dead => exact trivial
        | own a t e =>
         obtain ⟨B', f, to, e', s, g1, g2, g3⟩ := h8; refine ⟨B', f, to, e', s, g1, g2, fun q => ?_⟩; obtain ⟨hs, g4⟩ := g3 q; refine ⟨hs, ?_⟩
         rcases g4 with g4 | ⟨o', g5, g6, g7⟩
         · exact cH (by clear g3 q hs; omega)
         · clear g3 q
           refine cD ⟨o + l * sz', ?_, ?_, ?_⟩
           · injection g5 with g5; injection g5 with g8 g9; subst g8; rfl
           · injection g5 with g5; injection g5 with g8 g9
             have k1 : l * sz' ≤ h * sz' := eP _ hl; rw [g6, ← g9, h1, ← hq, Nat.sub_mul]; clear g6 g7; omega
           · injection g5 with g5; injection g5 with g8 g9
             have k1 : l * sz' ≤ m * sz' := eP _ (Nat.le_trans hl hhm); rw [g7, ← g9, Nat.sub_mul]; clear g6 g7; omega
theorem nv {n len cap : Nat} {lo hi mx : Option Value} {l h m : Option PV} {lv hv mv : Nat} (hlen : len = n) (hcap : len ≤ cap) (hl : tF w C lo l) (hh : tF w C hi h) (hm : tF w C mx m)
 (em : bnd m n n = some mv) (eh : bnd h n mv = some hv) (el : bnd l 0 hv = some lv) (hc : (m.isSome && (h.isNone || !ai mv hv)) = false) :
 ∃ m', (Instr.sliceBounds true len cap lo hi mx).run P w = .ok (lv, hv, m') w ∧ hv ≤ n ∧ lv ≤ hv ∧ (if m.isSome then m' = hv else m' = cap) := by
 have klow : lv ≤ hv ∧ ((lo = none ∧ lv = 0) ∨ ∃ y, lo = some y ∧ ∀ code, (Instr.sliceBound y hv code).run P w = .ok lv w) := by
  cases l with
  | none =>
   cases lo with
   | some _ => exact hl.elim
   | none => obtain rfl : 0 = lv := Option.some.inj el; exact ⟨dh _, cH ⟨rfl, rfl⟩⟩
  | some q =>
   cases lo with
   | none => exact hl.elim
   | some y => exact ⟨(kI (P := P) (y := hv) (code := .index) el hl (aq _)).2, cD ⟨y, rfl, fun code => (kI el hl (aq _)).1⟩⟩
 cases m with
 | none =>
  cases mx with
  | some _ => exact hm.elim
  | none =>
   obtain rfl : n = mv := Option.some.inj em
   cases h with
   | none =>
    cases hi with
    | some _ => exact hh.elim
    | none =>
     obtain rfl : n = hv := Option.some.inj eh; refine ⟨cap, ?_, aq _, klow.1, by simp⟩
     rcases klow.2 with ⟨rfl, rfl⟩ | ⟨y, rfl, hy⟩
     · simp [Instr.sliceBounds, hlen]
     · simp [Instr.sliceBounds, hlen, hy]
   | some q =>
    cases hi with
    | none => exact hh.elim
    | some y =>
     have k1 : ∀ code, (Instr.sliceBound y cap code).run P w = .ok hv w ∧ hv ≤ n := fun code => kI eh hh (by omega)
     refine ⟨cap, ?_, (k1 .index).2, klow.1, by simp⟩
     have k2 := fun code => (k1 code).1
     rcases klow.2 with ⟨rfl, rfl⟩ | ⟨y, rfl, hy⟩
     · simp [Instr.sliceBounds, k2]
     · simp [Instr.sliceBounds, k2, hy]
 | some qm =>
  cases mx with
  | none => exact hm.elim
  | some ym =>
   have k0 : ∀ code, (Instr.sliceBound ym cap code).run P w = .ok mv w ∧ mv ≤ n := fun code => kI em hm (by omega)
   cases h with
   | none => simp at hc
   | some qh =>
    cases hi with
    | none => exact hh.elim
    | some yh =>
     have k1 : ∀ code, (Instr.sliceBound yh mv code).run P w = .ok hv w ∧ hv ≤ mv := fun code => kI eh hh (aq _)
     have kmh : mv = hv := by
      have := hc; simp at this; exact this
     have k2 := fun code => (k1 code).1
     have k3 := fun code => (k0 code).1
     refine ⟨mv, ?_, ?_, klow.1, by simp [kmh]⟩
     · rcases klow.2 with ⟨rfl, rfl⟩ | ⟨y, rfl, hy⟩
       · simp [Instr.sliceBounds, k2, k3]
       · simp [Instr.sliceBounds, k2, k3, hy]
     · have := (k0 .index).2; have := (k1 .index).2; omega
theorem u5 {t : TypeId} {x : Value} {lo hi mx : Option Value} {p r : PV} {l h m : Option PV} (H : gz P t p l h m = some r) (hx : Rep w C x p) (hl : tF w C lo l) (hh : tF w C hi h) (hm : tF w C mx m) :
 fQ P w C (Instr.sliceAt t x lo hi mx) r := by
 unfold gz at H; split at H
 · rename_i s
   obtain ⟨rfl, _⟩ := eo hx; split at H
   · rename_i l' h' e1 e2
     split at H
     · rename_i hu
       have ho : ∀ {y : Option Value} {q : Option PV} {v : Option Value}, tF w C y q → yf q = some v → y = v := by
        intro y q v h1 h2
        cases q with
        | none =>
         cases y with
         | none => exact Option.some.inj h2
         | some _ => exact h1.elim
        | some q =>
         cases y with
         | none => exact h1.elim
         | some y =>
          unfold yf at h2; split at h2
          · rename_i e; cases e
          · rename_i a e
            obtain rfl := Option.some.inj e; obtain rfl := Option.some.inj h2; rw [(eo h1).1]
          · cases h2
       have k1 := ho hl e1; have k2 := ho hh e2; subst k1; subst k2
       have k3 : mx = none := by cases mx with | none => rfl | some _ => exact hm.elim
       subst k3; obtain ⟨v, hv, hr⟩ := gJ (w := w) (C := C) H; refine ⟨v, ?_, hr⟩; simp only [Instr.sliceAt, Sem.run_bind, run_underlying hu, Result.andThen_ok]; exact hv
     · cases H
   · cases H
 · rename_i es c
   split at H
   · rename_i elem hu
     cases hz : ai (szT P elem) 0 with
     | true => rw [hz] at H; simp at H
     | false =>
      rw [hz] at H; simp only [cond_false] at H; have hne : szT P elem ≠ 0 := Nat.ne_of_beq_eq_false hz; obtain ⟨ie, hie⟩ := gk hne; obtain ⟨mv, em, H⟩ := Option.bind_eq_some_iff.1 H; obtain ⟨hv, eh, H⟩ := Option.bind_eq_some_iff.1 H; obtain ⟨lv, el, H⟩ := Option.bind_eq_some_iff.1 H
      cases hc : (m.isSome && (h.isNone || !ai mv hv)) || !cK (szT P elem) es with
      | true => rw [hc] at H; simp at H
      | false =>
       rw [hc] at H; simp only [cond_false] at H; obtain rfl := Option.some.inj H; rw [Bool.or_eq_false_iff] at hc
       have hok : cK (szT P elem) es = true := by simpa using hc.2
       obtain ⟨base, len, cap, rfl, hlen, hcap⟩ : ∃ base len cap, x = .slice base len cap ∧ len = es.length ∧ len ≤ cap := by
        cases hx with
        | slnil _ => exact ⟨none, 0, 0, rfl, rfl, aq _⟩
        | sl sz val h1 h2 h3 h4 h5 h6 h7 h8 => exact ⟨_, _, _, rfl, h1, h2⟩
       obtain ⟨m', kb, kh, kl, km⟩ := nv (P := P) hlen hcap hl hh hm em eh el hc.1; refine ⟨.slice (if m' = lv then base else base.map (·.add (lv * szT P elem))) (hv - lv) (m' - lv), ?_, ?_⟩
       · simp only [Instr.sliceAt, Sem.run_bind, run_underlying hu, Result.andThen_ok, Instr.slice]
         rw [kb]; simp only [Result.andThen_ok, gf hie]
         rfl
       · cases base with
         | none =>
          have hnil : es = [] ∧ len = 0 ∧ cap = 0 := by
           cases hx with
           | slnil _ => exact ⟨rfl, rfl, rfl⟩
          obtain ⟨rfl, rfl, rfl⟩ := hnil; simp at kh; subst kh
          obtain rfl : lv = 0 := by omega
          have hm0 : m' = 0 := by
           cases m with
           | none => simpa using km
           | some _ => simpa using km
          subst hm0
          cases hx with
          | slnil hn =>
           refine .slnil ?_; unfold kK
           cases m.isSome with
           | true => exact trivial
           | false => exact hn
         | some a =>
          have ha : ∃ B o, a = ⟨B, o, none⟩ := by
           cases hx with
           | sl sz val h1 h2 h3 h4 h5 h6 h7 h8 => exact ⟨_, _, rfl⟩
          obtain ⟨B, o, rfl⟩ := ha; refine BZ hne hok hx kh kl m.isSome m' km _ ?_; rw [aO, iV]
   · cases H
 · rename_i rh rb off len sz
   split at H
   · rename_i elem hu
     cases hz : ai sz 0 || !ai (szT P elem) sz with
     | true => rw [hz] at H; simp at H
     | false =>
      rw [hz] at H; simp only [cond_false] at H; rw [Bool.or_eq_false_iff] at hz; have hne : sz ≠ 0 := Nat.ne_of_beq_eq_false hz.1; have hsz : szT P elem = sz := ao (by simpa using hz.2); obtain ⟨ie, hie⟩ := gk (P := P) (t := elem) (by rw [hsz]; exact hne); obtain ⟨mv, em, H⟩ := Option.bind_eq_some_iff.1 H; obtain ⟨hv, eh, H⟩ := Option.bind_eq_some_iff.1 H; obtain ⟨lv, el, H⟩ := Option.bind_eq_some_iff.1 H
      cases hx with
      | @rs _ _ _ _ _ cap _ B arr elem' fr h1 h2 h3 h4 =>
       have fin : ∀ m', (Instr.sliceBounds true len cap lo hi mx).run P w = .ok (lv, hv, m') w → Rep w C (.slice (if m' = lv then some ⟨B, off, none⟩ else some ⟨B, off + lv * sz, none⟩) (hv - lv) (m' - lv)) r →
        fQ P w C (Instr.sliceAt t (.slice (some ⟨B, off, none⟩) len cap) lo hi mx) r := by
        intro m' kb kr; refine ⟨_, ?_, kr⟩; simp only [Instr.sliceAt, Sem.run_bind, run_underlying hu, Result.andThen_ok, Instr.slice]; rw [kb]; simp only [Result.andThen_ok, gf hie, hsz]
        by_cases q : m' = lv <;> simp [q, iV]
       split at H
       · obtain ⟨m', kb, kh, kl, km⟩ := nv (P := P) (n := len) (m := none) rfl h2 hl hh hm em eh el rfl
         simp only [Option.isSome_none, ab, if_false] at km; subst km; refine fin m' kb ?_
         cases hq : ai lv 0 || fC lv len with
         | true =>
          rw [hq] at H; obtain rfl := Option.some.inj H; rw [Bool.or_eq_true] at hq
          have hcase : (m' = lv ∧ lv = 0) ∨ m' ≠ lv := by
           rcases hq with q | q
           · have := ao q
             by_cases z : m' = lv
             · exact cH ⟨z, this⟩
             · exact cD z
           · rw [Nat.blt_eq] at q
             exact cD (by omega)
          have hbase : (if m' = lv then some (⟨B, off, none⟩ : Addr) else some ⟨B, off + lv * sz, none⟩) = some ⟨B, off + lv * sz, none⟩ := by
           rcases hcase with ⟨z, z0⟩ | z
           · rw [if_pos z, z0]; simp
           · rw [if_neg z]
          rw [hbase]; refine .rs h1 (by omega) h3 ?_
          have hle : lv ≤ m' := by omega
          have : lv * sz + (m' - lv) * sz = m' * sz := by rw [← Nat.add_mul]; congr 1; omega
          omega
         | false =>
          rw [hq] at H; obtain rfl := Option.some.inj H; rw [Bool.or_eq_false_iff] at hq
          have hlt : ¬ lv < len := fun z => by rw [← Nat.blt_eq] at z; rw [z] at hq; cases hq.2
          obtain rfl : hv = lv := by omega
          rw [Nat.sub_self]; split
          · exact .sl 0 (fun _ _ => .nilFunc) rfl (dh _) (by simp) (by simp) (by simp) (by simp) (by simp) trivial
          · exact .sl 0 (fun _ _ => .nilFunc) rfl (dh _) (by simp) (by simp) (by simp) (by simp) (by simp) trivial
       · cases hq : h.isSome && ai mv hv && ai hv lv with
         | false => rw [hq] at H; simp at H
         | true =>
          rw [hq] at H; obtain rfl := Option.some.inj H; rw [an, an] at hq
          have hnone : h.isNone = false := by
           have := hq.1.1
           cases h with
           | none => cases this
           | some _ => rfl
          obtain ⟨m', kb, kh, kl, km⟩ := nv (P := P) (n := len) (m := some _) rfl h2 hl hh hm em eh el (by rw [hnone, hq.1.2]; rfl); simp only [Option.isSome_some, if_true] at km; have hlh := ao hq.2; subst km; refine fin m' kb ?_; rw [← hlh, Nat.sub_self, if_pos rfl]; exact .sl 0 (fun _ _ => .nilFunc) rfl (dh _) (by simp) (by simp) (by simp) (by simp) (by simp) rfl
   · cases H
 · cases H
end
section
variable {P : Program} {w : World} {C : Ctx} {st : St} {bs : List (Nat × Nat × Nat)}
theorem Sim.more (H : Sim w C st bs) {X : Nat → Nat → Prop} (hX : ∀ B o, X B o → B < w.heap.size ∧ (∀ a b cs, C.σ a b = some B → st.blk a b = some cs → cs = []) ∧ ∀ h t B' f to e s, C.tl h t = some (B', f, to, e, s) → f ≤ o → o < to → B' ≠ B) :
 Sim w ⟨fun B o => C.S B o ∨ X B o, C.σ, C.tl, C.lp, C.N⟩ st bs ∧ Ext w C w ⟨fun B o => C.S B o ∨ X B o, C.σ, C.tl, C.lp, C.N⟩ := by
 have hx : Ext w C w ⟨fun B o => C.S B o ∨ X B o, C.σ, C.tl, C.lp, C.N⟩ :=
  Ext.same rfl (fun _ _ x => cH x) (fun _ _ _ x => x) (fun _ _ B f to e _ x => ⟨B, f, to, e, x, aq _, fun _ => ⟨rfl, rfl, rfl⟩⟩) (fun _ _ x => x)
 refine ⟨⟨?_, H.dom, H.inj, ?_, ?_, H.hP, H.ng, H.bnd, H.low, ?_, H.jE, H.jW⟩, hx⟩
 · intro h' b' ds hd
   obtain ⟨B2, arr2, elem2, fr2, c1, c2, c3, c4, c5, c6, c7, c8⟩ := H.blk h' b' ds hd; refine ⟨B2, arr2, elem2, fr2, c1, c2, c3, c4, ?_, c6, fun o x p hx' hp => (c7 o x p hx' hp).mono hx, fun m t l hm hbm o x p hx' hp => (c8 m t l hm hbm o x p hx' hp).mono (hx.cut m t l)⟩
   rintro hne o (x | x)
   · exact c5 hne o x
   · exact hne ((hX _ _ x).2.1 _ _ _ c1 hd)
 · rintro B2 o (x | x)
   · exact H.Sok B2 o x
   · exact (hX _ _ x).1
 · intro h' t' B' f' to' e' s' x
   refine ⟨(H.tok h' t' B' f' to' e' s' x).1, fun o h1 h2 => ?_⟩; obtain ⟨g1, g2, g3⟩ := (H.tok h' t' B' f' to' e' s' x).2 o h1 h2; exact ⟨fun z => z.elim g1 fun z => (hX _ _ z).2.2 h' t' B' f' to' e' s' x h1 h2 rfl, g2, g3⟩
 · intro i r hr
   obtain ⟨B2, h1, h2⟩ := H.lps i r hr; exact ⟨B2, h1, h2.mono hx fun _ a _ => a⟩
theorem Sim.xz (H : Sim w C st bs) {h : Ow} {t B f to e s o : Nat} (x : C.tl h t = some (B, f, to, e, s)) (h1 : f ≤ o) (h2 : o < to) : B < w.heap.size := by
 obtain ⟨_, _, arr, elem, fr, g, _⟩ := (H.tok h t B f to e s x).2 o h1 h2; exact (Array.getElem?_eq_some_iff.1 g).1
theorem Sim.one (H : Sim w C st bs) {w' : World} {ob : Obj} (hh : w'.heap = w.heap.push ob) (e1 : w'.os = w.os) (e2 : w'.tape = w.tape) (e3 : w'.output = w.output) : Sim w' C st bs ∧ Ext w C w' C := by
 obtain ⟨h1, h2⟩ := H.alloc ob; obtain ⟨g1, g2⟩ := h1.heap (w' := w') hh e1 e2 e3; exact ⟨g1, h2.trans g2⟩
theorem Sim.fresh (H : Sim w C st bs) {w' : World} {arr : Array Value} {elem : TypeId} {fr : Nat × Nat} (n : Nat) (hh : w'.heap = w.heap.push (.cells arr elem fr)) (e1 : w'.os = w.os) (e2 : w'.tape = w.tape) (e3 : w'.output = w.output) :
 ∃ C', Sim w' C' st bs ∧ Ext w C w' C' ∧ (∀ o, o < n → C'.S w.heap.size o) ∧ C'.fz.σ = C.fz.σ := by
 obtain ⟨h1, h2⟩ := H.one hh e1 e2 e3
 obtain ⟨g1, g2⟩ := h1.more (X := fun B o => B = w.heap.size ∧ o < n) (by
  rintro B o ⟨rfl, ho⟩
  refine ⟨by rw [hh]; simp, fun a b cs q _ => ?_, fun h t B' f to e s x y z q => ?_⟩
  · have := H.σlt q; omega
  · have := H.xz x y z; omega)
 exact ⟨_, g1, h2.trans g2, fun o ho => cD ⟨rfl, ho⟩, rfl⟩
theorem hM (sz : Nat) : ∀ (n : Nat) (cs : List PV) (i : Nat) (e : List PV), cs.length = n * sz → (chunks sz n cs)[i]? = some e → i < n ∧ e.length = sz ∧ ∀ (j : Nat) (p : PV), e[j]? = some p → cs[i * sz + j]? = some p
 | 0, cs, i, e, hl, h => by simp [chunks] at h
 | n + 1, cs, i, e, hl, h => by
  have hl' : cs.length = n * sz + sz := by rw [hl, Nat.succ_mul]
  cases i with
  | zero =>
   simp [chunks] at h; subst h; refine ⟨by omega, by simp; omega, fun j p hp => ?_⟩; rw [fc] at hp; split at hp
   · simpa using hp
   · cases hp
  | succ i =>
   simp [chunks] at h; obtain ⟨h1, h2, h3⟩ := hM sz n (cs.drop sz) i e (by simp; omega) h; refine ⟨by omega, h2, fun j p hp => ?_⟩; have := h3 j p hp; rw [gD] at this; rw [← this]
   congr 1
   rw [Nat.succ_mul]; omega
theorem iD (sz : Nat) : ∀ (n : Nat) (cs : List PV), (chunks sz n cs).length = n
 | 0, _ => rfl
 | n + 1, cs => by simp [chunks, iD sz n]
theorem uM (z : List PV) : ∀ (n i : Nat), z.length ≠ 0 → i < n * z.length → (fV n z)[i]? = z[i % z.length]?
 | 0, i, _, h => by simp at h
 | n + 1, i, hz, h => by
  rw [Nat.succ_mul] at h; simp only [fV]; rw [fb]; split
  · rename_i hlt; rw [Nat.mod_eq_of_lt hlt]
  · rename_i hge
    rw [uM z n (i - z.length) hz (by omega)]
    congr 1
    conv => rhs; rw [show i = (i - z.length) + z.length by omega, Nat.add_mod_right]
theorem mg (z : List PV) : ∀ n, (fV n z).length = n * z.length
 | 0 => by simp [fV]
 | n + 1 => by simp [fV, mg z n, Nat.succ_mul]; omega
theorem BY {w : World} {C : Ctx} {B sz n : Nat} {cs ds : List PV} {arr : Array Value} (hc : eD w C.fz arr ds) (hn : ds.length = n * sz) (hS : ∀ o, o < n * sz → C.S B o)
 (hcell : ∀ o, o < n * sz → w.cell? ⟨B, o, none⟩ = arr[o]?) (c : Cap) (hcap : fF C (some ⟨B, 0, none⟩) n n sz c) : Rep w C (.slice (some ⟨B, 0, none⟩) n n) (.sl (chunks sz n ds) c) := by
 have hlt : ∀ (i j : Nat) (e : List PV) (p : PV), (chunks sz n ds)[i]? = some e → e[j]? = some p → ds[i * sz + j]? = some p ∧ i * sz + j < n * sz := by
  intro i j e p he hp; obtain ⟨h1, h2, h3⟩ := hM sz n ds i e hn he; have := h3 j p hp; exact ⟨this, by rw [← hn]; exact (List.getElem?_eq_some_iff.1 this).1⟩
 have hval : ∀ k, k < n * sz → arr[k]? = some (arr[k]?.getD .nilFunc) := by
  intro k hk
  have : k < arr.size := by rw [hc.size, hn]; exact hk
  rw [aU this]; rfl
 refine .sl sz (fun i j => arr[i * sz + j]?.getD .nilFunc) (iD sz n ds).symm (aq _) (fun i e he => (hM sz n ds i e hn he).2.1) ?_ ?_ ?_ ?_ hcap
 · intro i e j p he hp
   rw [aZ]; exact hS _ (hlt i j e p he hp).2
 · intro i e j p he hp
   rw [aZ, hcell _ (hlt i j e p he hp).2]; exact hval _ (hlt i j e p he hp).2
 · intro i e j p he hp
   exact hc.one _ _ (hval _ (hlt i j e p he hp).2)
 · intro i e j p he hp
   exact hc.rep _ _ p (hval _ (hlt i j e p he hp).2) (hlt i j e p he hp).1
theorem mH {e : TypeId} {z : List PV} {zv : Value} (n : Nat) (hzc : eD w C zv.cells z) (b1 : z.length = szT P e) (hne : szT P e ≠ 0) :
 eD w C ((Array.range (n * szT P e)).map (fun i => zv.cells[i % zv.cells.size]!)) (fV n z) := by
 have hzs := hzc.size
 have hget : ∀ (i : Nat) (y : Value), ((Array.range (n * szT P e)).map (fun i => zv.cells[i % zv.cells.size]!))[i]? = some y → i < n * szT P e ∧ zv.cells[i % z.length]? = some y := by
  intro i y hy; rw [Array.getElem?_map] at hy; obtain ⟨k, hk, rfl⟩ := Option.map_eq_some_iff.1 hy; have hk' := Array.getElem?_eq_some_iff.1 hk; obtain ⟨hk1, hk2⟩ := hk'; simp at hk1 hk2; subst hk2; have hlt : i % zv.cells.size < zv.cells.size := Nat.mod_lt _ (by omega); refine ⟨hk1, ?_⟩; rw [← hzs]; rw [aU hlt, getElem!_pos zv.cells _ hlt]
 refine ⟨by simp [mg, b1], fun i y hy => hzc.one _ y (hget i y hy).2, fun i y q hy hq => ?_⟩; obtain ⟨h1, h2⟩ := hget i y hy; rw [uM z n i (by omega) (by rw [b1]; exact h1)] at hq; exact hzc.rep _ y q h2 hq
theorem nW {place : Nat → Option (Nat × Nat)} : ∀ (ps : List (Nat × PV)) (a b : List PV), cm place a ps = some b → b.length = a.length
 | [], a, b, h => by obtain rfl := Option.some.inj h; rfl
 | (i, p) :: ps, a, b, h => by
  simp only [cm] at h; split at h
  · rename_i off size cs' _ _
    cases hb : ai cs'.length size && di (off + size) a.length with
    | false => rw [hb] at h; simp at h
    | true => rw [hb] at h; rw [nW ps _ _ h, jV]
  · cases h
theorem zU {t : TypeId} {n : Nat} {vs : Array (Nat × Value)} {ps : List (Nat × PV)} {r : List PV × Nat} (h : n8 P t n ps = some r) (hl : vs.size = ps.length)
 (hp : ∀ (i : Nat) (a : Nat × Value) (b : Nat × PV), vs[i]? = some a → ps[i]? = some b → a.1 = b.1 ∧ Rep w C a.2 b.2) :
 ∃ e arr, (Instr.buildSlice t n vs).run P w = .ok (.slice (some ⟨w.heap.size, 0, none⟩) n n) { w with heap := w.heap.push (.cells arr e (0, 0)) } ∧ r.1.length = n * r.2 ∧ r.2 ≠ 0 ∧ P.underlying t = some (.slice e) ∧ r.2 = szT P e ∧
  ∀ C' : Ctx, C'.S = C.S → C'.fz = C.fz → eD w C' arr r.1 := by
 unfold n8 at h; split at h
 · rename_i e hu
   obtain ⟨z, hz, h⟩ := Option.bind_eq_some_iff.1 h
   cases hb : ai z.length (szT P e) && di (n * szT P e) 16777216 && !ai (szT P e) 0 with
   | false => rw [hb] at h; simp at h
   | true =>
    rw [hb] at h; simp only [cond_true] at h; obtain ⟨cs, hcs, h⟩ := Option.bind_eq_some_iff.1 h; obtain ⟨ds, hds, h⟩ := Option.bind_eq_some_iff.1 h; obtain rfl := Option.some.inj h; rw [an, an] at hb; have b1 := ao hb.1.1; have b2 := dP hb.1.2
    have hne : szT P e ≠ 0 := by intro q; rw [q] at hb; simp at hb
    obtain ⟨it, zv, hi, hzv, hzc⟩ := iQ (w := w) (C := C) hz; obtain ⟨ie, hie⟩ := gk hne; have hzs := hzc.size; have hrow := mH (P := P) (e := e) n hzc b1 hne
    obtain ⟨arr, f1, f2⟩ := og _ ps vs.toList _ _ cs hcs hrow (by simpa using hl) fun i a b ha hb => hp i a b (by simpa using ha) hb
    have hcl : cs.length = n * szT P e := by rw [nW _ _ _ hcs, mg, b1]
    obtain ⟨p1, p2⟩ := jZ hds; refine ⟨e, arr, ?_, by simp only; rw [p1]; exact hcl, hne, hu, rfl, fun C' hS hfz => ⟨by simp only; rw [p1]; exact f2.size, f2.one, fun i y q hy hq => ?_⟩⟩
    · simp only [Instr.buildSlice, Sem.run_bind, run_underlying hu, Result.andThen_ok, gf hie]
      rw [if_neg (by omega)]
      by_cases q : n * szT P e = 0
      · rw [if_pos q]
        simp only [Sem.run_bind, Sem.run_pure, Result.andThen_ok]
        have hs : Array.map (fun x => (#[] : Array Value)[x % (#[] : Array Value).size]!) (Array.range (n * szT P e)) = Array.map (fun i => zv.cells[i % zv.cells.size]!) (Array.range (n * szT P e)) := by
         rw [q]; simp
        rw [hs, f1]; simp [newRow]
      · rw [if_neg q]
        have hz' : (zeroValue e).run P w = .ok zv w := by simp [zeroValue, typeInfo, hi, hzv]
        simp only [Sem.run_bind, Sem.run_pure, Result.andThen_ok, hz']; rw [f1]; simp [newRow]
    · obtain ⟨p, hp1, hp2⟩ := p2 i q hq
      exact kF hp2 (f2.rep i y p hy hp1) hS hfz
 · cases h
def Lays (P : Program) (w : World) (C : Ctx) (bs : List (Nat × Nat × Nat)) (s : Sem Value) (p : PV) (st' : St) : Prop := ∃ v w' C', s.run P w = .ok v w' ∧ Sim w' C' st' bs ∧ Ext w C w' C' ∧ Rep w' C' v p
theorem fQ.xZ {s : Sem Value} {p : PV} (h : fQ P w C s p) (H : Sim w C st bs) : Lays P w C bs s p st := by
 obtain ⟨v, h1, h2⟩ := h; exact ⟨v, w, C, h1, H, Ext.refl w C, h2⟩
theorem ru (H : Sim w C st bs) {t : TypeId} {n : Nat} {vs : Array (Nat × Value)} {ps : List (Nat × PV)} {r : PV} (h : lI P t n ps = some r) (hl : vs.size = ps.length)
 (hp : ∀ (i : Nat) (a : Nat × Value) (b : Nat × PV), vs[i]? = some a → ps[i]? = some b → a.1 = b.1 ∧ Rep w C a.2 b.2) : Lays P w C bs (Instr.buildSlice t n vs) r st := by
 unfold lI at h; obtain ⟨q, hq, h⟩ := Option.bind_eq_some_iff.1 h; obtain rfl := Option.some.inj h; obtain ⟨e, arr, k1, k2, k3, _, _, k4⟩ := zU hq hl hp; obtain ⟨C', s1, s2, s3, s4⟩ := H.fresh (n * q.2) (w' := { w with heap := w.heap.push (.cells arr e (0, 0)) }) rfl rfl rfl rfl; refine ⟨_, _, C', k1, s1, s2, ?_⟩; have hdc := k4 C.fz rfl (Ctx.zG C); have hC : eD { w with heap := w.heap.push (.cells arr e (0, 0)) } C'.fz arr q.1 := ⟨hdc.size, hdc.one, fun i y q hy hq => (hdc.rep i y q hy hq).mono s2.fz⟩; refine BY (cs := q.1) hC k2 (fun o ho => s3 o ho) (fun o ho => ?_) .full rfl; simp [World.cell?]
theorem tV (H : Sim w C st bs) {h : Bool} {t : TypeId} {n : Nat} {vs : Array (Nat × Value)} {ps : List (Nat × PV)} {r : PV × St} (hb : oE P h t n ps st = some r) (hl : vs.size = ps.length)
 (hp : ∀ (i : Nat) (a : Nat × Value) (b : Nat × PV), vs[i]? = some a → ps[i]? = some b → a.1 = b.1 ∧ Rep w C a.2 b.2) : Lays P w C bs (Instr.buildSlice t n vs) r.1 r.2 := by
 unfold oE at hb; obtain ⟨q, hq, hb⟩ := Option.bind_eq_some_iff.1 hb; obtain rfl := Option.some.inj hb; obtain ⟨e, arr, k1, k2, k3, _, _, k4⟩ := zU hq hl hp; have hC := k4 C rfl rfl
 obtain ⟨k5, k6⟩ := H.lay h arr e q.1 (Nat.le_of_eq hC.size.symm) hC.one hC.rep fun m t l hm hh o x p a b => (k4 (C.cut m t l) rfl (C.oG m t l)).rep o x p a b
 refine ⟨_, _, _, k1, k5, k6, .rs (arr := arr) (elem := e) (fr := (0, 0)) (by simp [Ctx.lay]) (aq _) (by simp) (by rw [hC.size, k2]; omega)⟩
theorem tf (H : Sim w C st bs) {h : Bool} {t : TypeId} {x y : Value} {p q : PV} {r : PV × St} (hm : mW P h t p q st = some r) (hx : Rep w C x p) (hy : Rep w C y q) : Lays P w C bs (Instr.makeSlice t x y) r.1 r.2 := by
 unfold mW at hm; split at hm
 · rename_i e k n k' m hu
   obtain ⟨rfl, _⟩ := eo hx; obtain ⟨rfl, _⟩ := eo hy; obtain ⟨z, hz, hm⟩ := Option.bind_eq_some_iff.1 hm
   cases hb : decide (0 ≤ n) && decide (n = m) && di (n.toNat * byT P e) dE && di (n.toNat) dE && ai z.length (szT P e) && !ai (szT P e) 0 with
   | false => rw [hb] at hm; simp at hm
   | true =>
    rw [hb] at hm; obtain rfl := Option.some.inj hm; simp only [an, decide_eq_true_eq] at hb; obtain ⟨⟨⟨⟨⟨b1, rfl⟩, b3⟩, b4⟩, b5⟩, b6⟩ := hb; have b3 := dP b3; have b4 := dP b4; have b5 := ao b5
    have hne : szT P e ≠ 0 := by intro q; rw [q] at b6; simp at b6
    obtain ⟨it, zv, hi, hzv, hzc⟩ := iQ (w := w) (C := C) hz
    have hby : byT P e = it.bytes := by
     have : zv.cells.size = it.size := by rw [hzc.size, b5, ku hi]
     simp only [byT, hi, hzv, this, Nat.beq_refl, cond_true]
    have hs := ku hi
    obtain ⟨k, rfl⟩ : ∃ k : Nat, n = k := ⟨n.toNat, by omega⟩
    simp only [Int.toNat_natCast, hby, dE] at b3 b4; have hrow := mH (P := P) (e := e) k hzc b5 hne
    have hcut : ∀ C' : Ctx, eD w C' ((Array.range (k * szT P e)).map (fun i => zv.cells[i % zv.cells.size]!)) (fV k z) := fun C' => by
     obtain ⟨it', zv', hi', hzv', hzc'⟩ := iQ (w := w) (C := C') hz
     rw [hi] at hi'; cases hi'
     rw [hzv] at hzv'; cases hzv'
     exact mH (P := P) (e := e) k hzc' b5 hne
    obtain ⟨k5, k6⟩ := H.lay h ((Array.range (k * szT P e)).map (fun i => zv.cells[i % zv.cells.size]!)) e (fV k z) (Nat.le_of_eq hrow.size.symm) hrow.one hrow.rep fun m t l hm hh o x p a b => (hcut (C.cut m t l)).rep o x p a b
    refine ⟨.slice (some ⟨w.heap.size, 0, none⟩) k k, _, _, ?_, k5, k6, ?_⟩
    · have hbig : (it.bytes : Int) * (k : Int) ≤ 281474976710656 := by
       have : (it.bytes : Int) * (k : Int) = ((k * it.bytes : Nat) : Int) := by rw [Int.natCast_mul, Int.mul_comm]
       rw [this]; omega
      have := run_make (P := P) w t e it zv hu hi hzv ‹_› ‹_› (k : Int) (k : Int) (by omega) (Int.le_refl _) hbig (by omega); simp only [Int.toNat_natCast] at this; rw [hs]; exact this
    · refine .rs (arr := ((Array.range (k * szT P e)).map (fun i => zv.cells[i % zv.cells.size]!))) (elem := e) (fr := (0, 0)) (by simp [Ctx.lay]) (aq _) (by simp) (by simp)
 · cases hm
theorem lN (s : ByteArray) (i : Nat) (e : List PV) (h : (iC s)[i]? = some e) : ∃ b, s.data[i]? = some b ∧ e = [.v (.int .u8 b.toNat)] := by
 obtain ⟨b, hb, rfl⟩ := cr h; exact ⟨b, by simpa using hb, rfl⟩
theorem oe {h : Bool} {b off n : Nat} {cs : List PV} (e : pW st h b off n = some cs) : ∃ old, st.blk h b = some old ∧ off + n ≤ old.length ∧ cs = (old.drop off).take n := by
 unfold pW at e; obtain ⟨old, ho, e⟩ := Option.bind_eq_some_iff.1 e
 cases hb : di (off + n) old.length with
 | false => rw [hb] at e; simp at e
 | true => rw [hb] at e; exact ⟨old, ho, dP hb, (Option.some.inj e).symm⟩
theorem mB {n sz k : Nat} (hk : k < n * sz) : 0 < sz ∧ k / sz < n ∧ k % sz < sz ∧ k / sz * sz + k % sz = k := by
 have hsz : 0 < sz := by
  rcases Nat.eq_zero_or_pos sz with q | q
  · subst q; simp at hk
  · exact q
 exact ⟨hsz, by rw [Nat.div_lt_iff_lt_mul hsz]; exact hk, Nat.mod_lt _ hsz, by rw [Nat.mul_comm]; exact Nat.div_add_mod k sz⟩
theorem vF {n i j sz : Nat} (hi : i < n) (hj : j < sz) : i * sz + j < n * sz := by
 have : (i + 1) * sz ≤ n * sz := eP _ hi; rw [Nat.succ_mul] at this; omega
theorem BE {i j sz : Nat} (hj : j < sz) : (i * sz + j) / sz = i ∧ (i * sz + j) % sz = j := by
 constructor
 · rw [Nat.mul_comm, Nat.mul_add_div (by omega), Nat.div_eq_of_lt hj]; rfl
 · rw [Nat.mul_comm, Nat.mul_add_mod]; exact Nat.mod_eq_of_lt hj
theorem sb {sz : Nat} {ys : List (List PV)} (hok : cK sz ys = true) {i : Nat} {e : List PV} {j : Nat} {p : PV} (he : ys[i]? = some e) (hp : e[j]? = some p) : i < ys.length ∧ j < sz := by
 have hj := (List.getElem?_eq_some_iff.1 hp).1; rw [ff hok he] at hj; exact ⟨(List.getElem?_eq_some_iff.1 he).1, hj⟩
theorem sq (H : Sim w C st bs) {sz : Nat} {x : Value} {q : PV} {ys : List (List PV)} (h : cw st q = some ys) (hok : cK sz ys = true) (hx : Rep w C x q) :
 (Builtin.lenOf x).run P w = .ok ys.length w ∧ ∀ n, n ≤ ys.length → ∃ vs : Array Value, (Builtin.firstCells sz n x).run P w = .ok vs w ∧ vs.size = n * sz ∧
  ∀ (i : Nat) (e : List PV) (j : Nat) (p : PV), i < n → ys[i]? = some e → e[j]? = some p → ∃ y, vs[i * sz + j]? = some y ∧ y.oneCell' = true ∧ Rep w C.fz y p := by
 have row : ∀ (B o : Nat) (f : Nat → Value) (n : Nat), n ≤ ys.length → (∀ k, k < ys.length * sz → w.cell? ⟨B, o + k, none⟩ = some (f k)) →
  (∀ (i : Nat) (e : List PV) (j : Nat) (p : PV), ys[i]? = some e → e[j]? = some p → (f (i * sz + j)).oneCell' = true ∧ Rep w C.fz (f (i * sz + j)) p) →
  ∃ vs : Array Value, (loadCells ⟨B, o, none⟩ (n * sz)).run P w = .ok vs w ∧ vs.size = n * sz ∧
  ∀ (i : Nat) (e : List PV) (j : Nat) (p : PV), i < n → ys[i]? = some e → e[j]? = some p → ∃ y, vs[i * sz + j]? = some y ∧ y.oneCell' = true ∧ Rep w C.fz y p := by
  intro B o f n hn hcell hrep; have hle : n * sz ≤ ys.length * sz := eP _ hn; refine ⟨((gg (n * sz)).map f).toArray, run_loadCells w _ _ _ fun j hj => by rw [iV]; exact hcell j (by omega), by simp, ?_⟩; intro i e j p hi he hp; obtain ⟨_, hj⟩ := sb hok he hp; have hk := vF hi hj; refine ⟨f (i * sz + j), ?_, hrep i e j p he hp⟩; rw [List.getElem?_toArray, List.getElem?_map, List.getElem?_range hk]
  rfl
 unfold cw at h; split at h
 · rename_i es c
   obtain rfl := Option.some.inj h
   cases hx with
   | slnil _ => exact ⟨rfl, fun n hn => ⟨#[], rfl, by simp at hn; simp [hn], by simp⟩⟩
   | @sl _ _ B o len cap _ sz' val h1 h2 h3 h4 h5 h6 h7 h8 =>
    refine ⟨by simp [Builtin.lenOf, h1], fun n hn => ?_⟩; refine row B o (fun k => val (k / sz) (k % sz)) n hn (fun k hk => ?_) (fun i e j p he hp => ?_)
    · obtain ⟨k0, k1, k2, k3⟩ := mB hk
      have he : es[k / sz]? = some (es[k / sz]'k1) := dC k1; have hel := ff hok he
      have hs : sz' = sz := by rw [← h3 _ _ he]; exact hel
      have hp : (es[k / sz]'k1)[k % sz]? = some ((es[k / sz]'k1)[k % sz]'(by omega)) := dC (by omega); have := h5 _ _ _ _ he hp; rw [hs] at this; rw [← this]
      congr 2
      omega
    · obtain ⟨_, hj⟩ := sb hok he hp
      have hd := BE (i := i) hj; simp only [hd.1, hd.2]; exact ⟨h6 i e j p he hp, h7 i e j p he hp⟩
 · rename_i s
   obtain rfl := Option.some.inj h; obtain ⟨rfl, _⟩ := eo hx
   have hlen : (iC s).length = s.size := by simp [iC]
   refine ⟨by simp [Builtin.lenOf, hlen], fun n hn => ?_⟩; rw [hlen] at hn; refine ⟨(s.extract 0 n).data.map fun b => .int .u8 b.toNat, rfl, ?_, ?_⟩
   · have hsz : (s.extract 0 n).data.size = n := by simp; omega
     rw [Array.size_map, hsz]
     by_cases hs : n = 0
     · rw [hs]; simp
     · obtain ⟨e, he⟩ : ∃ e, (iC s)[0]? = some e := ⟨_, dC (by omega)⟩
       obtain ⟨b, _, rfl⟩ := lN s 0 e he; have := ff hok he; simp at this; subst this; simp
   · intro i e j p hi he hp
     obtain ⟨b, hb, rfl⟩ := lN s i e he; have := ff hok he; simp at this; subst this
     cases j with
     | zero =>
      simp at hp; subst hp; refine ⟨.int .u8 b.toNat, ?_, rfl, .v rfl⟩
      have : (s.extract 0 n).data[i]? = some b := by
       rw [ByteArray.data_extract, Array.getElem?_extract, if_pos (by have := (Array.getElem?_eq_some_iff.1 hb).1; omega)]; simpa using hb
      rw [Nat.mul_one, bx, Array.getElem?_map, this]; rfl
     | succ j => simp at hp
 · rename_i hh b off len sz0
   obtain ⟨cs, hcs, h⟩ := Option.bind_eq_some_iff.1 h; obtain ⟨ds, hds, h⟩ := Option.bind_eq_some_iff.1 h; obtain rfl := Option.some.inj h; obtain ⟨old, hold, hle, rfl⟩ := oe hcs; obtain ⟨p1, p2⟩ := jZ hds; have hlen : (chunks sz0 len ds).length = len := iD _ _ _
   have hdl : ds.length = len * sz0 := by rw [p1]; simp; omega
   cases hx with
   | @rs _ _ _ _ _ cap _ B arr elem fr h1 h2 h3 h4 =>
    refine ⟨by simp [Builtin.lenOf, hlen], fun n hn => ?_⟩; obtain ⟨B', arr0, elem0, fr0, a1, a2, a3, a4, a5, a6, a7, a8⟩ := H.blk hh b old hold; rw [h1] at a1; obtain rfl := Option.some.inj a1
    have hch : ∃ f : Nat → Value, ∀ k p, old[k]? = some p → w.cell? ⟨B, k, none⟩ = some (f k) ∧ (f k).oneCell' = true ∧ Rep w C (f k) p := by
     refine ⟨fun k => arr0[k]?.getD .nilFunc, fun k p hp => ?_⟩; have hk := (List.getElem?_eq_some_iff.1 hp).1; have hget : arr0[k]? = some (arr0[k]'(by omega)) := aU (by omega); simp only [hget, Option.getD_some]; exact ⟨by simp [World.cell?, a2, hget], a6 k _ hget, a7 k _ p hget hp⟩
    obtain ⟨f, hf⟩ := hch
    have hsz : ∀ i e, (chunks sz0 len ds)[i]? = some e → sz0 = sz := fun i e he => by
     have := (hM sz0 len ds i e hdl he).2.1; rw [ff hok he] at this; exact this.symm
    refine row B off (fun k => f (off + k)) n hn (fun k hk => ?_) (fun i e j p he hp => ?_)
    · obtain ⟨k0, k1, k2, k3⟩ := mB hk
      obtain ⟨e, he⟩ : ∃ e, (chunks sz0 len ds)[k / sz]? = some e := ⟨_, dC k1⟩
      have hs := hsz _ _ he; subst hs; rw [hlen] at hk
      have : off + k < old.length := by omega
      exact (hf (off + k) _ (dC this)).1
    · have hs := hsz _ _ he
      subst hs; obtain ⟨q1, q2, q3⟩ := hM sz0 len ds i e hdl he; obtain ⟨p', hp1, hp2⟩ := p2 _ p (q3 j p hp); rw [fc] at hp1; split at hp1
      · rw [gD] at hp1
        obtain ⟨r1, r2, r3⟩ := hf _ p' hp1; exact ⟨r2, kF hp2 r3 rfl (Ctx.zG C)⟩
      · cases hp1
 · cases h
theorem pK (w : World) (e : TypeId) (s : ByteArray) : (Lib.bytesWorld w e s).heap = w.heap.push (.cells (Lib.bytesCells w e s) e ((Lib.bytesCells w e s).size, (Lib.bytesCells w e s).size + 1)) := by
 apply Array.ext_getElem?; intro i; rw [Array.getElem?_push]; split
 · rename_i h; subst h; exact Lib.bytesWorld_at_new w e s
 · rename_i h
   by_cases q : i < w.heap.size
   · exact Lib.bytesWorld_at_old w e s i q
   · rw [Array.getElem?_eq_none (by rw [Lib.bytesWorld_size]; omega), Array.getElem?_eq_none (by omega)]
theorem Bh (H : Sim w C st bs) {src dst : TypeId} {x : Value} {p r : PV} (h : gU P src dst p = some r) (hx : Rep w C x p) : Lays P w C bs (convert src dst x) r st := by
 by_cases hb : ∀ s e, p = .v (.string s) → P.underlying src = some .string → P.underlying dst ≠ some (.slice e)
 · exact (we h hx hb).xZ H
 · obtain ⟨s, e, rfl, hs, hd⟩ : ∃ s e, p = .v (.string s) ∧ P.underlying src = some .string ∧ P.underlying dst = some (.slice e) := by
    refine Classical.byContradiction fun hn => hb fun s e h1 h2 h3 => hn ⟨s, e, h1, h2, h3⟩
   obtain ⟨rfl, _⟩ := eo hx; unfold gU at h; simp only [hs, hd] at h; split at h
   · rename_i he
     obtain rfl := Option.some.inj h; have hrun := Lib.run_convert_string_bytes w src dst e s hs hd he; obtain ⟨C', s1, s2, s3, _⟩ := H.fresh s.size (w' := Lib.bytesWorld w e s) (pK w e s) rfl rfl rfl; refine ⟨_, _, C', hrun, s1, s2, ?_⟩
     have hget : ∀ (i : Nat) (es : List PV), (iC s)[i]? = some es → i < s.size ∧ es = [.v (.int .u8 (s.data.toList.getD i 0).toNat)] := by
      intro i es hi; obtain ⟨b, hb, rfl⟩ := lN s i es hi; refine ⟨(Array.getElem?_eq_some_iff.1 hb).1, ?_⟩
      have : s.data.toList[i]? = some b := by simpa using hb
      simp [List.getD, this]
     refine .sl 1 (fun i _ => .int .u8 (s.data.toList.getD i 0).toNat) (by simp [iC]) ?_ (fun i es hi => by rw [(hget i es hi).2]; rfl) (fun i es j p hi hp => ?_) (fun i es j p hi hp => ?_) (fun i es j p hi hp => rfl) (fun i es j p hi hp => ?_) trivial
     · exact grownCap_ge w s.size 0 e
     · obtain ⟨q1, rfl⟩ := hget i es hi
       have hj : j = 0 := by cases j with | zero => rfl | succ j => simp at hp
       subst hj; exact s3 _ (by omega)
     · obtain ⟨q1, rfl⟩ := hget i es hi
       have hj : j = 0 := by cases j with | zero => rfl | succ j => simp at hp
       subst hj; have := Lib.bytesWorld_cell w e s i q1; rw [aZ, Nat.mul_one, bx]; exact this
     · obtain ⟨q1, rfl⟩ := hget i es hi
       cases j with
       | zero =>
        have hp' : p = PV.v (.int .u8 (s.data.toList.getD i 0).toNat) := by simpa using hp.symm
        rw [hp']; exact .v rfl
       | succ j => simp at hp
   · cases h
def Ctx.nF (C : Ctx) (n B : Nat) : Ctx := ⟨C.S, C.σ, C.tl, fun i => if i = n then some B else C.lp i, C.N⟩
theorem Sim.vT (H : Sim w C st bs) {w' : World} {ob : Obj} {r : Aux} (hh : w'.heap = w.heap.push ob) (e1 : w'.os = w.os) (e2 : w'.tape = w.tape) (e3 : w'.output = w.output)
 (hr : ∀ C', Ext w C w' C' → (∀ m t l, (m, t, l) ∈ bs → l ≤ st.lp.length) → lx w' C' bs st.lp.length w.heap.size r) :
 ∃ C', Sim w' C' { st with lp := st.lp ++ [r] } bs ∧ Ext w C w' C' ∧ C'.lp st.lp.length = some w.heap.size := by
 obtain ⟨h1, h2⟩ := H.one hh e1 e2 e3; have hlp : C.lp st.lp.length = none := H.vM (aq _)
 have hx : Ext w' C w' (C.nF st.lp.length w.heap.size) := by
  refine Ext.same rfl (fun _ _ x => x) (fun _ _ _ x => x) (fun _ _ B f to e _ x => ⟨B, f, to, e, x, aq _, fun _ => ⟨rfl, rfl, rfl⟩⟩) (fun i B x => ?_); simp only [Ctx.nF]
  rw [if_neg (by rintro rfl; rw [hlp] at x; cases x)]; exact x
 refine ⟨C.nF st.lp.length w.heap.size, ⟨?_, h1.dom, h1.inj, h1.Sok, ?_, ?_, h1.ng, ?_, ?_, ?_, ?_, ?_⟩, h2.trans hx, by simp [Ctx.nF]⟩
 · intro h' b' ds hd
   have hd' : st.blk h' b' = some ds := by cases h' <;> exact hd
   obtain ⟨B2, arr2, elem2, fr2, c1, c2, c3, c4, c5, c6, c7, c8⟩ := h1.blk h' b' ds hd'; exact ⟨B2, arr2, elem2, fr2, c1, c2, c3, c4, c5, c6, fun o x p hx' hp => (c7 o x p hx' hp).mono hx, fun m t l hm hbm o x p hx' hp => (c8 m t l hm hbm o x p hx' hp).mono (hx.cut m t l)⟩
 · intro o t B f to e s x
   exact ⟨by cases o <;> exact (h1.tok _ t B f to e s x).1, (h1.tok o t B f to e s x).2⟩
 · intro o t e s x
   exact h1.hP o t e s (by cases o <;> exact x)
 · intro m t l hm
   have := h1.bnd m t l hm; simp; omega
 · refine ⟨h1.low.1, h1.low.2.1, fun i B x => ?_⟩
   simp only [Ctx.nF] at x; split at x
   · obtain rfl := Option.some.inj x; exact H.low.1
   · exact h1.low.2.2 i B x
 · intro i r' hr'
   rw [fb] at hr'; split at hr'
   · rename_i hlt
     obtain ⟨B, a1, a2⟩ := h1.lps i r' hr'; exact ⟨B, by simp only [Ctx.nF]; rw [if_neg (by omega)]; exact a1, a2.mono hx fun _ a _ => a⟩
   · rename_i hge
     have : i = st.lp.length := by
      have := (List.getElem?_eq_some_iff.1 hr').1
      simp at this; omega
     subst this; simp at hr'; subst hr'; exact ⟨w.heap.size, by simp [Ctx.nF], hr _ (h2.trans hx) fun m t l hm => (h1.bnd m t l hm).2.2⟩
 · intro i B x
   simp only [Ctx.nF] at x; split at x
   · rename_i e; subst e; exact ⟨r, by simp⟩
   · obtain ⟨r', hr'⟩ := h1.jE i B x
     exact ⟨r', by rw [List.getElem?_append_left (List.getElem?_eq_some_iff.1 hr').1]; exact hr'⟩
 · intro i i' B x y
   simp only [Ctx.nF] at x y; split at x
   · rename_i e1
     split at y
     · rename_i e2; exact e1.trans e2.symm
     · obtain rfl := Option.some.inj x
       have := H.DZ y; omega
   · rename_i e1
     split at y
     · obtain rfl := Option.some.inj y
       have := H.DZ x; omega
     · exact h1.jW i i' B x y
theorem oj {w : World} {N B : Nat} (hN : N ≤ B) (ob : Obj) : Below N w { w with heap := w.heap.setIfInBounds B ob } :=
 ⟨rfl, rfl, rfl, by simp, fun k hk => dR (by omega)⟩
theorem Sim.j7 (H : Sim w C st bs) {i B : Nat} {old r : Aux} {ob : Obj} (hold : st.lp[i]? = some old) (hi : C.lp i = some B) (hob : ∀ arr elem fr, ob ≠ Obj.cells arr elem fr)
 (hr : ∀ C', Ext w C { w with heap := w.heap.setIfInBounds B ob } C' → lx { w with heap := w.heap.setIfInBounds B ob } C' bs i B r) :
 Sim { w with heap := w.heap.setIfInBounds B ob } C (st.j7 i r) bs ∧ Ext w C { w with heap := w.heap.setIfInBounds B ob } C := by
 obtain ⟨B', a1, a2⟩ := H.lps i old hold; rw [hi] at a1; obtain rfl := Option.some.inj a1
 have hnc : ∀ arr elem fr, w.heap[B]? ≠ some (Obj.cells arr elem fr) := by
  intro arr elem fr q
  cases old with
  | iter s pos => rw [a2] at q; cases q
  | loop r => obtain ⟨_, _, _, k, _⟩ := a2; rw [k] at q; cases q
 have hnd : w.heap[B]? ≠ some (Obj.deferred (some [])) := by
  intro q
  cases old with
  | iter s pos => rw [a2] at q; cases q
  | loop r => obtain ⟨_, _, _, k, _⟩ := a2; rw [k] at q; cases q
 have hlt := a2.lt
 have hother : ∀ k ob', w.heap[k]? = some ob' → k ≠ B → ({ w with heap := w.heap.setIfInBounds B ob } : World).heap[k]? = some ob' := by
  intro k ob' h1 h2
  show (w.heap.setIfInBounds B ob)[k]? = _
  rw [dR (Ne.symm h2)]; exact h1
 have hcell : ∀ k arr elem fr, w.heap[k]? = some (Obj.cells arr elem fr) → ({ w with heap := w.heap.setIfInBounds B ob } : World).heap[k]? = some (Obj.cells arr elem fr) := fun k arr elem fr h => hother k _ h fun e => hnc arr elem fr (e ▸ h)
 have hx : Ext w C { w with heap := w.heap.setIfInBounds B ob } C := by
  refine ⟨by simp, rfl, oj (H.low.2.2 _ _ hi) ob, fun _ _ x => x, fun B' o hS => ?_, fun _ _ _ x => x, fun _ _ B f to e _ x => ⟨B, f, to, e, x, aq _, fun _ => ⟨rfl, rfl, rfl⟩⟩, fun _ _ x => x,
   fun h b B' x arr elem fr y => ⟨arr, elem, fr, hcell B' arr elem fr y, rfl⟩, fun D h => hother D _ h fun e => hnd (e ▸ h)⟩
  by_cases hne : B' = B
  · subst hne
    have h1 : World.cell? { w with heap := w.heap.setIfInBounds B' ob } ⟨B', o, none⟩ = none := by
     simp only [World.cell?]; rw [Array.getElem?_setIfInBounds_self_of_lt hlt]
     cases ob <;> first | rfl | exact absurd rfl (hob _ _ _)
    have h2 : w.cell? ⟨B', o, none⟩ = none := by
     unfold World.cell?; split
     · rename_i c e fr hq; exact absurd hq (hnc _ _ _)
     · rfl
    exact h1.trans h2.symm
  · simp only [World.cell?]
    rw [dR (Ne.symm hne)]
 refine ⟨⟨?_, H.dom, H.inj, fun B' o x => by simpa using H.Sok B' o x, ?_, H.hP, H.ng, ?_, ⟨by simpa using H.low.1, H.low.2⟩, ?_, ?_, H.jW⟩, hx⟩
 · intro h' b' ds hd
   obtain ⟨B2, arr2, elem2, fr2, c1, c2, c3, c4, c5, c6, c7, c8⟩ := H.blk h' b' ds hd; exact ⟨B2, arr2, elem2, fr2, c1, hcell _ _ _ _ c2, c3, c4, c5, c6, fun o x p hx' hp => (c7 o x p hx' hp).mono hx, fun m t l hm hbm o x p hx' hp => (c8 m t l hm hbm o x p hx' hp).mono (hx.cut m t l)⟩
 · intro o t B2 f to e s x
   refine ⟨(H.tok o t B2 f to e s x).1, fun i h1 h2 => ?_⟩; obtain ⟨g1, g2, arr, elem, fr, g3, g4, g5⟩ := (H.tok o t B2 f to e s x).2 i h1 h2; exact ⟨g1, g2, arr, elem, fr, hcell _ _ _ _ g3, g4, g5⟩
 · intro m t l hm
   have := H.bnd m t l hm; simpa [St.j7] using this
 · intro i' r' hr'
   simp only [St.j7] at hr'; rw [List.getElem?_set] at hr'; split at hr'
   · rename_i e
     subst e; split at hr'
     · obtain rfl := Option.some.inj hr'
       exact ⟨B, hi, hr C hx⟩
     · cases hr'
   · rename_i hne
     obtain ⟨B2, c1, c2⟩ := H.lps i' r' hr'; refine ⟨B2, c1, c2.mono hx fun ob' a _ => hother B2 _ a fun e => ?_⟩; subst e; exact hne (H.jW i i' B2 hi c1)
 · intro i' B2 x
   obtain ⟨r', hr'⟩ := H.jE i' B2 x; have hl := (List.getElem?_eq_some_iff.1 hr').1
   have : i' < (st.lp.set i r).length := by simpa using hl
   exact ⟨_, dC this⟩
theorem Ai (H : Sim w C st bs) {t : TypeId} {x : Value} {p : PV} {r : PV × St} (h : lJ P t p st = some r) (hx : Rep w C x p) : Lays P w C bs (Instr.range t x) r.1 r.2 := by
 unfold lJ at h; split at h
 · rename_i s hu
   obtain ⟨rfl, _⟩ := eo hx; obtain rfl := Option.some.inj h; obtain ⟨C', k1, k2, k3⟩ := H.vT (w' := w.iter s 0) (r := .iter s 0) (ob := .stringIter s 0) rfl rfl rfl rfl (fun C' _ _ => by show (w.heap.push (.stringIter s 0))[w.heap.size]? = _; simp); exact ⟨_, _, C', run_range_string w t s hu, k1, k2, .it k3⟩
 · cases h
theorem BS (H : Sim w C st bs) {x : Value} {p : PV} {r : PV × St} {ty : TypeId} (h : qe p st = some r) (hx : Rep w C x p) : Lays P w C bs (Instr.next x true ty) r.1 r.2 := by
 unfold qe at h; split at h
 · rename_i i
   split at h
   · rename_i s pos hi
     cases hx with
     | @it _ _ B hB =>
      obtain ⟨B', a1, a2⟩ := H.lps i _ hi; rw [hB] at a1; obtain rfl := Option.some.inj a1; have a2 : w.heap[B]? = some (.stringIter s pos) := a2
      cases hb : fC pos s.size with
      | false =>
       rw [hb] at h; obtain rfl := Option.some.inj h
       have hlt : ¬ pos < s.size := fun z => by rw [← Nat.blt_eq] at z; rw [z] at hb; cases hb
       refine ⟨_, w, C, Lib.run_next_end_at w B s pos ty a2 hlt, H, Ext.refl w C, .tup rfl fun i x p hx hp => ?_⟩
       cases i with
       | zero => simp at hx hp; subst hx; subst hp; exact .v rfl
       | succ i => simp at hx
      | true =>
       rw [hb] at h; obtain rfl := Option.some.inj h; rw [Nat.blt_eq] at hb
       obtain ⟨k1, k2⟩ := H.j7 (r := .iter s (pos + (Utf8.decode s pos).2)) (ob := .stringIter s (pos + (Utf8.decode s pos).2)) hi hB (by intro _ _ _ q; cases q)
        (fun C' _ => by simp [lx, (Array.getElem?_eq_some_iff.1 a2).1])
       refine ⟨_, _, C, Lib.run_next_any_at w B s pos ty a2 hb, k1, k2, .tup rfl fun i x p hx hp => ?_⟩
       match i, hx, hp with
       | 0, hx, hp => simp at hx hp; subst hx; subst hp; exact .v rfl
       | 1, hx, hp => simp at hx hp; subst hx; subst hp; exact .v rfl
       | 2, hx, hp => simp at hx hp; subst hx; subst hp; exact .v rfl
       | i + 3, hx, hp => simp at hx
   · cases h
 · cases h
theorem nY {sz : Nat} : ∀ {ys : List (List PV)}, cK sz ys = true → (flat ys).length = ys.length * sz ∧ ∀ (k : Nat) (p : PV), (flat ys)[k]? = some p → ∃ e, ys[k / sz]? = some e ∧ e[k % sz]? = some p
 | [], _ => by simp [flat]
 | y :: ys, h => by
  have hy : y.length = sz := ff h (i := 0) rfl
  have h' : cK sz ys = true := by
   unfold cK at h ⊢; rw [bB, an] at h; exact h.2
  obtain ⟨k1, k2⟩ := nY h'
  have e : flat (y :: ys) = y ++ flat ys := by simp [flat]
  refine ⟨by rw [e]; simp [k1, hy, Nat.succ_mul]; omega, fun k p hp => ?_⟩; rw [e, fb] at hp; split at hp
  · rename_i hlt
    rw [hy] at hlt; rw [Nat.div_eq_of_lt hlt, Nat.mod_eq_of_lt hlt]; exact ⟨y, rfl, hp⟩
  · rename_i hge
    rw [hy] at hge hp; obtain ⟨e', e1, e2⟩ := k2 _ p hp
    have hsz : 0 < sz := by
     rcases Nat.eq_zero_or_pos sz with z | z
     · subst z
       have := (List.getElem?_eq_some_iff.1 hp).1
       rw [k1] at this; simp at this
     · exact z
    have hk : k = (k - sz) + sz := by omega
    refine ⟨e', ?_, ?_⟩
    · rw [hk, Nat.add_div_right _ hsz, ay]; exact e1
    · rw [hk, Nat.add_mod_right]; exact e2
theorem ik {sz n : Nat} {ys : List (List PV)} {vs : Array Value} (hok : cK sz ys = true) (hn : n ≤ ys.length) (hs : vs.size = n * sz)
 (hv : ∀ (i : Nat) (e : List PV) (j : Nat) (p : PV), i < n → ys[i]? = some e → e[j]? = some p → ∃ y, vs[i * sz + j]? = some y ∧ y.oneCell' = true ∧ Rep w C.fz y p) :
 vs.toList.length = (flat (ys.take n)).length ∧ (∀ v ∈ vs.toList, v.oneCell' = true) ∧ ∀ (i : Nat) (x : Value) (p : PV), vs.toList[i]? = some x → (flat (ys.take n))[i]? = some p → Rep w C.fz x p := by
 have hok' : cK sz (ys.take n) = true := by
  unfold cK at hok ⊢; rw [dD] at hok ⊢
  exact fun e he => hok e (List.mem_of_mem_take he)
 obtain ⟨f1, f2⟩ := nY hok'
 have hlen : (flat (ys.take n)).length = n * sz := by rw [f1, List.length_take, Nat.min_eq_left hn]
 have key : ∀ k, k < n * sz → ∃ (e : List PV) (p : PV) (y : Value), ys[k / sz]? = some e ∧ e[k % sz]? = some p ∧ vs[k]? = some y ∧ y.oneCell' = true ∧ Rep w C.fz y p := by
  intro k hk; obtain ⟨k0, k1, k2, k3⟩ := mB hk; have he : ys[k / sz]? = some (ys[k / sz]'(by omega)) := dC (by omega); have hel := ff hok he; have hp : (ys[k / sz]'(by omega))[k % sz]? = some ((ys[k / sz]'(by omega))[k % sz]'(by omega)) := dC (by omega); obtain ⟨y, y1, y2, y3⟩ := hv _ _ _ _ k1 he hp; rw [k3] at y1; exact ⟨_, _, y, he, hp, y1, y2, y3⟩
 refine ⟨by rw [hlen]; simpa using hs, fun v hv' => ?_, fun k x p hx hp => ?_⟩
 · obtain ⟨k, hk⟩ := List.mem_iff_getElem?.1 hv'
   rw [ga] at hk; have hk1 := (Array.getElem?_eq_some_iff.1 hk).1; obtain ⟨e, p, y, _, _, y1, y2, _⟩ := key k (by omega); rw [hk] at y1; obtain rfl := Option.some.inj y1; exact y2
 · rw [ga] at hx
   have hk1 := (Array.getElem?_eq_some_iff.1 hx).1; obtain ⟨e, q, y, e1, e2, y1, y2, y3⟩ := key k (by omega); rw [hx] at y1; obtain rfl := Option.some.inj y1; obtain ⟨e', g1, g2⟩ := f2 k p hp; rw [fc] at g1; split at g1
   · rw [e1] at g1
     obtain rfl := Option.some.inj g1; rw [e2] at g2; obtain rfl := Option.some.inj g2; exact y3
   · cases g1
theorem Bi (H : Sim w C st bs) (base : Nat) (hbase : ∀ m t l, (m, t, l) ∈ bs → m ≤ base) {t u ty e : TypeId} (hu : P.underlying t = some (.slice e)) {d x : Value} {p q : PV} {ys : List (List PV)} {r : PV × St}
 (hq : cw st q = some ys) (h : zb base (szT P e) p ys st = some r) (hd : Rep w C d p) (hx : Rep w C x q) : Lays P w C bs (Builtin.copy_ #[t, u] ty #[d, x]) r.1 r.2 := by
 unfold zb at h; split at h
 · rename_i hh b off len sz
   cases hb : ai sz (szT P e) && cK (szT P e) ys && !ai (szT P e) 0 with
   | false => rw [hb] at h; simp at h
   | true =>
    rw [hb] at h; simp only [cond_true] at h; obtain ⟨st', hp, h⟩ := Option.bind_eq_some_iff.1 h; obtain rfl := Option.some.inj h; simp only [an] at hb; obtain ⟨⟨b1, b2⟩, b3⟩ := hb
    have hne : szT P e ≠ 0 := by intro z; rw [z] at b3; simp at b3
    obtain ⟨ie, hie⟩ := gk hne; obtain ⟨hlen, hfirst⟩ := sq (P := P) H hq b2 hx; have hmin : min ys.length len ≤ ys.length := Nat.min_le_left _ _; obtain ⟨vs, v1, v2, v3⟩ := hfirst (min ys.length len) hmin; obtain ⟨c1, c2, c3⟩ := ik b2 hmin v2 v3
    have htake : ys.take (min ys.length len) = ys.take len := by
     rw [Nat.min_def]; split
     · rw [List.take_of_length_le (aq _), List.take_of_length_le (by omega)]
     · rfl
    rw [htake] at c1 c3
    cases hd with
    | @rs _ _ _ _ _ cap _ B arr elem fr h1 h2 h3 h4 =>
     obtain ⟨C', k1, k2, k3⟩ := tq (P := P) H base hbase hp h1 c1 c2 fun i x p hx hp => (c3 i x p hx hp).mono (Ext.sa w C)
     refine ⟨_, _, C', ?_, k2, k3, .v rfl⟩
     have v1' : (Builtin.firstCells ie.size (min ys.length len) x).run P w = .ok vs w := by rw [← ku hie]; exact v1
     simp [Builtin.copy_, run_underlying hu, hlen, sizeOf, typeInfo, hie, goInt, Nat.min_def] at v1' k1 ⊢; simp [v1', k1]
     split <;> omega
 · cases h
theorem zo (H : Sim w C st bs) (base : Nat) (hbase : ∀ m t l, (m, t, l) ∈ bs → m ≤ base) {t ty : TypeId} {x : Value} {p : PV} {st' : St} (h : vi P base t p st = some st') (hx : Rep w C x p) : Lays P w C bs (Builtin.clear_ #[t] ty #[x]) (.tup []) st' := by
 unfold vi at h; split at h
 · rename_i e hh b off len sz hu
   obtain ⟨z, hz, h⟩ := Option.bind_eq_some_iff.1 h
   cases hb : ai z.length sz && ai (szT P e) sz && !ai sz 0 with
   | false => rw [hb] at h; simp at h
   | true =>
    rw [hb] at h; simp only [cond_true] at h; simp only [an] at hb; obtain ⟨⟨b1, b2⟩, b3⟩ := hb; have b1 := ao b1; have b2 := ao b2
    have hne : szT P e ≠ 0 := by intro z; rw [b2] at z; rw [z] at b3; simp at b3
    obtain ⟨it, zv, hi, hzv, hzc⟩ := iQ (w := w) (C := C) hz; have hrow := mH (P := P) (e := e) len hzc (by omega) hne
    cases hx with
    | @rs _ _ _ _ _ cap _ B arr elem fr h1 h2 h3 h4 =>
     obtain ⟨C', k1, k2, k3⟩ := tq (P := P) H base hbase h h1 (vs := ((Array.range (len * szT P e)).map (fun i => zv.cells[i % zv.cells.size]!)).toList) (by simpa using hrow.size)
      (fun y hy => by
       obtain ⟨i, hi⟩ := List.mem_iff_getElem?.1 hy
       exact hrow.one i y (by rw [ga] at hi; exact hi)) (fun i y q hy hq => hrow.rep i y q (by rw [ga] at hy; exact hy) hq)
     refine ⟨.tuple #[], _, C', ?_, k2, k3, .tup rfl (by simp)⟩
     have hzs : zv.cells.size = szT P e := by rw [hzc.size]; omega
     have hz' : (zeroValue e).run P w = .ok zv w := by simp [zeroValue, typeInfo, hi, hzv]
     by_cases hl : len = 0
     · subst hl
       simp [Builtin.clear_, run_underlying hu, World.setCells]
     · have hzc' : Builtin.zeroCells zv.cells len = (Array.range (len * szT P e)).map (fun i => zv.cells[i % zv.cells.size]!) := by rw [Builtin.zeroCells, hzs]
       rw [← hzc'] at k1 ⊢
       obtain ⟨n, rfl⟩ : ∃ n, len = n + 1 := ⟨len - 1, by omega⟩
       simp [Builtin.clear_, run_underlying hu, hz', k1]
 · cases h
theorem yI {t ty : TypeId} {x : Value} {p r : PV} (h : Dd P t p = some r) (hx : Rep w C x p) : fQ P w C (Builtin.cap_ #[t] ty #[x]) r := by
 unfold Dd at h; split at h
 · rename_i e es hu
   obtain rfl := Option.some.inj h
   cases hx with
   | slnil _ => exact ⟨.int .i64 0, by simp [Builtin.cap_, run_underlying hu, goInt], .v rfl⟩
   | sl sz val h1 h2 h3 h4 h5 h6 h7 h8 => simp [fF] at h8
 · rename_i e es hu
   obtain rfl := Option.some.inj h
   cases hx with
   | slnil _ => exact ⟨.int .i64 0, by simp [Builtin.cap_, run_underlying hu, goInt], .v rfl⟩
   | @sl _ _ B o len cap _ sz val h1 h2 h3 h4 h5 h6 h7 h8 =>
    have : cap = es.length := by have : cap = len := h8; omega
    exact ⟨_, by simp [Builtin.cap_, run_underlying hu, goInt, this], .v rfl⟩
 · cases h
end
section
variable {P : Program} {w : World} {C : Ctx} {st : St} {bs : List (Nat × Nat × Nat)}
theorem nM {t : TypeId} (h : byT P t ≠ 0) : ∃ i z, P.info? t = some i ∧ i.zero = some z ∧ z.cells.size = szT P t ∧ byT P t = i.bytes := by
 cases hi : P.info? t with
 | none => exact absurd (by simp [byT, hi]) h
 | some i =>
  cases hz : i.zero with
  | none => exact absurd (by simp [byT, hi, hz]) h
  | some z =>
   cases hb : ai z.cells.size i.size with
   | false => exact absurd (by simp only [byT, hi, hz, hb, cond_false]) h
   | true => exact ⟨i, z, rfl, hz, by rw [ku hi]; exact ao hb, by simp only [byT, hi, hz, hb, cond_true]⟩
theorem grown (H : Sim w C st bs) {st' : St} {h : Ow} {t e s sz bM cap : Nat} {elem : TypeId} (arr : Array Value) (hg : pI st st' h t e s) (hs : sz = s) (hcap : arr.size = cap * sz) (hneed : bM ≤ cap)
 (hgo : ∀ B' f' to' e' s', C.tl h t = some (B', f', to', e', s') → s' = s ∧ e' < e) :
 ∃ C', Sim { w with heap := w.heap.push (.cells arr elem (0, 0)) } C' st' bs ∧ Ext w C { w with heap := w.heap.push (.cells arr elem (0, 0)) } C' ∧ (∀ o, o < bM * sz → C'.S w.heap.size o) ∧
  fF C' (some ⟨w.heap.size, 0, none⟩) bM cap sz (.own h t e) := by
 obtain ⟨h1, h2⟩ := H.alloc (.cells arr elem (0, 0))
 have hσ : ∀ a b, C.σ a b ≠ some w.heap.size := fun a b q => by have := H.σlt q; omega
 obtain ⟨g1, g2⟩ := h1.gr (st' := st') (X := fun B o => B = w.heap.size ∧ o < bM * sz) (o := h) (t := t) (B := w.heap.size) (f := bM * sz) (to := cap * sz) (e := e) (s := s)
  hg.blk hg.tok hg.stk hg.tk hg.lp (by rintro B o ⟨rfl, _⟩; exact ⟨by simp, fun a b cs q _ => absurd q (hσ a b)⟩)
  (fun o a b => ⟨⟨fun q => by have := H.Sok _ _ q; omega, ⟨hσ, H.low.1⟩, arr, elem, (0, 0), by simp, by omega, by simp [hU]⟩, fun q => by omega⟩)
  (fun h' t' B' f' to' e' s' x q o a b => by
   have := H.xz x a b
   exact ⟨fun z => by omega, fun z => by omega⟩)
  (fun B' f' to' e' s' x => by
   obtain ⟨q1, q2⟩ := hgo B' f' to' e' s' x
   exact ⟨q1, Nat.le_of_lt q2, fun q => by omega⟩)
 refine ⟨_, g1, h2.trans g2, fun o ho => cD ⟨rfl, ho⟩, ?_⟩; refine ⟨w.heap.size, bM * sz, cap * sz, e, s, by simp [Ctx.gr], aq _, fun _ => ⟨hs.symm, cD ⟨0, rfl, by omega, by omega⟩⟩⟩
theorem qY {w : World} {C : Ctx} {B o sz cap : Nat} {es ys : List (List PV)} {c : Cap} {f : Nat → Value} (hok1 : cK sz es = true) (hok2 : cK sz ys = true) (hle : es.length + ys.length ≤ cap)
 (hS : ∀ k, k < (es.length + ys.length) * sz → C.S B (o + k)) (hcell : ∀ k, k < (es.length + ys.length) * sz → w.cell? ⟨B, o + k, none⟩ = some (f k))
 (hold : ∀ (i : Nat) (e : List PV) (j : Nat) (p : PV), es[i]? = some e → e[j]? = some p → (f (i * sz + j)).oneCell' = true ∧ Rep w C.fz (f (i * sz + j)) p)
 (hnew : ∀ (i : Nat) (e : List PV) (j : Nat) (p : PV), ys[i]? = some e → e[j]? = some p → (f (es.length * sz + (i * sz + j))).oneCell' = true ∧ Rep w C.fz (f (es.length * sz + (i * sz + j))) p)
 (hcap : fF C (some ⟨B, o, none⟩) (es.length + ys.length) cap sz c) : Rep w C (.slice (some ⟨B, o, none⟩) (es.length + ys.length) cap) (.sl (es ++ ys) c) := by
 have hsz : ∀ (i : Nat) (e : List PV), (es ++ ys)[i]? = some e → e.length = sz := by
  intro i e he; rw [fb] at he; split at he
  · exact ff hok1 he
  · exact ff hok2 he
 have hlt : ∀ (i : Nat) (e : List PV) (j : Nat) (p : PV), (es ++ ys)[i]? = some e → e[j]? = some p → i * sz + j < (es.length + ys.length) * sz := by
  intro i e j p he hp; have hi := (List.getElem?_eq_some_iff.1 he).1; have hj := (List.getElem?_eq_some_iff.1 hp).1; rw [hsz i e he] at hj; rw [bh] at hi; have : (i + 1) * sz ≤ (es.length + ys.length) * sz := eP _ hi; rw [Nat.succ_mul] at this; omega
 have hrep : ∀ (i : Nat) (e : List PV) (j : Nat) (p : PV), (es ++ ys)[i]? = some e → e[j]? = some p → (f (i * sz + j)).oneCell' = true ∧ Rep w C.fz (f (i * sz + j)) p := by
  intro i e j p he hp; rw [fb] at he; split at he
  · exact hold i e j p he hp
  · rename_i hge
    have := hnew (i - es.length) e j p he hp
    have q : es.length * sz + ((i - es.length) * sz + j) = i * sz + j := by
     rw [Nat.sub_mul]; have : es.length * sz ≤ i * sz := eP _ (by omega); omega
    rw [q] at this; exact this
 refine .sl sz (fun i j => f (i * sz + j)) (by simp) hle hsz (fun i e j p he hp => ?_) (fun i e j p he hp => ?_) (fun i e j p he hp => (hrep i e j p he hp).1) (fun i e j p he hp => (hrep i e j p he hp).2) hcap
 · rw [Nat.add_assoc]; exact hS _ (hlt i e j p he hp)
 · rw [Nat.add_assoc]; exact hcell _ (hlt i e j p he hp)
end
end Go.AM
