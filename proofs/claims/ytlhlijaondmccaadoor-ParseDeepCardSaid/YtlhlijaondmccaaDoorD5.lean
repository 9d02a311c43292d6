/- Part 5 of the proof of a law of the parser, its names made short by a program. No condition. -/
import Derived.Test.YtlhlijaondmccaaDoorD4
set_option linter.all false
set_option maxRecDepth 100000
set_option maxHeartbeats 4000000
open _root_.Bool renaming and_eq_true → an, and_self → bn, and_true → bI, false_eq_true → ab, not_false → aY, not_true → bz, true_and → bA
open _root_.Int renaming cast_ofNat_Int → aa, natCast_zero → gZ
open _root_.List renaming all_cons → bB, all_nil → cq, cons_append → aR, drop_nil → bY, drop_succ_cons → aL, drop_zero → bg, getD_cons_succ → aP, getD_cons_zero → aQ, getElem?_cons_succ → ay, getElem?_cons_zero → aC, length_append → bh, length_cons → ak, length_nil → aA, length_singleton → bE, map_cons → bq, map_nil → aW, modify_succ_cons → aM, modify_zero_cons → aN, nil_append → bu, take_left → bH, take_nil → bN, take_succ_cons → az, take_zero → bw, toList_toArray → aS
open _root_.Nat renaming add_zero → bx, beq → ai, ble → di, blt → fC, reduceAdd → bQ, zero_add → aZ
open _root_.Option renaming bind_none → ba, bind_some → ag, map_some → aO
open _root_.Or renaming inl → cH, inr → cD
namespace Go.Proofs.YtlhlijaondmccaaDoor.S
open Go Go.AM Go.Proofs
abbrev int (n : Int) : PV := .v (.int .i64 n)
abbrev tz (s : ByteArray) : PV := .v (.string s)
inductive X where
 | mk (op bin n kd : Int) (rc name : ByteArray) (kids : List X) (line col : Int)
def X.op : X → Int
 | ⟨a, _, _, _, _, _, _, _, _⟩ => a
def X.bin : X → Int
 | ⟨_, a, _, _, _, _, _, _, _⟩ => a
def X.n : X → Int
 | ⟨_, _, a, _, _, _, _, _, _⟩ => a
def X.kd : X → Int
 | ⟨_, _, _, a, _, _, _, _, _⟩ => a
def X.rc : X → ByteArray
 | ⟨_, _, _, _, a, _, _, _, _⟩ => a
def X.name : X → ByteArray
 | ⟨_, _, _, _, _, a, _, _, _⟩ => a
def X.kids : X → List X
 | ⟨_, _, _, _, _, _, a, _, _⟩ => a
def X.line : X → Int
 | ⟨_, _, _, _, _, _, _, a, _⟩ => a
def X.col : X → Int
 | ⟨_, _, _, _, _, _, _, _, a⟩ => a
structure Pl where
 mk ::
 op : Int
 base : ByteArray
 field : ByteArray
 index : X
 line : Int
 col : Int
structure Rt where
 mk ::
 op : Int
 e : X
 place : Pl
 name : ByteArray
 line : Int
 col : Int
inductive S where
 | mk (op : Int) (name : ByteArray) (right : Rt) (place : Pl) (e : X) (n : Int) (args : List X) (body : List S) (els : List S) (line : Int) (col : Int)
def S.op : S → Int
 | ⟨a, _, _, _, _, _, _, _, _, _, _⟩ => a
def S.name : S → ByteArray
 | ⟨_, a, _, _, _, _, _, _, _, _, _⟩ => a
def S.right : S → Rt
 | ⟨_, _, a, _, _, _, _, _, _, _, _⟩ => a
def S.place : S → Pl
 | ⟨_, _, _, a, _, _, _, _, _, _, _⟩ => a
def S.e : S → X
 | ⟨_, _, _, _, a, _, _, _, _, _, _⟩ => a
def S.n : S → Int
 | ⟨_, _, _, _, _, a, _, _, _, _, _⟩ => a
def S.args : S → List X
 | ⟨_, _, _, _, _, _, a, _, _, _, _⟩ => a
def S.body : S → List S
 | ⟨_, _, _, _, _, _, _, a, _, _, _⟩ => a
def S.els : S → List S
 | ⟨_, _, _, _, _, _, _, _, a, _, _⟩ => a
def S.line : S → Int
 | ⟨_, _, _, _, _, _, _, _, _, a, _⟩ => a
def S.col : S → Int
 | ⟨_, _, _, _, _, _, _, _, _, _, a⟩ => a
mutual
def X.enc : X → List PV
 | ⟨op, bin, n, kd, rc, name, kids, line, col⟩ => [int op, int bin, .v (.int .u64 n), int kd, tz rc, tz name, .sl (eJ kids) .dead, int line, int col]
def eJ : List X → List (List PV)
 | [] => []
 | x :: xs => x.enc :: eJ xs
end
def Pl.enc (p : Pl) : List PV := [int p.op, tz p.base, tz p.field] ++ p.index.enc ++ [int p.line, int p.col]
def Rt.enc (p : Rt) : List PV := [int p.op] ++ p.e.enc ++ p.place.enc ++ [tz p.name, int p.line, int p.col]
mutual
def S.enc : S → List PV
 | ⟨op, name, right, place, e, n, args, body, els, line, col⟩ => [int op, tz name] ++ right.enc ++ place.enc ++ e.enc ++ [int n, .sl (eJ args) .dead, .sl (fa body) .dead, .sl (fa els) .dead, int line, int col]
def fa : List S → List (List PV)
 | [] => []
 | x :: xs => x.enc :: fa xs
end
theorem X.dW (x : X) : x.enc = [int x.op, int x.bin, .v (.int .u64 x.n), int x.kd, tz x.rc, tz x.name, .sl (eJ x.kids) .dead, int x.line, int x.col] := by cases x; simp only [X.enc]; rfl
theorem S.dW (x : S) : x.enc = [int x.op, tz x.name] ++ x.right.enc ++ x.place.enc ++ x.e.enc ++ [int x.n, .sl (eJ x.args) .dead, .sl (fa x.body) .dead, .sl (fa x.els) .dead, int x.line, int x.col] := by cases x; simp only [S.enc]; rfl
theorem nP : ∀ xs, eJ xs = xs.map X.enc
 | [] => by simp [eJ]
 | x :: xs => by simp [eJ, nP xs]
theorem mI : ∀ xs, fa xs = xs.map S.enc
 | [] => by simp [fa]
 | x :: xs => by simp [fa, mI xs]
theorem lR (xs : List X) : (eJ xs).length = xs.length := by rw [nP, List.length_map]
theorem lr (xs : List S) : (fa xs).length = xs.length := by rw [mI, List.length_map]
theorem X.len (x : X) : x.enc.length = 9 := by simp only [X.dW]; rfl
theorem X.okc (x : X) : aG x.enc = true := by simp only [X.dW]; rfl
theorem X.can (x : X) : ah (.agg x.enc) = .agg x.enc := by simp only [X.dW]; rfl
theorem X.ke (x : X) : x.enc.map bL = x.enc := by simp only [X.dW]; rfl
theorem X.pl (x : X) : cC x.enc = some x.enc := by simp only [X.dW]; rfl
theorem X.fl (x : X) : x.enc.all dL = true := by simp only [X.dW]; rfl
theorem Pl.len (x : Pl) : x.enc.length = 14 := by simp only [Pl.enc, X.dW]; rfl
theorem Pl.okc (x : Pl) : aG x.enc = true := by simp only [Pl.enc, X.dW]; rfl
theorem Pl.ke (x : Pl) : x.enc.map bL = x.enc := by simp only [Pl.enc, X.dW]; rfl
theorem Pl.fl (x : Pl) : x.enc.all dL = true := by simp only [Pl.enc, X.dW]; rfl
theorem Rt.len (x : Rt) : x.enc.length = 27 := by simp only [Rt.enc, Pl.enc, X.dW]; rfl
theorem Rt.okc (x : Rt) : aG x.enc = true := by simp only [Rt.enc, Pl.enc, X.dW]; rfl
theorem Rt.ke (x : Rt) : x.enc.map bL = x.enc := by simp only [Rt.enc, Pl.enc, X.dW]; rfl
theorem Rt.fl (x : Rt) : x.enc.all dL = true := by simp only [Rt.enc, Pl.enc, X.dW]; rfl
theorem S.len (x : S) : x.enc.length = 58 := by simp only [S.dW, Rt.enc, Pl.enc, X.dW]; rfl
theorem S.okc (x : S) : aG x.enc = true := by simp only [S.dW, Rt.enc, Pl.enc, X.dW]; rfl
theorem S.can (x : S) : ah (.agg x.enc) = .agg x.enc := by simp only [S.dW, Rt.enc, Pl.enc, X.dW]; rfl
theorem S.ke (x : S) : x.enc.map bL = x.enc := by simp only [S.dW, Rt.enc, Pl.enc, X.dW]; rfl
theorem S.pl (x : S) : cC x.enc = some x.enc := by simp only [S.dW, Rt.enc, Pl.enc, X.dW]; rfl
theorem S.fl (x : S) : x.enc.all dL = true := by simp only [S.dW, Rt.enc, Pl.enc, X.dW]; rfl
mutual
def X.sz : X → Nat
 | ⟨_, _, _, _, _, _, ks, _, _⟩ => szs ks + 1
def szs : List X → Nat
 | [] => 0
 | x :: xs => x.sz + szs xs
end
theorem inR {α : Type} (p : List α) (x : α) (xs : List α) : eT (p.length : Int) (p ++ x :: xs).length = true := by
 simp [eT]; omega
theorem ui : ∀ (pre old cs : List PV), old.length = cs.length → laid (pre ++ old) pre.length cs = pre ++ cs
 | pre, [], [], _ => rfl
 | pre, o :: old, c :: cs, h => by
  have : (pre ++ o :: old).set pre.length c = (pre ++ [c]) ++ old := by simp
  rw [laid, this, show pre.length + 1 = (pre ++ [c]).length by simp, ui (pre ++ [c]) old cs (by simpa using h)]; simp
theorem jd (old cs : List PV) (h : old.length = cs.length) : laid old 0 cs = cs := ui [] old cs h
mutual
def S.sz : S → Nat
 | ⟨_, _, r, p, e, _, xs, b, c, _, _⟩ => r.e.sz + r.place.index.sz + p.index.sz + e.sz + szs xs + gT b + gT c + 1
def gT : List S → Nat
 | [] => 0
 | x :: xs => x.sz + gT xs
end
theorem S.Cw (x : S) : x.sz = x.right.e.sz + x.right.place.index.sz + x.place.index.sz + x.e.sz + szs x.args + gT x.body + gT x.els + 1 := by cases x; rfl
end Go.Proofs.YtlhlijaondmccaaDoor.S
namespace Go.Proofs.YtlhlijaondmccaaDoor.S
open Go Go.AM Go.Proofs
attribute [local simp] cV cy bR bS cz eY fk ef db ec cZ ed da fj bT gQ dV gR gL gG AM.ae aP aQ ag ba aO aD AM.onG fJ cd ep Ex.bf cond_true cond_false cR cQ cP cO cN cT cM cU cS eg dc de cx cv dU dZ n9 oQ cW mJ nx oN AM.dj AM.cellsOf AM.av bP zB vz beq_true cK ak aA aZ bx bQ decide_true decide_false bI bA bn bz aY aC ay bu aR w7 zJ zI cX cY uf fg az bH bw bN
theorem xy : ∀ xs ys : List X, szs (xs ++ ys) = szs xs + szs ys
 | [], ys => by simp [szs]
 | x :: xs, ys => by simp [szs, xy xs ys]; omega
theorem uS : ∀ xs ys : List S, gT (xs ++ ys) = gT xs + gT ys
 | [], ys => by simp [gT]
 | x :: xs, ys => by simp [gT, uS xs ys]; omega
end Go.Proofs.YtlhlijaondmccaaDoor.S
namespace Go.Proofs.YtlhlijaondmccaaDoor.S
open Go Go.AM Go.Proofs
theorem dG {α β : Type} (a : α) (f : α → Option β) : (some a).bind f = f a := by
 cases h : f a with
 | none => exact h
 | some b => exact h
theorem dH {α β : Type} {x y : Option α} (f : α → Option β) (h : x = y) : x.bind f = y.bind f := by rw [h]
inductive PR (α : Type) where
 | ok (a : α) (l : List Tok)
 | bad (e : Nat) (q : Nat × Nat)
def PR.map {α β : Type} (f : α → β) : PR α → PR β
 | .ok a l => .ok (f a) l
 | .bad e q => .bad e q
def pb {α β : Type} (x : Option (PR α)) (K : α → List Tok → Option (PR β)) : Option (PR β) := match x with
 | none => none
 | some (.bad e q) => some (.bad e q)
 | some (.ok a l) => K a l
def EA : Tok := ⟨0, [], 0, (0, 0)⟩
def hd (l : List Tok) : Tok := l.headD EA
def isT (l : List Tok) (s : List UInt8) : Bool := (decide ((hd l).kind = 2) || decide ((hd l).kind = 5)) && decide ((hd l).text = s)
def dJ (l : List Tok) : List Tok := if (hd l).kind = 0 then l else l.tail
def dt (s : List UInt8) (l : List Tok) : PR Tok := if isT l s then .ok (hd l) l.tail else .bad 4 (hd l).p
def eW (k : Nat) (l : List Tok) : PR Tok := if (hd l).kind = k then .ok (hd l) (dJ l) else .bad 4 (hd l).p
def qt {α : Type} (d : Nat) (t : Tok) (x : Option (PR α)) : Option (PR α) := if 12 < d + 1 then some (.bad 10 t.p) else x
structure Ty2 where
 kd : Int
 rc : ByteArray
def yP (l : List Tok) : PR Ty2 :=
 if isT l [105, 110, 116] then .ok ⟨1, bs []⟩ l.tail else
 if isT l [114, 101, 97, 108] then .ok ⟨2, bs []⟩ l.tail else
 if isT l [105, 110, 116, 115] then .ok ⟨3, bs []⟩ l.tail else
 (eW 1 l).map fun t => ⟨4, bs t.text⟩
structure Nm where
 name : ByteArray
 ty : Ty2
 line : Int
 col : Int
def np (l : List Tok) : Option (PR Nm) :=
 pb (some (eW 1 l)) fun t l1 => pb (some (dt [58] l1)) fun _ l2 => pb (some (yP l2)) fun ty l3 => some (.ok ⟨bs t.text, ty, t.p.1, t.p.2⟩ l3)
def gA : Nat → List (List UInt8)
 | 0 => [[61, 61], [33, 61], [60], [60, 61]]
 | 1 => [[43], [45]]
 | _ => [[42], [47], [37]]
def tU (w : List UInt8) : Int := if w = [43] then 0 else if w = [45] then 1 else if w = [42] then 2 else if w = [47] then 3 else if w = [37] then 4 else if w = [61, 61] then 5 else if w = [33, 61] then 6 else if w = [60] then 7 else if w = [60, 61] then 8 else 0
def o5 (lv : Nat) (t : Tok) : Option Int := if t.kind = 5 ∧ (gA lv).contains t.text = true then some (tU t.text) else none
def iu (t : Tok) : Int :=
 if t.kind = 2 ∨ t.kind = 5 then
  if t.text = [45] then 6 else if t.text = [114, 101, 97, 108] then 7 else if t.text = [116, 114, 117, 110, 99] then 8 else 0
 else 0
def x0 : X := ⟨0, 0, 0, 0, bs [], bs [], [], 0, 0⟩
def atX (t : Tok) (op n kd : Int) (rc name : List UInt8) : X := ⟨op, 0, n, kd, bs rc, bs name, [], t.p.1, t.p.2⟩
mutual
def qg : Nat → Nat → List Tok → Option (PR X)
 | 0, _, _ => none
 | n + 1, d, l =>
  let t := hd l
  if t.kind = 3 then some (.ok (atX t 1 t.n 0 [] []) (dJ l)) else
  if t.kind = 4 then some (.ok (atX t 2 t.n 0 [] []) (dJ l)) else
  if t.kind = 1 then some (.ok (atX t 5 0 0 [] t.text) (dJ l)) else
  if t.kind = 2 ∧ t.text = [105, 110, 112, 117, 116] then some ((eW 3 (dJ l)).map fun u => atX t 4 u.n 0 [] []) else
  if t.kind = 2 ∧ t.text = [110, 105, 108] then
   (if isT (dJ l) [105, 110, 116, 115] then some (.ok (atX t 3 0 3 [] []) (dJ l).tail) else some ((eW 1 (dJ l)).map fun u => atX t 3 0 4 u.text [])) else
  if t.kind = 5 ∧ t.text = [40] then qt d t (pb (fK n 0 (d + 1) (dJ l)) fun e l1 => pb (some (dt [41] l1)) fun _ l2 => some (.ok e l2)) else
  some (.bad 4 t.p)
def j0 : Nat → Nat → List Tok → Option (PR X)
 | 0, _, _ => none
 | n + 1, d, l =>
  let t := hd l
  if iu t = 0 then qg n d l else
  qt d t (pb (j0 n (d + 1) (dJ l)) fun k l1 => some (.ok ⟨iu t, 0, 0, 0, bs [], bs [], [k], t.p.1, t.p.2⟩ l1))
def fK : Nat → Nat → Nat → List Tok → Option (PR X)
 | 0, _, _, _ => none
 | n + 1, lv, d, l => if lv = 3 then j0 n d l else pb (fK n (lv + 1) d l) fun e l1 => mP n lv d e l1
def mP : Nat → Nat → Nat → X → List Tok → Option (PR X)
 | 0, _, _, _, _ => none
 | n + 1, lv, d, e, l =>
  let t := hd l
  match o5 lv t with
  | none => some (.ok e l)
  | some b => pb (fK n (lv + 1) d (dJ l)) fun k l1 =>
   if lv = 0 then some (.ok ⟨9, b, 0, 0, bs [], bs [], [e, k], t.p.1, t.p.2⟩ l1) else mP n lv d ⟨9, b, 0, 0, bs [], bs [], [e, k], t.p.1, t.p.2⟩ l1
end
def oX (n d : Nat) (l : List Tok) : Option (PR Pl) :=
 pb (some (eW 1 l)) fun t l1 =>
  if isT l1 [46] then pb (some (eW 1 l1.tail)) fun u l2 => some (.ok ⟨2, bs t.text, bs u.text, x0, t.p.1, t.p.2⟩ l2) else
  if isT l1 [91] then pb (fK n 0 d l1.tail) fun e l2 => pb (some (dt [93] l2)) fun _ l3 => some (.ok ⟨3, bs t.text, bs [], e, t.p.1, t.p.2⟩ l3) else
  some (.ok ⟨1, bs t.text, bs [], x0, t.p.1, t.p.2⟩ l1)
def pl0 : Pl := ⟨0, bs [], bs [], x0, 0, 0⟩
def ko (n d : Nat) (l : List Tok) : Option (PR Rt) :=
 let t := hd l
 if isT l [108, 111, 97, 100] then pb (oX n d l.tail) fun x l1 => some (.ok ⟨2, x0, x, bs [], t.p.1, t.p.2⟩ l1) else
 if isT l [115, 105, 122, 101] then pb (some (eW 1 l.tail)) fun u l1 => some (.ok ⟨5, x0, pl0, bs u.text, t.p.1, t.p.2⟩ l1) else
 if isT l [110, 101, 119] then
  (if isT l.tail [105, 110, 116, 115] then pb (fK n 0 d l.tail.tail) fun e l1 => some (.ok ⟨4, e, pl0, bs [], t.p.1, t.p.2⟩ l1)
   else pb (some (eW 1 l.tail)) fun u l1 => some (.ok ⟨3, x0, pl0, bs u.text, t.p.1, t.p.2⟩ l1)) else
 pb (fK n 0 d l) fun e l1 => some (.ok ⟨1, e, pl0, bs [], t.p.1, t.p.2⟩ l1)
def qf : Nat → Nat → Nat → List X → List Tok → Option (PR (List X))
 | 0, _, _, _, _ => none
 | n + 1, m, d, acc, l => pb (fK m 0 d l) fun e l1 =>
  if isT l1 [41] then some (.ok (acc ++ [e]) l1.tail) else pb (some (dt [44] l1)) fun _ l2 => qf n m d (acc ++ [e]) l2
def tM (n d : Nat) (l : List Tok) : Option (PR (List X)) := pb (some (dt [40] l)) fun _ l1 => if isT l1 [41] then some (.ok [] l1.tail) else qf n n d [] l1
def rt0 : Rt := ⟨0, x0, pl0, bs [], 0, 0⟩
abbrev mkS (t : Tok) (op : Int) (name : ByteArray) (right : Rt) (place : Pl) (e : X) (n : Int) (args : List X) (body els : List S) : S := ⟨op, name, right, place, e, n, args, body, els, t.p.1, t.p.2⟩
def gm (l : List Tok) : ByteArray × List Tok := if (hd l).kind = 1 then (bs (hd l).text, dJ l) else (bs [], l)
def gu (s : S) (l : List Tok) : Option (PR S) := pb (some (dt [59] l)) fun _ l1 => some (.ok s l1)
mutual
def gi : Nat → Nat → List Tok → Option (PR (List S))
 | 0, _, _ => none
 | n + 1, d, l => pb (some (dt [123] l)) fun t l1 => qt d t (rD n (d + 1) [] l1)
def rD : Nat → Nat → List S → List Tok → Option (PR (List S))
 | 0, _, _, _ => none
 | n + 1, d, acc, l => if isT l [125] then some (.ok acc l.tail) else pb (ri n d l) fun s l1 => rD n d (acc ++ [s]) l1
def lY : Nat → Nat → Tok → ByteArray → List Tok → Option (PR S)
 | 0, _, _, _, _ => none
 | n + 1, d, t, name, l => pb (some (eW 3 l)) fun u l1 => pb (gi n d l1) fun b l2 => some (.ok (mkS t 7 name rt0 pl0 x0 (IntKind.i64.wrap u.n) [] b []) l2)
def ri : Nat → Nat → List Tok → Option (PR S)
 | 0, _, _ => none
 | n + 1, d, l =>
  let t := hd l
  if t.kind = 1 then
   (if isT (dJ l) [58] then pb (some (dt [108, 111, 111, 112] (dJ l).tail)) fun _ l1 => lY n d t (bs t.text) l1
    else pb (some (dt [61] (dJ l))) fun _ l1 => pb (ko n d l1) fun r l2 => gu (mkS t 3 (bs t.text) r pl0 x0 0 [] [] []) l2) else
  if isT l [108, 111, 111, 112] then lY n d t (bs []) l.tail else
  if isT l [105, 102] then
   pb (fK n 0 d l.tail) fun e l1 => pb (gi n d l1) fun b l2 =>
    (if isT l2 [101, 108, 115, 101] then pb (gi n d l2.tail) fun c l3 => some (.ok (mkS t 6 (bs []) rt0 pl0 e 0 [] b c) l3) else some (.ok (mkS t 6 (bs []) rt0 pl0 e 0 [] b []) l2)) else
  if isT l [97, 116, 111, 109, 105, 99] then pb (gi n d l.tail) fun b l1 => some (.ok (mkS t 10 (bs []) rt0 pl0 x0 0 [] b []) l1) else
  if isT l [108, 101, 116] ∨ isT l [118, 97, 114] then
   pb (some (eW 1 (dJ l))) fun u l1 => pb (some (dt [61] l1)) fun _ l2 => pb (ko n d l2) fun r l3 => gu (mkS t (if t.text = [118, 97, 114] then 2 else 1) (bs u.text) r pl0 x0 0 [] [] []) l3 else
  if isT l [115, 101, 116] then pb (oX n d l.tail) fun x l1 => pb (some (dt [61] l1)) fun _ l2 => pb (fK n 0 d l2) fun e l3 => gu (mkS t 4 (bs []) rt0 x e 0 [] [] []) l3 else
  if isT l [112, 114, 105, 110, 116] then pb (fK n 0 d l.tail) fun e l1 => gu (mkS t 5 (bs []) rt0 pl0 e 0 [] [] []) l1 else
  if isT l [98, 114, 101, 97, 107] then gu (mkS t 8 (gm l.tail).1 rt0 pl0 x0 0 [] [] []) (gm l.tail).2 else
  if isT l [99, 111, 110, 116, 105, 110, 117, 101] then gu (mkS t 9 (gm l.tail).1 rt0 pl0 x0 0 [] [] []) (gm l.tail).2 else
  if isT l [99, 97, 108, 108] then
   pb (some (eW 1 l.tail)) fun u l1 => pb (tM n d l1) fun xs l2 => gu (mkS t 11 (bs u.text) rt0 pl0 x0 0 xs [] []) l2 else
  some (.bad 4 t.p)
end
structure Rec where
 name : ByteArray
 fields : List Nm
 line : Int
 col : Int
structure Fu where
 name : ByteArray
 params : List Nm
 body : List S
 line : Int
 col : Int
structure Th where
 body : List S
 line : Int
 col : Int
structure Pg where
 gS : List Rec
 gls : List Nm
 gP : List Fu
 ths : List Th
def k9 : Nat → List Nm → List Tok → Option (PR (List Nm))
 | 0, _, _ => none
 | n + 1, acc, l => if isT l [125] then some (.ok acc l.tail) else pb (np l) fun f l1 => pb (some (dt [59] l1)) fun _ l2 => k9 n (acc ++ [f]) l2
def Aj (n : Nat) (l : List Tok) : Option (PR Rec) :=
 pb (some (eW 1 l)) fun t l1 => pb (some (dt [123] l1)) fun _ l2 => pb (k9 n [] l2) fun fs l3 => some (.ok ⟨bs t.text, fs, t.p.1, t.p.2⟩ l3)
def jY : Nat → List Nm → List Tok → Option (PR (List Nm))
 | 0, _, _ => none
 | n + 1, acc, l => pb (np l) fun f l1 => if isT l1 [41] then some (.ok (acc ++ [f]) l1.tail) else pb (some (dt [44] l1)) fun _ l2 => jY n (acc ++ [f]) l2
def BB (n : Nat) (l : List Tok) : Option (PR Fu) :=
 pb (some (eW 1 l)) fun t l1 => pb (some (dt [40] l1)) fun _ l2 =>
  pb (if isT l2 [41] then some (.ok [] l2.tail) else jY n [] l2) fun ps l3 => pb (gi n 0 l3) fun b l4 => some (.ok ⟨bs t.text, ps, b, t.p.1, t.p.2⟩ l4)
def gN : Nat → Nat → Pg → List Tok → Option (PR Pg)
 | 0, _, _, _ => none
 | n + 1, m, g, l =>
  let t := hd l
  if t.kind = 0 then some (.ok g l) else
  if isT l [114, 101, 99, 111, 114, 100] then pb (Aj m l.tail) fun r l1 => gN n m { g with gS := g.gS ++ [r] } l1 else
  if isT l [103, 108, 111, 98, 97, 108] then pb (np l.tail) fun x l1 => pb (some (dt [59] l1)) fun _ l2 => gN n m { g with gls := g.gls ++ [x] } l2 else
  if isT l [102, 117, 110] then pb (BB m l.tail) fun f l1 => gN n m { g with gP := g.gP ++ [f] } l1 else
  if isT l [116, 104, 114, 101, 97, 100] then pb (gi m 0 l.tail) fun b l1 => gN n m { g with ths := g.ths ++ [⟨b, t.p.1, t.p.2⟩] } l1 else
  some (.bad 4 t.p)
def CM (ts : List Tok) : Prop := ∀ t ∈ ts, t.kind = 2 → ∀ lv, lv < 3 → (gA lv).contains t.text = false
end Go.Proofs.YtlhlijaondmccaaDoor.S
namespace Go.Proofs.YtlhlijaondmccaaDoor.S
open Go Go.AM Go.Proofs
attribute [local simp] cV cy bR bS cz eY fk ef db ec cZ ed da fj bT gQ dV gR gL gG AM.ae aP aQ ba aO aD AM.onG fJ cd ep Ex.bf cond_true cond_false cR cQ cP cO cN cT cM cU cS eg dc de cx cW AM.dj AM.cellsOf AM.av bP beq_true cK ak aA aZ bx bQ decide_true decide_false bI bA bn bz aY aC ay bu aR cX cY fg az bH bw bN cv dU dZ cG eu et set_set eB dy fG dz cF bC dx dw cE dv eA eC fA fB bD cf en fw dN aK aS aE AM.aV ah cL bL bq aW aN aM AM.part bg aL bY cc bZ bX bX.eK AM.dL bB cq dG fv aK laid aG aX cm
attribute [-simp] ag
attribute [local congr] dH
abbrev pcf (es : List (List PV)) (a d e q1 q2 : Int) : List PV := [.sl es .dead, .v (.int .i64 a), .v (.int .i64 d), .v (.int .i64 e), .v (.int .i64 q1), .v (.int .i64 q2)]
abbrev pcA (ts l : List Tok) : Int := ((ts.length - l.length : Nat) : Int)
abbrev pc (ts l : List Tok) (d : Nat) : List PV := pcf (aw ts) (pcA ts l) d 0 0 0
structure Row (ts : List Tok) : Prop where
 len : ts.length < 100000
 shape : ∃ t0 q, ts = t0 ++ [⟨0, [], 0, q⟩] ∧ ∀ t ∈ t0, t.kind ≠ 0
 num : ∀ t ∈ ts, t.n < 9223372036854775808 ∨ t.kind = 4
 txt : ∀ t ∈ ts, t.text.length < 1000000
 sign : ∀ t ∈ ts, t.kind = 5 → ∀ c ∈ t.text, c ≠ 32
def Sfx (ts l : List Tok) : Prop := l ≠ [] ∧ ∃ dn, ts = dn ++ l
theorem Sfx.cons {ts l : List Tok} (h : Sfx ts l) : ∃ t r, l = t :: r := by
 obtain ⟨h1, _⟩ := h
 cases l with
 | nil => exact absurd rfl h1
 | cons t r => exact ⟨t, r, rfl⟩
theorem Sfx.tail {ts l : List Tok} (hr : Row ts) (h : Sfx ts l) (hk : (hd l).kind ≠ 0) : Sfx ts l.tail := by
 obtain ⟨t, r, rfl⟩ := h.cons; obtain ⟨_, dn, rfl⟩ := h; refine ⟨?_, dn ++ [t], by simp⟩; intro e; have e : r = [] := e; subst e; obtain ⟨t0, q, h1, _⟩ := hr.shape; have := List.append_inj_right' h1 rfl; obtain rfl := (List.cons.inj this).1; exact hk rfl
theorem Sfx.next {ts l : List Tok} (hr : Row ts) (h : Sfx ts l) : Sfx ts (dJ l) := by
 unfold dJ; split
 · exact h
 · rename_i hk; exact h.tail hr hk
theorem zM {l : List Tok} {s : List UInt8} (h : isT l s = true) : (hd l).kind ≠ 0 := by
 unfold isT at h; simp only [an, Bool.or_eq_true, decide_eq_true_eq] at h; omega
theorem Sfx.isT {ts l : List Tok} (hr : Row ts) (h : Sfx ts l) {s : List UInt8} (hi : isT l s = true) : Sfx ts l.tail := h.tail hr (zM hi)
theorem Ab {ts l : List Tok} (h : Sfx ts l) : pcA ts l.tail = pcA ts l + 1 := by
 obtain ⟨t, r, rfl⟩ := h.cons; obtain ⟨_, dn, rfl⟩ := h; simp only [pcA, List.tail_cons, bh, ak]; omega
theorem BV {ts l : List Tok} (hr : Row ts) : 0 ≤ pcA ts l ∧ pcA ts l < 100000 := by
 have := hr.len
 simp only [pcA]; omega
theorem uB {ts l : List Tok} (hr : Row ts) (h : Sfx ts l) : IntKind.i64.wrap (pcA ts l + 1) = pcA ts l.tail := by
 have := BV (l := l) hr; rw [Ab h, IntWalk.i64_in _ (by omega)]
theorem zc {ts l : List Tok} (h : Sfx ts l) : cJ Tryd.prog 85 (.sl (aw ts) .dead) (.v (.int .i64 (pcA ts l))) = some (.fp (hd l).c 0) := by
 obtain ⟨t, r, rfl⟩ := h.cons; obtain ⟨_, dn, rfl⟩ := h
 have e : pcA (dn ++ t :: r) (t :: r) = (dn.length : Int) := by simp only [pcA, bh]; omega
 rw [e, DY]
 have h1 : eT (dn.length : Int) (aw (dn ++ t :: r)).length = true := by rw [jn]; exact inR dn t r
 have h2 : (aw (dn ++ t :: r))[(dn.length : Int).toNat]? = some t.c := by simp [aw]
 rw [h1, h2]
 rfl
theorem ax {f : Nat} {args : List PV} {b : Nat} {c d : List PV} {x : PV} (h : ∀ X : St, b < X.stk.length → E L (.func f) args (X.af false b c) = some (x, X.af false b d)) {s : St} (hb : b < s.stk.length) (bl : List Blk) (tk : List (Nat × Nat)) (lp : List Aux) :
 E L (.func f) args ((s.af false b c).app bl tk lp) = some (x, (s.af false b d).app bl tk lp) := by
 rw [← bD bl tk lp hb, ← bD bl tk lp hb]; exact h _ (by rw [cv]; omega)
theorem dF {ts l : List Tok} (h : Sfx ts l) (d e q1 q2 : Int) {b : Nat} : ∀ X : St, b < X.stk.length → E L (.func 39) [.ptr false b 0] (X.af false b (pcf (aw ts) (pcA ts l) d e q1 q2)) = some (.agg (hd l).c, X.af false b (pcf (aw ts) (pcA ts l) d e q1 q2)) := by
 intro X hb; rw [CU]; obtain ⟨N, T, Lb, hN, hT, hL⟩ := lens3 X; rw [hN] at hb
 conv => lhs; rw [← aj (X.af false b (pcf (aw ts) (pcA ts l) d e q1 q2))]
 have hi := zc h
 generalize pcA ts l = a at *
 generalize aw ts = es at *
 generalize hd l = t at *
 simp only [Tok.c, bc] at hi ⊢; simp [S39, pcf, hN, hT, hL, hb, hi, laid, aG]
theorem jX {ts l : List Tok} (hr : Row ts) (h : Sfx ts l) (d : Nat) {b : Nat} : ∀ X : St, b < X.stk.length → E L (.func 113) [.ptr false b 0] (X.af false b (pc ts l d)) = some (.agg (hd l).c, X.af false b (pc ts (dJ l) d)) := by
 intro X hb; rw [A2]; obtain ⟨N, T, Lb, hN, hT, hL⟩ := lens3 X; rw [hN] at hb
 conv => lhs; rw [← aj (X.af false b (pc ts l d))]
 have hi := zc h; have hw := uB hr h; unfold pc dJ
 by_cases hk : (hd l).kind = 0
 · rw [if_pos hk]
   generalize pcA ts l = a at *
   generalize aw ts = es at *
   generalize hd l = t at *
   simp only [Tok.c, bc, hk] at hi ⊢; simp [CO, pcf, hN, hT, hL, hb, hi, laid, aG]
 · rw [if_neg hk]
   have hk' : ¬ (((hd l).kind : Int) = 0) := by omega
   generalize pcA ts l = a at *
   generalize pcA ts l.tail = a' at *
   generalize aw ts = es at *
   generalize hd l = t at *
   simp only [Tok.c, bc] at hi ⊢; simp [CO, pcf, hN, hT, hL, hb, hi, hk, hk', hw, laid, aG]
theorem jc {ts l : List Tok} (h : Sfx ts l) (d e q1 q2 : Int) (w : List UInt8) {b : Nat} : ∀ X : St, b < X.stk.length → E L (.func 78) [.ptr false b 0, str w] (X.af false b (pcf (aw ts) (pcA ts l) d e q1 q2)) = some (.v (.bool (isT l w)), X.af false b (pcf (aw ts) (pcA ts l) d e q1 q2)) := by
 intro X hb; have e67 := ax (dF h d e q1 q2 (b := b)) hb; rw [Da]; obtain ⟨N, T, Lb, hN, hT, hL⟩ := lens3 X; rw [hN] at hb
 conv => lhs; rw [← aj (X.af false b (pcf (aw ts) (pcA ts l) d e q1 q2))]
 unfold isT
 generalize pcA ts l = a at *
 generalize aw ts = es at *
 generalize hd l = t at *
 simp only [Tok.c, bc, pcf] at e67
 by_cases h2 : t.kind = 2
 · simp [S78, pcf, hN, hT, hL, hb, e67, h2, laid, aG]
 · have h2' : ¬ ((t.kind : Int) = 2) := by omega
   by_cases h5 : t.kind = 5
   · simp [S78, pcf, hN, hT, hL, hb, e67, h5, laid, aG]
   · have h5' : ¬ ((t.kind : Int) = 5) := by omega
     simp [S78, pcf, hN, hT, hL, hb, e67, h2, h2', h5, h5', laid, aG]
theorem aB {ts l : List Tok} (hr : Row ts) (h : Sfx ts l) (d : Nat) (w : List UInt8) {b : Nat} : ∀ X : St, b < X.stk.length → E L (.func 40) [.ptr false b 0, str w] (X.af false b (pc ts l d)) = some (.v (.bool (isT l w)), X.af false b (pc ts (if isT l w then l.tail else l) d)) := by
 intro X hb; have e120 := ax (jc h d 0 0 0 w (b := b)) hb; have hw := uB hr h; rw [CV]; obtain ⟨N, T, Lb, hN, hT, hL⟩ := lens3 X; rw [hN] at hb
 conv => lhs; rw [← aj (X.af false b (pc ts l d))]
 unfold pc
 cases hi : isT l w with
 | true =>
  rw [hi] at e120; simp only [if_true]
  generalize pcA ts l = a at *
  generalize pcA ts l.tail = a' at *
  simp only [pcf] at e120; simp [S40, pcf, hN, hT, hL, hb, e120, hw, laid, aG]
 | false =>
  rw [hi] at e120; simp only [ab, if_false]
  generalize pcA ts l = a at *
  simp only [pcf] at e120; simp [S40, pcf, hN, hT, hL, hb, e120, laid, aG]
theorem vG : ij Tryd.prog 92 (.agg []) = some (.ifc 92 (.agg #[])) := by kernel_rfl
theorem tg {s : St} {bl : List Blk} {tk : List (Nat × Nat)} {lp : List Aux} {b off base sz : Nat} {old cs : List PV} (hb : b < s.stk.length) (ho : off + cs.length ≤ old.length) (hz : cs.length = sz) (h0 : sz ≠ 0) (hs : cs.all o8 = true) (hk : aG cs = true) :
 au base sz (.ptr false b off) (.agg cs) ((s.af false b old).app bl tk lp) = some ((s.af false b (laid old off cs)).app bl tk lp) := by
 have h1 : ((s.af false b old).app bl tk lp).blk false b = some old := by rw [lL (by rw [cG]; exact hb), tx old hb]
 have h2 : ∀ ds, ((s.af false b old).app bl tk lp).af false b ds = (s.af false b ds).app bl tk lp := fun ds => by rw [bD _ _ _ (by rw [cG]; exact hb), set_set]
 have h3 : di (off + cs.length) old.length = true := by rw [Nat.ble_eq]; exact ho
 have h5 : (ai cs.length sz && !ai sz 0) = true := by
  rw [hz, Nat.beq_refl]
  cases sz with
  | zero => exact absurd rfl h0
  | succ n => rfl
 simp only [au, AM.cellsOf, ag, putCells, h1, h3, hk, h5, bn, cond_true]
 cases fC b base <;> simp [jh hs, h2]
theorem mC (es : List (List PV)) (a d : Int) (e : Nat) (t : Tok) {b : Nat} : ∀ X : St, b < X.stk.length → E L (.func 46) [.ptr false b 0, .v (.int .i64 (e : Int)), .agg t.c] (X.af false b (pcf es a d 0 0 0)) = some (.pan 92 (.agg #[]), X.af false b (pcf es a d e t.p.1 t.p.2)) := by
 intro X hb; rw [CW]; obtain ⟨N, T, Lb, hN, hT, hL⟩ := lens3 X; rw [hN] at hb
 conv => lhs; rw [← aj (X.af false b (pcf es a d 0 0 0))]
 simp only [Tok.c, bc]; generalize (e : Int) = e'
 have hs : ∀ bl tk lp, au N 3 (.ptr false b 3) (.agg [.v (.int .i64 e'), .v (.int .i64 (t.p.1 : Int)), .v (.int .i64 (t.p.2 : Int))]) ((X.af false b (pcf es a d 0 0 0)).app bl tk lp) = some ((X.af false b (pcf es a d e' t.p.1 t.p.2)).app bl tk lp) := fun bl tk lp => tg (hN ▸ hb) (by simp) rfl (by omega) rfl rfl
 simp only [pcf] at hs; simp [S46, pcf, hN, hT, hL, hb, hs, vG, aX, cm, laid, aG, sc]
def Rd {α : Type} (f : Nat) (args : List PV) (ts : List Tok) (d d' : Nat) (l : List Tok) (enc : α → PV) (x : PR α) : Prop := match x with
 | .ok a l' => Sfx ts l' ∧ ∀ b (X : St), b < X.stk.length → E L (.func f) (.ptr false b 0 :: args) (X.af false b (pc ts l d)) = some (enc a, X.af false b (pc ts l' d'))
 | .bad e q => ∃ a' d'', ∀ b (X : St), b < X.stk.length → E L (.func f) (.ptr false b 0 :: args) (X.af false b (pc ts l d)) = some (.pan 92 (.agg #[]), X.af false b (pcf (aw ts) a' d'' e q.1 q.2))
abbrev aI (t : Tok) : PV := .agg t.c
theorem eG {ts l : List Tok} (hr : Row ts) (h : Sfx ts l) (d : Nat) (w : List UInt8) : Rd 43 [str w] ts d d l aI (dt w l) := by
 have e67 := fun b X hb => ax (dF h d 0 0 0 (b := b)) (s := X) hb
 have e68 := fun b X hb => ax (aB hr h d w (b := b)) (s := X) hb
 unfold dt Rd
 cases hi : isT l w with
 | true =>
  rw [hi] at e68; simp only [if_true] at e68 ⊢; refine ⟨h.isT hr hi, fun b X hb => ?_⟩; have e67 := e67 b X hb; have e68 := e68 b X hb; rw [y6]; obtain ⟨N, T, Lb, hN, hT, hL⟩ := lens3 X; rw [hN] at hb
  conv => lhs; rw [← aj (X.af false b (pc ts l d))]
  simp only [pc, pcf, Tok.c, bc] at e67 e68 ⊢
  generalize hd l = t at *
  generalize pcA ts l = a at *
  generalize pcA ts l.tail = a' at *
  generalize aw ts = es at *
  simp [S43, pcf, hN, hT, hL, hb, e67, e68, laid, aG]
 | false =>
  rw [hi] at e68; simp only [ab, if_false] at e68 ⊢; refine ⟨pcA ts l, d, fun b X hb => ?_⟩; have e67 := e67 b X hb; have e68 := e68 b X hb; have e74 := ax (mC (aw ts) (pcA ts l) d 4 (hd l) (b := b)) hb; rw [y6]; obtain ⟨N, T, Lb, hN, hT, hL⟩ := lens3 X; rw [hN] at hb
  conv => lhs; rw [← aj (X.af false b (pc ts l d))]
  simp only [pc, pcf, Tok.c, bc, aa] at e67 e68 e74 ⊢
  generalize hd l = t at *
  generalize pcA ts l = a at *
  generalize aw ts = es at *
  simp [S43, pcf, hN, hT, hL, hb, e67, e68, e74, laid, aG, aK, fv]
theorem gC {ts l : List Tok} (hr : Row ts) (h : Sfx ts l) (d : Nat) (k : Nat) : Rd 79 [.v (.int .i64 (k : Int))] ts d d l aI (eW k l) := by
 have e67 := fun b X hb => ax (dF h d 0 0 0 (b := b)) (s := X) hb
 have e151 := fun b X hb => ax (jX hr h d (b := b)) (s := X) hb
 unfold eW Rd
 by_cases hk : (hd l).kind = k
 · rw [if_pos hk]
   refine ⟨h.next hr, fun b X hb => ?_⟩; have e67 := e67 b X hb; have e151 := e151 b X hb; rw [y8]; obtain ⟨N, T, Lb, hN, hT, hL⟩ := lens3 X; rw [hN] at hb
   conv => lhs; rw [← aj (X.af false b (pc ts l d))]
   simp only [pc, pcf, Tok.c, bc, hk] at e67 e151 ⊢
   generalize hd l = t at *
   generalize pcA ts l = a at *
   generalize pcA ts (dJ l) = a' at *
   generalize aw ts = es at *
   simp [S79, pcf, hN, hT, hL, hb, e67, e151, hk, laid, aG]
 · rw [if_neg hk]
   refine ⟨pcA ts l, d, fun b X hb => ?_⟩; have e67 := e67 b X hb; have e74 := ax (mC (aw ts) (pcA ts l) d 4 (hd l) (b := b)) hb
   have hk' : ¬ (((hd l).kind : Int) = (k : Int)) := by omega
   rw [y8]; obtain ⟨N, T, Lb, hN, hT, hL⟩ := lens3 X; rw [hN] at hb
   conv => lhs; rw [← aj (X.af false b (pc ts l d))]
   simp only [pc, pcf, Tok.c, bc, aa] at e67 e74 ⊢
   generalize hd l = t at *
   generalize pcA ts l = a at *
   generalize aw ts = es at *
   simp [S79, pcf, hN, hT, hL, hb, e67, e74, hk, hk', laid, aG, aK, fv]
theorem sU {ts l : List Tok} (h : Sfx ts l) (d : Nat) (t : Tok) (hd : d < 1000) : Rd 81 [.agg t.c] ts d (d + 1) l (fun _ : Unit => .tup []) (if 12 < d + 1 then .bad 10 t.p else .ok () l) := by
 have hw : IntKind.i64.wrap ((d : Int) + 1) = ((d + 1 : Nat) : Int) := by rw [IntWalk.i64_in _ (by omega)]; omega
 unfold Rd
 by_cases hk : 12 < d + 1
 · rw [if_pos hk]
   refine ⟨pcA ts l, (d + 1 : Nat), fun b X hb => ?_⟩; have e74 := ax (mC (aw ts) (pcA ts l) (d + 1 : Nat) 10 t (b := b)) hb
   have hk' : (12 : Int) < ((d + 1 : Nat) : Int) := by omega
   rw [za]; obtain ⟨N, T, Lb, hN, hT, hL⟩ := lens3 X; rw [hN] at hb
   conv => lhs; rw [← aj (X.af false b (pc ts l d))]
   simp only [pc, pcf, Tok.c, bc, aa] at e74 ⊢
   generalize pcA ts l = a at *
   generalize aw ts = es at *
   generalize ((d + 1 : Nat) : Int) = d1 at *
   simp [S81, pcf, hN, hT, hL, hb, e74, hw, hk', laid, aG, aK, fv]
 · rw [if_neg hk]
   refine ⟨h, fun b X hb => ?_⟩
   have hk' : ¬ ((12 : Int) < ((d + 1 : Nat) : Int)) := by omega
   rw [za]; obtain ⟨N, T, Lb, hN, hT, hL⟩ := lens3 X; rw [hN] at hb
   conv => lhs; rw [← aj (X.af false b (pc ts l d))]
   simp only [pc, pcf, Tok.c, bc]
   generalize pcA ts l = a at *
   generalize aw ts = es at *
   generalize ((d + 1 : Nat) : Int) = d1 at *
   simp [S81, pcf, hN, hT, hL, hb, hw, hk', laid, aG, aK, fv]
abbrev gh : PV := .agg [str [43], str [45], str [42], str [47], str [37], str [61, 61], str [33, 61], str [60], str [60, 61]]
theorem iB : jo Tryd.prog 182 [(0, str [43]), (1, str [45]), (2, str [42]), (3, str [47]), (4, str [37]), (5, str [61, 61]), (6, str [33, 61]), (7, str [60]), (8, str [60, 61])] = some gh := by kernel_rfl
theorem xa (x0 x1 x2 x3 x4 x5 x6 x7 x8 : PV) : du Tryd.prog 182 (.agg [x0, x1, x2, x3, x4, x5, x6, x7, x8]) (.v (.int .i64 0)) = some x0 := by kernel_rfl
theorem xd (x0 x1 x2 x3 x4 x5 x6 x7 x8 : PV) : du Tryd.prog 182 (.agg [x0, x1, x2, x3, x4, x5, x6, x7, x8]) (.v (.int .i64 1)) = some x1 := by kernel_rfl
theorem xg (x0 x1 x2 x3 x4 x5 x6 x7 x8 : PV) : du Tryd.prog 182 (.agg [x0, x1, x2, x3, x4, x5, x6, x7, x8]) (.v (.int .i64 2)) = some x2 := by kernel_rfl
theorem xi (x0 x1 x2 x3 x4 x5 x6 x7 x8 : PV) : du Tryd.prog 182 (.agg [x0, x1, x2, x3, x4, x5, x6, x7, x8]) (.v (.int .i64 3)) = some x3 := by kernel_rfl
theorem xj (x0 x1 x2 x3 x4 x5 x6 x7 x8 : PV) : du Tryd.prog 182 (.agg [x0, x1, x2, x3, x4, x5, x6, x7, x8]) (.v (.int .i64 4)) = some x4 := by kernel_rfl
theorem xl (x0 x1 x2 x3 x4 x5 x6 x7 x8 : PV) : du Tryd.prog 182 (.agg [x0, x1, x2, x3, x4, x5, x6, x7, x8]) (.v (.int .i64 5)) = some x5 := by kernel_rfl
theorem xm (x0 x1 x2 x3 x4 x5 x6 x7 x8 : PV) : du Tryd.prog 182 (.agg [x0, x1, x2, x3, x4, x5, x6, x7, x8]) (.v (.int .i64 6)) = some x6 := by kernel_rfl
theorem xn (x0 x1 x2 x3 x4 x5 x6 x7 x8 : PV) : du Tryd.prog 182 (.agg [x0, x1, x2, x3, x4, x5, x6, x7, x8]) (.v (.int .i64 7)) = some x7 := by kernel_rfl
theorem xo (x0 x1 x2 x3 x4 x5 x6 x7 x8 : PV) : du Tryd.prog 182 (.agg [x0, x1, x2, x3, x4, x5, x6, x7, x8]) (.v (.int .i64 8)) = some x8 := by kernel_rfl
theorem De (w : List UInt8) (X : St) : E L (.func 157) [str w] X = some (.v (.int .i64 (tU w)), X) := by
 rw [A7]; obtain ⟨N, T, Lb, hN, hT, hL⟩ := lens3 X
 conv => lhs; rw [← aj (X)]
 have s0 : w ≠ [43] → itE (eI.b0 (E L) itE N Lb) [str w, .v (.int .i64 0), gh, .v (.int .i64 0)] (X.app [] [] []) = itE (eI.b0 (E L) itE N Lb) [str w, .v (.int .i64 0), gh, .v (.int .i64 1)] (X.app [] [] []) := fun h => bW (by simp [eI.b0, hN, hT, hL, xa, h, Ne.symm h, IntWalk.i64_in])
 have h0 : w = [43] → itE (eI.b0 (E L) itE N Lb) [str w, .v (.int .i64 0), gh, .v (.int .i64 0)] (X.app [] [] []) = some (.ret, [str w, .v (.int .i64 0), gh, .v (.int .i64 0)], X.app [] [] []) := fun h => eL (by subst h; simp [eI.b0, hN, hT, hL, xa])
 have s1 : w ≠ [45] → itE (eI.b0 (E L) itE N Lb) [str w, .v (.int .i64 0), gh, .v (.int .i64 1)] (X.app [] [] []) = itE (eI.b0 (E L) itE N Lb) [str w, .v (.int .i64 0), gh, .v (.int .i64 2)] (X.app [] [] []) := fun h => bW (by simp [eI.b0, hN, hT, hL, xd, h, Ne.symm h, IntWalk.i64_in])
 have h1 : w = [45] → itE (eI.b0 (E L) itE N Lb) [str w, .v (.int .i64 0), gh, .v (.int .i64 1)] (X.app [] [] []) = some (.ret, [str w, .v (.int .i64 1), gh, .v (.int .i64 1)], X.app [] [] []) := fun h => eL (by subst h; simp [eI.b0, hN, hT, hL, xd])
 have s2 : w ≠ [42] → itE (eI.b0 (E L) itE N Lb) [str w, .v (.int .i64 0), gh, .v (.int .i64 2)] (X.app [] [] []) = itE (eI.b0 (E L) itE N Lb) [str w, .v (.int .i64 0), gh, .v (.int .i64 3)] (X.app [] [] []) := fun h => bW (by simp [eI.b0, hN, hT, hL, xg, h, Ne.symm h, IntWalk.i64_in])
 have h2 : w = [42] → itE (eI.b0 (E L) itE N Lb) [str w, .v (.int .i64 0), gh, .v (.int .i64 2)] (X.app [] [] []) = some (.ret, [str w, .v (.int .i64 2), gh, .v (.int .i64 2)], X.app [] [] []) := fun h => eL (by subst h; simp [eI.b0, hN, hT, hL, xg])
 have s3 : w ≠ [47] → itE (eI.b0 (E L) itE N Lb) [str w, .v (.int .i64 0), gh, .v (.int .i64 3)] (X.app [] [] []) = itE (eI.b0 (E L) itE N Lb) [str w, .v (.int .i64 0), gh, .v (.int .i64 4)] (X.app [] [] []) := fun h => bW (by simp [eI.b0, hN, hT, hL, xi, h, Ne.symm h, IntWalk.i64_in])
 have h3 : w = [47] → itE (eI.b0 (E L) itE N Lb) [str w, .v (.int .i64 0), gh, .v (.int .i64 3)] (X.app [] [] []) = some (.ret, [str w, .v (.int .i64 3), gh, .v (.int .i64 3)], X.app [] [] []) := fun h => eL (by subst h; simp [eI.b0, hN, hT, hL, xi])
 have s4 : w ≠ [37] → itE (eI.b0 (E L) itE N Lb) [str w, .v (.int .i64 0), gh, .v (.int .i64 4)] (X.app [] [] []) = itE (eI.b0 (E L) itE N Lb) [str w, .v (.int .i64 0), gh, .v (.int .i64 5)] (X.app [] [] []) := fun h => bW (by simp [eI.b0, hN, hT, hL, xj, h, Ne.symm h, IntWalk.i64_in])
 have h4 : w = [37] → itE (eI.b0 (E L) itE N Lb) [str w, .v (.int .i64 0), gh, .v (.int .i64 4)] (X.app [] [] []) = some (.ret, [str w, .v (.int .i64 4), gh, .v (.int .i64 4)], X.app [] [] []) := fun h => eL (by subst h; simp [eI.b0, hN, hT, hL, xj])
 have s5 : w ≠ [61, 61] → itE (eI.b0 (E L) itE N Lb) [str w, .v (.int .i64 0), gh, .v (.int .i64 5)] (X.app [] [] []) = itE (eI.b0 (E L) itE N Lb) [str w, .v (.int .i64 0), gh, .v (.int .i64 6)] (X.app [] [] []) := fun h => bW (by simp [eI.b0, hN, hT, hL, xl, h, Ne.symm h, IntWalk.i64_in])
 have h5 : w = [61, 61] → itE (eI.b0 (E L) itE N Lb) [str w, .v (.int .i64 0), gh, .v (.int .i64 5)] (X.app [] [] []) = some (.ret, [str w, .v (.int .i64 5), gh, .v (.int .i64 5)], X.app [] [] []) := fun h => eL (by subst h; simp [eI.b0, hN, hT, hL, xl])
 have s6 : w ≠ [33, 61] → itE (eI.b0 (E L) itE N Lb) [str w, .v (.int .i64 0), gh, .v (.int .i64 6)] (X.app [] [] []) = itE (eI.b0 (E L) itE N Lb) [str w, .v (.int .i64 0), gh, .v (.int .i64 7)] (X.app [] [] []) := fun h => bW (by simp [eI.b0, hN, hT, hL, xm, h, Ne.symm h, IntWalk.i64_in])
 have h6 : w = [33, 61] → itE (eI.b0 (E L) itE N Lb) [str w, .v (.int .i64 0), gh, .v (.int .i64 6)] (X.app [] [] []) = some (.ret, [str w, .v (.int .i64 6), gh, .v (.int .i64 6)], X.app [] [] []) := fun h => eL (by subst h; simp [eI.b0, hN, hT, hL, xm])
 have s7 : w ≠ [60] → itE (eI.b0 (E L) itE N Lb) [str w, .v (.int .i64 0), gh, .v (.int .i64 7)] (X.app [] [] []) = itE (eI.b0 (E L) itE N Lb) [str w, .v (.int .i64 0), gh, .v (.int .i64 8)] (X.app [] [] []) := fun h => bW (by simp [eI.b0, hN, hT, hL, xn, h, Ne.symm h, IntWalk.i64_in])
 have h7 : w = [60] → itE (eI.b0 (E L) itE N Lb) [str w, .v (.int .i64 0), gh, .v (.int .i64 7)] (X.app [] [] []) = some (.ret, [str w, .v (.int .i64 7), gh, .v (.int .i64 7)], X.app [] [] []) := fun h => eL (by subst h; simp [eI.b0, hN, hT, hL, xn])
 have s8 : w ≠ [60, 61] → itE (eI.b0 (E L) itE N Lb) [str w, .v (.int .i64 0), gh, .v (.int .i64 8)] (X.app [] [] []) = itE (eI.b0 (E L) itE N Lb) [str w, .v (.int .i64 0), gh, .v (.int .i64 9)] (X.app [] [] []) := fun h => bW (by simp [eI.b0, hN, hT, hL, xo, h, Ne.symm h, IntWalk.i64_in])
 have h8 : w = [60, 61] → itE (eI.b0 (E L) itE N Lb) [str w, .v (.int .i64 0), gh, .v (.int .i64 8)] (X.app [] [] []) = some (.ret, [str w, .v (.int .i64 8), gh, .v (.int .i64 8)], X.app [] [] []) := fun h => eL (by subst h; simp [eI.b0, hN, hT, hL, xo])
 have s9 : itE (eI.b0 (E L) itE N Lb) [str w, .v (.int .i64 0), gh, .v (.int .i64 9)] (X.app [] [] []) = some (.exit 0, [str w, .v (.int .i64 0), gh, .v (.int .i64 9)], X.app [] [] []) := hG (by simp [eI.b0, hN, hT, hL]); unfold tU
 by_cases g0 : w = [43]
 · rw [if_pos g0]
   have e := h0 g0; simp [eI, hN, hT, hL, iB, e]
 rw [if_neg g0]
 by_cases g1 : w = [45]
 · rw [if_pos g1]
   have e := h1 g1; rw [← s0 g0] at e; simp [eI, hN, hT, hL, iB, e]
 rw [if_neg g1]
 by_cases g2 : w = [42]
 · rw [if_pos g2]
   have e := h2 g2; rw [← s1 g1, ← s0 g0] at e; simp [eI, hN, hT, hL, iB, e]
 rw [if_neg g2]
 by_cases g3 : w = [47]
 · rw [if_pos g3]
   have e := h3 g3; rw [← s2 g2, ← s1 g1, ← s0 g0] at e; simp [eI, hN, hT, hL, iB, e]
 rw [if_neg g3]
 by_cases g4 : w = [37]
 · rw [if_pos g4]
   have e := h4 g4; rw [← s3 g3, ← s2 g2, ← s1 g1, ← s0 g0] at e; simp [eI, hN, hT, hL, iB, e]
 rw [if_neg g4]
 by_cases g5 : w = [61, 61]
 · rw [if_pos g5]
   have e := h5 g5; rw [← s4 g4, ← s3 g3, ← s2 g2, ← s1 g1, ← s0 g0] at e; simp [eI, hN, hT, hL, iB, e]
 rw [if_neg g5]
 by_cases g6 : w = [33, 61]
 · rw [if_pos g6]
   have e := h6 g6; rw [← s5 g5, ← s4 g4, ← s3 g3, ← s2 g2, ← s1 g1, ← s0 g0] at e; simp [eI, hN, hT, hL, iB, e]
 rw [if_neg g6]
 by_cases g7 : w = [60]
 · rw [if_pos g7]
   have e := h7 g7; rw [← s6 g6, ← s5 g5, ← s4 g4, ← s3 g3, ← s2 g2, ← s1 g1, ← s0 g0] at e; simp [eI, hN, hT, hL, iB, e]
 rw [if_neg g7]
 by_cases g8 : w = [60, 61]
 · rw [if_pos g8]
   have e := h8 g8; rw [← s7 g7, ← s6 g6, ← s5 g5, ← s4 g4, ← s3 g3, ← s2 g2, ← s1 g1, ← s0 g0] at e; simp [eI, hN, hT, hL, iB, e]
 rw [if_neg g8]; have e := s9; rw [← s8 g8, ← s7 g7, ← s6 g6, ← s5 g5, ← s4 g4, ← s3 g3, ← s2 g2, ← s1 g1, ← s0 g0] at e; simp [eI, hN, hT, hL, iB, e]
theorem sP : jo Tryd.prog 173 [(0, str [32, 61, 61, 32, 33, 61, 32, 60, 32, 60, 61, 32]), (1, str [32, 43, 32, 45, 32]), (2, str [32, 42, 32, 47, 32, 37, 32])] = some (.agg [str [32, 61, 61, 32, 33, 61, 32, 60, 32, 60, 61, 32], str [32, 43, 32, 45, 32], str [32, 42, 32, 47, 32, 37, 32]]) := by kernel_rfl
theorem Ar (lv : Nat) (h : lv < 3) (X : St) : E L (.func 156) [.v (.int .i64 (lv : Int))] X = some (str (32 :: hR (gA lv)), X) := by
 rw [A6]; obtain ⟨N, T, Lb, hN, hT, hL⟩ := lens3 X
 conv => lhs; rw [← aj (X)]
 obtain rfl | rfl | rfl : lv = 0 ∨ lv = 1 ∨ lv = 2 := by omega
 · simp [A5, hN, hT, hL, sP, w9, gA, hR]
 · simp [A5, hN, hT, hL, sP, xb, gA, hR]
 · simp [A5, hN, hT, hL, sP, xe, gA, hR]
theorem yy {lv : Nat} {w : List UInt8} (hw : ∀ c ∈ w, c ≠ 32) : Lib.contains (32 :: hR (gA lv)) (32 :: (w ++ [32])) = (gA lv).contains w := by
 refine js hw _ ?_; unfold gA
 split <;> decide
theorem AH (w : List UInt8) (X : St) : E L (.func 170) [str w] X = some (.v (.int .i64 (if w = [45] then 6 else if w = [114, 101, 97, 108] then 7 else if w = [116, 114, 117, 110, 99] then 8 else 0)), X) := by
 rw [A8]; obtain ⟨N, T, Lb, hN, hT, hL⟩ := lens3 X
 conv => lhs; rw [← aj (X)]
 by_cases h1 : w = [45]
 · simp [yZ, hN, hT, hL, h1]
 · by_cases h2 : w = [114, 101, 97, 108]
   · simp [yZ, hN, hT, hL, h2]
   · by_cases h3 : w = [116, 114, 117, 110, 99]
     · simp [yZ, hN, hT, hL, h3]
     · simp [yZ, hN, hT, hL, h1, h2, h3]
abbrev gX (t : Ty2) : PV := .agg [.v (.int .i64 t.kd), .v (.string t.rc)]
abbrev gW (x : Nm) : PV := .agg [.v (.string x.name), .v (.int .i64 x.ty.kd), .v (.string x.ty.rc), .v (.int .i64 x.line), .v (.int .i64 x.col)]
abbrev rr : PV := .agg [str [], str [105, 110, 116], str [114, 101, 97, 108], str [105, 110, 116, 115]]
theorem nJ : jo Tryd.prog 174 [(0, str []), (1, str [105, 110, 116]), (2, str [114, 101, 97, 108]), (3, str [105, 110, 116, 115])] = some rr := by kernel_rfl
theorem aJ {α : Type} {f : Nat} {args : List PV} {ts : List Tok} {d d' : Nat} {l : List Tok} {enc : α → PV} {x : PR α} {a : α} {l' : List Tok} (h : Rd f args ts d d' l enc x) (hx : x = .ok a l') {b : Nat} {s : St} (hb : b < s.stk.length) : ∀ (bl : List Blk) (tk : List (Nat × Nat)) (lp : List Aux),
 E L (.func f) (.ptr false b 0 :: args) ((s.af false b (pc ts l d)).app bl tk lp) = some (enc a, (s.af false b (pc ts l' d')).app bl tk lp) := by
 subst hx
 exact fun bl tk lp => ax (h.2 b) hb bl tk lp
theorem br {α : Type} {f : Nat} {args : List PV} {ts : List Tok} {d d' : Nat} {l : List Tok} {enc : α → PV} {x : PR α} {a : α} {l' : List Tok} (h : Rd f args ts d d' l enc x) (hx : x = .ok a l') : Sfx ts l' := by
 subst hx; exact h.1
theorem bm {α : Type} {f : Nat} {args : List PV} {ts : List Tok} {d d' : Nat} {l : List Tok} {enc : α → PV} {x : PR α} {e : Nat} {q : Nat × Nat} (h : Rd f args ts d d' l enc x) (hx : x = .bad e q) : ∃ a' d'', ∀ {b : Nat} {s : St} (hb : b < s.stk.length) (bl : List Blk) (tk : List (Nat × Nat)) (lp : List Aux),
 E L (.func f) (.ptr false b 0 :: args) ((s.af false b (pc ts l d)).app bl tk lp) = some (.pan 92 (.agg #[]), (s.af false b (pcf (aw ts) a' d'' e q.1 q.2)).app bl tk lp) := by
 subst hx; obtain ⟨a', d'', h⟩ := h; exact ⟨a', d'', fun hb bl tk lp => ax (h _) hb bl tk lp⟩
theorem DE {ts l : List Tok} (hr : Row ts) (h : Sfx ts l) (d : Nat) : Rd 80 [] ts d d l gX (yP l) := by
 have e68 := fun b (X : St) hb (w : List UInt8) => ax (aB hr h d w (b := b)) (s := X) hb
 have run : ∀ b (X : St), b < X.stk.length → ∀ N T Lb, X.stk.length = N → X.tk.length = T → X.lp.length = Lb →
  itE (S80.b0 (E L) itE N Lb) [.ptr false b 0, .ptr false N 0, rr, .v (.int .i64 0)] ((X.af false b (pc ts l d)).app [⟨[.v (.int .i64 0), str []], []⟩] [] []) =
   if isT l [105, 110, 116] then some (.ret, [.ptr false b 0, .ptr false N 0, rr, .v (.int .i64 1)], (X.af false b (pc ts l.tail d)).app [⟨[.v (.int .i64 1), str []], []⟩] [] []) else
   if isT l [114, 101, 97, 108] then some (.ret, [.ptr false b 0, .ptr false N 0, rr, .v (.int .i64 2)], (X.af false b (pc ts l.tail d)).app [⟨[.v (.int .i64 2), str []], []⟩] [] []) else
   if isT l [105, 110, 116, 115] then some (.ret, [.ptr false b 0, .ptr false N 0, rr, .v (.int .i64 3)], (X.af false b (pc ts l.tail d)).app [⟨[.v (.int .i64 3), str []], []⟩] [] []) else
   some (.exit 0, [.ptr false b 0, .ptr false N 0, rr, .v (.int .i64 4)], (X.af false b (pc ts l d)).app [⟨[.v (.int .i64 0), str []], []⟩] [] []) := by
  intro b X hb N T Lb hN hT hL; have e1 := e68 b X hb [105, 110, 116]; have e2 := e68 b X hb [114, 101, 97, 108]; have e3 := e68 b X hb [105, 110, 116, 115]; rw [hN] at hb; simp only [pc, pcf] at e1 e2 e3 ⊢; have w1 : IntKind.i64.wrap 1 = 1 := rfl; have w2 : IntKind.i64.wrap 2 = 2 := rfl; have w3 : IntKind.i64.wrap 3 = 3 := rfl; have w4 : IntKind.i64.wrap 4 = 4 := rfl; rw [bW (vs' := [.ptr false b 0, .ptr false N 0, rr, .v (.int .i64 1)]) (st' := (X.af false b (pc ts l d)).app [⟨[.v (.int .i64 0), str []], []⟩] [] []) (by simp [S80.b0, pc, pcf, hN, hT, hL, hb, BI, w1, aX, cm, laid, aG])]
  cases h1 : isT l [105, 110, 116] with
  | true =>
   rw [h1] at e1; simp only [if_true] at e1 ⊢; exact eL (by simp [S80.b0, pc, pcf, hN, hT, hL, hb, xc, e1, aX, cm, laid, aG])
  | false =>
   rw [h1] at e1; simp only [ab, if_false] at e1 ⊢; rw [bW (vs' := [.ptr false b 0, .ptr false N 0, rr, .v (.int .i64 2)]) (st' := (X.af false b (pc ts l d)).app [⟨[.v (.int .i64 0), str []], []⟩] [] []) (by simp [S80.b0, pc, pcf, hN, hT, hL, hb, xc, e1, w2, aX, cm, laid, aG])]
   cases h2 : isT l [114, 101, 97, 108] with
   | true =>
    rw [h2] at e2; simp only [if_true] at e2 ⊢; exact eL (by simp [S80.b0, pc, pcf, hN, hT, hL, hb, xf, e2, aX, cm, laid, aG])
   | false =>
    rw [h2] at e2; simp only [ab, if_false] at e2 ⊢; rw [bW (vs' := [.ptr false b 0, .ptr false N 0, rr, .v (.int .i64 3)]) (st' := (X.af false b (pc ts l d)).app [⟨[.v (.int .i64 0), str []], []⟩] [] []) (by simp [S80.b0, pc, pcf, hN, hT, hL, hb, xf, e2, w3, aX, cm, laid, aG])]
    cases h3 : isT l [105, 110, 116, 115] with
    | true =>
     rw [h3] at e3; simp only [if_true] at e3 ⊢; exact eL (by simp [S80.b0, pc, pcf, hN, hT, hL, hb, xh, e3, aX, cm, laid, aG])
    | false =>
     rw [h3] at e3; simp only [ab, if_false] at e3 ⊢; rw [bW (vs' := [.ptr false b 0, .ptr false N 0, rr, .v (.int .i64 4)]) (st' := (X.af false b (pc ts l d)).app [⟨[.v (.int .i64 0), str []], []⟩] [] []) (by simp [S80.b0, pc, pcf, hN, hT, hL, hb, xh, e3, w4, aX, cm, laid, aG])]; exact hG (by simp [S80.b0, pc, pcf, hN, hT, hL, hb])
 have hk := gC hr h d 1; unfold yP
 cases h1 : isT l [105, 110, 116] with
 | true =>
  simp only [if_true]; refine ⟨h.isT hr h1, fun b X hb => ?_⟩; have e := run b X hb _ _ _ rfl rfl rfl; rw [h1] at e; rw [qb]; obtain ⟨N, T, Lb, hN, hT, hL⟩ := lens3 X; rw [hN] at hb; rw [hN] at e
  conv => lhs; rw [← aj (X.af false b (pc ts l d))]
  simp only [if_true, pc, pcf, hT, hL] at e ⊢; simp [S80, pcf, hN, hT, hL, hb, nJ, e, laid, aG]
 | false =>
  simp only [ab, if_false]
  cases h2 : isT l [114, 101, 97, 108] with
  | true =>
   simp only [if_true]; refine ⟨h.isT hr h2, fun b X hb => ?_⟩; have e := run b X hb _ _ _ rfl rfl rfl; rw [h1, h2] at e; rw [qb]; obtain ⟨N, T, Lb, hN, hT, hL⟩ := lens3 X; rw [hN] at hb; rw [hN] at e
   conv => lhs; rw [← aj (X.af false b (pc ts l d))]
   simp only [if_true, ab, if_false, pc, pcf, hT, hL] at e ⊢; simp [S80, pcf, hN, hT, hL, hb, nJ, e, laid, aG]
  | false =>
   simp only [ab, if_false]
   cases h3 : isT l [105, 110, 116, 115] with
   | true =>
    simp only [if_true]; refine ⟨h.isT hr h3, fun b X hb => ?_⟩; have e := run b X hb _ _ _ rfl rfl rfl; rw [h1, h2, h3] at e; rw [qb]; obtain ⟨N, T, Lb, hN, hT, hL⟩ := lens3 X; rw [hN] at hb; rw [hN] at e
    conv => lhs; rw [← aj (X.af false b (pc ts l d))]
    simp only [if_true, ab, if_false, pc, pcf, hT, hL] at e ⊢; simp [S80, pcf, hN, hT, hL, hb, nJ, e, laid, aG]
   | false =>
    simp only [ab, if_false]
    cases hx : eW 1 l with
    | ok u l' =>
     refine ⟨br hk hx, fun b X hb => ?_⟩; have e := run b X hb _ _ _ rfl rfl rfl; have ek := aJ hk hx hb; rw [h1, h2, h3] at e; rw [qb]; obtain ⟨N, T, Lb, hN, hT, hL⟩ := lens3 X; rw [hN] at hb; rw [hN] at e
     conv => lhs; rw [← aj (X.af false b (pc ts l d))]
     simp only [ab, if_false, pc, pcf, hT, hL, aI, Tok.c, bc, aa] at e ek ⊢; simp [S80, pcf, hN, hT, hL, hb, nJ, e, ek, mD, aX, cm, laid, aG, aK]
    | bad e0 q =>
     obtain ⟨a', d'', ek⟩ := bm hk hx; refine ⟨a', d'', fun b X hb => ?_⟩; have e := run b X hb _ _ _ rfl rfl rfl; have ek := ek hb; rw [h1, h2, h3] at e; rw [qb]; obtain ⟨N, T, Lb, hN, hT, hL⟩ := lens3 X; rw [hN] at hb; rw [hN] at e
     conv => lhs; rw [← aj (X.af false b (pc ts l d))]
     simp only [ab, if_false, pc, pcf, hT, hL, aa] at e ek ⊢; simp [S80, pcf, hN, hT, hL, hb, nJ, e, ek, aK]
theorem uh {ts l : List Tok} (hr : Row ts) (h : Sfx ts l) (d : Nat) : ∀ b (X : St), b < X.stk.length → E L (.func 120) [.ptr false b 0] (X.af false b (pc ts l d)) = some (.v (.string (gm l).1), X.af false b (pc ts (gm l).2 d)) := by
 intro b X hb; have e67 := ax (dF h d 0 0 0 (b := b)) hb; have e151 := ax (jX hr h d (b := b)) hb; unfold gm
 by_cases hk : (hd l).kind = 1
 · rw [if_pos hk]
   rw [wF]; obtain ⟨N, T, Lb, hN, hT, hL⟩ := lens3 X; rw [hN] at hb
   conv => lhs; rw [← aj (X.af false b (pc ts l d))]
   simp only [pc, pcf, Tok.c, bc, hk, aa] at e67 e151 ⊢; simp [CQ, pcf, hN, hT, hL, hb, e67, e151, rS, mD]
 · rw [if_neg hk]
   have hk' : ¬ (((hd l).kind : Int) = 1) := by omega
   rw [wF]; obtain ⟨N, T, Lb, hN, hT, hL⟩ := lens3 X; rw [hN] at hb
   conv => lhs; rw [← aj (X.af false b (pc ts l d))]
   simp only [pc, pcf, Tok.c, bc] at e67 ⊢; simp [CQ, pcf, hN, hT, hL, hb, e67, hk', rS, mD]
theorem cu {α β : Type} {y : PR α} {a : α} {l' : List Tok} {K : α → List Tok → Option (PR β)} {x : PR β} (hx : pb (some y) K = some x) (hy : y = .ok a l') : K a l' = some x := by subst hy; exact hx
theorem bF {α β : Type} {y : PR α} {e : Nat} {q : Nat × Nat} {K : α → List Tok → Option (PR β)} {x : PR β} (hx : pb (some y) K = some x) (hy : y = .bad e q) : x = .bad e q := by subst hy; exact (Option.some.inj hx).symm
theorem dq {α β : Type} {y : Option (PR α)} {K : α → List Tok → Option (PR β)} {x : PR β} (hx : pb y K = some x) : ∃ z, y = some z := by
 cases y with
 | none => cases hx
 | some z => exact ⟨z, rfl⟩
theorem qM {ts l : List Tok} (hr : Row ts) (h : Sfx ts l) (d : Nat) {x : PR Nm} (hx : np l = some x) : Rd 42 [] ts d d l gW x := by
 unfold np at hx; have h1 := gC hr h d 1
 cases x1 : eW 1 l with
 | bad e q =>
  obtain rfl := bF hx x1; obtain ⟨a', d'', e1⟩ := bm h1 x1; refine ⟨a', d'', fun b X hb => ?_⟩; have e1 := e1 hb; rw [sG]; obtain ⟨N, T, Lb, hN, hT, hL⟩ := lens3 X; rw [hN] at hb
  conv => lhs; rw [← aj (X.af false b (pc ts l d))]
  simp only [pc, pcf, aI, Tok.c, bc, aa, gW, gX] at e1 ⊢
  generalize aw ts = es at *
  simp [S42, hN, hT, hL, hb, e1]
 | ok t l1 =>
  have hx := cu hx x1; have s1 := br h1 x1; have h2 := eG hr s1 d [58]
  cases x2 : dt [58] l1 with
  | bad e q =>
   obtain rfl := bF hx x2; obtain ⟨a', d'', e2⟩ := bm h2 x2; refine ⟨a', d'', fun b X hb => ?_⟩; have e2 := e2 hb; have e1 := aJ h1 x1 hb; rw [sG]; obtain ⟨N, T, Lb, hN, hT, hL⟩ := lens3 X; rw [hN] at hb
   conv => lhs; rw [← aj (X.af false b (pc ts l d))]
   simp only [pc, pcf, aI, Tok.c, bc, aa, gW, gX] at e1 e2 ⊢
   generalize aw ts = es at *
   simp [S42, hN, hT, hL, hb, e1, e2]
  | ok u l2 =>
   have hx := cu hx x2; have s2 := br h2 x2; have h3 := DE hr s2 d
   cases x3 : yP l2 with
   | bad e q =>
    obtain rfl := bF hx x3; obtain ⟨a', d'', e3⟩ := bm h3 x3; refine ⟨a', d'', fun b X hb => ?_⟩; have e3 := e3 hb; have e1 := aJ h1 x1 hb; have e2 := aJ h2 x2 hb; rw [sG]; obtain ⟨N, T, Lb, hN, hT, hL⟩ := lens3 X; rw [hN] at hb
    conv => lhs; rw [← aj (X.af false b (pc ts l d))]
    simp only [pc, pcf, aI, Tok.c, bc, aa, gW, gX] at e1 e2 e3 ⊢
    generalize aw ts = es at *
    simp [S42, hN, hT, hL, hb, e1, e2, e3]
   | ok ty l3 =>
    obtain rfl := Option.some.inj (cu hx x3); refine ⟨br h3 x3, fun b X hb => ?_⟩; have e1 := aJ h1 x1 hb; have e2 := aJ h2 x2 hb; have e3 := aJ h3 x3 hb; rw [sG]; obtain ⟨N, T, Lb, hN, hT, hL⟩ := lens3 X; rw [hN] at hb
    conv => lhs; rw [← aj (X.af false b (pc ts l d))]
    simp only [pc, pcf, aI, Tok.c, bc, aa, gW, gX] at e1 e2 e3 ⊢
    generalize aw ts = es at *
    simp [S42, hN, hT, hL, hb, e1, e2, e3]
abbrev bU (x : X) : PV := .agg x.enc
abbrev z9 : List PV := [.v (.int .i64 0), .v (.int .i64 0), .v (.int .u64 0), .v (.int .i64 0), str [], str [], .sl [] .nil, .v (.int .i64 0), .v (.int .i64 0)]
theorem mr (x : X) : x.enc.take 9 = x.enc := List.take_of_length_le (by rw [X.len]; omega)
structure lF (ts : List Tok) (n : Nat) : Prop where
 atom : ∀ d l x, d ≤ 12 → Sfx ts l → qg n d l = some x → Rd 171 [] ts d d l bU x
 pre : ∀ d l x, d ≤ 12 → Sfx ts l → j0 n d l = some x → Rd 155 [] ts d d l bU x
 chain : ∀ lv d l x, lv ≤ 3 → d ≤ 12 → Sfx ts l → fK n lv d l = some x → Rd 137 [.v (.int .i64 (lv : Int))] ts d d l bU x
section
variable {ts : List Tok} (hr : Row ts) {n : Nat} (ih : lF ts n)
include hr ih
theorem jU {d : Nat} {l : List Tok} {x : PR X} (hd12 : d ≤ 12) (h : Sfx ts l) (hx : fK n 0 d l = some x) : Rd 119 [] ts d d l bU x := by
 have h1 := ih.chain 0 d l x (by omega) hd12 h hx
 cases x with
 | bad e q =>
  obtain ⟨a', d'', e1⟩ := bm h1 rfl; refine ⟨a', d'', fun b Y hb => ?_⟩; have e1 := e1 hb; rw [wE]; obtain ⟨N, T, Lb, hN, hT, hL⟩ := lens3 Y; rw [hN] at hb
  conv => lhs; rw [← aj (Y.af false b (pc ts l d))]
  simp only [pc, pcf, gZ] at e1 ⊢
  generalize aw ts = es at *
  simp [CP, hN, hT, hL, hb, e1]
 | ok a l' =>
  refine ⟨br h1 rfl, fun b Y hb => ?_⟩; have e1 := aJ h1 rfl hb; rw [wE]; obtain ⟨N, T, Lb, hN, hT, hL⟩ := lens3 Y; rw [hN] at hb
  conv => lhs; rw [← aj (Y.af false b (pc ts l d))]
  simp only [pc, pcf, bU, gZ] at e1 ⊢
  generalize aw ts = es at *
  simp [CP, hN, hT, hL, hb, e1, X.len, mr, X.okc, X.can, X.ke, X.fl, jd]
theorem Bb : ∀ d l x, d ≤ 12 → Sfx ts l → qg (n + 1) d l = some x → Rd 171 [] ts d d l bU x := by
 intro d l x hd12 h hx; have s1 := h.next hr
 have e151 := fun b (Y : St) hb => ax (jX hr h d (b := b)) (s := Y) hb
 simp only [qg] at hx
 by_cases k3 : (hd l).kind = 3
 · rw [if_pos k3] at hx
   obtain rfl := Option.some.inj hx; refine ⟨s1, fun b Y hb => ?_⟩; have e151 := e151 b Y hb; rw [gK]; obtain ⟨N, T, Lb, hN, hT, hL⟩ := lens3 Y; rw [hN] at hb
   conv => lhs; rw [← aj (Y.af false b (pc ts l d))]
   simp only [pc, pcf, bU, atX, Tok.c, bc, aa] at e151 ⊢
   generalize hd l = t at *
   generalize aw ts = es at *
   simp [mL, hN, hT, hL, hb, e151, k3, X.enc, eJ]
 rw [if_neg k3] at hx
 have k3' : ¬ (((hd l).kind : Int) = 3) := by omega
 by_cases k4 : (hd l).kind = 4
 · rw [if_pos k4] at hx
   obtain rfl := Option.some.inj hx; refine ⟨s1, fun b Y hb => ?_⟩; have e151 := e151 b Y hb; rw [gK]; obtain ⟨N, T, Lb, hN, hT, hL⟩ := lens3 Y; rw [hN] at hb
   conv => lhs; rw [← aj (Y.af false b (pc ts l d))]
   simp only [pc, pcf, bU, atX, Tok.c, bc, aa] at e151 ⊢
   generalize hd l = t at *
   generalize aw ts = es at *
   simp [mL, hN, hT, hL, hb, e151, k4, X.enc, eJ]
 rw [if_neg k4] at hx
 have k4' : ¬ (((hd l).kind : Int) = 4) := by omega
 by_cases k1 : (hd l).kind = 1
 · rw [if_pos k1] at hx
   obtain rfl := Option.some.inj hx; refine ⟨s1, fun b Y hb => ?_⟩; have e151 := e151 b Y hb; rw [gK]; obtain ⟨N, T, Lb, hN, hT, hL⟩ := lens3 Y; rw [hN] at hb
   conv => lhs; rw [← aj (Y.af false b (pc ts l d))]
   simp only [pc, pcf, bU, atX, Tok.c, bc, aa] at e151 ⊢
   generalize hd l = t at *
   generalize aw ts = es at *
   simp [mL, hN, hT, hL, hb, e151, k1, X.enc, eJ]
 rw [if_neg k1] at hx
 have k1' : ¬ (((hd l).kind : Int) = 1) := by omega
 by_cases ki : (hd l).kind = 2 ∧ (hd l).text = [105, 110, 112, 117, 116]
 · rw [if_pos ki] at hx
   obtain ⟨k2, kt⟩ := ki; have h1 := gC hr s1 d 3
   cases x1 : eW 3 (dJ l) with
   | bad e q =>
    simp only [x1, PR.map] at hx; obtain rfl := Option.some.inj hx; obtain ⟨a', d'', e1⟩ := bm h1 x1; refine ⟨a', d'', fun b Y hb => ?_⟩; have e1 := e1 hb; have e151 := e151 b Y hb; rw [gK]; obtain ⟨N, T, Lb, hN, hT, hL⟩ := lens3 Y; rw [hN] at hb
    conv => lhs; rw [← aj (Y.af false b (pc ts l d))]
    simp only [pc, pcf, bU, atX, Tok.c, bc, aa] at e151 e1 ⊢
    generalize hd l = t at *
    generalize aw ts = es at *
    simp [mL, hN, hT, hL, hb, e151, e1, k2, kt]
   | ok u l1 =>
    simp only [x1, PR.map] at hx; obtain rfl := Option.some.inj hx; refine ⟨br h1 x1, fun b Y hb => ?_⟩; have e1 := aJ h1 x1 hb; have e151 := e151 b Y hb; rw [gK]; obtain ⟨N, T, Lb, hN, hT, hL⟩ := lens3 Y; rw [hN] at hb
    conv => lhs; rw [← aj (Y.af false b (pc ts l d))]
    simp only [pc, pcf, bU, aI, atX, Tok.c, bc, aa] at e151 e1 ⊢
    generalize hd l = t at *
    generalize aw ts = es at *
    simp [mL, hN, hT, hL, hb, e151, e1, k2, kt, oK, X.enc, eJ]
 rw [if_neg ki] at hx
 by_cases kn : (hd l).kind = 2 ∧ (hd l).text = [110, 105, 108]
 · rw [if_pos kn] at hx
   obtain ⟨k2, kt⟩ := kn
   have e68 := fun b (Y : St) hb => ax (aB hr s1 d [105, 110, 116, 115] (b := b)) (s := Y) hb
   cases hi : isT (dJ l) [105, 110, 116, 115] with
   | true =>
    rw [hi] at hx e68; simp only [if_true] at hx e68; obtain rfl := Option.some.inj hx; refine ⟨s1.isT hr hi, fun b Y hb => ?_⟩; have e68 := e68 b Y hb; have e151 := e151 b Y hb; rw [gK]; obtain ⟨N, T, Lb, hN, hT, hL⟩ := lens3 Y; rw [hN] at hb
    conv => lhs; rw [← aj (Y.af false b (pc ts l d))]
    simp only [pc, pcf, bU, aI, atX, Tok.c, bc, aa] at e151 e68 ⊢
    generalize hd l = t at *
    generalize aw ts = es at *
    simp [mL, hN, hT, hL, hb, e151, e68, k2, kt, X.enc, eJ]
   | false =>
    rw [hi] at hx e68; simp only [ab, if_false] at hx e68; have h1 := gC hr s1 d 1
    cases x1 : eW 1 (dJ l) with
    | bad e q =>
     simp only [x1, PR.map] at hx; obtain rfl := Option.some.inj hx; obtain ⟨a', d'', e1⟩ := bm h1 x1; refine ⟨a', d'', fun b Y hb => ?_⟩; have e1 := e1 hb; have e68 := e68 b Y hb; have e151 := e151 b Y hb; rw [gK]; obtain ⟨N, T, Lb, hN, hT, hL⟩ := lens3 Y; rw [hN] at hb
     conv => lhs; rw [← aj (Y.af false b (pc ts l d))]
     simp only [pc, pcf, bU, atX, Tok.c, bc, aa] at e151 e68 e1 ⊢
     generalize hd l = t at *
     generalize aw ts = es at *
     simp [mL, hN, hT, hL, hb, e151, e68, e1, k2, kt]
    | ok u l1 =>
     simp only [x1, PR.map] at hx; obtain rfl := Option.some.inj hx; refine ⟨br h1 x1, fun b Y hb => ?_⟩; have e1 := aJ h1 x1 hb; have e68 := e68 b Y hb; have e151 := e151 b Y hb; rw [gK]; obtain ⟨N, T, Lb, hN, hT, hL⟩ := lens3 Y; rw [hN] at hb
     conv => lhs; rw [← aj (Y.af false b (pc ts l d))]
     simp only [pc, pcf, bU, aI, atX, Tok.c, bc, aa] at e151 e68 e1 ⊢
     generalize hd l = t at *
     generalize aw ts = es at *
     simp [mL, hN, hT, hL, hb, e151, e68, e1, k2, kt, mD, X.enc, eJ]
 rw [if_neg kn] at hx
 have ki' : (hd l).kind = 2 → (hd l).text ≠ [105, 110, 112, 117, 116] := fun a b => ki ⟨a, b⟩
 have kn' : (hd l).kind = 2 → (hd l).text ≠ [110, 105, 108] := fun a b => kn ⟨a, b⟩
 by_cases kp : (hd l).kind = 5 ∧ (hd l).text = [40]
 · rw [if_pos kp] at hx
   obtain ⟨k5, kt⟩ := kp; have h1 := sU s1 d (hd l) (by omega); unfold qt at hx
   by_cases hdd : 12 < d + 1
   · rw [if_pos hdd] at hx h1
     obtain rfl := Option.some.inj hx; obtain ⟨a', d'', e1⟩ := bm h1 rfl; refine ⟨a', d'', fun b Y hb => ?_⟩; have e1 := e1 hb; have e151 := e151 b Y hb; rw [gK]; obtain ⟨N, T, Lb, hN, hT, hL⟩ := lens3 Y; rw [hN] at hb
     conv => lhs; rw [← aj (Y.af false b (pc ts l d))]
     simp only [pc, pcf, bU, atX, Tok.c, bc, k5, kt, aa] at e151 e1 ⊢
     generalize hd l = t at *
     generalize aw ts = es at *
     simp [mL, hN, hT, hL, hb, e151, e1, k5, kt]
   · rw [if_neg hdd] at hx h1
     obtain ⟨y, hy⟩ := dq hx; rw [hy] at hx; have h2 := jU hr ih (d := d + 1) (by omega) s1 hy
     have w1 : IntKind.i64.wrap (((d + 1 : Nat) : Int) - 1) = (d : Int) := by rw [IntWalk.i64_in _ (by omega)]; omega
     cases y with
     | bad e q =>
      obtain rfl := bF hx rfl; obtain ⟨a', d'', e2⟩ := bm h2 rfl; refine ⟨a', d'', fun b Y hb => ?_⟩; have e2 := e2 hb; have e1 := aJ h1 rfl hb; have e151 := e151 b Y hb; rw [gK]; obtain ⟨N, T, Lb, hN, hT, hL⟩ := lens3 Y; rw [hN] at hb
      conv => lhs; rw [← aj (Y.af false b (pc ts l d))]
      simp only [pc, pcf, bU, atX, Tok.c, bc, k5, kt, aa] at e151 e1 e2 ⊢
      generalize ((d + 1 : Nat) : Int) = d1 at *
      generalize hd l = t at *
      generalize aw ts = es at *
      simp [mL, hN, hT, hL, hb, e151, e1, e2, k5, kt]
     | ok v l1 =>
      have hx := cu hx rfl; have s2 := br h2 rfl; have h3 := eG hr s2 (d + 1) [41]
      cases x3 : dt [41] l1 with
      | bad e q =>
       obtain rfl := bF hx x3; obtain ⟨a', d'', e3⟩ := bm h3 x3; refine ⟨a', d'', fun b Y hb => ?_⟩; have e3 := e3 hb; have e2 := aJ h2 rfl hb; have e1 := aJ h1 rfl hb; have e151 := e151 b Y hb; rw [gK]; obtain ⟨N, T, Lb, hN, hT, hL⟩ := lens3 Y; rw [hN] at hb
       conv => lhs; rw [← aj (Y.af false b (pc ts l d))]
       simp only [pc, pcf, bU, aI, atX, Tok.c, bc, k5, kt, aa] at e151 e1 e2 e3 ⊢
       generalize ((d + 1 : Nat) : Int) = d1 at *
       generalize hd l = t at *
       generalize aw ts = es at *
       simp [mL, hN, hT, hL, hb, e151, e1, e2, e3, k5, kt, X.len, mr, X.okc, X.can, jd]
      | ok u l2 =>
       obtain rfl := Option.some.inj (cu hx x3); refine ⟨br h3 x3, fun b Y hb => ?_⟩; have e3 := aJ h3 x3 hb; have e2 := aJ h2 rfl hb; have e1 := aJ h1 rfl hb; have e151 := e151 b Y hb; rw [gK]; obtain ⟨N, T, Lb, hN, hT, hL⟩ := lens3 Y; rw [hN] at hb
       conv => lhs; rw [← aj (Y.af false b (pc ts l d))]
       simp only [pc, pcf, bU, aI, atX, Tok.c, bc, k5, kt, aa] at e151 e1 e2 e3 ⊢
       generalize ((d + 1 : Nat) : Int) = d1 at *
       generalize hd l = t at *
       generalize aw ts = es at *
       simp [mL, hN, hT, hL, hb, e151, e1, e2, e3, k5, kt, w1, X.len, mr, X.okc, X.can, X.ke, X.fl, jd]
 rw [if_neg kp] at hx; obtain rfl := Option.some.inj hx; refine ⟨pcA ts (dJ l), d, fun b Y hb => ?_⟩; have e74 := ax (mC (aw ts) (pcA ts (dJ l)) d 4 (hd l) (b := b)) hb; have e151 := e151 b Y hb; rw [gK]; obtain ⟨N, T, Lb, hN, hT, hL⟩ := lens3 Y; rw [hN] at hb
 conv => lhs; rw [← aj (Y.af false b (pc ts l d))]
 by_cases k2 : (hd l).kind = 2
 · have ki := ki' k2
   have kn := kn' k2; simp only [pc, pcf, bU, atX, Tok.c, bc, k2, aa] at e151 e74 ⊢
   generalize hd l = t at *
   generalize aw ts = es at *
   simp [mL, hN, hT, hL, hb, e151, e74, k2, ki, kn]
 · have k2' : ¬ (((hd l).kind : Int) = 2) := by omega
   by_cases k5 : (hd l).kind = 5
   · have kt : (hd l).text ≠ [40] := fun a => kp ⟨k5, a⟩
     simp only [pc, pcf, bU, atX, Tok.c, bc, k5, aa] at e151 e74 ⊢
     generalize hd l = t at *
     generalize aw ts = es at *
     simp [mL, hN, hT, hL, hb, e151, e74, k5, kt]
   · have k5' : ¬ (((hd l).kind : Int) = 5) := by omega
     simp only [pc, pcf, bU, atX, Tok.c, bc, aa] at e151 e74 ⊢
     generalize hd l = t at *
     generalize aw ts = es at *
     simp [mL, hN, hT, hL, hb, e151, e74, k1, k1', k2, k2', k3, k3', k4, k4', k5, k5']
end
section
variable {ts : List Tok} (hr : Row ts) {n : Nat} (ih : lF ts n)
include hr ih
theorem Du : ∀ d l x, d ≤ 12 → Sfx ts l → j0 (n + 1) d l = some x → Rd 155 [] ts d d l bU x := by
 intro d l x hd12 h hx; have s1 := h.next hr
 have e67 := fun b (Y : St) hb => ax (dF h d 0 0 0 (b := b)) (s := Y) hb
 have e151 := fun b (Y : St) hb => ax (jX hr h d (b := b)) (s := Y) hb
 simp only [j0] at hx
 by_cases hw : (hd l).kind = 2 ∨ (hd l).kind = 5
 · have e197 : ∀ Z, E L (.func 170) [str (hd l).text] Z = some (.v (.int .i64 (iu (hd l))), Z) := fun Z => by
    rw [AH, iu, if_pos hw]
   by_cases hu : iu (hd l) = 0
   · rw [if_pos hu] at hx
     have h1 := ih.atom d l x hd12 h hx; rw [hu] at e197
     cases x with
     | bad e q =>
      obtain ⟨a', d'', e1⟩ := bm h1 rfl; refine ⟨a', d'', fun b Y hb => ?_⟩; have e1 := e1 hb; have e67 := e67 b Y hb; rw [kT]; obtain ⟨N, T, Lb, hN, hT, hL⟩ := lens3 Y; rw [hN] at hb
      conv => lhs; rw [← aj (Y.af false b (pc ts l d))]
      rcases hw with k | k
      · simp only [pc, pcf, bU, Tok.c, bc, k, aa] at e67 e1 ⊢
        generalize hd l = t at *
        generalize aw ts = es at *
        simp [oD, hN, hT, hL, hb, e67, e1, e197]
      · simp only [pc, pcf, bU, Tok.c, bc, k, aa] at e67 e1 ⊢
        generalize hd l = t at *
        generalize aw ts = es at *
        simp [oD, hN, hT, hL, hb, e67, e1, e197]
     | ok v l1 =>
      refine ⟨br h1 rfl, fun b Y hb => ?_⟩; have e1 := aJ h1 rfl hb; have e67 := e67 b Y hb; rw [kT]; obtain ⟨N, T, Lb, hN, hT, hL⟩ := lens3 Y; rw [hN] at hb
      conv => lhs; rw [← aj (Y.af false b (pc ts l d))]
      rcases hw with k | k
      · simp only [pc, pcf, bU, Tok.c, bc, k, aa] at e67 e1 ⊢
        generalize hd l = t at *
        generalize aw ts = es at *
        simp [oD, hN, hT, hL, hb, e67, e1, e197, X.len, mr, X.okc, X.can, X.ke, X.fl, jd]
      · simp only [pc, pcf, bU, Tok.c, bc, k, aa] at e67 e1 ⊢
        generalize hd l = t at *
        generalize aw ts = es at *
        simp [oD, hN, hT, hL, hb, e67, e1, e197, X.len, mr, X.okc, X.can, X.ke, X.fl, jd]
   · rw [if_neg hu] at hx
     have h1 := sU s1 d (hd l) (by omega); unfold qt at hx
     by_cases hdd : 12 < d + 1
     · rw [if_pos hdd] at hx h1
       obtain rfl := Option.some.inj hx; obtain ⟨a', d'', e1⟩ := bm h1 rfl; refine ⟨a', d'', fun b Y hb => ?_⟩; have e1 := e1 hb; have e67 := e67 b Y hb; have e151 := e151 b Y hb; rw [kT]; obtain ⟨N, T, Lb, hN, hT, hL⟩ := lens3 Y; rw [hN] at hb
       conv => lhs; rw [← aj (Y.af false b (pc ts l d))]
       rcases hw with k | k
       · simp only [pc, pcf, bU, Tok.c, bc, k, aa] at e67 e151 e1 ⊢
         generalize iu (hd l) = u at *
         generalize hd l = t at *
         generalize aw ts = es at *
         simp [oD, hN, hT, hL, hb, e67, e151, e1, e197, hu]
       · simp only [pc, pcf, bU, Tok.c, bc, k, aa] at e67 e151 e1 ⊢
         generalize iu (hd l) = u at *
         generalize hd l = t at *
         generalize aw ts = es at *
         simp [oD, hN, hT, hL, hb, e67, e151, e1, e197, hu]
     · rw [if_neg hdd] at hx h1
       obtain ⟨y, hy⟩ := dq hx; rw [hy] at hx; have h2 := ih.pre (d + 1) (dJ l) y (by omega) s1 hy
       have w1 : IntKind.i64.wrap (((d + 1 : Nat) : Int) - 1) = (d : Int) := by rw [IntWalk.i64_in _ (by omega)]; omega
       cases y with
       | bad e q =>
        obtain rfl := bF hx rfl; obtain ⟨a', d'', e2⟩ := bm h2 rfl; refine ⟨a', d'', fun b Y hb => ?_⟩; have e2 := e2 hb; have e1 := aJ h1 rfl hb; have e67 := e67 b Y hb; have e151 := e151 b Y hb; rw [kT]; obtain ⟨N, T, Lb, hN, hT, hL⟩ := lens3 Y; rw [hN] at hb
        conv => lhs; rw [← aj (Y.af false b (pc ts l d))]
        rcases hw with k | k
        · simp only [pc, pcf, bU, Tok.c, bc, k, aa] at e67 e151 e1 e2 ⊢
          generalize ((d + 1 : Nat) : Int) = d1 at *
          generalize iu (hd l) = u at *
          generalize hd l = t at *
          generalize aw ts = es at *
          simp [oD, hN, hT, hL, hb, e67, e151, e1, e2, e197, hu]
        · simp only [pc, pcf, bU, Tok.c, bc, k, aa] at e67 e151 e1 e2 ⊢
          generalize ((d + 1 : Nat) : Int) = d1 at *
          generalize iu (hd l) = u at *
          generalize hd l = t at *
          generalize aw ts = es at *
          simp [oD, hN, hT, hL, hb, e67, e151, e1, e2, e197, hu]
       | ok v l1 =>
        obtain rfl := Option.some.inj (cu hx rfl); refine ⟨br h2 rfl, fun b Y hb => ?_⟩; have e2 := aJ h2 rfl hb; have e1 := aJ h1 rfl hb; have e67 := e67 b Y hb; have e151 := e151 b Y hb; rw [kT]; obtain ⟨N, T, Lb, hN, hT, hL⟩ := lens3 Y; rw [hN] at hb
        conv => lhs; rw [← aj (Y.af false b (pc ts l d))]
        rcases hw with k | k
        · simp only [pc, pcf, bU, Tok.c, bc, k, aa] at e67 e151 e1 e2 ⊢
          generalize ((d + 1 : Nat) : Int) = d1 at *
          generalize iu (hd l) = u at *
          generalize hd l = t at *
          generalize aw ts = es at *
          simp [oD, hN, hT, hL, hb, e67, e151, e1, e2, e197, hu, w1, bj, jI, fV, AM.cC, AM.eN, chunks, X.len, mr, X.okc, X.can, X.ke, X.fl, X.pl, X.enc, eJ, jd]
        · simp only [pc, pcf, bU, Tok.c, bc, k, aa] at e67 e151 e1 e2 ⊢
          generalize ((d + 1 : Nat) : Int) = d1 at *
          generalize iu (hd l) = u at *
          generalize hd l = t at *
          generalize aw ts = es at *
          simp [oD, hN, hT, hL, hb, e67, e151, e1, e2, e197, hu, w1, bj, jI, fV, AM.cC, AM.eN, chunks, X.len, mr, X.okc, X.can, X.ke, X.fl, X.pl, X.enc, eJ, jd]
 · have hu : iu (hd l) = 0 := by rw [iu, if_neg hw]
   rw [if_pos hu] at hx; have h1 := ih.atom d l x hd12 h hx
   have k2 : ¬ (((hd l).kind : Int) = 2) := by omega
   have k5 : ¬ (((hd l).kind : Int) = 5) := by omega
   have k2' : ¬ ((hd l).kind = 2) := by omega
   have k5' : ¬ ((hd l).kind = 5) := by omega
   cases x with
   | bad e q =>
    obtain ⟨a', d'', e1⟩ := bm h1 rfl; refine ⟨a', d'', fun b Y hb => ?_⟩; have e1 := e1 hb; have e67 := e67 b Y hb; rw [kT]; obtain ⟨N, T, Lb, hN, hT, hL⟩ := lens3 Y; rw [hN] at hb
    conv => lhs; rw [← aj (Y.af false b (pc ts l d))]
    simp only [pc, pcf, bU, Tok.c, bc, aa] at e67 e1 ⊢
    generalize hd l = t at *
    generalize aw ts = es at *
    simp [oD, hN, hT, hL, hb, e67, e1, k2, k5, k2', k5']
   | ok v l1 =>
    refine ⟨br h1 rfl, fun b Y hb => ?_⟩; have e1 := aJ h1 rfl hb; have e67 := e67 b Y hb; rw [kT]; obtain ⟨N, T, Lb, hN, hT, hL⟩ := lens3 Y; rw [hN] at hb
    conv => lhs; rw [← aj (Y.af false b (pc ts l d))]
    simp only [pc, pcf, bU, Tok.c, bc, aa] at e67 e1 ⊢
    generalize hd l = t at *
    generalize aw ts = es at *
    simp [oD, hN, hT, hL, hb, e67, e1, k2, k5, k2', k5', X.len, mr, X.okc, X.can, X.ke, X.fl, jd]
end
end Go.Proofs.YtlhlijaondmccaaDoor.S
namespace Go.Proofs.YtlhlijaondmccaaDoor.S
open Go Go.AM Go.Proofs
theorem im {b : List PV → St → Option (Ex × List PV × St)} {vs vs' : List PV} {st st' : St} {t : TypeId} {v : Value} (h : b vs st = some (.pan t v, vs', st')) : itE b vs st = some (.pan t v, vs', st') := by
 rw [qA, h]; rfl
theorem oh {P : Program} {cst : Bool} {t : TypeId} {a b : List UInt8} (h : a.length + b.length < 4611686018427387904) : aT P cst .add t (str a) (str b) = some (str (a ++ b)) := by
 rw [pX _ _ _ _ _ (by rw [cf, cf]; omega), mz]
theorem pD : ∀ {l m l' m' : List PV}, cC l = some l' → cC m = some m' → cC (l ++ m) = some (l' ++ m')
 | [], m, l', m', hl, hm => by obtain rfl := Option.some.inj hl; exact hm
 | a :: l, m, l', m', hl, hm => by
  simp only [cC] at hl
  cases ha : eN a with
  | none => rw [ha] at hl; cases hl
  | some a' =>
   rw [ha] at hl
   cases hl' : cC l with
   | none => rw [hl'] at hl; cases hl
   | some l2 =>
    rw [hl'] at hl; obtain rfl := Option.some.inj hl; simp only [aR, cC, ha, pD hl' hm, ag]
theorem Cn {sz : Nat} {z cs ds cs' ds' : List PV} (hz : z.length = sz) (hc : cs.length = sz) (hd : ds.length = sz) (hp : cC cs = some cs') (hq : cC ds = some ds') (hc' : cs'.length = sz) (hd' : ds'.length = sz) : bj sz z 2 [(0, .agg cs), (1, .agg ds)] = some (.sl [cs', ds'] .full) := by
 have h1 : laid (fV 2 z) 0 cs = cs ++ z := by
  have := laidB [] z z cs (by omega); simpa [fV] using this
 have h1' : laid (cs ++ z) sz ds = cs ++ ds := by
  have := laidB cs z [] ds (by omega); simpa [hc] using this
 have h2 : di (0 + sz) (fV 2 z).length = true := by simp [fV, hz]
 have h2' : di (1 * sz + sz) (cs ++ z).length = true := by simp [hz, hc]
 have h3 : ai cs.length sz = true := by rw [hc]; exact Nat.beq_refl _
 have h3' : ai ds.length sz = true := by rw [hd]; exact Nat.beq_refl _
 simp only [bj, jI, cm, AM.cellsOf, h3, Nat.zero_mul, h2, h3', bn, cond_true, h1, ag, Nat.one_mul] at h2' ⊢; simp only [h2', h1', bn, cond_true, cm, ag, pD hp hq, chunks]; rw [List.take_append_of_le_length (by omega), List.take_of_length_le (by omega), List.drop_append_of_le_length (by omega), List.drop_of_length_le (by omega)]; simp [List.take_of_length_le, hd']
attribute [local simp] cV cy bR bS cz eY fk ef db ec cZ ed da fj bT gQ dV gR gL gG AM.ae aP aQ ba aO aD AM.onG fJ cd ep Ex.bf cond_true cond_false cR cQ cP cO cN cT cM cU cS eg dc de cx cW AM.dj AM.cellsOf AM.av bP beq_true cK ak aA aZ bx bQ decide_true decide_false bI bA bn bz aY aC ay bu aR cX cY fg az bH bw bN cv dU dZ cG eu et set_set eB dy fG dz cF bC dx dw cE dv eA eC fA fB bD cf en fw dN aK aS aE AM.aV ah cL bL bq aW aN aM AM.part bg aL bY cc bZ bX bX.eK AM.dL bB cq dG fv aK laid aG aX cm
attribute [-simp] ag
attribute [local congr] dH
def X.jv (x : X) (c : Cap) : List PV := [.v (.int .i64 x.op), .v (.int .i64 x.bin), .v (.int .u64 x.n), .v (.int .i64 x.kd), .v (.string x.rc), .v (.string x.name), .sl (eJ x.kids) c, .v (.int .i64 x.line), .v (.int .i64 x.col)]
theorem xV (x : X) (c : Cap) : laid z9 0 (x.jv c) = x.jv c := jd _ _ rfl
theorem oH (x : X) : laid z9 0 x.enc = x.enc := jd _ _ (X.len x).symm
theorem rP (x : X) (c : Cap) (a0 a1 a2 a3 a4 a5 a6 a7 a8 : PV) : (((((((((x.jv c).set 0 a0).set 1 a1).set 2 a2).set 3 a3).set 4 a4).set 5 a5).set 6 a6).set 7 a7).set 8 a8 = [a0, a1, a2, a3, a4, a5, a6, a7, a8] := rfl
abbrev AW (c : Cap) : Prop := c = .dead ∨ c = .full
theorem rO (x : X) : x.jv .dead = x.enc := by rw [X.dW]; rfl
theorem iI (x : X) (c : Cap) : (x.jv c).length = 9 := rfl
theorem jk (x : X) (c : Cap) : (x.jv c).take 9 = x.jv c := rfl
theorem kB (x : X) (c : Cap) : aG (x.jv c) = true := rfl
theorem wT (x : X) (c : Cap) : cC (x.jv c) = some x.enc := by rw [X.dW]; rfl
theorem Bw (x : X) (c : Cap) : (x.jv c).all dL = true := rfl
theorem xU (x : X) (c : Cap) : (x.jv c).map bL = x.enc := by rw [X.dW]; rfl
theorem sW (x : X) {c : Cap} (hc : AW c) (m : Nat) : (x.jv c).all (sf true m 4) = true := by rcases hc with rfl | rfl <;> rfl
abbrev mkB (e k : X) (b : Int) (t : Tok) : X := ⟨9, b, 0, 0, bs [], bs [], [e, k], t.p.1, t.p.2⟩
theorem zs (e k : X) (b : Int) (t : Tok) (c : Cap) : (mkB e k b t).jv c = [.v (.int .i64 9), .v (.int .i64 b), .v (.int .u64 0), .v (.int .i64 0), str [], str [], .sl [e.enc, k.enc] c, .v (.int .i64 (t.p.1 : Int)), .v (.int .i64 (t.p.2 : Int))] := by
 simp only [X.jv, mkB, X.op, X.bin, X.n, X.kd, X.rc, X.name, X.kids, X.line, X.col, eJ]
def wC (ts : List Tok) (lv d : Nat) (e : X) (l : List Tok) (x : PR X) : Prop := match x with
 | .ok a l' => Sfx ts l' ∧ ∀ b (Y : St), b < Y.stk.length → ∀ N T Lb, Y.stk.length = N → Y.tk.length = T → Y.lp.length = Lb → ∀ c, AW c → ∃ c1 c2,
  itE (mK.b0 (E L) itE N Lb) [.ptr false b 0, .v (.int .i64 (lv : Int)), .ptr false N 0, .ptr false (N + 1) 0] ((Y.af false b (pc ts l d)).app [⟨z9, []⟩, ⟨e.jv c, []⟩] [] []) =
   some (.ret, [.ptr false b 0, .v (.int .i64 (lv : Int)), .ptr false N 0, .ptr false (N + 1) 0], (Y.af false b (pc ts l' d)).app [⟨a.jv c2, []⟩, ⟨c1, []⟩] [] [])
 | .bad er q => ∃ a' d'', ∀ b (Y : St), b < Y.stk.length → ∀ N T Lb, Y.stk.length = N → Y.tk.length = T → Y.lp.length = Lb → ∀ c, AW c → ∃ c1 c2,
  itE (mK.b0 (E L) itE N Lb) [.ptr false b 0, .v (.int .i64 (lv : Int)), .ptr false N 0, .ptr false (N + 1) 0] ((Y.af false b (pc ts l d)).app [⟨z9, []⟩, ⟨e.jv c, []⟩] [] []) =
   some (.pan 92 (.agg #[]), [.ptr false b 0, .v (.int .i64 (lv : Int)), .ptr false N 0, .ptr false (N + 1) 0], (Y.af false b (pcf (aw ts) a' d'' er q.1 q.2)).app [⟨c1, []⟩, ⟨c2, []⟩] [] [])
section
variable {ts : List Tok} (hr : Row ts) {n : Nat} (ih : lF ts n)
include hr ih
theorem B4 (ihr : ∀ lv d e l x, lv < 3 → d ≤ 12 → Sfx ts l → mP n lv d e l = some x → wC ts lv d e l x) : ∀ lv d e l x, lv < 3 → d ≤ 12 → Sfx ts l → mP (n + 1) lv d e l = some x → wC ts lv d e l x := by
 intro lv d e l x hlv hd12 h hx; have elz := xV e; have s1 := h.next hr
 have e67 := fun b (Y : St) hb => ax (dF h d 0 0 0 (b := b)) (s := Y) hb
 have e151 := fun b (Y : St) hb => ax (jX hr h d (b := b)) (s := Y) hb
 have e188 := Ar lv hlv
 have hmem : hd l ∈ ts := by
  obtain ⟨t, r, rfl⟩ := h.cons; obtain ⟨_, dn, rfl⟩ := h; simp [hd]
 have htx := hr.txt _ hmem
 have sg1 : aT Tryd.prog true .add 9 (str [32]) (str (hd l).text) = some (str (32 :: (hd l).text)) := by
  rw [oh (by simp only [bE]; omega)]; rfl
 have sg2 : aT Tryd.prog true .add 9 (str (32 :: (hd l).text)) (str [32]) = some (str (32 :: ((hd l).text ++ [32]))) := by
  rw [oh (by simp only [bE, ak, aA]; omega)]; rfl
 have e189 := De (hd l).text; simp only [mP] at hx
 by_cases k5 : (hd l).kind = 5
 · have e169 : ∀ Z, E L (.func 133) [str (32 :: hR (gA lv)), str (32 :: ((hd l).text ++ [32]))] Z = some (.v (.bool ((gA lv).contains (hd l).text)), Z) := fun Z => by
    rw [sA (by
     obtain rfl | rfl | rfl : lv = 0 ∨ lv = 1 ∨ lv = 2 := by omega
     all_goals simp [gA, hR]), yy (hr.sign _ hmem k5)]
   cases hc0 : (gA lv).contains (hd l).text with
   | false =>
    rw [hc0] at e169; rw [o5, if_neg (by rw [hc0]; simp)] at hx; obtain rfl := Option.some.inj hx; refine ⟨h, fun b Y hb N T Lb hN hT hL c hc => ⟨e.jv c, c, ?_⟩⟩; have e67 := e67 b Y hb
    have hb2 : b < N + 2 := by omega
    have hsf := sW e hc; simp only [pc, pcf, bU, Tok.c, bc, k5, aa] at e67 ⊢
    generalize hR (gA lv) = sg at *
    generalize hd l = t at *
    generalize aw ts = es at *
    apply eL; simp [mK.b0, hN, hT, hL, hb, hb2, elz, e67, e188, sg1, sg2, e169, iI, jk, kB, hsf, jd, eQ, eY]
   | true =>
    rw [hc0] at e169; rw [o5, if_pos ⟨k5, hc0⟩] at hx; simp only at hx; obtain ⟨y, hy⟩ := dq hx; rw [hy] at hx; have h1 := ih.chain (lv + 1) d (dJ l) y (by omega) hd12 s1 hy
    have w1 : IntKind.i64.wrap ((lv : Int) + 1) = ((lv + 1 : Nat) : Int) := by rw [IntWalk.i64_in _ (by omega)]; omega
    cases y with
    | bad er q =>
     obtain rfl := bF hx rfl; obtain ⟨a', d'', e1⟩ := bm h1 rfl; refine ⟨a', d'', fun b Y hb N T Lb hN hT hL c hc => ⟨z9, e.jv c, ?_⟩⟩; have e1 := e1 hb; have e67 := e67 b Y hb; have e151 := e151 b Y hb
     have hb2 : b < N + 2 := by omega
     have hsf := sW e hc; simp only [pc, pcf, bU, Tok.c, bc, k5, aa] at e67 e151 e1 ⊢
     generalize ((lv + 1 : Nat) : Int) = lv1 at *
     generalize hR (gA lv) = sg at *
     generalize tU (hd l).text = bt at *
     generalize hd l = t at *
     generalize aw ts = es at *
     apply im; simp [mK.b0, hN, hT, hL, hb, hb2, elz, e67, e151, e188, e189, e1, sg1, sg2, e169, w1, iI, jk, kB, hsf, jd, eQ, eY]
    | ok k l1 =>
     have hx := cu hx rfl; have s2 := br h1 rfl
     by_cases h0 : lv = 0
     · subst h0
       simp only [if_true] at hx; obtain rfl := Option.some.inj hx; refine ⟨s2, fun b Y hb N T Lb hN hT hL c hc => ⟨(mkB e k (tU (hd l).text) (hd l)).jv .full, .full, ?_⟩⟩; have e1 := aJ h1 rfl hb; have e67 := e67 b Y hb; have e151 := e151 b Y hb
       have hb2 : b < N + 2 := by omega
       have hl2 := Cn (sz := 9) (z := z9) rfl (iI e c) (X.len k) (wT e c) (X.pl k) (X.len e) (X.len k); simp only [pc, pcf, bU, zs, Tok.c, bc, k5, gZ, aa] at e67 e151 e1 e188 w1 ⊢
       generalize ((0 + 1 : Nat) : Int) = lv1 at *
       generalize hR (gA 0) = sg at *
       generalize tU (hd l).text = bt at *
       generalize hd l = t at *
       generalize aw ts = es at *
       apply eL; simp only [Int.zero_add] at w1; simp [mK.b0, hN, hT, hL, hb, hb2, elz, e67, e151, e188, e189, e1, sg1, sg2, e169, w1, rP, hl2, iI, jk, kB, jd, eQ, eY]
     · rw [if_neg h0] at hx
       have h2 := ihr lv d _ l1 x hlv hd12 s2 hx
       have h0' : ¬ ((lv : Int) = 0) := by omega
       have stp : ∀ b (Y : St), b < Y.stk.length → ∀ N T Lb, Y.stk.length = N → Y.tk.length = T → Y.lp.length = Lb → ∀ c, AW c →
        mK.b0 (E L) itE N Lb [.ptr false b 0, .v (.int .i64 (lv : Int)), .ptr false N 0, .ptr false (N + 1) 0] ((Y.af false b (pc ts l d)).app [⟨z9, []⟩, ⟨e.jv c, []⟩] [] []) =
         some (.normal, [.ptr false b 0, .v (.int .i64 (lv : Int)), .ptr false N 0, .ptr false (N + 1) 0], (Y.af false b (pc ts l1 d)).app [⟨z9, []⟩, ⟨(mkB e k (tU (hd l).text) (hd l)).jv .full, []⟩] [] []) := by
        intro b Y hb N T Lb hN hT hL c hc; have e1 := aJ h1 rfl hb; have e67 := e67 b Y hb; have e151 := e151 b Y hb
        have hb2 : b < N + 2 := by omega
        have hl2 := Cn (sz := 9) (z := z9) rfl (iI e c) (X.len k) (wT e c) (X.pl k) (X.len e) (X.len k); simp only [pc, pcf, bU, zs, Tok.c, bc, k5, aa] at e67 e151 e1 ⊢
        generalize ((lv + 1 : Nat) : Int) = lv1 at *
        generalize hR (gA lv) = sg at *
        generalize tU (hd l).text = bt at *
        generalize hd l = t at *
        generalize aw ts = es at *
        simp [mK.b0, hN, hT, hL, hb, hb2, elz, e67, e151, e188, e189, e1, sg1, sg2, e169, w1, h0, h0', rP, hl2, iI, jk, kB, jd, eQ, eY]
       cases x with
       | ok a l2 =>
        refine ⟨h2.1, fun b Y hb N T Lb hN hT hL c hc => ?_⟩; obtain ⟨c1, c2, hit⟩ := h2.2 b Y hb N T Lb hN hT hL .full (.inr rfl); exact ⟨c1, c2, (bW (stp b Y hb N T Lb hN hT hL c hc)).trans hit⟩
       | bad er q =>
        obtain ⟨a', d'', h2⟩ := h2; refine ⟨a', d'', fun b Y hb N T Lb hN hT hL c hc => ?_⟩; obtain ⟨c1, c2, hit⟩ := h2 b Y hb N T Lb hN hT hL .full (.inr rfl); exact ⟨c1, c2, (bW (stp b Y hb N T Lb hN hT hL c hc)).trans hit⟩
 · rw [o5, if_neg (fun q => k5 q.1)] at hx
   obtain rfl := Option.some.inj hx; refine ⟨h, fun b Y hb N T Lb hN hT hL c hc => ⟨e.jv c, c, ?_⟩⟩; have e67 := e67 b Y hb
   have hb2 : b < N + 2 := by omega
   have hsf := sW e hc
   have k5' : ¬ (((hd l).kind : Int) = 5) := by omega
   simp only [pc, pcf, bU, Tok.c, bc, aa] at e67 ⊢
   generalize hd l = t at *
   generalize aw ts = es at *
   apply eL; simp [mK.b0, hN, hT, hL, hb, hb2, elz, e67, k5, k5', iI, jk, kB, hsf, jd, eQ, eY]
end
end Go.Proofs.YtlhlijaondmccaaDoor.S
namespace Go.Proofs.YtlhlijaondmccaaDoor.S
open Go Go.AM Go.Proofs
attribute [local simp] cV cy bR bS cz eY fk ef db ec cZ ed da fj bT gQ dV gR gL gG AM.ae aP aQ ba aO aD AM.onG fJ cd ep Ex.bf cond_true cond_false cR cQ cP cO cN cT cM cU cS eg dc de cx cW AM.dj AM.cellsOf AM.av bP beq_true cK ak aA aZ bx bQ decide_true decide_false bI bA bn bz aY aC ay bu aR cX cY fg az bH bw bN cv dU dZ cG eu et set_set eB dy fG dz cF bC dx dw cE dv eA eC fA fB bD cf en fw dN aK aS aE AM.aV ah cL bL bq aW aN aM AM.part bg aL bY cc bZ bX bX.eK AM.dL bB cq dG fv aK laid aG aX cm
attribute [-simp] ag
attribute [local congr] dH
section
variable {ts : List Tok} (hr : Row ts) {n : Nat} (ih : lF ts n)
include hr ih
theorem zn (ihr : ∀ lv d e l x, lv < 3 → d ≤ 12 → Sfx ts l → mP n lv d e l = some x → wC ts lv d e l x) : ∀ lv d l x, lv ≤ 3 → d ≤ 12 → Sfx ts l → fK (n + 1) lv d l = some x → Rd 137 [.v (.int .i64 (lv : Int))] ts d d l bU x := by
 intro lv d l x hlv hd12 h hx; simp only [fK] at hx
 by_cases k3 : lv = 3
 · subst k3
   rw [if_pos rfl] at hx; have h1 := ih.pre d l x hd12 h hx
   cases x with
   | bad er q =>
    obtain ⟨a', d'', e1⟩ := bm h1 rfl; refine ⟨a', d'', fun b Y hb => ?_⟩; have e1 := e1 hb; rw [nD]; obtain ⟨N, T, Lb, hN, hT, hL⟩ := lens3 Y; rw [hN] at hb
    conv => lhs; rw [← aj (Y.af false b (pc ts l d))]
    simp only [pc, pcf, bU, aa] at e1 ⊢
    generalize aw ts = es at *
    simp [mK, hN, hT, hL, hb, e1]
   | ok a l' =>
    refine ⟨br h1 rfl, fun b Y hb => ?_⟩; have e1 := aJ h1 rfl hb; rw [nD]; obtain ⟨N, T, Lb, hN, hT, hL⟩ := lens3 Y; rw [hN] at hb
    conv => lhs; rw [← aj (Y.af false b (pc ts l d))]
    simp only [pc, pcf, bU, aa] at e1 ⊢
    generalize aw ts = es at *
    simp [mK, hN, hT, hL, hb, e1, X.len, mr, X.okc, X.can, X.ke, X.fl, oH]
 rw [if_neg k3] at hx; obtain ⟨y, hy⟩ := dq hx; rw [hy] at hx; have h1 := ih.chain (lv + 1) d l y (by omega) hd12 h hy
 have w1 : IntKind.i64.wrap ((lv : Int) + 1) = ((lv + 1 : Nat) : Int) := by rw [IntWalk.i64_in _ (by omega)]; omega
 have k3' : ¬ ((lv : Int) = 3) := by omega
 cases y with
 | bad er q =>
  obtain rfl := bF hx rfl; obtain ⟨a', d'', e1⟩ := bm h1 rfl; refine ⟨a', d'', fun b Y hb => ?_⟩; have e1 := e1 hb; rw [nD]; obtain ⟨N, T, Lb, hN, hT, hL⟩ := lens3 Y; rw [hN] at hb
  conv => lhs; rw [← aj (Y.af false b (pc ts l d))]
  simp only [pc, pcf, bU, aa] at e1 ⊢
  generalize ((lv + 1 : Nat) : Int) = lv1 at *
  generalize aw ts = es at *
  simp [mK, hN, hT, hL, hb, e1, w1, k3, k3']
 | ok e l1 =>
  have hx := cu hx rfl; have s1 := br h1 rfl; have h2 := ihr lv d e l1 x (by omega) hd12 s1 hx
  cases x with
  | bad er q =>
   obtain ⟨a', d'', h2⟩ := h2; refine ⟨a', d'', fun b Y hb => ?_⟩; have e1 := aJ h1 rfl hb; obtain ⟨c1, c2, hit⟩ := h2 b Y hb _ _ _ rfl rfl rfl .dead (.inl rfl); rw [rO] at hit; rw [nD]; obtain ⟨N, T, Lb, hN, hT, hL⟩ := lens3 Y; rw [hN] at hb; rw [hN] at hit
   conv => lhs; rw [← aj (Y.af false b (pc ts l d))]
   rw [hL] at hit
   have hb2 : b < N + 2 := by omega
   simp only [pc, pcf, bU, aa] at e1 hit ⊢
   generalize ((lv + 1 : Nat) : Int) = lv1 at *
   generalize aw ts = es at *
   simp [mK, hN, hT, hL, hb, hb2, e1, w1, k3, k3', X.len, mr, X.okc, X.can, X.ke, X.fl, oH, hit, Ex.bf]
  | ok a l2 =>
   refine ⟨h2.1, fun b Y hb => ?_⟩; have e1 := aJ h1 rfl hb; obtain ⟨c1, c2, hit⟩ := h2.2 b Y hb _ _ _ rfl rfl rfl .dead (.inl rfl); have hfl := Bw a c2; rw [rO] at hit; rw [nD]; obtain ⟨N, T, Lb, hN, hT, hL⟩ := lens3 Y; rw [hN] at hb; rw [hN] at hit
   conv => lhs; rw [← aj (Y.af false b (pc ts l d))]
   rw [hL] at hit
   have hb2 : b < N + 2 := by omega
   simp only [pc, pcf, bU, aa] at e1 hit ⊢
   generalize ((lv + 1 : Nat) : Int) = lv1 at *
   generalize aw ts = es at *
   simp [mK, hN, hT, hL, hb, hb2, e1, w1, k3, k3', X.len, mr, X.okc, X.can, X.ke, X.fl, oH, hit, Ex.bf, iI, jk, kB, hfl, xU]
end
theorem wW {ts : List Tok} (hr : Row ts) : ∀ n, lF ts n ∧ ∀ lv d e l x, lv < 3 → d ≤ 12 → Sfx ts l → mP n lv d e l = some x → wC ts lv d e l x
 | 0 => by
  refine ⟨⟨?_, ?_, ?_⟩, ?_⟩
  · intro d l x _ _ h; simp [qg] at h
  · intro d l x _ _ h; simp [j0] at h
  · intro lv d l x _ _ _ h; simp [fK] at h
  · intro lv d e l x _ _ _ h; simp [mP] at h
 | n + 1 => by
  obtain ⟨i, r⟩ := wW hr n; exact ⟨⟨Bb hr i, Du hr i, zn hr i r⟩, B4 hr i r⟩
abbrev dY (x : Pl) : PV := .agg x.enc
abbrev eH (x : Rt) : PV := .agg x.enc
theorem ft (a b c d e : PV) : fS Tryd.prog 122 (.agg [a, b, c, d, e]) 1 = some b := by kernel_rfl
theorem sh {ts : List Tok} (hr : Row ts) {n : Nat} (ih : lF ts n) {d : Nat} {l : List Tok} {x : PR Pl} (hd12 : d ≤ 12) (h : Sfx ts l) (hx : oX n d l = some x) : Rd 118 [] ts d d l dY x := by
 unfold oX at hx; have h1 := gC hr h d 1
 cases x1 : eW 1 l with
 | bad e q =>
  obtain rfl := bF hx x1; obtain ⟨a', d'', eb⟩ := bm h1 x1; refine ⟨a', d'', fun b Y hb => ?_⟩; have eb := eb hb; rw [kS]; obtain ⟨N, T, Lb, hN, hT, hL⟩ := lens3 Y; rw [hN] at hb
  conv => lhs; rw [← aj (Y.af false b (pc ts l d))]
  simp only [pc, pcf, aI, Tok.c, bc, aa, if_true, if_false, ab, bU, dY] at eb ⊢
  generalize aw ts = es at *
  simp [tH, hN, hT, hL, hb, eb, Pl.enc, X.enc, eJ, x0, ft]
 | ok t1 l1 =>
  have hx := cu hx x1
  try dsimp only at hx
  have s1 := br h1 x1
  cases i2 : isT l1 [46] with
  | true =>
   rw [if_pos i2] at hx; have s2 := s1.isT hr i2; have h3 := gC hr s2 d 1
   cases x3 : eW 1 l1.tail with
   | bad e q =>
    obtain rfl := bF hx x3; obtain ⟨a', d'', eb⟩ := bm h3 x3; refine ⟨a', d'', fun b Y hb => ?_⟩; have eb := eb hb; have e1 := aJ h1 x1 hb; have e2 := ax (aB hr s1 d [46] (b := b)) (s := Y) hb; rw [kS]; obtain ⟨N, T, Lb, hN, hT, hL⟩ := lens3 Y; rw [hN] at hb
    conv => lhs; rw [← aj (Y.af false b (pc ts l d))]
    simp only [pc, pcf, aI, Tok.c, bc, aa, if_true, if_false, ab, bU, dY, i2] at e1 e2 eb ⊢
    generalize aw ts = es at *
    simp [tH, hN, hT, hL, hb, e1, e2, eb, i2, Pl.enc, X.enc, eJ, x0, ft]
   | ok t3 l3 =>
    have hx := cu hx x3
    try dsimp only at hx
    have s3 := br h3 x3; obtain rfl := Option.some.inj hx; refine ⟨s3, fun b Y hb => ?_⟩; have e1 := aJ h1 x1 hb; have e2 := ax (aB hr s1 d [46] (b := b)) (s := Y) hb; have e3 := aJ h3 x3 hb; rw [kS]; obtain ⟨N, T, Lb, hN, hT, hL⟩ := lens3 Y; rw [hN] at hb
    conv => lhs; rw [← aj (Y.af false b (pc ts l d))]
    simp only [pc, pcf, aI, Tok.c, bc, aa, if_true, if_false, ab, bU, dY, i2] at e1 e2 e3 ⊢
    generalize aw ts = es at *
    simp [tH, hN, hT, hL, hb, e1, e2, e3, i2, Pl.enc, X.enc, eJ, x0, ft]
  | false =>
   rw [if_neg (by rw [i2]; decide)] at hx
   cases i4 : isT l1 [91] with
   | true =>
    rw [if_pos i4] at hx; have s4 := s1.isT hr i4; obtain ⟨y5, hy5⟩ := dq hx; rw [hy5] at hx; have h5 := jU hr ih hd12 s4 hy5
    cases y5 with
    | bad e q =>
     obtain rfl := bF hx rfl; obtain ⟨a', d'', eb⟩ := bm h5 rfl; refine ⟨a', d'', fun b Y hb => ?_⟩; have eb := eb hb; have e1 := aJ h1 x1 hb; have e2 := ax (aB hr s1 d [46] (b := b)) (s := Y) hb; have e4 := ax (aB hr s1 d [91] (b := b)) (s := Y) hb; rw [kS]; obtain ⟨N, T, Lb, hN, hT, hL⟩ := lens3 Y; rw [hN] at hb
     conv => lhs; rw [← aj (Y.af false b (pc ts l d))]
     simp only [pc, pcf, aI, Tok.c, bc, aa, if_true, if_false, ab, bU, dY, i2, i4] at e1 e2 e4 eb ⊢
     generalize aw ts = es at *
     simp [tH, hN, hT, hL, hb, e1, e2, e4, eb, i2, i4, Pl.enc, X.enc, eJ, x0, ft]
    | ok x5 l5 =>
     have hx := cu hx rfl
     try dsimp only at hx
     have s5 := br h5 rfl; have h6 := eG hr s5 d [93]
     cases x6 : dt [93] l5 with
     | bad e q =>
      obtain rfl := bF hx x6; obtain ⟨a', d'', eb⟩ := bm h6 x6; refine ⟨a', d'', fun b Y hb => ?_⟩; have eb := eb hb; have e1 := aJ h1 x1 hb; have e2 := ax (aB hr s1 d [46] (b := b)) (s := Y) hb; have e4 := ax (aB hr s1 d [91] (b := b)) (s := Y) hb; have e5 := aJ h5 rfl hb; rw [kS]; obtain ⟨N, T, Lb, hN, hT, hL⟩ := lens3 Y; rw [hN] at hb
      conv => lhs; rw [← aj (Y.af false b (pc ts l d))]
      simp only [pc, pcf, aI, Tok.c, bc, aa, if_true, if_false, ab, bU, dY, i2, i4] at e1 e2 e4 e5 eb ⊢; cases x5
      generalize aw ts = es at *
      simp [tH, hN, hT, hL, hb, e1, e2, e4, e5, eb, i2, i4, Pl.enc, X.enc, eJ, x0, ft]
     | ok u6 l6 =>
      have hx := cu hx x6
      try dsimp only at hx
      have s6 := br h6 x6; obtain rfl := Option.some.inj hx; refine ⟨s6, fun b Y hb => ?_⟩; have e1 := aJ h1 x1 hb; have e2 := ax (aB hr s1 d [46] (b := b)) (s := Y) hb; have e4 := ax (aB hr s1 d [91] (b := b)) (s := Y) hb; have e5 := aJ h5 rfl hb; have e6 := aJ h6 x6 hb; rw [kS]; obtain ⟨N, T, Lb, hN, hT, hL⟩ := lens3 Y; rw [hN] at hb
      conv => lhs; rw [← aj (Y.af false b (pc ts l d))]
      simp only [pc, pcf, aI, Tok.c, bc, aa, if_true, if_false, ab, bU, dY, i2, i4] at e1 e2 e4 e5 e6 ⊢; cases x5
      generalize aw ts = es at *
      simp [tH, hN, hT, hL, hb, e1, e2, e4, e5, e6, i2, i4, Pl.enc, X.enc, eJ, x0, ft]
   | false =>
    rw [if_neg (by rw [i4]; decide)] at hx; obtain rfl := Option.some.inj hx; refine ⟨s1, fun b Y hb => ?_⟩; have e1 := aJ h1 x1 hb; have e2 := ax (aB hr s1 d [46] (b := b)) (s := Y) hb; have e4 := ax (aB hr s1 d [91] (b := b)) (s := Y) hb; rw [kS]; obtain ⟨N, T, Lb, hN, hT, hL⟩ := lens3 Y; rw [hN] at hb
    conv => lhs; rw [← aj (Y.af false b (pc ts l d))]
    simp only [pc, pcf, aI, Tok.c, bc, aa, if_true, if_false, ab, bU, dY, i2, i4] at e1 e2 e4 ⊢
    generalize aw ts = es at *
    simp [tH, hN, hT, hL, hb, e1, e2, e4, i2, i4, Pl.enc, X.enc, eJ, x0, ft]
theorem oZ {ts : List Tok} (hr : Row ts) {n : Nat} (ih : lF ts n) {d : Nat} {l : List Tok} {x : PR Rt} (hd12 : d ≤ 12) (h : Sfx ts l) (hx : ko n d l = some x) : Rd 117 [] ts d d l eH x := by
 have e67 := fun b (Y : St) hb => ax (dF h d 0 0 0 (b := b)) (s := Y) hb
 simp only [ko] at hx
 cases i1 : isT l [108, 111, 97, 100] with
 | true =>
  rw [if_pos i1] at hx; have s1 := h.isT hr i1; obtain ⟨y2, hy2⟩ := dq hx; rw [hy2] at hx; have h2 := sh hr ih hd12 s1 hy2
  cases y2 with
  | bad e q =>
   obtain rfl := bF hx rfl; obtain ⟨a', d'', eb⟩ := bm h2 rfl; refine ⟨a', d'', fun b Y hb => ?_⟩; have eb := eb hb; have e67 := e67 b Y hb; have e1 := ax (aB hr h d [108, 111, 97, 100] (b := b)) (s := Y) hb; rw [iA]; obtain ⟨N, T, Lb, hN, hT, hL⟩ := lens3 Y; rw [hN] at hb
   conv => lhs; rw [← aj (Y.af false b (pc ts l d))]
   simp only [pc, pcf, aI, Tok.c, bc, aa, if_true, if_false, ab, bU, dY, eH, i1] at e67 e1 eb ⊢
   generalize aw ts = es at *
   simp [qa, hN, hT, hL, hb, e67, e1, eb, i1, Rt.enc, Pl.enc, X.enc, eJ, x0, pl0, ft]
  | ok p2 l2 =>
   have hx := cu hx rfl
   try dsimp only at hx
   have s2 := br h2 rfl; obtain rfl := Option.some.inj hx; refine ⟨s2, fun b Y hb => ?_⟩; have e67 := e67 b Y hb; have e1 := ax (aB hr h d [108, 111, 97, 100] (b := b)) (s := Y) hb; have e2 := aJ h2 rfl hb; rw [iA]; obtain ⟨N, T, Lb, hN, hT, hL⟩ := lens3 Y; rw [hN] at hb
   conv => lhs; rw [← aj (Y.af false b (pc ts l d))]
   simp only [pc, pcf, aI, Tok.c, bc, aa, if_true, if_false, ab, bU, dY, eH, i1] at e67 e1 e2 ⊢; obtain ⟨_, _, _, ⟨⟩, _, _⟩ := p2
   generalize aw ts = es at *
   simp [qa, hN, hT, hL, hb, e67, e1, e2, i1, Rt.enc, Pl.enc, X.enc, eJ, x0, pl0, ft]
 | false =>
  rw [if_neg (by rw [i1]; decide)] at hx
  cases i3 : isT l [115, 105, 122, 101] with
  | true =>
   rw [if_pos i3] at hx; have s3 := h.isT hr i3; have h4 := gC hr s3 d 1
   cases x4 : eW 1 l.tail with
   | bad e q =>
    obtain rfl := bF hx x4; obtain ⟨a', d'', eb⟩ := bm h4 x4; refine ⟨a', d'', fun b Y hb => ?_⟩; have eb := eb hb; have e67 := e67 b Y hb; have e1 := ax (aB hr h d [108, 111, 97, 100] (b := b)) (s := Y) hb; have e3 := ax (aB hr h d [115, 105, 122, 101] (b := b)) (s := Y) hb; rw [iA]; obtain ⟨N, T, Lb, hN, hT, hL⟩ := lens3 Y; rw [hN] at hb
    conv => lhs; rw [← aj (Y.af false b (pc ts l d))]
    simp only [pc, pcf, aI, Tok.c, bc, aa, if_true, if_false, ab, bU, dY, eH, i1, i3] at e67 e1 e3 eb ⊢
    generalize aw ts = es at *
    simp [qa, hN, hT, hL, hb, e67, e1, e3, eb, i1, i3, Rt.enc, Pl.enc, X.enc, eJ, x0, pl0, ft]
   | ok t4 l4 =>
    have hx := cu hx x4
    try dsimp only at hx
    have s4 := br h4 x4; obtain rfl := Option.some.inj hx; refine ⟨s4, fun b Y hb => ?_⟩; have e67 := e67 b Y hb; have e1 := ax (aB hr h d [108, 111, 97, 100] (b := b)) (s := Y) hb; have e3 := ax (aB hr h d [115, 105, 122, 101] (b := b)) (s := Y) hb; have e4 := aJ h4 x4 hb; rw [iA]; obtain ⟨N, T, Lb, hN, hT, hL⟩ := lens3 Y; rw [hN] at hb
    conv => lhs; rw [← aj (Y.af false b (pc ts l d))]
    simp only [pc, pcf, aI, Tok.c, bc, aa, if_true, if_false, ab, bU, dY, eH, i1, i3] at e67 e1 e3 e4 ⊢
    generalize aw ts = es at *
    simp [qa, hN, hT, hL, hb, e67, e1, e3, e4, i1, i3, Rt.enc, Pl.enc, X.enc, eJ, x0, pl0, ft]
  | false =>
   rw [if_neg (by rw [i3]; decide)] at hx
   cases i5 : isT l [110, 101, 119] with
   | true =>
    rw [if_pos i5] at hx; have s5 := h.isT hr i5
    cases i6 : isT l.tail [105, 110, 116, 115] with
    | true =>
     rw [if_pos i6] at hx; have s6 := s5.isT hr i6; obtain ⟨y7, hy7⟩ := dq hx; rw [hy7] at hx; have h7 := jU hr ih hd12 s6 hy7
     cases y7 with
     | bad e q =>
      obtain rfl := bF hx rfl; obtain ⟨a', d'', eb⟩ := bm h7 rfl; refine ⟨a', d'', fun b Y hb => ?_⟩; have eb := eb hb; have e67 := e67 b Y hb; have e1 := ax (aB hr h d [108, 111, 97, 100] (b := b)) (s := Y) hb; have e3 := ax (aB hr h d [115, 105, 122, 101] (b := b)) (s := Y) hb; have e5 := ax (aB hr h d [110, 101, 119] (b := b)) (s := Y) hb; have e6 := ax (aB hr s5 d [105, 110, 116, 115] (b := b)) (s := Y) hb; rw [iA]; obtain ⟨N, T, Lb, hN, hT, hL⟩ := lens3 Y; rw [hN] at hb
      conv => lhs; rw [← aj (Y.af false b (pc ts l d))]
      simp only [pc, pcf, aI, Tok.c, bc, aa, if_true, if_false, ab, bU, dY, eH, i1, i3, i5, i6] at e67 e1 e3 e5 e6 eb ⊢
      generalize aw ts = es at *
      simp [qa, hN, hT, hL, hb, e67, e1, e3, e5, e6, eb, i1, i3, i5, i6, Rt.enc, Pl.enc, X.enc, eJ, x0, pl0, ft]
     | ok x7 l7 =>
      have hx := cu hx rfl
      try dsimp only at hx
      have s7 := br h7 rfl; obtain rfl := Option.some.inj hx; refine ⟨s7, fun b Y hb => ?_⟩; have e67 := e67 b Y hb; have e1 := ax (aB hr h d [108, 111, 97, 100] (b := b)) (s := Y) hb; have e3 := ax (aB hr h d [115, 105, 122, 101] (b := b)) (s := Y) hb; have e5 := ax (aB hr h d [110, 101, 119] (b := b)) (s := Y) hb; have e6 := ax (aB hr s5 d [105, 110, 116, 115] (b := b)) (s := Y) hb; have e7 := aJ h7 rfl hb; rw [iA]; obtain ⟨N, T, Lb, hN, hT, hL⟩ := lens3 Y; rw [hN] at hb
      conv => lhs; rw [← aj (Y.af false b (pc ts l d))]
      simp only [pc, pcf, aI, Tok.c, bc, aa, if_true, if_false, ab, bU, dY, eH, i1, i3, i5, i6] at e67 e1 e3 e5 e6 e7 ⊢; cases x7
      generalize aw ts = es at *
      simp [qa, hN, hT, hL, hb, e67, e1, e3, e5, e6, e7, i1, i3, i5, i6, Rt.enc, Pl.enc, X.enc, eJ, x0, pl0, ft]
    | false =>
     rw [if_neg (by rw [i6]; decide)] at hx; have h8 := gC hr s5 d 1
     cases x8 : eW 1 l.tail with
     | bad e q =>
      obtain rfl := bF hx x8; obtain ⟨a', d'', eb⟩ := bm h8 x8; refine ⟨a', d'', fun b Y hb => ?_⟩; have eb := eb hb; have e67 := e67 b Y hb; have e1 := ax (aB hr h d [108, 111, 97, 100] (b := b)) (s := Y) hb; have e3 := ax (aB hr h d [115, 105, 122, 101] (b := b)) (s := Y) hb; have e5 := ax (aB hr h d [110, 101, 119] (b := b)) (s := Y) hb; have e6 := ax (aB hr s5 d [105, 110, 116, 115] (b := b)) (s := Y) hb; rw [iA]; obtain ⟨N, T, Lb, hN, hT, hL⟩ := lens3 Y; rw [hN] at hb
      conv => lhs; rw [← aj (Y.af false b (pc ts l d))]
      simp only [pc, pcf, aI, Tok.c, bc, aa, if_true, if_false, ab, bU, dY, eH, i1, i3, i5, i6] at e67 e1 e3 e5 e6 eb ⊢
      generalize aw ts = es at *
      simp [qa, hN, hT, hL, hb, e67, e1, e3, e5, e6, eb, i1, i3, i5, i6, Rt.enc, Pl.enc, X.enc, eJ, x0, pl0, ft]
     | ok t8 l8 =>
      have hx := cu hx x8
      try dsimp only at hx
      have s8 := br h8 x8; obtain rfl := Option.some.inj hx; refine ⟨s8, fun b Y hb => ?_⟩; have e67 := e67 b Y hb; have e1 := ax (aB hr h d [108, 111, 97, 100] (b := b)) (s := Y) hb; have e3 := ax (aB hr h d [115, 105, 122, 101] (b := b)) (s := Y) hb; have e5 := ax (aB hr h d [110, 101, 119] (b := b)) (s := Y) hb; have e6 := ax (aB hr s5 d [105, 110, 116, 115] (b := b)) (s := Y) hb; have e8 := aJ h8 x8 hb; rw [iA]; obtain ⟨N, T, Lb, hN, hT, hL⟩ := lens3 Y; rw [hN] at hb
      conv => lhs; rw [← aj (Y.af false b (pc ts l d))]
      simp only [pc, pcf, aI, Tok.c, bc, aa, if_true, if_false, ab, bU, dY, eH, i1, i3, i5, i6] at e67 e1 e3 e5 e6 e8 ⊢
      generalize aw ts = es at *
      simp [qa, hN, hT, hL, hb, e67, e1, e3, e5, e6, e8, i1, i3, i5, i6, Rt.enc, Pl.enc, X.enc, eJ, x0, pl0, ft]
   | false =>
    rw [if_neg (by rw [i5]; decide)] at hx; obtain ⟨y9, hy9⟩ := dq hx; rw [hy9] at hx; have h9 := jU hr ih hd12 h hy9
    cases y9 with
    | bad e q =>
     obtain rfl := bF hx rfl; obtain ⟨a', d'', eb⟩ := bm h9 rfl; refine ⟨a', d'', fun b Y hb => ?_⟩; have eb := eb hb; have e67 := e67 b Y hb; have e1 := ax (aB hr h d [108, 111, 97, 100] (b := b)) (s := Y) hb; have e3 := ax (aB hr h d [115, 105, 122, 101] (b := b)) (s := Y) hb; have e5 := ax (aB hr h d [110, 101, 119] (b := b)) (s := Y) hb; rw [iA]; obtain ⟨N, T, Lb, hN, hT, hL⟩ := lens3 Y; rw [hN] at hb
     conv => lhs; rw [← aj (Y.af false b (pc ts l d))]
     simp only [pc, pcf, aI, Tok.c, bc, aa, if_true, if_false, ab, bU, dY, eH, i1, i3, i5] at e67 e1 e3 e5 eb ⊢
     generalize aw ts = es at *
     simp [qa, hN, hT, hL, hb, e67, e1, e3, e5, eb, i1, i3, i5, Rt.enc, Pl.enc, X.enc, eJ, x0, pl0, ft]
    | ok x9 l9 =>
     have hx := cu hx rfl
     try dsimp only at hx
     have s9 := br h9 rfl; obtain rfl := Option.some.inj hx; refine ⟨s9, fun b Y hb => ?_⟩; have e67 := e67 b Y hb; have e1 := ax (aB hr h d [108, 111, 97, 100] (b := b)) (s := Y) hb; have e3 := ax (aB hr h d [115, 105, 122, 101] (b := b)) (s := Y) hb; have e5 := ax (aB hr h d [110, 101, 119] (b := b)) (s := Y) hb; have e9 := aJ h9 rfl hb; rw [iA]; obtain ⟨N, T, Lb, hN, hT, hL⟩ := lens3 Y; rw [hN] at hb
     conv => lhs; rw [← aj (Y.af false b (pc ts l d))]
     simp only [pc, pcf, aI, Tok.c, bc, aa, if_true, if_false, ab, bU, dY, eH, i1, i3, i5] at e67 e1 e3 e5 e9 ⊢; cases x9
     generalize aw ts = es at *
     simp [qa, hN, hT, hL, hb, e67, e1, e3, e5, e9, i1, i3, i5, Rt.enc, Pl.enc, X.enc, eJ, x0, pl0, ft]
end Go.Proofs.YtlhlijaondmccaaDoor.S
namespace Go.Proofs.YtlhlijaondmccaaDoor.S
open Go Go.AM Go.Proofs
def fP (o : Int) (nm : ByteArray) (rt pl e : List PV) (n : Int) (ar : List (List PV)) (ca : Cap) (bo : List (List PV)) (cb : Cap) (el : List (List PV)) (ce : Cap) (ln cl : Int) : List PV :=
 .v (.int .i64 o) :: .v (.string nm) :: (rt ++ (pl ++ (e ++ [.v (.int .i64 n), .sl ar ca, .sl bo cb, .sl el ce, .v (.int .i64 ln), .v (.int .i64 cl)])))
def y9 : List PV := z9
def y14 : List PV := [.v (.int .i64 0), str [], str []] ++ z9 ++ [.v (.int .i64 0), .v (.int .i64 0)]
def y27 : List PV := [.v (.int .i64 0)] ++ z9 ++ y14 ++ [str [], .v (.int .i64 0), .v (.int .i64 0)]
def y58 (ln cl : Int) : List PV := fP 0 (bs []) y27 y14 y9 0 [] .nil [] .nil [] .nil ln cl
theorem AL : y9.length = 9 := by decide
theorem xD : y14.length = 14 := by decide
theorem xG : y27.length = 27 := by decide
theorem AN : aG y9 = true := by decide
theorem xE : aG y14 = true := by decide
theorem xH : aG y27 = true := by decide
theorem Cx : y9.all dL = true := by decide
theorem AI : y14.all dL = true := by decide
theorem AJ : y27.all dL = true := by decide
theorem AK : y9.map bL = x0.enc := by rw [X.dW]; rfl
theorem xC : y14.map bL = pl0.enc := by rw [Pl.enc, X.dW]; rfl
theorem xF : y27.map bL = rt0.enc := by rw [Rt.enc, Pl.enc, X.dW, X.dW]; rfl
theorem wt : [PV.v (.int .i64 0), .v (.string (bs [])), .v (.int .i64 0), .v (.int .i64 0), .v (.int .i64 0), .v (.int .u64 0), .v (.int .i64 0), .v (.string (bs [])), .v (.string (bs [])), .sl [] .nil, .v (.int .i64 0), .v (.int .i64 0), .v (.int .i64 0), .v (.string (bs [])), .v (.string (bs [])), .v (.int .i64 0), .v (.int .i64 0), .v (.int .u64 0), .v (.int .i64 0), .v (.string (bs [])), .v (.string (bs [])), .sl [] .nil, .v (.int .i64 0), .v (.int .i64 0), .v (.int .i64 0), .v (.int .i64 0), .v (.string (bs [])), .v (.int .i64 0), .v (.int .i64 0), .v (.int .i64 0), .v (.string (bs [])), .v (.string (bs [])), .v (.int .i64 0), .v (.int .i64 0), .v (.int .u64 0), .v (.int .i64 0), .v (.string (bs [])), .v (.string (bs [])), .sl [] .nil, .v (.int .i64 0), .v (.int .i64 0), .v (.int .i64 0), .v (.int .i64 0), .v (.int .i64 0), .v (.int .i64 0), .v (.int .u64 0), .v (.int .i64 0), .v (.string (bs [])), .v (.string (bs [])), .sl [] .nil, .v (.int .i64 0), .v (.int .i64 0), .v (.int .i64 0), .sl [] .nil, .sl [] .nil, .sl [] .nil, .v (.int .i64 0), .v (.int .i64 0)] = y58 0 0 := rfl
theorem xI (a b : Int) : aX [(0, 1), (1, 1), (2, 27), (29, 14), (43, 9), (52, 1), (53, 1), (54, 1), (55, 1), (56, 1), (57, 1)] (y58 0 0) [(9, .v (.int .i64 a)), (10, .v (.int .i64 b))] = some (.agg (fP 0 (bs []) y27 y14 y9 0 [] .nil [] .nil [] .nil a b)) := rfl
theorem xK (a b : Int) : ((y58 0 0).set 56 (.v (.int .i64 a))).set 57 (.v (.int .i64 b)) = fP 0 (bs []) y27 y14 y9 0 [] .nil [] .nil [] .nil a b := rfl
theorem xJ (a b : Int) : (y58 a b).length = 58 := rfl
theorem vb (a b : Int) (cs : List PV) (h : cs.length = 58) : laid (y58 a b) 0 cs = cs := jd _ _ (by rw [h]; rfl)
section
variable {o : Int} {nm : ByteArray} {rt pl e : List PV} {n : Int} {ar : List (List PV)} {ca : Cap} {bo : List (List PV)} {cb : Cap} {el : List (List PV)} {ce : Cap} {ln cl : Int}
theorem vn (h1 : rt.length = 27) (h2 : pl.length = 14) (h3 : e.length = 9) : (fP o nm rt pl e n ar ca bo cb el ce ln cl).length = 58 := by simp [fP, h1, h2, h3]
theorem wL (a : Int) : (fP o nm rt pl e n ar ca bo cb el ce ln cl).set 0 (.v (.int .i64 a)) = fP a nm rt pl e n ar ca bo cb el ce ln cl := rfl
theorem wM (a : ByteArray) : (fP o nm rt pl e n ar ca bo cb el ce ln cl).set 1 (.v (.string a)) = fP o a rt pl e n ar ca bo cb el ce ln cl := rfl
theorem sL (h1 : rt.length = 27) (h2 : pl.length = 14) (h3 : e.length = 9) (k : Nat) (v : PV) : (fP o nm rt pl e n ar ca bo cb el ce ln cl).set (52 + k) v =
 .v (.int .i64 o) :: .v (.string nm) :: (rt ++ (pl ++ (e ++ [.v (.int .i64 n), .sl ar ca, .sl bo cb, .sl el ce, .v (.int .i64 ln), .v (.int .i64 cl)].set k v))) := by
 unfold fP; rw [show 52 + k = (50 + k) + 1 + 1 by omega, List.set_cons_succ, List.set_cons_succ, List.set_append_right _ _ (by omega), List.set_append_right _ _ (by omega), List.set_append_right _ _ (by omega), show 50 + k - rt.length - pl.length - e.length = k by omega]
theorem tP (h1 : rt.length = 27) (h2 : pl.length = 14) (h3 : e.length = 9) (a : Int) : (fP o nm rt pl e n ar ca bo cb el ce ln cl).set 52 (.v (.int .i64 a)) = fP o nm rt pl e a ar ca bo cb el ce ln cl := sL h1 h2 h3 0 _
theorem tQ (h1 : rt.length = 27) (h2 : pl.length = 14) (h3 : e.length = 9) (a : List (List PV)) (c : Cap) : (fP o nm rt pl e n ar ca bo cb el ce ln cl).set 53 (.sl a c) = fP o nm rt pl e n a c bo cb el ce ln cl := sL h1 h2 h3 1 _
theorem tR (h1 : rt.length = 27) (h2 : pl.length = 14) (h3 : e.length = 9) (a : List (List PV)) (c : Cap) : (fP o nm rt pl e n ar ca bo cb el ce ln cl).set 54 (.sl a c) = fP o nm rt pl e n ar ca a c el ce ln cl := sL h1 h2 h3 2 _
theorem tS (h1 : rt.length = 27) (h2 : pl.length = 14) (h3 : e.length = 9) (a : List (List PV)) (c : Cap) : (fP o nm rt pl e n ar ca bo cb el ce ln cl).set 55 (.sl a c) = fP o nm rt pl e n ar ca bo cb a c ln cl := sL h1 h2 h3 3 _
theorem Ce (h1 : rt.length = 27) (cs : List PV) (hc : cs.length = 27) : laid (fP o nm rt pl e n ar ca bo cb el ce ln cl) 2 cs = fP o nm cs pl e n ar ca bo cb el ce ln cl := by
 have := laidB [.v (.int .i64 o), .v (.string nm)] rt (pl ++ (e ++ [.v (.int .i64 n), .sl ar ca, .sl bo cb, .sl el ce, .v (.int .i64 ln), .v (.int .i64 cl)])) cs (by omega); simpa [fP] using this
theorem ze (h1 : rt.length = 27) (h2 : pl.length = 14) (cs : List PV) (hc : cs.length = 14) : laid (fP o nm rt pl e n ar ca bo cb el ce ln cl) 29 cs = fP o nm rt cs e n ar ca bo cb el ce ln cl := by
 have := laidB (.v (.int .i64 o) :: .v (.string nm) :: rt) pl (e ++ [.v (.int .i64 n), .sl ar ca, .sl bo cb, .sl el ce, .v (.int .i64 ln), .v (.int .i64 cl)]) cs (by omega); simpa [fP, h1] using this
theorem zf (h1 : rt.length = 27) (h2 : pl.length = 14) (h3 : e.length = 9) (cs : List PV) (hc : cs.length = 9) : laid (fP o nm rt pl e n ar ca bo cb el ce ln cl) 43 cs = fP o nm rt pl cs n ar ca bo cb el ce ln cl := by
 have := laidB (.v (.int .i64 o) :: .v (.string nm) :: (rt ++ pl)) e [.v (.int .i64 n), .sl ar ca, .sl bo cb, .sl el ce, .v (.int .i64 ln), .v (.int .i64 cl)] cs (by omega); simpa [fP, h1, h2] using this
theorem wN (h1 : rt.length = 27) (h2 : pl.length = 14) (h3 : e.length = 9) : (fP o nm rt pl e n ar ca bo cb el ce ln cl).take 58 = fP o nm rt pl e n ar ca bo cb el ce ln cl := List.take_of_length_le (by rw [vn h1 h2 h3]; omega)
theorem xr : ∀ (a b : List PV), aG (a ++ b) = (aG a && aG b)
 | [], b => rfl
 | x :: a, b => by
  have := xr a b
  cases x <;> first | exact this | rfl
theorem zg (h1 : aG rt = true) (h2 : aG pl = true) (h3 : aG e = true) : aG (fP o nm rt pl e n ar ca bo cb el ce ln cl) = true := by
 simp [fP, aG, xr, h1, h2, h3]
theorem Cd (h1 : rt.all dL = true) (h2 : pl.all dL = true) (h3 : e.all dL = true) : (fP o nm rt pl e n ar ca bo cb el ce ln cl).all dL = true := by
 simp only [fP, bB, List.all_append, h1, h2, h3, cq]; rfl
theorem vo : (fP o nm rt pl e n ar ca bo cb el ce ln cl).map bL = fP o nm (rt.map bL) (pl.map bL) (e.map bL) n ar .dead bo .dead el .dead ln cl := by
 simp only [fP, bq, List.map_append, aW]; rfl
theorem zd : ah (.agg (fP o nm rt pl e n ar ca bo cb el ce ln cl)) = .agg (fP o nm (rt.map bL) (pl.map bL) (e.map bL) n ar .dead bo .dead el .dead ln cl) := by
 rw [← vo]; rfl
end
theorem S.wU (op : Int) (name : ByteArray) (r : Rt) (p : Pl) (e : X) (n : Int) (args : List X) (body els : List S) (ln cl : Int) : S.enc ⟨op, name, r, p, e, n, args, body, els, ln, cl⟩ = fP op name r.enc p.enc e.enc n (eJ args) .dead (fa body) .dead (fa els) .dead ln cl := by
 simp only [S.enc, fP, List.append_assoc, aR, bu]
end Go.Proofs.YtlhlijaondmccaaDoor.S
namespace Go.Proofs.YtlhlijaondmccaaDoor.S
open Go Go.AM Go.Proofs
attribute [local simp] cV cy bR bS cz eY fk ef db ec cZ ed da fj bT gQ dV gR gL gG AM.ae aP aQ ba aO aD AM.onG fJ cd ep Ex.bf cond_true cond_false cR cQ cP cO cN cT cM cU cS eg dc de cx cW AM.dj AM.cellsOf AM.av bP beq_true cK ak aA aZ bx bQ decide_true decide_false bI bA bn bz aY aC ay bu aR cX cY fg az bH bw bN cv dU dZ cG eu et set_set eB dy fG dz cF bC dx dw cE dv eA eC fA fB bD cf en fw dN aK aS aE AM.aV ah cL bL bq aW aN aM AM.part bg aL bY cc bZ bX bX.eK AM.dL bB cq dG fv aK laid aG aX cm
attribute [-simp] ag
attribute [local congr] dH
abbrev dQ (s : S) : PV := .agg s.enc
abbrev cj (xs : List S) : PV := .sl (fa xs) .dead
abbrev fe (xs : List X) : PV := .sl (eJ xs) .dead
abbrev eU (t : Tok) (name : ByteArray) : PV := .agg (fP 0 name rt0.enc pl0.enc x0.enc 0 [] .dead [] .dead [] .dead t.p.1 t.p.2)
theorem zp (n : Int) : gU Tryd.prog 45 3 (.v (.int .u64 n)) = some (.v (.int .i64 (IntKind.i64.wrap n))) := by kernel_rfl
theorem S.take (x : S) : x.enc.take 58 = x.enc := List.take_of_length_le (by rw [S.len]; omega)
structure qc (ts : List Tok) (n : Nat) : Prop where
 blk : ∀ d l x, d ≤ 12 → Sfx ts l → gi n d l = some x → Rd 45 [] ts d d l cj x
 lp : ∀ d t name l x, d ≤ 12 → Sfx ts l → lY n d t name l = some x → Rd 115 [eU t name] ts d d l dQ x
 st : ∀ d l x, d ≤ 12 → Sfx ts l → ri n d l = some x → Rd 82 [] ts d d l dQ x
attribute [local simp] vn wL wM tP tQ tR tS Ce ze zf wN zg Cd vo zd wt xI xK xJ vb AL xD xG AN xE xH Cx AI AJ AK xC xF X.len Pl.len Rt.len X.okc Pl.okc Rt.okc X.fl Pl.fl Rt.fl X.ke Pl.ke Rt.ke S.wU S.len S.okc S.fl S.ke S.can S.take ft oK zp eJ fa
section
variable {ts : List Tok} (hr : Row ts) {n : Nat} (ihe : lF ts n) (ih : qc ts n)
include hr ih
theorem BR (d : Nat) (t : Tok) (name : ByteArray) (l : List Tok) (x : PR S) (hd12 : d ≤ 12) (h : Sfx ts l) (hx : lY (n + 1) d t name l = some x) : Rd 115 [eU t name] ts d d l dQ x := by
 simp only [lY] at hx; have h1 := gC hr h d 3
 cases x1 : eW 3 l with
 | bad e q =>
  obtain rfl := bF hx x1; obtain ⟨a', d'', eb⟩ := bm h1 x1; refine ⟨a', d'', fun b Y hb => ?_⟩; have eb := eb hb; rw [sE]; obtain ⟨N, T, Lb, hN, hT, hL⟩ := lens3 Y; rw [hN] at hb
  conv => lhs; rw [← aj (Y.af false b (pc ts l d))]
  simp only [pc, pcf, aI, Tok.c, bc, aa, if_true, if_false, ab, bU, dY, eH, dQ, cj, eU] at eb ⊢
  generalize aw ts = es at *
  simp (maxDischargeDepth := 8) [A3, hN, hT, hL, hb, eb]
 | ok u1 l1 =>
  have hx := cu hx x1
  try dsimp only at hx
  have s1 := br h1 x1; obtain ⟨y2, hy2⟩ := dq hx; rw [hy2] at hx; have h2 := ih.blk _ _ _ hd12 s1 hy2
  cases y2 with
  | bad e q =>
   obtain rfl := bF hx rfl; obtain ⟨a', d'', eb⟩ := bm h2 rfl; refine ⟨a', d'', fun b Y hb => ?_⟩; have eb := eb hb; have e1 := aJ h1 x1 hb; rw [sE]; obtain ⟨N, T, Lb, hN, hT, hL⟩ := lens3 Y; rw [hN] at hb
   conv => lhs; rw [← aj (Y.af false b (pc ts l d))]
   simp only [pc, pcf, aI, Tok.c, bc, aa, if_true, if_false, ab, bU, dY, eH, dQ, cj, eU] at e1 eb ⊢
   generalize aw ts = es at *
   simp (maxDischargeDepth := 8) [A3, hN, hT, hL, hb, e1, eb]
  | ok b2 l2 =>
   have hx := cu hx rfl
   try dsimp only at hx
   have s2 := br h2 rfl; obtain rfl := Option.some.inj hx; refine ⟨s2, fun b Y hb => ?_⟩; have e1 := aJ h1 x1 hb; have e2 := aJ h2 rfl hb; rw [sE]; obtain ⟨N, T, Lb, hN, hT, hL⟩ := lens3 Y; rw [hN] at hb
   conv => lhs; rw [← aj (Y.af false b (pc ts l d))]
   simp only [pc, pcf, aI, Tok.c, bc, aa, if_true, if_false, ab, bU, dY, eH, dQ, cj, eU] at e1 e2 ⊢
   generalize aw ts = es at *
   simp (maxDischargeDepth := 8) [A3, hN, hT, hL, hb, e1, e2]
include ihe
theorem xS (d : Nat) (l : List Tok) (x : PR S) (hd12 : d ≤ 12) (h : Sfx ts l)
 (hx : (if isT (dJ l) [58] then pb (some (dt [108, 111, 111, 112] (dJ l).tail)) fun _ l1 => lY n d (hd l) (bs (hd l).text) l1
  else pb (some (dt [61] (dJ l))) fun _ l1 => pb (ko n d l1) fun r l2 => gu (mkS (hd l) 3 (bs (hd l).text) r pl0 x0 0 [] [] []) l2) = some x) : Rd 114 [eU (hd l) (bs [])] ts d d l dQ x := by
 have s0 := h.next hr
 have e151 := fun b (Y : St) hb => ax (jX hr h d (b := b)) (s := Y) hb
 cases i1 : isT (dJ l) [58] with
 | true =>
  rw [if_pos i1] at hx; have s1 := s0.isT hr i1; have h2 := eG hr s1 d [108, 111, 111, 112]
  cases x2 : dt [108, 111, 111, 112] (dJ l).tail with
  | bad e q =>
   obtain rfl := bF hx x2; obtain ⟨a', d'', eb⟩ := bm h2 x2; refine ⟨a', d'', fun b Y hb => ?_⟩; have eb := eb hb; have e151 := e151 b Y hb; have e1 := ax (aB hr s0 d [58] (b := b)) (s := Y) hb; rw [kR]; obtain ⟨N, T, Lb, hN, hT, hL⟩ := lens3 Y; rw [hN] at hb
   conv => lhs; rw [← aj (Y.af false b (pc ts l d))]
   simp only [pc, pcf, aI, Tok.c, bc, aa, if_true, if_false, ab, bU, dY, eH, dQ, cj, eU, i1] at e151 e1 eb ⊢
   generalize aw ts = es at *
   simp (maxDischargeDepth := 8) [tG, hN, hT, hL, hb, e151, e1, eb, i1]
  | ok u2 l2 =>
   have hx := cu hx x2
   try dsimp only at hx
   have s2 := br h2 x2; have h3 := ih.lp _ _ _ _ _ hd12 s2 hx
   cases x with
   | bad e q =>
    obtain ⟨a', d'', eb⟩ := bm h3 rfl; refine ⟨a', d'', fun b Y hb => ?_⟩; have eb := eb hb; have e151 := e151 b Y hb; have e1 := ax (aB hr s0 d [58] (b := b)) (s := Y) hb; have e2 := aJ h2 x2 hb; rw [kR]; obtain ⟨N, T, Lb, hN, hT, hL⟩ := lens3 Y; rw [hN] at hb
    conv => lhs; rw [← aj (Y.af false b (pc ts l d))]
    simp only [pc, pcf, aI, Tok.c, bc, aa, if_true, if_false, ab, bU, dY, eH, dQ, cj, eU, i1] at e151 e1 e2 eb ⊢
    generalize aw ts = es at *
    simp (maxDischargeDepth := 8) [tG, hN, hT, hL, hb, e151, e1, e2, eb, i1]
   | ok v3 l3 =>
    refine ⟨br h3 rfl, fun b Y hb => ?_⟩; have e151 := e151 b Y hb; have e1 := ax (aB hr s0 d [58] (b := b)) (s := Y) hb; have e2 := aJ h2 x2 hb; have e3 := aJ h3 rfl hb; rw [kR]; obtain ⟨N, T, Lb, hN, hT, hL⟩ := lens3 Y; rw [hN] at hb
    conv => lhs; rw [← aj (Y.af false b (pc ts l d))]
    simp only [pc, pcf, aI, Tok.c, bc, aa, if_true, if_false, ab, bU, dY, eH, dQ, cj, eU, i1] at e151 e1 e2 e3 ⊢
    generalize aw ts = es at *
    simp (maxDischargeDepth := 8) [tG, hN, hT, hL, hb, e151, e1, e2, e3, i1]
 | false =>
  rw [if_neg (by rw [i1]; decide)] at hx; have h4 := eG hr s0 d [61]
  cases x4 : dt [61] (dJ l) with
  | bad e q =>
   obtain rfl := bF hx x4; obtain ⟨a', d'', eb⟩ := bm h4 x4; refine ⟨a', d'', fun b Y hb => ?_⟩; have eb := eb hb; have e151 := e151 b Y hb; have e1 := ax (aB hr s0 d [58] (b := b)) (s := Y) hb; rw [kR]; obtain ⟨N, T, Lb, hN, hT, hL⟩ := lens3 Y; rw [hN] at hb
   conv => lhs; rw [← aj (Y.af false b (pc ts l d))]
   simp only [pc, pcf, aI, Tok.c, bc, aa, if_true, if_false, ab, bU, dY, eH, dQ, cj, eU, i1] at e151 e1 eb ⊢
   generalize aw ts = es at *
   simp (maxDischargeDepth := 8) [tG, hN, hT, hL, hb, e151, e1, eb, i1]
  | ok u4 l4 =>
   have hx := cu hx x4
   try dsimp only at hx
   have s4 := br h4 x4; obtain ⟨y5, hy5⟩ := dq hx; rw [hy5] at hx; have h5 := oZ hr ihe hd12 s4 hy5
   cases y5 with
   | bad e q =>
    obtain rfl := bF hx rfl; obtain ⟨a', d'', eb⟩ := bm h5 rfl; refine ⟨a', d'', fun b Y hb => ?_⟩; have eb := eb hb; have e151 := e151 b Y hb; have e1 := ax (aB hr s0 d [58] (b := b)) (s := Y) hb; have e4 := aJ h4 x4 hb; rw [kR]; obtain ⟨N, T, Lb, hN, hT, hL⟩ := lens3 Y; rw [hN] at hb
    conv => lhs; rw [← aj (Y.af false b (pc ts l d))]
    simp only [pc, pcf, aI, Tok.c, bc, aa, if_true, if_false, ab, bU, dY, eH, dQ, cj, eU, i1] at e151 e1 e4 eb ⊢
    generalize aw ts = es at *
    simp (maxDischargeDepth := 8) [tG, hN, hT, hL, hb, e151, e1, e4, eb, i1]
   | ok r5 l5 =>
    have hx := cu hx rfl
    try dsimp only at hx
    have s5 := br h5 rfl; unfold gu at hx; have h6 := eG hr s5 d [59]
    cases x6 : dt [59] l5 with
    | bad e q =>
     obtain rfl := bF hx x6; obtain ⟨a', d'', eb⟩ := bm h6 x6; refine ⟨a', d'', fun b Y hb => ?_⟩; have eb := eb hb; have e151 := e151 b Y hb; have e1 := ax (aB hr s0 d [58] (b := b)) (s := Y) hb; have e4 := aJ h4 x4 hb; have e5 := aJ h5 rfl hb; rw [kR]; obtain ⟨N, T, Lb, hN, hT, hL⟩ := lens3 Y; rw [hN] at hb
     conv => lhs; rw [← aj (Y.af false b (pc ts l d))]
     simp only [pc, pcf, aI, Tok.c, bc, aa, if_true, if_false, ab, bU, dY, eH, dQ, cj, eU, i1] at e151 e1 e4 e5 eb ⊢
     generalize aw ts = es at *
     simp (maxDischargeDepth := 8) [tG, hN, hT, hL, hb, e151, e1, e4, e5, eb, i1]
    | ok u6 l6 =>
     have hx := cu hx x6
     try dsimp only at hx
     have s6 := br h6 x6; obtain rfl := Option.some.inj hx; refine ⟨s6, fun b Y hb => ?_⟩; have e151 := e151 b Y hb; have e1 := ax (aB hr s0 d [58] (b := b)) (s := Y) hb; have e4 := aJ h4 x4 hb; have e5 := aJ h5 rfl hb; have e6 := aJ h6 x6 hb; rw [kR]; obtain ⟨N, T, Lb, hN, hT, hL⟩ := lens3 Y; rw [hN] at hb
     conv => lhs; rw [← aj (Y.af false b (pc ts l d))]
     simp only [pc, pcf, aI, Tok.c, bc, aa, if_true, if_false, ab, bU, dY, eH, dQ, cj, eU, i1] at e151 e1 e4 e5 e6 ⊢
     generalize aw ts = es at *
     simp (maxDischargeDepth := 8) [tG, hN, hT, hL, hb, e151, e1, e4, e5, e6, i1]
theorem xR (d : Nat) (t : Tok) (l : List Tok) (x : PR S) (hd12 : d ≤ 12) (h : Sfx ts l)
 (hx : (pb (fK n 0 d l) fun e l1 => pb (gi n d l1) fun b l2 =>
  (if isT l2 [101, 108, 115, 101] then pb (gi n d l2.tail) fun c l3 => some (.ok (mkS t 6 (bs []) rt0 pl0 e 0 [] b c) l3) else some (.ok (mkS t 6 (bs []) rt0 pl0 e 0 [] b []) l2))) = some x) : Rd 116 [eU t (bs [])] ts d d l dQ x := by
 obtain ⟨y1, hy1⟩ := dq hx; rw [hy1] at hx; have h1 := jU hr ihe hd12 h hy1
 cases y1 with
 | bad e q =>
  obtain rfl := bF hx rfl; obtain ⟨a', d'', eb⟩ := bm h1 rfl; refine ⟨a', d'', fun b Y hb => ?_⟩; have eb := eb hb; rw [nB]; obtain ⟨N, T, Lb, hN, hT, hL⟩ := lens3 Y; rw [hN] at hb
  conv => lhs; rw [← aj (Y.af false b (pc ts l d))]
  simp only [pc, pcf, aI, Tok.c, bc, aa, if_true, if_false, ab, bU, dY, eH, dQ, cj, eU] at eb ⊢
  generalize aw ts = es at *
  simp (maxDischargeDepth := 8) [xM, hN, hT, hL, hb, eb]
 | ok x1 l1 =>
  have hx := cu hx rfl
  try dsimp only at hx
  have s1 := br h1 rfl; obtain ⟨y2, hy2⟩ := dq hx; rw [hy2] at hx; have h2 := ih.blk _ _ _ hd12 s1 hy2
  cases y2 with
  | bad e q =>
   obtain rfl := bF hx rfl; obtain ⟨a', d'', eb⟩ := bm h2 rfl; refine ⟨a', d'', fun b Y hb => ?_⟩; have eb := eb hb; have e1 := aJ h1 rfl hb; rw [nB]; obtain ⟨N, T, Lb, hN, hT, hL⟩ := lens3 Y; rw [hN] at hb
   conv => lhs; rw [← aj (Y.af false b (pc ts l d))]
   simp only [pc, pcf, aI, Tok.c, bc, aa, if_true, if_false, ab, bU, dY, eH, dQ, cj, eU] at e1 eb ⊢
   generalize aw ts = es at *
   simp (maxDischargeDepth := 8) [xM, hN, hT, hL, hb, e1, eb]
  | ok b2 l2 =>
   have hx := cu hx rfl
   try dsimp only at hx
   have s2 := br h2 rfl
   cases i3 : isT l2 [101, 108, 115, 101] with
   | true =>
    rw [if_pos i3] at hx; have s3 := s2.isT hr i3; obtain ⟨y4, hy4⟩ := dq hx; rw [hy4] at hx; have h4 := ih.blk _ _ _ hd12 s3 hy4
    cases y4 with
    | bad e q =>
     obtain rfl := bF hx rfl; obtain ⟨a', d'', eb⟩ := bm h4 rfl; refine ⟨a', d'', fun b Y hb => ?_⟩; have eb := eb hb; have e1 := aJ h1 rfl hb; have e2 := aJ h2 rfl hb; have e3 := ax (aB hr s2 d [101, 108, 115, 101] (b := b)) (s := Y) hb; rw [nB]; obtain ⟨N, T, Lb, hN, hT, hL⟩ := lens3 Y; rw [hN] at hb
     conv => lhs; rw [← aj (Y.af false b (pc ts l d))]
     simp only [pc, pcf, aI, Tok.c, bc, aa, if_true, if_false, ab, bU, dY, eH, dQ, cj, eU, i3] at e1 e2 e3 eb ⊢
     generalize aw ts = es at *
     simp (maxDischargeDepth := 8) [xM, hN, hT, hL, hb, e1, e2, e3, eb, i3]
    | ok b4 l4 =>
     have hx := cu hx rfl
     try dsimp only at hx
     have s4 := br h4 rfl; obtain rfl := Option.some.inj hx; refine ⟨s4, fun b Y hb => ?_⟩; have e1 := aJ h1 rfl hb; have e2 := aJ h2 rfl hb; have e3 := ax (aB hr s2 d [101, 108, 115, 101] (b := b)) (s := Y) hb; have e4 := aJ h4 rfl hb; rw [nB]; obtain ⟨N, T, Lb, hN, hT, hL⟩ := lens3 Y; rw [hN] at hb
     conv => lhs; rw [← aj (Y.af false b (pc ts l d))]
     simp only [pc, pcf, aI, Tok.c, bc, aa, if_true, if_false, ab, bU, dY, eH, dQ, cj, eU, i3] at e1 e2 e3 e4 ⊢
     generalize aw ts = es at *
     simp (maxDischargeDepth := 8) [xM, hN, hT, hL, hb, e1, e2, e3, e4, i3]
   | false =>
    rw [if_neg (by rw [i3]; decide)] at hx; obtain rfl := Option.some.inj hx; refine ⟨s2, fun b Y hb => ?_⟩; have e1 := aJ h1 rfl hb; have e2 := aJ h2 rfl hb; have e3 := ax (aB hr s2 d [101, 108, 115, 101] (b := b)) (s := Y) hb; rw [nB]; obtain ⟨N, T, Lb, hN, hT, hL⟩ := lens3 Y; rw [hN] at hb
    conv => lhs; rw [← aj (Y.af false b (pc ts l d))]
    simp only [pc, pcf, aI, Tok.c, bc, aa, if_true, if_false, ab, bU, dY, eH, dQ, cj, eU, i3] at e1 e2 e3 ⊢
    generalize aw ts = es at *
    simp (maxDischargeDepth := 8) [xM, hN, hT, hL, hb, e1, e2, e3, i3]
end
end Go.Proofs.YtlhlijaondmccaaDoor.S
namespace Go.Proofs.YtlhlijaondmccaaDoor.S
open Go Go.AM Go.Proofs
def gq (T : Nat) (tk : List (Nat × Nat)) (c : Cap) (n sz : Nat) : Prop := (c = .nil ∨ c = .full) ∨ ∃ j, c = .own .fr (T + j) n ∧ tk[j]? = some (n, sz)
theorem gq.grow {T : Nat} {tk : List (Nat × Nat)} {c : Cap} {sz bytes : Nat} {es ys : List (List PV)} (h : gq T tk c es.length sz) {b : Nat} {cs : List PV} {Y : St} (hT : Y.tk.length = T)
 (h1 : (es.length + ys.length) * bytes ≤ dE) (h2 : cK sz es = true) (h3 : cK sz ys = true) (h4 : sz ≠ 0) (h5 : bytes ≠ 0) :
 ∃ c' tk', (∀ (bl : List Blk) (lp : List Aux) (base : Nat) (z : List PV), ej base z sz bytes (.sl es c) ys ((Y.af false b cs).app bl tk lp) = some (.sl (es ++ ys) c', (Y.af false b cs).app bl tk' lp)) ∧ gq T tk' c' (es ++ ys).length sz := by
 subst hT; exact sJ (s := Y.af false b cs) h h1 h2 h3 h4 h5
theorem Cm {sz : Nat} {z cs cs' : List PV} (hz : z.length = sz) (hc : cs.length = sz) (hp : cC cs = some cs') (hc' : cs'.length = sz) : bj sz z 1 [(0, .agg cs)] = some (.sl [cs'] .full) := by
 have h1 : laid (fV 1 z) 0 cs = cs := by
  have := laidB [] z [] cs (by omega); simpa [fV] using this
 have h2 : di (0 + sz) (fV 1 z).length = true := by simp [fV, hz]
 have h3 : ai cs.length sz = true := by rw [hc]; exact Nat.beq_refl _
 simp only [bj, jI, cm, AM.cellsOf, h3, Nat.zero_mul, h2, bn, cond_true, h1, ag, hp, chunks]; rw [List.take_of_length_le (by omega)]
theorem wV (l : List X) : cK 9 (eJ l) = true := by rw [nP]; exact jG _ X.len l
theorem zt (a b : List X) : eJ (a ++ b) = eJ a ++ eJ b := by simp only [nP, List.map_append]
theorem uP (l : List S) : cK 58 (fa l) = true := by rw [mI]; exact jG _ S.len l
theorem yx (a b : List S) : fa (a ++ b) = fa a ++ fa b := by simp only [mI, List.map_append]
attribute [local simp] cV cy bR bS cz eY fk ef db ec cZ ed da fj bT gQ dV gR gL gG AM.ae aP aQ ba aO aD AM.onG fJ cd ep Ex.bf cond_true cond_false cR cQ cP cO cN cT cM cU cS eg dc de cx cW AM.dj AM.cellsOf AM.av bP beq_true cK ak aA aZ bx bQ decide_true decide_false bI bA bn bz aY aC ay bu aR cX cY fg az bH bw bN cv dU dZ cG eu et set_set eB dy fG dz cF bC dx dw cE dv eA eC fA fB bD cf en fw dN aK aS aE AM.aV ah cL bL bq aW aN aM AM.part bg aL bY cc bZ bX bX.eK AM.dL bB cq dG fv aK laid aG aX cm
attribute [-simp] ag
attribute [local congr] dH
def DH (ts : List Tok) (d : Nat) (acc : List X) (l : List Tok) (x : PR (List X)) : Prop := match x with
 | .ok xs l' => Sfx ts l' ∧ ∀ b (Y : St), b < Y.stk.length → ∀ N T Lb, Y.stk.length = N → Y.tk.length = T → Y.lp.length = Lb → ∀ c tk q, gq T tk c acc.length 9 → ∃ c' tk',
  itE (nC.b0 (E L) itE N Lb) [.ptr false b 0, q, .sl (eJ acc) c] ((Y.af false b (pc ts l d)).app [] tk []) = some (.ret, [.ptr false b 0, .sl (eJ xs) c', .sl (eJ xs) c'], (Y.af false b (pc ts l' d)).app [] tk' [])
 | .bad er p => ∃ a' d'', ∀ b (Y : St), b < Y.stk.length → ∀ N T Lb, Y.stk.length = N → Y.tk.length = T → Y.lp.length = Lb → ∀ c tk q, gq T tk c acc.length 9 → ∃ y z tk',
  itE (nC.b0 (E L) itE N Lb) [.ptr false b 0, q, .sl (eJ acc) c] ((Y.af false b (pc ts l d)).app [] tk []) = some (.pan 92 (.agg #[]), [.ptr false b 0, y, z], (Y.af false b (pcf (aw ts) a' d'' er p.1 p.2)).app [] tk' [])
section
variable {ts : List Tok} (hr : Row ts) {m : Nat} (ihe : lF ts m)
include hr ihe
theorem vm {d : Nat} (hd12 : d ≤ 12) : ∀ n acc l x, acc.length + n ≤ 1000000 → Sfx ts l → qf n m d acc l = some x → DH ts d acc l x := by
 intro n
 induction n with
 | zero => intro acc l x _ _ hx; simp [qf] at hx
 | succ n ih =>
  intro acc l x hac h hx; simp only [qf] at hx; obtain ⟨y, hy⟩ := dq hx; rw [hy] at hx; have h1 := jU hr ihe hd12 h hy
  cases y with
  | bad er q =>
   obtain rfl := bF hx rfl; obtain ⟨a', d'', e1⟩ := bm h1 rfl; refine ⟨a', d'', fun b Y hb N T Lb hN hT hL c tk q ho => ⟨q, .sl (eJ acc) c, tk, ?_⟩⟩; have e1 := e1 hb; simp only [pc, pcf] at e1 ⊢
   generalize aw ts = es at *
   apply im; simp [nC.b0, hN, hT, hL, hb, e1]
  | ok e l1 =>
   have hx := cu hx rfl
   try dsimp only at hx
   have s1 := br h1 rfl
   have own : ∀ (b : Nat) (Y : St) (T : Nat), Y.tk.length = T → ∀ c tk, gq T tk c acc.length 9 → ∃ c' tk', (∀ (bl : List Blk) (lp : List Aux) (base : Nat) (z : List PV), ej base z 9 104 (.sl (eJ acc) c) [e.enc] ((Y.af false b (pc ts l1 d)).app bl tk lp) = some (.sl (eJ (acc ++ [e])) c', (Y.af false b (pc ts l1 d)).app bl tk' lp)) ∧ gq T tk' c' (acc ++ [e]).length 9 := by
    intro b Y T hT c tk ho; rw [← lR] at ho; have := ho.grow (ys := [e.enc]) (bytes := 104) (b := b) (cs := pc ts l1 d) hT (by rw [lR, bE]; unfold dE; omega) (wV _) (by simpa [eJ] using wV [e]) (by omega) (by omega); simpa [zt, eJ, lR] using this
   have hl := Cm (sz := 9) (z := z9) rfl (X.len e) (X.pl e) (X.len e)
   cases i2 : isT l1 [41] with
   | true =>
    rw [if_pos i2] at hx; obtain rfl := Option.some.inj hx; refine ⟨s1.isT hr i2, fun b Y hb N T Lb hN hT hL c tk q ho => ?_⟩; obtain ⟨c', tk', ea, _⟩ := own b Y T hT c tk ho; refine ⟨c', tk', ?_⟩; have e1 := aJ h1 rfl hb; have e2 := ax (aB hr s1 d [41] (b := b)) (s := Y) hb; simp only [pc, pcf, bU, i2, if_true] at e1 e2 ea ⊢
    generalize aw ts = es at *
    apply eL; simp [nC.b0, hN, hT, hL, hb, e1, e2, hl, cw, ea, i2]
   | false =>
    rw [if_neg (by rw [i2]; decide)] at hx; have h3 := eG hr s1 d [44]
    cases x3 : dt [44] l1 with
    | bad er q =>
     obtain rfl := bF hx x3; obtain ⟨a', d'', eb⟩ := bm h3 x3; refine ⟨a', d'', fun b Y hb N T Lb hN hT hL c tk q ho => ?_⟩; obtain ⟨c', tk', ea, _⟩ := own b Y T hT c tk ho; refine ⟨q, .sl (eJ (acc ++ [e])) c', tk', ?_⟩; have e1 := aJ h1 rfl hb; have e2 := ax (aB hr s1 d [41] (b := b)) (s := Y) hb; have eb := eb hb; simp only [pc, pcf, bU, aI, i2, if_false, ab] at e1 e2 ea eb ⊢
     generalize aw ts = es at *
     apply im; simp [nC.b0, hN, hT, hL, hb, e1, e2, hl, cw, ea, eb, i2]
    | ok u l3 =>
     have hx := cu hx x3
     try dsimp only at hx
     have s3 := br h3 x3; have h4 := ih (acc ++ [e]) l3 x (by simp only [bh, bE]; omega) s3 hx
     have stp : ∀ b (Y : St), b < Y.stk.length → ∀ N T Lb, Y.stk.length = N → Y.tk.length = T → Y.lp.length = Lb → ∀ c tk q, gq T tk c acc.length 9 → ∃ c' tk', gq T tk' c' (acc ++ [e]).length 9 ∧
      nC.b0 (E L) itE N Lb [.ptr false b 0, q, .sl (eJ acc) c] ((Y.af false b (pc ts l d)).app [] tk []) = some (.normal, [.ptr false b 0, q, .sl (eJ (acc ++ [e])) c'], (Y.af false b (pc ts l3 d)).app [] tk' []) := by
      intro b Y hb N T Lb hN hT hL c tk q ho; obtain ⟨c', tk', ea, ho'⟩ := own b Y T hT c tk ho; refine ⟨c', tk', ho', ?_⟩; have e1 := aJ h1 rfl hb; have e2 := ax (aB hr s1 d [41] (b := b)) (s := Y) hb; have e3 := aJ h3 x3 hb; simp only [pc, pcf, bU, aI, i2, if_false, ab] at e1 e2 e3 ea ⊢
      generalize aw ts = es at *
      simp [nC.b0, hN, hT, hL, hb, e1, e2, e3, hl, cw, ea, i2]
     cases x with
     | ok xs l' =>
      refine ⟨h4.1, fun b Y hb N T Lb hN hT hL c tk q ho => ?_⟩; obtain ⟨c1, tk1, ho1, hs⟩ := stp b Y hb N T Lb hN hT hL c tk q ho; obtain ⟨c', tk', hit⟩ := h4.2 b Y hb N T Lb hN hT hL c1 tk1 q ho1; exact ⟨c', tk', (bW hs).trans hit⟩
     | bad er p =>
      obtain ⟨a', d'', h4⟩ := h4; refine ⟨a', d'', fun b Y hb N T Lb hN hT hL c tk q ho => ?_⟩; obtain ⟨c1, tk1, ho1, hs⟩ := stp b Y hb N T Lb hN hT hL c tk q ho; obtain ⟨y, z, tk', hit⟩ := h4 b Y hb N T Lb hN hT hL c1 tk1 q ho1; exact ⟨y, z, tk', (bW hs).trans hit⟩
theorem Ba {d : Nat} {l : List Tok} {x : PR (List X)} (hd12 : d ≤ 12) (hm : m ≤ 1000000) (h : Sfx ts l) (hx : tM m d l = some x) : Rd 121 [] ts d d l fe x := by
 unfold tM at hx; have h1 := eG hr h d [40]
 cases x1 : dt [40] l with
 | bad e q =>
  obtain rfl := bF hx x1; obtain ⟨a', d'', eb⟩ := bm h1 x1; refine ⟨a', d'', fun b Y hb => ?_⟩; have eb := eb hb; rw [pO]; obtain ⟨N, T, Lb, hN, hT, hL⟩ := lens3 Y; rw [hN] at hb
  conv => lhs; rw [← aj (Y.af false b (pc ts l d))]
  simp only [pc, pcf, aI] at eb ⊢
  generalize aw ts = es at *
  simp [nC, hN, hT, hL, hb, eb]
 | ok u l1 =>
  have hx := cu hx x1
  try dsimp only at hx
  have s1 := br h1 x1
  cases i2 : isT l1 [41] with
  | true =>
   rw [if_pos i2] at hx; obtain rfl := Option.some.inj hx; refine ⟨s1.isT hr i2, fun b Y hb => ?_⟩; have e1 := aJ h1 x1 hb; have e2 := ax (aB hr s1 d [41] (b := b)) (s := Y) hb; rw [pO]; obtain ⟨N, T, Lb, hN, hT, hL⟩ := lens3 Y; rw [hN] at hb
   conv => lhs; rw [← aj (Y.af false b (pc ts l d))]
   simp only [pc, pcf, aI, i2, if_true] at e1 e2 ⊢
   generalize aw ts = es at *
   simp [nC, hN, hT, hL, hb, e1, e2, i2, eJ]
  | false =>
   rw [if_neg (by rw [i2]; decide)] at hx; have h3 := vm hr ihe hd12 m [] l1 x (by simpa using hm) s1 hx
   cases x with
   | bad er q =>
    obtain ⟨a', d'', h3⟩ := h3; refine ⟨a', d'', fun b Y hb => ?_⟩; have e1 := aJ h1 x1 hb; have e2 := ax (aB hr s1 d [41] (b := b)) (s := Y) hb; obtain ⟨y, z, tk', hit⟩ := h3 b Y hb _ _ _ rfl rfl rfl .nil [] (.sl [] .nil) (.inl (.inl rfl)); rw [pO]; obtain ⟨N, T, Lb, hN, hT, hL⟩ := lens3 Y; rw [hN] at hb; rw [hN] at hit
    conv => lhs; rw [← aj (Y.af false b (pc ts l d))]
    rw [hL] at hit; simp only [pc, pcf, aI, eJ, i2, if_false, ab] at e1 e2 hit ⊢
    generalize aw ts = es at *
    simp [nC, hN, hT, hL, hb, e1, e2, i2, hit, Ex.bf]
   | ok xs l3 =>
    refine ⟨h3.1, fun b Y hb => ?_⟩; have e1 := aJ h1 x1 hb; have e2 := ax (aB hr s1 d [41] (b := b)) (s := Y) hb; obtain ⟨c', tk', hit⟩ := h3.2 b Y hb _ _ _ rfl rfl rfl .nil [] (.sl [] .nil) (.inl (.inl rfl)); rw [pO]; obtain ⟨N, T, Lb, hN, hT, hL⟩ := lens3 Y; rw [hN] at hb; rw [hN] at hit
    conv => lhs; rw [← aj (Y.af false b (pc ts l d))]
    rw [hL] at hit; simp only [pc, pcf, aI, eJ, i2, if_false, ab] at e1 e2 hit ⊢
    generalize aw ts = es at *
    simp [nC, hN, hT, hL, hb, e1, e2, i2, hit, Ex.bf]
end
end Go.Proofs.YtlhlijaondmccaaDoor.S
namespace Go.Proofs.YtlhlijaondmccaaDoor.S
open Go Go.AM Go.Proofs
attribute [local simp] cV cy bR bS cz eY fk ef db ec cZ ed da fj bT gQ dV gR gL gG AM.ae aP aQ ba aO aD AM.onG fJ cd ep Ex.bf cond_true cond_false cR cQ cP cO cN cT cM cU cS eg dc de cx cW AM.dj AM.cellsOf AM.av bP beq_true cK ak aA aZ bx bQ decide_true decide_false bI bA bn bz aY aC ay bu aR cX cY fg az bH bw bN cv dU dZ cG eu et set_set eB dy fG dz cF bC dx dw cE dv eA eC fA fB bD cf en fw dN aK aS aE AM.aV ah cL bL bq aW aN aM AM.part bg aL bY cc bZ bX bX.eK AM.dL bB cq dG fv aK laid aG aX cm
attribute [-simp] ag
attribute [local congr] dH
def AX (ts : List Tok) (d : Nat) (acc : List S) (l : List Tok) (x : PR (List S)) : Prop := match x with
 | .ok xs l' => Sfx ts l' ∧ ∀ b (Y : St), b < Y.stk.length → ∀ N T Lb, Y.stk.length = N → Y.tk.length = T → Y.lp.length = Lb → ∀ c tk, gq T tk c acc.length 58 → ∃ c' tk',
  itE (S45.b0 (E L) itE N Lb) [.ptr false b 0, .sl (fa acc) c] ((Y.af false b (pc ts l d)).app [] tk []) = some (.exit 0, [.ptr false b 0, .sl (fa xs) c'], (Y.af false b (pc ts l' d)).app [] tk' [])
 | .bad er p => ∃ a' d'', ∀ b (Y : St), b < Y.stk.length → ∀ N T Lb, Y.stk.length = N → Y.tk.length = T → Y.lp.length = Lb → ∀ c tk, gq T tk c acc.length 58 → ∃ z tk',
  itE (S45.b0 (E L) itE N Lb) [.ptr false b 0, .sl (fa acc) c] ((Y.af false b (pc ts l d)).app [] tk []) = some (.pan 92 (.agg #[]), [.ptr false b 0, z], (Y.af false b (pcf (aw ts) a' d'' er p.1 p.2)).app [] tk' [])
section
variable {ts : List Tok} (hr : Row ts) {n : Nat} (ih : qc ts n)
include hr ih
theorem Dw (ihr : ∀ d acc l x, d ≤ 12 → acc.length + n ≤ 1000000 → Sfx ts l → rD n d acc l = some x → AX ts d acc l x) :
 ∀ d acc l x, d ≤ 12 → acc.length + (n + 1) ≤ 1000000 → Sfx ts l → rD (n + 1) d acc l = some x → AX ts d acc l x := by
 intro d acc l x hd12 hac h hx; simp only [rD] at hx
 cases i1 : isT l [125] with
 | true =>
  rw [if_pos i1] at hx; obtain rfl := Option.some.inj hx; refine ⟨h.isT hr i1, fun b Y hb N T Lb hN hT hL c tk ho => ⟨c, tk, ?_⟩⟩; have e1 := ax (aB hr h d [125] (b := b)) (s := Y) hb; simp only [pc, pcf, i1, if_true] at e1 ⊢
  generalize aw ts = es at *
  apply hG; simp [S45.b0, hN, hT, hL, hb, e1, i1]
 | false =>
  rw [if_neg (by rw [i1]; decide)] at hx; obtain ⟨y, hy⟩ := dq hx; rw [hy] at hx; have h2 := ih.st d l y hd12 h hy
  cases y with
  | bad er q =>
   obtain rfl := bF hx rfl; obtain ⟨a', d'', eb⟩ := bm h2 rfl; refine ⟨a', d'', fun b Y hb N T Lb hN hT hL c tk ho => ⟨.sl (fa acc) c, tk, ?_⟩⟩; have e1 := ax (aB hr h d [125] (b := b)) (s := Y) hb; have eb := eb hb; simp only [pc, pcf, dQ, i1, if_false, ab] at e1 eb ⊢
   generalize aw ts = es at *
   apply im; simp [S45.b0, hN, hT, hL, hb, e1, eb, i1]
  | ok s l1 =>
   have hx := cu hx rfl
   try dsimp only at hx
   have s1 := br h2 rfl
   have own : ∀ (b : Nat) (Y : St) (T : Nat), Y.tk.length = T → ∀ c tk, gq T tk c acc.length 58 → ∃ c' tk', (∀ (bl : List Blk) (lp : List Aux) (base : Nat) (z : List PV), ej base z 58 688 (.sl (fa acc) c) [s.enc] ((Y.af false b (pc ts l1 d)).app bl tk lp) = some (.sl (fa (acc ++ [s])) c', (Y.af false b (pc ts l1 d)).app bl tk' lp)) ∧ gq T tk' c' (acc ++ [s]).length 58 := by
    intro b Y T hT c tk ho; rw [← lr] at ho; have := ho.grow (ys := [s.enc]) (bytes := 688) (b := b) (cs := pc ts l1 d) hT (by rw [lr, bE]; unfold dE; omega) (uP _) (by simpa [fa] using uP [s]) (by omega) (by omega); simpa [yx, fa, lr] using this
   have hl := Cm (sz := 58) (z := y58 0 0) rfl (S.len s) (S.pl s) (S.len s); have h4 := ihr d (acc ++ [s]) l1 x hd12 (by simp only [bh, bE]; omega) s1 hx
   have stp : ∀ b (Y : St), b < Y.stk.length → ∀ N T Lb, Y.stk.length = N → Y.tk.length = T → Y.lp.length = Lb → ∀ c tk, gq T tk c acc.length 58 → ∃ c' tk', gq T tk' c' (acc ++ [s]).length 58 ∧
    S45.b0 (E L) itE N Lb [.ptr false b 0, .sl (fa acc) c] ((Y.af false b (pc ts l d)).app [] tk []) = some (.normal, [.ptr false b 0, .sl (fa (acc ++ [s])) c'], (Y.af false b (pc ts l1 d)).app [] tk' []) := by
    intro b Y hb N T Lb hN hT hL c tk ho; obtain ⟨c', tk', ea, ho'⟩ := own b Y T hT c tk ho; refine ⟨c', tk', ho', ?_⟩; have e1 := ax (aB hr h d [125] (b := b)) (s := Y) hb; have e2 := aJ h2 rfl hb; simp only [pc, pcf, dQ, i1, if_false, ab] at e1 e2 ea ⊢
    generalize aw ts = es at *
    simp [S45.b0, hN, hT, hL, hb, e1, e2, wt, hl, cw, ea, i1]
   cases x with
   | ok xs l' =>
    refine ⟨h4.1, fun b Y hb N T Lb hN hT hL c tk ho => ?_⟩; obtain ⟨c1, tk1, ho1, hs⟩ := stp b Y hb N T Lb hN hT hL c tk ho; obtain ⟨c', tk', hit⟩ := h4.2 b Y hb N T Lb hN hT hL c1 tk1 ho1; exact ⟨c', tk', (bW hs).trans hit⟩
   | bad er p =>
    obtain ⟨a', d'', h4⟩ := h4; refine ⟨a', d'', fun b Y hb N T Lb hN hT hL c tk ho => ?_⟩; obtain ⟨c1, tk1, ho1, hs⟩ := stp b Y hb N T Lb hN hT hL c tk ho; obtain ⟨z, tk', hit⟩ := h4 b Y hb N T Lb hN hT hL c1 tk1 ho1; exact ⟨z, tk', (bW hs).trans hit⟩
end
theorem zl {ts : List Tok} (hr : Row ts) {n : Nat} (hn : n ≤ 1000000) (ihr : ∀ d acc l x, d ≤ 12 → acc.length + n ≤ 1000000 → Sfx ts l → rD n d acc l = some x → AX ts d acc l x) :
 ∀ d l x, d ≤ 12 → Sfx ts l → gi (n + 1) d l = some x → Rd 45 [] ts d d l cj x := by
 intro d l x hd12 h hx; simp only [gi] at hx; have h1 := eG hr h d [123]
 cases x1 : dt [123] l with
 | bad e q =>
  obtain rfl := bF hx x1; obtain ⟨a', d'', eb⟩ := bm h1 x1; refine ⟨a', d'', fun b Y hb => ?_⟩; have eb := eb hb; rw [sH]; obtain ⟨N, T, Lb, hN, hT, hL⟩ := lens3 Y; rw [hN] at hb
  conv => lhs; rw [← aj (Y.af false b (pc ts l d))]
  simp only [pc, pcf, aI] at eb ⊢
  generalize aw ts = es at *
  simp [S45, hN, hT, hL, hb, eb]
 | ok t l1 =>
  have hx := cu hx x1
  try dsimp only at hx
  have s1 := br h1 x1; have h2 := sU s1 d t (by omega); unfold qt at hx
  by_cases hdd : 12 < d + 1
  · rw [if_pos hdd] at hx h2
    obtain rfl := Option.some.inj hx; obtain ⟨a', d'', eb⟩ := bm h2 rfl; refine ⟨a', d'', fun b Y hb => ?_⟩; have e1 := aJ h1 x1 hb; have eb := eb hb; rw [sH]; obtain ⟨N, T, Lb, hN, hT, hL⟩ := lens3 Y; rw [hN] at hb
    conv => lhs; rw [← aj (Y.af false b (pc ts l d))]
    simp only [pc, pcf, aI, Tok.c, bc] at e1 eb ⊢
    generalize aw ts = es at *
    simp [S45, hN, hT, hL, hb, e1, eb]
  · rw [if_neg hdd] at hx h2
    have h3 := ihr (d + 1) [] l1 x (by omega) (by simpa using hn) s1 hx
    have w1 : IntKind.i64.wrap (((d + 1 : Nat) : Int) - 1) = (d : Int) := by rw [IntWalk.i64_in _ (by omega)]; omega
    cases x with
    | bad er q =>
     obtain ⟨a', d'', h3⟩ := h3; refine ⟨a', d'', fun b Y hb => ?_⟩; have e1 := aJ h1 x1 hb; have e2 := aJ h2 rfl hb; obtain ⟨z, tk', hit⟩ := h3 b Y hb _ _ _ rfl rfl rfl .nil [] (.inl (.inl rfl)); rw [sH]; obtain ⟨N, T, Lb, hN, hT, hL⟩ := lens3 Y; rw [hN] at hb; rw [hN] at hit
     conv => lhs; rw [← aj (Y.af false b (pc ts l d))]
     rw [hL] at hit; simp only [pc, pcf, aI, Tok.c, bc, fa] at e1 e2 hit ⊢
     generalize ((d + 1 : Nat) : Int) = d1 at *
     generalize aw ts = es at *
     simp [S45, hN, hT, hL, hb, e1, e2, hit, Ex.bf]
    | ok xs l3 =>
     refine ⟨h3.1, fun b Y hb => ?_⟩; have e1 := aJ h1 x1 hb; have e2 := aJ h2 rfl hb; obtain ⟨c', tk', hit⟩ := h3.2 b Y hb _ _ _ rfl rfl rfl .nil [] (.inl (.inl rfl)); rw [sH]; obtain ⟨N, T, Lb, hN, hT, hL⟩ := lens3 Y; rw [hN] at hb; rw [hN] at hit
     conv => lhs; rw [← aj (Y.af false b (pc ts l d))]
     rw [hL] at hit; simp only [pc, pcf, aI, Tok.c, bc, fa] at e1 e2 hit ⊢
     generalize ((d + 1 : Nat) : Int) = d1 at *
     generalize aw ts = es at *
     simp [S45, hN, hT, hL, hb, e1, e2, hit, w1, Ex.bf]
end Go.Proofs.YtlhlijaondmccaaDoor.S
namespace Go.Proofs.YtlhlijaondmccaaDoor.S
open Go Go.AM Go.Proofs
attribute [local simp] cV cy bR bS cz eY fk ef db ec cZ ed da fj bT gQ dV gR gL gG AM.ae aP aQ ba aO aD AM.onG fJ cd ep Ex.bf cond_true cond_false cR cQ cP cO cN cT cM cU cS eg dc de cx cW AM.dj AM.cellsOf AM.av bP beq_true cK ak aA aZ bx bQ decide_true decide_false bI bA bn bz aY aC ay bu aR cX cY fg az bH bw bN cv dU dZ cG eu et set_set eB dy fG dz cF bC dx dw cE dv eA eC fA fB bD cf en fw dN aK aS aE AM.aV ah cL bL bq aW aN aM AM.part bg aL bY cc bZ bX bX.eK AM.dL bB cq dG fv aK laid aG aX cm
attribute [-simp] ag
attribute [local congr] dH
attribute [local simp] vn wL wM tP tQ tR tS Ce ze zf wN zg Cd vo zd wt xI xK xJ vb AL xD xG AN xE xH Cx AI AJ AK xC xF X.len Pl.len Rt.len X.okc Pl.okc Rt.okc X.fl Pl.fl Rt.fl X.ke Pl.ke Rt.ke S.wU S.len S.okc S.fl S.ke S.can S.take ft oK zp eJ fa
theorem nZ {l : List Tok} {s : List UInt8} (h : isT l s = true) : (hd l).text = s := by
 unfold isT at h; simp only [an, decide_eq_true_eq] at h; exact h.2
theorem Sfx.label {ts l : List Tok} (hr : Row ts) (h : Sfx ts l) : Sfx ts (gm l).2 := by
 unfold gm; split
 · exact h.next hr
 · exact h
section
variable {ts : List Tok} (hr : Row ts) {n : Nat} (hn : n ≤ 1000000) (ihe : lF ts n) (ih : qc ts n)
include hr hn ihe ih
theorem yF {d : Nat} {l : List Tok} {x : PR S} (hd12 : d ≤ 12) (h : Sfx ts l) (k1 : (hd l).kind = 1) (hx : (if isT (dJ l) [58] then pb (some (dt [108, 111, 111, 112] (dJ l).tail)) fun _ l1 => lY n d (hd l) (bs (hd l).text) l1
 else pb (some (dt [61] (dJ l))) fun _ l1 => pb (ko n d l1) fun r l2 => gu (mkS (hd l) 3 (bs (hd l).text) r pl0 x0 0 [] [] []) l2) = some x) : Rd 82 [] ts d d l dQ x := by
 have e67 := fun b (Y : St) hb => ax (dF h d 0 0 0 (b := b)) (s := Y) hb
 have h1 := xS hr ihe ih d l x hd12 h hx
 cases x with
 | bad e q =>
  obtain ⟨a', d'', eb⟩ := bm h1 rfl; refine ⟨a', d'', fun b Y hb => ?_⟩; have eb := eb hb; have e67 := e67 b Y hb; rw [dM]; obtain ⟨N, T, Lb, hN, hT, hL⟩ := lens3 Y; rw [hN] at hb
  conv => lhs; rw [← aj (Y.af false b (pc ts l d))]
  simp only [pc, pcf, aI, Tok.c, bc, aa, if_true, if_false, ab, bU, dY, eH, dQ, cj, eU, k1] at e67 eb ⊢
  generalize aw ts = es at *
  simp (maxDischargeDepth := 8) [S82, hN, hT, hL, hb, e67, eb, k1]
 | ok v1 l1 =>
  refine ⟨br h1 rfl, fun b Y hb => ?_⟩; have e67 := e67 b Y hb; have e1 := aJ h1 rfl hb; rw [dM]; obtain ⟨N, T, Lb, hN, hT, hL⟩ := lens3 Y; rw [hN] at hb
  conv => lhs; rw [← aj (Y.af false b (pc ts l d))]
  simp only [pc, pcf, aI, Tok.c, bc, aa, if_true, if_false, ab, bU, dY, eH, dQ, cj, eU, k1] at e67 e1 ⊢
  generalize aw ts = es at *
  simp (maxDischargeDepth := 8) [S82, hN, hT, hL, hb, e67, e1, k1]
theorem yE {d : Nat} {l : List Tok} {x : PR S} (hd12 : d ≤ 12) (h : Sfx ts l) (k1 : (hd l).kind ≠ 1)  (pk : isT l [108, 111, 111, 112] = true) (hx : lY n d (hd l) (bs []) l.tail = some x) : Rd 82 [] ts d d l dQ x := by
 have e67 := fun b (Y : St) hb => ax (dF h d 0 0 0 (b := b)) (s := Y) hb
 have g0 := fun b (Y : St) hb => ax (aB hr h d [108, 111, 111, 112] (b := b)) (s := Y) hb
 have k1' : ¬ (((hd l).kind : Int) = 1) := by omega
 have s0 := h.isT hr pk; have h1 := ih.lp _ _ _ _ _ hd12 s0 hx
 cases x with
 | bad e q =>
  obtain ⟨a', d'', eb⟩ := bm h1 rfl; refine ⟨a', d'', fun b Y hb => ?_⟩; have eb := eb hb; have e67 := e67 b Y hb; have f0 := g0 b Y hb; rw [dM]; obtain ⟨N, T, Lb, hN, hT, hL⟩ := lens3 Y; rw [hN] at hb
  conv => lhs; rw [← aj (Y.af false b (pc ts l d))]
  simp only [pc, pcf, aI, Tok.c, bc, aa, if_true, if_false, ab, bU, dY, eH, dQ, cj, eU, fe, pk] at e67 f0 eb ⊢
  generalize aw ts = es at *
  simp (maxDischargeDepth := 8) [S82, hN, hT, hL, hb, e67, f0, eb, pk, k1, k1']
 | ok v1 l1 =>
  refine ⟨br h1 rfl, fun b Y hb => ?_⟩; have e67 := e67 b Y hb; have f0 := g0 b Y hb; have e1 := aJ h1 rfl hb; rw [dM]; obtain ⟨N, T, Lb, hN, hT, hL⟩ := lens3 Y; rw [hN] at hb
  conv => lhs; rw [← aj (Y.af false b (pc ts l d))]
  simp only [pc, pcf, aI, Tok.c, bc, aa, if_true, if_false, ab, bU, dY, eH, dQ, cj, eU, fe, pk] at e67 f0 e1 ⊢
  generalize aw ts = es at *
  simp (maxDischargeDepth := 8) [S82, hN, hT, hL, hb, e67, f0, e1, pk, k1, k1']
theorem B7 {d : Nat} {l : List Tok} {x : PR S} (hd12 : d ≤ 12) (h : Sfx ts l) (k1 : (hd l).kind ≠ 1) (p0 : isT l [108, 111, 111, 112] = false) (pk : isT l [105, 102] = true) (hx : (pb (fK n 0 d l.tail) fun e l1 => pb (gi n d l1) fun b l2 =>
 (if isT l2 [101, 108, 115, 101] then pb (gi n d l2.tail) fun c l3 => some (.ok (mkS (hd l) 6 (bs []) rt0 pl0 e 0 [] b c) l3) else some (.ok (mkS (hd l) 6 (bs []) rt0 pl0 e 0 [] b []) l2))) = some x) : Rd 82 [] ts d d l dQ x := by
 have e67 := fun b (Y : St) hb => ax (dF h d 0 0 0 (b := b)) (s := Y) hb
 have g0 := fun b (Y : St) hb => ax (aB hr h d [108, 111, 111, 112] (b := b)) (s := Y) hb
 have g1 := fun b (Y : St) hb => ax (aB hr h d [105, 102] (b := b)) (s := Y) hb
 have k1' : ¬ (((hd l).kind : Int) = 1) := by omega
 have s0 := h.isT hr pk; have h1 := xR hr ihe ih d (hd l) l.tail x hd12 s0 hx
 cases x with
 | bad e q =>
  obtain ⟨a', d'', eb⟩ := bm h1 rfl; refine ⟨a', d'', fun b Y hb => ?_⟩; have eb := eb hb; have e67 := e67 b Y hb; have f0 := g0 b Y hb; have f1 := g1 b Y hb; rw [dM]; obtain ⟨N, T, Lb, hN, hT, hL⟩ := lens3 Y; rw [hN] at hb
  conv => lhs; rw [← aj (Y.af false b (pc ts l d))]
  simp only [pc, pcf, aI, Tok.c, bc, aa, if_true, if_false, ab, bU, dY, eH, dQ, cj, eU, fe, p0, pk] at e67 f0 f1 eb ⊢
  generalize aw ts = es at *
  simp (maxDischargeDepth := 8) [S82, hN, hT, hL, hb, e67, f0, f1, eb, p0, pk, k1, k1']
 | ok v1 l1 =>
  refine ⟨br h1 rfl, fun b Y hb => ?_⟩; have e67 := e67 b Y hb; have f0 := g0 b Y hb; have f1 := g1 b Y hb; have e1 := aJ h1 rfl hb; rw [dM]; obtain ⟨N, T, Lb, hN, hT, hL⟩ := lens3 Y; rw [hN] at hb
  conv => lhs; rw [← aj (Y.af false b (pc ts l d))]
  simp only [pc, pcf, aI, Tok.c, bc, aa, if_true, if_false, ab, bU, dY, eH, dQ, cj, eU, fe, p0, pk] at e67 f0 f1 e1 ⊢
  generalize aw ts = es at *
  simp (maxDischargeDepth := 8) [S82, hN, hT, hL, hb, e67, f0, f1, e1, p0, pk, k1, k1']
theorem uV {d : Nat} {l : List Tok} {x : PR S} (hd12 : d ≤ 12) (h : Sfx ts l) (k1 : (hd l).kind ≠ 1) (p0 : isT l [108, 111, 111, 112] = false) (p1 : isT l [105, 102] = false) (pk : isT l [97, 116, 111, 109, 105, 99] = true) (hx : (pb (gi n d l.tail) fun b l1 => some (.ok (mkS (hd l) 10 (bs []) rt0 pl0 x0 0 [] b []) l1)) = some x) : Rd 82 [] ts d d l dQ x := by
 have e67 := fun b (Y : St) hb => ax (dF h d 0 0 0 (b := b)) (s := Y) hb
 have g0 := fun b (Y : St) hb => ax (aB hr h d [108, 111, 111, 112] (b := b)) (s := Y) hb
 have g1 := fun b (Y : St) hb => ax (aB hr h d [105, 102] (b := b)) (s := Y) hb
 have g2 := fun b (Y : St) hb => ax (aB hr h d [97, 116, 111, 109, 105, 99] (b := b)) (s := Y) hb
 have k1' : ¬ (((hd l).kind : Int) = 1) := by omega
 have s0 := h.isT hr pk; obtain ⟨y1, hy1⟩ := dq hx; rw [hy1] at hx; have h1 := ih.blk _ _ _ hd12 s0 hy1
 cases y1 with
 | bad e q =>
  obtain rfl := bF hx rfl; obtain ⟨a', d'', eb⟩ := bm h1 rfl; refine ⟨a', d'', fun b Y hb => ?_⟩; have eb := eb hb; have e67 := e67 b Y hb; have f0 := g0 b Y hb; have f1 := g1 b Y hb; have f2 := g2 b Y hb; rw [dM]; obtain ⟨N, T, Lb, hN, hT, hL⟩ := lens3 Y; rw [hN] at hb
  conv => lhs; rw [← aj (Y.af false b (pc ts l d))]
  simp only [pc, pcf, aI, Tok.c, bc, aa, if_true, if_false, ab, bU, dY, eH, dQ, cj, eU, fe, p0, p1, pk] at e67 f0 f1 f2 eb ⊢
  generalize aw ts = es at *
  simp (maxDischargeDepth := 8) [S82, hN, hT, hL, hb, e67, f0, f1, f2, eb, p0, p1, pk, k1, k1']
 | ok b1 l1 =>
  have hx := cu hx rfl
  try dsimp only at hx
  have s1 := br h1 rfl; obtain rfl := Option.some.inj hx; refine ⟨s1, fun b Y hb => ?_⟩; have e67 := e67 b Y hb; have f0 := g0 b Y hb; have f1 := g1 b Y hb; have f2 := g2 b Y hb; have e1 := aJ h1 rfl hb; rw [dM]; obtain ⟨N, T, Lb, hN, hT, hL⟩ := lens3 Y; rw [hN] at hb
  conv => lhs; rw [← aj (Y.af false b (pc ts l d))]
  simp only [pc, pcf, aI, Tok.c, bc, aa, if_true, if_false, ab, bU, dY, eH, dQ, cj, eU, fe, p0, p1, pk] at e67 f0 f1 f2 e1 ⊢
  generalize aw ts = es at *
  simp (maxDischargeDepth := 8) [S82, hN, hT, hL, hb, e67, f0, f1, f2, e1, p0, p1, pk, k1, k1']
theorem Az {d : Nat} {l : List Tok} {x : PR S} (hd12 : d ≤ 12) (h : Sfx ts l) (k1 : (hd l).kind ≠ 1) (p0 : isT l [108, 111, 111, 112] = false) (p1 : isT l [105, 102] = false) (p2 : isT l [97, 116, 111, 109, 105, 99] = false) (pk : isT l [108, 101, 116] = true) (hx : (pb (some (eW 1 (dJ l))) fun u l1 => pb (some (dt [61] l1)) fun _ l2 => pb (ko n d l2) fun r l3 => gu (mkS (hd l) 1 (bs u.text) r pl0 x0 0 [] [] []) l3) = some x) : Rd 82 [] ts d d l dQ x := by
 have e67 := fun b (Y : St) hb => ax (dF h d 0 0 0 (b := b)) (s := Y) hb
 have g0 := fun b (Y : St) hb => ax (aB hr h d [108, 111, 111, 112] (b := b)) (s := Y) hb
 have g1 := fun b (Y : St) hb => ax (aB hr h d [105, 102] (b := b)) (s := Y) hb
 have g2 := fun b (Y : St) hb => ax (aB hr h d [97, 116, 111, 109, 105, 99] (b := b)) (s := Y) hb
 have g3 := fun b (Y : St) hb => ax (jc h d 0 0 0 [108, 101, 116] (b := b)) (s := Y) hb
 have k1' : ¬ (((hd l).kind : Int) = 1) := by omega
 have s0 := h.next hr
 have e151 := fun b (Y : St) hb => ax (jX hr h d (b := b)) (s := Y) hb
 have kt := nZ pk; have h1 := gC hr s0 d 1
 cases x1 : eW 1 (dJ l) with
 | bad e q =>
  obtain rfl := bF hx x1; obtain ⟨a', d'', eb⟩ := bm h1 x1; refine ⟨a', d'', fun b Y hb => ?_⟩; have eb := eb hb; have e67 := e67 b Y hb; have f0 := g0 b Y hb; have f1 := g1 b Y hb; have f2 := g2 b Y hb; have f3 := g3 b Y hb; have e151 := e151 b Y hb; rw [dM]; obtain ⟨N, T, Lb, hN, hT, hL⟩ := lens3 Y; rw [hN] at hb
  conv => lhs; rw [← aj (Y.af false b (pc ts l d))]
  simp only [pc, pcf, aI, Tok.c, bc, aa, if_true, if_false, ab, bU, dY, eH, dQ, cj, eU, fe, p0, p1, p2, pk, kt] at e67 f0 f1 f2 f3 e151 eb ⊢
  generalize aw ts = es at *
  simp (maxDischargeDepth := 8) [S82, hN, hT, hL, hb, e67, f0, f1, f2, f3, e151, eb, p0, p1, p2, pk, kt, k1, k1']
 | ok u1 l1 =>
  have hx := cu hx x1
  try dsimp only at hx
  have s1 := br h1 x1; have h2 := eG hr s1 d [61]
  cases x2 : dt [61] l1 with
  | bad e q =>
   obtain rfl := bF hx x2; obtain ⟨a', d'', eb⟩ := bm h2 x2; refine ⟨a', d'', fun b Y hb => ?_⟩; have eb := eb hb; have e67 := e67 b Y hb; have f0 := g0 b Y hb; have f1 := g1 b Y hb; have f2 := g2 b Y hb; have f3 := g3 b Y hb; have e151 := e151 b Y hb; have e1 := aJ h1 x1 hb; rw [dM]; obtain ⟨N, T, Lb, hN, hT, hL⟩ := lens3 Y; rw [hN] at hb
   conv => lhs; rw [← aj (Y.af false b (pc ts l d))]
   simp only [pc, pcf, aI, Tok.c, bc, aa, if_true, if_false, ab, bU, dY, eH, dQ, cj, eU, fe, p0, p1, p2, pk, kt] at e67 f0 f1 f2 f3 e151 e1 eb ⊢
   generalize aw ts = es at *
   simp (maxDischargeDepth := 8) [S82, hN, hT, hL, hb, e67, f0, f1, f2, f3, e151, e1, eb, p0, p1, p2, pk, kt, k1, k1']
  | ok u2 l2 =>
   have hx := cu hx x2
   try dsimp only at hx
   have s2 := br h2 x2; obtain ⟨y3, hy3⟩ := dq hx; rw [hy3] at hx; have h3 := oZ hr ihe hd12 s2 hy3
   cases y3 with
   | bad e q =>
    obtain rfl := bF hx rfl; obtain ⟨a', d'', eb⟩ := bm h3 rfl; refine ⟨a', d'', fun b Y hb => ?_⟩; have eb := eb hb; have e67 := e67 b Y hb; have f0 := g0 b Y hb; have f1 := g1 b Y hb; have f2 := g2 b Y hb; have f3 := g3 b Y hb; have e151 := e151 b Y hb; have e1 := aJ h1 x1 hb; have e2 := aJ h2 x2 hb; rw [dM]; obtain ⟨N, T, Lb, hN, hT, hL⟩ := lens3 Y; rw [hN] at hb
    conv => lhs; rw [← aj (Y.af false b (pc ts l d))]
    simp only [pc, pcf, aI, Tok.c, bc, aa, if_true, if_false, ab, bU, dY, eH, dQ, cj, eU, fe, p0, p1, p2, pk, kt] at e67 f0 f1 f2 f3 e151 e1 e2 eb ⊢
    generalize aw ts = es at *
    simp (maxDischargeDepth := 8) [S82, hN, hT, hL, hb, e67, f0, f1, f2, f3, e151, e1, e2, eb, p0, p1, p2, pk, kt, k1, k1']
   | ok r3 l3 =>
    have hx := cu hx rfl
    try dsimp only at hx
    have s3 := br h3 rfl; unfold gu at hx; have h4 := eG hr s3 d [59]
    cases x4 : dt [59] l3 with
    | bad e q =>
     obtain rfl := bF hx x4; obtain ⟨a', d'', eb⟩ := bm h4 x4; refine ⟨a', d'', fun b Y hb => ?_⟩; have eb := eb hb; have e67 := e67 b Y hb; have f0 := g0 b Y hb; have f1 := g1 b Y hb; have f2 := g2 b Y hb; have f3 := g3 b Y hb; have e151 := e151 b Y hb; have e1 := aJ h1 x1 hb; have e2 := aJ h2 x2 hb; have e3 := aJ h3 rfl hb; rw [dM]; obtain ⟨N, T, Lb, hN, hT, hL⟩ := lens3 Y; rw [hN] at hb
     conv => lhs; rw [← aj (Y.af false b (pc ts l d))]
     simp only [pc, pcf, aI, Tok.c, bc, aa, if_true, if_false, ab, bU, dY, eH, dQ, cj, eU, fe, p0, p1, p2, pk, kt] at e67 f0 f1 f2 f3 e151 e1 e2 e3 eb ⊢
     generalize aw ts = es at *
     simp (maxDischargeDepth := 8) [S82, hN, hT, hL, hb, e67, f0, f1, f2, f3, e151, e1, e2, e3, eb, p0, p1, p2, pk, kt, k1, k1']
    | ok u4 l4 =>
     have hx := cu hx x4
     try dsimp only at hx
     have s4 := br h4 x4; obtain rfl := Option.some.inj hx; refine ⟨s4, fun b Y hb => ?_⟩; have e67 := e67 b Y hb; have f0 := g0 b Y hb; have f1 := g1 b Y hb; have f2 := g2 b Y hb; have f3 := g3 b Y hb; have e151 := e151 b Y hb; have e1 := aJ h1 x1 hb; have e2 := aJ h2 x2 hb; have e3 := aJ h3 rfl hb; have e4 := aJ h4 x4 hb; rw [dM]; obtain ⟨N, T, Lb, hN, hT, hL⟩ := lens3 Y; rw [hN] at hb
     conv => lhs; rw [← aj (Y.af false b (pc ts l d))]
     simp only [pc, pcf, aI, Tok.c, bc, aa, if_true, if_false, ab, bU, dY, eH, dQ, cj, eU, fe, p0, p1, p2, pk, kt] at e67 f0 f1 f2 f3 e151 e1 e2 e3 e4 ⊢
     generalize aw ts = es at *
     simp (maxDischargeDepth := 8) [S82, hN, hT, hL, hb, e67, f0, f1, f2, f3, e151, e1, e2, e3, e4, p0, p1, p2, pk, kt, k1, k1']
theorem AB {d : Nat} {l : List Tok} {x : PR S} (hd12 : d ≤ 12) (h : Sfx ts l) (k1 : (hd l).kind ≠ 1) (p0 : isT l [108, 111, 111, 112] = false) (p1 : isT l [105, 102] = false) (p2 : isT l [97, 116, 111, 109, 105, 99] = false) (p3 : isT l [108, 101, 116] = false) (pk : isT l [118, 97, 114] = true) (hx : (pb (some (eW 1 (dJ l))) fun u l1 => pb (some (dt [61] l1)) fun _ l2 => pb (ko n d l2) fun r l3 => gu (mkS (hd l) 2 (bs u.text) r pl0 x0 0 [] [] []) l3) = some x) : Rd 82 [] ts d d l dQ x := by
 have e67 := fun b (Y : St) hb => ax (dF h d 0 0 0 (b := b)) (s := Y) hb
 have g0 := fun b (Y : St) hb => ax (aB hr h d [108, 111, 111, 112] (b := b)) (s := Y) hb
 have g1 := fun b (Y : St) hb => ax (aB hr h d [105, 102] (b := b)) (s := Y) hb
 have g2 := fun b (Y : St) hb => ax (aB hr h d [97, 116, 111, 109, 105, 99] (b := b)) (s := Y) hb
 have g3 := fun b (Y : St) hb => ax (jc h d 0 0 0 [108, 101, 116] (b := b)) (s := Y) hb
 have g4 := fun b (Y : St) hb => ax (jc h d 0 0 0 [118, 97, 114] (b := b)) (s := Y) hb
 have k1' : ¬ (((hd l).kind : Int) = 1) := by omega
 have s0 := h.next hr
 have e151 := fun b (Y : St) hb => ax (jX hr h d (b := b)) (s := Y) hb
 have kt := nZ pk; have h1 := gC hr s0 d 1
 cases x1 : eW 1 (dJ l) with
 | bad e q =>
  obtain rfl := bF hx x1; obtain ⟨a', d'', eb⟩ := bm h1 x1; refine ⟨a', d'', fun b Y hb => ?_⟩; have eb := eb hb; have e67 := e67 b Y hb; have f0 := g0 b Y hb; have f1 := g1 b Y hb; have f2 := g2 b Y hb; have f3 := g3 b Y hb; have f4 := g4 b Y hb; have e151 := e151 b Y hb; rw [dM]; obtain ⟨N, T, Lb, hN, hT, hL⟩ := lens3 Y; rw [hN] at hb
  conv => lhs; rw [← aj (Y.af false b (pc ts l d))]
  simp only [pc, pcf, aI, Tok.c, bc, aa, if_true, if_false, ab, bU, dY, eH, dQ, cj, eU, fe, p0, p1, p2, p3, pk, kt] at e67 f0 f1 f2 f3 f4 e151 eb ⊢
  generalize aw ts = es at *
  simp (maxDischargeDepth := 8) [S82, hN, hT, hL, hb, e67, f0, f1, f2, f3, f4, e151, eb, p0, p1, p2, p3, pk, kt, k1, k1']
 | ok u1 l1 =>
  have hx := cu hx x1
  try dsimp only at hx
  have s1 := br h1 x1; have h2 := eG hr s1 d [61]
  cases x2 : dt [61] l1 with
  | bad e q =>
   obtain rfl := bF hx x2; obtain ⟨a', d'', eb⟩ := bm h2 x2; refine ⟨a', d'', fun b Y hb => ?_⟩; have eb := eb hb; have e67 := e67 b Y hb; have f0 := g0 b Y hb; have f1 := g1 b Y hb; have f2 := g2 b Y hb; have f3 := g3 b Y hb; have f4 := g4 b Y hb; have e151 := e151 b Y hb; have e1 := aJ h1 x1 hb; rw [dM]; obtain ⟨N, T, Lb, hN, hT, hL⟩ := lens3 Y; rw [hN] at hb
   conv => lhs; rw [← aj (Y.af false b (pc ts l d))]
   simp only [pc, pcf, aI, Tok.c, bc, aa, if_true, if_false, ab, bU, dY, eH, dQ, cj, eU, fe, p0, p1, p2, p3, pk, kt] at e67 f0 f1 f2 f3 f4 e151 e1 eb ⊢
   generalize aw ts = es at *
   simp (maxDischargeDepth := 8) [S82, hN, hT, hL, hb, e67, f0, f1, f2, f3, f4, e151, e1, eb, p0, p1, p2, p3, pk, kt, k1, k1']
  | ok u2 l2 =>
   have hx := cu hx x2
   try dsimp only at hx
   have s2 := br h2 x2; obtain ⟨y3, hy3⟩ := dq hx; rw [hy3] at hx; have h3 := oZ hr ihe hd12 s2 hy3
   cases y3 with
   | bad e q =>
    obtain rfl := bF hx rfl; obtain ⟨a', d'', eb⟩ := bm h3 rfl; refine ⟨a', d'', fun b Y hb => ?_⟩; have eb := eb hb; have e67 := e67 b Y hb; have f0 := g0 b Y hb; have f1 := g1 b Y hb; have f2 := g2 b Y hb; have f3 := g3 b Y hb; have f4 := g4 b Y hb; have e151 := e151 b Y hb; have e1 := aJ h1 x1 hb; have e2 := aJ h2 x2 hb; rw [dM]; obtain ⟨N, T, Lb, hN, hT, hL⟩ := lens3 Y; rw [hN] at hb
    conv => lhs; rw [← aj (Y.af false b (pc ts l d))]
    simp only [pc, pcf, aI, Tok.c, bc, aa, if_true, if_false, ab, bU, dY, eH, dQ, cj, eU, fe, p0, p1, p2, p3, pk, kt] at e67 f0 f1 f2 f3 f4 e151 e1 e2 eb ⊢
    generalize aw ts = es at *
    simp (maxDischargeDepth := 8) [S82, hN, hT, hL, hb, e67, f0, f1, f2, f3, f4, e151, e1, e2, eb, p0, p1, p2, p3, pk, kt, k1, k1']
   | ok r3 l3 =>
    have hx := cu hx rfl
    try dsimp only at hx
    have s3 := br h3 rfl; unfold gu at hx; have h4 := eG hr s3 d [59]
    cases x4 : dt [59] l3 with
    | bad e q =>
     obtain rfl := bF hx x4; obtain ⟨a', d'', eb⟩ := bm h4 x4; refine ⟨a', d'', fun b Y hb => ?_⟩; have eb := eb hb; have e67 := e67 b Y hb; have f0 := g0 b Y hb; have f1 := g1 b Y hb; have f2 := g2 b Y hb; have f3 := g3 b Y hb; have f4 := g4 b Y hb; have e151 := e151 b Y hb; have e1 := aJ h1 x1 hb; have e2 := aJ h2 x2 hb; have e3 := aJ h3 rfl hb; rw [dM]; obtain ⟨N, T, Lb, hN, hT, hL⟩ := lens3 Y; rw [hN] at hb
     conv => lhs; rw [← aj (Y.af false b (pc ts l d))]
     simp only [pc, pcf, aI, Tok.c, bc, aa, if_true, if_false, ab, bU, dY, eH, dQ, cj, eU, fe, p0, p1, p2, p3, pk, kt] at e67 f0 f1 f2 f3 f4 e151 e1 e2 e3 eb ⊢
     generalize aw ts = es at *
     simp (maxDischargeDepth := 8) [S82, hN, hT, hL, hb, e67, f0, f1, f2, f3, f4, e151, e1, e2, e3, eb, p0, p1, p2, p3, pk, kt, k1, k1']
    | ok u4 l4 =>
     have hx := cu hx x4
     try dsimp only at hx
     have s4 := br h4 x4; obtain rfl := Option.some.inj hx; refine ⟨s4, fun b Y hb => ?_⟩; have e67 := e67 b Y hb; have f0 := g0 b Y hb; have f1 := g1 b Y hb; have f2 := g2 b Y hb; have f3 := g3 b Y hb; have f4 := g4 b Y hb; have e151 := e151 b Y hb; have e1 := aJ h1 x1 hb; have e2 := aJ h2 x2 hb; have e3 := aJ h3 rfl hb; have e4 := aJ h4 x4 hb; rw [dM]; obtain ⟨N, T, Lb, hN, hT, hL⟩ := lens3 Y; rw [hN] at hb
     conv => lhs; rw [← aj (Y.af false b (pc ts l d))]
     simp only [pc, pcf, aI, Tok.c, bc, aa, if_true, if_false, ab, bU, dY, eH, dQ, cj, eU, fe, p0, p1, p2, p3, pk, kt] at e67 f0 f1 f2 f3 f4 e151 e1 e2 e3 e4 ⊢
     generalize aw ts = es at *
     simp (maxDischargeDepth := 8) [S82, hN, hT, hL, hb, e67, f0, f1, f2, f3, f4, e151, e1, e2, e3, e4, p0, p1, p2, p3, pk, kt, k1, k1']
theorem AA {d : Nat} {l : List Tok} {x : PR S} (hd12 : d ≤ 12) (h : Sfx ts l) (k1 : (hd l).kind ≠ 1) (p0 : isT l [108, 111, 111, 112] = false) (p1 : isT l [105, 102] = false) (p2 : isT l [97, 116, 111, 109, 105, 99] = false) (p3 : isT l [108, 101, 116] = false) (p4 : isT l [118, 97, 114] = false) (pk : isT l [115, 101, 116] = true) (hx : (pb (oX n d l.tail) fun x l1 => pb (some (dt [61] l1)) fun _ l2 => pb (fK n 0 d l2) fun e l3 => gu (mkS (hd l) 4 (bs []) rt0 x e 0 [] [] []) l3) = some x) : Rd 82 [] ts d d l dQ x := by
 have e67 := fun b (Y : St) hb => ax (dF h d 0 0 0 (b := b)) (s := Y) hb
 have g0 := fun b (Y : St) hb => ax (aB hr h d [108, 111, 111, 112] (b := b)) (s := Y) hb
 have g1 := fun b (Y : St) hb => ax (aB hr h d [105, 102] (b := b)) (s := Y) hb
 have g2 := fun b (Y : St) hb => ax (aB hr h d [97, 116, 111, 109, 105, 99] (b := b)) (s := Y) hb
 have g3 := fun b (Y : St) hb => ax (jc h d 0 0 0 [108, 101, 116] (b := b)) (s := Y) hb
 have g4 := fun b (Y : St) hb => ax (jc h d 0 0 0 [118, 97, 114] (b := b)) (s := Y) hb
 have g5 := fun b (Y : St) hb => ax (aB hr h d [115, 101, 116] (b := b)) (s := Y) hb
 have k1' : ¬ (((hd l).kind : Int) = 1) := by omega
 have s0 := h.isT hr pk; obtain ⟨y1, hy1⟩ := dq hx; rw [hy1] at hx; have h1 := sh hr ihe hd12 s0 hy1
 cases y1 with
 | bad e q =>
  obtain rfl := bF hx rfl; obtain ⟨a', d'', eb⟩ := bm h1 rfl; refine ⟨a', d'', fun b Y hb => ?_⟩; have eb := eb hb; have e67 := e67 b Y hb; have f0 := g0 b Y hb; have f1 := g1 b Y hb; have f2 := g2 b Y hb; have f3 := g3 b Y hb; have f4 := g4 b Y hb; have f5 := g5 b Y hb; rw [dM]; obtain ⟨N, T, Lb, hN, hT, hL⟩ := lens3 Y; rw [hN] at hb
  conv => lhs; rw [← aj (Y.af false b (pc ts l d))]
  simp only [pc, pcf, aI, Tok.c, bc, aa, if_true, if_false, ab, bU, dY, eH, dQ, cj, eU, fe, p0, p1, p2, p3, p4, pk] at e67 f0 f1 f2 f3 f4 f5 eb ⊢
  generalize aw ts = es at *
  simp (maxDischargeDepth := 8) [S82, hN, hT, hL, hb, e67, f0, f1, f2, f3, f4, f5, eb, p0, p1, p2, p3, p4, pk, k1, k1']
 | ok pl1 l1 =>
  have hx := cu hx rfl
  try dsimp only at hx
  have s1 := br h1 rfl; have h2 := eG hr s1 d [61]
  cases x2 : dt [61] l1 with
  | bad e q =>
   obtain rfl := bF hx x2; obtain ⟨a', d'', eb⟩ := bm h2 x2; refine ⟨a', d'', fun b Y hb => ?_⟩; have eb := eb hb; have e67 := e67 b Y hb; have f0 := g0 b Y hb; have f1 := g1 b Y hb; have f2 := g2 b Y hb; have f3 := g3 b Y hb; have f4 := g4 b Y hb; have f5 := g5 b Y hb; have e1 := aJ h1 rfl hb; rw [dM]; obtain ⟨N, T, Lb, hN, hT, hL⟩ := lens3 Y; rw [hN] at hb
   conv => lhs; rw [← aj (Y.af false b (pc ts l d))]
   simp only [pc, pcf, aI, Tok.c, bc, aa, if_true, if_false, ab, bU, dY, eH, dQ, cj, eU, fe, p0, p1, p2, p3, p4, pk] at e67 f0 f1 f2 f3 f4 f5 e1 eb ⊢
   generalize aw ts = es at *
   simp (maxDischargeDepth := 8) [S82, hN, hT, hL, hb, e67, f0, f1, f2, f3, f4, f5, e1, eb, p0, p1, p2, p3, p4, pk, k1, k1']
  | ok u2 l2 =>
   have hx := cu hx x2
   try dsimp only at hx
   have s2 := br h2 x2; obtain ⟨y3, hy3⟩ := dq hx; rw [hy3] at hx; have h3 := jU hr ihe hd12 s2 hy3
   cases y3 with
   | bad e q =>
    obtain rfl := bF hx rfl; obtain ⟨a', d'', eb⟩ := bm h3 rfl; refine ⟨a', d'', fun b Y hb => ?_⟩; have eb := eb hb; have e67 := e67 b Y hb; have f0 := g0 b Y hb; have f1 := g1 b Y hb; have f2 := g2 b Y hb; have f3 := g3 b Y hb; have f4 := g4 b Y hb; have f5 := g5 b Y hb; have e1 := aJ h1 rfl hb; have e2 := aJ h2 x2 hb; rw [dM]; obtain ⟨N, T, Lb, hN, hT, hL⟩ := lens3 Y; rw [hN] at hb
    conv => lhs; rw [← aj (Y.af false b (pc ts l d))]
    simp only [pc, pcf, aI, Tok.c, bc, aa, if_true, if_false, ab, bU, dY, eH, dQ, cj, eU, fe, p0, p1, p2, p3, p4, pk] at e67 f0 f1 f2 f3 f4 f5 e1 e2 eb ⊢
    generalize aw ts = es at *
    simp (maxDischargeDepth := 8) [S82, hN, hT, hL, hb, e67, f0, f1, f2, f3, f4, f5, e1, e2, eb, p0, p1, p2, p3, p4, pk, k1, k1']
   | ok x3 l3 =>
    have hx := cu hx rfl
    try dsimp only at hx
    have s3 := br h3 rfl; unfold gu at hx; have h4 := eG hr s3 d [59]
    cases x4 : dt [59] l3 with
    | bad e q =>
     obtain rfl := bF hx x4; obtain ⟨a', d'', eb⟩ := bm h4 x4; refine ⟨a', d'', fun b Y hb => ?_⟩; have eb := eb hb; have e67 := e67 b Y hb; have f0 := g0 b Y hb; have f1 := g1 b Y hb; have f2 := g2 b Y hb; have f3 := g3 b Y hb; have f4 := g4 b Y hb; have f5 := g5 b Y hb; have e1 := aJ h1 rfl hb; have e2 := aJ h2 x2 hb; have e3 := aJ h3 rfl hb; rw [dM]; obtain ⟨N, T, Lb, hN, hT, hL⟩ := lens3 Y; rw [hN] at hb
     conv => lhs; rw [← aj (Y.af false b (pc ts l d))]
     simp only [pc, pcf, aI, Tok.c, bc, aa, if_true, if_false, ab, bU, dY, eH, dQ, cj, eU, fe, p0, p1, p2, p3, p4, pk] at e67 f0 f1 f2 f3 f4 f5 e1 e2 e3 eb ⊢
     generalize aw ts = es at *
     simp (maxDischargeDepth := 8) [S82, hN, hT, hL, hb, e67, f0, f1, f2, f3, f4, f5, e1, e2, e3, eb, p0, p1, p2, p3, p4, pk, k1, k1']
    | ok u4 l4 =>
     have hx := cu hx x4
     try dsimp only at hx
     have s4 := br h4 x4; obtain rfl := Option.some.inj hx; refine ⟨s4, fun b Y hb => ?_⟩; have e67 := e67 b Y hb; have f0 := g0 b Y hb; have f1 := g1 b Y hb; have f2 := g2 b Y hb; have f3 := g3 b Y hb; have f4 := g4 b Y hb; have f5 := g5 b Y hb; have e1 := aJ h1 rfl hb; have e2 := aJ h2 x2 hb; have e3 := aJ h3 rfl hb; have e4 := aJ h4 x4 hb; rw [dM]; obtain ⟨N, T, Lb, hN, hT, hL⟩ := lens3 Y; rw [hN] at hb
     conv => lhs; rw [← aj (Y.af false b (pc ts l d))]
     simp only [pc, pcf, aI, Tok.c, bc, aa, if_true, if_false, ab, bU, dY, eH, dQ, cj, eU, fe, p0, p1, p2, p3, p4, pk] at e67 f0 f1 f2 f3 f4 f5 e1 e2 e3 e4 ⊢
     generalize aw ts = es at *
     simp (maxDischargeDepth := 8) [S82, hN, hT, hL, hb, e67, f0, f1, f2, f3, f4, f5, e1, e2, e3, e4, p0, p1, p2, p3, p4, pk, k1, k1']
theorem v8 {d : Nat} {l : List Tok} {x : PR S} (hd12 : d ≤ 12) (h : Sfx ts l) (k1 : (hd l).kind ≠ 1) (p0 : isT l [108, 111, 111, 112] = false) (p1 : isT l [105, 102] = false) (p2 : isT l [97, 116, 111, 109, 105, 99] = false) (p3 : isT l [108, 101, 116] = false) (p4 : isT l [118, 97, 114] = false) (p5 : isT l [115, 101, 116] = false) (pk : isT l [112, 114, 105, 110, 116] = true) (hx : (pb (fK n 0 d l.tail) fun e l1 => gu (mkS (hd l) 5 (bs []) rt0 pl0 e 0 [] [] []) l1) = some x) : Rd 82 [] ts d d l dQ x := by
 have e67 := fun b (Y : St) hb => ax (dF h d 0 0 0 (b := b)) (s := Y) hb
 have g0 := fun b (Y : St) hb => ax (aB hr h d [108, 111, 111, 112] (b := b)) (s := Y) hb
 have g1 := fun b (Y : St) hb => ax (aB hr h d [105, 102] (b := b)) (s := Y) hb
 have g2 := fun b (Y : St) hb => ax (aB hr h d [97, 116, 111, 109, 105, 99] (b := b)) (s := Y) hb
 have g3 := fun b (Y : St) hb => ax (jc h d 0 0 0 [108, 101, 116] (b := b)) (s := Y) hb
 have g4 := fun b (Y : St) hb => ax (jc h d 0 0 0 [118, 97, 114] (b := b)) (s := Y) hb
 have g5 := fun b (Y : St) hb => ax (aB hr h d [115, 101, 116] (b := b)) (s := Y) hb
 have g6 := fun b (Y : St) hb => ax (aB hr h d [112, 114, 105, 110, 116] (b := b)) (s := Y) hb
 have k1' : ¬ (((hd l).kind : Int) = 1) := by omega
 have s0 := h.isT hr pk; obtain ⟨y1, hy1⟩ := dq hx; rw [hy1] at hx; have h1 := jU hr ihe hd12 s0 hy1
 cases y1 with
 | bad e q =>
  obtain rfl := bF hx rfl; obtain ⟨a', d'', eb⟩ := bm h1 rfl; refine ⟨a', d'', fun b Y hb => ?_⟩; have eb := eb hb; have e67 := e67 b Y hb; have f0 := g0 b Y hb; have f1 := g1 b Y hb; have f2 := g2 b Y hb; have f3 := g3 b Y hb; have f4 := g4 b Y hb; have f5 := g5 b Y hb; have f6 := g6 b Y hb; rw [dM]; obtain ⟨N, T, Lb, hN, hT, hL⟩ := lens3 Y; rw [hN] at hb
  conv => lhs; rw [← aj (Y.af false b (pc ts l d))]
  simp only [pc, pcf, aI, Tok.c, bc, aa, if_true, if_false, ab, bU, dY, eH, dQ, cj, eU, fe, p0, p1, p2, p3, p4, p5, pk] at e67 f0 f1 f2 f3 f4 f5 f6 eb ⊢
  generalize aw ts = es at *
  simp (maxDischargeDepth := 8) [S82, hN, hT, hL, hb, e67, f0, f1, f2, f3, f4, f5, f6, eb, p0, p1, p2, p3, p4, p5, pk, k1, k1']
 | ok x1 l1 =>
  have hx := cu hx rfl
  try dsimp only at hx
  have s1 := br h1 rfl; unfold gu at hx; have h2 := eG hr s1 d [59]
  cases x2 : dt [59] l1 with
  | bad e q =>
   obtain rfl := bF hx x2; obtain ⟨a', d'', eb⟩ := bm h2 x2; refine ⟨a', d'', fun b Y hb => ?_⟩; have eb := eb hb; have e67 := e67 b Y hb; have f0 := g0 b Y hb; have f1 := g1 b Y hb; have f2 := g2 b Y hb; have f3 := g3 b Y hb; have f4 := g4 b Y hb; have f5 := g5 b Y hb; have f6 := g6 b Y hb; have e1 := aJ h1 rfl hb; rw [dM]; obtain ⟨N, T, Lb, hN, hT, hL⟩ := lens3 Y; rw [hN] at hb
   conv => lhs; rw [← aj (Y.af false b (pc ts l d))]
   simp only [pc, pcf, aI, Tok.c, bc, aa, if_true, if_false, ab, bU, dY, eH, dQ, cj, eU, fe, p0, p1, p2, p3, p4, p5, pk] at e67 f0 f1 f2 f3 f4 f5 f6 e1 eb ⊢
   generalize aw ts = es at *
   simp (maxDischargeDepth := 8) [S82, hN, hT, hL, hb, e67, f0, f1, f2, f3, f4, f5, f6, e1, eb, p0, p1, p2, p3, p4, p5, pk, k1, k1']
  | ok u2 l2 =>
   have hx := cu hx x2
   try dsimp only at hx
   have s2 := br h2 x2; obtain rfl := Option.some.inj hx; refine ⟨s2, fun b Y hb => ?_⟩; have e67 := e67 b Y hb; have f0 := g0 b Y hb; have f1 := g1 b Y hb; have f2 := g2 b Y hb; have f3 := g3 b Y hb; have f4 := g4 b Y hb; have f5 := g5 b Y hb; have f6 := g6 b Y hb; have e1 := aJ h1 rfl hb; have e2 := aJ h2 x2 hb; rw [dM]; obtain ⟨N, T, Lb, hN, hT, hL⟩ := lens3 Y; rw [hN] at hb
   conv => lhs; rw [← aj (Y.af false b (pc ts l d))]
   simp only [pc, pcf, aI, Tok.c, bc, aa, if_true, if_false, ab, bU, dY, eH, dQ, cj, eU, fe, p0, p1, p2, p3, p4, p5, pk] at e67 f0 f1 f2 f3 f4 f5 f6 e1 e2 ⊢
   generalize aw ts = es at *
   simp (maxDischargeDepth := 8) [S82, hN, hT, hL, hb, e67, f0, f1, f2, f3, f4, f5, f6, e1, e2, p0, p1, p2, p3, p4, p5, pk, k1, k1']
theorem v7 {d : Nat} {l : List Tok} {x : PR S} (hd12 : d ≤ 12) (h : Sfx ts l) (k1 : (hd l).kind ≠ 1) (p0 : isT l [108, 111, 111, 112] = false) (p1 : isT l [105, 102] = false) (p2 : isT l [97, 116, 111, 109, 105, 99] = false) (p3 : isT l [108, 101, 116] = false) (p4 : isT l [118, 97, 114] = false) (p5 : isT l [115, 101, 116] = false) (p6 : isT l [112, 114, 105, 110, 116] = false) (pk : isT l [98, 114, 101, 97, 107] = true) (hx : gu (mkS (hd l) 8 (gm l.tail).1 rt0 pl0 x0 0 [] [] []) (gm l.tail).2 = some x) : Rd 82 [] ts d d l dQ x := by
 have e67 := fun b (Y : St) hb => ax (dF h d 0 0 0 (b := b)) (s := Y) hb
 have g0 := fun b (Y : St) hb => ax (aB hr h d [108, 111, 111, 112] (b := b)) (s := Y) hb
 have g1 := fun b (Y : St) hb => ax (aB hr h d [105, 102] (b := b)) (s := Y) hb
 have g2 := fun b (Y : St) hb => ax (aB hr h d [97, 116, 111, 109, 105, 99] (b := b)) (s := Y) hb
 have g3 := fun b (Y : St) hb => ax (jc h d 0 0 0 [108, 101, 116] (b := b)) (s := Y) hb
 have g4 := fun b (Y : St) hb => ax (jc h d 0 0 0 [118, 97, 114] (b := b)) (s := Y) hb
 have g5 := fun b (Y : St) hb => ax (aB hr h d [115, 101, 116] (b := b)) (s := Y) hb
 have g6 := fun b (Y : St) hb => ax (aB hr h d [112, 114, 105, 110, 116] (b := b)) (s := Y) hb
 have g7 := fun b (Y : St) hb => ax (aB hr h d [98, 114, 101, 97, 107] (b := b)) (s := Y) hb
 have k1' : ¬ (((hd l).kind : Int) = 1) := by omega
 have s0 := h.isT hr pk; have s1 := s0.label hr
 have e158 := fun b (Y : St) hb => ax (uh hr s0 d b) (s := Y) hb
 unfold gu at hx; have h1 := eG hr s1 d [59]
 cases x1 : dt [59] (gm l.tail).2 with
 | bad e q =>
  obtain rfl := bF hx x1; obtain ⟨a', d'', eb⟩ := bm h1 x1; refine ⟨a', d'', fun b Y hb => ?_⟩; have eb := eb hb; have e67 := e67 b Y hb; have f0 := g0 b Y hb; have f1 := g1 b Y hb; have f2 := g2 b Y hb; have f3 := g3 b Y hb; have f4 := g4 b Y hb; have f5 := g5 b Y hb; have f6 := g6 b Y hb; have f7 := g7 b Y hb; have e158 := e158 b Y hb; rw [dM]; obtain ⟨N, T, Lb, hN, hT, hL⟩ := lens3 Y; rw [hN] at hb
  conv => lhs; rw [← aj (Y.af false b (pc ts l d))]
  simp only [pc, pcf, aI, Tok.c, bc, aa, if_true, if_false, ab, bU, dY, eH, dQ, cj, eU, fe, p0, p1, p2, p3, p4, p5, p6, pk] at e67 f0 f1 f2 f3 f4 f5 f6 f7 e158 eb ⊢
  generalize aw ts = es at *
  simp (maxDischargeDepth := 8) [S82, hN, hT, hL, hb, e67, f0, f1, f2, f3, f4, f5, f6, f7, e158, eb, p0, p1, p2, p3, p4, p5, p6, pk, k1, k1']
 | ok u1 l1 =>
  have hx := cu hx x1
  try dsimp only at hx
  have s1 := br h1 x1; obtain rfl := Option.some.inj hx; refine ⟨s1, fun b Y hb => ?_⟩; have e67 := e67 b Y hb; have f0 := g0 b Y hb; have f1 := g1 b Y hb; have f2 := g2 b Y hb; have f3 := g3 b Y hb; have f4 := g4 b Y hb; have f5 := g5 b Y hb; have f6 := g6 b Y hb; have f7 := g7 b Y hb; have e158 := e158 b Y hb; have e1 := aJ h1 x1 hb; rw [dM]; obtain ⟨N, T, Lb, hN, hT, hL⟩ := lens3 Y; rw [hN] at hb
  conv => lhs; rw [← aj (Y.af false b (pc ts l d))]
  simp only [pc, pcf, aI, Tok.c, bc, aa, if_true, if_false, ab, bU, dY, eH, dQ, cj, eU, fe, p0, p1, p2, p3, p4, p5, p6, pk] at e67 f0 f1 f2 f3 f4 f5 f6 f7 e158 e1 ⊢
  generalize aw ts = es at *
  simp (maxDischargeDepth := 8) [S82, hN, hT, hL, hb, e67, f0, f1, f2, f3, f4, f5, f6, f7, e158, e1, p0, p1, p2, p3, p4, p5, p6, pk, k1, k1']
theorem rF {d : Nat} {l : List Tok} {x : PR S} (hd12 : d ≤ 12) (h : Sfx ts l) (k1 : (hd l).kind ≠ 1) (p0 : isT l [108, 111, 111, 112] = false) (p1 : isT l [105, 102] = false) (p2 : isT l [97, 116, 111, 109, 105, 99] = false) (p3 : isT l [108, 101, 116] = false) (p4 : isT l [118, 97, 114] = false) (p5 : isT l [115, 101, 116] = false) (p6 : isT l [112, 114, 105, 110, 116] = false) (p7 : isT l [98, 114, 101, 97, 107] = false) (pk : isT l [99, 111, 110, 116, 105, 110, 117, 101] = true) (hx : gu (mkS (hd l) 9 (gm l.tail).1 rt0 pl0 x0 0 [] [] []) (gm l.tail).2 = some x) : Rd 82 [] ts d d l dQ x := by
 have e67 := fun b (Y : St) hb => ax (dF h d 0 0 0 (b := b)) (s := Y) hb
 have g0 := fun b (Y : St) hb => ax (aB hr h d [108, 111, 111, 112] (b := b)) (s := Y) hb
 have g1 := fun b (Y : St) hb => ax (aB hr h d [105, 102] (b := b)) (s := Y) hb
 have g2 := fun b (Y : St) hb => ax (aB hr h d [97, 116, 111, 109, 105, 99] (b := b)) (s := Y) hb
 have g3 := fun b (Y : St) hb => ax (jc h d 0 0 0 [108, 101, 116] (b := b)) (s := Y) hb
 have g4 := fun b (Y : St) hb => ax (jc h d 0 0 0 [118, 97, 114] (b := b)) (s := Y) hb
 have g5 := fun b (Y : St) hb => ax (aB hr h d [115, 101, 116] (b := b)) (s := Y) hb
 have g6 := fun b (Y : St) hb => ax (aB hr h d [112, 114, 105, 110, 116] (b := b)) (s := Y) hb
 have g7 := fun b (Y : St) hb => ax (aB hr h d [98, 114, 101, 97, 107] (b := b)) (s := Y) hb
 have g8 := fun b (Y : St) hb => ax (aB hr h d [99, 111, 110, 116, 105, 110, 117, 101] (b := b)) (s := Y) hb
 have k1' : ¬ (((hd l).kind : Int) = 1) := by omega
 have s0 := h.isT hr pk; have s1 := s0.label hr
 have e158 := fun b (Y : St) hb => ax (uh hr s0 d b) (s := Y) hb
 unfold gu at hx; have h1 := eG hr s1 d [59]
 cases x1 : dt [59] (gm l.tail).2 with
 | bad e q =>
  obtain rfl := bF hx x1; obtain ⟨a', d'', eb⟩ := bm h1 x1; refine ⟨a', d'', fun b Y hb => ?_⟩; have eb := eb hb; have e67 := e67 b Y hb; have f0 := g0 b Y hb; have f1 := g1 b Y hb; have f2 := g2 b Y hb; have f3 := g3 b Y hb; have f4 := g4 b Y hb; have f5 := g5 b Y hb; have f6 := g6 b Y hb; have f7 := g7 b Y hb; have f8 := g8 b Y hb; have e158 := e158 b Y hb; rw [dM]; obtain ⟨N, T, Lb, hN, hT, hL⟩ := lens3 Y; rw [hN] at hb
  conv => lhs; rw [← aj (Y.af false b (pc ts l d))]
  simp only [pc, pcf, aI, Tok.c, bc, aa, if_true, if_false, ab, bU, dY, eH, dQ, cj, eU, fe, p0, p1, p2, p3, p4, p5, p6, p7, pk] at e67 f0 f1 f2 f3 f4 f5 f6 f7 f8 e158 eb ⊢
  generalize aw ts = es at *
  simp (maxDischargeDepth := 8) [S82, hN, hT, hL, hb, e67, f0, f1, f2, f3, f4, f5, f6, f7, f8, e158, eb, p0, p1, p2, p3, p4, p5, p6, p7, pk, k1, k1']
 | ok u1 l1 =>
  have hx := cu hx x1
  try dsimp only at hx
  have s1 := br h1 x1; obtain rfl := Option.some.inj hx; refine ⟨s1, fun b Y hb => ?_⟩; have e67 := e67 b Y hb; have f0 := g0 b Y hb; have f1 := g1 b Y hb; have f2 := g2 b Y hb; have f3 := g3 b Y hb; have f4 := g4 b Y hb; have f5 := g5 b Y hb; have f6 := g6 b Y hb; have f7 := g7 b Y hb; have f8 := g8 b Y hb; have e158 := e158 b Y hb; have e1 := aJ h1 x1 hb; rw [dM]; obtain ⟨N, T, Lb, hN, hT, hL⟩ := lens3 Y; rw [hN] at hb
  conv => lhs; rw [← aj (Y.af false b (pc ts l d))]
  simp only [pc, pcf, aI, Tok.c, bc, aa, if_true, if_false, ab, bU, dY, eH, dQ, cj, eU, fe, p0, p1, p2, p3, p4, p5, p6, p7, pk] at e67 f0 f1 f2 f3 f4 f5 f6 f7 f8 e158 e1 ⊢
  generalize aw ts = es at *
  simp (maxDischargeDepth := 8) [S82, hN, hT, hL, hb, e67, f0, f1, f2, f3, f4, f5, f6, f7, f8, e158, e1, p0, p1, p2, p3, p4, p5, p6, p7, pk, k1, k1']
theorem yD {d : Nat} {l : List Tok} {x : PR S} (hd12 : d ≤ 12) (h : Sfx ts l) (k1 : (hd l).kind ≠ 1) (p0 : isT l [108, 111, 111, 112] = false) (p1 : isT l [105, 102] = false) (p2 : isT l [97, 116, 111, 109, 105, 99] = false) (p3 : isT l [108, 101, 116] = false) (p4 : isT l [118, 97, 114] = false) (p5 : isT l [115, 101, 116] = false) (p6 : isT l [112, 114, 105, 110, 116] = false) (p7 : isT l [98, 114, 101, 97, 107] = false) (p8 : isT l [99, 111, 110, 116, 105, 110, 117, 101] = false) (pk : isT l [99, 97, 108, 108] = true) (hx : (pb (some (eW 1 l.tail)) fun u l1 => pb (tM n d l1) fun xs l2 => gu (mkS (hd l) 11 (bs u.text) rt0 pl0 x0 0 xs [] []) l2) = some x) : Rd 82 [] ts d d l dQ x := by
 have e67 := fun b (Y : St) hb => ax (dF h d 0 0 0 (b := b)) (s := Y) hb
 have g0 := fun b (Y : St) hb => ax (aB hr h d [108, 111, 111, 112] (b := b)) (s := Y) hb
 have g1 := fun b (Y : St) hb => ax (aB hr h d [105, 102] (b := b)) (s := Y) hb
 have g2 := fun b (Y : St) hb => ax (aB hr h d [97, 116, 111, 109, 105, 99] (b := b)) (s := Y) hb
 have g3 := fun b (Y : St) hb => ax (jc h d 0 0 0 [108, 101, 116] (b := b)) (s := Y) hb
 have g4 := fun b (Y : St) hb => ax (jc h d 0 0 0 [118, 97, 114] (b := b)) (s := Y) hb
 have g5 := fun b (Y : St) hb => ax (aB hr h d [115, 101, 116] (b := b)) (s := Y) hb
 have g6 := fun b (Y : St) hb => ax (aB hr h d [112, 114, 105, 110, 116] (b := b)) (s := Y) hb
 have g7 := fun b (Y : St) hb => ax (aB hr h d [98, 114, 101, 97, 107] (b := b)) (s := Y) hb
 have g8 := fun b (Y : St) hb => ax (aB hr h d [99, 111, 110, 116, 105, 110, 117, 101] (b := b)) (s := Y) hb
 have g9 := fun b (Y : St) hb => ax (aB hr h d [99, 97, 108, 108] (b := b)) (s := Y) hb
 have k1' : ¬ (((hd l).kind : Int) = 1) := by omega
 have s0 := h.isT hr pk; have h1 := gC hr s0 d 1
 cases x1 : eW 1 l.tail with
 | bad e q =>
  obtain rfl := bF hx x1; obtain ⟨a', d'', eb⟩ := bm h1 x1; refine ⟨a', d'', fun b Y hb => ?_⟩; have eb := eb hb; have e67 := e67 b Y hb; have f0 := g0 b Y hb; have f1 := g1 b Y hb; have f2 := g2 b Y hb; have f3 := g3 b Y hb; have f4 := g4 b Y hb; have f5 := g5 b Y hb; have f6 := g6 b Y hb; have f7 := g7 b Y hb; have f8 := g8 b Y hb; have f9 := g9 b Y hb; rw [dM]; obtain ⟨N, T, Lb, hN, hT, hL⟩ := lens3 Y; rw [hN] at hb
  conv => lhs; rw [← aj (Y.af false b (pc ts l d))]
  simp only [pc, pcf, aI, Tok.c, bc, aa, if_true, if_false, ab, bU, dY, eH, dQ, cj, eU, fe, p0, p1, p2, p3, p4, p5, p6, p7, p8, pk] at e67 f0 f1 f2 f3 f4 f5 f6 f7 f8 f9 eb ⊢
  generalize aw ts = es at *
  simp (maxDischargeDepth := 8) [S82, hN, hT, hL, hb, e67, f0, f1, f2, f3, f4, f5, f6, f7, f8, f9, eb, p0, p1, p2, p3, p4, p5, p6, p7, p8, pk, k1, k1']
 | ok u1 l1 =>
  have hx := cu hx x1
  try dsimp only at hx
  have s1 := br h1 x1; obtain ⟨y2, hy2⟩ := dq hx; rw [hy2] at hx; have h2 := Ba hr ihe hd12 hn s1 hy2
  cases y2 with
  | bad e q =>
   obtain rfl := bF hx rfl; obtain ⟨a', d'', eb⟩ := bm h2 rfl; refine ⟨a', d'', fun b Y hb => ?_⟩; have eb := eb hb; have e67 := e67 b Y hb; have f0 := g0 b Y hb; have f1 := g1 b Y hb; have f2 := g2 b Y hb; have f3 := g3 b Y hb; have f4 := g4 b Y hb; have f5 := g5 b Y hb; have f6 := g6 b Y hb; have f7 := g7 b Y hb; have f8 := g8 b Y hb; have f9 := g9 b Y hb; have e1 := aJ h1 x1 hb; rw [dM]; obtain ⟨N, T, Lb, hN, hT, hL⟩ := lens3 Y; rw [hN] at hb
   conv => lhs; rw [← aj (Y.af false b (pc ts l d))]
   simp only [pc, pcf, aI, Tok.c, bc, aa, if_true, if_false, ab, bU, dY, eH, dQ, cj, eU, fe, p0, p1, p2, p3, p4, p5, p6, p7, p8, pk] at e67 f0 f1 f2 f3 f4 f5 f6 f7 f8 f9 e1 eb ⊢
   generalize aw ts = es at *
   simp (maxDischargeDepth := 8) [S82, hN, hT, hL, hb, e67, f0, f1, f2, f3, f4, f5, f6, f7, f8, f9, e1, eb, p0, p1, p2, p3, p4, p5, p6, p7, p8, pk, k1, k1']
  | ok xs2 l2 =>
   have hx := cu hx rfl
   try dsimp only at hx
   have s2 := br h2 rfl; unfold gu at hx; have h3 := eG hr s2 d [59]
   cases x3 : dt [59] l2 with
   | bad e q =>
    obtain rfl := bF hx x3; obtain ⟨a', d'', eb⟩ := bm h3 x3; refine ⟨a', d'', fun b Y hb => ?_⟩; have eb := eb hb; have e67 := e67 b Y hb; have f0 := g0 b Y hb; have f1 := g1 b Y hb; have f2 := g2 b Y hb; have f3 := g3 b Y hb; have f4 := g4 b Y hb; have f5 := g5 b Y hb; have f6 := g6 b Y hb; have f7 := g7 b Y hb; have f8 := g8 b Y hb; have f9 := g9 b Y hb; have e1 := aJ h1 x1 hb; have e2 := aJ h2 rfl hb; rw [dM]; obtain ⟨N, T, Lb, hN, hT, hL⟩ := lens3 Y; rw [hN] at hb
    conv => lhs; rw [← aj (Y.af false b (pc ts l d))]
    simp only [pc, pcf, aI, Tok.c, bc, aa, if_true, if_false, ab, bU, dY, eH, dQ, cj, eU, fe, p0, p1, p2, p3, p4, p5, p6, p7, p8, pk] at e67 f0 f1 f2 f3 f4 f5 f6 f7 f8 f9 e1 e2 eb ⊢
    generalize aw ts = es at *
    simp (maxDischargeDepth := 8) [S82, hN, hT, hL, hb, e67, f0, f1, f2, f3, f4, f5, f6, f7, f8, f9, e1, e2, eb, p0, p1, p2, p3, p4, p5, p6, p7, p8, pk, k1, k1']
   | ok u3 l3 =>
    have hx := cu hx x3
    try dsimp only at hx
    have s3 := br h3 x3; obtain rfl := Option.some.inj hx; refine ⟨s3, fun b Y hb => ?_⟩; have e67 := e67 b Y hb; have f0 := g0 b Y hb; have f1 := g1 b Y hb; have f2 := g2 b Y hb; have f3 := g3 b Y hb; have f4 := g4 b Y hb; have f5 := g5 b Y hb; have f6 := g6 b Y hb; have f7 := g7 b Y hb; have f8 := g8 b Y hb; have f9 := g9 b Y hb; have e1 := aJ h1 x1 hb; have e2 := aJ h2 rfl hb; have e3 := aJ h3 x3 hb; rw [dM]; obtain ⟨N, T, Lb, hN, hT, hL⟩ := lens3 Y; rw [hN] at hb
    conv => lhs; rw [← aj (Y.af false b (pc ts l d))]
    simp only [pc, pcf, aI, Tok.c, bc, aa, if_true, if_false, ab, bU, dY, eH, dQ, cj, eU, fe, p0, p1, p2, p3, p4, p5, p6, p7, p8, pk] at e67 f0 f1 f2 f3 f4 f5 f6 f7 f8 f9 e1 e2 e3 ⊢
    generalize aw ts = es at *
    simp (maxDischargeDepth := 8) [S82, hN, hT, hL, hb, e67, f0, f1, f2, f3, f4, f5, f6, f7, f8, f9, e1, e2, e3, p0, p1, p2, p3, p4, p5, p6, p7, p8, pk, k1, k1']
theorem yG {d : Nat} {l : List Tok} {x : PR S} (hd12 : d ≤ 12) (h : Sfx ts l) (k1 : (hd l).kind ≠ 1) (p0 : isT l [108, 111, 111, 112] = false) (p1 : isT l [105, 102] = false) (p2 : isT l [97, 116, 111, 109, 105, 99] = false) (p3 : isT l [108, 101, 116] = false) (p4 : isT l [118, 97, 114] = false) (p5 : isT l [115, 101, 116] = false) (p6 : isT l [112, 114, 105, 110, 116] = false) (p7 : isT l [98, 114, 101, 97, 107] = false) (p8 : isT l [99, 111, 110, 116, 105, 110, 117, 101] = false) (p9 : isT l [99, 97, 108, 108] = false)  (hx : some (.bad 4 (hd l).p) = some x) : Rd 82 [] ts d d l dQ x := by
 have e67 := fun b (Y : St) hb => ax (dF h d 0 0 0 (b := b)) (s := Y) hb
 have k1' : ¬ (((hd l).kind : Int) = 1) := by omega
 obtain rfl := Option.some.inj hx; refine ⟨pcA ts l, d, fun b Y hb => ?_⟩; have e74 := ax (mC (aw ts) (pcA ts l) d 4 (hd l) (b := b)) hb; have e67 := e67 b Y hb; have f0 := ax (aB hr h d [108, 111, 111, 112] (b := b)) (s := Y) hb; have f1 := ax (aB hr h d [105, 102] (b := b)) (s := Y) hb; have f2 := ax (aB hr h d [97, 116, 111, 109, 105, 99] (b := b)) (s := Y) hb; have f3 := ax (jc h d 0 0 0 [108, 101, 116] (b := b)) (s := Y) hb; have f4 := ax (jc h d 0 0 0 [118, 97, 114] (b := b)) (s := Y) hb; have f5 := ax (aB hr h d [115, 101, 116] (b := b)) (s := Y) hb; have f6 := ax (aB hr h d [112, 114, 105, 110, 116] (b := b)) (s := Y) hb; have f7 := ax (aB hr h d [98, 114, 101, 97, 107] (b := b)) (s := Y) hb; have f8 := ax (aB hr h d [99, 111, 110, 116, 105, 110, 117, 101] (b := b)) (s := Y) hb; have f9 := ax (aB hr h d [99, 97, 108, 108] (b := b)) (s := Y) hb; have e74 := e74; rw [dM]; obtain ⟨N, T, Lb, hN, hT, hL⟩ := lens3 Y; rw [hN] at hb
 conv => lhs; rw [← aj (Y.af false b (pc ts l d))]
 simp only [pc, pcf, aI, Tok.c, bc, aa, if_true, if_false, ab, bU, dY, eH, dQ, cj, eU, p0, p1, p2, p3, p4, p5, p6, p7, p8, p9] at e67 f0 f1 f2 f3 f4 f5 f6 f7 f8 f9 e74 ⊢
 generalize aw ts = es at *
 simp (maxDischargeDepth := 8) [S82, hN, hT, hL, hb, e67, f0, f1, f2, f3, f4, f5, f6, f7, f8, f9, e74, p0, p1, p2, p3, p4, p5, p6, p7, p8, p9, k1, k1']
end
end Go.Proofs.YtlhlijaondmccaaDoor.S
namespace Go.Proofs.YtlhlijaondmccaaDoor.S
open Go Go.AM Go.Proofs
theorem B8 {ts : List Tok} (hr : Row ts) {n : Nat} (hn : n ≤ 1000000) (ihe : lF ts n) (ih : qc ts n) : ∀ d l x, d ≤ 12 → Sfx ts l → ri (n + 1) d l = some x → Rd 82 [] ts d d l dQ x := by
 intro d l x hd12 h hx; simp only [ri] at hx
 by_cases k1 : (hd l).kind = 1
 · rw [if_pos k1] at hx
   exact yF hr hn ihe ih hd12 h k1 hx
 rw [if_neg k1] at hx
 cases p0 : isT l [108, 111, 111, 112] with
 | true => rw [if_pos p0] at hx; exact yE hr hn ihe ih hd12 h k1 p0 hx
 | false =>
 rw [if_neg (by rw [p0]; decide)] at hx
 cases p1 : isT l [105, 102] with
 | true => rw [if_pos p1] at hx; exact B7 hr hn ihe ih hd12 h k1 p0 p1 hx
 | false =>
 rw [if_neg (by rw [p1]; decide)] at hx
 cases p2 : isT l [97, 116, 111, 109, 105, 99] with
 | true => rw [if_pos p2] at hx; exact uV hr hn ihe ih hd12 h k1 p0 p1 p2 hx
 | false =>
 rw [if_neg (by rw [p2]; decide)] at hx
 cases p3 : isT l [108, 101, 116] with
 | true =>
  rw [if_pos (cH p3), if_neg (by rw [nZ p3]; decide)] at hx; exact Az hr hn ihe ih hd12 h k1 p0 p1 p2 p3 hx
 | false =>
 cases p4 : isT l [118, 97, 114] with
 | true =>
  rw [if_pos (cD p4), if_pos (nZ p4)] at hx; exact AB hr hn ihe ih hd12 h k1 p0 p1 p2 p3 p4 hx
 | false =>
 rw [if_neg (by rw [p3, p4]; decide)] at hx
 cases p5 : isT l [115, 101, 116] with
 | true => rw [if_pos p5] at hx; exact AA hr hn ihe ih hd12 h k1 p0 p1 p2 p3 p4 p5 hx
 | false =>
 rw [if_neg (by rw [p5]; decide)] at hx
 cases p6 : isT l [112, 114, 105, 110, 116] with
 | true => rw [if_pos p6] at hx; exact v8 hr hn ihe ih hd12 h k1 p0 p1 p2 p3 p4 p5 p6 hx
 | false =>
 rw [if_neg (by rw [p6]; decide)] at hx
 cases p7 : isT l [98, 114, 101, 97, 107] with
 | true => rw [if_pos p7] at hx; exact v7 hr hn ihe ih hd12 h k1 p0 p1 p2 p3 p4 p5 p6 p7 hx
 | false =>
 rw [if_neg (by rw [p7]; decide)] at hx
 cases p8 : isT l [99, 111, 110, 116, 105, 110, 117, 101] with
 | true => rw [if_pos p8] at hx; exact rF hr hn ihe ih hd12 h k1 p0 p1 p2 p3 p4 p5 p6 p7 p8 hx
 | false =>
 rw [if_neg (by rw [p8]; decide)] at hx
 cases p9 : isT l [99, 97, 108, 108] with
 | true => rw [if_pos p9] at hx; exact yD hr hn ihe ih hd12 h k1 p0 p1 p2 p3 p4 p5 p6 p7 p8 p9 hx
 | false =>
 rw [if_neg (by rw [p9]; decide)] at hx; exact yG hr hn ihe ih hd12 h k1 p0 p1 p2 p3 p4 p5 p6 p7 p8 p9 hx
theorem Ax {ts : List Tok} (hr : Row ts) : ∀ n, n ≤ 1000000 → qc ts n ∧ ∀ d acc l x, d ≤ 12 → acc.length + n ≤ 1000000 → Sfx ts l → rD n d acc l = some x → AX ts d acc l x
 | 0, _ => by
  refine ⟨⟨?_, ?_, ?_⟩, ?_⟩
  · intro d l x _ _ h; simp [gi] at h
  · intro d t name l x _ _ h; simp [lY] at h
  · intro d l x _ _ h; simp [ri] at h
  · intro d acc l x _ _ _ h; simp [rD] at h
 | n + 1, hn => by
  obtain ⟨i, r⟩ := Ax hr n (by omega); obtain ⟨e, _⟩ := wW hr n; exact ⟨⟨zl hr (by omega) r, fun d t name l x h1 h2 h3 => BR hr i d t name l x h1 h2 h3, B8 hr (by omega) e i⟩, Dw hr i r⟩
abbrev nmC (x : Nm) : List PV := [.v (.string x.name), .v (.int .i64 x.ty.kd), .v (.string x.ty.rc), .v (.int .i64 x.line), .v (.int .i64 x.col)]
def nms (l : List Nm) : List (List PV) := l.map nmC
theorem oU (l : List Nm) : cK 5 (nms l) = true := jG nmC (fun _ => rfl) l
theorem th (a b : List Nm) : nms (a ++ b) = nms a ++ nms b := List.map_append ..
theorem gn (a : List Nm) : (nms a).length = a.length := List.length_map ..
abbrev iX (r : Rec) : PV := .agg [.v (.string r.name), .sl (nms r.fields) .dead, .v (.int .i64 r.line), .v (.int .i64 r.col)]
attribute [local simp] cV cy bR bS cz eY fk ef db ec cZ ed da fj bT gQ dV gR gL gG AM.ae aP aQ ba aO aD AM.onG fJ cd ep Ex.bf cond_true cond_false cR cQ cP cO cN cT cM cU cS eg dc de cx cW AM.dj AM.cellsOf AM.av bP beq_true cK ak aA aZ bx bQ decide_true decide_false bI bA bn bz aY aC ay bu aR cX cY fg az bH bw bN cv dU dZ cG eu et set_set eB dy fG dz cF bC dx dw cE dv eA eC fA fB bD cf en fw dN aK aS aE AM.aV ah cL bL bq aW aN aM AM.part bg aL bY cc bZ bX bX.eK AM.dL bB cq dG fv aK laid aG aX cm
attribute [-simp] ag
attribute [local congr] dH
def CJ (ts : List Tok) (d : Nat) (acc : List Nm) (l : List Tok) (x : PR (List Nm)) : Prop := match x with
 | .ok xs l' => Sfx ts l' ∧ ∀ b (Y : St), b < Y.stk.length → ∀ N T Lb, Y.stk.length = N → Y.tk.length = T → Y.lp.length = Lb → ∀ c tk (B0 B1 : List PV) (nm : ByteArray) (ln cl : Int), gq T tk c acc.length 5 → ∃ c' tk',
  itE (S41.b0 (E L) itE N Lb) [.ptr false b 0, .ptr false N 0, .ptr false (N + 2) 0] ((Y.af false b (pc ts l d)).app [⟨B0, []⟩, ⟨B1, []⟩, ⟨[.v (.string nm), .sl (nms acc) c, .v (.int .i64 ln), .v (.int .i64 cl)], []⟩] tk []) =
   some (.exit 0, [.ptr false b 0, .ptr false N 0, .ptr false (N + 2) 0], (Y.af false b (pc ts l' d)).app [⟨B0, []⟩, ⟨B1, []⟩, ⟨[.v (.string nm), .sl (nms xs) c', .v (.int .i64 ln), .v (.int .i64 cl)], []⟩] tk' [])
 | .bad er p => ∃ a' d'', ∀ b (Y : St), b < Y.stk.length → ∀ N T Lb, Y.stk.length = N → Y.tk.length = T → Y.lp.length = Lb → ∀ c tk (B0 B1 : List PV) (nm : ByteArray) (ln cl : Int), gq T tk c acc.length 5 → ∃ B2 tk',
  itE (S41.b0 (E L) itE N Lb) [.ptr false b 0, .ptr false N 0, .ptr false (N + 2) 0] ((Y.af false b (pc ts l d)).app [⟨B0, []⟩, ⟨B1, []⟩, ⟨[.v (.string nm), .sl (nms acc) c, .v (.int .i64 ln), .v (.int .i64 cl)], []⟩] tk []) =
   some (.pan 92 (.agg #[]), [.ptr false b 0, .ptr false N 0, .ptr false (N + 2) 0], (Y.af false b (pcf (aw ts) a' d'' er p.1 p.2)).app [⟨B0, []⟩, ⟨B1, []⟩, ⟨B2, []⟩] tk' [])
section
variable {ts : List Tok} (hr : Row ts)
include hr
theorem uc {d : Nat} : ∀ n acc l x, acc.length + n ≤ 1000000 → Sfx ts l → k9 n acc l = some x → CJ ts d acc l x := by
 intro n
 induction n with
 | zero => intro acc l x _ _ hx; simp [k9] at hx
 | succ n ih =>
  intro acc l x hac h hx; simp only [k9] at hx
  cases i1 : isT l [125] with
  | true =>
   rw [if_pos i1] at hx; obtain rfl := Option.some.inj hx; refine ⟨h.isT hr i1, fun b Y hb N T Lb hN hT hL c tk B0 B1 nm ln cl ho => ⟨c, tk, ?_⟩⟩; have e1 := ax (aB hr h d [125] (b := b)) (s := Y) hb; simp only [pc, pcf, i1, if_true] at e1 ⊢
   generalize aw ts = es at *
   apply hG; simp [S41.b0, hN, hT, hL, hb, e1, i1]
  | false =>
   rw [if_neg (by rw [i1]; decide)] at hx; obtain ⟨y, hy⟩ := dq hx; rw [hy] at hx; have h2 := qM hr h d hy
   cases y with
   | bad er q =>
    obtain rfl := bF hx rfl; obtain ⟨a', d'', eb⟩ := bm h2 rfl; refine ⟨a', d'', fun b Y hb N T Lb hN hT hL c tk B0 B1 nm ln cl ho => ⟨[.v (.string nm), .sl (nms acc) c, .v (.int .i64 ln), .v (.int .i64 cl)], tk, ?_⟩⟩; have e1 := ax (aB hr h d [125] (b := b)) (s := Y) hb; have eb := eb hb; simp only [pc, pcf, i1, if_false, ab] at e1 eb ⊢
    generalize aw ts = es at *
    apply im; simp [S41.b0, hN, hT, hL, hb, e1, eb, i1]
   | ok s l1 =>
    have hx := cu hx rfl
    try dsimp only at hx
    have s1 := br h2 rfl
    have own : ∀ (b : Nat) (Y : St) (T : Nat), Y.tk.length = T → ∀ c tk, gq T tk c acc.length 5 → ∃ c' tk', (∀ (bl : List Blk) (lp : List Aux) (base : Nat) (z : List PV), ej base z 5 56 (.sl (nms acc) c) [nmC s] ((Y.af false b (pc ts l1 d)).app bl tk lp) = some (.sl (nms (acc ++ [s])) c', (Y.af false b (pc ts l1 d)).app bl tk' lp)) ∧ gq T tk' c' (acc ++ [s]).length 5 := by
     intro b Y T hT c tk ho; rw [← gn] at ho; have := ho.grow (ys := [nmC s]) (bytes := 56) (b := b) (cs := pc ts l1 d) hT (by rw [gn, bE]; unfold dE; omega) (oU _) (oU [s]) (by omega) (by omega); rw [th]; simpa [gn, nms] using this
    have h3 := eG hr s1 d [59]
    cases x3 : dt [59] l1 with
    | bad er q =>
     obtain rfl := bF hx x3; obtain ⟨a', d'', eb⟩ := bm h3 x3; refine ⟨a', d'', fun b Y hb N T Lb hN hT hL c tk B0 B1 nm ln cl ho => ?_⟩; obtain ⟨c', tk', ea, _⟩ := own b Y T hT c tk ho; refine ⟨[.v (.string nm), .sl (nms (acc ++ [s])) c', .v (.int .i64 ln), .v (.int .i64 cl)], tk', ?_⟩; have e1 := ax (aB hr h d [125] (b := b)) (s := Y) hb; have e2 := aJ h2 rfl hb; have eb := eb hb; simp only [pc, pcf, aI, gW, gX, nmC, i1, if_false, ab] at e1 e2 ea eb ⊢
     generalize aw ts = es at *
     apply im; simp [S41.b0, hN, hT, hL, hb, e1, e2, cw, ea, eb, i1, bj, jI, fV, AM.cC, AM.eN, chunks]
    | ok u l3 =>
     have hx := cu hx x3
     try dsimp only at hx
     have s3 := br h3 x3; have h4 := ih (acc ++ [s]) l3 x (by simp only [bh, bE]; omega) s3 hx
     have stp : ∀ b (Y : St), b < Y.stk.length → ∀ N T Lb, Y.stk.length = N → Y.tk.length = T → Y.lp.length = Lb → ∀ c tk (B0 B1 : List PV) (nm : ByteArray) (ln cl : Int), gq T tk c acc.length 5 → ∃ c' tk', gq T tk' c' (acc ++ [s]).length 5 ∧
      S41.b0 (E L) itE N Lb [.ptr false b 0, .ptr false N 0, .ptr false (N + 2) 0] ((Y.af false b (pc ts l d)).app [⟨B0, []⟩, ⟨B1, []⟩, ⟨[.v (.string nm), .sl (nms acc) c, .v (.int .i64 ln), .v (.int .i64 cl)], []⟩] tk []) =
       some (.normal, [.ptr false b 0, .ptr false N 0, .ptr false (N + 2) 0], (Y.af false b (pc ts l3 d)).app [⟨B0, []⟩, ⟨B1, []⟩, ⟨[.v (.string nm), .sl (nms (acc ++ [s])) c', .v (.int .i64 ln), .v (.int .i64 cl)], []⟩] tk' []) := by
      intro b Y hb N T Lb hN hT hL c tk B0 B1 nm ln cl ho; obtain ⟨c', tk', ea, ho'⟩ := own b Y T hT c tk ho; refine ⟨c', tk', ho', ?_⟩; have e1 := ax (aB hr h d [125] (b := b)) (s := Y) hb; have e2 := aJ h2 rfl hb; have e3 := aJ h3 x3 hb; simp only [pc, pcf, aI, gW, gX, nmC, i1, if_false, ab] at e1 e2 e3 ea ⊢
      generalize aw ts = es at *
      simp [S41.b0, hN, hT, hL, hb, e1, e2, e3, cw, ea, i1, bj, jI, fV, AM.cC, AM.eN, chunks]
     cases x with
     | ok xs l' =>
      refine ⟨h4.1, fun b Y hb N T Lb hN hT hL c tk B0 B1 nm ln cl ho => ?_⟩; obtain ⟨c1, tk1, ho1, hs⟩ := stp b Y hb N T Lb hN hT hL c tk B0 B1 nm ln cl ho; obtain ⟨c', tk', hit⟩ := h4.2 b Y hb N T Lb hN hT hL c1 tk1 B0 B1 nm ln cl ho1; exact ⟨c', tk', (bW hs).trans hit⟩
     | bad er p =>
      obtain ⟨a', d'', h4⟩ := h4; refine ⟨a', d'', fun b Y hb N T Lb hN hT hL c tk B0 B1 nm ln cl ho => ?_⟩; obtain ⟨c1, tk1, ho1, hs⟩ := stp b Y hb N T Lb hN hT hL c tk B0 B1 nm ln cl ho; obtain ⟨z, tk', hit⟩ := h4 b Y hb N T Lb hN hT hL c1 tk1 B0 B1 nm ln cl ho1; exact ⟨z, tk', (bW hs).trans hit⟩
theorem Dv {d n : Nat} {l : List Tok} {x : PR Rec} (hn : n ≤ 1000000) (h : Sfx ts l) (hx : Aj n l = some x) : Rd 41 [] ts d d l iX x := by
 unfold Aj at hx; have h1 := gC hr h d 1
 cases x1 : eW 1 l with
 | bad e q =>
  obtain rfl := bF hx x1; obtain ⟨a', d'', eb⟩ := bm h1 x1; refine ⟨a', d'', fun b Y hb => ?_⟩; have eb := eb hb; rw [sF]; obtain ⟨N, T, Lb, hN, hT, hL⟩ := lens3 Y; rw [hN] at hb
  conv => lhs; rw [← aj (Y.af false b (pc ts l d))]
  simp only [pc, pcf, aI, Tok.c, bc, aa] at eb ⊢
  generalize aw ts = es at *
  simp [S41, hN, hT, hL, hb, eb]
 | ok t l1 =>
  have hx := cu hx x1
  try dsimp only at hx
  have s1 := br h1 x1; have h2 := eG hr s1 d [123]
  cases x2 : dt [123] l1 with
  | bad e q =>
   obtain rfl := bF hx x2; obtain ⟨a', d'', eb⟩ := bm h2 x2; refine ⟨a', d'', fun b Y hb => ?_⟩; have e1 := aJ h1 x1 hb; have eb := eb hb; rw [sF]; obtain ⟨N, T, Lb, hN, hT, hL⟩ := lens3 Y; rw [hN] at hb
   conv => lhs; rw [← aj (Y.af false b (pc ts l d))]
   simp only [pc, pcf, aI, Tok.c, bc, aa] at e1 eb ⊢
   generalize aw ts = es at *
   simp [S41, hN, hT, hL, hb, e1, eb]
  | ok u l2 =>
   have hx := cu hx x2
   try dsimp only at hx
   have s2 := br h2 x2; obtain ⟨y, hy⟩ := dq hx; rw [hy] at hx; have h3 := uc hr (d := d) n [] l2 y (by simpa using hn) s2 hy
   cases y with
   | bad er q =>
    obtain rfl := bF hx rfl; obtain ⟨a', d'', h3⟩ := h3; refine ⟨a', d'', fun b Y hb => ?_⟩; have e1 := aJ h1 x1 hb; have e2 := aJ h2 x2 hb; obtain ⟨z, tk', hit⟩ := h3 b Y hb _ _ _ rfl rfl rfl .nil [] [str [], .sl [] .nil, .v (.int .i64 0), .v (.int .i64 0)] t.c (bs t.text) t.p.1 t.p.2 (.inl (.inl rfl)); rw [sF]; obtain ⟨N, T, Lb, hN, hT, hL⟩ := lens3 Y; rw [hN] at hb; rw [hN] at hit
    conv => lhs; rw [← aj (Y.af false b (pc ts l d))]
    rw [hL] at hit; simp only [pc, pcf, aI, Tok.c, bc, aa, nms, aW] at e1 e2 hit ⊢
    generalize aw ts = es at *
    simp [S41, hN, hT, hL, hb, e1, e2, hit, Ex.bf]
   | ok fs l3 =>
    obtain rfl := Option.some.inj (cu hx rfl); refine ⟨h3.1, fun b Y hb => ?_⟩; have e1 := aJ h1 x1 hb; have e2 := aJ h2 x2 hb; obtain ⟨c', tk', hit⟩ := h3.2 b Y hb _ _ _ rfl rfl rfl .nil [] [str [], .sl [] .nil, .v (.int .i64 0), .v (.int .i64 0)] t.c (bs t.text) t.p.1 t.p.2 (.inl (.inl rfl)); rw [sF]; obtain ⟨N, T, Lb, hN, hT, hL⟩ := lens3 Y; rw [hN] at hb; rw [hN] at hit
    conv => lhs; rw [← aj (Y.af false b (pc ts l d))]
    rw [hL] at hit; simp only [pc, pcf, aI, Tok.c, bc, aa, nms, aW] at e1 e2 hit ⊢
    generalize aw ts = es at *
    simp [S41, hN, hT, hL, hb, e1, e2, hit, Ex.bf]
    rfl
end
abbrev lz (r : Fu) : PV := .agg [.v (.string r.name), .sl (nms r.params) .dead, .sl (fa r.body) .dead, .v (.int .i64 r.line), .v (.int .i64 r.col)]
attribute [local simp] cV cy bR bS cz eY fk ef db ec cZ ed da fj bT gQ dV gR gL gG AM.ae aP aQ ba aO aD AM.onG fJ cd ep Ex.bf cond_true cond_false cR cQ cP cO cN cT cM cU cS eg dc de cx cW AM.dj AM.cellsOf AM.av bP beq_true cK ak aA aZ bx bQ decide_true decide_false bI bA bn bz aY aC ay bu aR cX cY fg az bH bw bN cv dU dZ cG eu et set_set eB dy fG dz cF bC dx dw cE dv eA eC fA fB bD cf en fw dN aK aS aE AM.aV ah cL bL bq aW aN aM AM.part bg aL bY cc bZ bX bX.eK AM.dL bB cq dG fv aK laid aG aX cm
attribute [local congr] dH
abbrev fuC (nm : ByteArray) (ps : List Nm) (c : Cap) (ln cl : Int) : List PV := [.v (.string nm), .sl (nms ps) c, .sl [] .nil, .v (.int .i64 ln), .v (.int .i64 cl)]
def CN (ts : List Tok) (d : Nat) (acc : List Nm) (l : List Tok) (x : PR (List Nm)) : Prop := match x with
 | .ok xs l' => Sfx ts l' ∧ ∀ b (Y : St), b < Y.stk.length → ∀ N T Lb, Y.stk.length = N → Y.tk.length = T → Y.lp.length = Lb → ∀ c tk (B0 B1 : List PV) (nm : ByteArray) (ln cl : Int), gq T tk c acc.length 5 → ∃ c' tk',
  itE (S44.b0 (E L) itE N Lb) [.ptr false b 0, .ptr false N 0, .ptr false (N + 2) 0] ((Y.af false b (pc ts l d)).app [⟨B0, []⟩, ⟨B1, []⟩, ⟨fuC nm acc c ln cl, []⟩] tk []) =
   some (.exit 0, [.ptr false b 0, .ptr false N 0, .ptr false (N + 2) 0], (Y.af false b (pc ts l' d)).app [⟨B0, []⟩, ⟨B1, []⟩, ⟨fuC nm xs c' ln cl, []⟩] tk' [])
 | .bad er p => ∃ a' d'', ∀ b (Y : St), b < Y.stk.length → ∀ N T Lb, Y.stk.length = N → Y.tk.length = T → Y.lp.length = Lb → ∀ c tk (B0 B1 : List PV) (nm : ByteArray) (ln cl : Int), gq T tk c acc.length 5 → ∃ B2 tk',
  itE (S44.b0 (E L) itE N Lb) [.ptr false b 0, .ptr false N 0, .ptr false (N + 2) 0] ((Y.af false b (pc ts l d)).app [⟨B0, []⟩, ⟨B1, []⟩, ⟨fuC nm acc c ln cl, []⟩] tk []) =
   some (.pan 92 (.agg #[]), [.ptr false b 0, .ptr false N 0, .ptr false (N + 2) 0], (Y.af false b (pcf (aw ts) a' d'' er p.1 p.2)).app [⟨B0, []⟩, ⟨B1, []⟩, ⟨B2, []⟩] tk' [])
section
variable {ts : List Tok} (hr : Row ts)
include hr
theorem uz {d : Nat} : ∀ n acc l x, acc.length + n ≤ 1000000 → Sfx ts l → jY n acc l = some x → CN ts d acc l x := by
 intro n
 induction n with
 | zero => intro acc l x _ _ hx; simp [jY] at hx
 | succ n ih =>
  intro acc l x hac h hx; simp only [jY] at hx; obtain ⟨y, hy⟩ := dq hx; rw [hy] at hx; have h2 := qM hr h d hy
  cases y with
  | bad er q =>
   obtain rfl := bF hx rfl; obtain ⟨a', d'', eb⟩ := bm h2 rfl; refine ⟨a', d'', fun b Y hb N T Lb hN hT hL c tk B0 B1 nm ln cl ho => ⟨fuC nm acc c ln cl, tk, ?_⟩⟩; have eb := eb hb; simp only [pc, pcf, fuC] at eb ⊢
   generalize aw ts = es at *
   apply im; simp [S44.b0, hN, hT, hL, hb, eb]
  | ok s l1 =>
   have hx := cu hx rfl
   try dsimp only at hx
   have s1 := br h2 rfl
   have own : ∀ (b : Nat) (Y : St) (T : Nat), Y.tk.length = T → ∀ c tk, gq T tk c acc.length 5 → ∃ c' tk', (∀ (bl : List Blk) (lp : List Aux) (base : Nat) (z : List PV), ej base z 5 56 (.sl (nms acc) c) [nmC s] ((Y.af false b (pc ts l1 d)).app bl tk lp) = some (.sl (nms (acc ++ [s])) c', (Y.af false b (pc ts l1 d)).app bl tk' lp)) ∧ gq T tk' c' (acc ++ [s]).length 5 := by
    intro b Y T hT c tk ho; rw [← gn] at ho; have := ho.grow (ys := [nmC s]) (bytes := 56) (b := b) (cs := pc ts l1 d) hT (by rw [gn, bE]; unfold dE; omega) (oU _) (oU [s]) (by omega) (by omega); rw [th]; simpa [gn, nms] using this
   cases i1 : isT l1 [41] with
   | true =>
    rw [if_pos i1] at hx; obtain rfl := Option.some.inj hx; refine ⟨s1.isT hr i1, fun b Y hb N T Lb hN hT hL c tk B0 B1 nm ln cl ho => ?_⟩; obtain ⟨c', tk', ea, _⟩ := own b Y T hT c tk ho; refine ⟨c', tk', ?_⟩; have e1 := ax (aB hr s1 d [41] (b := b)) (s := Y) hb; have e2 := aJ h2 rfl hb; simp only [pc, pcf, fuC, gW, gX, nmC, i1, if_true] at e1 e2 ea ⊢
    generalize aw ts = es at *
    apply hG; simp [S44.b0, hN, hT, hL, hb, e1, e2, cw, ea, i1, bj, jI, fV, AM.cC, AM.eN, chunks, Ex.bf]
   | false =>
    rw [if_neg (by rw [i1]; decide)] at hx; have h3 := eG hr s1 d [44]
    cases x3 : dt [44] l1 with
    | bad er q =>
     obtain rfl := bF hx x3; obtain ⟨a', d'', eb⟩ := bm h3 x3; refine ⟨a', d'', fun b Y hb N T Lb hN hT hL c tk B0 B1 nm ln cl ho => ?_⟩; obtain ⟨c', tk', ea, _⟩ := own b Y T hT c tk ho; refine ⟨fuC nm (acc ++ [s]) c' ln cl, tk', ?_⟩; have e1 := ax (aB hr s1 d [41] (b := b)) (s := Y) hb; have e2 := aJ h2 rfl hb; have eb := eb hb; simp only [pc, pcf, fuC, aI, gW, gX, nmC, i1, if_false, ab] at e1 e2 ea eb ⊢
     generalize aw ts = es at *
     apply im; simp [S44.b0, hN, hT, hL, hb, e1, e2, cw, ea, eb, i1, bj, jI, fV, AM.cC, AM.eN, chunks]
    | ok u l3 =>
     have hx := cu hx x3
     try dsimp only at hx
     have s3 := br h3 x3; have h4 := ih (acc ++ [s]) l3 x (by simp only [bh, bE]; omega) s3 hx
     have stp : ∀ b (Y : St), b < Y.stk.length → ∀ N T Lb, Y.stk.length = N → Y.tk.length = T → Y.lp.length = Lb → ∀ c tk (B0 B1 : List PV) (nm : ByteArray) (ln cl : Int), gq T tk c acc.length 5 → ∃ c' tk', gq T tk' c' (acc ++ [s]).length 5 ∧
      S44.b0 (E L) itE N Lb [.ptr false b 0, .ptr false N 0, .ptr false (N + 2) 0] ((Y.af false b (pc ts l d)).app [⟨B0, []⟩, ⟨B1, []⟩, ⟨fuC nm acc c ln cl, []⟩] tk []) =
       some (.normal, [.ptr false b 0, .ptr false N 0, .ptr false (N + 2) 0], (Y.af false b (pc ts l3 d)).app [⟨B0, []⟩, ⟨B1, []⟩, ⟨fuC nm (acc ++ [s]) c' ln cl, []⟩] tk' []) := by
      intro b Y hb N T Lb hN hT hL c tk B0 B1 nm ln cl ho; obtain ⟨c', tk', ea, ho'⟩ := own b Y T hT c tk ho; refine ⟨c', tk', ho', ?_⟩; have e1 := ax (aB hr s1 d [41] (b := b)) (s := Y) hb; have e2 := aJ h2 rfl hb; have e3 := aJ h3 x3 hb; simp only [pc, pcf, fuC, aI, gW, gX, nmC, i1, if_false, ab] at e1 e2 e3 ea ⊢
      generalize aw ts = es at *
      simp [S44.b0, hN, hT, hL, hb, e1, e2, e3, cw, ea, i1, bj, jI, fV, AM.cC, AM.eN, chunks]
     cases x with
     | ok xs l' =>
      refine ⟨h4.1, fun b Y hb N T Lb hN hT hL c tk B0 B1 nm ln cl ho => ?_⟩; obtain ⟨c1, tk1, ho1, hs⟩ := stp b Y hb N T Lb hN hT hL c tk B0 B1 nm ln cl ho; obtain ⟨c', tk', hit⟩ := h4.2 b Y hb N T Lb hN hT hL c1 tk1 B0 B1 nm ln cl ho1; exact ⟨c', tk', (bW hs).trans hit⟩
     | bad er p =>
      obtain ⟨a', d'', h4⟩ := h4; refine ⟨a', d'', fun b Y hb N T Lb hN hT hL c tk B0 B1 nm ln cl ho => ?_⟩; obtain ⟨c1, tk1, ho1, hs⟩ := stp b Y hb N T Lb hN hT hL c tk B0 B1 nm ln cl ho; obtain ⟨z, tk', hit⟩ := h4 b Y hb N T Lb hN hT hL c1 tk1 B0 B1 nm ln cl ho1; exact ⟨z, tk', (bW hs).trans hit⟩
end
end Go.Proofs.YtlhlijaondmccaaDoor.S
namespace Go.Proofs.YtlhlijaondmccaaDoor.S
open Go Go.AM Go.Proofs
attribute [local simp] cV cy bR bS cz eY fk ef db ec cZ ed da fj bT gQ dV gR gL gG AM.ae aP aQ ba aO aD AM.onG fJ cd ep Ex.bf cond_true cond_false cR cQ cP cO cN cT cM cU cS eg dc de cx cW AM.dj AM.cellsOf AM.av bP beq_true cK ak aA aZ bx bQ decide_true decide_false bI bA bn bz aY aC ay bu aR cX cY fg az bH bw bN cv dU dZ cG eu et set_set eB dy fG dz cF bC dx dw cE dv eA eC fA fB bD cf en fw dN aK aS aE AM.aV ah cL bL bq aW aN aM AM.part bg aL bY cc bZ bX bX.eK AM.dL bB cq dG fv aK laid aG aX cm
attribute [-simp] ag
attribute [local congr] dH
theorem Dk {ts : List Tok} (hr : Row ts) {d n : Nat} (hd : d = 0) (hn : n ≤ 1000000) (ih : qc ts n) {l : List Tok} {x : PR Fu} (h : Sfx ts l) (hx : BB n l = some x) : Rd 44 [] ts d d l lz x := by
 have hx : (pb (some (eW 1 l)) fun t l1 => pb (some (dt [40] l1)) fun _ l2 =>
  pb (if isT l2 [41] then some (.ok [] l2.tail) else jY n [] l2) fun ps l3 => pb (gi n d l3) fun b l4 => some (.ok (⟨bs t.text, ps, b, t.p.1, t.p.2⟩ : Fu) l4)) = some x := by subst hd; exact hx
 have hd12 : d ≤ 12 := by omega
 have h1 := gC hr h d 1
 cases x1 : eW 1 l with
 | bad e q =>
  obtain rfl := bF hx x1; obtain ⟨a', d'', eb⟩ := bm h1 x1; refine ⟨a', d'', fun b Y hb => ?_⟩; have eb := eb hb; have eb := eb; rw [mU]; obtain ⟨N, T, Lb, hN, hT, hL⟩ := lens3 Y; rw [hN] at hb
  conv => lhs; rw [← aj (Y.af false b (pc ts l d))]
  simp only [pc, pcf, aI, Tok.c, bc, fuC, cj, aa, nms, aW, if_true, if_false, ab] at eb ⊢
  generalize aw ts = es at *
  simp [S44, hN, hT, hL, hb, eb, Ex.bf]
 | ok t l1 =>
  have hx := cu hx x1
  try dsimp only at hx
  have s1 := br h1 x1; have h2 := eG hr s1 d [40]
  cases x2 : dt [40] l1 with
  | bad e q =>
   obtain rfl := bF hx x2; obtain ⟨a', d'', eb⟩ := bm h2 x2; refine ⟨a', d'', fun b Y hb => ?_⟩; have eb := eb hb; have e1 := aJ h1 x1 hb; have eb := eb; rw [mU]; obtain ⟨N, T, Lb, hN, hT, hL⟩ := lens3 Y; rw [hN] at hb
   conv => lhs; rw [← aj (Y.af false b (pc ts l d))]
   simp only [pc, pcf, aI, Tok.c, bc, fuC, cj, aa, nms, aW, if_true, if_false, ab] at e1 eb ⊢
   generalize aw ts = es at *
   simp [S44, hN, hT, hL, hb, e1, eb, Ex.bf]
  | ok u l2 =>
   have hx := cu hx x2
   try dsimp only at hx
   have s2 := br h2 x2
   cases i3 : isT l2 [41] with
   | true =>
    rw [if_pos i3] at hx; have s3 := s2.isT hr i3; have hx := cu hx rfl
    try dsimp only at hx
    obtain ⟨z, hz⟩ := dq hx; rw [hz] at hx; have h5 := ih.blk _ _ _ hd12 s3 hz
    cases z with
    | bad e q =>
     obtain rfl := bF hx rfl; obtain ⟨a', d'', eb⟩ := bm h5 rfl; refine ⟨a', d'', fun b Y hb => ?_⟩; have eb := eb hb; have e1 := aJ h1 x1 hb; have e2 := aJ h2 x2 hb; have e3 := ax (aB hr s2 d [41] (b := b)) (s := Y) hb; have eb := eb; rw [mU]; obtain ⟨N, T, Lb, hN, hT, hL⟩ := lens3 Y; rw [hN] at hb
     conv => lhs; rw [← aj (Y.af false b (pc ts l d))]
     simp only [pc, pcf, aI, Tok.c, bc, fuC, cj, aa, nms, aW, if_true, if_false, ab, i3] at e1 e2 e3 eb ⊢
     generalize aw ts = es at *
     simp [S44, hN, hT, hL, hb, e1, e2, e3, eb, i3, Ex.bf]
    | ok bd l5 =>
     obtain rfl := Option.some.inj (cu hx rfl); refine ⟨br h5 rfl, fun b Y hb => ?_⟩; have e1 := aJ h1 x1 hb; have e2 := aJ h2 x2 hb; have e3 := ax (aB hr s2 d [41] (b := b)) (s := Y) hb; have e5 := aJ h5 rfl hb; rw [mU]; obtain ⟨N, T, Lb, hN, hT, hL⟩ := lens3 Y; rw [hN] at hb
     conv => lhs; rw [← aj (Y.af false b (pc ts l d))]
     simp only [pc, pcf, aI, Tok.c, bc, fuC, cj, aa, nms, aW, if_true, if_false, ab, i3] at e1 e2 e3 e5 ⊢
     generalize aw ts = es at *
     simp [S44, hN, hT, hL, hb, e1, e2, e3, e5, i3, Ex.bf]
     rfl
   | false =>
    rw [if_neg (by rw [i3]; decide)] at hx; obtain ⟨y, hy⟩ := dq hx; rw [hy] at hx; have h4 := uz hr (d := d) n [] l2 y (by simpa using hn) s2 hy
    cases y with
    | bad er q =>
     obtain rfl := bF hx rfl; obtain ⟨a', d'', h4⟩ := h4; refine ⟨a', d'', fun b Y hb => ?_⟩; have e1 := aJ h1 x1 hb; have e2 := aJ h2 x2 hb; have e3 := ax (aB hr s2 d [41] (b := b)) (s := Y) hb; obtain ⟨z, tk', hit⟩ := h4 b Y hb _ _ _ rfl rfl rfl .nil [] [str [], .sl [] .nil, .sl [] .nil, .v (.int .i64 0), .v (.int .i64 0)] t.c (bs t.text) t.p.1 t.p.2 (.inl (.inl rfl)); rw [mU]; obtain ⟨N, T, Lb, hN, hT, hL⟩ := lens3 Y; rw [hN] at hb; rw [hN] at hit
     conv => lhs; rw [← aj (Y.af false b (pc ts l d))]
     rw [hL] at hit; simp only [pc, pcf, aI, Tok.c, bc, fuC, cj, aa, nms, aW, if_true, if_false, ab, i3] at e1 e2 e3 hit ⊢
     generalize aw ts = es at *
     simp [S44, hN, hT, hL, hb, e1, e2, e3, hit, i3, Ex.bf]
    | ok ps l4 =>
     have hx := cu hx rfl
     try dsimp only at hx
     have s4 := h4.1; obtain ⟨z, hz⟩ := dq hx; rw [hz] at hx; have h5 := ih.blk _ _ _ hd12 s4 hz
     cases z with
     | bad e q =>
      obtain rfl := bF hx rfl; obtain ⟨a', d'', eb⟩ := bm h5 rfl; refine ⟨a', d'', fun b Y hb => ?_⟩; have eb := eb hb; have e1 := aJ h1 x1 hb; have e2 := aJ h2 x2 hb; have e3 := ax (aB hr s2 d [41] (b := b)) (s := Y) hb; have eb := eb; obtain ⟨c', tk', hit⟩ := h4.2 b Y hb _ _ _ rfl rfl rfl .nil [] [str [], .sl [] .nil, .sl [] .nil, .v (.int .i64 0), .v (.int .i64 0)] t.c (bs t.text) t.p.1 t.p.2 (.inl (.inl rfl)); rw [mU]; obtain ⟨N, T, Lb, hN, hT, hL⟩ := lens3 Y; rw [hN] at hb; rw [hN] at hit
      conv => lhs; rw [← aj (Y.af false b (pc ts l d))]
      rw [hL] at hit; simp only [pc, pcf, aI, Tok.c, bc, fuC, cj, aa, nms, aW, if_true, if_false, ab, i3] at e1 e2 e3 eb hit ⊢
      generalize aw ts = es at *
      simp [S44, hN, hT, hL, hb, e1, e2, e3, eb, hit, i3, Ex.bf]
     | ok bd l5 =>
      obtain rfl := Option.some.inj (cu hx rfl); refine ⟨br h5 rfl, fun b Y hb => ?_⟩; have e1 := aJ h1 x1 hb; have e2 := aJ h2 x2 hb; have e3 := ax (aB hr s2 d [41] (b := b)) (s := Y) hb; have e5 := aJ h5 rfl hb; obtain ⟨c', tk', hit⟩ := h4.2 b Y hb _ _ _ rfl rfl rfl .nil [] [str [], .sl [] .nil, .sl [] .nil, .v (.int .i64 0), .v (.int .i64 0)] t.c (bs t.text) t.p.1 t.p.2 (.inl (.inl rfl)); rw [mU]; obtain ⟨N, T, Lb, hN, hT, hL⟩ := lens3 Y; rw [hN] at hb; rw [hN] at hit
      conv => lhs; rw [← aj (Y.af false b (pc ts l d))]
      rw [hL] at hit; simp only [pc, pcf, aI, Tok.c, bc, fuC, cj, aa, nms, aW, if_true, if_false, ab, i3] at e1 e2 e3 e5 hit ⊢
      generalize aw ts = es at *
      simp [S44, hN, hT, hL, hb, e1, e2, e3, e5, hit, i3, Ex.bf]
      rfl
end Go.Proofs.YtlhlijaondmccaaDoor.S
namespace Go.Proofs.YtlhlijaondmccaaDoor.S
open Go Go.AM Go.Proofs
theorem gq.w6 {T : Nat} {tk : List (Nat × Nat)} {c : Cap} {sz bytes : Nat} {es ys : List (List PV)} (h : gq T tk c es.length sz) {b : Nat} {cs : List PV} {Y : St} (hT : Y.tk.length = T)
 (h1 : (es.length + ys.length) * bytes ≤ dE) (h2 : cK sz es = true) (h3 : cK sz ys = true) (h4 : sz ≠ 0) (h5 : bytes ≠ 0) :
 ∃ c' tk', (∀ (bl : List Blk) (lp : List Aux) (base : Nat) (z : List PV), ej base z sz bytes (.sl es c) ys ((Y.af false b cs).app bl tk lp) = some (.sl (es ++ ys) c', (Y.af false b cs).app bl tk' lp)) ∧ gq T tk' c' (es ++ ys).length sz ∧
  (∀ {c2 n2 sz2}, gq T tk c2 n2 sz2 → oA c c2 → gq T tk' c2 n2 sz2 ∧ oA c' c2) := by
 subst hT; obtain ⟨c', tk', a, b, _, d⟩ := tJ (s := Y.af false b cs) h h1 h2 h3 h4 h5; exact ⟨c', tk', a, b, d⟩
theorem gq.sfc {T : Nat} {tk : List (Nat × Nat)} {c : Cap} {n sz : Nat} (h : gq T tk c n sz) (m : Nat) : c.sf true m = true := by
 rcases h with (rfl | rfl) | ⟨j, rfl, _⟩ <;> rfl
abbrev recC (r : Rec) : List PV := [.v (.string r.name), .sl (nms r.fields) .dead, .v (.int .i64 r.line), .v (.int .i64 r.col)]
abbrev fuE (r : Fu) : List PV := [.v (.string r.name), .sl (nms r.params) .dead, .sl (fa r.body) .dead, .v (.int .i64 r.line), .v (.int .i64 r.col)]
abbrev thC (r : Th) : List PV := [.sl (fa r.body) .dead, .v (.int .i64 r.line), .v (.int .i64 r.col)]
def jJ (l : List Rec) : List (List PV) := l.map recC
theorem uH (l : List Rec) : cK 4 (jJ l) = true := jG recC (fun _ => rfl) l
theorem yo (a b : List Rec) : jJ (a ++ b) = jJ a ++ jJ b := List.map_append ..
theorem lj (a : List Rec) : (jJ a).length = a.length := List.length_map ..
def nh (l : List Fu) : List (List PV) := l.map fuE
theorem wZ (l : List Fu) : cK 5 (nh l) = true := jG fuE (fun _ => rfl) l
theorem zF (a b : List Fu) : nh (a ++ b) = nh a ++ nh b := List.map_append ..
theorem lU (a : List Fu) : (nh a).length = a.length := List.length_map ..
def ny (l : List Th) : List (List PV) := l.map thC
theorem xA (l : List Th) : cK 3 (ny l) = true := jG thC (fun _ => rfl) l
theorem AF (a b : List Th) : ny (a ++ b) = ny a ++ ny b := List.map_append ..
theorem mm (a : List Th) : (ny a).length = a.length := List.length_map ..
abbrev pgC (g : Pg) (c1 c2 c3 c4 : Cap) : List PV := [.sl (jJ g.gS) c1, .sl (nms g.gls) c2, .sl (nh g.gP) c3, .sl (ny g.ths) c4]
abbrev nO (g : Pg) : PV := .agg (pgC g .dead .dead .dead .dead)
structure iU (T : Nat) (tk : List (Nat × Nat)) (c1 c2 c3 c4 : Cap) (g : Pg) : Prop where
 o1 : gq T tk c1 g.gS.length 4
 o2 : gq T tk c2 g.gls.length 5
 o3 : gq T tk c3 g.gP.length 5
 o4 : gq T tk c4 g.ths.length 3
 d12 : oA c1 c2
 d13 : oA c1 c3
 d14 : oA c1 c4
 d23 : oA c2 c3
 d24 : oA c2 c4
 d34 : oA c3 c4
section
variable {T : Nat} {tk : List (Nat × Nat)} {c1 c2 c3 c4 : Cap} {g : Pg} (h : iU T tk c1 c2 c3 c4 g) {b : Nat} {cs : List PV} {Y : St} (hT : Y.tk.length = T)
include h hT
theorem iU.g1 (r : Rec) (hl : g.gS.length < 1000000) : ∃ c' tk', (∀ (bl : List Blk) (lp : List Aux) (base : Nat) (z : List PV), ej base z 4 56 (.sl (jJ g.gS) c1) [recC r] ((Y.af false b cs).app bl tk lp) = some (.sl (jJ (g.gS ++ [r])) c', (Y.af false b cs).app bl tk' lp)) ∧ iU T tk' c' c2 c3 c4 { g with gS := g.gS ++ [r] } := by
 have o := h.o1; rw [← lj] at o; obtain ⟨c', tk', a, o', r'⟩ := o.w6 (ys := [recC r]) (bytes := 56) (b := b) (cs := cs) hT (by rw [lj, bE]; unfold dE; omega) (uH _) (uH [r]) (by omega) (by omega); have e : jJ (g.gS ++ [r]) = jJ g.gS ++ [recC r] := yo _ _; refine ⟨c', tk', fun bl lp base z => by rw [e]; exact a bl lp base z, ?_⟩; rw [← e, lj] at o'; obtain ⟨q2, e2⟩ := r' h.o2 h.d12; obtain ⟨q3, e3⟩ := r' h.o3 h.d13; obtain ⟨q4, e4⟩ := r' h.o4 h.d14; exact ⟨o', q2, q3, q4, e2, e3, e4, h.d23, h.d24, h.d34⟩
theorem iU.g2 (r : Nm) (hl : g.gls.length < 1000000) : ∃ c' tk', (∀ (bl : List Blk) (lp : List Aux) (base : Nat) (z : List PV), ej base z 5 56 (.sl (nms g.gls) c2) [nmC r] ((Y.af false b cs).app bl tk lp) = some (.sl (nms (g.gls ++ [r])) c', (Y.af false b cs).app bl tk' lp)) ∧ iU T tk' c1 c' c3 c4 { g with gls := g.gls ++ [r] } := by
 have o := h.o2; rw [← gn] at o; obtain ⟨c', tk', a, o', r'⟩ := o.w6 (ys := [nmC r]) (bytes := 56) (b := b) (cs := cs) hT (by rw [gn, bE]; unfold dE; omega) (oU _) (oU [r]) (by omega) (by omega); have e : nms (g.gls ++ [r]) = nms g.gls ++ [nmC r] := th _ _; refine ⟨c', tk', fun bl lp base z => by rw [e]; exact a bl lp base z, ?_⟩; rw [← e, gn] at o'; obtain ⟨q1, e1⟩ := r' h.o1 (h.d12).symm; obtain ⟨q3, e3⟩ := r' h.o3 h.d23; obtain ⟨q4, e4⟩ := r' h.o4 h.d24; exact ⟨q1, o', q3, q4, (e1).symm, h.d13, h.d14, e3, e4, h.d34⟩
theorem iU.g3 (r : Fu) (hl : g.gP.length < 1000000) : ∃ c' tk', (∀ (bl : List Blk) (lp : List Aux) (base : Nat) (z : List PV), ej base z 5 80 (.sl (nh g.gP) c3) [fuE r] ((Y.af false b cs).app bl tk lp) = some (.sl (nh (g.gP ++ [r])) c', (Y.af false b cs).app bl tk' lp)) ∧ iU T tk' c1 c2 c' c4 { g with gP := g.gP ++ [r] } := by
 have o := h.o3; rw [← lU] at o; obtain ⟨c', tk', a, o', r'⟩ := o.w6 (ys := [fuE r]) (bytes := 80) (b := b) (cs := cs) hT (by rw [lU, bE]; unfold dE; omega) (wZ _) (wZ [r]) (by omega) (by omega); have e : nh (g.gP ++ [r]) = nh g.gP ++ [fuE r] := zF _ _; refine ⟨c', tk', fun bl lp base z => by rw [e]; exact a bl lp base z, ?_⟩; rw [← e, lU] at o'; obtain ⟨q1, e1⟩ := r' h.o1 (h.d13).symm; obtain ⟨q2, e2⟩ := r' h.o2 (h.d23).symm; obtain ⟨q4, e4⟩ := r' h.o4 h.d34; exact ⟨q1, q2, o', q4, h.d12, (e1).symm, h.d14, (e2).symm, h.d24, e4⟩
theorem iU.g4 (r : Th) (hl : g.ths.length < 1000000) : ∃ c' tk', (∀ (bl : List Blk) (lp : List Aux) (base : Nat) (z : List PV), ej base z 3 40 (.sl (ny g.ths) c4) [thC r] ((Y.af false b cs).app bl tk lp) = some (.sl (ny (g.ths ++ [r])) c', (Y.af false b cs).app bl tk' lp)) ∧ iU T tk' c1 c2 c3 c' { g with ths := g.ths ++ [r] } := by
 have o := h.o4; rw [← mm] at o; obtain ⟨c', tk', a, o', r'⟩ := o.w6 (ys := [thC r]) (bytes := 40) (b := b) (cs := cs) hT (by rw [mm, bE]; unfold dE; omega) (xA _) (xA [r]) (by omega) (by omega); have e : ny (g.ths ++ [r]) = ny g.ths ++ [thC r] := AF _ _; refine ⟨c', tk', fun bl lp base z => by rw [e]; exact a bl lp base z, ?_⟩; rw [← e, mm] at o'; obtain ⟨q1, e1⟩ := r' h.o1 (h.d14).symm; obtain ⟨q2, e2⟩ := r' h.o2 (h.d24).symm; obtain ⟨q3, e3⟩ := r' h.o3 (h.d34).symm; exact ⟨q1, q2, q3, o', h.d12, h.d13, (e1).symm, h.d23, (e2).symm, (e3).symm⟩
end
theorem iU.zero (T : Nat) : iU T [] .nil .nil .nil .nil ⟨[], [], [], []⟩ :=
 ⟨.inl (.inl rfl), .inl (.inl rfl), .inl (.inl rfl), .inl (.inl rfl), .inl rfl, .inl rfl, .inl rfl, .inl rfl, .inl rfl, .inl rfl⟩
end Go.Proofs.YtlhlijaondmccaaDoor.S
namespace Go.Proofs.YtlhlijaondmccaaDoor.S
open Go Go.AM Go.Proofs
attribute [local simp] cV cy bR bS cz eY fk ef db ec cZ ed da fj bT gQ dV gR gL gG AM.ae aP aQ ba aO aD AM.onG fJ cd ep Ex.bf cond_true cond_false cR cQ cP cO cN cT cM cU cS eg dc de cx cW AM.dj AM.cellsOf AM.av bP beq_true cK ak aA aZ bx bQ decide_true decide_false bI bA bn bz aY aC ay bu aR cX cY fg az bH bw bN cv dU dZ cG eu et set_set eB dy fG dz cF bC dx dw cE dv eA eC fA fB bD cf en fw dN aK aS aE AM.aV ah cL bL bq aW aN aM AM.part bg aL bY cc bZ bX bX.eK AM.dL bB cq dG fv aK laid aG aX cm
attribute [-simp] ag
attribute [local congr] dH
abbrev z4 : List PV := [.sl [] .nil, .sl [] .nil, .sl [] .nil, .sl [] .nil]
def ly (ts : List Tok) (d : Nat) (g : Pg) (l : List Tok) (x : PR Pg) : Prop := match x with
 | .ok g' l' => Sfx ts l' ∧ ∀ b (Y : St), b < Y.stk.length → ∀ N T Lb, Y.stk.length = N → Y.tk.length = T → Y.lp.length = Lb → ∀ c1 c2 c3 c4 tk, iU T tk c1 c2 c3 c4 g → ∃ k1 k2 k3 k4 P tk',
  itE (S26.b0 (E L) itE N Lb) [.ptr false b 0, .ptr false N 0, .ptr false (N + 1) 0] ((Y.af false b (pc ts l d)).app [⟨z4, []⟩, ⟨pgC g c1 c2 c3 c4, []⟩] tk []) =
   some (.ret, [.ptr false b 0, .ptr false N 0, .ptr false (N + 1) 0], (Y.af false b (pc ts l' d)).app [⟨pgC g' k1 k2 k3 k4, []⟩, ⟨P, []⟩] tk' [])
 | .bad er p => ∃ a' d'', ∀ b (Y : St), b < Y.stk.length → ∀ N T Lb, Y.stk.length = N → Y.tk.length = T → Y.lp.length = Lb → ∀ c1 c2 c3 c4 tk, iU T tk c1 c2 c3 c4 g → ∃ P0 P1 tk',
  itE (S26.b0 (E L) itE N Lb) [.ptr false b 0, .ptr false N 0, .ptr false (N + 1) 0] ((Y.af false b (pc ts l d)).app [⟨z4, []⟩, ⟨pgC g c1 c2 c3 c4, []⟩] tk []) =
   some (.pan 92 (.agg #[]), [.ptr false b 0, .ptr false N 0, .ptr false (N + 1) 0], (Y.af false b (pcf (aw ts) a' d'' er p.1 p.2)).app [⟨P0, []⟩, ⟨P1, []⟩] tk' [])
theorem jN (m : Nat) (es : List (List PV)) (c : Cap) : sf true m 4 (.sl es c) = c.sf true m := rfl
theorem iU.sfs {T : Nat} {tk : List (Nat × Nat)} {c1 c2 c3 c4 : Cap} {g : Pg} (h : iU T tk c1 c2 c3 c4 g) (m : Nat) : c1.sf true m = true ∧ c2.sf true m = true ∧ c3.sf true m = true ∧ c4.sf true m = true :=
 ⟨h.o1.sfc m, h.o2.sfc m, h.o3.sfc m, h.o4.sfc m⟩
section
variable {ts : List Tok} (hr : Row ts)
include hr
theorem Ae {d : Nat} {g : Pg} {l : List Tok} {x : PR Pg} (h : Sfx ts l) (k0 : (hd l).kind = 0) (hx : some (.ok g l) = some x) : ly ts d g l x := by
 obtain rfl := Option.some.inj hx; refine ⟨h, fun b Y hb N T Lb hN hT hL c1 c2 c3 c4 tk ho => ⟨c1, c2, c3, c4, pgC g c1 c2 c3 c4, tk, ?_⟩⟩; have e67 := ax (dF h d 0 0 0 (b := b)) (s := Y) hb; obtain ⟨f1, f2, f3, f4⟩ := ho.sfs (N + 2)
 have hb2 : b < N + 2 := by omega
 simp only [pc, pcf, aI, Tok.c, bc, iX, gW, gX, lz, cj, nmC, aa, if_true, if_false, ab, k0] at e67 ⊢
 generalize aw ts = es at *
 apply eL; simp [S26.b0, hN, hT, hL, hb, hb2, e67, k0, f1, f2, f3, f4, cw, bj, jI, fV, AM.cC, AM.eN, chunks, Ex.bf, eQ, eY, jN]
theorem uE {d : Nat} {g : Pg} {l : List Tok} {x : PR Pg} (hd0 : d = 0) {n m : Nat} (hm : m ≤ 1000000) (ih : qc ts m) (hg : g.gS.length < 1000000) (ihp : ∀ g2 l x, g2.gS.length + g2.gls.length + g2.gP.length + g2.ths.length = g.gS.length + g.gls.length + g.gP.length + g.ths.length + 1 → Sfx ts l → gN n m g2 l = some x → ly ts d g2 l x) (h : Sfx ts l) (k0 : (hd l).kind ≠ 0)  (pk : isT l [114, 101, 99, 111, 114, 100] = true) (hx : (pb (Aj m l.tail) fun r l1 => gN n m { g with gS := g.gS ++ [r] } l1) = some x) : ly ts d g l x := by
 have k0' : ¬ (((hd l).kind : Int) = 0) := by omega
 have s0 := h.isT hr pk; obtain ⟨y, hy⟩ := dq hx; rw [hy] at hx; have h2 := Dv hr (d := d) hm s0 hy
 cases y with
 | bad er q =>
  obtain rfl := bF hx rfl; obtain ⟨a', d'', eb⟩ := bm h2 rfl; refine ⟨a', d'', fun b Y hb N T Lb hN hT hL c1 c2 c3 c4 tk ho => ⟨z4, pgC g c1 c2 c3 c4, tk, ?_⟩⟩; have eb := eb hb; have e67 := ax (dF h d 0 0 0 (b := b)) (s := Y) hb; have f_0 := ax (aB hr h d [114, 101, 99, 111, 114, 100] (b := b)) (s := Y) hb; have eb := eb; obtain ⟨f1, f2, f3, f4⟩ := ho.sfs (N + 2)
  have hb2 : b < N + 2 := by omega
  simp only [pc, pcf, aI, Tok.c, bc, iX, gW, gX, lz, cj, nmC, aa, if_true, if_false, ab, pk] at e67 f_0 eb ⊢
  generalize aw ts = es at *
  apply im; simp [S26.b0, hN, hT, hL, hb, hb2, e67, f_0, eb, pk, f1, f2, f3, f4, k0, k0', cw, bj, jI, fV, AM.cC, AM.eN, chunks, Ex.bf, eQ, eY, jN]
 | ok r l1 =>
  have hx := cu hx rfl
  try dsimp only at hx
  have s1 := br h2 rfl; have h4 := ihp _ l1 x (by simp only [bh, bE]; omega) s1 hx
  have stp : ∀ b (Y : St), b < Y.stk.length → ∀ N T Lb, Y.stk.length = N → Y.tk.length = T → Y.lp.length = Lb → ∀ c1 c2 c3 c4 tk, iU T tk c1 c2 c3 c4 g → ∃ c' tk', iU T tk' c' c2 c3 c4 { g with gS := g.gS ++ [r] } ∧
   S26.b0 (E L) itE N Lb [.ptr false b 0, .ptr false N 0, .ptr false (N + 1) 0] ((Y.af false b (pc ts l d)).app [⟨z4, []⟩, ⟨pgC g c1 c2 c3 c4, []⟩] tk []) = some (.normal, [.ptr false b 0, .ptr false N 0, .ptr false (N + 1) 0], (Y.af false b (pc ts l1 d)).app [⟨z4, []⟩, ⟨pgC { g with gS := g.gS ++ [r] } c' c2 c3 c4, []⟩] tk' []) := by
   intro b Y hb N T Lb hN hT hL c1 c2 c3 c4 tk ho; obtain ⟨c', tk', ea, ho'⟩ := ho.g1 (b := b) (cs := pc ts l1 d) hT r hg; refine ⟨c', tk', ho', ?_⟩; have e67 := ax (dF h d 0 0 0 (b := b)) (s := Y) hb; have f_0 := ax (aB hr h d [114, 101, 99, 111, 114, 100] (b := b)) (s := Y) hb; have e2 := aJ h2 rfl hb; have ea := ea; obtain ⟨f1, f2, f3, f4⟩ := ho.sfs (N + 2); obtain ⟨f1', f2', f3', f4'⟩ := ho'.sfs (N + 2)
   have hb2 : b < N + 2 := by omega
   simp only [pc, pcf, aI, Tok.c, bc, iX, gW, gX, lz, cj, nmC, aa, if_true, if_false, ab, pk] at e67 f_0 e2 ea ⊢
   generalize aw ts = es at *
   simp [S26.b0, hN, hT, hL, hb, hb2, e67, f_0, e2, ea, pk, f1, f2, f3, f4, f1', f2', f3', f4', k0, k0', cw, bj, jI, fV, AM.cC, AM.eN, chunks, Ex.bf, eQ, eY, jN]
  cases x with
  | ok g' l' =>
   refine ⟨h4.1, fun b Y hb N T Lb hN hT hL c1 c2 c3 c4 tk ho => ?_⟩; obtain ⟨c', tk1, ho1, hs⟩ := stp b Y hb N T Lb hN hT hL c1 c2 c3 c4 tk ho; obtain ⟨k1, k2, k3, k4, P, tk', hit⟩ := h4.2 b Y hb N T Lb hN hT hL c' c2 c3 c4 tk1 ho1; exact ⟨k1, k2, k3, k4, P, tk', (bW hs).trans hit⟩
  | bad er p =>
   obtain ⟨a', d'', h4⟩ := h4; refine ⟨a', d'', fun b Y hb N T Lb hN hT hL c1 c2 c3 c4 tk ho => ?_⟩; obtain ⟨c', tk1, ho1, hs⟩ := stp b Y hb N T Lb hN hT hL c1 c2 c3 c4 tk ho; obtain ⟨P0, P1, tk', hit⟩ := h4 b Y hb N T Lb hN hT hL c' c2 c3 c4 tk1 ho1; exact ⟨P0, P1, tk', (bW hs).trans hit⟩
theorem uD {d : Nat} {g : Pg} {l : List Tok} {x : PR Pg} (hd0 : d = 0) {n m : Nat} (hm : m ≤ 1000000) (ih : qc ts m) (hg : g.gls.length < 1000000) (ihp : ∀ g2 l x, g2.gS.length + g2.gls.length + g2.gP.length + g2.ths.length = g.gS.length + g.gls.length + g.gP.length + g.ths.length + 1 → Sfx ts l → gN n m g2 l = some x → ly ts d g2 l x) (h : Sfx ts l) (k0 : (hd l).kind ≠ 0) (p0 : isT l [114, 101, 99, 111, 114, 100] = false) (pk : isT l [103, 108, 111, 98, 97, 108] = true) (hx : (pb (np l.tail) fun r l1 => pb (some (dt [59] l1)) fun _ l2 => gN n m { g with gls := g.gls ++ [r] } l2) = some x) : ly ts d g l x := by
 have k0' : ¬ (((hd l).kind : Int) = 0) := by omega
 have s0 := h.isT hr pk; obtain ⟨y, hy⟩ := dq hx; rw [hy] at hx; have h2 := qM hr s0 d hy
 cases y with
 | bad er q =>
  obtain rfl := bF hx rfl; obtain ⟨a', d'', eb⟩ := bm h2 rfl; refine ⟨a', d'', fun b Y hb N T Lb hN hT hL c1 c2 c3 c4 tk ho => ⟨z4, pgC g c1 c2 c3 c4, tk, ?_⟩⟩; have eb := eb hb; have e67 := ax (dF h d 0 0 0 (b := b)) (s := Y) hb; have f_0 := ax (aB hr h d [114, 101, 99, 111, 114, 100] (b := b)) (s := Y) hb; have f_1 := ax (aB hr h d [103, 108, 111, 98, 97, 108] (b := b)) (s := Y) hb; have eb := eb; obtain ⟨f1, f2, f3, f4⟩ := ho.sfs (N + 2)
  have hb2 : b < N + 2 := by omega
  simp only [pc, pcf, aI, Tok.c, bc, iX, gW, gX, lz, cj, nmC, aa, if_true, if_false, ab, p0, pk] at e67 f_0 f_1 eb ⊢
  generalize aw ts = es at *
  apply im; simp [S26.b0, hN, hT, hL, hb, hb2, e67, f_0, f_1, eb, p0, pk, f1, f2, f3, f4, k0, k0', cw, bj, jI, fV, AM.cC, AM.eN, chunks, Ex.bf, eQ, eY, jN]
 | ok r l1 =>
  have hx := cu hx rfl
  try dsimp only at hx
  have s1 := br h2 rfl; have h3 := eG hr s1 d [59]
  cases x3 : dt [59] l1 with
  | bad e q =>
   obtain rfl := bF hx x3; obtain ⟨a', d'', eb⟩ := bm h3 x3; refine ⟨a', d'', fun b Y hb N T Lb hN hT hL c1 c2 c3 c4 tk ho => ?_⟩; obtain ⟨c', tk', ea, ho'⟩ := ho.g2 (b := b) (cs := pc ts l1 d) hT r hg; refine ⟨z4, pgC { g with gls := g.gls ++ [r] } c1 c' c3 c4, tk', ?_⟩; have eb := eb hb; have e67 := ax (dF h d 0 0 0 (b := b)) (s := Y) hb; have f_0 := ax (aB hr h d [114, 101, 99, 111, 114, 100] (b := b)) (s := Y) hb; have f_1 := ax (aB hr h d [103, 108, 111, 98, 97, 108] (b := b)) (s := Y) hb; have e2 := aJ h2 rfl hb; have ea := ea; have eb := eb; obtain ⟨f1, f2, f3, f4⟩ := ho.sfs (N + 2); obtain ⟨f1', f2', f3', f4'⟩ := ho'.sfs (N + 2)
   have hb2 : b < N + 2 := by omega
   simp only [pc, pcf, aI, Tok.c, bc, iX, gW, gX, lz, cj, nmC, aa, if_true, if_false, ab, p0, pk] at e67 f_0 f_1 e2 ea eb ⊢
   generalize aw ts = es at *
   apply im; simp [S26.b0, hN, hT, hL, hb, hb2, e67, f_0, f_1, e2, ea, eb, p0, pk, f1, f2, f3, f4, f1', f2', f3', f4', k0, k0', cw, bj, jI, fV, AM.cC, AM.eN, chunks, Ex.bf, eQ, eY, jN]
  | ok u l2 =>
   have hx := cu hx x3
   try dsimp only at hx
   have s2 := br h3 x3; have h4 := ihp _ l2 x (by simp only [bh, bE]; omega) s2 hx
   have stp : ∀ b (Y : St), b < Y.stk.length → ∀ N T Lb, Y.stk.length = N → Y.tk.length = T → Y.lp.length = Lb → ∀ c1 c2 c3 c4 tk, iU T tk c1 c2 c3 c4 g → ∃ c' tk', iU T tk' c1 c' c3 c4 { g with gls := g.gls ++ [r] } ∧
    S26.b0 (E L) itE N Lb [.ptr false b 0, .ptr false N 0, .ptr false (N + 1) 0] ((Y.af false b (pc ts l d)).app [⟨z4, []⟩, ⟨pgC g c1 c2 c3 c4, []⟩] tk []) = some (.normal, [.ptr false b 0, .ptr false N 0, .ptr false (N + 1) 0], (Y.af false b (pc ts l2 d)).app [⟨z4, []⟩, ⟨pgC { g with gls := g.gls ++ [r] } c1 c' c3 c4, []⟩] tk' []) := by
    intro b Y hb N T Lb hN hT hL c1 c2 c3 c4 tk ho; obtain ⟨c', tk', ea, ho'⟩ := ho.g2 (b := b) (cs := pc ts l1 d) hT r hg; refine ⟨c', tk', ho', ?_⟩; have e67 := ax (dF h d 0 0 0 (b := b)) (s := Y) hb; have f_0 := ax (aB hr h d [114, 101, 99, 111, 114, 100] (b := b)) (s := Y) hb; have f_1 := ax (aB hr h d [103, 108, 111, 98, 97, 108] (b := b)) (s := Y) hb; have e2 := aJ h2 rfl hb; have ea := ea; have e3 := aJ h3 x3 hb; obtain ⟨f1, f2, f3, f4⟩ := ho.sfs (N + 2); obtain ⟨f1', f2', f3', f4'⟩ := ho'.sfs (N + 2)
    have hb2 : b < N + 2 := by omega
    simp only [pc, pcf, aI, Tok.c, bc, iX, gW, gX, lz, cj, nmC, aa, if_true, if_false, ab, p0, pk] at e67 f_0 f_1 e2 ea e3 ⊢
    generalize aw ts = es at *
    simp [S26.b0, hN, hT, hL, hb, hb2, e67, f_0, f_1, e2, ea, e3, p0, pk, f1, f2, f3, f4, f1', f2', f3', f4', k0, k0', cw, bj, jI, fV, AM.cC, AM.eN, chunks, Ex.bf, eQ, eY, jN]
   cases x with
   | ok g' l' =>
    refine ⟨h4.1, fun b Y hb N T Lb hN hT hL c1 c2 c3 c4 tk ho => ?_⟩; obtain ⟨c', tk1, ho1, hs⟩ := stp b Y hb N T Lb hN hT hL c1 c2 c3 c4 tk ho; obtain ⟨k1, k2, k3, k4, P, tk', hit⟩ := h4.2 b Y hb N T Lb hN hT hL c1 c' c3 c4 tk1 ho1; exact ⟨k1, k2, k3, k4, P, tk', (bW hs).trans hit⟩
   | bad er p =>
    obtain ⟨a', d'', h4⟩ := h4; refine ⟨a', d'', fun b Y hb N T Lb hN hT hL c1 c2 c3 c4 tk ho => ?_⟩; obtain ⟨c', tk1, ho1, hs⟩ := stp b Y hb N T Lb hN hT hL c1 c2 c3 c4 tk ho; obtain ⟨P0, P1, tk', hit⟩ := h4 b Y hb N T Lb hN hT hL c1 c' c3 c4 tk1 ho1; exact ⟨P0, P1, tk', (bW hs).trans hit⟩
theorem yj {d : Nat} {g : Pg} {l : List Tok} {x : PR Pg} (hd0 : d = 0) {n m : Nat} (hm : m ≤ 1000000) (ih : qc ts m) (hg : g.gP.length < 1000000) (ihp : ∀ g2 l x, g2.gS.length + g2.gls.length + g2.gP.length + g2.ths.length = g.gS.length + g.gls.length + g.gP.length + g.ths.length + 1 → Sfx ts l → gN n m g2 l = some x → ly ts d g2 l x) (h : Sfx ts l) (k0 : (hd l).kind ≠ 0) (p0 : isT l [114, 101, 99, 111, 114, 100] = false) (p1 : isT l [103, 108, 111, 98, 97, 108] = false) (pk : isT l [102, 117, 110] = true) (hx : (pb (BB m l.tail) fun r l1 => gN n m { g with gP := g.gP ++ [r] } l1) = some x) : ly ts d g l x := by
 have k0' : ¬ (((hd l).kind : Int) = 0) := by omega
 have s0 := h.isT hr pk; obtain ⟨y, hy⟩ := dq hx; rw [hy] at hx; have h2 := Dk hr hd0 hm ih s0 hy
 cases y with
 | bad er q =>
  obtain rfl := bF hx rfl; obtain ⟨a', d'', eb⟩ := bm h2 rfl; refine ⟨a', d'', fun b Y hb N T Lb hN hT hL c1 c2 c3 c4 tk ho => ⟨z4, pgC g c1 c2 c3 c4, tk, ?_⟩⟩; have eb := eb hb; have e67 := ax (dF h d 0 0 0 (b := b)) (s := Y) hb; have f_0 := ax (aB hr h d [114, 101, 99, 111, 114, 100] (b := b)) (s := Y) hb; have f_1 := ax (aB hr h d [103, 108, 111, 98, 97, 108] (b := b)) (s := Y) hb; have f_2 := ax (aB hr h d [102, 117, 110] (b := b)) (s := Y) hb; have eb := eb; obtain ⟨f1, f2, f3, f4⟩ := ho.sfs (N + 2)
  have hb2 : b < N + 2 := by omega
  simp only [pc, pcf, aI, Tok.c, bc, iX, gW, gX, lz, cj, nmC, aa, if_true, if_false, ab, p0, p1, pk] at e67 f_0 f_1 f_2 eb ⊢
  generalize aw ts = es at *
  apply im; simp [S26.b0, hN, hT, hL, hb, hb2, e67, f_0, f_1, f_2, eb, p0, p1, pk, f1, f2, f3, f4, k0, k0', cw, bj, jI, fV, AM.cC, AM.eN, chunks, Ex.bf, eQ, eY, jN]
 | ok r l1 =>
  have hx := cu hx rfl
  try dsimp only at hx
  have s1 := br h2 rfl; have h4 := ihp _ l1 x (by simp only [bh, bE]; omega) s1 hx
  have stp : ∀ b (Y : St), b < Y.stk.length → ∀ N T Lb, Y.stk.length = N → Y.tk.length = T → Y.lp.length = Lb → ∀ c1 c2 c3 c4 tk, iU T tk c1 c2 c3 c4 g → ∃ c' tk', iU T tk' c1 c2 c' c4 { g with gP := g.gP ++ [r] } ∧
   S26.b0 (E L) itE N Lb [.ptr false b 0, .ptr false N 0, .ptr false (N + 1) 0] ((Y.af false b (pc ts l d)).app [⟨z4, []⟩, ⟨pgC g c1 c2 c3 c4, []⟩] tk []) = some (.normal, [.ptr false b 0, .ptr false N 0, .ptr false (N + 1) 0], (Y.af false b (pc ts l1 d)).app [⟨z4, []⟩, ⟨pgC { g with gP := g.gP ++ [r] } c1 c2 c' c4, []⟩] tk' []) := by
   intro b Y hb N T Lb hN hT hL c1 c2 c3 c4 tk ho; obtain ⟨c', tk', ea, ho'⟩ := ho.g3 (b := b) (cs := pc ts l1 d) hT r hg; refine ⟨c', tk', ho', ?_⟩; have e67 := ax (dF h d 0 0 0 (b := b)) (s := Y) hb; have f_0 := ax (aB hr h d [114, 101, 99, 111, 114, 100] (b := b)) (s := Y) hb; have f_1 := ax (aB hr h d [103, 108, 111, 98, 97, 108] (b := b)) (s := Y) hb; have f_2 := ax (aB hr h d [102, 117, 110] (b := b)) (s := Y) hb; have e2 := aJ h2 rfl hb; have ea := ea; obtain ⟨f1, f2, f3, f4⟩ := ho.sfs (N + 2); obtain ⟨f1', f2', f3', f4'⟩ := ho'.sfs (N + 2)
   have hb2 : b < N + 2 := by omega
   simp only [pc, pcf, aI, Tok.c, bc, iX, gW, gX, lz, cj, nmC, aa, if_true, if_false, ab, p0, p1, pk] at e67 f_0 f_1 f_2 e2 ea ⊢
   generalize aw ts = es at *
   simp [S26.b0, hN, hT, hL, hb, hb2, e67, f_0, f_1, f_2, e2, ea, p0, p1, pk, f1, f2, f3, f4, f1', f2', f3', f4', k0, k0', cw, bj, jI, fV, AM.cC, AM.eN, chunks, Ex.bf, eQ, eY, jN]
  cases x with
  | ok g' l' =>
   refine ⟨h4.1, fun b Y hb N T Lb hN hT hL c1 c2 c3 c4 tk ho => ?_⟩; obtain ⟨c', tk1, ho1, hs⟩ := stp b Y hb N T Lb hN hT hL c1 c2 c3 c4 tk ho; obtain ⟨k1, k2, k3, k4, P, tk', hit⟩ := h4.2 b Y hb N T Lb hN hT hL c1 c2 c' c4 tk1 ho1; exact ⟨k1, k2, k3, k4, P, tk', (bW hs).trans hit⟩
  | bad er p =>
   obtain ⟨a', d'', h4⟩ := h4; refine ⟨a', d'', fun b Y hb N T Lb hN hT hL c1 c2 c3 c4 tk ho => ?_⟩; obtain ⟨c', tk1, ho1, hs⟩ := stp b Y hb N T Lb hN hT hL c1 c2 c3 c4 tk ho; obtain ⟨P0, P1, tk', hit⟩ := h4 b Y hb N T Lb hN hT hL c1 c2 c' c4 tk1 ho1; exact ⟨P0, P1, tk', (bW hs).trans hit⟩
theorem uF {d : Nat} {g : Pg} {l : List Tok} {x : PR Pg} (hd0 : d = 0) {n m : Nat} (hm : m ≤ 1000000) (ih : qc ts m) (hg : g.ths.length < 1000000) (ihp : ∀ g2 l x, g2.gS.length + g2.gls.length + g2.gP.length + g2.ths.length = g.gS.length + g.gls.length + g.gP.length + g.ths.length + 1 → Sfx ts l → gN n m g2 l = some x → ly ts d g2 l x) (h : Sfx ts l) (k0 : (hd l).kind ≠ 0) (p0 : isT l [114, 101, 99, 111, 114, 100] = false) (p1 : isT l [103, 108, 111, 98, 97, 108] = false) (p2 : isT l [102, 117, 110] = false) (pk : isT l [116, 104, 114, 101, 97, 100] = true) (hx : (pb (gi m d l.tail) fun r l1 => gN n m { g with ths := g.ths ++ [⟨r, (hd l).p.1, (hd l).p.2⟩] } l1) = some x) : ly ts d g l x := by
 have k0' : ¬ (((hd l).kind : Int) = 0) := by omega
 have s0 := h.isT hr pk; obtain ⟨y, hy⟩ := dq hx; rw [hy] at hx; have h2 := ih.blk _ _ _ (by omega) s0 hy
 cases y with
 | bad er q =>
  obtain rfl := bF hx rfl; obtain ⟨a', d'', eb⟩ := bm h2 rfl; refine ⟨a', d'', fun b Y hb N T Lb hN hT hL c1 c2 c3 c4 tk ho => ⟨z4, pgC g c1 c2 c3 c4, tk, ?_⟩⟩; have eb := eb hb; have e67 := ax (dF h d 0 0 0 (b := b)) (s := Y) hb; have f_0 := ax (aB hr h d [114, 101, 99, 111, 114, 100] (b := b)) (s := Y) hb; have f_1 := ax (aB hr h d [103, 108, 111, 98, 97, 108] (b := b)) (s := Y) hb; have f_2 := ax (aB hr h d [102, 117, 110] (b := b)) (s := Y) hb; have f_3 := ax (aB hr h d [116, 104, 114, 101, 97, 100] (b := b)) (s := Y) hb; have eb := eb; obtain ⟨f1, f2, f3, f4⟩ := ho.sfs (N + 2)
  have hb2 : b < N + 2 := by omega
  simp only [pc, pcf, aI, Tok.c, bc, iX, gW, gX, lz, cj, nmC, aa, if_true, if_false, ab, p0, p1, p2, pk] at e67 f_0 f_1 f_2 f_3 eb ⊢
  generalize aw ts = es at *
  apply im; simp [S26.b0, hN, hT, hL, hb, hb2, e67, f_0, f_1, f_2, f_3, eb, p0, p1, p2, pk, f1, f2, f3, f4, k0, k0', cw, bj, jI, fV, AM.cC, AM.eN, chunks, Ex.bf, eQ, eY, jN]
 | ok r l1 =>
  have hx := cu hx rfl
  try dsimp only at hx
  have s1 := br h2 rfl; have h4 := ihp _ l1 x (by simp only [bh, bE]; omega) s1 hx
  have stp : ∀ b (Y : St), b < Y.stk.length → ∀ N T Lb, Y.stk.length = N → Y.tk.length = T → Y.lp.length = Lb → ∀ c1 c2 c3 c4 tk, iU T tk c1 c2 c3 c4 g → ∃ c' tk', iU T tk' c1 c2 c3 c' { g with ths := g.ths ++ [⟨r, (hd l).p.1, (hd l).p.2⟩] } ∧
   S26.b0 (E L) itE N Lb [.ptr false b 0, .ptr false N 0, .ptr false (N + 1) 0] ((Y.af false b (pc ts l d)).app [⟨z4, []⟩, ⟨pgC g c1 c2 c3 c4, []⟩] tk []) = some (.normal, [.ptr false b 0, .ptr false N 0, .ptr false (N + 1) 0], (Y.af false b (pc ts l1 d)).app [⟨z4, []⟩, ⟨pgC { g with ths := g.ths ++ [⟨r, (hd l).p.1, (hd l).p.2⟩] } c1 c2 c3 c', []⟩] tk' []) := by
   intro b Y hb N T Lb hN hT hL c1 c2 c3 c4 tk ho; obtain ⟨c', tk', ea, ho'⟩ := ho.g4 (b := b) (cs := pc ts l1 d) hT ⟨r, (hd l).p.1, (hd l).p.2⟩ hg; refine ⟨c', tk', ho', ?_⟩; have e67 := ax (dF h d 0 0 0 (b := b)) (s := Y) hb; have f_0 := ax (aB hr h d [114, 101, 99, 111, 114, 100] (b := b)) (s := Y) hb; have f_1 := ax (aB hr h d [103, 108, 111, 98, 97, 108] (b := b)) (s := Y) hb; have f_2 := ax (aB hr h d [102, 117, 110] (b := b)) (s := Y) hb; have f_3 := ax (aB hr h d [116, 104, 114, 101, 97, 100] (b := b)) (s := Y) hb; have e2 := aJ h2 rfl hb; have ea := ea; obtain ⟨f1, f2, f3, f4⟩ := ho.sfs (N + 2); obtain ⟨f1', f2', f3', f4'⟩ := ho'.sfs (N + 2)
   have hb2 : b < N + 2 := by omega
   simp only [pc, pcf, aI, Tok.c, bc, iX, gW, gX, lz, cj, nmC, aa, if_true, if_false, ab, p0, p1, p2, pk] at e67 f_0 f_1 f_2 f_3 e2 ea ⊢
   generalize aw ts = es at *
   simp [S26.b0, hN, hT, hL, hb, hb2, e67, f_0, f_1, f_2, f_3, e2, ea, p0, p1, p2, pk, f1, f2, f3, f4, f1', f2', f3', f4', k0, k0', cw, bj, jI, fV, AM.cC, AM.eN, chunks, Ex.bf, eQ, eY, jN]
  cases x with
  | ok g' l' =>
   refine ⟨h4.1, fun b Y hb N T Lb hN hT hL c1 c2 c3 c4 tk ho => ?_⟩; obtain ⟨c', tk1, ho1, hs⟩ := stp b Y hb N T Lb hN hT hL c1 c2 c3 c4 tk ho; obtain ⟨k1, k2, k3, k4, P, tk', hit⟩ := h4.2 b Y hb N T Lb hN hT hL c1 c2 c3 c' tk1 ho1; exact ⟨k1, k2, k3, k4, P, tk', (bW hs).trans hit⟩
  | bad er p =>
   obtain ⟨a', d'', h4⟩ := h4; refine ⟨a', d'', fun b Y hb N T Lb hN hT hL c1 c2 c3 c4 tk ho => ?_⟩; obtain ⟨c', tk1, ho1, hs⟩ := stp b Y hb N T Lb hN hT hL c1 c2 c3 c4 tk ho; obtain ⟨P0, P1, tk', hit⟩ := h4 b Y hb N T Lb hN hT hL c1 c2 c3 c' tk1 ho1; exact ⟨P0, P1, tk', (bW hs).trans hit⟩
theorem yl {d : Nat} {g : Pg} {l : List Tok} {x : PR Pg}  (h : Sfx ts l) (k0 : (hd l).kind ≠ 0) (p0 : isT l [114, 101, 99, 111, 114, 100] = false) (p1 : isT l [103, 108, 111, 98, 97, 108] = false) (p2 : isT l [102, 117, 110] = false) (p3 : isT l [116, 104, 114, 101, 97, 100] = false)  (hx : some (.bad 4 (hd l).p) = some x) : ly ts d g l x := by
 have k0' : ¬ (((hd l).kind : Int) = 0) := by omega
 obtain rfl := Option.some.inj hx; refine ⟨pcA ts l, d, fun b Y hb N T Lb hN hT hL c1 c2 c3 c4 tk ho => ⟨z4, pgC g c1 c2 c3 c4, tk, ?_⟩⟩; have e67 := ax (dF h d 0 0 0 (b := b)) (s := Y) hb; have f_0 := ax (aB hr h d [114, 101, 99, 111, 114, 100] (b := b)) (s := Y) hb; have f_1 := ax (aB hr h d [103, 108, 111, 98, 97, 108] (b := b)) (s := Y) hb; have f_2 := ax (aB hr h d [102, 117, 110] (b := b)) (s := Y) hb; have f_3 := ax (aB hr h d [116, 104, 114, 101, 97, 100] (b := b)) (s := Y) hb; have e74 := ax (mC (aw ts) (pcA ts l) d 4 (hd l) (b := b)) (s := Y) hb; obtain ⟨f1, f2, f3, f4⟩ := ho.sfs (N + 2)
 have hb2 : b < N + 2 := by omega
 simp only [pc, pcf, aI, Tok.c, bc, iX, gW, gX, lz, cj, nmC, aa, if_true, if_false, ab, p0, p1, p2, p3] at e67 f_0 f_1 f_2 f_3 e74 ⊢
 generalize aw ts = es at *
 apply im; simp [S26.b0, hN, hT, hL, hb, hb2, e67, f_0, f_1, f_2, f_3, e74, p0, p1, p2, p3, f1, f2, f3, f4, k0, k0', cw, bj, jI, fV, AM.cC, AM.eN, chunks, Ex.bf, eQ, eY, jN]
end
end Go.Proofs.YtlhlijaondmccaaDoor.S
