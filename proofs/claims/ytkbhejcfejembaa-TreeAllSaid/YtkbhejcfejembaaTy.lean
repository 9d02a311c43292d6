/- Trees: their types, and what loads of their cells answer. Printed by mkTy.py. No condition. -/
import Derived.Test.YtkbhejcfejembaaF
import Derived.Test.YtkbhejcfejembaaS0
import Derived.Test.YtkbhejcfejembaaS1
import Derived.Test.YtkbhejcfejembaaS2
import Derived.Test.YtkbhejcfejembaaS3
import Derived.Test.YtkbhejcfejembaaS4
import Derived.Test.YtkbhejcfejembaaS5
set_option linter.all false
namespace Go.Proofs.Ytkbhejcfejembaa.S
open Go Go.AM Go.Proofs
set_option linter.unusedVariables false
set_option linter.unusedSimpArgs false

abbrev int (n : Int) : PV := .v (.int .i64 n)
abbrev str (s : ByteArray) : PV := .v (.string s)
/-- An expression. -/
inductive X where
  | mk (op bin n kd : Int) (rc name : ByteArray) (kids : List X) (line col : Int)
def X.op : X → Int
  | ⟨a, _, _, _, _, _, _, _, _⟩ => a
def X.bin : X → Int
  | ⟨_, a, _, _, _, _, _, _, _⟩ => a
def X.n : X → Int
  | ⟨_, _, a, _, _, _, _, _, _⟩ => a
def X.kd : X → Int
  | ⟨_, _, _, a, _, _, _, _, _⟩ => a
def X.rc : X → ByteArray
  | ⟨_, _, _, _, a, _, _, _, _⟩ => a
def X.name : X → ByteArray
  | ⟨_, _, _, _, _, a, _, _, _⟩ => a
def X.kids : X → List X
  | ⟨_, _, _, _, _, _, a, _, _⟩ => a
def X.line : X → Int
  | ⟨_, _, _, _, _, _, _, a, _⟩ => a
def X.col : X → Int
  | ⟨_, _, _, _, _, _, _, _, a⟩ => a
structure Pl where
  mk ::
  op : Int
  base : ByteArray
  field : ByteArray
  index : X
  line : Int
  col : Int
structure Rt where
  mk ::
  op : Int
  e : X
  place : Pl
  name : ByteArray
  line : Int
  col : Int
inductive S where
  | mk (op : Int) (name : ByteArray) (right : Rt) (place : Pl) (e : X) (n : Int) (args : List X) (body : List S) (els : List S) (line : Int) (col : Int)
def S.op : S → Int
  | ⟨a, _, _, _, _, _, _, _, _, _, _⟩ => a
def S.name : S → ByteArray
  | ⟨_, a, _, _, _, _, _, _, _, _, _⟩ => a
def S.right : S → Rt
  | ⟨_, _, a, _, _, _, _, _, _, _, _⟩ => a
def S.place : S → Pl
  | ⟨_, _, _, a, _, _, _, _, _, _, _⟩ => a
def S.e : S → X
  | ⟨_, _, _, _, a, _, _, _, _, _, _⟩ => a
def S.n : S → Int
  | ⟨_, _, _, _, _, a, _, _, _, _, _⟩ => a
def S.args : S → List X
  | ⟨_, _, _, _, _, _, a, _, _, _, _⟩ => a
def S.body : S → List S
  | ⟨_, _, _, _, _, _, _, a, _, _, _⟩ => a
def S.els : S → List S
  | ⟨_, _, _, _, _, _, _, _, a, _, _⟩ => a
def S.line : S → Int
  | ⟨_, _, _, _, _, _, _, _, _, a, _⟩ => a
def S.col : S → Int
  | ⟨_, _, _, _, _, _, _, _, _, _, a⟩ => a
mutual
def X.enc : X → List PV
  | ⟨op, bin, n, kd, rc, name, kids, line, col⟩ => [int op, int bin, .v (.int .u64 n), int kd, str rc, str name, .sl (encs kids) .dead, int line, int col]
def encs : List X → List (List PV)
  | [] => []
  | x :: xs => x.enc :: encs xs
end
def Pl.enc (p : Pl) : List PV := [int p.op, str p.base, str p.field] ++ p.index.enc ++ [int p.line, int p.col]
def Rt.enc (p : Rt) : List PV := [int p.op] ++ p.e.enc ++ p.place.enc ++ [str p.name, int p.line, int p.col]
mutual
def S.enc : S → List PV
  | ⟨op, name, right, place, e, n, args, body, els, line, col⟩ => [int op, str name] ++ right.enc ++ place.enc ++ e.enc ++ [int n, .sl (encs args) .dead, .sl (sencs body) .dead, .sl (sencs els) .dead, int line, int col]
def sencs : List S → List (List PV)
  | [] => []
  | x :: xs => x.enc :: sencs xs
end
theorem X.enc_eq (x : X) : x.enc = [int x.op, int x.bin, .v (.int .u64 x.n), int x.kd, str x.rc, str x.name, .sl (encs x.kids) .dead, int x.line, int x.col] := by cases x; simp only [X.enc]; rfl
theorem S.enc_eq (x : S) : x.enc = [int x.op, str x.name] ++ x.right.enc ++ x.place.enc ++ x.e.enc ++ [int x.n, .sl (encs x.args) .dead, .sl (sencs x.body) .dead, .sl (sencs x.els) .dead, int x.line, int x.col] := by cases x; simp only [S.enc]; rfl
theorem encs_map : ∀ xs, encs xs = xs.map X.enc
  | [] => by simp [encs]
  | x :: xs => by simp [encs, encs_map xs]
theorem sencs_map : ∀ xs, sencs xs = xs.map S.enc
  | [] => by simp [sencs]
  | x :: xs => by simp [sencs, sencs_map xs]
theorem encs_length (xs : List X) : (encs xs).length = xs.length := by rw [encs_map, List.length_map]
theorem sencs_length (xs : List S) : (sencs xs).length = xs.length := by rw [sencs_map, List.length_map]
theorem X.len (x : X) : x.enc.length = 9 := by simp only [X.enc_eq]; rfl
theorem X.whole (x : X) : AM.part true 9 0 x.enc = some (.agg x.enc) := by simp only [X.enc_eq]; rfl
theorem X.okc (x : X) : okCells x.enc = true := by simp only [X.enc_eq]; rfl
theorem X.can (x : X) : canon (.agg x.enc) = .agg x.enc := by simp only [X.enc_eq]; rfl
theorem X.canC (x : X) : x.enc.map canonC = x.enc := by simp only [X.enc_eq]; rfl
theorem X.pl (x : X) : plainCs x.enc = some x.enc := by simp only [X.enc_eq]; rfl
theorem X.sf4 (x : X) (m : Nat) : x.enc.all (sf true m 4) = true := by simp only [X.enc_eq]; rfl
theorem X.fl (x : X) : x.enc.all flatC = true := by simp only [X.enc_eq]; rfl
theorem X.p0_1 (x : X) : AM.part false 1 0 x.enc = some (int x.op) := by simp only [X.enc_eq]; rfl
theorem X.p1_1 (x : X) : AM.part false 1 1 x.enc = some (int x.bin) := by simp only [X.enc_eq]; rfl
theorem X.p2_1 (x : X) : AM.part false 1 2 x.enc = some (.v (.int .u64 x.n)) := by simp only [X.enc_eq]; rfl
theorem X.p3_1 (x : X) : AM.part false 1 3 x.enc = some (int x.kd) := by simp only [X.enc_eq]; rfl
theorem X.p3_2a (x : X) : AM.part true 2 3 x.enc = some (.agg [int x.kd, str x.rc]) := by simp only [X.enc_eq]; rfl
theorem X.p4_1 (x : X) : AM.part false 1 4 x.enc = some (str x.rc) := by simp only [X.enc_eq]; rfl
theorem X.p5_1 (x : X) : AM.part false 1 5 x.enc = some (str x.name) := by simp only [X.enc_eq]; rfl
theorem X.p6_1 (x : X) : AM.part false 1 6 x.enc = some (.sl (encs x.kids) .dead) := by simp only [X.enc_eq]; rfl
theorem X.p7_1 (x : X) : AM.part false 1 7 x.enc = some (int x.line) := by simp only [X.enc_eq]; rfl
theorem X.p8_1 (x : X) : AM.part false 1 8 x.enc = some (int x.col) := by simp only [X.enc_eq]; rfl
theorem Pl.len (x : Pl) : x.enc.length = 14 := by simp only [Pl.enc, X.enc_eq]; rfl
theorem Pl.whole (x : Pl) : AM.part true 14 0 x.enc = some (.agg x.enc) := by simp only [Pl.enc, X.enc_eq]; rfl
theorem Pl.okc (x : Pl) : okCells x.enc = true := by simp only [Pl.enc, X.enc_eq]; rfl
theorem Pl.can (x : Pl) : canon (.agg x.enc) = .agg x.enc := by simp only [Pl.enc, X.enc_eq]; rfl
theorem Pl.canC (x : Pl) : x.enc.map canonC = x.enc := by simp only [Pl.enc, X.enc_eq]; rfl
theorem Pl.pl (x : Pl) : plainCs x.enc = some x.enc := by simp only [Pl.enc, X.enc_eq]; rfl
theorem Pl.sf4 (x : Pl) (m : Nat) : x.enc.all (sf true m 4) = true := by simp only [Pl.enc, X.enc_eq]; rfl
theorem Pl.fl (x : Pl) : x.enc.all flatC = true := by simp only [Pl.enc, X.enc_eq]; rfl
theorem Pl.p0_1 (x : Pl) : AM.part false 1 0 x.enc = some (int x.op) := by simp only [Pl.enc, X.enc_eq]; rfl
theorem Pl.p1_1 (x : Pl) : AM.part false 1 1 x.enc = some (str x.base) := by simp only [Pl.enc, X.enc_eq]; rfl
theorem Pl.p2_1 (x : Pl) : AM.part false 1 2 x.enc = some (str x.field) := by simp only [Pl.enc, X.enc_eq]; rfl
theorem Pl.p3_9a (x : Pl) : AM.part true 9 3 x.enc = some (.agg x.index.enc) := by simp only [Pl.enc, X.enc_eq]; rfl
theorem Pl.p3_1 (x : Pl) : AM.part false 1 3 x.enc = some (int x.index.op) := by simp only [Pl.enc, X.enc_eq]; rfl
theorem Pl.p4_1 (x : Pl) : AM.part false 1 4 x.enc = some (int x.index.bin) := by simp only [Pl.enc, X.enc_eq]; rfl
theorem Pl.p5_1 (x : Pl) : AM.part false 1 5 x.enc = some (.v (.int .u64 x.index.n)) := by simp only [Pl.enc, X.enc_eq]; rfl
theorem Pl.p6_1 (x : Pl) : AM.part false 1 6 x.enc = some (int x.index.kd) := by simp only [Pl.enc, X.enc_eq]; rfl
theorem Pl.p6_2a (x : Pl) : AM.part true 2 6 x.enc = some (.agg [int x.index.kd, str x.index.rc]) := by simp only [Pl.enc, X.enc_eq]; rfl
theorem Pl.p7_1 (x : Pl) : AM.part false 1 7 x.enc = some (str x.index.rc) := by simp only [Pl.enc, X.enc_eq]; rfl
theorem Pl.p8_1 (x : Pl) : AM.part false 1 8 x.enc = some (str x.index.name) := by simp only [Pl.enc, X.enc_eq]; rfl
theorem Pl.p9_1 (x : Pl) : AM.part false 1 9 x.enc = some (.sl (encs x.index.kids) .dead) := by simp only [Pl.enc, X.enc_eq]; rfl
theorem Pl.p10_1 (x : Pl) : AM.part false 1 10 x.enc = some (int x.index.line) := by simp only [Pl.enc, X.enc_eq]; rfl
theorem Pl.p11_1 (x : Pl) : AM.part false 1 11 x.enc = some (int x.index.col) := by simp only [Pl.enc, X.enc_eq]; rfl
theorem Pl.p12_1 (x : Pl) : AM.part false 1 12 x.enc = some (int x.line) := by simp only [Pl.enc, X.enc_eq]; rfl
theorem Pl.p13_1 (x : Pl) : AM.part false 1 13 x.enc = some (int x.col) := by simp only [Pl.enc, X.enc_eq]; rfl
theorem Rt.len (x : Rt) : x.enc.length = 27 := by simp only [Rt.enc, Pl.enc, X.enc_eq]; rfl
theorem Rt.whole (x : Rt) : AM.part true 27 0 x.enc = some (.agg x.enc) := by simp only [Rt.enc, Pl.enc, X.enc_eq]; rfl
theorem Rt.okc (x : Rt) : okCells x.enc = true := by simp only [Rt.enc, Pl.enc, X.enc_eq]; rfl
theorem Rt.can (x : Rt) : canon (.agg x.enc) = .agg x.enc := by simp only [Rt.enc, Pl.enc, X.enc_eq]; rfl
theorem Rt.canC (x : Rt) : x.enc.map canonC = x.enc := by simp only [Rt.enc, Pl.enc, X.enc_eq]; rfl
theorem Rt.pl (x : Rt) : plainCs x.enc = some x.enc := by simp only [Rt.enc, Pl.enc, X.enc_eq]; rfl
theorem Rt.sf4 (x : Rt) (m : Nat) : x.enc.all (sf true m 4) = true := by simp only [Rt.enc, Pl.enc, X.enc_eq]; rfl
theorem Rt.fl (x : Rt) : x.enc.all flatC = true := by simp only [Rt.enc, Pl.enc, X.enc_eq]; rfl
theorem Rt.p0_1 (x : Rt) : AM.part false 1 0 x.enc = some (int x.op) := by simp only [Rt.enc, Pl.enc, X.enc_eq]; rfl
theorem Rt.p1_9a (x : Rt) : AM.part true 9 1 x.enc = some (.agg x.e.enc) := by simp only [Rt.enc, Pl.enc, X.enc_eq]; rfl
theorem Rt.p1_1 (x : Rt) : AM.part false 1 1 x.enc = some (int x.e.op) := by simp only [Rt.enc, Pl.enc, X.enc_eq]; rfl
theorem Rt.p2_1 (x : Rt) : AM.part false 1 2 x.enc = some (int x.e.bin) := by simp only [Rt.enc, Pl.enc, X.enc_eq]; rfl
theorem Rt.p3_1 (x : Rt) : AM.part false 1 3 x.enc = some (.v (.int .u64 x.e.n)) := by simp only [Rt.enc, Pl.enc, X.enc_eq]; rfl
theorem Rt.p4_1 (x : Rt) : AM.part false 1 4 x.enc = some (int x.e.kd) := by simp only [Rt.enc, Pl.enc, X.enc_eq]; rfl
theorem Rt.p4_2a (x : Rt) : AM.part true 2 4 x.enc = some (.agg [int x.e.kd, str x.e.rc]) := by simp only [Rt.enc, Pl.enc, X.enc_eq]; rfl
theorem Rt.p5_1 (x : Rt) : AM.part false 1 5 x.enc = some (str x.e.rc) := by simp only [Rt.enc, Pl.enc, X.enc_eq]; rfl
theorem Rt.p6_1 (x : Rt) : AM.part false 1 6 x.enc = some (str x.e.name) := by simp only [Rt.enc, Pl.enc, X.enc_eq]; rfl
theorem Rt.p7_1 (x : Rt) : AM.part false 1 7 x.enc = some (.sl (encs x.e.kids) .dead) := by simp only [Rt.enc, Pl.enc, X.enc_eq]; rfl
theorem Rt.p8_1 (x : Rt) : AM.part false 1 8 x.enc = some (int x.e.line) := by simp only [Rt.enc, Pl.enc, X.enc_eq]; rfl
theorem Rt.p9_1 (x : Rt) : AM.part false 1 9 x.enc = some (int x.e.col) := by simp only [Rt.enc, Pl.enc, X.enc_eq]; rfl
theorem Rt.p10_14a (x : Rt) : AM.part true 14 10 x.enc = some (.agg x.place.enc) := by simp only [Rt.enc, Pl.enc, X.enc_eq]; rfl
theorem Rt.p10_1 (x : Rt) : AM.part false 1 10 x.enc = some (int x.place.op) := by simp only [Rt.enc, Pl.enc, X.enc_eq]; rfl
theorem Rt.p11_1 (x : Rt) : AM.part false 1 11 x.enc = some (str x.place.base) := by simp only [Rt.enc, Pl.enc, X.enc_eq]; rfl
theorem Rt.p12_1 (x : Rt) : AM.part false 1 12 x.enc = some (str x.place.field) := by simp only [Rt.enc, Pl.enc, X.enc_eq]; rfl
theorem Rt.p13_9a (x : Rt) : AM.part true 9 13 x.enc = some (.agg x.place.index.enc) := by simp only [Rt.enc, Pl.enc, X.enc_eq]; rfl
theorem Rt.p13_1 (x : Rt) : AM.part false 1 13 x.enc = some (int x.place.index.op) := by simp only [Rt.enc, Pl.enc, X.enc_eq]; rfl
theorem Rt.p14_1 (x : Rt) : AM.part false 1 14 x.enc = some (int x.place.index.bin) := by simp only [Rt.enc, Pl.enc, X.enc_eq]; rfl
theorem Rt.p15_1 (x : Rt) : AM.part false 1 15 x.enc = some (.v (.int .u64 x.place.index.n)) := by simp only [Rt.enc, Pl.enc, X.enc_eq]; rfl
theorem Rt.p16_1 (x : Rt) : AM.part false 1 16 x.enc = some (int x.place.index.kd) := by simp only [Rt.enc, Pl.enc, X.enc_eq]; rfl
theorem Rt.p16_2a (x : Rt) : AM.part true 2 16 x.enc = some (.agg [int x.place.index.kd, str x.place.index.rc]) := by simp only [Rt.enc, Pl.enc, X.enc_eq]; rfl
theorem Rt.p17_1 (x : Rt) : AM.part false 1 17 x.enc = some (str x.place.index.rc) := by simp only [Rt.enc, Pl.enc, X.enc_eq]; rfl
theorem Rt.p18_1 (x : Rt) : AM.part false 1 18 x.enc = some (str x.place.index.name) := by simp only [Rt.enc, Pl.enc, X.enc_eq]; rfl
theorem Rt.p19_1 (x : Rt) : AM.part false 1 19 x.enc = some (.sl (encs x.place.index.kids) .dead) := by simp only [Rt.enc, Pl.enc, X.enc_eq]; rfl
theorem Rt.p20_1 (x : Rt) : AM.part false 1 20 x.enc = some (int x.place.index.line) := by simp only [Rt.enc, Pl.enc, X.enc_eq]; rfl
theorem Rt.p21_1 (x : Rt) : AM.part false 1 21 x.enc = some (int x.place.index.col) := by simp only [Rt.enc, Pl.enc, X.enc_eq]; rfl
theorem Rt.p22_1 (x : Rt) : AM.part false 1 22 x.enc = some (int x.place.line) := by simp only [Rt.enc, Pl.enc, X.enc_eq]; rfl
theorem Rt.p23_1 (x : Rt) : AM.part false 1 23 x.enc = some (int x.place.col) := by simp only [Rt.enc, Pl.enc, X.enc_eq]; rfl
theorem Rt.p24_1 (x : Rt) : AM.part false 1 24 x.enc = some (str x.name) := by simp only [Rt.enc, Pl.enc, X.enc_eq]; rfl
theorem Rt.p25_1 (x : Rt) : AM.part false 1 25 x.enc = some (int x.line) := by simp only [Rt.enc, Pl.enc, X.enc_eq]; rfl
theorem Rt.p26_1 (x : Rt) : AM.part false 1 26 x.enc = some (int x.col) := by simp only [Rt.enc, Pl.enc, X.enc_eq]; rfl
theorem S.len (x : S) : x.enc.length = 58 := by simp only [S.enc_eq, Rt.enc, Pl.enc, X.enc_eq]; rfl
theorem S.whole (x : S) : AM.part true 58 0 x.enc = some (.agg x.enc) := by simp only [S.enc_eq, Rt.enc, Pl.enc, X.enc_eq]; rfl
theorem S.okc (x : S) : okCells x.enc = true := by simp only [S.enc_eq, Rt.enc, Pl.enc, X.enc_eq]; rfl
theorem S.can (x : S) : canon (.agg x.enc) = .agg x.enc := by simp only [S.enc_eq, Rt.enc, Pl.enc, X.enc_eq]; rfl
theorem S.canC (x : S) : x.enc.map canonC = x.enc := by simp only [S.enc_eq, Rt.enc, Pl.enc, X.enc_eq]; rfl
theorem S.pl (x : S) : plainCs x.enc = some x.enc := by simp only [S.enc_eq, Rt.enc, Pl.enc, X.enc_eq]; rfl
theorem S.sf4 (x : S) (m : Nat) : x.enc.all (sf true m 4) = true := by simp only [S.enc_eq, Rt.enc, Pl.enc, X.enc_eq]; rfl
theorem S.fl (x : S) : x.enc.all flatC = true := by simp only [S.enc_eq, Rt.enc, Pl.enc, X.enc_eq]; rfl
theorem S.p0_1 (x : S) : AM.part false 1 0 x.enc = some (int x.op) := by simp only [S.enc_eq, Rt.enc, Pl.enc, X.enc_eq]; rfl
theorem S.p1_1 (x : S) : AM.part false 1 1 x.enc = some (str x.name) := by simp only [S.enc_eq, Rt.enc, Pl.enc, X.enc_eq]; rfl
theorem S.p2_27a (x : S) : AM.part true 27 2 x.enc = some (.agg x.right.enc) := by simp only [S.enc_eq, Rt.enc, Pl.enc, X.enc_eq]; rfl
theorem S.p2_1 (x : S) : AM.part false 1 2 x.enc = some (int x.right.op) := by simp only [S.enc_eq, Rt.enc, Pl.enc, X.enc_eq]; rfl
theorem S.p3_9a (x : S) : AM.part true 9 3 x.enc = some (.agg x.right.e.enc) := by simp only [S.enc_eq, Rt.enc, Pl.enc, X.enc_eq]; rfl
theorem S.p3_1 (x : S) : AM.part false 1 3 x.enc = some (int x.right.e.op) := by simp only [S.enc_eq, Rt.enc, Pl.enc, X.enc_eq]; rfl
theorem S.p4_1 (x : S) : AM.part false 1 4 x.enc = some (int x.right.e.bin) := by simp only [S.enc_eq, Rt.enc, Pl.enc, X.enc_eq]; rfl
theorem S.p5_1 (x : S) : AM.part false 1 5 x.enc = some (.v (.int .u64 x.right.e.n)) := by simp only [S.enc_eq, Rt.enc, Pl.enc, X.enc_eq]; rfl
theorem S.p6_1 (x : S) : AM.part false 1 6 x.enc = some (int x.right.e.kd) := by simp only [S.enc_eq, Rt.enc, Pl.enc, X.enc_eq]; rfl
theorem S.p6_2a (x : S) : AM.part true 2 6 x.enc = some (.agg [int x.right.e.kd, str x.right.e.rc]) := by simp only [S.enc_eq, Rt.enc, Pl.enc, X.enc_eq]; rfl
theorem S.p7_1 (x : S) : AM.part false 1 7 x.enc = some (str x.right.e.rc) := by simp only [S.enc_eq, Rt.enc, Pl.enc, X.enc_eq]; rfl
theorem S.p8_1 (x : S) : AM.part false 1 8 x.enc = some (str x.right.e.name) := by simp only [S.enc_eq, Rt.enc, Pl.enc, X.enc_eq]; rfl
theorem S.p9_1 (x : S) : AM.part false 1 9 x.enc = some (.sl (encs x.right.e.kids) .dead) := by simp only [S.enc_eq, Rt.enc, Pl.enc, X.enc_eq]; rfl
theorem S.p10_1 (x : S) : AM.part false 1 10 x.enc = some (int x.right.e.line) := by simp only [S.enc_eq, Rt.enc, Pl.enc, X.enc_eq]; rfl
theorem S.p11_1 (x : S) : AM.part false 1 11 x.enc = some (int x.right.e.col) := by simp only [S.enc_eq, Rt.enc, Pl.enc, X.enc_eq]; rfl
theorem S.p12_14a (x : S) : AM.part true 14 12 x.enc = some (.agg x.right.place.enc) := by simp only [S.enc_eq, Rt.enc, Pl.enc, X.enc_eq]; rfl
theorem S.p12_1 (x : S) : AM.part false 1 12 x.enc = some (int x.right.place.op) := by simp only [S.enc_eq, Rt.enc, Pl.enc, X.enc_eq]; rfl
theorem S.p13_1 (x : S) : AM.part false 1 13 x.enc = some (str x.right.place.base) := by simp only [S.enc_eq, Rt.enc, Pl.enc, X.enc_eq]; rfl
theorem S.p14_1 (x : S) : AM.part false 1 14 x.enc = some (str x.right.place.field) := by simp only [S.enc_eq, Rt.enc, Pl.enc, X.enc_eq]; rfl
theorem S.p15_9a (x : S) : AM.part true 9 15 x.enc = some (.agg x.right.place.index.enc) := by simp only [S.enc_eq, Rt.enc, Pl.enc, X.enc_eq]; rfl
theorem S.p15_1 (x : S) : AM.part false 1 15 x.enc = some (int x.right.place.index.op) := by simp only [S.enc_eq, Rt.enc, Pl.enc, X.enc_eq]; rfl
theorem S.p16_1 (x : S) : AM.part false 1 16 x.enc = some (int x.right.place.index.bin) := by simp only [S.enc_eq, Rt.enc, Pl.enc, X.enc_eq]; rfl
theorem S.p17_1 (x : S) : AM.part false 1 17 x.enc = some (.v (.int .u64 x.right.place.index.n)) := by simp only [S.enc_eq, Rt.enc, Pl.enc, X.enc_eq]; rfl
theorem S.p18_1 (x : S) : AM.part false 1 18 x.enc = some (int x.right.place.index.kd) := by simp only [S.enc_eq, Rt.enc, Pl.enc, X.enc_eq]; rfl
theorem S.p18_2a (x : S) : AM.part true 2 18 x.enc = some (.agg [int x.right.place.index.kd, str x.right.place.index.rc]) := by simp only [S.enc_eq, Rt.enc, Pl.enc, X.enc_eq]; rfl
theorem S.p19_1 (x : S) : AM.part false 1 19 x.enc = some (str x.right.place.index.rc) := by simp only [S.enc_eq, Rt.enc, Pl.enc, X.enc_eq]; rfl
theorem S.p20_1 (x : S) : AM.part false 1 20 x.enc = some (str x.right.place.index.name) := by simp only [S.enc_eq, Rt.enc, Pl.enc, X.enc_eq]; rfl
theorem S.p21_1 (x : S) : AM.part false 1 21 x.enc = some (.sl (encs x.right.place.index.kids) .dead) := by simp only [S.enc_eq, Rt.enc, Pl.enc, X.enc_eq]; rfl
theorem S.p22_1 (x : S) : AM.part false 1 22 x.enc = some (int x.right.place.index.line) := by simp only [S.enc_eq, Rt.enc, Pl.enc, X.enc_eq]; rfl
theorem S.p23_1 (x : S) : AM.part false 1 23 x.enc = some (int x.right.place.index.col) := by simp only [S.enc_eq, Rt.enc, Pl.enc, X.enc_eq]; rfl
theorem S.p24_1 (x : S) : AM.part false 1 24 x.enc = some (int x.right.place.line) := by simp only [S.enc_eq, Rt.enc, Pl.enc, X.enc_eq]; rfl
theorem S.p25_1 (x : S) : AM.part false 1 25 x.enc = some (int x.right.place.col) := by simp only [S.enc_eq, Rt.enc, Pl.enc, X.enc_eq]; rfl
theorem S.p26_1 (x : S) : AM.part false 1 26 x.enc = some (str x.right.name) := by simp only [S.enc_eq, Rt.enc, Pl.enc, X.enc_eq]; rfl
theorem S.p27_1 (x : S) : AM.part false 1 27 x.enc = some (int x.right.line) := by simp only [S.enc_eq, Rt.enc, Pl.enc, X.enc_eq]; rfl
theorem S.p28_1 (x : S) : AM.part false 1 28 x.enc = some (int x.right.col) := by simp only [S.enc_eq, Rt.enc, Pl.enc, X.enc_eq]; rfl
theorem S.p29_14a (x : S) : AM.part true 14 29 x.enc = some (.agg x.place.enc) := by simp only [S.enc_eq, Rt.enc, Pl.enc, X.enc_eq]; rfl
theorem S.p29_1 (x : S) : AM.part false 1 29 x.enc = some (int x.place.op) := by simp only [S.enc_eq, Rt.enc, Pl.enc, X.enc_eq]; rfl
theorem S.p30_1 (x : S) : AM.part false 1 30 x.enc = some (str x.place.base) := by simp only [S.enc_eq, Rt.enc, Pl.enc, X.enc_eq]; rfl
theorem S.p31_1 (x : S) : AM.part false 1 31 x.enc = some (str x.place.field) := by simp only [S.enc_eq, Rt.enc, Pl.enc, X.enc_eq]; rfl
theorem S.p32_9a (x : S) : AM.part true 9 32 x.enc = some (.agg x.place.index.enc) := by simp only [S.enc_eq, Rt.enc, Pl.enc, X.enc_eq]; rfl
theorem S.p32_1 (x : S) : AM.part false 1 32 x.enc = some (int x.place.index.op) := by simp only [S.enc_eq, Rt.enc, Pl.enc, X.enc_eq]; rfl
theorem S.p33_1 (x : S) : AM.part false 1 33 x.enc = some (int x.place.index.bin) := by simp only [S.enc_eq, Rt.enc, Pl.enc, X.enc_eq]; rfl
theorem S.p34_1 (x : S) : AM.part false 1 34 x.enc = some (.v (.int .u64 x.place.index.n)) := by simp only [S.enc_eq, Rt.enc, Pl.enc, X.enc_eq]; rfl
theorem S.p35_1 (x : S) : AM.part false 1 35 x.enc = some (int x.place.index.kd) := by simp only [S.enc_eq, Rt.enc, Pl.enc, X.enc_eq]; rfl
theorem S.p35_2a (x : S) : AM.part true 2 35 x.enc = some (.agg [int x.place.index.kd, str x.place.index.rc]) := by simp only [S.enc_eq, Rt.enc, Pl.enc, X.enc_eq]; rfl
theorem S.p36_1 (x : S) : AM.part false 1 36 x.enc = some (str x.place.index.rc) := by simp only [S.enc_eq, Rt.enc, Pl.enc, X.enc_eq]; rfl
theorem S.p37_1 (x : S) : AM.part false 1 37 x.enc = some (str x.place.index.name) := by simp only [S.enc_eq, Rt.enc, Pl.enc, X.enc_eq]; rfl
theorem S.p38_1 (x : S) : AM.part false 1 38 x.enc = some (.sl (encs x.place.index.kids) .dead) := by simp only [S.enc_eq, Rt.enc, Pl.enc, X.enc_eq]; rfl
theorem S.p39_1 (x : S) : AM.part false 1 39 x.enc = some (int x.place.index.line) := by simp only [S.enc_eq, Rt.enc, Pl.enc, X.enc_eq]; rfl
theorem S.p40_1 (x : S) : AM.part false 1 40 x.enc = some (int x.place.index.col) := by simp only [S.enc_eq, Rt.enc, Pl.enc, X.enc_eq]; rfl
theorem S.p41_1 (x : S) : AM.part false 1 41 x.enc = some (int x.place.line) := by simp only [S.enc_eq, Rt.enc, Pl.enc, X.enc_eq]; rfl
theorem S.p42_1 (x : S) : AM.part false 1 42 x.enc = some (int x.place.col) := by simp only [S.enc_eq, Rt.enc, Pl.enc, X.enc_eq]; rfl
theorem S.p43_9a (x : S) : AM.part true 9 43 x.enc = some (.agg x.e.enc) := by simp only [S.enc_eq, Rt.enc, Pl.enc, X.enc_eq]; rfl
theorem S.p43_1 (x : S) : AM.part false 1 43 x.enc = some (int x.e.op) := by simp only [S.enc_eq, Rt.enc, Pl.enc, X.enc_eq]; rfl
theorem S.p44_1 (x : S) : AM.part false 1 44 x.enc = some (int x.e.bin) := by simp only [S.enc_eq, Rt.enc, Pl.enc, X.enc_eq]; rfl
theorem S.p45_1 (x : S) : AM.part false 1 45 x.enc = some (.v (.int .u64 x.e.n)) := by simp only [S.enc_eq, Rt.enc, Pl.enc, X.enc_eq]; rfl
theorem S.p46_1 (x : S) : AM.part false 1 46 x.enc = some (int x.e.kd) := by simp only [S.enc_eq, Rt.enc, Pl.enc, X.enc_eq]; rfl
theorem S.p46_2a (x : S) : AM.part true 2 46 x.enc = some (.agg [int x.e.kd, str x.e.rc]) := by simp only [S.enc_eq, Rt.enc, Pl.enc, X.enc_eq]; rfl
theorem S.p47_1 (x : S) : AM.part false 1 47 x.enc = some (str x.e.rc) := by simp only [S.enc_eq, Rt.enc, Pl.enc, X.enc_eq]; rfl
theorem S.p48_1 (x : S) : AM.part false 1 48 x.enc = some (str x.e.name) := by simp only [S.enc_eq, Rt.enc, Pl.enc, X.enc_eq]; rfl
theorem S.p49_1 (x : S) : AM.part false 1 49 x.enc = some (.sl (encs x.e.kids) .dead) := by simp only [S.enc_eq, Rt.enc, Pl.enc, X.enc_eq]; rfl
theorem S.p50_1 (x : S) : AM.part false 1 50 x.enc = some (int x.e.line) := by simp only [S.enc_eq, Rt.enc, Pl.enc, X.enc_eq]; rfl
theorem S.p51_1 (x : S) : AM.part false 1 51 x.enc = some (int x.e.col) := by simp only [S.enc_eq, Rt.enc, Pl.enc, X.enc_eq]; rfl
theorem S.p52_1 (x : S) : AM.part false 1 52 x.enc = some (int x.n) := by simp only [S.enc_eq, Rt.enc, Pl.enc, X.enc_eq]; rfl
theorem S.p53_1 (x : S) : AM.part false 1 53 x.enc = some (.sl (encs x.args) .dead) := by simp only [S.enc_eq, Rt.enc, Pl.enc, X.enc_eq]; rfl
theorem S.p54_1 (x : S) : AM.part false 1 54 x.enc = some (.sl (sencs x.body) .dead) := by simp only [S.enc_eq, Rt.enc, Pl.enc, X.enc_eq]; rfl
theorem S.p55_1 (x : S) : AM.part false 1 55 x.enc = some (.sl (sencs x.els) .dead) := by simp only [S.enc_eq, Rt.enc, Pl.enc, X.enc_eq]; rfl
theorem S.p56_1 (x : S) : AM.part false 1 56 x.enc = some (int x.line) := by simp only [S.enc_eq, Rt.enc, Pl.enc, X.enc_eq]; rfl
theorem S.p57_1 (x : S) : AM.part false 1 57 x.enc = some (int x.col) := by simp only [S.enc_eq, Rt.enc, Pl.enc, X.enc_eq]; rfl
end Go.Proofs.Ytkbhejcfejembaa.S
