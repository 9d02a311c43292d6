/-
  No cell of these rows narrows 'for every input' (looked for: loops, veiled, ifaces, maps, wideKeys, modest, calm, conditions, laid).
  DERIVED. THE GIVEN ROWS OF THIS SEAT. 4 by the template 'for every input the law returns true; each argument reads behind the call as it read before'; 0 by the template 'total and deterministic' (their statements: YthibbgmmfdlbeaaTotals.lean).
  GIVEN WITH THE SEED: the statements are not yours to turn. If you find one false, say at which input.
  Laid BY PROGRAM, IN A SANDBOX (cutbox-rows.mjs): the forced cells as the released guide's own fill.sh prints them over the translation c968bb2dd06b4bdc… (all of the seat's roots in one cut). By AI agents, Wed Nov 11 2026. No macro, syntax, notation, axiom, sorry.
-/
import Derived.Test.YthibbgmmfdlbeaaChecked
import GoSem.Claim
import GoSem.ClaimJoined
import GoSem.ClaimMapViews
import Derived.JoinedTies
import Derived.KernelRfl
namespace Go.Proofs.Ythibbgmmfdlbeaa
/- THE CELL 'sum', in the pinned program and in every row, IS THE sha256 OF THE DUMP (.gsa) THAT YthibbgmmfdlbeaaProg.lean LOADS. Nothing in Lean hashes anything: it is a label: what it is worth is what the hold of that sum in a sandbox is worth. -/
noncomputable def Try.pinned : Pinned := { name := "ythibbgmmfdlbeaa", sum := "c968bb2dd06b4bdc6c2d580a4df3475a413ca3eef5156fe97bd0dbad5f4fbb29", checked := Try.checked }
namespace Rows
def none {H : Type} : Left H := { results := [], args := [] }

/-- 'padlocklaw14.ModeJoins': WHATEVER THE INPUT: true; the input reads as it did. -/
def modeJoinsSpec : ChangeSpec := { name := "modeJoins", fn := fun _ => fun
  | [d1, d2, d3] => { results := [.lit (.bool true)], args := [d1, d2, d3] }
  | _ => none }
def modeJoinsRow : OpenClaim := { program := "ythibbgmmfdlbeaa", sum := "c968bb2dd06b4bdc6c2d580a4df3475a413ca3eef5156fe97bd0dbad5f4fbb29", func := "padlock/padlocklaw14.ModeJoins", spec := "modeJoins", apart := false }
def ModeJoinsSaid : Prop := modeJoinsRow.holds Try.pinned (OpenSpec.ofChange modeJoinsSpec)

/-- ITS FALSE NEIGHBOUR: 'it returns false'. Refute it at one input. -/
def modeJoinsWrong : ChangeSpec := { name := "modeJoins", fn := fun _ => fun
  | [d1, d2, d3] => { results := [.lit (.bool false)], args := [d1, d2, d3] }
  | _ => none }
def ModeJoinsWrongFalsely : Prop := modeJoinsRow.holds Try.pinned (OpenSpec.ofChange modeJoinsWrong)

/-- 'padlocklaw14.ModeOrder': WHATEVER THE INPUT: true; the input reads as it did. -/
def modeOrderSpec : ChangeSpec := { name := "modeOrder", fn := fun _ => fun
  | [d1, d2, d3] => { results := [.lit (.bool true)], args := [d1, d2, d3] }
  | _ => none }
def modeOrderRow : OpenClaim := { program := "ythibbgmmfdlbeaa", sum := "c968bb2dd06b4bdc6c2d580a4df3475a413ca3eef5156fe97bd0dbad5f4fbb29", func := "padlock/padlocklaw14.ModeOrder", spec := "modeOrder", apart := false }
def ModeOrderSaid : Prop := modeOrderRow.holds Try.pinned (OpenSpec.ofChange modeOrderSpec)

/-- ITS FALSE NEIGHBOUR: 'it returns false'. Refute it at one input. -/
def modeOrderWrong : ChangeSpec := { name := "modeOrder", fn := fun _ => fun
  | [d1, d2, d3] => { results := [.lit (.bool false)], args := [d1, d2, d3] }
  | _ => none }
def ModeOrderWrongFalsely : Prop := modeOrderRow.holds Try.pinned (OpenSpec.ofChange modeOrderWrong)

/-- 'padlocklaw14.ModeAbove': WHATEVER THE INPUT: true; the input reads as it did. -/
def modeAboveSpec : ChangeSpec := { name := "modeAbove", fn := fun _ => fun
  | [d1, d2, d3] => { results := [.lit (.bool true)], args := [d1, d2, d3] }
  | _ => none }
def modeAboveRow : OpenClaim := { program := "ythibbgmmfdlbeaa", sum := "c968bb2dd06b4bdc6c2d580a4df3475a413ca3eef5156fe97bd0dbad5f4fbb29", func := "padlock/padlocklaw14.ModeAbove", spec := "modeAbove", apart := false }
def ModeAboveSaid : Prop := modeAboveRow.holds Try.pinned (OpenSpec.ofChange modeAboveSpec)

/-- ITS FALSE NEIGHBOUR: 'it returns false'. Refute it at one input. -/
def modeAboveWrong : ChangeSpec := { name := "modeAbove", fn := fun _ => fun
  | [d1, d2, d3] => { results := [.lit (.bool false)], args := [d1, d2, d3] }
  | _ => none }
def ModeAboveWrongFalsely : Prop := modeAboveRow.holds Try.pinned (OpenSpec.ofChange modeAboveWrong)

/-- 'padlocklaw14.ModeIs': WHATEVER THE INPUT: true; the input reads as it did. -/
def modeIsSpec : ChangeSpec := { name := "modeIs", fn := fun _ => fun
  | [d1, d2] => { results := [.lit (.bool true)], args := [d1, d2] }
  | _ => none }
def modeIsRow : OpenClaim := { program := "ythibbgmmfdlbeaa", sum := "c968bb2dd06b4bdc6c2d580a4df3475a413ca3eef5156fe97bd0dbad5f4fbb29", func := "padlock/padlocklaw14.ModeIs", spec := "modeIs", apart := false }
def ModeIsSaid : Prop := modeIsRow.holds Try.pinned (OpenSpec.ofChange modeIsSpec)

/-- ITS FALSE NEIGHBOUR: 'it returns false'. Refute it at one input. -/
def modeIsWrong : ChangeSpec := { name := "modeIs", fn := fun _ => fun
  | [d1, d2] => { results := [.lit (.bool false)], args := [d1, d2] }
  | _ => none }
def ModeIsWrongFalsely : Prop := modeIsRow.holds Try.pinned (OpenSpec.ofChange modeIsWrong)

/- THE SECOND FORM. 'bulk': how many values and letters a reading holds, each counted each time it is reached (what is shared counts as often as it is met; a slice's spare places count too). A statement '..UptoSaid' is the law's where the arguments, and the package variables that the reading takes, are together of bulk at most 1048576: NARROWER than '..Said'. Prove '..Said' where nothing that the law and all that it calls make is longer than what came in: it says more and counts as full. Else prove '..UptoSaid'. A law counts once. -/
mutual
def uptoBulk {H : Type} : DataW H → Nat
  | .lit (.string bytes) => bytes.length + 1
  | .lit _ => 1
  | .nil => 1
  | .ptr d => uptoBulk d + 1
  | .slice elems spare => uptoBulkAll elems + uptoBulkAll spare + 1
  | .agg parts => uptoBulkAll parts + 1
  | .iface _ d => uptoBulk d + 1
  | .map entries => uptoBulkEntries entries + 1
  | .held _ => 1
def uptoBulkAll {H : Type} : List (DataW H) → Nat
  | [] => 0
  | d :: r => uptoBulk d + uptoBulkAll r
def uptoBulkEntries {H : Type} : List (Lit × DataW H) → Nat
  | [] => 0
  | x :: r => uptoBulkEntry x + uptoBulkEntries r
def uptoBulkEntry {H : Type} : Lit × DataW H → Nat
  | (.string bytes, d) => bytes.length + uptoBulk d + 1
  | (_, d) => uptoBulk d + 1
 end
def uptoSmall : (H : Type) → List (DataW H) → Bool := fun _ ds => decide (uptoBulkAll ds ≤ 1048576)
def OpenSpec.upto (s : _root_.Go.ChangeSpec) : _root_.Go.OpenSpec := { _root_.Go.OpenSpec.ofChange s with cond := some uptoSmall }

/-- 'padlocklaw14.ModeJoins', WHERE WHAT IT READS IS OF BULK AT MOST 1048576: true; the input reads as it did. -/
def modeJoinsUptoRow : OpenClaim := { program := "ythibbgmmfdlbeaa", sum := "c968bb2dd06b4bdc6c2d580a4df3475a413ca3eef5156fe97bd0dbad5f4fbb29", func := "padlock/padlocklaw14.ModeJoins", spec := "modeJoins", apart := false, narrowed := true }
def ModeJoinsUptoSaid : Prop := modeJoinsUptoRow.holds Try.pinned (OpenSpec.upto modeJoinsSpec)

/-- 'padlocklaw14.ModeOrder', WHERE WHAT IT READS IS OF BULK AT MOST 1048576: true; the input reads as it did. -/
def modeOrderUptoRow : OpenClaim := { program := "ythibbgmmfdlbeaa", sum := "c968bb2dd06b4bdc6c2d580a4df3475a413ca3eef5156fe97bd0dbad5f4fbb29", func := "padlock/padlocklaw14.ModeOrder", spec := "modeOrder", apart := false, narrowed := true }
def ModeOrderUptoSaid : Prop := modeOrderUptoRow.holds Try.pinned (OpenSpec.upto modeOrderSpec)

/-- 'padlocklaw14.ModeAbove', WHERE WHAT IT READS IS OF BULK AT MOST 1048576: true; the input reads as it did. -/
def modeAboveUptoRow : OpenClaim := { program := "ythibbgmmfdlbeaa", sum := "c968bb2dd06b4bdc6c2d580a4df3475a413ca3eef5156fe97bd0dbad5f4fbb29", func := "padlock/padlocklaw14.ModeAbove", spec := "modeAbove", apart := false, narrowed := true }
def ModeAboveUptoSaid : Prop := modeAboveUptoRow.holds Try.pinned (OpenSpec.upto modeAboveSpec)

/-- 'padlocklaw14.ModeIs', WHERE WHAT IT READS IS OF BULK AT MOST 1048576: true; the input reads as it did. -/
def modeIsUptoRow : OpenClaim := { program := "ythibbgmmfdlbeaa", sum := "c968bb2dd06b4bdc6c2d580a4df3475a413ca3eef5156fe97bd0dbad5f4fbb29", func := "padlock/padlocklaw14.ModeIs", spec := "modeIs", apart := false, narrowed := true }
def ModeIsUptoSaid : Prop := modeIsUptoRow.holds Try.pinned (OpenSpec.upto modeIsSpec)

end Rows
end Go.Proofs.Ythibbgmmfdlbeaa
