/- The seat's functions, each as a Lean function over plain values, and that the evaluator comes to it: written by my program mkS.py. No condition. -/
import Derived.Test.YtkbhejcfejembaaS0
import Derived.KernelRfl
set_option linter.all false
namespace Go.Proofs.Ytkbhejcfejembaa.S
open Go Go.AM Go.Proofs
set_option linter.unusedVariables false
noncomputable def S46.b0 (call : CallF) (it : LoopF) (base lb : Nat) (vs3 : List PV) (st4 : St) : Option (Ex × List PV × St) :=
(aBin Try.prog false .lss 3 (nth vs3 5) (nth vs3 4)).bind fun p5 =>
onBool p5 fun b6 => (bif b6 then
some (Ex.normal, [(nth vs3 0), (nth vs3 1), (nth vs3 2), (nth vs3 3), (nth vs3 4), (nth vs3 5)], st4)
else
some ((Ex.exit 0), [(nth vs3 0), (nth vs3 1), (nth vs3 2), (nth vs3 3), (nth vs3 4), (nth vs3 5)], st4)).bind fun r7 =>
seqK r7.1 ((aIndexAddr Try.prog 31 (nth r7.2.1 3) (nth r7.2.1 5)).bind fun p9 =>
(aLoad true 58 p9 r7.2.2).bind fun p10 =>
let q12 : PV := .ptr false r7.2.2.stk.length 0
let st11 := r7.2.2.push [.v (.int .i64 0), .v (.string ⟨#[]⟩), .v (.int .i64 0), .v (.int .i64 0), .v (.int .i64 0), .v (.int .u64 0), .v (.int .i64 0), .v (.string ⟨#[]⟩), .v (.string ⟨#[]⟩), .sl [] .nil, .v (.int .i64 0), .v (.int .i64 0), .v (.int .i64 0), .v (.string ⟨#[]⟩), .v (.string ⟨#[]⟩), .v (.int .i64 0), .v (.int .i64 0), .v (.int .u64 0), .v (.int .i64 0), .v (.string ⟨#[]⟩), .v (.string ⟨#[]⟩), .sl [] .nil, .v (.int .i64 0), .v (.int .i64 0), .v (.int .i64 0), .v (.int .i64 0), .v (.string ⟨#[]⟩), .v (.int .i64 0), .v (.int .i64 0), .v (.int .i64 0), .v (.string ⟨#[]⟩), .v (.string ⟨#[]⟩), .v (.int .i64 0), .v (.int .i64 0), .v (.int .u64 0), .v (.int .i64 0), .v (.string ⟨#[]⟩), .v (.string ⟨#[]⟩), .sl [] .nil, .v (.int .i64 0), .v (.int .i64 0), .v (.int .i64 0), .v (.int .i64 0), .v (.int .i64 0), .v (.int .i64 0), .v (.int .u64 0), .v (.int .i64 0), .v (.string ⟨#[]⟩), .v (.string ⟨#[]⟩), .sl [] .nil, .v (.int .i64 0), .v (.int .i64 0), .v (.int .i64 0), .sl [] .nil, .sl [] .nil, .sl [] .nil, .v (.int .i64 0), .v (.int .i64 0)]
(aStore base 58 q12 p10 st11).bind fun st13 =>
(aLoad true 58 q12 st13).bind fun p14 =>
onFn (nth r7.2.1 1) fun g16 caps17 =>
(call g16 ([canon (nth r7.2.1 0), canon p14] ++ caps17) st13).bind fun r15 =>
(aUn Try.prog .not r15.1).bind fun p18 =>
(onG p18 false (
(shift q12 54).bind fun p21 =>
some (p21, r15.2)) r15.2).bind fun r20 =>
(onG p18 false (
(aLoad false 1 r20.1 r20.2).bind fun p24 =>
some (p24, r20.2)) r20.2).bind fun r23 =>
(onG p18 false (
some ((nth r7.2.1 0), r23.2)) r23.2).bind fun r26 =>
(onG p18 false (
(aBin Try.prog true .add 3 r26.1 (PV.v (.int .i64 1))).bind fun p29 =>
some (p29, r26.2)) r26.2).bind fun r28 =>
(onG p18 false (
some ((nth r7.2.1 1), r28.2)) r28.2).bind fun r31 =>
(onG p18 false (
(call (.func 46) [canon r23.1, canon r28.1, canon r31.1] r31.2).bind fun r34 =>
some (r34.1, r34.2)) r31.2).bind fun r33 =>
(onG p18 false (
(aUn Try.prog .not r33.1).bind fun p37 =>
some (p37, r33.2)) r33.2).bind fun r36 =>
(aPick p18 (PV.v (.bool true)) r36.1).bind fun p38 =>
(onG p38 false (
(shift q12 55).bind fun p41 =>
some (p41, r36.2)) r36.2).bind fun r40 =>
(onG p38 false (
(aLoad false 1 r40.1 r40.2).bind fun p44 =>
some (p44, r40.2)) r40.2).bind fun r43 =>
(onG p38 false (
some ((nth r7.2.1 0), r43.2)) r43.2).bind fun r46 =>
(onG p38 false (
(aBin Try.prog true .add 3 r46.1 (PV.v (.int .i64 1))).bind fun p49 =>
some (p49, r46.2)) r46.2).bind fun r48 =>
(onG p38 false (
some ((nth r7.2.1 1), r48.2)) r48.2).bind fun r51 =>
(onG p38 false (
(call (.func 46) [canon r43.1, canon r48.1, canon r51.1] r51.2).bind fun r54 =>
some (r54.1, r54.2)) r51.2).bind fun r53 =>
(onG p38 false (
(aUn Try.prog .not r53.1).bind fun p57 =>
some (p57, r53.2)) r53.2).bind fun r56 =>
(aPick p38 (PV.v (.bool true)) r56.1).bind fun p58 =>
onBool p58 fun b59 => (bif b59 then
some (Ex.ret, [(nth r7.2.1 0), (nth r7.2.1 1), (PV.v (.bool false)), (nth r7.2.1 3), (nth r7.2.1 4), (nth r7.2.1 5)], r56.2)
else
some (Ex.normal, [(nth r7.2.1 0), (nth r7.2.1 1), (nth r7.2.1 2), (nth r7.2.1 3), (nth r7.2.1 4), (nth r7.2.1 5)], r56.2)).bind fun r60 =>
seqK (Ex.outOf 1 r60.1) ((aBin Try.prog true .add 3 (nth r60.2.1 5) (PV.v (.int .i64 1))).bind fun p62 =>
leaveV base lb st4.stk.length Ex.normal [(nth r60.2.1 0), (nth r60.2.1 1), (nth r60.2.1 2), (nth r60.2.1 3), (nth r60.2.1 4), p62] r60.2.2) fun x61 =>
leaveV base lb st4.stk.length x61 [(nth r60.2.1 0), (nth r60.2.1 1), (nth r60.2.1 2), (nth r60.2.1 3), (nth r60.2.1 4), (nth r60.2.1 5)] r60.2.2) fun x8 =>
leaveV base lb st4.stk.length x8 [(nth r7.2.1 0), (nth r7.2.1 1), (nth r7.2.1 2), (nth r7.2.1 3), (nth r7.2.1 4), (nth r7.2.1 5)] r7.2.2
/-- padlock/tree.walk -/
noncomputable def S46 (call : CallF) (it : LoopF) (a0 a1 a2 : PV) (st : St) : Option (PV × St) :=
(aLen Try.prog 31 a0).bind fun p1 =>
(it (S46.b0 call it st.stk.length st.lp.length) [a1, a2, (PV.v (.bool false)), a0, p1, (PV.v (.int .i64 0))] st).bind fun r2 =>
seqK (Ex.outOf 0 r2.1) (fin st.stk.length st.tk.length st.lp.length [(PV.v (.bool true))] r2.2.2) fun x63 =>
retK x63 (fin st.stk.length st.tk.length st.lp.length [(nth r2.2.1 2)] r2.2.2)
theorem S46_eq (a0 a1 a2 : PV) (st : St) : E L (.func 46) [a0, a1, a2] st = S46 (E L) itE a0 a1 a2 st := (E_func' (by rfl) Try.func46 _ _).trans (by kernel_rfl)
end Go.Proofs.Ytkbhejcfejembaa.S
