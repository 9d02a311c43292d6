/- The seat's functions, each as a Lean function over plain values, and that the evaluator comes to it: written by my program mkS.py. No condition. -/
import Derived.Test.YtkbhejcfejembaaS0
import Derived.KernelRfl
set_option linter.all false
namespace Go.Proofs.Ytkbhejcfejembaa.S
open Go Go.AM Go.Proofs
set_option linter.unusedVariables false
/-- (*padlock/padlockref04.Maker).right -/
noncomputable def S47 (call : CallF) (it : LoopF) (a0 : PV) (st : St) : Option (PV × St) :=
let q2 : PV := .ptr false st.stk.length 0
let st1 := st.push [.v (.int .i64 0), .v (.int .i64 0), .v (.int .i64 0), .v (.int .u64 0), .v (.int .i64 0), .v (.string ⟨#[]⟩), .v (.string ⟨#[]⟩), .sl [] .nil, .v (.int .i64 0), .v (.int .i64 0), .v (.int .i64 0), .v (.string ⟨#[]⟩), .v (.string ⟨#[]⟩), .v (.int .i64 0), .v (.int .i64 0), .v (.int .u64 0), .v (.int .i64 0), .v (.string ⟨#[]⟩), .v (.string ⟨#[]⟩), .sl [] .nil, .v (.int .i64 0), .v (.int .i64 0), .v (.int .i64 0), .v (.int .i64 0), .v (.string ⟨#[]⟩), .v (.int .i64 0), .v (.int .i64 0)]
(call (.func 22) [canon a0, canon (PV.v (.int .i64 6))] st1).bind fun r3 =>
(aBin Try.prog true .eql 3 r3.1 (PV.v (.int .i64 0))).bind fun p4 =>
onBool p4 fun b5 => (bif b5 then
(call (.func 48) [canon a0] r3.2).bind fun r7 =>
(rBuild [(0, 1), (1, 9), (10, 14), (24, 1), (25, 1), (26, 1)] [.v (.int .i64 0), .v (.int .i64 0), .v (.int .i64 0), .v (.int .u64 0), .v (.int .i64 0), .v (.string ⟨#[]⟩), .v (.string ⟨#[]⟩), .sl [] .nil, .v (.int .i64 0), .v (.int .i64 0), .v (.int .i64 0), .v (.string ⟨#[]⟩), .v (.string ⟨#[]⟩), .v (.int .i64 0), .v (.int .i64 0), .v (.int .u64 0), .v (.int .i64 0), .v (.string ⟨#[]⟩), .v (.string ⟨#[]⟩), .sl [] .nil, .v (.int .i64 0), .v (.int .i64 0), .v (.int .i64 0), .v (.int .i64 0), .v (.string ⟨#[]⟩), .v (.int .i64 0), .v (.int .i64 0)] [(0, (PV.v (.int .i64 2))), (2, r7.1)]).bind fun p8 =>
(aStore st.stk.length 27 q2 p8 r7.2).bind fun st9 =>
some (Ex.ret, [a0, q2], st9)
else
(aBin Try.prog true .eql 3 r3.1 (PV.v (.int .i64 1))).bind fun p10 =>
onBool p10 fun b11 => (bif b11 then
(call (.func 23) [canon a0] r3.2).bind fun r13 =>
(rBuild [(0, 1), (1, 9), (10, 14), (24, 1), (25, 1), (26, 1)] [.v (.int .i64 0), .v (.int .i64 0), .v (.int .i64 0), .v (.int .u64 0), .v (.int .i64 0), .v (.string ⟨#[]⟩), .v (.string ⟨#[]⟩), .sl [] .nil, .v (.int .i64 0), .v (.int .i64 0), .v (.int .i64 0), .v (.string ⟨#[]⟩), .v (.string ⟨#[]⟩), .v (.int .i64 0), .v (.int .i64 0), .v (.int .u64 0), .v (.int .i64 0), .v (.string ⟨#[]⟩), .v (.string ⟨#[]⟩), .sl [] .nil, .v (.int .i64 0), .v (.int .i64 0), .v (.int .i64 0), .v (.int .i64 0), .v (.string ⟨#[]⟩), .v (.int .i64 0), .v (.int .i64 0)] [(0, (PV.v (.int .i64 3))), (3, r13.1)]).bind fun p14 =>
(aStore st.stk.length 27 q2 p14 r13.2).bind fun st15 =>
some (Ex.ret, [a0, q2], st15)
else
(aBin Try.prog true .eql 3 r3.1 (PV.v (.int .i64 2))).bind fun p16 =>
onBool p16 fun b17 => (bif b17 then
(call (.func 49) [canon a0, canon (PV.v (.int .i64 2))] r3.2).bind fun r19 =>
(rBuild [(0, 1), (1, 9), (10, 14), (24, 1), (25, 1), (26, 1)] [.v (.int .i64 0), .v (.int .i64 0), .v (.int .i64 0), .v (.int .u64 0), .v (.int .i64 0), .v (.string ⟨#[]⟩), .v (.string ⟨#[]⟩), .sl [] .nil, .v (.int .i64 0), .v (.int .i64 0), .v (.int .i64 0), .v (.string ⟨#[]⟩), .v (.string ⟨#[]⟩), .v (.int .i64 0), .v (.int .i64 0), .v (.int .u64 0), .v (.int .i64 0), .v (.string ⟨#[]⟩), .v (.string ⟨#[]⟩), .sl [] .nil, .v (.int .i64 0), .v (.int .i64 0), .v (.int .i64 0), .v (.int .i64 0), .v (.string ⟨#[]⟩), .v (.int .i64 0), .v (.int .i64 0)] [(0, (PV.v (.int .i64 4))), (1, r19.1)]).bind fun p20 =>
(aStore st.stk.length 27 q2 p20 r19.2).bind fun st21 =>
some (Ex.ret, [a0, q2], st21)
else
(aBin Try.prog true .eql 3 r3.1 (PV.v (.int .i64 3))).bind fun p22 =>
onBool p22 fun b23 => (bif b23 then
(call (.func 23) [canon a0] r3.2).bind fun r25 =>
(rBuild [(0, 1), (1, 9), (10, 14), (24, 1), (25, 1), (26, 1)] [.v (.int .i64 0), .v (.int .i64 0), .v (.int .i64 0), .v (.int .u64 0), .v (.int .i64 0), .v (.string ⟨#[]⟩), .v (.string ⟨#[]⟩), .sl [] .nil, .v (.int .i64 0), .v (.int .i64 0), .v (.int .i64 0), .v (.string ⟨#[]⟩), .v (.string ⟨#[]⟩), .v (.int .i64 0), .v (.int .i64 0), .v (.int .u64 0), .v (.int .i64 0), .v (.string ⟨#[]⟩), .v (.string ⟨#[]⟩), .sl [] .nil, .v (.int .i64 0), .v (.int .i64 0), .v (.int .i64 0), .v (.int .i64 0), .v (.string ⟨#[]⟩), .v (.int .i64 0), .v (.int .i64 0)] [(0, (PV.v (.int .i64 5))), (3, r25.1)]).bind fun p26 =>
(aStore st.stk.length 27 q2 p26 r25.2).bind fun st27 =>
some (Ex.ret, [a0, q2], st27)
else
some (Ex.normal, [a0, q2], r3.2)).bind fun r24 =>
some (r24.1, [(nth r24.2.1 0), (nth r24.2.1 1)], r24.2.2)).bind fun r18 =>
some (r18.1, [(nth r18.2.1 0), (nth r18.2.1 1)], r18.2.2)).bind fun r12 =>
some (r12.1, [(nth r12.2.1 0), (nth r12.2.1 1)], r12.2.2)).bind fun r6 =>
seqK (Ex.outOf 0 r6.1) ((call (.func 49) [canon (nth r6.2.1 0), canon (PV.v (.int .i64 3))] r6.2.2).bind fun r29 =>
(rBuild [(0, 1), (1, 9), (10, 14), (24, 1), (25, 1), (26, 1)] [.v (.int .i64 0), .v (.int .i64 0), .v (.int .i64 0), .v (.int .u64 0), .v (.int .i64 0), .v (.string ⟨#[]⟩), .v (.string ⟨#[]⟩), .sl [] .nil, .v (.int .i64 0), .v (.int .i64 0), .v (.int .i64 0), .v (.string ⟨#[]⟩), .v (.string ⟨#[]⟩), .v (.int .i64 0), .v (.int .i64 0), .v (.int .u64 0), .v (.int .i64 0), .v (.string ⟨#[]⟩), .v (.string ⟨#[]⟩), .sl [] .nil, .v (.int .i64 0), .v (.int .i64 0), .v (.int .i64 0), .v (.int .i64 0), .v (.string ⟨#[]⟩), .v (.int .i64 0), .v (.int .i64 0)] [(0, (PV.v (.int .i64 1))), (1, r29.1)]).bind fun p30 =>
(aStore st.stk.length 27 (nth r6.2.1 1) p30 r29.2).bind fun st31 =>
(aLoad true 27 (nth r6.2.1 1) st31).bind fun p32 =>
fin st.stk.length st.tk.length st.lp.length [p32] st31) fun x28 =>
retK x28 ((aLoad true 27 (nth r6.2.1 1) r6.2.2).bind fun p33 =>
fin st.stk.length st.tk.length st.lp.length [p33] r6.2.2)
theorem S47_eq (a0 : PV) (st : St) : E L (.func 47) [a0] st = S47 (E L) itE a0 st := (E_func' (by rfl) Try.func47 _ _).trans (by kernel_rfl)
noncomputable def S44.b0 (call : CallF) (it : LoopF) (base lb : Nat) (vs135 : List PV) (st136 : St) : Option (Ex × List PV × St) :=
(aBin Try.prog true .gtr 3 (nth vs135 3) (PV.v (.int .i64 0))).bind fun p137 =>
onBool p137 fun b138 => (bif b138 then
some (Ex.normal, [(nth vs135 0), (nth vs135 1), (nth vs135 2), (nth vs135 3)], st136)
else
some ((Ex.exit 1), [(nth vs135 0), (nth vs135 1), (nth vs135 2), (nth vs135 3)], st136)).bind fun r139 =>
seqK r139.1 ((shift (nth r139.2.1 2) 53).bind fun p141 =>
(aLoad false 1 p141 r139.2.2).bind fun p142 =>
need (r139.2.2 = r139.2.2) <|
(call (.func 49) [canon (nth r139.2.1 0), canon (PV.v (.int .i64 1))] r139.2.2).bind fun r143 =>
need (((aLoad false 1 p141 r143.2).bind fun p144 =>
some (p144, r143.2)) = some (p142, r143.2)) <|
(rBuildSlice 9 [.v (.int .i64 0), .v (.int .i64 0), .v (.int .u64 0), .v (.int .i64 0), .v (.string ⟨#[]⟩), .v (.string ⟨#[]⟩), .sl [] .nil, .v (.int .i64 0), .v (.int .i64 0)] 1 [(0, r143.1)]).bind fun p145 =>
(elemsOf r143.2 p145).bind fun ys146 =>
(rAppend base [.v (.int .i64 0), .v (.int .i64 0), .v (.int .u64 0), .v (.int .i64 0), .v (.string ⟨#[]⟩), .v (.string ⟨#[]⟩), .sl [] .nil, .v (.int .i64 0), .v (.int .i64 0)] 9 104 p142 ys146 r143.2).bind fun r147 =>
(shift (nth r139.2.1 2) 53).bind fun p148 =>
(aStore base 1 p148 r147.1 r147.2).bind fun st149 =>
(aBin Try.prog true .sub 3 (nth r139.2.1 3) (PV.v (.int .i64 1))).bind fun p150 =>
some (Ex.normal, [(nth r139.2.1 0), (nth r139.2.1 1), (nth r139.2.1 2), p150], st149)) fun x140 =>
some (x140, [(nth r139.2.1 0), (nth r139.2.1 1), (nth r139.2.1 2), (nth r139.2.1 3)], r139.2.2)
/-- (*padlock/padlockref04.Maker).stmt -/
noncomputable def S44 (call : CallF) (it : LoopF) (a0 a1 : PV) (st : St) : Option (PV × St) :=
let q2 : PV := .ptr false st.stk.length 0
let st1 := st.push [.v (.int .i64 0), .v (.string ⟨#[]⟩), .v (.int .i64 0), .v (.int .i64 0), .v (.int .i64 0), .v (.int .u64 0), .v (.int .i64 0), .v (.string ⟨#[]⟩), .v (.string ⟨#[]⟩), .sl [] .nil, .v (.int .i64 0), .v (.int .i64 0), .v (.int .i64 0), .v (.string ⟨#[]⟩), .v (.string ⟨#[]⟩), .v (.int .i64 0), .v (.int .i64 0), .v (.int .u64 0), .v (.int .i64 0), .v (.string ⟨#[]⟩), .v (.string ⟨#[]⟩), .sl [] .nil, .v (.int .i64 0), .v (.int .i64 0), .v (.int .i64 0), .v (.int .i64 0), .v (.string ⟨#[]⟩), .v (.int .i64 0), .v (.int .i64 0), .v (.int .i64 0), .v (.string ⟨#[]⟩), .v (.string ⟨#[]⟩), .v (.int .i64 0), .v (.int .i64 0), .v (.int .u64 0), .v (.int .i64 0), .v (.string ⟨#[]⟩), .v (.string ⟨#[]⟩), .sl [] .nil, .v (.int .i64 0), .v (.int .i64 0), .v (.int .i64 0), .v (.int .i64 0), .v (.int .i64 0), .v (.int .i64 0), .v (.int .u64 0), .v (.int .i64 0), .v (.string ⟨#[]⟩), .v (.string ⟨#[]⟩), .sl [] .nil, .v (.int .i64 0), .v (.int .i64 0), .v (.int .i64 0), .sl [] .nil, .sl [] .nil, .sl [] .nil, .v (.int .i64 0), .v (.int .i64 0)]
(call (.func 22) [canon a0, canon (PV.v (.int .i64 11))] st1).bind fun r3 =>
(aBin Try.prog true .add 3 (PV.v (.int .i64 1)) r3.1).bind fun p4 =>
(aBin Try.prog true .eql 3 a1 (PV.v (.int .i64 0))).bind fun p5 =>
(onG p5 true (
some (p4, r3.2)) r3.2).bind fun r7 =>
(onG p5 true (
(aBin Try.prog true .eql 3 r7.1 (PV.v (.int .i64 6))).bind fun p10 =>
some (p10, r7.2)) r7.2).bind fun r9 =>
(onG p5 true (
some (r9.1, r9.2)) r9.2).bind fun r12 =>
(onG r12.1 false (
some (p4, r12.2)) r12.2).bind fun r14 =>
(onG r12.1 false (
(aBin Try.prog true .eql 3 r14.1 (PV.v (.int .i64 7))).bind fun p17 =>
some (p17, r14.2)) r14.2).bind fun r16 =>
(onG p5 true (
(aPick r12.1 (PV.v (.bool true)) r16.1).bind fun p20 =>
some (p20, r16.2)) r16.2).bind fun r19 =>
(onG p5 true (
some (r19.1, r19.2)) r19.2).bind fun r22 =>
(onG r22.1 false (
some (p4, r22.2)) r22.2).bind fun r24 =>
(onG r22.1 false (
(aBin Try.prog true .eql 3 r24.1 (PV.v (.int .i64 10))).bind fun p27 =>
some (p27, r24.2)) r24.2).bind fun r26 =>
(onG p5 true (
(aPick r22.1 (PV.v (.bool true)) r26.1).bind fun p30 =>
some (p30, r26.2)) r26.2).bind fun r29 =>
(aPick p5 r29.1 (PV.v (.bool false))).bind fun p31 =>
onBool p31 fun b32 => (bif b32 then
some (Ex.normal, [a0, a1, q2, (PV.v (.int .i64 5))], r29.2)
else
some (Ex.normal, [a0, a1, q2, p4], r29.2)).bind fun r33 =>
seqK r33.1 ((rBuild [(0, 1), (1, 1), (2, 27), (29, 14), (43, 9), (52, 1), (53, 1), (54, 1), (55, 1), (56, 1), (57, 1)] [.v (.int .i64 0), .v (.string ⟨#[]⟩), .v (.int .i64 0), .v (.int .i64 0), .v (.int .i64 0), .v (.int .u64 0), .v (.int .i64 0), .v (.string ⟨#[]⟩), .v (.string ⟨#[]⟩), .sl [] .nil, .v (.int .i64 0), .v (.int .i64 0), .v (.int .i64 0), .v (.string ⟨#[]⟩), .v (.string ⟨#[]⟩), .v (.int .i64 0), .v (.int .i64 0), .v (.int .u64 0), .v (.int .i64 0), .v (.string ⟨#[]⟩), .v (.string ⟨#[]⟩), .sl [] .nil, .v (.int .i64 0), .v (.int .i64 0), .v (.int .i64 0), .v (.int .i64 0), .v (.string ⟨#[]⟩), .v (.int .i64 0), .v (.int .i64 0), .v (.int .i64 0), .v (.string ⟨#[]⟩), .v (.string ⟨#[]⟩), .v (.int .i64 0), .v (.int .i64 0), .v (.int .u64 0), .v (.int .i64 0), .v (.string ⟨#[]⟩), .v (.string ⟨#[]⟩), .sl [] .nil, .v (.int .i64 0), .v (.int .i64 0), .v (.int .i64 0), .v (.int .i64 0), .v (.int .i64 0), .v (.int .i64 0), .v (.int .u64 0), .v (.int .i64 0), .v (.string ⟨#[]⟩), .v (.string ⟨#[]⟩), .sl [] .nil, .v (.int .i64 0), .v (.int .i64 0), .v (.int .i64 0), .sl [] .nil, .sl [] .nil, .sl [] .nil, .v (.int .i64 0), .v (.int .i64 0)] [(0, (nth r33.2.1 3))]).bind fun p35 =>
let q37 : PV := .ptr false r33.2.2.stk.length 0
let st36 := r33.2.2.push [.v (.int .i64 0), .v (.string ⟨#[]⟩), .v (.int .i64 0), .v (.int .i64 0), .v (.int .i64 0), .v (.int .u64 0), .v (.int .i64 0), .v (.string ⟨#[]⟩), .v (.string ⟨#[]⟩), .sl [] .nil, .v (.int .i64 0), .v (.int .i64 0), .v (.int .i64 0), .v (.string ⟨#[]⟩), .v (.string ⟨#[]⟩), .v (.int .i64 0), .v (.int .i64 0), .v (.int .u64 0), .v (.int .i64 0), .v (.string ⟨#[]⟩), .v (.string ⟨#[]⟩), .sl [] .nil, .v (.int .i64 0), .v (.int .i64 0), .v (.int .i64 0), .v (.int .i64 0), .v (.string ⟨#[]⟩), .v (.int .i64 0), .v (.int .i64 0), .v (.int .i64 0), .v (.string ⟨#[]⟩), .v (.string ⟨#[]⟩), .v (.int .i64 0), .v (.int .i64 0), .v (.int .u64 0), .v (.int .i64 0), .v (.string ⟨#[]⟩), .v (.string ⟨#[]⟩), .sl [] .nil, .v (.int .i64 0), .v (.int .i64 0), .v (.int .i64 0), .v (.int .i64 0), .v (.int .i64 0), .v (.int .i64 0), .v (.int .u64 0), .v (.int .i64 0), .v (.string ⟨#[]⟩), .v (.string ⟨#[]⟩), .sl [] .nil, .v (.int .i64 0), .v (.int .i64 0), .v (.int .i64 0), .sl [] .nil, .sl [] .nil, .sl [] .nil, .v (.int .i64 0), .v (.int .i64 0)]
(aStore st.stk.length 58 q37 p35 st36).bind fun st38 =>
(aBin Try.prog true .eql 3 (nth r33.2.1 3) (PV.v (.int .i64 1))).bind fun p39 =>
onBool p39 fun b40 => (bif b40 then
some (Ex.normal, [(nth r33.2.1 0), (nth r33.2.1 1), (nth r33.2.1 2), q37, (nth r33.2.1 3), p39], st38)
else
(aBin Try.prog true .eql 3 (nth r33.2.1 3) (PV.v (.int .i64 2))).bind fun p42 =>
onBool p42 fun b43 => (bif b43 then
some (Ex.normal, [(nth r33.2.1 0), (nth r33.2.1 1), (nth r33.2.1 2), q37, (nth r33.2.1 3), p42], st38)
else
(aBin Try.prog true .eql 3 (nth r33.2.1 3) (PV.v (.int .i64 3))).bind fun p45 =>
some (Ex.normal, [(nth r33.2.1 0), (nth r33.2.1 1), (nth r33.2.1 2), q37, (nth r33.2.1 3), p45], st38)).bind fun r44 =>
some (r44.1, [(nth r44.2.1 0), (nth r44.2.1 1), (nth r44.2.1 2), (nth r44.2.1 3), (nth r44.2.1 4), (nth r44.2.1 5)], r44.2.2)).bind fun r41 =>
seqK r41.1 (onBool (nth r41.2.1 5) fun b47 => (bif b47 then
(call (.func 23) [canon (nth r41.2.1 0)] r41.2.2).bind fun r49 =>
(shift (nth r41.2.1 3) 1).bind fun p50 =>
(aStore st.stk.length 1 p50 r49.1 r49.2).bind fun st51 =>
(call (.func 47) [canon (nth r41.2.1 0)] st51).bind fun r52 =>
(shift (nth r41.2.1 3) 2).bind fun p53 =>
(aStore st.stk.length 27 p53 r52.1 r52.2).bind fun st54 =>
some (Ex.normal, [(nth r41.2.1 2), (nth r41.2.1 3)], st54)
else
(aBin Try.prog true .eql 3 (nth r41.2.1 4) (PV.v (.int .i64 4))).bind fun p55 =>
onBool p55 fun b56 => (bif b56 then
(call (.func 48) [canon (nth r41.2.1 0)] r41.2.2).bind fun r58 =>
(shift (nth r41.2.1 3) 29).bind fun p59 =>
(aStore st.stk.length 14 p59 r58.1 r58.2).bind fun st60 =>
(call (.func 49) [canon (nth r41.2.1 0), canon (PV.v (.int .i64 2))] st60).bind fun r61 =>
(shift (nth r41.2.1 3) 43).bind fun p62 =>
(aStore st.stk.length 9 p62 r61.1 r61.2).bind fun st63 =>
some (Ex.normal, [(nth r41.2.1 2), (nth r41.2.1 3)], st63)
else
(aBin Try.prog true .eql 3 (nth r41.2.1 4) (PV.v (.int .i64 5))).bind fun p64 =>
onBool p64 fun b65 => (bif b65 then
(call (.func 49) [canon (nth r41.2.1 0), canon (PV.v (.int .i64 3))] r41.2.2).bind fun r67 =>
(shift (nth r41.2.1 3) 43).bind fun p68 =>
(aStore st.stk.length 9 p68 r67.1 r67.2).bind fun st69 =>
some (Ex.normal, [(nth r41.2.1 2), (nth r41.2.1 3)], st69)
else
(aBin Try.prog true .eql 3 (nth r41.2.1 4) (PV.v (.int .i64 6))).bind fun p70 =>
onBool p70 fun b71 => (bif b71 then
(call (.func 49) [canon (nth r41.2.1 0), canon (PV.v (.int .i64 2))] r41.2.2).bind fun r73 =>
(shift (nth r41.2.1 3) 43).bind fun p74 =>
(aStore st.stk.length 9 p74 r73.1 r73.2).bind fun st75 =>
(aBin Try.prog true .sub 3 (nth r41.2.1 1) (PV.v (.int .i64 1))).bind fun p76 =>
(call (.func 25) [canon (nth r41.2.1 0), canon p76] st75).bind fun r77 =>
(shift (nth r41.2.1 3) 54).bind fun p78 =>
(aStore st.stk.length 1 p78 r77.1 r77.2).bind fun st79 =>
(call (.func 22) [canon (nth r41.2.1 0), canon (PV.v (.int .i64 2))] st79).bind fun r80 =>
(aBin Try.prog true .eql 3 r80.1 (PV.v (.int .i64 0))).bind fun p81 =>
onBool p81 fun b82 => (bif b82 then
(aBin Try.prog true .sub 3 (nth r41.2.1 1) (PV.v (.int .i64 1))).bind fun p84 =>
(call (.func 25) [canon (nth r41.2.1 0), canon p84] r80.2).bind fun r85 =>
(shift (nth r41.2.1 3) 55).bind fun p86 =>
(aStore st.stk.length 1 p86 r85.1 r85.2).bind fun st87 =>
some (Ex.normal, [(nth r41.2.1 2), (nth r41.2.1 3)], st87)
else
some (Ex.normal, [(nth r41.2.1 2), (nth r41.2.1 3)], r80.2)).bind fun r83 =>
some (r83.1, [(nth r83.2.1 0), (nth r83.2.1 1)], r83.2.2)
else
(aBin Try.prog true .eql 3 (nth r41.2.1 4) (PV.v (.int .i64 7))).bind fun p88 =>
onBool p88 fun b89 => (bif b89 then
(call (.func 22) [canon (nth r41.2.1 0), canon (PV.v (.int .i64 2))] r41.2.2).bind fun r91 =>
(aBin Try.prog true .eql 3 r91.1 (PV.v (.int .i64 0))).bind fun p92 =>
onBool p92 fun b93 => (bif b93 then
(call (.func 23) [canon (nth r41.2.1 0)] r91.2).bind fun r95 =>
(shift (nth r41.2.1 3) 1).bind fun p96 =>
(aStore st.stk.length 1 p96 r95.1 r95.2).bind fun st97 =>
some (Ex.normal, [(nth r41.2.1 0), (nth r41.2.1 1), (nth r41.2.1 2), (nth r41.2.1 3)], st97)
else
some (Ex.normal, [(nth r41.2.1 0), (nth r41.2.1 1), (nth r41.2.1 2), (nth r41.2.1 3)], r91.2)).bind fun r94 =>
seqK r94.1 ((call (.func 22) [canon (nth r94.2.1 0), canon (PV.v (.int .i64 9))] r94.2.2).bind fun r99 =>
(shift (nth r94.2.1 3) 52).bind fun p100 =>
(aStore st.stk.length 1 p100 r99.1 r99.2).bind fun st101 =>
(aBin Try.prog true .sub 3 (nth r94.2.1 1) (PV.v (.int .i64 1))).bind fun p102 =>
(call (.func 25) [canon (nth r94.2.1 0), canon p102] st101).bind fun r103 =>
(shift (nth r94.2.1 3) 54).bind fun p104 =>
(aStore st.stk.length 1 p104 r103.1 r103.2).bind fun st105 =>
some (Ex.normal, [(nth r94.2.1 2), (nth r94.2.1 3)], st105)) fun x98 =>
some (x98, [(nth r94.2.1 2), (nth r94.2.1 3)], r94.2.2)
else
(aBin Try.prog true .eql 3 (nth r41.2.1 4) (PV.v (.int .i64 8))).bind fun p106 =>
onBool p106 fun b107 => (bif b107 then
some (Ex.normal, [(nth r41.2.1 0), (nth r41.2.1 1), (nth r41.2.1 2), (nth r41.2.1 3), (nth r41.2.1 4), p106], r41.2.2)
else
(aBin Try.prog true .eql 3 (nth r41.2.1 4) (PV.v (.int .i64 9))).bind fun p109 =>
some (Ex.normal, [(nth r41.2.1 0), (nth r41.2.1 1), (nth r41.2.1 2), (nth r41.2.1 3), (nth r41.2.1 4), p109], r41.2.2)).bind fun r108 =>
seqK r108.1 (onBool (nth r108.2.1 5) fun b111 => (bif b111 then
(call (.func 22) [canon (nth r108.2.1 0), canon (PV.v (.int .i64 2))] r108.2.2).bind fun r113 =>
(aBin Try.prog true .eql 3 r113.1 (PV.v (.int .i64 0))).bind fun p114 =>
onBool p114 fun b115 => (bif b115 then
(call (.func 23) [canon (nth r108.2.1 0)] r113.2).bind fun r117 =>
(shift (nth r108.2.1 3) 1).bind fun p118 =>
(aStore st.stk.length 1 p118 r117.1 r117.2).bind fun st119 =>
some (Ex.normal, [(nth r108.2.1 2), (nth r108.2.1 3)], st119)
else
some (Ex.normal, [(nth r108.2.1 2), (nth r108.2.1 3)], r113.2)).bind fun r116 =>
some (r116.1, [(nth r116.2.1 0), (nth r116.2.1 1)], r116.2.2)
else
(aBin Try.prog true .eql 3 (nth r108.2.1 4) (PV.v (.int .i64 10))).bind fun p120 =>
onBool p120 fun b121 => (bif b121 then
(aBin Try.prog true .sub 3 (nth r108.2.1 1) (PV.v (.int .i64 1))).bind fun p123 =>
(call (.func 25) [canon (nth r108.2.1 0), canon p123] r108.2.2).bind fun r124 =>
(shift (nth r108.2.1 3) 54).bind fun p125 =>
(aStore st.stk.length 1 p125 r124.1 r124.2).bind fun st126 =>
some (Ex.normal, [(nth r108.2.1 2), (nth r108.2.1 3)], st126)
else
(aBin Try.prog true .eql 3 (nth r108.2.1 4) (PV.v (.int .i64 11))).bind fun p127 =>
onBool p127 fun b128 => (bif b128 then
(call (.func 23) [canon (nth r108.2.1 0)] r108.2.2).bind fun r130 =>
(shift (nth r108.2.1 3) 1).bind fun p131 =>
(aStore st.stk.length 1 p131 r130.1 r130.2).bind fun st132 =>
(call (.func 22) [canon (nth r108.2.1 0), canon (PV.v (.int .i64 3))] st132).bind fun r133 =>
(it (S44.b0 call it st.stk.length st.lp.length) [(nth r108.2.1 0), (nth r108.2.1 2), (nth r108.2.1 3), r133.1] r133.2).bind fun r134 =>
some ((Ex.outOf 1 r134.1), [(nth r134.2.1 1), (nth r134.2.1 2)], r134.2.2)
else
some (Ex.normal, [(nth r108.2.1 2), (nth r108.2.1 3)], r108.2.2)).bind fun r129 =>
some (r129.1, [(nth r129.2.1 0), (nth r129.2.1 1)], r129.2.2)).bind fun r122 =>
some (r122.1, [(nth r122.2.1 0), (nth r122.2.1 1)], r122.2.2)).bind fun r112 =>
some (r112.1, [(nth r112.2.1 0), (nth r112.2.1 1)], r112.2.2)) fun x110 =>
some (x110, [(nth r108.2.1 2), (nth r108.2.1 3)], r108.2.2)).bind fun r90 =>
some (r90.1, [(nth r90.2.1 0), (nth r90.2.1 1)], r90.2.2)).bind fun r72 =>
some (r72.1, [(nth r72.2.1 0), (nth r72.2.1 1)], r72.2.2)).bind fun r66 =>
some (r66.1, [(nth r66.2.1 0), (nth r66.2.1 1)], r66.2.2)).bind fun r57 =>
some (r57.1, [(nth r57.2.1 0), (nth r57.2.1 1)], r57.2.2)).bind fun r48 =>
seqK (Ex.outOf 0 r48.1) ((aLoad true 58 (nth r48.2.1 1) r48.2.2).bind fun p152 =>
(aStore st.stk.length 58 (nth r48.2.1 0) p152 r48.2.2).bind fun st153 =>
(aLoad true 58 (nth r48.2.1 0) st153).bind fun p154 =>
fin st.stk.length st.tk.length st.lp.length [p154] st153) fun x151 =>
retK x151 ((aLoad true 58 (nth r48.2.1 0) r48.2.2).bind fun p155 =>
fin st.stk.length st.tk.length st.lp.length [p155] r48.2.2)) fun x46 =>
seqK (Ex.outOf 0 x46) ((aLoad true 58 (nth r41.2.1 3) r41.2.2).bind fun p157 =>
(aStore st.stk.length 58 (nth r41.2.1 2) p157 r41.2.2).bind fun st158 =>
(aLoad true 58 (nth r41.2.1 2) st158).bind fun p159 =>
fin st.stk.length st.tk.length st.lp.length [p159] st158) fun x156 =>
retK x156 ((aLoad true 58 (nth r41.2.1 2) r41.2.2).bind fun p160 =>
fin st.stk.length st.tk.length st.lp.length [p160] r41.2.2)) fun x34 =>
retK x34 ((aLoad true 58 (nth r33.2.1 2) r33.2.2).bind fun p161 =>
fin st.stk.length st.tk.length st.lp.length [p161] r33.2.2)
theorem S44_eq (a0 a1 : PV) (st : St) : E L (.func 44) [a0, a1] st = S44 (E L) itE a0 a1 st := (E_func' (by rfl) Try.func44 _ _).trans (by kernel_rfl)
noncomputable def S25.b0 (call : CallF) (it : LoopF) (base lb : Nat) (vs3 : List PV) (st4 : St) : Option (Ex × List PV × St) :=
(aBin Try.prog true .gtr 3 (nth vs3 3) (PV.v (.int .i64 0))).bind fun p5 =>
(onG p5 true (
some ((nth vs3 0), st4)) st4).bind fun r7 =>
(onG p5 true (
(aNilCheck r7.1).bind fun p10 =>
some (p10, r7.2)) r7.2).bind fun r9 =>
(onG p5 true (
(shift r9.1 2).bind fun p13 =>
some (p13, r9.2)) r9.2).bind fun r12 =>
(onG p5 true (
(aLoad false 1 r12.1 r12.2).bind fun p16 =>
some (p16, r12.2)) r12.2).bind fun r15 =>
(onG p5 true (
(aBin Try.prog true .gtr 3 r15.1 (PV.v (.int .i64 0))).bind fun p19 =>
some (p19, r15.2)) r15.2).bind fun r18 =>
(aPick p5 r18.1 (PV.v (.bool false))).bind fun p20 =>
onBool p20 fun b21 => (bif b21 then
some (Ex.normal, [(nth vs3 0), (nth vs3 1), (nth vs3 2), (nth vs3 3)], r18.2)
else
some ((Ex.exit 0), [(nth vs3 0), (nth vs3 1), (nth vs3 2), (nth vs3 3)], r18.2)).bind fun r22 =>
seqK r22.1 ((aNilCheck (nth r22.2.1 0)).bind fun p24 =>
(shift p24 2).bind fun p25 =>
(aLoad false 1 p25 r22.2.2).bind fun p26 =>
(aBin Try.prog true .sub 3 p26 (PV.v (.int .i64 1))).bind fun p27 =>
(aNilCheck (nth r22.2.1 0)).bind fun p28 =>
(shift p28 2).bind fun p29 =>
(aStore base 1 p29 p27 r22.2.2).bind fun st30 =>
(call (.func 44) [canon (nth r22.2.1 0), canon (nth r22.2.1 1)] st30).bind fun r31 =>
(rBuildSlice 58 [.v (.int .i64 0), .v (.string ⟨#[]⟩), .v (.int .i64 0), .v (.int .i64 0), .v (.int .i64 0), .v (.int .u64 0), .v (.int .i64 0), .v (.string ⟨#[]⟩), .v (.string ⟨#[]⟩), .sl [] .nil, .v (.int .i64 0), .v (.int .i64 0), .v (.int .i64 0), .v (.string ⟨#[]⟩), .v (.string ⟨#[]⟩), .v (.int .i64 0), .v (.int .i64 0), .v (.int .u64 0), .v (.int .i64 0), .v (.string ⟨#[]⟩), .v (.string ⟨#[]⟩), .sl [] .nil, .v (.int .i64 0), .v (.int .i64 0), .v (.int .i64 0), .v (.int .i64 0), .v (.string ⟨#[]⟩), .v (.int .i64 0), .v (.int .i64 0), .v (.int .i64 0), .v (.string ⟨#[]⟩), .v (.string ⟨#[]⟩), .v (.int .i64 0), .v (.int .i64 0), .v (.int .u64 0), .v (.int .i64 0), .v (.string ⟨#[]⟩), .v (.string ⟨#[]⟩), .sl [] .nil, .v (.int .i64 0), .v (.int .i64 0), .v (.int .i64 0), .v (.int .i64 0), .v (.int .i64 0), .v (.int .i64 0), .v (.int .u64 0), .v (.int .i64 0), .v (.string ⟨#[]⟩), .v (.string ⟨#[]⟩), .sl [] .nil, .v (.int .i64 0), .v (.int .i64 0), .v (.int .i64 0), .sl [] .nil, .sl [] .nil, .sl [] .nil, .v (.int .i64 0), .v (.int .i64 0)] 1 [(0, r31.1)]).bind fun p32 =>
(elemsOf r31.2 p32).bind fun ys33 =>
(rAppend base [.v (.int .i64 0), .v (.string ⟨#[]⟩), .v (.int .i64 0), .v (.int .i64 0), .v (.int .i64 0), .v (.int .u64 0), .v (.int .i64 0), .v (.string ⟨#[]⟩), .v (.string ⟨#[]⟩), .sl [] .nil, .v (.int .i64 0), .v (.int .i64 0), .v (.int .i64 0), .v (.string ⟨#[]⟩), .v (.string ⟨#[]⟩), .v (.int .i64 0), .v (.int .i64 0), .v (.int .u64 0), .v (.int .i64 0), .v (.string ⟨#[]⟩), .v (.string ⟨#[]⟩), .sl [] .nil, .v (.int .i64 0), .v (.int .i64 0), .v (.int .i64 0), .v (.int .i64 0), .v (.string ⟨#[]⟩), .v (.int .i64 0), .v (.int .i64 0), .v (.int .i64 0), .v (.string ⟨#[]⟩), .v (.string ⟨#[]⟩), .v (.int .i64 0), .v (.int .i64 0), .v (.int .u64 0), .v (.int .i64 0), .v (.string ⟨#[]⟩), .v (.string ⟨#[]⟩), .sl [] .nil, .v (.int .i64 0), .v (.int .i64 0), .v (.int .i64 0), .v (.int .i64 0), .v (.int .i64 0), .v (.int .i64 0), .v (.int .u64 0), .v (.int .i64 0), .v (.string ⟨#[]⟩), .v (.string ⟨#[]⟩), .sl [] .nil, .v (.int .i64 0), .v (.int .i64 0), .v (.int .i64 0), .sl [] .nil, .sl [] .nil, .sl [] .nil, .v (.int .i64 0), .v (.int .i64 0)] 58 688 (nth r22.2.1 2) ys33 r31.2).bind fun r34 =>
(aBin Try.prog true .sub 3 (nth r22.2.1 3) (PV.v (.int .i64 1))).bind fun p35 =>
some (Ex.normal, [(nth r22.2.1 0), (nth r22.2.1 1), r34.1, p35], r34.2)) fun x23 =>
some (x23, [(nth r22.2.1 0), (nth r22.2.1 1), (nth r22.2.1 2), (nth r22.2.1 3)], r22.2.2)
/-- (*padlock/padlockref04.Maker).row -/
noncomputable def S25 (call : CallF) (it : LoopF) (a0 a1 : PV) (st : St) : Option (PV × St) :=
(call (.func 22) [canon a0, canon (PV.v (.int .i64 4))] st).bind fun r1 =>
(it (S25.b0 call it st.stk.length st.lp.length) [a0, a1, (PV.sl [] .nil), r1.1] r1.2).bind fun r2 =>
seqK (Ex.outOf 0 r2.1) (fin st.stk.length st.tk.length st.lp.length [(nth r2.2.1 2)] r2.2.2) fun x36 =>
retK x36 (fin st.stk.length st.tk.length st.lp.length [PV.u] r2.2.2)
theorem S25_eq (a0 a1 : PV) (st : St) : E L (.func 25) [a0, a1] st = S25 (E L) itE a0 a1 st := (E_func' (by rfl) Try.func25 _ _).trans (by kernel_rfl)
noncomputable def S8.b0 (call : CallF) (it : LoopF) (base lb : Nat) (vs11 : List PV) (st12 : St) : Option (Ex × List PV × St) :=
(aBin Try.prog true .gtr 3 (nth vs11 3) (PV.v (.int .i64 0))).bind fun p13 =>
onBool p13 fun b14 => (bif b14 then
some (Ex.normal, [(nth vs11 0), (nth vs11 1), (nth vs11 2), (nth vs11 3)], st12)
else
some ((Ex.exit 0), [(nth vs11 0), (nth vs11 1), (nth vs11 2), (nth vs11 3)], st12)).bind fun r15 =>
seqK r15.1 ((shift (nth r15.2.1 2) 0).bind fun p17 =>
(aLoad false 1 p17 r15.2.2).bind fun p18 =>
need (r15.2.2 = r15.2.2) <|
(call (.func 23) [canon (nth r15.2.1 1)] r15.2.2).bind fun r19 =>
need (((aLoad false 1 p17 r19.2).bind fun p20 =>
some (p20, r19.2)) = some (p18, r19.2)) <|
(call (.func 24) [canon (nth r15.2.1 1), canon (PV.v (.int .i64 3))] r19.2).bind fun r21 =>
need (((aLoad false 1 p17 r21.2).bind fun p22 =>
some (p22, r21.2)) = some (p18, r21.2)) <|
(rBuild [(0, 1), (1, 1), (2, 1), (3, 1)] [.v (.string ⟨#[]⟩), .sl [] .nil, .v (.int .i64 0), .v (.int .i64 0)] [(0, r19.1), (1, r21.1)]).bind fun p23 =>
(rBuildSlice 4 [.v (.string ⟨#[]⟩), .sl [] .nil, .v (.int .i64 0), .v (.int .i64 0)] 1 [(0, p23)]).bind fun p24 =>
(elemsOf r21.2 p24).bind fun ys25 =>
(rAppend base [.v (.string ⟨#[]⟩), .sl [] .nil, .v (.int .i64 0), .v (.int .i64 0)] 4 56 p18 ys25 r21.2).bind fun r26 =>
(shift (nth r15.2.1 2) 0).bind fun p27 =>
(aStore base 1 p27 r26.1 r26.2).bind fun st28 =>
(aBin Try.prog true .sub 3 (nth r15.2.1 3) (PV.v (.int .i64 1))).bind fun p29 =>
some (Ex.normal, [(nth r15.2.1 0), (nth r15.2.1 1), (nth r15.2.1 2), p29], st28)) fun x16 =>
some (x16, [(nth r15.2.1 0), (nth r15.2.1 1), (nth r15.2.1 2), (nth r15.2.1 3)], r15.2.2)
noncomputable def S8.b1 (call : CallF) (it : LoopF) (base lb : Nat) (vs36 : List PV) (st37 : St) : Option (Ex × List PV × St) :=
(aBin Try.prog true .gtr 3 (nth vs36 3) (PV.v (.int .i64 0))).bind fun p38 =>
onBool p38 fun b39 => (bif b39 then
some (Ex.normal, [(nth vs36 0), (nth vs36 1), (nth vs36 2), (nth vs36 3)], st37)
else
some ((Ex.exit 2), [(nth vs36 0), (nth vs36 1), (nth vs36 2), (nth vs36 3)], st37)).bind fun r40 =>
seqK r40.1 ((shift (nth r40.2.1 2) 2).bind fun p42 =>
(aLoad false 1 p42 r40.2.2).bind fun p43 =>
need (r40.2.2 = r40.2.2) <|
(call (.func 23) [canon (nth r40.2.1 1)] r40.2.2).bind fun r44 =>
need (((aLoad false 1 p42 r44.2).bind fun p45 =>
some (p45, r44.2)) = some (p43, r44.2)) <|
(call (.func 24) [canon (nth r40.2.1 1), canon (PV.v (.int .i64 3))] r44.2).bind fun r46 =>
need (((aLoad false 1 p42 r46.2).bind fun p47 =>
some (p47, r46.2)) = some (p43, r46.2)) <|
(call (.func 25) [canon (nth r40.2.1 1), canon (PV.v (.int .i64 2))] r46.2).bind fun r48 =>
need (((aLoad false 1 p42 r48.2).bind fun p49 =>
some (p49, r48.2)) = some (p43, r48.2)) <|
(rBuild [(0, 1), (1, 1), (2, 1), (3, 1), (4, 1)] [.v (.string ⟨#[]⟩), .sl [] .nil, .sl [] .nil, .v (.int .i64 0), .v (.int .i64 0)] [(0, r44.1), (1, r46.1), (2, r48.1)]).bind fun p50 =>
(rBuildSlice 5 [.v (.string ⟨#[]⟩), .sl [] .nil, .sl [] .nil, .v (.int .i64 0), .v (.int .i64 0)] 1 [(0, p50)]).bind fun p51 =>
(elemsOf r48.2 p51).bind fun ys52 =>
(rAppend base [.v (.string ⟨#[]⟩), .sl [] .nil, .sl [] .nil, .v (.int .i64 0), .v (.int .i64 0)] 5 80 p43 ys52 r48.2).bind fun r53 =>
(shift (nth r40.2.1 2) 2).bind fun p54 =>
(aStore base 1 p54 r53.1 r53.2).bind fun st55 =>
(aBin Try.prog true .sub 3 (nth r40.2.1 3) (PV.v (.int .i64 1))).bind fun p56 =>
some (Ex.normal, [(nth r40.2.1 0), (nth r40.2.1 1), (nth r40.2.1 2), p56], st55)) fun x41 =>
some (x41, [(nth r40.2.1 0), (nth r40.2.1 1), (nth r40.2.1 2), (nth r40.2.1 3)], r40.2.2)
noncomputable def S8.b2 (call : CallF) (it : LoopF) (base lb : Nat) (vs60 : List PV) (st61 : St) : Option (Ex × List PV × St) :=
(aBin Try.prog true .gtr 3 (nth vs60 3) (PV.v (.int .i64 0))).bind fun p62 =>
onBool p62 fun b63 => (bif b63 then
some (Ex.normal, [(nth vs60 0), (nth vs60 1), (nth vs60 2), (nth vs60 3)], st61)
else
some ((Ex.exit 4), [(nth vs60 0), (nth vs60 1), (nth vs60 2), (nth vs60 3)], st61)).bind fun r64 =>
seqK r64.1 ((shift (nth r64.2.1 2) 3).bind fun p66 =>
(aLoad false 1 p66 r64.2.2).bind fun p67 =>
need (r64.2.2 = r64.2.2) <|
(call (.func 25) [canon (nth r64.2.1 1), canon (PV.v (.int .i64 3))] r64.2.2).bind fun r68 =>
need (((aLoad false 1 p66 r68.2).bind fun p69 =>
some (p69, r68.2)) = some (p67, r68.2)) <|
(rBuild [(0, 1), (1, 1), (2, 1)] [.sl [] .nil, .v (.int .i64 0), .v (.int .i64 0)] [(0, r68.1)]).bind fun p70 =>
(rBuildSlice 3 [.sl [] .nil, .v (.int .i64 0), .v (.int .i64 0)] 1 [(0, p70)]).bind fun p71 =>
(elemsOf r68.2 p71).bind fun ys72 =>
(rAppend base [.sl [] .nil, .v (.int .i64 0), .v (.int .i64 0)] 3 40 p67 ys72 r68.2).bind fun r73 =>
(shift (nth r64.2.1 2) 3).bind fun p74 =>
(aStore base 1 p74 r73.1 r73.2).bind fun st75 =>
(aBin Try.prog true .sub 3 (nth r64.2.1 3) (PV.v (.int .i64 1))).bind fun p76 =>
some (Ex.normal, [(nth r64.2.1 0), (nth r64.2.1 1), (nth r64.2.1 2), p76], st75)) fun x65 =>
some (x65, [(nth r64.2.1 0), (nth r64.2.1 1), (nth r64.2.1 2), (nth r64.2.1 3)], r64.2.2)
/-- padlock/padlockref04.Make -/
noncomputable def S8 (call : CallF) (it : LoopF) (a0 : PV) (st : St) : Option (PV × St) :=
let q2 : PV := .ptr false st.stk.length 0
let st1 := st.push [.sl [] .nil, .sl [] .nil, .sl [] .nil, .sl [] .nil]
(rBuild [(0, 1), (1, 1), (2, 1)] [.sl [] .nil, .v (.int .i64 0), .v (.int .i64 0)] [(0, a0), (2, (PV.v (.int .i64 60)))]).bind fun p3 =>
(cellsOf p3).bind fun b4 =>
let q6 : PV := .ptr false st1.stk.length 0
let st5 := st1.push b4
let q8 : PV := .ptr false st5.stk.length 0
let st7 := st5.push [.sl [] .nil, .sl [] .nil, .sl [] .nil, .sl [] .nil]
(call (.func 22) [canon q6, canon (PV.v (.int .i64 3))] st7).bind fun r9 =>
(it (S8.b0 call it st.stk.length st.lp.length) [q2, q6, q8, r9.1] r9.2).bind fun r10 =>
seqK (Ex.outOf 0 r10.1) ((call (.func 24) [canon (nth r10.2.1 1), canon (PV.v (.int .i64 4))] r10.2.2).bind fun r31 =>
(shift (nth r10.2.1 2) 1).bind fun p32 =>
(aStore st.stk.length 1 p32 r31.1 r31.2).bind fun st33 =>
(call (.func 22) [canon (nth r10.2.1 1), canon (PV.v (.int .i64 3))] st33).bind fun r34 =>
(it (S8.b1 call it st.stk.length st.lp.length) [(nth r10.2.1 0), (nth r10.2.1 1), (nth r10.2.1 2), r34.1] r34.2).bind fun r35 =>
seqK (Ex.outOf 2 r35.1) ((call (.func 22) [canon (nth r35.2.1 1), canon (PV.v (.int .i64 4))] r35.2.2).bind fun r58 =>
(it (S8.b2 call it st.stk.length st.lp.length) [(nth r35.2.1 0), (nth r35.2.1 1), (nth r35.2.1 2), r58.1] r58.2).bind fun r59 =>
seqK (Ex.outOf 4 r59.1) ((aLoad true 4 (nth r59.2.1 2) r59.2.2).bind fun p78 =>
(aStore st.stk.length 4 (nth r59.2.1 0) p78 r59.2.2).bind fun st79 =>
(aLoad true 4 (nth r59.2.1 0) st79).bind fun p80 =>
fin st.stk.length st.tk.length st.lp.length [p80] st79) fun x77 =>
retK x77 ((aLoad true 4 (nth r59.2.1 0) r59.2.2).bind fun p81 =>
fin st.stk.length st.tk.length st.lp.length [p81] r59.2.2)) fun x57 =>
retK x57 ((aLoad true 4 (nth r35.2.1 0) r35.2.2).bind fun p82 =>
fin st.stk.length st.tk.length st.lp.length [p82] r35.2.2)) fun x30 =>
retK x30 ((aLoad true 4 (nth r10.2.1 0) r10.2.2).bind fun p83 =>
fin st.stk.length st.tk.length st.lp.length [p83] r10.2.2)
theorem S8_eq (a0 : PV) (st : St) : E L (.func 8) [a0] st = S8 (E L) itE a0 st := (E_func' (by rfl) Try.func8 _ _).trans (by kernel_rfl)
noncomputable def S13.b0 (call : CallF) (it : LoopF) (base lb : Nat) (vs9 : List PV) (st10 : St) : Option (Ex × List PV × St) :=
(aBin Try.prog false .lss 3 (nth vs9 4) (nth vs9 3)).bind fun p11 =>
onBool p11 fun b12 => (bif b12 then
some (Ex.normal, [(nth vs9 0), (nth vs9 1), (nth vs9 2), (nth vs9 3), (nth vs9 4)], st10)
else
some ((Ex.exit 0), [(nth vs9 0), (nth vs9 1), (nth vs9 2), (nth vs9 3), (nth vs9 4)], st10)).bind fun r13 =>
seqK r13.1 ((aIndexAddr Try.prog 47 (nth r13.2.1 0) (nth r13.2.1 4)).bind fun p15 =>
(aLoad false 1 p15 r13.2.2).bind fun p16 =>
need (r13.2.2 = r13.2.2) <|
(aIndexAddr Try.prog 47 (nth r13.2.1 1) (nth r13.2.1 4)).bind fun p17 =>
(aLoad false 1 p17 r13.2.2).bind fun p18 =>
need (r13.2.2 = r13.2.2) <|
(aBin Try.prog false .neq 9 p16 p18).bind fun p19 =>
onBool p19 fun b20 => (bif b20 then
some (Ex.ret, [(nth r13.2.1 0), (nth r13.2.1 1), (PV.v (.bool false)), (nth r13.2.1 3), (nth r13.2.1 4)], r13.2.2)
else
some (Ex.normal, [(nth r13.2.1 0), (nth r13.2.1 1), (nth r13.2.1 2), (nth r13.2.1 3), (nth r13.2.1 4)], r13.2.2)).bind fun r21 =>
seqK (Ex.outOf 1 r21.1) ((aBin Try.prog true .add 3 (nth r21.2.1 4) (PV.v (.int .i64 1))).bind fun p23 =>
some (Ex.normal, [(nth r21.2.1 0), (nth r21.2.1 1), (nth r21.2.1 2), (nth r21.2.1 3), p23], r21.2.2)) fun x22 =>
some (x22, [(nth r21.2.1 0), (nth r21.2.1 1), (nth r21.2.1 2), (nth r21.2.1 3), (nth r21.2.1 4)], r21.2.2)) fun x14 =>
some (x14, [(nth r13.2.1 0), (nth r13.2.1 1), (nth r13.2.1 2), (nth r13.2.1 3), (nth r13.2.1 4)], r13.2.2)
/-- padlock/padlockref04.Same -/
noncomputable def S13 (call : CallF) (it : LoopF) (a0 a1 : PV) (st : St) : Option (PV × St) :=
(aLen Try.prog 47 a0).bind fun p1 =>
(aLen Try.prog 47 a1).bind fun p2 =>
(aBin Try.prog false .neq 3 p1 p2).bind fun p3 =>
onBool p3 fun b4 => (bif b4 then
some (Ex.ret, [a0, a1, (PV.v (.bool false))], st)
else
some (Ex.normal, [a0, a1, (PV.v (.bool false))], st)).bind fun r5 =>
seqK r5.1 ((aLen Try.prog 47 (nth r5.2.1 0)).bind fun p7 =>
(it (S13.b0 call it st.stk.length st.lp.length) [(nth r5.2.1 0), (nth r5.2.1 1), (nth r5.2.1 2), p7, (PV.v (.int .i64 0))] r5.2.2).bind fun r8 =>
seqK (Ex.outOf 0 r8.1) (fin st.stk.length st.tk.length st.lp.length [(PV.v (.bool true))] r8.2.2) fun x24 =>
retK x24 (fin st.stk.length st.tk.length st.lp.length [(nth r8.2.1 2)] r8.2.2)) fun x6 =>
retK x6 (fin st.stk.length st.tk.length st.lp.length [(nth r5.2.1 2)] r5.2.2)
theorem S13_eq (a0 a1 : PV) (st : St) : E L (.func 13) [a0, a1] st = S13 (E L) itE a0 a1 st := (E_func' (by rfl) Try.func13 _ _).trans (by kernel_rfl)
/-- padlock/padlockref04.text -/
noncomputable def S37 (call : CallF) (it : LoopF) (a0 : PV) (st : St) : Option (PV × St) :=
(aConv Try.prog 3 38 a0).bind fun p1 =>
(aConv Try.prog 38 5 p1).bind fun p2 =>
(aBin Try.prog true .shr 38 p1 (PV.v (.int .u64 8))).bind fun p3 =>
(aConv Try.prog 38 5 p3).bind fun p4 =>
(aBin Try.prog true .shr 38 p1 (PV.v (.int .u64 16))).bind fun p5 =>
(aConv Try.prog 38 5 p5).bind fun p6 =>
(aBin Try.prog true .shr 38 p1 (PV.v (.int .u64 24))).bind fun p7 =>
(aConv Try.prog 38 5 p7).bind fun p8 =>
(aBin Try.prog true .shr 38 p1 (PV.v (.int .u64 32))).bind fun p9 =>
(aConv Try.prog 38 5 p9).bind fun p10 =>
(aBin Try.prog true .shr 38 p1 (PV.v (.int .u64 40))).bind fun p11 =>
(aConv Try.prog 38 5 p11).bind fun p12 =>
(aBin Try.prog true .shr 38 p1 (PV.v (.int .u64 48))).bind fun p13 =>
(aConv Try.prog 38 5 p13).bind fun p14 =>
(aBin Try.prog true .shr 38 p1 (PV.v (.int .u64 56))).bind fun p15 =>
(aConv Try.prog 38 5 p15).bind fun p16 =>
(rBuildSlice 1 [.v (.int .u8 0)] 8 [(0, p2), (1, p4), (2, p6), (3, p8), (4, p10), (5, p12), (6, p14), (7, p16)]).bind fun p17 =>
(aConv Try.prog 103 9 p17).bind fun p18 =>
fin st.stk.length st.tk.length st.lp.length [p18] st
theorem S37_eq (a0 : PV) (st : St) : E L (.func 37) [a0] st = S37 (E L) itE a0 st := (E_func' (by rfl) Try.func37 _ _).trans (by kernel_rfl)
noncomputable def S17.b0 (call : CallF) (it : LoopF) (base lb : Nat) (vs32 : List PV) (st33 : St) : Option (Ex × List PV × St) :=
(aBin Try.prog false .lss 3 (nth vs32 3) (nth vs32 2)).bind fun p34 =>
onBool p34 fun b35 => (bif b35 then
some (Ex.normal, [(nth vs32 0), (nth vs32 1), (nth vs32 2), (nth vs32 3)], st33)
else
some ((Ex.exit 0), [(nth vs32 0), (nth vs32 1), (nth vs32 2), (nth vs32 3)], st33)).bind fun r36 =>
seqK r36.1 ((aIndexAddr Try.prog 41 (nth r36.2.1 1) (nth r36.2.1 3)).bind fun p38 =>
(aLoad true 9 p38 r36.2.2).bind fun p39 =>
let q41 : PV := .ptr false r36.2.2.stk.length 0
let st40 := r36.2.2.push [.v (.int .i64 0), .v (.int .i64 0), .v (.int .u64 0), .v (.int .i64 0), .v (.string ⟨#[]⟩), .v (.string ⟨#[]⟩), .sl [] .nil, .v (.int .i64 0), .v (.int .i64 0)]
(aStore base 9 q41 p39 st40).bind fun st42 =>
(aLoad true 9 q41 st42).bind fun p43 =>
(call (.func 17) [canon p43] st42).bind fun r44 =>
(elemsOf r44.2 r44.1).bind fun ys45 =>
(rAppend base [.v (.string ⟨#[]⟩)] 1 16 (nth r36.2.1 0) ys45 r44.2).bind fun r46 =>
(aBin Try.prog true .add 3 (nth r36.2.1 3) (PV.v (.int .i64 1))).bind fun p47 =>
leaveV base lb st33.stk.length Ex.normal [r46.1, (nth r36.2.1 1), (nth r36.2.1 2), p47] r46.2) fun x37 =>
leaveV base lb st33.stk.length x37 [(nth r36.2.1 0), (nth r36.2.1 1), (nth r36.2.1 2), (nth r36.2.1 3)] r36.2.2
/-- padlock/padlockref04.Expr -/
noncomputable def S17 (call : CallF) (it : LoopF) (a0 : PV) (st : St) : Option (PV × St) :=
(cellsOf a0).bind fun b1 =>
let q3 : PV := .ptr false st.stk.length 0
let st2 := st.push b1
(shift q3 0).bind fun p4 =>
(aLoad false 1 p4 st2).bind fun p5 =>
need (st2 = st2) <|
(call (.func 37) [canon p5] st2).bind fun r6 =>
need (r6.2 = st2) <|
(shift q3 1).bind fun p7 =>
(aLoad false 1 p7 st2).bind fun p8 =>
need (st2 = st2) <|
(call (.func 37) [canon p8] st2).bind fun r9 =>
need (r9.2 = st2) <|
(shift q3 2).bind fun p10 =>
(aLoad false 1 p10 st2).bind fun p11 =>
need (st2 = st2) <|
(aConv Try.prog 38 3 p11).bind fun p12 =>
(call (.func 37) [canon p12] st2).bind fun r13 =>
need (r13.2 = st2) <|
(shift q3 3).bind fun p14 =>
(shift p14 0).bind fun p15 =>
(aLoad false 1 p15 st2).bind fun p16 =>
need (st2 = st2) <|
(call (.func 37) [canon p16] st2).bind fun r17 =>
need (r17.2 = st2) <|
(shift q3 3).bind fun p18 =>
(shift p18 1).bind fun p19 =>
(aLoad false 1 p19 st2).bind fun p20 =>
need (st2 = st2) <|
(shift q3 5).bind fun p21 =>
(aLoad false 1 p21 st2).bind fun p22 =>
need (st2 = st2) <|
(shift q3 6).bind fun p23 =>
(aLoad false 1 p23 st2).bind fun p24 =>
need (st2 = st2) <|
(aLen Try.prog 41 p24).bind fun p25 =>
(call (.func 37) [canon p25] st2).bind fun r26 =>
need (r26.2 = st2) <|
(rBuildSlice 1 [.v (.string ⟨#[]⟩)] 8 [(0, (PV.v (.string ⟨#[101, 120, 112, 114]⟩))), (1, r6.1), (2, r9.1), (3, r13.1), (4, r17.1), (5, p20), (6, p22), (7, r26.1)]).bind fun p27 =>
(shift q3 6).bind fun p28 =>
(aLoad false 1 p28 st2).bind fun p29 =>
(aLen Try.prog 41 p29).bind fun p30 =>
(it (S17.b0 call it st.stk.length st.lp.length) [p27, p29, p30, (PV.v (.int .i64 0))] st2).bind fun r31 =>
seqK (Ex.outOf 0 r31.1) (fin st.stk.length st.tk.length st.lp.length [(nth r31.2.1 0)] r31.2.2) fun x48 =>
retK x48 (fin st.stk.length st.tk.length st.lp.length [PV.u] r31.2.2)
theorem S17_eq (a0 : PV) (st : St) : E L (.func 17) [a0] st = S17 (E L) itE a0 st := (E_func' (by rfl) Try.func17 _ _).trans (by kernel_rfl)
/-- padlock/padlockref04.place -/
noncomputable def S39 (call : CallF) (it : LoopF) (a0 : PV) (st : St) : Option (PV × St) :=
(cellsOf a0).bind fun b1 =>
let q3 : PV := .ptr false st.stk.length 0
let st2 := st.push b1
(shift q3 0).bind fun p4 =>
(aLoad false 1 p4 st2).bind fun p5 =>
need (st2 = st2) <|
(call (.func 37) [canon p5] st2).bind fun r6 =>
need (r6.2 = st2) <|
(shift q3 1).bind fun p7 =>
(aLoad false 1 p7 st2).bind fun p8 =>
need (st2 = st2) <|
(shift q3 2).bind fun p9 =>
(aLoad false 1 p9 st2).bind fun p10 =>
need (st2 = st2) <|
(rBuildSlice 1 [.v (.string ⟨#[]⟩)] 4 [(0, (PV.v (.string ⟨#[112, 108, 97, 99, 101]⟩))), (1, r6.1), (2, p8), (3, p10)]).bind fun p11 =>
(shift q3 3).bind fun p12 =>
(aLoad true 9 p12 st2).bind fun p13 =>
need (st2 = st2) <|
(call (.func 17) [canon p13] st2).bind fun r14 =>
need (r14.2 = st2) <|
(elemsOf st2 r14.1).bind fun ys15 =>
(rAppend st.stk.length [.v (.string ⟨#[]⟩)] 1 16 p11 ys15 st2).bind fun r16 =>
fin st.stk.length st.tk.length st.lp.length [r16.1] r16.2
theorem S39_eq (a0 : PV) (st : St) : E L (.func 39) [a0] st = S39 (E L) itE a0 st := (E_func' (by rfl) Try.func39 _ _).trans (by kernel_rfl)
noncomputable def S15.b1 (call : CallF) (it : LoopF) (base lb : Nat) (vs65 : List PV) (st66 : St) : Option (Ex × List PV × St) :=
(aBin Try.prog false .lss 3 (nth vs65 7) (nth vs65 6)).bind fun p67 =>
onBool p67 fun b68 => (bif b68 then
some (Ex.normal, [(nth vs65 0), (nth vs65 1), (nth vs65 2), (nth vs65 3), (nth vs65 4), (nth vs65 5), (nth vs65 6), (nth vs65 7)], st66)
else
some ((Ex.exit 2), [(nth vs65 0), (nth vs65 1), (nth vs65 2), (nth vs65 3), (nth vs65 4), (nth vs65 5), (nth vs65 6), (nth vs65 7)], st66)).bind fun r69 =>
seqK r69.1 ((aIndexAddr Try.prog 41 (nth r69.2.1 5) (nth r69.2.1 7)).bind fun p71 =>
(aLoad true 9 p71 r69.2.2).bind fun p72 =>
let q74 : PV := .ptr false r69.2.2.stk.length 0
let st73 := r69.2.2.push [.v (.int .i64 0), .v (.int .i64 0), .v (.int .u64 0), .v (.int .i64 0), .v (.string ⟨#[]⟩), .v (.string ⟨#[]⟩), .sl [] .nil, .v (.int .i64 0), .v (.int .i64 0)]
(aStore base 9 q74 p72 st73).bind fun st75 =>
(aLoad true 9 q74 st75).bind fun p76 =>
(call (.func 17) [canon p76] st75).bind fun r77 =>
(elemsOf r77.2 r77.1).bind fun ys78 =>
(rAppend base [.v (.string ⟨#[]⟩)] 1 16 (nth r69.2.1 0) ys78 r77.2).bind fun r79 =>
(aBin Try.prog true .add 3 (nth r69.2.1 7) (PV.v (.int .i64 1))).bind fun p80 =>
leaveV base lb st66.stk.length Ex.normal [r79.1, (nth r69.2.1 1), (nth r69.2.1 2), (nth r69.2.1 3), (nth r69.2.1 4), (nth r69.2.1 5), (nth r69.2.1 6), p80] r79.2) fun x70 =>
leaveV base lb st66.stk.length x70 [(nth r69.2.1 0), (nth r69.2.1 1), (nth r69.2.1 2), (nth r69.2.1 3), (nth r69.2.1 4), (nth r69.2.1 5), (nth r69.2.1 6), (nth r69.2.1 7)] r69.2.2
noncomputable def S15.b0 (call : CallF) (it : LoopF) (base lb : Nat) (vs6 : List PV) (st7 : St) : Option (Ex × List PV × St) :=
(aBin Try.prog false .lss 3 (nth vs6 3) (nth vs6 2)).bind fun p8 =>
onBool p8 fun b9 => (bif b9 then
some (Ex.normal, [(nth vs6 0), (nth vs6 1), (nth vs6 2), (nth vs6 3)], st7)
else
some ((Ex.exit 0), [(nth vs6 0), (nth vs6 1), (nth vs6 2), (nth vs6 3)], st7)).bind fun r10 =>
seqK r10.1 ((aIndexAddr Try.prog 31 (nth r10.2.1 1) (nth r10.2.1 3)).bind fun p12 =>
(aLoad true 58 p12 r10.2.2).bind fun p13 =>
let q15 : PV := .ptr false r10.2.2.stk.length 0
let st14 := r10.2.2.push [.v (.int .i64 0), .v (.string ⟨#[]⟩), .v (.int .i64 0), .v (.int .i64 0), .v (.int .i64 0), .v (.int .u64 0), .v (.int .i64 0), .v (.string ⟨#[]⟩), .v (.string ⟨#[]⟩), .sl [] .nil, .v (.int .i64 0), .v (.int .i64 0), .v (.int .i64 0), .v (.string ⟨#[]⟩), .v (.string ⟨#[]⟩), .v (.int .i64 0), .v (.int .i64 0), .v (.int .u64 0), .v (.int .i64 0), .v (.string ⟨#[]⟩), .v (.string ⟨#[]⟩), .sl [] .nil, .v (.int .i64 0), .v (.int .i64 0), .v (.int .i64 0), .v (.int .i64 0), .v (.string ⟨#[]⟩), .v (.int .i64 0), .v (.int .i64 0), .v (.int .i64 0), .v (.string ⟨#[]⟩), .v (.string ⟨#[]⟩), .v (.int .i64 0), .v (.int .i64 0), .v (.int .u64 0), .v (.int .i64 0), .v (.string ⟨#[]⟩), .v (.string ⟨#[]⟩), .sl [] .nil, .v (.int .i64 0), .v (.int .i64 0), .v (.int .i64 0), .v (.int .i64 0), .v (.int .i64 0), .v (.int .i64 0), .v (.int .u64 0), .v (.int .i64 0), .v (.string ⟨#[]⟩), .v (.string ⟨#[]⟩), .sl [] .nil, .v (.int .i64 0), .v (.int .i64 0), .v (.int .i64 0), .sl [] .nil, .sl [] .nil, .sl [] .nil, .v (.int .i64 0), .v (.int .i64 0)]
(aStore base 58 q15 p13 st14).bind fun st16 =>
(shift q15 0).bind fun p17 =>
(aLoad false 1 p17 st16).bind fun p18 =>
need (st16 = st16) <|
(call (.func 37) [canon p18] st16).bind fun r19 =>
need (r19.2 = st16) <|
(shift q15 1).bind fun p20 =>
(aLoad false 1 p20 st16).bind fun p21 =>
need (st16 = st16) <|
(shift q15 52).bind fun p22 =>
(aLoad false 1 p22 st16).bind fun p23 =>
need (st16 = st16) <|
(call (.func 37) [canon p23] st16).bind fun r24 =>
need (r24.2 = st16) <|
(shift q15 2).bind fun p25 =>
(shift p25 0).bind fun p26 =>
(aLoad false 1 p26 st16).bind fun p27 =>
need (st16 = st16) <|
(call (.func 37) [canon p27] st16).bind fun r28 =>
need (r28.2 = st16) <|
(shift q15 2).bind fun p29 =>
(shift p29 24).bind fun p30 =>
(aLoad false 1 p30 st16).bind fun p31 =>
need (st16 = st16) <|
(shift q15 53).bind fun p32 =>
(aLoad false 1 p32 st16).bind fun p33 =>
need (st16 = st16) <|
(aLen Try.prog 41 p33).bind fun p34 =>
(call (.func 37) [canon p34] st16).bind fun r35 =>
need (r35.2 = st16) <|
(rBuildSlice 1 [.v (.string ⟨#[]⟩)] 7 [(0, (PV.v (.string ⟨#[115, 116, 109, 116]⟩))), (1, r19.1), (2, p21), (3, r24.1), (4, r28.1), (5, p31), (6, r35.1)]).bind fun p36 =>
(elemsOf st16 p36).bind fun ys37 =>
(rAppend base [.v (.string ⟨#[]⟩)] 1 16 (nth r10.2.1 0) ys37 st16).bind fun r38 =>
(shift q15 2).bind fun p39 =>
(shift p39 1).bind fun p40 =>
(aLoad true 9 p40 r38.2).bind fun p41 =>
(call (.func 17) [canon p41] r38.2).bind fun r42 =>
(elemsOf r42.2 r42.1).bind fun ys43 =>
(rAppend base [.v (.string ⟨#[]⟩)] 1 16 r38.1 ys43 r42.2).bind fun r44 =>
(shift q15 2).bind fun p45 =>
(shift p45 10).bind fun p46 =>
(aLoad true 14 p46 r44.2).bind fun p47 =>
(call (.func 39) [canon p47] r44.2).bind fun r48 =>
(elemsOf r48.2 r48.1).bind fun ys49 =>
(rAppend base [.v (.string ⟨#[]⟩)] 1 16 r44.1 ys49 r48.2).bind fun r50 =>
(shift q15 29).bind fun p51 =>
(aLoad true 14 p51 r50.2).bind fun p52 =>
(call (.func 39) [canon p52] r50.2).bind fun r53 =>
(elemsOf r53.2 r53.1).bind fun ys54 =>
(rAppend base [.v (.string ⟨#[]⟩)] 1 16 r50.1 ys54 r53.2).bind fun r55 =>
(shift q15 43).bind fun p56 =>
(aLoad true 9 p56 r55.2).bind fun p57 =>
(call (.func 17) [canon p57] r55.2).bind fun r58 =>
(elemsOf r58.2 r58.1).bind fun ys59 =>
(rAppend base [.v (.string ⟨#[]⟩)] 1 16 r55.1 ys59 r58.2).bind fun r60 =>
(shift q15 53).bind fun p61 =>
(aLoad false 1 p61 r60.2).bind fun p62 =>
(aLen Try.prog 41 p62).bind fun p63 =>
(it (S15.b1 call it base lb) [r60.1, q15, (nth r10.2.1 1), (nth r10.2.1 2), (nth r10.2.1 3), p62, p63, (PV.v (.int .i64 0))] r60.2).bind fun r64 =>
seqK (Ex.outOf 2 r64.1) ((shift (nth r64.2.1 1) 54).bind fun p82 =>
(aLoad false 1 p82 r64.2.2).bind fun p83 =>
(call (.func 15) [canon p83] r64.2.2).bind fun r84 =>
(elemsOf r84.2 r84.1).bind fun ys85 =>
(rAppend base [.v (.string ⟨#[]⟩)] 1 16 (nth r64.2.1 0) ys85 r84.2).bind fun r86 =>
(shift (nth r64.2.1 1) 55).bind fun p87 =>
(aLoad false 1 p87 r86.2).bind fun p88 =>
(call (.func 15) [canon p88] r86.2).bind fun r89 =>
(elemsOf r89.2 r89.1).bind fun ys90 =>
(rAppend base [.v (.string ⟨#[]⟩)] 1 16 r86.1 ys90 r89.2).bind fun r91 =>
(aBin Try.prog true .add 3 (nth r64.2.1 4) (PV.v (.int .i64 1))).bind fun p92 =>
leaveV base lb st7.stk.length Ex.normal [r91.1, (nth r64.2.1 2), (nth r64.2.1 3), p92] r91.2) fun x81 =>
seqK (Ex.outOf 1 x81) ((aBin Try.prog true .add 3 (nth r64.2.1 4) (PV.v (.int .i64 1))).bind fun p94 =>
leaveV base lb st7.stk.length Ex.normal [(nth r64.2.1 0), (nth r64.2.1 2), (nth r64.2.1 3), p94] r64.2.2) fun x93 =>
leaveV base lb st7.stk.length x93 [(nth r64.2.1 0), (nth r64.2.1 2), (nth r64.2.1 3), (nth r64.2.1 4)] r64.2.2) fun x11 =>
leaveV base lb st7.stk.length x11 [(nth r10.2.1 0), (nth r10.2.1 1), (nth r10.2.1 2), (nth r10.2.1 3)] r10.2.2
/-- padlock/padlockref04.Stmts -/
noncomputable def S15 (call : CallF) (it : LoopF) (a0 : PV) (st : St) : Option (PV × St) :=
(aLen Try.prog 31 a0).bind fun p1 =>
(call (.func 37) [canon p1] st).bind fun r2 =>
(rBuildSlice 1 [.v (.string ⟨#[]⟩)] 2 [(0, (PV.v (.string ⟨#[114, 111, 119]⟩))), (1, r2.1)]).bind fun p3 =>
(aLen Try.prog 31 a0).bind fun p4 =>
(it (S15.b0 call it st.stk.length st.lp.length) [p3, a0, p4, (PV.v (.int .i64 0))] r2.2).bind fun r5 =>
seqK (Ex.outOf 0 r5.1) (fin st.stk.length st.tk.length st.lp.length [(nth r5.2.1 0)] r5.2.2) fun x95 =>
retK x95 (fin st.stk.length st.tk.length st.lp.length [PV.u] r5.2.2)
theorem S15_eq (a0 : PV) (st : St) : E L (.func 15) [a0] st = S15 (E L) itE a0 st := (E_func' (by rfl) Try.func15 _ _).trans (by kernel_rfl)
noncomputable def S19.b1 (call : CallF) (it : LoopF) (base lb : Nat) (vs28 : List PV) (st29 : St) : Option (Ex × List PV × St) :=
(aBin Try.prog false .lss 3 (nth vs28 8) (nth vs28 7)).bind fun p30 =>
onBool p30 fun b31 => (bif b31 then
some (Ex.normal, [(nth vs28 0), (nth vs28 1), (nth vs28 2), (nth vs28 3), (nth vs28 4), (nth vs28 5), (nth vs28 6), (nth vs28 7), (nth vs28 8)], st29)
else
some ((Ex.exit 2), [(nth vs28 0), (nth vs28 1), (nth vs28 2), (nth vs28 3), (nth vs28 4), (nth vs28 5), (nth vs28 6), (nth vs28 7), (nth vs28 8)], st29)).bind fun r32 =>
seqK r32.1 ((aIndexAddr Try.prog 61 (nth r32.2.1 6) (nth r32.2.1 8)).bind fun p34 =>
(aLoad false 1 p34 r32.2.2).bind fun p35 =>
(aBin Try.prog true .add 3 (nth r32.2.1 0) (PV.v (.int .i64 1))).bind fun p36 =>
(call (.func 19) [canon p35, canon p36] r32.2.2).bind fun r37 =>
(aExtract r37.1 0).bind fun p38 =>
(aExtract r37.1 1).bind fun p39 =>
(elemsOf r37.2 p38).bind fun ys40 =>
(rAppend base [.v (.int .i64 0), .v (.string ⟨#[]⟩), .v (.int .i64 0), .v (.int .i64 0), .v (.int .i64 0), .v (.int .u64 0), .v (.int .i64 0), .v (.string ⟨#[]⟩), .v (.string ⟨#[]⟩), .sl [] .nil, .v (.int .i64 0), .v (.int .i64 0), .v (.int .i64 0), .v (.string ⟨#[]⟩), .v (.string ⟨#[]⟩), .v (.int .i64 0), .v (.int .i64 0), .v (.int .u64 0), .v (.int .i64 0), .v (.string ⟨#[]⟩), .v (.string ⟨#[]⟩), .sl [] .nil, .v (.int .i64 0), .v (.int .i64 0), .v (.int .i64 0), .v (.int .i64 0), .v (.string ⟨#[]⟩), .v (.int .i64 0), .v (.int .i64 0), .v (.int .i64 0), .v (.string ⟨#[]⟩), .v (.string ⟨#[]⟩), .v (.int .i64 0), .v (.int .i64 0), .v (.int .u64 0), .v (.int .i64 0), .v (.string ⟨#[]⟩), .v (.string ⟨#[]⟩), .sl [] .nil, .v (.int .i64 0), .v (.int .i64 0), .v (.int .i64 0), .v (.int .i64 0), .v (.int .i64 0), .v (.int .i64 0), .v (.int .u64 0), .v (.int .i64 0), .v (.string ⟨#[]⟩), .v (.string ⟨#[]⟩), .sl [] .nil, .v (.int .i64 0), .v (.int .i64 0), .v (.int .i64 0), .sl [] .nil, .sl [] .nil, .sl [] .nil, .v (.int .i64 0), .v (.int .i64 0)] 58 688 (nth r32.2.1 1) ys40 r37.2).bind fun r41 =>
(elemsOf r41.2 p39).bind fun ys42 =>
(rAppend base [.v (.int .i64 0)] 1 8 (nth r32.2.1 2) ys42 r41.2).bind fun r43 =>
(aBin Try.prog true .add 3 (nth r32.2.1 8) (PV.v (.int .i64 1))).bind fun p44 =>
some (Ex.normal, [(nth r32.2.1 0), r41.1, r43.1, (nth r32.2.1 3), (nth r32.2.1 4), (nth r32.2.1 5), (nth r32.2.1 6), (nth r32.2.1 7), p44], r43.2)) fun x33 =>
some (x33, [(nth r32.2.1 0), (nth r32.2.1 1), (nth r32.2.1 2), (nth r32.2.1 3), (nth r32.2.1 4), (nth r32.2.1 5), (nth r32.2.1 6), (nth r32.2.1 7), (nth r32.2.1 8)], r32.2.2)
noncomputable def S19.b0 (call : CallF) (it : LoopF) (base lb : Nat) (vs3 : List PV) (st4 : St) : Option (Ex × List PV × St) :=
(aBin Try.prog false .lss 3 (nth vs3 5) (nth vs3 4)).bind fun p5 =>
onBool p5 fun b6 => (bif b6 then
some (Ex.normal, [(nth vs3 0), (nth vs3 1), (nth vs3 2), (nth vs3 3), (nth vs3 4), (nth vs3 5)], st4)
else
some ((Ex.exit 0), [(nth vs3 0), (nth vs3 1), (nth vs3 2), (nth vs3 3), (nth vs3 4), (nth vs3 5)], st4)).bind fun r7 =>
seqK r7.1 ((aIndexAddr Try.prog 31 (nth r7.2.1 3) (nth r7.2.1 5)).bind fun p9 =>
(aLoad true 58 p9 r7.2.2).bind fun p10 =>
let q12 : PV := .ptr false r7.2.2.stk.length 0
let st11 := r7.2.2.push [.v (.int .i64 0), .v (.string ⟨#[]⟩), .v (.int .i64 0), .v (.int .i64 0), .v (.int .i64 0), .v (.int .u64 0), .v (.int .i64 0), .v (.string ⟨#[]⟩), .v (.string ⟨#[]⟩), .sl [] .nil, .v (.int .i64 0), .v (.int .i64 0), .v (.int .i64 0), .v (.string ⟨#[]⟩), .v (.string ⟨#[]⟩), .v (.int .i64 0), .v (.int .i64 0), .v (.int .u64 0), .v (.int .i64 0), .v (.string ⟨#[]⟩), .v (.string ⟨#[]⟩), .sl [] .nil, .v (.int .i64 0), .v (.int .i64 0), .v (.int .i64 0), .v (.int .i64 0), .v (.string ⟨#[]⟩), .v (.int .i64 0), .v (.int .i64 0), .v (.int .i64 0), .v (.string ⟨#[]⟩), .v (.string ⟨#[]⟩), .v (.int .i64 0), .v (.int .i64 0), .v (.int .u64 0), .v (.int .i64 0), .v (.string ⟨#[]⟩), .v (.string ⟨#[]⟩), .sl [] .nil, .v (.int .i64 0), .v (.int .i64 0), .v (.int .i64 0), .v (.int .i64 0), .v (.int .i64 0), .v (.int .i64 0), .v (.int .u64 0), .v (.int .i64 0), .v (.string ⟨#[]⟩), .v (.string ⟨#[]⟩), .sl [] .nil, .v (.int .i64 0), .v (.int .i64 0), .v (.int .i64 0), .sl [] .nil, .sl [] .nil, .sl [] .nil, .v (.int .i64 0), .v (.int .i64 0)]
(aStore base 58 q12 p10 st11).bind fun st13 =>
(aLoad true 58 q12 st13).bind fun p14 =>
(rBuildSlice 58 [.v (.int .i64 0), .v (.string ⟨#[]⟩), .v (.int .i64 0), .v (.int .i64 0), .v (.int .i64 0), .v (.int .u64 0), .v (.int .i64 0), .v (.string ⟨#[]⟩), .v (.string ⟨#[]⟩), .sl [] .nil, .v (.int .i64 0), .v (.int .i64 0), .v (.int .i64 0), .v (.string ⟨#[]⟩), .v (.string ⟨#[]⟩), .v (.int .i64 0), .v (.int .i64 0), .v (.int .u64 0), .v (.int .i64 0), .v (.string ⟨#[]⟩), .v (.string ⟨#[]⟩), .sl [] .nil, .v (.int .i64 0), .v (.int .i64 0), .v (.int .i64 0), .v (.int .i64 0), .v (.string ⟨#[]⟩), .v (.int .i64 0), .v (.int .i64 0), .v (.int .i64 0), .v (.string ⟨#[]⟩), .v (.string ⟨#[]⟩), .v (.int .i64 0), .v (.int .i64 0), .v (.int .u64 0), .v (.int .i64 0), .v (.string ⟨#[]⟩), .v (.string ⟨#[]⟩), .sl [] .nil, .v (.int .i64 0), .v (.int .i64 0), .v (.int .i64 0), .v (.int .i64 0), .v (.int .i64 0), .v (.int .i64 0), .v (.int .u64 0), .v (.int .i64 0), .v (.string ⟨#[]⟩), .v (.string ⟨#[]⟩), .sl [] .nil, .v (.int .i64 0), .v (.int .i64 0), .v (.int .i64 0), .sl [] .nil, .sl [] .nil, .sl [] .nil, .v (.int .i64 0), .v (.int .i64 0)] 1 [(0, p14)]).bind fun p15 =>
(elemsOf st13 p15).bind fun ys16 =>
(rAppend base [.v (.int .i64 0), .v (.string ⟨#[]⟩), .v (.int .i64 0), .v (.int .i64 0), .v (.int .i64 0), .v (.int .u64 0), .v (.int .i64 0), .v (.string ⟨#[]⟩), .v (.string ⟨#[]⟩), .sl [] .nil, .v (.int .i64 0), .v (.int .i64 0), .v (.int .i64 0), .v (.string ⟨#[]⟩), .v (.string ⟨#[]⟩), .v (.int .i64 0), .v (.int .i64 0), .v (.int .u64 0), .v (.int .i64 0), .v (.string ⟨#[]⟩), .v (.string ⟨#[]⟩), .sl [] .nil, .v (.int .i64 0), .v (.int .i64 0), .v (.int .i64 0), .v (.int .i64 0), .v (.string ⟨#[]⟩), .v (.int .i64 0), .v (.int .i64 0), .v (.int .i64 0), .v (.string ⟨#[]⟩), .v (.string ⟨#[]⟩), .v (.int .i64 0), .v (.int .i64 0), .v (.int .u64 0), .v (.int .i64 0), .v (.string ⟨#[]⟩), .v (.string ⟨#[]⟩), .sl [] .nil, .v (.int .i64 0), .v (.int .i64 0), .v (.int .i64 0), .v (.int .i64 0), .v (.int .i64 0), .v (.int .i64 0), .v (.int .u64 0), .v (.int .i64 0), .v (.string ⟨#[]⟩), .v (.string ⟨#[]⟩), .sl [] .nil, .v (.int .i64 0), .v (.int .i64 0), .v (.int .i64 0), .sl [] .nil, .sl [] .nil, .sl [] .nil, .v (.int .i64 0), .v (.int .i64 0)] 58 688 (nth r7.2.1 1) ys16 st13).bind fun r17 =>
(rBuildSlice 1 [.v (.int .i64 0)] 1 [(0, (nth r7.2.1 0))]).bind fun p18 =>
(elemsOf r17.2 p18).bind fun ys19 =>
(rAppend base [.v (.int .i64 0)] 1 8 (nth r7.2.1 2) ys19 r17.2).bind fun r20 =>
(shift q12 54).bind fun p21 =>
(aLoad false 1 p21 r20.2).bind fun p22 =>
(shift q12 55).bind fun p23 =>
(aLoad false 1 p23 r20.2).bind fun p24 =>
(rBuildSlice 1 [.sl [] .nil] 2 [(0, p22), (1, p24)]).bind fun p25 =>
(aLen Try.prog 61 p25).bind fun p26 =>
(it (S19.b1 call it base lb) [(nth r7.2.1 0), r17.1, r20.1, (nth r7.2.1 3), (nth r7.2.1 4), (nth r7.2.1 5), p25, p26, (PV.v (.int .i64 0))] r20.2).bind fun r27 =>
seqK (Ex.outOf 1 (Ex.outOf 2 r27.1)) ((aBin Try.prog true .add 3 (nth r27.2.1 5) (PV.v (.int .i64 1))).bind fun p46 =>
leaveV base lb st4.stk.length Ex.normal [(nth r27.2.1 0), (nth r27.2.1 1), (nth r27.2.1 2), (nth r27.2.1 3), (nth r27.2.1 4), p46] r27.2.2) fun x45 =>
leaveV base lb st4.stk.length x45 [(nth r27.2.1 0), (nth r27.2.1 1), (nth r27.2.1 2), (nth r27.2.1 3), (nth r27.2.1 4), (nth r27.2.1 5)] r27.2.2) fun x8 =>
leaveV base lb st4.stk.length x8 [(nth r7.2.1 0), (nth r7.2.1 1), (nth r7.2.1 2), (nth r7.2.1 3), (nth r7.2.1 4), (nth r7.2.1 5)] r7.2.2
/-- padlock/padlockref04.Flat -/
noncomputable def S19 (call : CallF) (it : LoopF) (a0 a1 : PV) (st : St) : Option (PV × St) :=
(aLen Try.prog 31 a0).bind fun p1 =>
(it (S19.b0 call it st.stk.length st.lp.length) [a1, (PV.sl [] .nil), (PV.sl [] .nil), a0, p1, (PV.v (.int .i64 0))] st).bind fun r2 =>
seqK (Ex.outOf 0 r2.1) (fin st.stk.length st.tk.length st.lp.length [(nth r2.2.1 1), (nth r2.2.1 2)] r2.2.2) fun x47 =>
retK x47 (fin st.stk.length st.tk.length st.lp.length [PV.u, PV.u] r2.2.2)
theorem S19_eq (a0 a1 : PV) (st : St) : E L (.func 19) [a0, a1] st = S19 (E L) itE a0 a1 st := (E_func' (by rfl) Try.func19 _ _).trans (by kernel_rfl)
end Go.Proofs.Ytkbhejcfejembaa.S
