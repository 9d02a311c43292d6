/- The seat's functions, each as a Lean function over plain values, and that the evaluator comes to it: written by my program mkS.py. No condition. -/
import Derived.Test.YtkbhejcfejembaaGS3
import Derived.KernelRfl
set_option linter.all false
namespace Go.Proofs.Ytkbhejcfejembaa.S
open Go Go.AM Go.Proofs
set_option linter.unusedVariables false
/-- padlock/tree.SameExpr -/
noncomputable def S16 (call : CallF) (it : LoopF) (a0 a1 : PV) (st : St) : Option (PV × St) :=
(cellsOf a0).bind fun b1 =>
let q3 : PV := .ptr false st.stk.length 0
let st2 := st.push b1
(cellsOf a1).bind fun b4 =>
let q6 : PV := .ptr false st2.stk.length 0
let st5 := st2.push b4
(shift q3 0).bind fun p7 =>
(aLoad false 1 p7 st5).bind fun p8 =>
(shift q6 0).bind fun p9 =>
(aLoad false 1 p9 st5).bind fun p10 =>
(aBin Try.prog false .eql 3 p8 p10).bind fun p11 =>
(onG p11 true (
(shift q3 1).bind fun p14 =>
some (p14, st5)) st5).bind fun r13 =>
(onG p11 true (
(aLoad false 1 r13.1 r13.2).bind fun p17 =>
some (p17, r13.2)) r13.2).bind fun r16 =>
(onG p11 true (
(shift q6 1).bind fun p20 =>
some (p20, r16.2)) r16.2).bind fun r19 =>
(onG p11 true (
(aLoad false 1 r19.1 r19.2).bind fun p23 =>
some (p23, r19.2)) r19.2).bind fun r22 =>
(onG p11 true (
(aBin Try.prog false .eql 3 r16.1 r22.1).bind fun p26 =>
some (p26, r22.2)) r22.2).bind fun r25 =>
(aPick p11 r25.1 (PV.v (.bool false))).bind fun p27 =>
(onG p27 true (
(shift q3 2).bind fun p30 =>
some (p30, r25.2)) r25.2).bind fun r29 =>
(onG p27 true (
(aLoad false 1 r29.1 r29.2).bind fun p33 =>
some (p33, r29.2)) r29.2).bind fun r32 =>
(onG p27 true (
(shift q6 2).bind fun p36 =>
some (p36, r32.2)) r32.2).bind fun r35 =>
(onG p27 true (
(aLoad false 1 r35.1 r35.2).bind fun p39 =>
some (p39, r35.2)) r35.2).bind fun r38 =>
(onG p27 true (
(aBin Try.prog false .eql 38 r32.1 r38.1).bind fun p42 =>
some (p42, r38.2)) r38.2).bind fun r41 =>
(aPick p27 r41.1 (PV.v (.bool false))).bind fun p43 =>
(onG p43 true (
(shift q3 3).bind fun p46 =>
some (p46, r41.2)) r41.2).bind fun r45 =>
(onG p43 true (
(aLoad true 2 r45.1 r45.2).bind fun p49 =>
some (p49, r45.2)) r45.2).bind fun r48 =>
(onG p43 true (
(shift q6 3).bind fun p52 =>
some (p52, r48.2)) r48.2).bind fun r51 =>
(onG p43 true (
(aLoad true 2 r51.1 r51.2).bind fun p55 =>
some (p55, r51.2)) r51.2).bind fun r54 =>
(onG p43 true (
(aBin Try.prog false .eql 40 r48.1 r54.1).bind fun p58 =>
some (p58, r54.2)) r54.2).bind fun r57 =>
(aPick p43 r57.1 (PV.v (.bool false))).bind fun p59 =>
(onG p59 true (
(shift q3 5).bind fun p62 =>
some (p62, r57.2)) r57.2).bind fun r61 =>
(onG p59 true (
(aLoad false 1 r61.1 r61.2).bind fun p65 =>
some (p65, r61.2)) r61.2).bind fun r64 =>
(onG p59 true (
(shift q6 5).bind fun p68 =>
some (p68, r64.2)) r64.2).bind fun r67 =>
(onG p59 true (
(aLoad false 1 r67.1 r67.2).bind fun p71 =>
some (p71, r67.2)) r67.2).bind fun r70 =>
(onG p59 true (
(aBin Try.prog false .eql 9 r64.1 r70.1).bind fun p74 =>
some (p74, r70.2)) r70.2).bind fun r73 =>
(aPick p59 r73.1 (PV.v (.bool false))).bind fun p75 =>
(onG p75 true (
(shift q3 6).bind fun p78 =>
some (p78, r73.2)) r73.2).bind fun r77 =>
(onG p75 true (
(aLoad false 1 r77.1 r77.2).bind fun p81 =>
some (p81, r77.2)) r77.2).bind fun r80 =>
(onG p75 true (
(shift q6 6).bind fun p84 =>
some (p84, r80.2)) r80.2).bind fun r83 =>
(onG p75 true (
(aLoad false 1 r83.1 r83.2).bind fun p87 =>
some (p87, r83.2)) r83.2).bind fun r86 =>
(onG p75 true (
(call (.func 11) [canon r80.1, canon r86.1] r86.2).bind fun r90 =>
some (r90.1, r90.2)) r86.2).bind fun r89 =>
(aPick p75 r89.1 (PV.v (.bool false))).bind fun p91 =>
fin st.stk.length st.tk.length st.lp.length [p91] r89.2
theorem S16_eq (a0 a1 : PV) (st : St) : E L (.func 16) [a0, a1] st = S16 (E L) itE a0 a1 st := (E_func' (by rfl) Try.func16 _ _).trans (by kernel_rfl)
noncomputable def S28.b0 (call : CallF) (it : LoopF) (base lb : Nat) (vs9 : List PV) (st10 : St) : Option (Ex × List PV × St) :=
(aBin Try.prog false .lss 3 (nth vs9 5) (nth vs9 4)).bind fun p11 =>
onBool p11 fun b12 => (bif b12 then
some (Ex.normal, [(nth vs9 0), (nth vs9 1), (nth vs9 2), (nth vs9 3), (nth vs9 4), (nth vs9 5)], st10)
else
some ((Ex.exit 0), [(nth vs9 0), (nth vs9 1), (nth vs9 2), (nth vs9 3), (nth vs9 4), (nth vs9 5)], st10)).bind fun r13 =>
seqK r13.1 ((aIndexAddr Try.prog 41 (nth r13.2.1 3) (nth r13.2.1 5)).bind fun p15 =>
(aLoad true 9 p15 r13.2.2).bind fun p16 =>
let q18 : PV := .ptr false r13.2.2.stk.length 0
let st17 := r13.2.2.push [.v (.int .i64 0), .v (.int .i64 0), .v (.int .u64 0), .v (.int .i64 0), .v (.string ⟨#[]⟩), .v (.string ⟨#[]⟩), .sl [] .nil, .v (.int .i64 0), .v (.int .i64 0)]
(aStore base 9 q18 p16 st17).bind fun st19 =>
(aIndexAddr Try.prog 41 (nth r13.2.1 0) (nth r13.2.1 5)).bind fun p20 =>
(aLoad true 9 p20 st19).bind fun p21 =>
let q23 : PV := .ptr false st19.stk.length 0
let st22 := st19.push [.v (.int .i64 0), .v (.int .i64 0), .v (.int .u64 0), .v (.int .i64 0), .v (.string ⟨#[]⟩), .v (.string ⟨#[]⟩), .sl [] .nil, .v (.int .i64 0), .v (.int .i64 0)]
(aStore base 9 q23 p21 st22).bind fun st24 =>
(aLoad true 9 q18 st24).bind fun p25 =>
(aLoad true 9 q23 st24).bind fun p26 =>
onFn (nth r13.2.1 1) fun g28 caps29 =>
(call g28 ([canon p25, canon p26] ++ caps29) st24).bind fun r27 =>
(aUn Try.prog .not r27.1).bind fun p30 =>
onBool p30 fun b31 => (bif b31 then
some (Ex.ret, [(nth r13.2.1 0), (nth r13.2.1 1), (PV.v (.bool false)), (nth r13.2.1 3), (nth r13.2.1 4), (nth r13.2.1 5)], r27.2)
else
some (Ex.normal, [(nth r13.2.1 0), (nth r13.2.1 1), (nth r13.2.1 2), (nth r13.2.1 3), (nth r13.2.1 4), (nth r13.2.1 5)], r27.2)).bind fun r32 =>
seqK (Ex.outOf 1 r32.1) ((aBin Try.prog true .add 3 (nth r32.2.1 5) (PV.v (.int .i64 1))).bind fun p34 =>
leaveV base lb st10.stk.length Ex.normal [(nth r32.2.1 0), (nth r32.2.1 1), (nth r32.2.1 2), (nth r32.2.1 3), (nth r32.2.1 4), p34] r32.2.2) fun x33 =>
leaveV base lb st10.stk.length x33 [(nth r32.2.1 0), (nth r32.2.1 1), (nth r32.2.1 2), (nth r32.2.1 3), (nth r32.2.1 4), (nth r32.2.1 5)] r32.2.2) fun x14 =>
leaveV base lb st10.stk.length x14 [(nth r13.2.1 0), (nth r13.2.1 1), (nth r13.2.1 2), (nth r13.2.1 3), (nth r13.2.1 4), (nth r13.2.1 5)] r13.2.2
/-- slices.EqualFunc[[]padlock/api.Expr,[]padlock/api.Expr,padlock/api.Expr,padlock/api.Expr] -/
noncomputable def S28 (call : CallF) (it : LoopF) (a0 a1 a2 : PV) (st : St) : Option (PV × St) :=
(aLen Try.prog 41 a0).bind fun p1 =>
(aLen Try.prog 41 a1).bind fun p2 =>
(aBin Try.prog false .neq 3 p1 p2).bind fun p3 =>
onBool p3 fun b4 => (bif b4 then
some (Ex.ret, [a0, a1, a2, (PV.v (.bool false))], st)
else
some (Ex.normal, [a0, a1, a2, (PV.v (.bool false))], st)).bind fun r5 =>
seqK r5.1 ((aLen Try.prog 41 (nth r5.2.1 0)).bind fun p7 =>
(it (S28.b0 call it st.stk.length st.lp.length) [(nth r5.2.1 1), (nth r5.2.1 2), (nth r5.2.1 3), (nth r5.2.1 0), p7, (PV.v (.int .i64 0))] r5.2.2).bind fun r8 =>
seqK (Ex.outOf 0 r8.1) (fin st.stk.length st.tk.length st.lp.length [(PV.v (.bool true))] r8.2.2) fun x35 =>
retK x35 (fin st.stk.length st.tk.length st.lp.length [(nth r8.2.1 2)] r8.2.2)) fun x6 =>
retK x6 (fin st.stk.length st.tk.length st.lp.length [(nth r5.2.1 3)] r5.2.2)
theorem S28_eq (a0 a1 a2 : PV) (st : St) : E L (.func 28) [a0, a1, a2] st = S28 (E L) itE a0 a1 a2 st := (E_func' (by rfl) Try.func28 _ _).trans (by kernel_rfl)
/-- padlock/tree.Exprs -/
noncomputable def S11 (call : CallF) (it : LoopF) (a0 a1 : PV) (st : St) : Option (PV × St) :=
(call (.func 28) [canon a0, canon a1, canon (PV.clo (.func 16) [])] st).bind fun r1 =>
fin st.stk.length st.tk.length st.lp.length [r1.1] r1.2
theorem S11_eq (a0 a1 : PV) (st : St) : E L (.func 11) [a0, a1] st = S11 (E L) itE a0 a1 st := (E_func' (by rfl) Try.func11 _ _).trans (by kernel_rfl)
/-- padlock/tree.samePlace -/
noncomputable def S41 (call : CallF) (it : LoopF) (a0 a1 : PV) (st : St) : Option (PV × St) :=
(cellsOf a0).bind fun b1 =>
let q3 : PV := .ptr false st.stk.length 0
let st2 := st.push b1
(cellsOf a1).bind fun b4 =>
let q6 : PV := .ptr false st2.stk.length 0
let st5 := st2.push b4
(shift q3 0).bind fun p7 =>
(aLoad false 1 p7 st5).bind fun p8 =>
(shift q6 0).bind fun p9 =>
(aLoad false 1 p9 st5).bind fun p10 =>
(aBin Try.prog false .eql 3 p8 p10).bind fun p11 =>
(onG p11 true (
(shift q3 1).bind fun p14 =>
some (p14, st5)) st5).bind fun r13 =>
(onG p11 true (
(aLoad false 1 r13.1 r13.2).bind fun p17 =>
some (p17, r13.2)) r13.2).bind fun r16 =>
(onG p11 true (
(shift q6 1).bind fun p20 =>
some (p20, r16.2)) r16.2).bind fun r19 =>
(onG p11 true (
(aLoad false 1 r19.1 r19.2).bind fun p23 =>
some (p23, r19.2)) r19.2).bind fun r22 =>
(onG p11 true (
(aBin Try.prog false .eql 9 r16.1 r22.1).bind fun p26 =>
some (p26, r22.2)) r22.2).bind fun r25 =>
(aPick p11 r25.1 (PV.v (.bool false))).bind fun p27 =>
(onG p27 true (
(shift q3 2).bind fun p30 =>
some (p30, r25.2)) r25.2).bind fun r29 =>
(onG p27 true (
(aLoad false 1 r29.1 r29.2).bind fun p33 =>
some (p33, r29.2)) r29.2).bind fun r32 =>
(onG p27 true (
(shift q6 2).bind fun p36 =>
some (p36, r32.2)) r32.2).bind fun r35 =>
(onG p27 true (
(aLoad false 1 r35.1 r35.2).bind fun p39 =>
some (p39, r35.2)) r35.2).bind fun r38 =>
(onG p27 true (
(aBin Try.prog false .eql 9 r32.1 r38.1).bind fun p42 =>
some (p42, r38.2)) r38.2).bind fun r41 =>
(aPick p27 r41.1 (PV.v (.bool false))).bind fun p43 =>
(onG p43 true (
(shift q3 3).bind fun p46 =>
some (p46, r41.2)) r41.2).bind fun r45 =>
(onG p43 true (
(aLoad true 9 r45.1 r45.2).bind fun p49 =>
some (p49, r45.2)) r45.2).bind fun r48 =>
(onG p43 true (
(shift q6 3).bind fun p52 =>
some (p52, r48.2)) r48.2).bind fun r51 =>
(onG p43 true (
(aLoad true 9 r51.1 r51.2).bind fun p55 =>
some (p55, r51.2)) r51.2).bind fun r54 =>
(onG p43 true (
(call (.func 16) [canon r48.1, canon r54.1] r54.2).bind fun r58 =>
some (r58.1, r58.2)) r54.2).bind fun r57 =>
(aPick p43 r57.1 (PV.v (.bool false))).bind fun p59 =>
fin st.stk.length st.tk.length st.lp.length [p59] r57.2
theorem S41_eq (a0 a1 : PV) (st : St) : E L (.func 41) [a0, a1] st = S41 (E L) itE a0 a1 st := (E_func' (by rfl) Try.func41 _ _).trans (by kernel_rfl)
/-- padlock/tree.sameRight -/
noncomputable def S40 (call : CallF) (it : LoopF) (a0 a1 : PV) (st : St) : Option (PV × St) :=
(cellsOf a0).bind fun b1 =>
let q3 : PV := .ptr false st.stk.length 0
let st2 := st.push b1
(cellsOf a1).bind fun b4 =>
let q6 : PV := .ptr false st2.stk.length 0
let st5 := st2.push b4
(shift q3 0).bind fun p7 =>
(aLoad false 1 p7 st5).bind fun p8 =>
(shift q6 0).bind fun p9 =>
(aLoad false 1 p9 st5).bind fun p10 =>
(aBin Try.prog false .eql 3 p8 p10).bind fun p11 =>
(onG p11 true (
(shift q3 24).bind fun p14 =>
some (p14, st5)) st5).bind fun r13 =>
(onG p11 true (
(aLoad false 1 r13.1 r13.2).bind fun p17 =>
some (p17, r13.2)) r13.2).bind fun r16 =>
(onG p11 true (
(shift q6 24).bind fun p20 =>
some (p20, r16.2)) r16.2).bind fun r19 =>
(onG p11 true (
(aLoad false 1 r19.1 r19.2).bind fun p23 =>
some (p23, r19.2)) r19.2).bind fun r22 =>
(onG p11 true (
(aBin Try.prog false .eql 9 r16.1 r22.1).bind fun p26 =>
some (p26, r22.2)) r22.2).bind fun r25 =>
(aPick p11 r25.1 (PV.v (.bool false))).bind fun p27 =>
(onG p27 true (
(shift q3 1).bind fun p30 =>
some (p30, r25.2)) r25.2).bind fun r29 =>
(onG p27 true (
(aLoad true 9 r29.1 r29.2).bind fun p33 =>
some (p33, r29.2)) r29.2).bind fun r32 =>
(onG p27 true (
(shift q6 1).bind fun p36 =>
some (p36, r32.2)) r32.2).bind fun r35 =>
(onG p27 true (
(aLoad true 9 r35.1 r35.2).bind fun p39 =>
some (p39, r35.2)) r35.2).bind fun r38 =>
(onG p27 true (
(call (.func 16) [canon r32.1, canon r38.1] r38.2).bind fun r42 =>
some (r42.1, r42.2)) r38.2).bind fun r41 =>
(aPick p27 r41.1 (PV.v (.bool false))).bind fun p43 =>
(onG p43 true (
(shift q3 10).bind fun p46 =>
some (p46, r41.2)) r41.2).bind fun r45 =>
(onG p43 true (
(aLoad true 14 r45.1 r45.2).bind fun p49 =>
some (p49, r45.2)) r45.2).bind fun r48 =>
(onG p43 true (
(shift q6 10).bind fun p52 =>
some (p52, r48.2)) r48.2).bind fun r51 =>
(onG p43 true (
(aLoad true 14 r51.1 r51.2).bind fun p55 =>
some (p55, r51.2)) r51.2).bind fun r54 =>
(onG p43 true (
(call (.func 41) [canon r48.1, canon r54.1] r54.2).bind fun r58 =>
some (r58.1, r58.2)) r54.2).bind fun r57 =>
(aPick p43 r57.1 (PV.v (.bool false))).bind fun p59 =>
fin st.stk.length st.tk.length st.lp.length [p59] r57.2
theorem S40_eq (a0 a1 : PV) (st : St) : E L (.func 40) [a0, a1] st = S40 (E L) itE a0 a1 st := (E_func' (by rfl) Try.func40 _ _).trans (by kernel_rfl)
/-- padlock/tree.SameStmt -/
noncomputable def S18 (call : CallF) (it : LoopF) (a0 a1 : PV) (st : St) : Option (PV × St) :=
(cellsOf a0).bind fun b1 =>
let q3 : PV := .ptr false st.stk.length 0
let st2 := st.push b1
(cellsOf a1).bind fun b4 =>
let q6 : PV := .ptr false st2.stk.length 0
let st5 := st2.push b4
(shift q3 0).bind fun p7 =>
(aLoad false 1 p7 st5).bind fun p8 =>
(shift q6 0).bind fun p9 =>
(aLoad false 1 p9 st5).bind fun p10 =>
(aBin Try.prog false .eql 3 p8 p10).bind fun p11 =>
(onG p11 true (
(shift q3 1).bind fun p14 =>
some (p14, st5)) st5).bind fun r13 =>
(onG p11 true (
(aLoad false 1 r13.1 r13.2).bind fun p17 =>
some (p17, r13.2)) r13.2).bind fun r16 =>
(onG p11 true (
(shift q6 1).bind fun p20 =>
some (p20, r16.2)) r16.2).bind fun r19 =>
(onG p11 true (
(aLoad false 1 r19.1 r19.2).bind fun p23 =>
some (p23, r19.2)) r19.2).bind fun r22 =>
(onG p11 true (
(aBin Try.prog false .eql 9 r16.1 r22.1).bind fun p26 =>
some (p26, r22.2)) r22.2).bind fun r25 =>
(aPick p11 r25.1 (PV.v (.bool false))).bind fun p27 =>
(onG p27 true (
(shift q3 52).bind fun p30 =>
some (p30, r25.2)) r25.2).bind fun r29 =>
(onG p27 true (
(aLoad false 1 r29.1 r29.2).bind fun p33 =>
some (p33, r29.2)) r29.2).bind fun r32 =>
(onG p27 true (
(shift q6 52).bind fun p36 =>
some (p36, r32.2)) r32.2).bind fun r35 =>
(onG p27 true (
(aLoad false 1 r35.1 r35.2).bind fun p39 =>
some (p39, r35.2)) r35.2).bind fun r38 =>
(onG p27 true (
(aBin Try.prog false .eql 3 r32.1 r38.1).bind fun p42 =>
some (p42, r38.2)) r38.2).bind fun r41 =>
(aPick p27 r41.1 (PV.v (.bool false))).bind fun p43 =>
(onG p43 true (
(shift q3 2).bind fun p46 =>
some (p46, r41.2)) r41.2).bind fun r45 =>
(onG p43 true (
(aLoad true 27 r45.1 r45.2).bind fun p49 =>
some (p49, r45.2)) r45.2).bind fun r48 =>
(onG p43 true (
(shift q6 2).bind fun p52 =>
some (p52, r48.2)) r48.2).bind fun r51 =>
(onG p43 true (
(aLoad true 27 r51.1 r51.2).bind fun p55 =>
some (p55, r51.2)) r51.2).bind fun r54 =>
(onG p43 true (
(call (.func 40) [canon r48.1, canon r54.1] r54.2).bind fun r58 =>
some (r58.1, r58.2)) r54.2).bind fun r57 =>
(aPick p43 r57.1 (PV.v (.bool false))).bind fun p59 =>
(onG p59 true (
(shift q3 29).bind fun p62 =>
some (p62, r57.2)) r57.2).bind fun r61 =>
(onG p59 true (
(aLoad true 14 r61.1 r61.2).bind fun p65 =>
some (p65, r61.2)) r61.2).bind fun r64 =>
(onG p59 true (
(shift q6 29).bind fun p68 =>
some (p68, r64.2)) r64.2).bind fun r67 =>
(onG p59 true (
(aLoad true 14 r67.1 r67.2).bind fun p71 =>
some (p71, r67.2)) r67.2).bind fun r70 =>
(onG p59 true (
(call (.func 41) [canon r64.1, canon r70.1] r70.2).bind fun r74 =>
some (r74.1, r74.2)) r70.2).bind fun r73 =>
(aPick p59 r73.1 (PV.v (.bool false))).bind fun p75 =>
(onG p75 true (
(shift q3 43).bind fun p78 =>
some (p78, r73.2)) r73.2).bind fun r77 =>
(onG p75 true (
(aLoad true 9 r77.1 r77.2).bind fun p81 =>
some (p81, r77.2)) r77.2).bind fun r80 =>
(onG p75 true (
(shift q6 43).bind fun p84 =>
some (p84, r80.2)) r80.2).bind fun r83 =>
(onG p75 true (
(aLoad true 9 r83.1 r83.2).bind fun p87 =>
some (p87, r83.2)) r83.2).bind fun r86 =>
(onG p75 true (
(call (.func 16) [canon r80.1, canon r86.1] r86.2).bind fun r90 =>
some (r90.1, r90.2)) r86.2).bind fun r89 =>
(aPick p75 r89.1 (PV.v (.bool false))).bind fun p91 =>
(onG p91 true (
(shift q3 53).bind fun p94 =>
some (p94, r89.2)) r89.2).bind fun r93 =>
(onG p91 true (
(aLoad false 1 r93.1 r93.2).bind fun p97 =>
some (p97, r93.2)) r93.2).bind fun r96 =>
(onG p91 true (
(shift q6 53).bind fun p100 =>
some (p100, r96.2)) r96.2).bind fun r99 =>
(onG p91 true (
(aLoad false 1 r99.1 r99.2).bind fun p103 =>
some (p103, r99.2)) r99.2).bind fun r102 =>
(onG p91 true (
(call (.func 11) [canon r96.1, canon r102.1] r102.2).bind fun r106 =>
some (r106.1, r106.2)) r102.2).bind fun r105 =>
(aPick p91 r105.1 (PV.v (.bool false))).bind fun p107 =>
(onG p107 true (
(shift q3 54).bind fun p110 =>
some (p110, r105.2)) r105.2).bind fun r109 =>
(onG p107 true (
(aLoad false 1 r109.1 r109.2).bind fun p113 =>
some (p113, r109.2)) r109.2).bind fun r112 =>
(onG p107 true (
(shift q6 54).bind fun p116 =>
some (p116, r112.2)) r112.2).bind fun r115 =>
(onG p107 true (
(aLoad false 1 r115.1 r115.2).bind fun p119 =>
some (p119, r115.2)) r115.2).bind fun r118 =>
(onG p107 true (
(call (.func 10) [canon r112.1, canon r118.1] r118.2).bind fun r122 =>
some (r122.1, r122.2)) r118.2).bind fun r121 =>
(aPick p107 r121.1 (PV.v (.bool false))).bind fun p123 =>
(onG p123 true (
(shift q3 55).bind fun p126 =>
some (p126, r121.2)) r121.2).bind fun r125 =>
(onG p123 true (
(aLoad false 1 r125.1 r125.2).bind fun p129 =>
some (p129, r125.2)) r125.2).bind fun r128 =>
(onG p123 true (
(shift q6 55).bind fun p132 =>
some (p132, r128.2)) r128.2).bind fun r131 =>
(onG p123 true (
(aLoad false 1 r131.1 r131.2).bind fun p135 =>
some (p135, r131.2)) r131.2).bind fun r134 =>
(onG p123 true (
(call (.func 10) [canon r128.1, canon r134.1] r134.2).bind fun r138 =>
some (r138.1, r138.2)) r134.2).bind fun r137 =>
(aPick p123 r137.1 (PV.v (.bool false))).bind fun p139 =>
fin st.stk.length st.tk.length st.lp.length [p139] r137.2
theorem S18_eq (a0 a1 : PV) (st : St) : E L (.func 18) [a0, a1] st = S18 (E L) itE a0 a1 st := (E_func' (by rfl) Try.func18 _ _).trans (by kernel_rfl)
noncomputable def S27.b0 (call : CallF) (it : LoopF) (base lb : Nat) (vs9 : List PV) (st10 : St) : Option (Ex × List PV × St) :=
(aBin Try.prog false .lss 3 (nth vs9 5) (nth vs9 4)).bind fun p11 =>
onBool p11 fun b12 => (bif b12 then
some (Ex.normal, [(nth vs9 0), (nth vs9 1), (nth vs9 2), (nth vs9 3), (nth vs9 4), (nth vs9 5)], st10)
else
some ((Ex.exit 0), [(nth vs9 0), (nth vs9 1), (nth vs9 2), (nth vs9 3), (nth vs9 4), (nth vs9 5)], st10)).bind fun r13 =>
seqK r13.1 ((aIndexAddr Try.prog 31 (nth r13.2.1 3) (nth r13.2.1 5)).bind fun p15 =>
(aLoad true 58 p15 r13.2.2).bind fun p16 =>
let q18 : PV := .ptr false r13.2.2.stk.length 0
let st17 := r13.2.2.push [.v (.int .i64 0), .v (.string ⟨#[]⟩), .v (.int .i64 0), .v (.int .i64 0), .v (.int .i64 0), .v (.int .u64 0), .v (.int .i64 0), .v (.string ⟨#[]⟩), .v (.string ⟨#[]⟩), .sl [] .nil, .v (.int .i64 0), .v (.int .i64 0), .v (.int .i64 0), .v (.string ⟨#[]⟩), .v (.string ⟨#[]⟩), .v (.int .i64 0), .v (.int .i64 0), .v (.int .u64 0), .v (.int .i64 0), .v (.string ⟨#[]⟩), .v (.string ⟨#[]⟩), .sl [] .nil, .v (.int .i64 0), .v (.int .i64 0), .v (.int .i64 0), .v (.int .i64 0), .v (.string ⟨#[]⟩), .v (.int .i64 0), .v (.int .i64 0), .v (.int .i64 0), .v (.string ⟨#[]⟩), .v (.string ⟨#[]⟩), .v (.int .i64 0), .v (.int .i64 0), .v (.int .u64 0), .v (.int .i64 0), .v (.string ⟨#[]⟩), .v (.string ⟨#[]⟩), .sl [] .nil, .v (.int .i64 0), .v (.int .i64 0), .v (.int .i64 0), .v (.int .i64 0), .v (.int .i64 0), .v (.int .i64 0), .v (.int .u64 0), .v (.int .i64 0), .v (.string ⟨#[]⟩), .v (.string ⟨#[]⟩), .sl [] .nil, .v (.int .i64 0), .v (.int .i64 0), .v (.int .i64 0), .sl [] .nil, .sl [] .nil, .sl [] .nil, .v (.int .i64 0), .v (.int .i64 0)]
(aStore base 58 q18 p16 st17).bind fun st19 =>
(aIndexAddr Try.prog 31 (nth r13.2.1 0) (nth r13.2.1 5)).bind fun p20 =>
(aLoad true 58 p20 st19).bind fun p21 =>
let q23 : PV := .ptr false st19.stk.length 0
let st22 := st19.push [.v (.int .i64 0), .v (.string ⟨#[]⟩), .v (.int .i64 0), .v (.int .i64 0), .v (.int .i64 0), .v (.int .u64 0), .v (.int .i64 0), .v (.string ⟨#[]⟩), .v (.string ⟨#[]⟩), .sl [] .nil, .v (.int .i64 0), .v (.int .i64 0), .v (.int .i64 0), .v (.string ⟨#[]⟩), .v (.string ⟨#[]⟩), .v (.int .i64 0), .v (.int .i64 0), .v (.int .u64 0), .v (.int .i64 0), .v (.string ⟨#[]⟩), .v (.string ⟨#[]⟩), .sl [] .nil, .v (.int .i64 0), .v (.int .i64 0), .v (.int .i64 0), .v (.int .i64 0), .v (.string ⟨#[]⟩), .v (.int .i64 0), .v (.int .i64 0), .v (.int .i64 0), .v (.string ⟨#[]⟩), .v (.string ⟨#[]⟩), .v (.int .i64 0), .v (.int .i64 0), .v (.int .u64 0), .v (.int .i64 0), .v (.string ⟨#[]⟩), .v (.string ⟨#[]⟩), .sl [] .nil, .v (.int .i64 0), .v (.int .i64 0), .v (.int .i64 0), .v (.int .i64 0), .v (.int .i64 0), .v (.int .i64 0), .v (.int .u64 0), .v (.int .i64 0), .v (.string ⟨#[]⟩), .v (.string ⟨#[]⟩), .sl [] .nil, .v (.int .i64 0), .v (.int .i64 0), .v (.int .i64 0), .sl [] .nil, .sl [] .nil, .sl [] .nil, .v (.int .i64 0), .v (.int .i64 0)]
(aStore base 58 q23 p21 st22).bind fun st24 =>
(aLoad true 58 q18 st24).bind fun p25 =>
(aLoad true 58 q23 st24).bind fun p26 =>
onFn (nth r13.2.1 1) fun g28 caps29 =>
(call g28 ([canon p25, canon p26] ++ caps29) st24).bind fun r27 =>
(aUn Try.prog .not r27.1).bind fun p30 =>
onBool p30 fun b31 => (bif b31 then
some (Ex.ret, [(nth r13.2.1 0), (nth r13.2.1 1), (PV.v (.bool false)), (nth r13.2.1 3), (nth r13.2.1 4), (nth r13.2.1 5)], r27.2)
else
some (Ex.normal, [(nth r13.2.1 0), (nth r13.2.1 1), (nth r13.2.1 2), (nth r13.2.1 3), (nth r13.2.1 4), (nth r13.2.1 5)], r27.2)).bind fun r32 =>
seqK (Ex.outOf 1 r32.1) ((aBin Try.prog true .add 3 (nth r32.2.1 5) (PV.v (.int .i64 1))).bind fun p34 =>
leaveV base lb st10.stk.length Ex.normal [(nth r32.2.1 0), (nth r32.2.1 1), (nth r32.2.1 2), (nth r32.2.1 3), (nth r32.2.1 4), p34] r32.2.2) fun x33 =>
leaveV base lb st10.stk.length x33 [(nth r32.2.1 0), (nth r32.2.1 1), (nth r32.2.1 2), (nth r32.2.1 3), (nth r32.2.1 4), (nth r32.2.1 5)] r32.2.2) fun x14 =>
leaveV base lb st10.stk.length x14 [(nth r13.2.1 0), (nth r13.2.1 1), (nth r13.2.1 2), (nth r13.2.1 3), (nth r13.2.1 4), (nth r13.2.1 5)] r13.2.2
/-- slices.EqualFunc[[]padlock/api.Stmt,[]padlock/api.Stmt,padlock/api.Stmt,padlock/api.Stmt] -/
noncomputable def S27 (call : CallF) (it : LoopF) (a0 a1 a2 : PV) (st : St) : Option (PV × St) :=
(aLen Try.prog 31 a0).bind fun p1 =>
(aLen Try.prog 31 a1).bind fun p2 =>
(aBin Try.prog false .neq 3 p1 p2).bind fun p3 =>
onBool p3 fun b4 => (bif b4 then
some (Ex.ret, [a0, a1, a2, (PV.v (.bool false))], st)
else
some (Ex.normal, [a0, a1, a2, (PV.v (.bool false))], st)).bind fun r5 =>
seqK r5.1 ((aLen Try.prog 31 (nth r5.2.1 0)).bind fun p7 =>
(it (S27.b0 call it st.stk.length st.lp.length) [(nth r5.2.1 1), (nth r5.2.1 2), (nth r5.2.1 3), (nth r5.2.1 0), p7, (PV.v (.int .i64 0))] r5.2.2).bind fun r8 =>
seqK (Ex.outOf 0 r8.1) (fin st.stk.length st.tk.length st.lp.length [(PV.v (.bool true))] r8.2.2) fun x35 =>
retK x35 (fin st.stk.length st.tk.length st.lp.length [(nth r8.2.1 2)] r8.2.2)) fun x6 =>
retK x6 (fin st.stk.length st.tk.length st.lp.length [(nth r5.2.1 3)] r5.2.2)
theorem S27_eq (a0 a1 a2 : PV) (st : St) : E L (.func 27) [a0, a1, a2] st = S27 (E L) itE a0 a1 a2 st := (E_func' (by rfl) Try.func27 _ _).trans (by kernel_rfl)
/-- padlock/tree.Stmts -/
noncomputable def S10 (call : CallF) (it : LoopF) (a0 a1 : PV) (st : St) : Option (PV × St) :=
(call (.func 27) [canon a0, canon a1, canon (PV.clo (.func 18) [])] st).bind fun r1 =>
fin st.stk.length st.tk.length st.lp.length [r1.1] r1.2
theorem S10_eq (a0 a1 : PV) (st : St) : E L (.func 10) [a0, a1] st = S10 (E L) itE a0 a1 st := (E_func' (by rfl) Try.func10 _ _).trans (by kernel_rfl)
/-- padlock/tree.All -/
noncomputable def S26 (call : CallF) (it : LoopF) (a0 : PV) (st : St) : Option (PV × St) :=
(cellsOf a0).bind fun b1 =>
(aBox true b1 st).bind fun r2 =>
(aMakeFunc (Fn.func 45) true [r2.1]).bind fun p3 =>
fin st.stk.length st.tk.length st.lp.length [p3] r2.2
theorem S26_eq (a0 : PV) (st : St) : E L (.func 26) [a0] st = S26 (E L) itE a0 st := (E_func' (by rfl) Try.func26 _ _).trans (by kernel_rfl)
noncomputable def S42.b0 (call : CallF) (it : LoopF) (base lb : Nat) (vs8 : List PV) (st9 : St) : Option (Ex × List PV × St) :=
(aBin Try.prog false .lss 3 (nth vs8 4) (nth vs8 3)).bind fun p10 =>
onBool p10 fun b11 => (bif b11 then
some (Ex.normal, [(nth vs8 0), (nth vs8 1), (nth vs8 2), (nth vs8 3), (nth vs8 4)], st9)
else
some ((Ex.exit 0), [(nth vs8 0), (nth vs8 1), (nth vs8 2), (nth vs8 3), (nth vs8 4)], st9)).bind fun r12 =>
seqK r12.1 ((aIndexAddr Try.prog 26 (nth r12.2.1 2) (nth r12.2.1 4)).bind fun p14 =>
(aLoad true 5 p14 r12.2.2).bind fun p15 =>
let q17 : PV := .ptr false r12.2.2.stk.length 0
let st16 := r12.2.2.push [.v (.string ⟨#[]⟩), .sl [] .nil, .sl [] .nil, .v (.int .i64 0), .v (.int .i64 0)]
(aStore base 5 q17 p15 st16).bind fun st18 =>
(shift q17 2).bind fun p19 =>
(aLoad false 1 p19 st18).bind fun p20 =>
(rBuildSlice 1 [.sl [] .nil] 1 [(0, p20)]).bind fun p21 =>
(elemsOf st18 p21).bind fun ys22 =>
(rAppend base [.sl [] .nil] 1 24 (nth r12.2.1 1) ys22 st18).bind fun r23 =>
(aBin Try.prog true .add 3 (nth r12.2.1 4) (PV.v (.int .i64 1))).bind fun p24 =>
leaveV base lb st9.stk.length Ex.normal [(nth r12.2.1 0), r23.1, (nth r12.2.1 2), (nth r12.2.1 3), p24] r23.2) fun x13 =>
leaveV base lb st9.stk.length x13 [(nth r12.2.1 0), (nth r12.2.1 1), (nth r12.2.1 2), (nth r12.2.1 3), (nth r12.2.1 4)] r12.2.2
noncomputable def S42.b1 (call : CallF) (it : LoopF) (base lb : Nat) (vs30 : List PV) (st31 : St) : Option (Ex × List PV × St) :=
(aBin Try.prog false .lss 3 (nth vs30 3) (nth vs30 2)).bind fun p32 =>
onBool p32 fun b33 => (bif b33 then
some (Ex.normal, [(nth vs30 0), (nth vs30 1), (nth vs30 2), (nth vs30 3)], st31)
else
some ((Ex.exit 2), [(nth vs30 0), (nth vs30 1), (nth vs30 2), (nth vs30 3)], st31)).bind fun r34 =>
seqK r34.1 ((aIndexAddr Try.prog 27 (nth r34.2.1 1) (nth r34.2.1 3)).bind fun p36 =>
(aLoad true 3 p36 r34.2.2).bind fun p37 =>
let q39 : PV := .ptr false r34.2.2.stk.length 0
let st38 := r34.2.2.push [.sl [] .nil, .v (.int .i64 0), .v (.int .i64 0)]
(aStore base 3 q39 p37 st38).bind fun st40 =>
(shift q39 0).bind fun p41 =>
(aLoad false 1 p41 st40).bind fun p42 =>
(rBuildSlice 1 [.sl [] .nil] 1 [(0, p42)]).bind fun p43 =>
(elemsOf st40 p43).bind fun ys44 =>
(rAppend base [.sl [] .nil] 1 24 (nth r34.2.1 0) ys44 st40).bind fun r45 =>
(aBin Try.prog true .add 3 (nth r34.2.1 3) (PV.v (.int .i64 1))).bind fun p46 =>
leaveV base lb st31.stk.length Ex.normal [r45.1, (nth r34.2.1 1), (nth r34.2.1 2), p46] r45.2) fun x35 =>
leaveV base lb st31.stk.length x35 [(nth r34.2.1 0), (nth r34.2.1 1), (nth r34.2.1 2), (nth r34.2.1 3)] r34.2.2
/-- padlock/tree.bodies -/
noncomputable def S42 (call : CallF) (it : LoopF) (a0 : PV) (st : St) : Option (PV × St) :=
(cellsOf a0).bind fun b1 =>
let q3 : PV := .ptr false st.stk.length 0
let st2 := st.push b1
(shift q3 2).bind fun p4 =>
(aLoad false 1 p4 st2).bind fun p5 =>
(aLen Try.prog 26 p5).bind fun p6 =>
(it (S42.b0 call it st.stk.length st.lp.length) [q3, (PV.sl [] .nil), p5, p6, (PV.v (.int .i64 0))] st2).bind fun r7 =>
seqK (Ex.outOf 0 r7.1) ((shift (nth r7.2.1 0) 3).bind fun p26 =>
(aLoad false 1 p26 r7.2.2).bind fun p27 =>
(aLen Try.prog 27 p27).bind fun p28 =>
(it (S42.b1 call it st.stk.length st.lp.length) [(nth r7.2.1 1), p27, p28, (PV.v (.int .i64 0))] r7.2.2).bind fun r29 =>
seqK (Ex.outOf 2 r29.1) (fin st.stk.length st.tk.length st.lp.length [(nth r29.2.1 0)] r29.2.2) fun x47 =>
retK x47 (fin st.stk.length st.tk.length st.lp.length [PV.u] r29.2.2)) fun x25 =>
retK x25 (fin st.stk.length st.tk.length st.lp.length [PV.u] r7.2.2)
theorem S42_eq (a0 : PV) (st : St) : E L (.func 42) [a0] st = S42 (E L) itE a0 st := (E_func' (by rfl) Try.func42 _ _).trans (by kernel_rfl)
noncomputable def S21.lp0 (vs : List PV) : Lp := ⟨[4, 5], vs, 28, ⟨[], []⟩, [18, 19], (Try.f21.body.getD .skip).r.r.l.r.l.l.r.r.l.l.r.r.l.l, (Try.f21.body.getD .skip).r.r.l.r.l.l.r.r.l.l.r.r.l.r, (.seq .nil .nil), 0, .normal⟩
noncomputable def S21.r0 (call : CallF) (it : LoopF) (i : Nat) (vs : List PV) (p0_ p1_ : PV) (st : St) : Option (PV × St) :=
beginR i st fun st28 =>
(aLoad false 1 (nth vs 0) st28).bind fun p29 =>
(aBin Try.prog true .add 3 p29 (PV.v (.int .i64 1))).bind fun p30 =>
(aStore st.stk.length 1 (nth vs 0) p30 st28).bind fun st31 =>
(aLoad false 1 (nth vs 1) st31).bind fun p32 =>
(aMax2 Try.prog p32 p0_).bind fun p33 =>
(aStore st.stk.length 1 (nth vs 1) p33 st31).bind fun st34 =>
finR st.stk.length st.tk.length st.lp.length i Ex.normal st34
noncomputable def S21.b0 (call : CallF) (it : LoopF) (base lb : Nat) (vs14 : List PV) (st15 : St) : Option (Ex × List PV × St) :=
(aBin Try.prog false .lss 3 (nth vs14 4) (nth vs14 3)).bind fun p16 =>
onBool p16 fun b17 => (bif b17 then
some (Ex.normal, [(nth vs14 0), (nth vs14 1), (nth vs14 2), (nth vs14 3), (nth vs14 4)], st15)
else
some ((Ex.exit 0), [(nth vs14 0), (nth vs14 1), (nth vs14 2), (nth vs14 3), (nth vs14 4)], st15)).bind fun r18 =>
seqK r18.1 ((aIndexAddr Try.prog 61 (nth r18.2.1 2) (nth r18.2.1 4)).bind fun p20 =>
(aLoad false 1 p20 r18.2.2).bind fun p21 =>
(call (.func 26) [canon p21] r18.2.2).bind fun r22 =>
onFn r22.1 fun g23 caps24 => bif true && plainFn g23 then
(call g23 (.clo (.yield r22.2.lp.length) [] :: caps24) { r22.2 with lp := r22.2.lp ++ [.loop (S21.lp0 [(nth r18.2.1 0), (nth r18.2.1 1)])] }).bind fun r25 =>
endLp r25.2 r22.2.stk.length r22.2.tk.length r22.2.lp.length fun x26 st27 =>
seqK (Ex.outOf 1 (Ex.outOf 2 x26)) ((aBin Try.prog true .add 3 (nth r18.2.1 4) (PV.v (.int .i64 1))).bind fun p36 =>
some (Ex.normal, [(nth r18.2.1 0), (nth r18.2.1 1), (nth r18.2.1 2), (nth r18.2.1 3), p36], st27)) fun x35 =>
some (x35, [(nth r18.2.1 0), (nth r18.2.1 1), (nth r18.2.1 2), (nth r18.2.1 3), (nth r18.2.1 4)], st27)
else none) fun x19 =>
some (x19, [(nth r18.2.1 0), (nth r18.2.1 1), (nth r18.2.1 2), (nth r18.2.1 3), (nth r18.2.1 4)], r18.2.2)
/-- padlock/tree.Count -/
noncomputable def S21 (call : CallF) (it : LoopF) (a0 : PV) (st : St) : Option (PV × St) :=
(cellsOf a0).bind fun b1 =>
let q3 : PV := .ptr false st.stk.length 0
let st2 := st.push b1
let q5 : PV := .ptr false st2.stk.length 0
let st4 := st2.push [.v (.int .i64 0)]
let q7 : PV := .ptr false st4.stk.length 0
let st6 := st4.push [.v (.int .i64 0)]
(aStore st.stk.length 1 q5 (PV.v (.int .i64 0)) st6).bind fun st8 =>
(aStore st.stk.length 1 q7 (PV.v (.int .i64 (-1))) st8).bind fun st9 =>
(aLoad true 4 q3 st9).bind fun p10 =>
(call (.func 42) [canon p10] st9).bind fun r11 =>
(aLen Try.prog 61 r11.1).bind fun p12 =>
(it (S21.b0 call it st.stk.length st.lp.length) [q5, q7, r11.1, p12, (PV.v (.int .i64 0))] r11.2).bind fun r13 =>
seqK (Ex.outOf 0 r13.1) ((aLoad false 1 (nth r13.2.1 0) r13.2.2).bind fun p38 =>
need (r13.2.2 = r13.2.2) <|
(aLoad false 1 (nth r13.2.1 1) r13.2.2).bind fun p39 =>
need (r13.2.2 = r13.2.2) <|
fin st.stk.length st.tk.length st.lp.length [p38, p39] r13.2.2) fun x37 =>
retK x37 (fin st.stk.length st.tk.length st.lp.length [PV.u, PV.u] r13.2.2)
theorem S21_eq (a0 : PV) (st : St) : E L (.func 21) [a0] st = S21 (E L) itE a0 st := (E_func' (by rfl) Try.func21 _ _).trans (by kernel_rfl)
theorem S21.r0_eq {i : Nat} {vs : List PV} {st : St} (h : st.loop i = some (S21.lp0 vs)) (p0_ p1_ : PV) : E L (.yield i) [p0_, p1_] st = S21.r0 (E L) itE i vs p0_ p1_ st := (E_yield h _).trans (by kernel_rfl)
/-- padlock/padlocklaw04.alive -/
noncomputable def S7 (call : CallF) (it : LoopF) (st : St) : Option (PV × St) :=
(rBuild [(0, 1), (1, 1), (2, 1), (3, 2), (5, 1), (6, 1), (7, 1), (8, 1)] [.v (.int .i64 0), .v (.int .i64 0), .v (.int .u64 0), .v (.int .i64 0), .v (.string ⟨#[]⟩), .v (.string ⟨#[]⟩), .sl [] .nil, .v (.int .i64 0), .v (.int .i64 0)] [(0, (PV.v (.int .i64 1))), (2, (PV.v (.int .u64 1)))]).bind fun p1 =>
(rBuild [(0, 1), (1, 1), (2, 27), (29, 14), (43, 9), (52, 1), (53, 1), (54, 1), (55, 1), (56, 1), (57, 1)] [.v (.int .i64 0), .v (.string ⟨#[]⟩), .v (.int .i64 0), .v (.int .i64 0), .v (.int .i64 0), .v (.int .u64 0), .v (.int .i64 0), .v (.string ⟨#[]⟩), .v (.string ⟨#[]⟩), .sl [] .nil, .v (.int .i64 0), .v (.int .i64 0), .v (.int .i64 0), .v (.string ⟨#[]⟩), .v (.string ⟨#[]⟩), .v (.int .i64 0), .v (.int .i64 0), .v (.int .u64 0), .v (.int .i64 0), .v (.string ⟨#[]⟩), .v (.string ⟨#[]⟩), .sl [] .nil, .v (.int .i64 0), .v (.int .i64 0), .v (.int .i64 0), .v (.int .i64 0), .v (.string ⟨#[]⟩), .v (.int .i64 0), .v (.int .i64 0), .v (.int .i64 0), .v (.string ⟨#[]⟩), .v (.string ⟨#[]⟩), .v (.int .i64 0), .v (.int .i64 0), .v (.int .u64 0), .v (.int .i64 0), .v (.string ⟨#[]⟩), .v (.string ⟨#[]⟩), .sl [] .nil, .v (.int .i64 0), .v (.int .i64 0), .v (.int .i64 0), .v (.int .i64 0), .v (.int .i64 0), .v (.int .i64 0), .v (.int .u64 0), .v (.int .i64 0), .v (.string ⟨#[]⟩), .v (.string ⟨#[]⟩), .sl [] .nil, .v (.int .i64 0), .v (.int .i64 0), .v (.int .i64 0), .sl [] .nil, .sl [] .nil, .sl [] .nil, .v (.int .i64 0), .v (.int .i64 0)] [(0, (PV.v (.int .i64 5))), (9, (PV.v (.int .i64 7)))]).bind fun p2 =>
(rBuildSlice 58 [.v (.int .i64 0), .v (.string ⟨#[]⟩), .v (.int .i64 0), .v (.int .i64 0), .v (.int .i64 0), .v (.int .u64 0), .v (.int .i64 0), .v (.string ⟨#[]⟩), .v (.string ⟨#[]⟩), .sl [] .nil, .v (.int .i64 0), .v (.int .i64 0), .v (.int .i64 0), .v (.string ⟨#[]⟩), .v (.string ⟨#[]⟩), .v (.int .i64 0), .v (.int .i64 0), .v (.int .u64 0), .v (.int .i64 0), .v (.string ⟨#[]⟩), .v (.string ⟨#[]⟩), .sl [] .nil, .v (.int .i64 0), .v (.int .i64 0), .v (.int .i64 0), .v (.int .i64 0), .v (.string ⟨#[]⟩), .v (.int .i64 0), .v (.int .i64 0), .v (.int .i64 0), .v (.string ⟨#[]⟩), .v (.string ⟨#[]⟩), .v (.int .i64 0), .v (.int .i64 0), .v (.int .u64 0), .v (.int .i64 0), .v (.string ⟨#[]⟩), .v (.string ⟨#[]⟩), .sl [] .nil, .v (.int .i64 0), .v (.int .i64 0), .v (.int .i64 0), .v (.int .i64 0), .v (.int .i64 0), .v (.int .i64 0), .v (.int .u64 0), .v (.int .i64 0), .v (.string ⟨#[]⟩), .v (.string ⟨#[]⟩), .sl [] .nil, .v (.int .i64 0), .v (.int .i64 0), .v (.int .i64 0), .sl [] .nil, .sl [] .nil, .sl [] .nil, .v (.int .i64 0), .v (.int .i64 0)] 1 [(0, p2)]).bind fun p3 =>
(rBuild [(0, 1), (1, 1), (2, 27), (29, 14), (43, 9), (52, 1), (53, 1), (54, 1), (55, 1), (56, 1), (57, 1)] [.v (.int .i64 0), .v (.string ⟨#[]⟩), .v (.int .i64 0), .v (.int .i64 0), .v (.int .i64 0), .v (.int .u64 0), .v (.int .i64 0), .v (.string ⟨#[]⟩), .v (.string ⟨#[]⟩), .sl [] .nil, .v (.int .i64 0), .v (.int .i64 0), .v (.int .i64 0), .v (.string ⟨#[]⟩), .v (.string ⟨#[]⟩), .v (.int .i64 0), .v (.int .i64 0), .v (.int .u64 0), .v (.int .i64 0), .v (.string ⟨#[]⟩), .v (.string ⟨#[]⟩), .sl [] .nil, .v (.int .i64 0), .v (.int .i64 0), .v (.int .i64 0), .v (.int .i64 0), .v (.string ⟨#[]⟩), .v (.int .i64 0), .v (.int .i64 0), .v (.int .i64 0), .v (.string ⟨#[]⟩), .v (.string ⟨#[]⟩), .v (.int .i64 0), .v (.int .i64 0), .v (.int .u64 0), .v (.int .i64 0), .v (.string ⟨#[]⟩), .v (.string ⟨#[]⟩), .sl [] .nil, .v (.int .i64 0), .v (.int .i64 0), .v (.int .i64 0), .v (.int .i64 0), .v (.int .i64 0), .v (.int .i64 0), .v (.int .u64 0), .v (.int .i64 0), .v (.string ⟨#[]⟩), .v (.string ⟨#[]⟩), .sl [] .nil, .v (.int .i64 0), .v (.int .i64 0), .v (.int .i64 0), .sl [] .nil, .sl [] .nil, .sl [] .nil, .v (.int .i64 0), .v (.int .i64 0)] [(0, (PV.v (.int .i64 6))), (4, p1), (7, p3)]).bind fun p4 =>
(rBuildSlice 58 [.v (.int .i64 0), .v (.string ⟨#[]⟩), .v (.int .i64 0), .v (.int .i64 0), .v (.int .i64 0), .v (.int .u64 0), .v (.int .i64 0), .v (.string ⟨#[]⟩), .v (.string ⟨#[]⟩), .sl [] .nil, .v (.int .i64 0), .v (.int .i64 0), .v (.int .i64 0), .v (.string ⟨#[]⟩), .v (.string ⟨#[]⟩), .v (.int .i64 0), .v (.int .i64 0), .v (.int .u64 0), .v (.int .i64 0), .v (.string ⟨#[]⟩), .v (.string ⟨#[]⟩), .sl [] .nil, .v (.int .i64 0), .v (.int .i64 0), .v (.int .i64 0), .v (.int .i64 0), .v (.string ⟨#[]⟩), .v (.int .i64 0), .v (.int .i64 0), .v (.int .i64 0), .v (.string ⟨#[]⟩), .v (.string ⟨#[]⟩), .v (.int .i64 0), .v (.int .i64 0), .v (.int .u64 0), .v (.int .i64 0), .v (.string ⟨#[]⟩), .v (.string ⟨#[]⟩), .sl [] .nil, .v (.int .i64 0), .v (.int .i64 0), .v (.int .i64 0), .v (.int .i64 0), .v (.int .i64 0), .v (.int .i64 0), .v (.int .u64 0), .v (.int .i64 0), .v (.string ⟨#[]⟩), .v (.string ⟨#[]⟩), .sl [] .nil, .v (.int .i64 0), .v (.int .i64 0), .v (.int .i64 0), .sl [] .nil, .sl [] .nil, .sl [] .nil, .v (.int .i64 0), .v (.int .i64 0)] 1 [(0, p4)]).bind fun p5 =>
(rBuild [(0, 1), (1, 1), (2, 1), (3, 2), (5, 1), (6, 1), (7, 1), (8, 1)] [.v (.int .i64 0), .v (.int .i64 0), .v (.int .u64 0), .v (.int .i64 0), .v (.string ⟨#[]⟩), .v (.string ⟨#[]⟩), .sl [] .nil, .v (.int .i64 0), .v (.int .i64 0)] [(0, (PV.v (.int .i64 1))), (2, (PV.v (.int .u64 1)))]).bind fun p6 =>
(rBuild [(0, 1), (1, 1), (2, 27), (29, 14), (43, 9), (52, 1), (53, 1), (54, 1), (55, 1), (56, 1), (57, 1)] [.v (.int .i64 0), .v (.string ⟨#[]⟩), .v (.int .i64 0), .v (.int .i64 0), .v (.int .i64 0), .v (.int .u64 0), .v (.int .i64 0), .v (.string ⟨#[]⟩), .v (.string ⟨#[]⟩), .sl [] .nil, .v (.int .i64 0), .v (.int .i64 0), .v (.int .i64 0), .v (.string ⟨#[]⟩), .v (.string ⟨#[]⟩), .v (.int .i64 0), .v (.int .i64 0), .v (.int .u64 0), .v (.int .i64 0), .v (.string ⟨#[]⟩), .v (.string ⟨#[]⟩), .sl [] .nil, .v (.int .i64 0), .v (.int .i64 0), .v (.int .i64 0), .v (.int .i64 0), .v (.string ⟨#[]⟩), .v (.int .i64 0), .v (.int .i64 0), .v (.int .i64 0), .v (.string ⟨#[]⟩), .v (.string ⟨#[]⟩), .v (.int .i64 0), .v (.int .i64 0), .v (.int .u64 0), .v (.int .i64 0), .v (.string ⟨#[]⟩), .v (.string ⟨#[]⟩), .sl [] .nil, .v (.int .i64 0), .v (.int .i64 0), .v (.int .i64 0), .v (.int .i64 0), .v (.int .i64 0), .v (.int .i64 0), .v (.int .u64 0), .v (.int .i64 0), .v (.string ⟨#[]⟩), .v (.string ⟨#[]⟩), .sl [] .nil, .v (.int .i64 0), .v (.int .i64 0), .v (.int .i64 0), .sl [] .nil, .sl [] .nil, .sl [] .nil, .v (.int .i64 0), .v (.int .i64 0)] [(0, (PV.v (.int .i64 5)))]).bind fun p7 =>
(rBuildSlice 58 [.v (.int .i64 0), .v (.string ⟨#[]⟩), .v (.int .i64 0), .v (.int .i64 0), .v (.int .i64 0), .v (.int .u64 0), .v (.int .i64 0), .v (.string ⟨#[]⟩), .v (.string ⟨#[]⟩), .sl [] .nil, .v (.int .i64 0), .v (.int .i64 0), .v (.int .i64 0), .v (.string ⟨#[]⟩), .v (.string ⟨#[]⟩), .v (.int .i64 0), .v (.int .i64 0), .v (.int .u64 0), .v (.int .i64 0), .v (.string ⟨#[]⟩), .v (.string ⟨#[]⟩), .sl [] .nil, .v (.int .i64 0), .v (.int .i64 0), .v (.int .i64 0), .v (.int .i64 0), .v (.string ⟨#[]⟩), .v (.int .i64 0), .v (.int .i64 0), .v (.int .i64 0), .v (.string ⟨#[]⟩), .v (.string ⟨#[]⟩), .v (.int .i64 0), .v (.int .i64 0), .v (.int .u64 0), .v (.int .i64 0), .v (.string ⟨#[]⟩), .v (.string ⟨#[]⟩), .sl [] .nil, .v (.int .i64 0), .v (.int .i64 0), .v (.int .i64 0), .v (.int .i64 0), .v (.int .i64 0), .v (.int .i64 0), .v (.int .u64 0), .v (.int .i64 0), .v (.string ⟨#[]⟩), .v (.string ⟨#[]⟩), .sl [] .nil, .v (.int .i64 0), .v (.int .i64 0), .v (.int .i64 0), .sl [] .nil, .sl [] .nil, .sl [] .nil, .v (.int .i64 0), .v (.int .i64 0)] 1 [(0, p7)]).bind fun p8 =>
(rBuild [(0, 1), (1, 1), (2, 27), (29, 14), (43, 9), (52, 1), (53, 1), (54, 1), (55, 1), (56, 1), (57, 1)] [.v (.int .i64 0), .v (.string ⟨#[]⟩), .v (.int .i64 0), .v (.int .i64 0), .v (.int .i64 0), .v (.int .u64 0), .v (.int .i64 0), .v (.string ⟨#[]⟩), .v (.string ⟨#[]⟩), .sl [] .nil, .v (.int .i64 0), .v (.int .i64 0), .v (.int .i64 0), .v (.string ⟨#[]⟩), .v (.string ⟨#[]⟩), .v (.int .i64 0), .v (.int .i64 0), .v (.int .u64 0), .v (.int .i64 0), .v (.string ⟨#[]⟩), .v (.string ⟨#[]⟩), .sl [] .nil, .v (.int .i64 0), .v (.int .i64 0), .v (.int .i64 0), .v (.int .i64 0), .v (.string ⟨#[]⟩), .v (.int .i64 0), .v (.int .i64 0), .v (.int .i64 0), .v (.string ⟨#[]⟩), .v (.string ⟨#[]⟩), .v (.int .i64 0), .v (.int .i64 0), .v (.int .u64 0), .v (.int .i64 0), .v (.string ⟨#[]⟩), .v (.string ⟨#[]⟩), .sl [] .nil, .v (.int .i64 0), .v (.int .i64 0), .v (.int .i64 0), .v (.int .i64 0), .v (.int .i64 0), .v (.int .i64 0), .v (.int .u64 0), .v (.int .i64 0), .v (.string ⟨#[]⟩), .v (.string ⟨#[]⟩), .sl [] .nil, .v (.int .i64 0), .v (.int .i64 0), .v (.int .i64 0), .sl [] .nil, .sl [] .nil, .sl [] .nil, .v (.int .i64 0), .v (.int .i64 0)] [(0, (PV.v (.int .i64 6))), (4, p6), (7, p8)]).bind fun p9 =>
(rBuildSlice 58 [.v (.int .i64 0), .v (.string ⟨#[]⟩), .v (.int .i64 0), .v (.int .i64 0), .v (.int .i64 0), .v (.int .u64 0), .v (.int .i64 0), .v (.string ⟨#[]⟩), .v (.string ⟨#[]⟩), .sl [] .nil, .v (.int .i64 0), .v (.int .i64 0), .v (.int .i64 0), .v (.string ⟨#[]⟩), .v (.string ⟨#[]⟩), .v (.int .i64 0), .v (.int .i64 0), .v (.int .u64 0), .v (.int .i64 0), .v (.string ⟨#[]⟩), .v (.string ⟨#[]⟩), .sl [] .nil, .v (.int .i64 0), .v (.int .i64 0), .v (.int .i64 0), .v (.int .i64 0), .v (.string ⟨#[]⟩), .v (.int .i64 0), .v (.int .i64 0), .v (.int .i64 0), .v (.string ⟨#[]⟩), .v (.string ⟨#[]⟩), .v (.int .i64 0), .v (.int .i64 0), .v (.int .u64 0), .v (.int .i64 0), .v (.string ⟨#[]⟩), .v (.string ⟨#[]⟩), .sl [] .nil, .v (.int .i64 0), .v (.int .i64 0), .v (.int .i64 0), .v (.int .i64 0), .v (.int .i64 0), .v (.int .i64 0), .v (.int .u64 0), .v (.int .i64 0), .v (.string ⟨#[]⟩), .v (.string ⟨#[]⟩), .sl [] .nil, .v (.int .i64 0), .v (.int .i64 0), .v (.int .i64 0), .sl [] .nil, .sl [] .nil, .sl [] .nil, .v (.int .i64 0), .v (.int .i64 0)] 1 [(0, p9)]).bind fun p10 =>
(rBuild [(0, 1), (1, 1), (2, 1)] [.sl [] .nil, .v (.int .i64 0), .v (.int .i64 0)] [(0, p5)]).bind fun p11 =>
(rBuildSlice 3 [.sl [] .nil, .v (.int .i64 0), .v (.int .i64 0)] 1 [(0, p11)]).bind fun p12 =>
(rBuild [(0, 1), (1, 1), (2, 1), (3, 1)] [.sl [] .nil, .sl [] .nil, .sl [] .nil, .sl [] .nil] [(3, p12)]).bind fun p13 =>
(call (.func 21) [canon p13] st).bind fun r14 =>
(aExtract r14.1 0).bind fun p15 =>
(aExtract r14.1 1).bind fun p16 =>
(aBin Try.prog true .eql 3 p15 (PV.v (.int .i64 2))).bind fun p17 =>
(onG p17 true (
some (p16, r14.2)) r14.2).bind fun r19 =>
(onG p17 true (
(aBin Try.prog true .eql 3 r19.1 (PV.v (.int .i64 1))).bind fun p22 =>
some (p22, r19.2)) r19.2).bind fun r21 =>
(aPick p17 r21.1 (PV.v (.bool false))).bind fun p23 =>
(onG p23 true (
some (p5, r21.2)) r21.2).bind fun r25 =>
(onG p23 true (
some (p10, r25.2)) r25.2).bind fun r27 =>
(onG p23 true (
(call (.func 10) [canon r25.1, canon r27.1] r27.2).bind fun r30 =>
some (r30.1, r30.2)) r27.2).bind fun r29 =>
(aPick p23 r29.1 (PV.v (.bool false))).bind fun p31 =>
(onG p31 true (
some (p5, r29.2)) r29.2).bind fun r33 =>
(onG p31 true (
(call (.func 10) [canon r33.1, canon (PV.sl [] .nil)] r33.2).bind fun r36 =>
some (r36.1, r36.2)) r33.2).bind fun r35 =>
(onG p31 true (
(aUn Try.prog .not r35.1).bind fun p39 =>
some (p39, r35.2)) r35.2).bind fun r38 =>
(aPick p31 r38.1 (PV.v (.bool false))).bind fun p40 =>
fin st.stk.length st.tk.length st.lp.length [p40] r38.2
theorem S7_eq (st : St) : E L (.func 7) [] st = S7 (E L) itE st := (E_func' (by rfl) Try.func7 _ _).trans (by kernel_rfl)
/-- (*padlock/padlockref04.Maker).pick -/
noncomputable def S22 (call : CallF) (it : LoopF) (a0 a1 : PV) (st : St) : Option (PV × St) :=
(aNilCheck a0).bind fun p1 =>
(shift p1 1).bind fun p2 =>
(aLoad false 1 p2 st).bind fun p3 =>
need (st = st) <|
(aNilCheck a0).bind fun p4 =>
(shift p4 0).bind fun p5 =>
(aLoad false 1 p5 st).bind fun p6 =>
need (st = st) <|
(aLen Try.prog 22 p6).bind fun p7 =>
(aBin Try.prog false .geq 3 p3 p7).bind fun p8 =>
onBool p8 fun b9 => (bif b9 then
some (Ex.ret, [a0, a1, (PV.v (.int .i64 0))], st)
else
some (Ex.normal, [a0, a1, (PV.v (.int .i64 0))], st)).bind fun r10 =>
seqK r10.1 ((aNilCheck (nth r10.2.1 0)).bind fun p12 =>
(shift p12 1).bind fun p13 =>
(aLoad false 1 p13 r10.2.2).bind fun p14 =>
(aBin Try.prog true .add 3 p14 (PV.v (.int .i64 1))).bind fun p15 =>
(aNilCheck (nth r10.2.1 0)).bind fun p16 =>
(shift p16 1).bind fun p17 =>
(aStore st.stk.length 1 p17 p15 r10.2.2).bind fun st18 =>
(aNilCheck (nth r10.2.1 0)).bind fun p19 =>
(shift p19 0).bind fun p20 =>
(aLoad false 1 p20 st18).bind fun p21 =>
need (st18 = st18) <|
(aNilCheck (nth r10.2.1 0)).bind fun p22 =>
(shift p22 1).bind fun p23 =>
(aLoad false 1 p23 st18).bind fun p24 =>
need (st18 = st18) <|
(aBin Try.prog true .sub 3 p24 (PV.v (.int .i64 1))).bind fun p25 =>
(aIndexAddr Try.prog 22 p21 p25).bind fun p26 =>
(aLoad false 1 p26 st18).bind fun p27 =>
need (st18 = st18) <|
(aConv Try.prog 3 59 p27).bind fun p28 =>
(aConv Try.prog 3 59 (nth r10.2.1 1)).bind fun p29 =>
(aBin Try.prog false .rem 59 p28 p29).bind fun p30 =>
(aConv Try.prog 59 3 p30).bind fun p31 =>
fin st.stk.length st.tk.length st.lp.length [p31] st18) fun x11 =>
retK x11 (fin st.stk.length st.tk.length st.lp.length [(nth r10.2.1 2)] r10.2.2)
theorem S22_eq (a0 a1 : PV) (st : St) : E L (.func 22) [a0, a1] st = S22 (E L) itE a0 a1 st := (E_func' (by rfl) Try.func22 _ _).trans (by kernel_rfl)
/-- (*padlock/padlockref04.Maker).name -/
noncomputable def S23 (call : CallF) (it : LoopF) (a0 : PV) (st : St) : Option (PV × St) :=
(rBuildSlice 1 [.v (.string ⟨#[]⟩)] 8 [(0, (PV.v (.string ⟨#[97]⟩))), (1, (PV.v (.string ⟨#[98]⟩))), (2, (PV.v (.string ⟨#[120]⟩))), (3, (PV.v (.string ⟨#[121]⟩))), (4, (PV.v (.string ⟨#[103]⟩))), (5, (PV.v (.string ⟨#[82]⟩))), (6, (PV.v (.string ⟨#[81]⟩))), (7, (PV.v (.string ⟨#[102]⟩)))]).bind fun p1 =>
(call (.func 22) [canon a0, canon (PV.v (.int .i64 8))] st).bind fun r2 =>
(aIndexAddr Try.prog 47 p1 r2.1).bind fun p3 =>
(aLoad false 1 p3 r2.2).bind fun p4 =>
fin st.stk.length st.tk.length st.lp.length [p4] r2.2
theorem S23_eq (a0 : PV) (st : St) : E L (.func 23) [a0] st = S23 (E L) itE a0 st := (E_func' (by rfl) Try.func23 _ _).trans (by kernel_rfl)
/-- (*padlock/padlockref04.Maker).kind -/
noncomputable def S43 (call : CallF) (it : LoopF) (a0 : PV) (st : St) : Option (PV × St) :=
let q2 : PV := .ptr false st.stk.length 0
let st1 := st.push [.v (.int .i64 0), .v (.string ⟨#[]⟩)]
(call (.func 22) [canon a0, canon (PV.v (.int .i64 4))] st1).bind fun r3 =>
(aBin Try.prog true .add 3 (PV.v (.int .i64 1)) r3.1).bind fun p4 =>
(aBin Try.prog true .eql 3 p4 (PV.v (.int .i64 4))).bind fun p5 =>
onBool p5 fun b6 => (bif b6 then
(call (.func 23) [canon a0] r3.2).bind fun r8 =>
(rBuild [(0, 1), (1, 1)] [.v (.int .i64 0), .v (.string ⟨#[]⟩)] [(0, p4), (1, r8.1)]).bind fun p9 =>
(aStore st.stk.length 2 q2 p9 r8.2).bind fun st10 =>
some (Ex.ret, [q2, p4], st10)
else
some (Ex.normal, [q2, p4], r3.2)).bind fun r7 =>
seqK r7.1 ((rBuild [(0, 1), (1, 1)] [.v (.int .i64 0), .v (.string ⟨#[]⟩)] [(0, (nth r7.2.1 1))]).bind fun p12 =>
(aStore st.stk.length 2 (nth r7.2.1 0) p12 r7.2.2).bind fun st13 =>
(aLoad true 2 (nth r7.2.1 0) st13).bind fun p14 =>
fin st.stk.length st.tk.length st.lp.length [p14] st13) fun x11 =>
retK x11 ((aLoad true 2 (nth r7.2.1 0) r7.2.2).bind fun p15 =>
fin st.stk.length st.tk.length st.lp.length [p15] r7.2.2)
theorem S43_eq (a0 : PV) (st : St) : E L (.func 43) [a0] st = S43 (E L) itE a0 st := (E_func' (by rfl) Try.func43 _ _).trans (by kernel_rfl)
noncomputable def S24.b0 (call : CallF) (it : LoopF) (base lb : Nat) (vs3 : List PV) (st4 : St) : Option (Ex × List PV × St) :=
(aBin Try.prog true .gtr 3 (nth vs3 2) (PV.v (.int .i64 0))).bind fun p5 =>
onBool p5 fun b6 => (bif b6 then
some (Ex.normal, [(nth vs3 0), (nth vs3 1), (nth vs3 2)], st4)
else
some ((Ex.exit 0), [(nth vs3 0), (nth vs3 1), (nth vs3 2)], st4)).bind fun r7 =>
seqK r7.1 ((call (.func 23) [canon (nth r7.2.1 0)] r7.2.2).bind fun r9 =>
(call (.func 43) [canon (nth r7.2.1 0)] r9.2).bind fun r10 =>
(rBuild [(0, 1), (1, 2), (3, 1), (4, 1)] [.v (.string ⟨#[]⟩), .v (.int .i64 0), .v (.string ⟨#[]⟩), .v (.int .i64 0), .v (.int .i64 0)] [(0, r9.1), (1, r10.1)]).bind fun p11 =>
(rBuildSlice 5 [.v (.string ⟨#[]⟩), .v (.int .i64 0), .v (.string ⟨#[]⟩), .v (.int .i64 0), .v (.int .i64 0)] 1 [(0, p11)]).bind fun p12 =>
(elemsOf r10.2 p12).bind fun ys13 =>
(rAppend base [.v (.string ⟨#[]⟩), .v (.int .i64 0), .v (.string ⟨#[]⟩), .v (.int .i64 0), .v (.int .i64 0)] 5 56 (nth r7.2.1 1) ys13 r10.2).bind fun r14 =>
(aBin Try.prog true .sub 3 (nth r7.2.1 2) (PV.v (.int .i64 1))).bind fun p15 =>
some (Ex.normal, [(nth r7.2.1 0), r14.1, p15], r14.2)) fun x8 =>
some (x8, [(nth r7.2.1 0), (nth r7.2.1 1), (nth r7.2.1 2)], r7.2.2)
/-- (*padlock/padlockref04.Maker).names -/
noncomputable def S24 (call : CallF) (it : LoopF) (a0 a1 : PV) (st : St) : Option (PV × St) :=
(call (.func 22) [canon a0, canon a1] st).bind fun r1 =>
(it (S24.b0 call it st.stk.length st.lp.length) [a0, (PV.sl [] .nil), r1.1] r1.2).bind fun r2 =>
seqK (Ex.outOf 0 r2.1) (fin st.stk.length st.tk.length st.lp.length [(nth r2.2.1 1)] r2.2.2) fun x16 =>
retK x16 (fin st.stk.length st.tk.length st.lp.length [PV.u] r2.2.2)
theorem S24_eq (a0 a1 : PV) (st : St) : E L (.func 24) [a0, a1] st = S24 (E L) itE a0 a1 st := (E_func' (by rfl) Try.func24 _ _).trans (by kernel_rfl)
/-- (*padlock/padlockref04.Maker).expr -/
noncomputable def S49 (call : CallF) (it : LoopF) (a0 a1 : PV) (st : St) : Option (PV × St) :=
let q2 : PV := .ptr false st.stk.length 0
let st1 := st.push [.v (.int .i64 0), .v (.int .i64 0), .v (.int .u64 0), .v (.int .i64 0), .v (.string ⟨#[]⟩), .v (.string ⟨#[]⟩), .sl [] .nil, .v (.int .i64 0), .v (.int .i64 0)]
(call (.func 22) [canon a0, canon (PV.v (.int .i64 9))] st1).bind fun r3 =>
(aBin Try.prog true .add 3 (PV.v (.int .i64 1)) r3.1).bind fun p4 =>
(aBin Try.prog true .eql 3 a1 (PV.v (.int .i64 0))).bind fun p5 =>
(onG p5 true (
some (p4, r3.2)) r3.2).bind fun r7 =>
(onG p5 true (
(aBin Try.prog true .gtr 3 r7.1 (PV.v (.int .i64 5))).bind fun p10 =>
some (p10, r7.2)) r7.2).bind fun r9 =>
(aPick p5 r9.1 (PV.v (.bool false))).bind fun p11 =>
onBool p11 fun b12 => (bif b12 then
some (Ex.normal, [a0, a1, q2, (PV.v (.int .i64 5))], r9.2)
else
some (Ex.normal, [a0, a1, q2, p4], r9.2)).bind fun r13 =>
seqK r13.1 ((aBin Try.prog true .eql 3 (nth r13.2.1 3) (PV.v (.int .i64 1))).bind fun p15 =>
onBool p15 fun b16 => (bif b16 then
(call (.func 22) [canon (nth r13.2.1 0), canon (PV.v (.int .i64 200))] r13.2.2).bind fun r18 =>
(aConv Try.prog 3 38 r18.1).bind fun p19 =>
(rBuild [(0, 1), (1, 1), (2, 1), (3, 2), (5, 1), (6, 1), (7, 1), (8, 1)] [.v (.int .i64 0), .v (.int .i64 0), .v (.int .u64 0), .v (.int .i64 0), .v (.string ⟨#[]⟩), .v (.string ⟨#[]⟩), .sl [] .nil, .v (.int .i64 0), .v (.int .i64 0)] [(0, (nth r13.2.1 3)), (2, p19)]).bind fun p20 =>
(aStore st.stk.length 9 (nth r13.2.1 2) p20 r18.2).bind fun st21 =>
some (Ex.ret, [(nth r13.2.1 0), (nth r13.2.1 1), (nth r13.2.1 2), (nth r13.2.1 3)], st21)
else
(aBin Try.prog true .eql 3 (nth r13.2.1 3) (PV.v (.int .i64 2))).bind fun p22 =>
onBool p22 fun b23 => (bif b23 then
(rBuildSlice 1 [.v (.int .u64 0)] 4 [(0, (PV.v (.int .u64 0))), (1, (PV.v (.int .u64 9223372036854775808))), (2, (PV.v (.int .u64 9221120237041090560))), (3, (PV.v (.int .u64 4607182418800017408)))]).bind fun p25 =>
(call (.func 22) [canon (nth r13.2.1 0), canon (PV.v (.int .i64 4))] r13.2.2).bind fun r26 =>
(aIndexAddr Try.prog 107 p25 r26.1).bind fun p27 =>
(aLoad false 1 p27 r26.2).bind fun p28 =>
(rBuild [(0, 1), (1, 1), (2, 1), (3, 2), (5, 1), (6, 1), (7, 1), (8, 1)] [.v (.int .i64 0), .v (.int .i64 0), .v (.int .u64 0), .v (.int .i64 0), .v (.string ⟨#[]⟩), .v (.string ⟨#[]⟩), .sl [] .nil, .v (.int .i64 0), .v (.int .i64 0)] [(0, (nth r13.2.1 3)), (2, p28)]).bind fun p29 =>
(aStore st.stk.length 9 (nth r13.2.1 2) p29 r26.2).bind fun st30 =>
some (Ex.ret, [(nth r13.2.1 0), (nth r13.2.1 1), (nth r13.2.1 2), (nth r13.2.1 3)], st30)
else
(aBin Try.prog true .eql 3 (nth r13.2.1 3) (PV.v (.int .i64 3))).bind fun p31 =>
onBool p31 fun b32 => (bif b32 then
(call (.func 22) [canon (nth r13.2.1 0), canon (PV.v (.int .i64 4))] r13.2.2).bind fun r34 =>
(aBin Try.prog true .eql 3 r34.1 (PV.v (.int .i64 0))).bind fun p35 =>
onBool p35 fun b36 => (bif b36 then
(rBuild [(0, 1), (1, 1)] [.v (.int .i64 0), .v (.string ⟨#[]⟩)] [(0, (PV.v (.int .i64 3)))]).bind fun p38 =>
(rBuild [(0, 1), (1, 1), (2, 1), (3, 2), (5, 1), (6, 1), (7, 1), (8, 1)] [.v (.int .i64 0), .v (.int .i64 0), .v (.int .u64 0), .v (.int .i64 0), .v (.string ⟨#[]⟩), .v (.string ⟨#[]⟩), .sl [] .nil, .v (.int .i64 0), .v (.int .i64 0)] [(0, (nth r13.2.1 3)), (3, p38)]).bind fun p39 =>
(aStore st.stk.length 9 (nth r13.2.1 2) p39 r34.2).bind fun st40 =>
some (Ex.ret, [(nth r13.2.1 0), (nth r13.2.1 1), (nth r13.2.1 2), (nth r13.2.1 3)], st40)
else
some (Ex.normal, [(nth r13.2.1 0), (nth r13.2.1 1), (nth r13.2.1 2), (nth r13.2.1 3)], r34.2)).bind fun r37 =>
seqK r37.1 ((call (.func 23) [canon (nth r37.2.1 0)] r37.2.2).bind fun r42 =>
(rBuild [(0, 1), (1, 1)] [.v (.int .i64 0), .v (.string ⟨#[]⟩)] [(0, (PV.v (.int .i64 4))), (1, r42.1)]).bind fun p43 =>
(rBuild [(0, 1), (1, 1), (2, 1), (3, 2), (5, 1), (6, 1), (7, 1), (8, 1)] [.v (.int .i64 0), .v (.int .i64 0), .v (.int .u64 0), .v (.int .i64 0), .v (.string ⟨#[]⟩), .v (.string ⟨#[]⟩), .sl [] .nil, .v (.int .i64 0), .v (.int .i64 0)] [(0, (nth r37.2.1 3)), (3, p43)]).bind fun p44 =>
(aStore st.stk.length 9 (nth r37.2.1 2) p44 r42.2).bind fun st45 =>
some (Ex.ret, [(nth r37.2.1 0), (nth r37.2.1 1), (nth r37.2.1 2), (nth r37.2.1 3)], st45)) fun x41 =>
some (x41, [(nth r37.2.1 0), (nth r37.2.1 1), (nth r37.2.1 2), (nth r37.2.1 3)], r37.2.2)
else
(aBin Try.prog true .eql 3 (nth r13.2.1 3) (PV.v (.int .i64 4))).bind fun p46 =>
onBool p46 fun b47 => (bif b47 then
(call (.func 22) [canon (nth r13.2.1 0), canon (PV.v (.int .i64 16))] r13.2.2).bind fun r49 =>
(aConv Try.prog 3 38 r49.1).bind fun p50 =>
(rBuild [(0, 1), (1, 1), (2, 1), (3, 2), (5, 1), (6, 1), (7, 1), (8, 1)] [.v (.int .i64 0), .v (.int .i64 0), .v (.int .u64 0), .v (.int .i64 0), .v (.string ⟨#[]⟩), .v (.string ⟨#[]⟩), .sl [] .nil, .v (.int .i64 0), .v (.int .i64 0)] [(0, (nth r13.2.1 3)), (2, p50)]).bind fun p51 =>
(aStore st.stk.length 9 (nth r13.2.1 2) p51 r49.2).bind fun st52 =>
some (Ex.ret, [(nth r13.2.1 0), (nth r13.2.1 1), (nth r13.2.1 2), (nth r13.2.1 3)], st52)
else
(aBin Try.prog true .eql 3 (nth r13.2.1 3) (PV.v (.int .i64 5))).bind fun p53 =>
onBool p53 fun b54 => (bif b54 then
(call (.func 23) [canon (nth r13.2.1 0)] r13.2.2).bind fun r56 =>
(rBuild [(0, 1), (1, 1), (2, 1), (3, 2), (5, 1), (6, 1), (7, 1), (8, 1)] [.v (.int .i64 0), .v (.int .i64 0), .v (.int .u64 0), .v (.int .i64 0), .v (.string ⟨#[]⟩), .v (.string ⟨#[]⟩), .sl [] .nil, .v (.int .i64 0), .v (.int .i64 0)] [(0, (nth r13.2.1 3)), (4, r56.1)]).bind fun p57 =>
(aStore st.stk.length 9 (nth r13.2.1 2) p57 r56.2).bind fun st58 =>
some (Ex.ret, [(nth r13.2.1 0), (nth r13.2.1 1), (nth r13.2.1 2), (nth r13.2.1 3)], st58)
else
(aBin Try.prog true .eql 3 (nth r13.2.1 3) (PV.v (.int .i64 9))).bind fun p59 =>
onBool p59 fun b60 => (bif b60 then
(call (.func 22) [canon (nth r13.2.1 0), canon (PV.v (.int .i64 9))] r13.2.2).bind fun r62 =>
(aBin Try.prog true .sub 3 (nth r13.2.1 1) (PV.v (.int .i64 1))).bind fun p63 =>
(call (.func 49) [canon (nth r13.2.1 0), canon p63] r62.2).bind fun r64 =>
(aBin Try.prog true .sub 3 (nth r13.2.1 1) (PV.v (.int .i64 1))).bind fun p65 =>
(call (.func 49) [canon (nth r13.2.1 0), canon p65] r64.2).bind fun r66 =>
(rBuildSlice 9 [.v (.int .i64 0), .v (.int .i64 0), .v (.int .u64 0), .v (.int .i64 0), .v (.string ⟨#[]⟩), .v (.string ⟨#[]⟩), .sl [] .nil, .v (.int .i64 0), .v (.int .i64 0)] 2 [(0, r64.1), (1, r66.1)]).bind fun p67 =>
(rBuild [(0, 1), (1, 1), (2, 1), (3, 2), (5, 1), (6, 1), (7, 1), (8, 1)] [.v (.int .i64 0), .v (.int .i64 0), .v (.int .u64 0), .v (.int .i64 0), .v (.string ⟨#[]⟩), .v (.string ⟨#[]⟩), .sl [] .nil, .v (.int .i64 0), .v (.int .i64 0)] [(0, (nth r13.2.1 3)), (1, r62.1), (5, p67)]).bind fun p68 =>
(aStore st.stk.length 9 (nth r13.2.1 2) p68 r66.2).bind fun st69 =>
some (Ex.ret, [(nth r13.2.1 0), (nth r13.2.1 1), (nth r13.2.1 2), (nth r13.2.1 3)], st69)
else
some (Ex.normal, [(nth r13.2.1 0), (nth r13.2.1 1), (nth r13.2.1 2), (nth r13.2.1 3)], r13.2.2)).bind fun r61 =>
some (r61.1, [(nth r61.2.1 0), (nth r61.2.1 1), (nth r61.2.1 2), (nth r61.2.1 3)], r61.2.2)).bind fun r55 =>
some (r55.1, [(nth r55.2.1 0), (nth r55.2.1 1), (nth r55.2.1 2), (nth r55.2.1 3)], r55.2.2)).bind fun r48 =>
some (r48.1, [(nth r48.2.1 0), (nth r48.2.1 1), (nth r48.2.1 2), (nth r48.2.1 3)], r48.2.2)).bind fun r33 =>
some (r33.1, [(nth r33.2.1 0), (nth r33.2.1 1), (nth r33.2.1 2), (nth r33.2.1 3)], r33.2.2)).bind fun r24 =>
some (r24.1, [(nth r24.2.1 0), (nth r24.2.1 1), (nth r24.2.1 2), (nth r24.2.1 3)], r24.2.2)).bind fun r17 =>
seqK (Ex.outOf 0 r17.1) ((aBin Try.prog true .sub 3 (nth r17.2.1 1) (PV.v (.int .i64 1))).bind fun p71 =>
(call (.func 49) [canon (nth r17.2.1 0), canon p71] r17.2.2).bind fun r72 =>
(rBuildSlice 9 [.v (.int .i64 0), .v (.int .i64 0), .v (.int .u64 0), .v (.int .i64 0), .v (.string ⟨#[]⟩), .v (.string ⟨#[]⟩), .sl [] .nil, .v (.int .i64 0), .v (.int .i64 0)] 1 [(0, r72.1)]).bind fun p73 =>
(rBuild [(0, 1), (1, 1), (2, 1), (3, 2), (5, 1), (6, 1), (7, 1), (8, 1)] [.v (.int .i64 0), .v (.int .i64 0), .v (.int .u64 0), .v (.int .i64 0), .v (.string ⟨#[]⟩), .v (.string ⟨#[]⟩), .sl [] .nil, .v (.int .i64 0), .v (.int .i64 0)] [(0, (nth r17.2.1 3)), (5, p73)]).bind fun p74 =>
(aStore st.stk.length 9 (nth r17.2.1 2) p74 r72.2).bind fun st75 =>
(aLoad true 9 (nth r17.2.1 2) st75).bind fun p76 =>
fin st.stk.length st.tk.length st.lp.length [p76] st75) fun x70 =>
retK x70 ((aLoad true 9 (nth r17.2.1 2) r17.2.2).bind fun p77 =>
fin st.stk.length st.tk.length st.lp.length [p77] r17.2.2)) fun x14 =>
retK x14 ((aLoad true 9 (nth r13.2.1 2) r13.2.2).bind fun p78 =>
fin st.stk.length st.tk.length st.lp.length [p78] r13.2.2)
theorem S49_eq (a0 a1 : PV) (st : St) : E L (.func 49) [a0, a1] st = S49 (E L) itE a0 a1 st := (E_func' (by rfl) Try.func49 _ _).trans (by kernel_rfl)
/-- (*padlock/padlockref04.Maker).place -/
noncomputable def S48 (call : CallF) (it : LoopF) (a0 : PV) (st : St) : Option (PV × St) :=
let q2 : PV := .ptr false st.stk.length 0
let st1 := st.push [.v (.int .i64 0), .v (.string ⟨#[]⟩), .v (.string ⟨#[]⟩), .v (.int .i64 0), .v (.int .i64 0), .v (.int .u64 0), .v (.int .i64 0), .v (.string ⟨#[]⟩), .v (.string ⟨#[]⟩), .sl [] .nil, .v (.int .i64 0), .v (.int .i64 0), .v (.int .i64 0), .v (.int .i64 0)]
(call (.func 22) [canon a0, canon (PV.v (.int .i64 3))] st1).bind fun r3 =>
(aBin Try.prog true .eql 3 r3.1 (PV.v (.int .i64 0))).bind fun p4 =>
onBool p4 fun b5 => (bif b5 then
(call (.func 23) [canon a0] r3.2).bind fun r7 =>
(rBuild [(0, 1), (1, 1), (2, 1), (3, 9), (12, 1), (13, 1)] [.v (.int .i64 0), .v (.string ⟨#[]⟩), .v (.string ⟨#[]⟩), .v (.int .i64 0), .v (.int .i64 0), .v (.int .u64 0), .v (.int .i64 0), .v (.string ⟨#[]⟩), .v (.string ⟨#[]⟩), .sl [] .nil, .v (.int .i64 0), .v (.int .i64 0), .v (.int .i64 0), .v (.int .i64 0)] [(0, (PV.v (.int .i64 1))), (1, r7.1)]).bind fun p8 =>
(aStore st.stk.length 14 q2 p8 r7.2).bind fun st9 =>
some (Ex.ret, [a0, q2], st9)
else
(aBin Try.prog true .eql 3 r3.1 (PV.v (.int .i64 1))).bind fun p10 =>
onBool p10 fun b11 => (bif b11 then
(call (.func 23) [canon a0] r3.2).bind fun r13 =>
(call (.func 23) [canon a0] r13.2).bind fun r14 =>
(rBuild [(0, 1), (1, 1), (2, 1), (3, 9), (12, 1), (13, 1)] [.v (.int .i64 0), .v (.string ⟨#[]⟩), .v (.string ⟨#[]⟩), .v (.int .i64 0), .v (.int .i64 0), .v (.int .u64 0), .v (.int .i64 0), .v (.string ⟨#[]⟩), .v (.string ⟨#[]⟩), .sl [] .nil, .v (.int .i64 0), .v (.int .i64 0), .v (.int .i64 0), .v (.int .i64 0)] [(0, (PV.v (.int .i64 2))), (1, r13.1), (2, r14.1)]).bind fun p15 =>
(aStore st.stk.length 14 q2 p15 r14.2).bind fun st16 =>
some (Ex.ret, [a0, q2], st16)
else
some (Ex.normal, [a0, q2], r3.2)).bind fun r12 =>
some (r12.1, [(nth r12.2.1 0), (nth r12.2.1 1)], r12.2.2)).bind fun r6 =>
seqK (Ex.outOf 0 r6.1) ((call (.func 23) [canon (nth r6.2.1 0)] r6.2.2).bind fun r18 =>
(call (.func 49) [canon (nth r6.2.1 0), canon (PV.v (.int .i64 2))] r18.2).bind fun r19 =>
(rBuild [(0, 1), (1, 1), (2, 1), (3, 9), (12, 1), (13, 1)] [.v (.int .i64 0), .v (.string ⟨#[]⟩), .v (.string ⟨#[]⟩), .v (.int .i64 0), .v (.int .i64 0), .v (.int .u64 0), .v (.int .i64 0), .v (.string ⟨#[]⟩), .v (.string ⟨#[]⟩), .sl [] .nil, .v (.int .i64 0), .v (.int .i64 0), .v (.int .i64 0), .v (.int .i64 0)] [(0, (PV.v (.int .i64 3))), (1, r18.1), (3, r19.1)]).bind fun p20 =>
(aStore st.stk.length 14 (nth r6.2.1 1) p20 r19.2).bind fun st21 =>
(aLoad true 14 (nth r6.2.1 1) st21).bind fun p22 =>
fin st.stk.length st.tk.length st.lp.length [p22] st21) fun x17 =>
retK x17 ((aLoad true 14 (nth r6.2.1 1) r6.2.2).bind fun p23 =>
fin st.stk.length st.tk.length st.lp.length [p23] r6.2.2)
theorem S48_eq (a0 : PV) (st : St) : E L (.func 48) [a0] st = S48 (E L) itE a0 st := (E_func' (by rfl) Try.func48 _ _).trans (by kernel_rfl)
end Go.Proofs.Ytkbhejcfejembaa.S

/- The seat's functions, each as a Lean function over plain values, and that the evaluator comes to it: written by my program mkS.py. No condition. -/
namespace Go.Proofs.Ytkbhejcfejembaa.S
open Go Go.AM Go.Proofs
set_option linter.unusedVariables false
/-- (*padlock/padlockref04.Maker).right -/
noncomputable def S47 (call : CallF) (it : LoopF) (a0 : PV) (st : St) : Option (PV × St) :=
let q2 : PV := .ptr false st.stk.length 0
let st1 := st.push [.v (.int .i64 0), .v (.int .i64 0), .v (.int .i64 0), .v (.int .u64 0), .v (.int .i64 0), .v (.string ⟨#[]⟩), .v (.string ⟨#[]⟩), .sl [] .nil, .v (.int .i64 0), .v (.int .i64 0), .v (.int .i64 0), .v (.string ⟨#[]⟩), .v (.string ⟨#[]⟩), .v (.int .i64 0), .v (.int .i64 0), .v (.int .u64 0), .v (.int .i64 0), .v (.string ⟨#[]⟩), .v (.string ⟨#[]⟩), .sl [] .nil, .v (.int .i64 0), .v (.int .i64 0), .v (.int .i64 0), .v (.int .i64 0), .v (.string ⟨#[]⟩), .v (.int .i64 0), .v (.int .i64 0)]
(call (.func 22) [canon a0, canon (PV.v (.int .i64 6))] st1).bind fun r3 =>
(aBin Try.prog true .eql 3 r3.1 (PV.v (.int .i64 0))).bind fun p4 =>
onBool p4 fun b5 => (bif b5 then
(call (.func 48) [canon a0] r3.2).bind fun r7 =>
(rBuild [(0, 1), (1, 9), (10, 14), (24, 1), (25, 1), (26, 1)] [.v (.int .i64 0), .v (.int .i64 0), .v (.int .i64 0), .v (.int .u64 0), .v (.int .i64 0), .v (.string ⟨#[]⟩), .v (.string ⟨#[]⟩), .sl [] .nil, .v (.int .i64 0), .v (.int .i64 0), .v (.int .i64 0), .v (.string ⟨#[]⟩), .v (.string ⟨#[]⟩), .v (.int .i64 0), .v (.int .i64 0), .v (.int .u64 0), .v (.int .i64 0), .v (.string ⟨#[]⟩), .v (.string ⟨#[]⟩), .sl [] .nil, .v (.int .i64 0), .v (.int .i64 0), .v (.int .i64 0), .v (.int .i64 0), .v (.string ⟨#[]⟩), .v (.int .i64 0), .v (.int .i64 0)] [(0, (PV.v (.int .i64 2))), (2, r7.1)]).bind fun p8 =>
(aStore st.stk.length 27 q2 p8 r7.2).bind fun st9 =>
some (Ex.ret, [a0, q2], st9)
else
(aBin Try.prog true .eql 3 r3.1 (PV.v (.int .i64 1))).bind fun p10 =>
onBool p10 fun b11 => (bif b11 then
(call (.func 23) [canon a0] r3.2).bind fun r13 =>
(rBuild [(0, 1), (1, 9), (10, 14), (24, 1), (25, 1), (26, 1)] [.v (.int .i64 0), .v (.int .i64 0), .v (.int .i64 0), .v (.int .u64 0), .v (.int .i64 0), .v (.string ⟨#[]⟩), .v (.string ⟨#[]⟩), .sl [] .nil, .v (.int .i64 0), .v (.int .i64 0), .v (.int .i64 0), .v (.string ⟨#[]⟩), .v (.string ⟨#[]⟩), .v (.int .i64 0), .v (.int .i64 0), .v (.int .u64 0), .v (.int .i64 0), .v (.string ⟨#[]⟩), .v (.string ⟨#[]⟩), .sl [] .nil, .v (.int .i64 0), .v (.int .i64 0), .v (.int .i64 0), .v (.int .i64 0), .v (.string ⟨#[]⟩), .v (.int .i64 0), .v (.int .i64 0)] [(0, (PV.v (.int .i64 3))), (3, r13.1)]).bind fun p14 =>
(aStore st.stk.length 27 q2 p14 r13.2).bind fun st15 =>
some (Ex.ret, [a0, q2], st15)
else
(aBin Try.prog true .eql 3 r3.1 (PV.v (.int .i64 2))).bind fun p16 =>
onBool p16 fun b17 => (bif b17 then
(call (.func 49) [canon a0, canon (PV.v (.int .i64 2))] r3.2).bind fun r19 =>
(rBuild [(0, 1), (1, 9), (10, 14), (24, 1), (25, 1), (26, 1)] [.v (.int .i64 0), .v (.int .i64 0), .v (.int .i64 0), .v (.int .u64 0), .v (.int .i64 0), .v (.string ⟨#[]⟩), .v (.string ⟨#[]⟩), .sl [] .nil, .v (.int .i64 0), .v (.int .i64 0), .v (.int .i64 0), .v (.string ⟨#[]⟩), .v (.string ⟨#[]⟩), .v (.int .i64 0), .v (.int .i64 0), .v (.int .u64 0), .v (.int .i64 0), .v (.string ⟨#[]⟩), .v (.string ⟨#[]⟩), .sl [] .nil, .v (.int .i64 0), .v (.int .i64 0), .v (.int .i64 0), .v (.int .i64 0), .v (.string ⟨#[]⟩), .v (.int .i64 0), .v (.int .i64 0)] [(0, (PV.v (.int .i64 4))), (1, r19.1)]).bind fun p20 =>
(aStore st.stk.length 27 q2 p20 r19.2).bind fun st21 =>
some (Ex.ret, [a0, q2], st21)
else
(aBin Try.prog true .eql 3 r3.1 (PV.v (.int .i64 3))).bind fun p22 =>
onBool p22 fun b23 => (bif b23 then
(call (.func 23) [canon a0] r3.2).bind fun r25 =>
(rBuild [(0, 1), (1, 9), (10, 14), (24, 1), (25, 1), (26, 1)] [.v (.int .i64 0), .v (.int .i64 0), .v (.int .i64 0), .v (.int .u64 0), .v (.int .i64 0), .v (.string ⟨#[]⟩), .v (.string ⟨#[]⟩), .sl [] .nil, .v (.int .i64 0), .v (.int .i64 0), .v (.int .i64 0), .v (.string ⟨#[]⟩), .v (.string ⟨#[]⟩), .v (.int .i64 0), .v (.int .i64 0), .v (.int .u64 0), .v (.int .i64 0), .v (.string ⟨#[]⟩), .v (.string ⟨#[]⟩), .sl [] .nil, .v (.int .i64 0), .v (.int .i64 0), .v (.int .i64 0), .v (.int .i64 0), .v (.string ⟨#[]⟩), .v (.int .i64 0), .v (.int .i64 0)] [(0, (PV.v (.int .i64 5))), (3, r25.1)]).bind fun p26 =>
(aStore st.stk.length 27 q2 p26 r25.2).bind fun st27 =>
some (Ex.ret, [a0, q2], st27)
else
some (Ex.normal, [a0, q2], r3.2)).bind fun r24 =>
some (r24.1, [(nth r24.2.1 0), (nth r24.2.1 1)], r24.2.2)).bind fun r18 =>
some (r18.1, [(nth r18.2.1 0), (nth r18.2.1 1)], r18.2.2)).bind fun r12 =>
some (r12.1, [(nth r12.2.1 0), (nth r12.2.1 1)], r12.2.2)).bind fun r6 =>
seqK (Ex.outOf 0 r6.1) ((call (.func 49) [canon (nth r6.2.1 0), canon (PV.v (.int .i64 3))] r6.2.2).bind fun r29 =>
(rBuild [(0, 1), (1, 9), (10, 14), (24, 1), (25, 1), (26, 1)] [.v (.int .i64 0), .v (.int .i64 0), .v (.int .i64 0), .v (.int .u64 0), .v (.int .i64 0), .v (.string ⟨#[]⟩), .v (.string ⟨#[]⟩), .sl [] .nil, .v (.int .i64 0), .v (.int .i64 0), .v (.int .i64 0), .v (.string ⟨#[]⟩), .v (.string ⟨#[]⟩), .v (.int .i64 0), .v (.int .i64 0), .v (.int .u64 0), .v (.int .i64 0), .v (.string ⟨#[]⟩), .v (.string ⟨#[]⟩), .sl [] .nil, .v (.int .i64 0), .v (.int .i64 0), .v (.int .i64 0), .v (.int .i64 0), .v (.string ⟨#[]⟩), .v (.int .i64 0), .v (.int .i64 0)] [(0, (PV.v (.int .i64 1))), (1, r29.1)]).bind fun p30 =>
(aStore st.stk.length 27 (nth r6.2.1 1) p30 r29.2).bind fun st31 =>
(aLoad true 27 (nth r6.2.1 1) st31).bind fun p32 =>
fin st.stk.length st.tk.length st.lp.length [p32] st31) fun x28 =>
retK x28 ((aLoad true 27 (nth r6.2.1 1) r6.2.2).bind fun p33 =>
fin st.stk.length st.tk.length st.lp.length [p33] r6.2.2)
theorem S47_eq (a0 : PV) (st : St) : E L (.func 47) [a0] st = S47 (E L) itE a0 st := (E_func' (by rfl) Try.func47 _ _).trans (by kernel_rfl)
noncomputable def S44.b0 (call : CallF) (it : LoopF) (base lb : Nat) (vs135 : List PV) (st136 : St) : Option (Ex × List PV × St) :=
(aBin Try.prog true .gtr 3 (nth vs135 3) (PV.v (.int .i64 0))).bind fun p137 =>
onBool p137 fun b138 => (bif b138 then
some (Ex.normal, [(nth vs135 0), (nth vs135 1), (nth vs135 2), (nth vs135 3)], st136)
else
some ((Ex.exit 1), [(nth vs135 0), (nth vs135 1), (nth vs135 2), (nth vs135 3)], st136)).bind fun r139 =>
seqK r139.1 ((shift (nth r139.2.1 2) 53).bind fun p141 =>
(aLoad false 1 p141 r139.2.2).bind fun p142 =>
need (r139.2.2 = r139.2.2) <|
(call (.func 49) [canon (nth r139.2.1 0), canon (PV.v (.int .i64 1))] r139.2.2).bind fun r143 =>
need (((aLoad false 1 p141 r143.2).bind fun p144 =>
some (p144, r143.2)) = some (p142, r143.2)) <|
(rBuildSlice 9 [.v (.int .i64 0), .v (.int .i64 0), .v (.int .u64 0), .v (.int .i64 0), .v (.string ⟨#[]⟩), .v (.string ⟨#[]⟩), .sl [] .nil, .v (.int .i64 0), .v (.int .i64 0)] 1 [(0, r143.1)]).bind fun p145 =>
(elemsOf r143.2 p145).bind fun ys146 =>
(rAppend base [.v (.int .i64 0), .v (.int .i64 0), .v (.int .u64 0), .v (.int .i64 0), .v (.string ⟨#[]⟩), .v (.string ⟨#[]⟩), .sl [] .nil, .v (.int .i64 0), .v (.int .i64 0)] 9 104 p142 ys146 r143.2).bind fun r147 =>
(shift (nth r139.2.1 2) 53).bind fun p148 =>
(aStore base 1 p148 r147.1 r147.2).bind fun st149 =>
(aBin Try.prog true .sub 3 (nth r139.2.1 3) (PV.v (.int .i64 1))).bind fun p150 =>
some (Ex.normal, [(nth r139.2.1 0), (nth r139.2.1 1), (nth r139.2.1 2), p150], st149)) fun x140 =>
some (x140, [(nth r139.2.1 0), (nth r139.2.1 1), (nth r139.2.1 2), (nth r139.2.1 3)], r139.2.2)
/-- (*padlock/padlockref04.Maker).stmt -/
noncomputable def S44 (call : CallF) (it : LoopF) (a0 a1 : PV) (st : St) : Option (PV × St) :=
let q2 : PV := .ptr false st.stk.length 0
let st1 := st.push [.v (.int .i64 0), .v (.string ⟨#[]⟩), .v (.int .i64 0), .v (.int .i64 0), .v (.int .i64 0), .v (.int .u64 0), .v (.int .i64 0), .v (.string ⟨#[]⟩), .v (.string ⟨#[]⟩), .sl [] .nil, .v (.int .i64 0), .v (.int .i64 0), .v (.int .i64 0), .v (.string ⟨#[]⟩), .v (.string ⟨#[]⟩), .v (.int .i64 0), .v (.int .i64 0), .v (.int .u64 0), .v (.int .i64 0), .v (.string ⟨#[]⟩), .v (.string ⟨#[]⟩), .sl [] .nil, .v (.int .i64 0), .v (.int .i64 0), .v (.int .i64 0), .v (.int .i64 0), .v (.string ⟨#[]⟩), .v (.int .i64 0), .v (.int .i64 0), .v (.int .i64 0), .v (.string ⟨#[]⟩), .v (.string ⟨#[]⟩), .v (.int .i64 0), .v (.int .i64 0), .v (.int .u64 0), .v (.int .i64 0), .v (.string ⟨#[]⟩), .v (.string ⟨#[]⟩), .sl [] .nil, .v (.int .i64 0), .v (.int .i64 0), .v (.int .i64 0), .v (.int .i64 0), .v (.int .i64 0), .v (.int .i64 0), .v (.int .u64 0), .v (.int .i64 0), .v (.string ⟨#[]⟩), .v (.string ⟨#[]⟩), .sl [] .nil, .v (.int .i64 0), .v (.int .i64 0), .v (.int .i64 0), .sl [] .nil, .sl [] .nil, .sl [] .nil, .v (.int .i64 0), .v (.int .i64 0)]
(call (.func 22) [canon a0, canon (PV.v (.int .i64 11))] st1).bind fun r3 =>
(aBin Try.prog true .add 3 (PV.v (.int .i64 1)) r3.1).bind fun p4 =>
(aBin Try.prog true .eql 3 a1 (PV.v (.int .i64 0))).bind fun p5 =>
(onG p5 true (
some (p4, r3.2)) r3.2).bind fun r7 =>
(onG p5 true (
(aBin Try.prog true .eql 3 r7.1 (PV.v (.int .i64 6))).bind fun p10 =>
some (p10, r7.2)) r7.2).bind fun r9 =>
(onG p5 true (
some (r9.1, r9.2)) r9.2).bind fun r12 =>
(onG r12.1 false (
some (p4, r12.2)) r12.2).bind fun r14 =>
(onG r12.1 false (
(aBin Try.prog true .eql 3 r14.1 (PV.v (.int .i64 7))).bind fun p17 =>
some (p17, r14.2)) r14.2).bind fun r16 =>
(onG p5 true (
(aPick r12.1 (PV.v (.bool true)) r16.1).bind fun p20 =>
some (p20, r16.2)) r16.2).bind fun r19 =>
(onG p5 true (
some (r19.1, r19.2)) r19.2).bind fun r22 =>
(onG r22.1 false (
some (p4, r22.2)) r22.2).bind fun r24 =>
(onG r22.1 false (
(aBin Try.prog true .eql 3 r24.1 (PV.v (.int .i64 10))).bind fun p27 =>
some (p27, r24.2)) r24.2).bind fun r26 =>
(onG p5 true (
(aPick r22.1 (PV.v (.bool true)) r26.1).bind fun p30 =>
some (p30, r26.2)) r26.2).bind fun r29 =>
(aPick p5 r29.1 (PV.v (.bool false))).bind fun p31 =>
onBool p31 fun b32 => (bif b32 then
some (Ex.normal, [a0, a1, q2, (PV.v (.int .i64 5))], r29.2)
else
some (Ex.normal, [a0, a1, q2, p4], r29.2)).bind fun r33 =>
seqK r33.1 ((rBuild [(0, 1), (1, 1), (2, 27), (29, 14), (43, 9), (52, 1), (53, 1), (54, 1), (55, 1), (56, 1), (57, 1)] [.v (.int .i64 0), .v (.string ⟨#[]⟩), .v (.int .i64 0), .v (.int .i64 0), .v (.int .i64 0), .v (.int .u64 0), .v (.int .i64 0), .v (.string ⟨#[]⟩), .v (.string ⟨#[]⟩), .sl [] .nil, .v (.int .i64 0), .v (.int .i64 0), .v (.int .i64 0), .v (.string ⟨#[]⟩), .v (.string ⟨#[]⟩), .v (.int .i64 0), .v (.int .i64 0), .v (.int .u64 0), .v (.int .i64 0), .v (.string ⟨#[]⟩), .v (.string ⟨#[]⟩), .sl [] .nil, .v (.int .i64 0), .v (.int .i64 0), .v (.int .i64 0), .v (.int .i64 0), .v (.string ⟨#[]⟩), .v (.int .i64 0), .v (.int .i64 0), .v (.int .i64 0), .v (.string ⟨#[]⟩), .v (.string ⟨#[]⟩), .v (.int .i64 0), .v (.int .i64 0), .v (.int .u64 0), .v (.int .i64 0), .v (.string ⟨#[]⟩), .v (.string ⟨#[]⟩), .sl [] .nil, .v (.int .i64 0), .v (.int .i64 0), .v (.int .i64 0), .v (.int .i64 0), .v (.int .i64 0), .v (.int .i64 0), .v (.int .u64 0), .v (.int .i64 0), .v (.string ⟨#[]⟩), .v (.string ⟨#[]⟩), .sl [] .nil, .v (.int .i64 0), .v (.int .i64 0), .v (.int .i64 0), .sl [] .nil, .sl [] .nil, .sl [] .nil, .v (.int .i64 0), .v (.int .i64 0)] [(0, (nth r33.2.1 3))]).bind fun p35 =>
let q37 : PV := .ptr false r33.2.2.stk.length 0
let st36 := r33.2.2.push [.v (.int .i64 0), .v (.string ⟨#[]⟩), .v (.int .i64 0), .v (.int .i64 0), .v (.int .i64 0), .v (.int .u64 0), .v (.int .i64 0), .v (.string ⟨#[]⟩), .v (.string ⟨#[]⟩), .sl [] .nil, .v (.int .i64 0), .v (.int .i64 0), .v (.int .i64 0), .v (.string ⟨#[]⟩), .v (.string ⟨#[]⟩), .v (.int .i64 0), .v (.int .i64 0), .v (.int .u64 0), .v (.int .i64 0), .v (.string ⟨#[]⟩), .v (.string ⟨#[]⟩), .sl [] .nil, .v (.int .i64 0), .v (.int .i64 0), .v (.int .i64 0), .v (.int .i64 0), .v (.string ⟨#[]⟩), .v (.int .i64 0), .v (.int .i64 0), .v (.int .i64 0), .v (.string ⟨#[]⟩), .v (.string ⟨#[]⟩), .v (.int .i64 0), .v (.int .i64 0), .v (.int .u64 0), .v (.int .i64 0), .v (.string ⟨#[]⟩), .v (.string ⟨#[]⟩), .sl [] .nil, .v (.int .i64 0), .v (.int .i64 0), .v (.int .i64 0), .v (.int .i64 0), .v (.int .i64 0), .v (.int .i64 0), .v (.int .u64 0), .v (.int .i64 0), .v (.string ⟨#[]⟩), .v (.string ⟨#[]⟩), .sl [] .nil, .v (.int .i64 0), .v (.int .i64 0), .v (.int .i64 0), .sl [] .nil, .sl [] .nil, .sl [] .nil, .v (.int .i64 0), .v (.int .i64 0)]
(aStore st.stk.length 58 q37 p35 st36).bind fun st38 =>
(aBin Try.prog true .eql 3 (nth r33.2.1 3) (PV.v (.int .i64 1))).bind fun p39 =>
onBool p39 fun b40 => (bif b40 then
some (Ex.normal, [(nth r33.2.1 0), (nth r33.2.1 1), (nth r33.2.1 2), q37, (nth r33.2.1 3), p39], st38)
else
(aBin Try.prog true .eql 3 (nth r33.2.1 3) (PV.v (.int .i64 2))).bind fun p42 =>
onBool p42 fun b43 => (bif b43 then
some (Ex.normal, [(nth r33.2.1 0), (nth r33.2.1 1), (nth r33.2.1 2), q37, (nth r33.2.1 3), p42], st38)
else
(aBin Try.prog true .eql 3 (nth r33.2.1 3) (PV.v (.int .i64 3))).bind fun p45 =>
some (Ex.normal, [(nth r33.2.1 0), (nth r33.2.1 1), (nth r33.2.1 2), q37, (nth r33.2.1 3), p45], st38)).bind fun r44 =>
some (r44.1, [(nth r44.2.1 0), (nth r44.2.1 1), (nth r44.2.1 2), (nth r44.2.1 3), (nth r44.2.1 4), (nth r44.2.1 5)], r44.2.2)).bind fun r41 =>
seqK r41.1 (onBool (nth r41.2.1 5) fun b47 => (bif b47 then
(call (.func 23) [canon (nth r41.2.1 0)] r41.2.2).bind fun r49 =>
(shift (nth r41.2.1 3) 1).bind fun p50 =>
(aStore st.stk.length 1 p50 r49.1 r49.2).bind fun st51 =>
(call (.func 47) [canon (nth r41.2.1 0)] st51).bind fun r52 =>
(shift (nth r41.2.1 3) 2).bind fun p53 =>
(aStore st.stk.length 27 p53 r52.1 r52.2).bind fun st54 =>
some (Ex.normal, [(nth r41.2.1 2), (nth r41.2.1 3)], st54)
else
(aBin Try.prog true .eql 3 (nth r41.2.1 4) (PV.v (.int .i64 4))).bind fun p55 =>
onBool p55 fun b56 => (bif b56 then
(call (.func 48) [canon (nth r41.2.1 0)] r41.2.2).bind fun r58 =>
(shift (nth r41.2.1 3) 29).bind fun p59 =>
(aStore st.stk.length 14 p59 r58.1 r58.2).bind fun st60 =>
(call (.func 49) [canon (nth r41.2.1 0), canon (PV.v (.int .i64 2))] st60).bind fun r61 =>
(shift (nth r41.2.1 3) 43).bind fun p62 =>
(aStore st.stk.length 9 p62 r61.1 r61.2).bind fun st63 =>
some (Ex.normal, [(nth r41.2.1 2), (nth r41.2.1 3)], st63)
else
(aBin Try.prog true .eql 3 (nth r41.2.1 4) (PV.v (.int .i64 5))).bind fun p64 =>
onBool p64 fun b65 => (bif b65 then
(call (.func 49) [canon (nth r41.2.1 0), canon (PV.v (.int .i64 3))] r41.2.2).bind fun r67 =>
(shift (nth r41.2.1 3) 43).bind fun p68 =>
(aStore st.stk.length 9 p68 r67.1 r67.2).bind fun st69 =>
some (Ex.normal, [(nth r41.2.1 2), (nth r41.2.1 3)], st69)
else
(aBin Try.prog true .eql 3 (nth r41.2.1 4) (PV.v (.int .i64 6))).bind fun p70 =>
onBool p70 fun b71 => (bif b71 then
(call (.func 49) [canon (nth r41.2.1 0), canon (PV.v (.int .i64 2))] r41.2.2).bind fun r73 =>
(shift (nth r41.2.1 3) 43).bind fun p74 =>
(aStore st.stk.length 9 p74 r73.1 r73.2).bind fun st75 =>
(aBin Try.prog true .sub 3 (nth r41.2.1 1) (PV.v (.int .i64 1))).bind fun p76 =>
(call (.func 25) [canon (nth r41.2.1 0), canon p76] st75).bind fun r77 =>
(shift (nth r41.2.1 3) 54).bind fun p78 =>
(aStore st.stk.length 1 p78 r77.1 r77.2).bind fun st79 =>
(call (.func 22) [canon (nth r41.2.1 0), canon (PV.v (.int .i64 2))] st79).bind fun r80 =>
(aBin Try.prog true .eql 3 r80.1 (PV.v (.int .i64 0))).bind fun p81 =>
onBool p81 fun b82 => (bif b82 then
(aBin Try.prog true .sub 3 (nth r41.2.1 1) (PV.v (.int .i64 1))).bind fun p84 =>
(call (.func 25) [canon (nth r41.2.1 0), canon p84] r80.2).bind fun r85 =>
(shift (nth r41.2.1 3) 55).bind fun p86 =>
(aStore st.stk.length 1 p86 r85.1 r85.2).bind fun st87 =>
some (Ex.normal, [(nth r41.2.1 2), (nth r41.2.1 3)], st87)
else
some (Ex.normal, [(nth r41.2.1 2), (nth r41.2.1 3)], r80.2)).bind fun r83 =>
some (r83.1, [(nth r83.2.1 0), (nth r83.2.1 1)], r83.2.2)
else
(aBin Try.prog true .eql 3 (nth r41.2.1 4) (PV.v (.int .i64 7))).bind fun p88 =>
onBool p88 fun b89 => (bif b89 then
(call (.func 22) [canon (nth r41.2.1 0), canon (PV.v (.int .i64 2))] r41.2.2).bind fun r91 =>
(aBin Try.prog true .eql 3 r91.1 (PV.v (.int .i64 0))).bind fun p92 =>
onBool p92 fun b93 => (bif b93 then
(call (.func 23) [canon (nth r41.2.1 0)] r91.2).bind fun r95 =>
(shift (nth r41.2.1 3) 1).bind fun p96 =>
(aStore st.stk.length 1 p96 r95.1 r95.2).bind fun st97 =>
some (Ex.normal, [(nth r41.2.1 0), (nth r41.2.1 1), (nth r41.2.1 2), (nth r41.2.1 3)], st97)
else
some (Ex.normal, [(nth r41.2.1 0), (nth r41.2.1 1), (nth r41.2.1 2), (nth r41.2.1 3)], r91.2)).bind fun r94 =>
seqK r94.1 ((call (.func 22) [canon (nth r94.2.1 0), canon (PV.v (.int .i64 9))] r94.2.2).bind fun r99 =>
(shift (nth r94.2.1 3) 52).bind fun p100 =>
(aStore st.stk.length 1 p100 r99.1 r99.2).bind fun st101 =>
(aBin Try.prog true .sub 3 (nth r94.2.1 1) (PV.v (.int .i64 1))).bind fun p102 =>
(call (.func 25) [canon (nth r94.2.1 0), canon p102] st101).bind fun r103 =>
(shift (nth r94.2.1 3) 54).bind fun p104 =>
(aStore st.stk.length 1 p104 r103.1 r103.2).bind fun st105 =>
some (Ex.normal, [(nth r94.2.1 2), (nth r94.2.1 3)], st105)) fun x98 =>
some (x98, [(nth r94.2.1 2), (nth r94.2.1 3)], r94.2.2)
else
(aBin Try.prog true .eql 3 (nth r41.2.1 4) (PV.v (.int .i64 8))).bind fun p106 =>
onBool p106 fun b107 => (bif b107 then
some (Ex.normal, [(nth r41.2.1 0), (nth r41.2.1 1), (nth r41.2.1 2), (nth r41.2.1 3), (nth r41.2.1 4), p106], r41.2.2)
else
(aBin Try.prog true .eql 3 (nth r41.2.1 4) (PV.v (.int .i64 9))).bind fun p109 =>
some (Ex.normal, [(nth r41.2.1 0), (nth r41.2.1 1), (nth r41.2.1 2), (nth r41.2.1 3), (nth r41.2.1 4), p109], r41.2.2)).bind fun r108 =>
seqK r108.1 (onBool (nth r108.2.1 5) fun b111 => (bif b111 then
(call (.func 22) [canon (nth r108.2.1 0), canon (PV.v (.int .i64 2))] r108.2.2).bind fun r113 =>
(aBin Try.prog true .eql 3 r113.1 (PV.v (.int .i64 0))).bind fun p114 =>
onBool p114 fun b115 => (bif b115 then
(call (.func 23) [canon (nth r108.2.1 0)] r113.2).bind fun r117 =>
(shift (nth r108.2.1 3) 1).bind fun p118 =>
(aStore st.stk.length 1 p118 r117.1 r117.2).bind fun st119 =>
some (Ex.normal, [(nth r108.2.1 2), (nth r108.2.1 3)], st119)
else
some (Ex.normal, [(nth r108.2.1 2), (nth r108.2.1 3)], r113.2)).bind fun r116 =>
some (r116.1, [(nth r116.2.1 0), (nth r116.2.1 1)], r116.2.2)
else
(aBin Try.prog true .eql 3 (nth r108.2.1 4) (PV.v (.int .i64 10))).bind fun p120 =>
onBool p120 fun b121 => (bif b121 then
(aBin Try.prog true .sub 3 (nth r108.2.1 1) (PV.v (.int .i64 1))).bind fun p123 =>
(call (.func 25) [canon (nth r108.2.1 0), canon p123] r108.2.2).bind fun r124 =>
(shift (nth r108.2.1 3) 54).bind fun p125 =>
(aStore st.stk.length 1 p125 r124.1 r124.2).bind fun st126 =>
some (Ex.normal, [(nth r108.2.1 2), (nth r108.2.1 3)], st126)
else
(aBin Try.prog true .eql 3 (nth r108.2.1 4) (PV.v (.int .i64 11))).bind fun p127 =>
onBool p127 fun b128 => (bif b128 then
(call (.func 23) [canon (nth r108.2.1 0)] r108.2.2).bind fun r130 =>
(shift (nth r108.2.1 3) 1).bind fun p131 =>
(aStore st.stk.length 1 p131 r130.1 r130.2).bind fun st132 =>
(call (.func 22) [canon (nth r108.2.1 0), canon (PV.v (.int .i64 3))] st132).bind fun r133 =>
(it (S44.b0 call it st.stk.length st.lp.length) [(nth r108.2.1 0), (nth r108.2.1 2), (nth r108.2.1 3), r133.1] r133.2).bind fun r134 =>
some ((Ex.outOf 1 r134.1), [(nth r134.2.1 1), (nth r134.2.1 2)], r134.2.2)
else
some (Ex.normal, [(nth r108.2.1 2), (nth r108.2.1 3)], r108.2.2)).bind fun r129 =>
some (r129.1, [(nth r129.2.1 0), (nth r129.2.1 1)], r129.2.2)).bind fun r122 =>
some (r122.1, [(nth r122.2.1 0), (nth r122.2.1 1)], r122.2.2)).bind fun r112 =>
some (r112.1, [(nth r112.2.1 0), (nth r112.2.1 1)], r112.2.2)) fun x110 =>
some (x110, [(nth r108.2.1 2), (nth r108.2.1 3)], r108.2.2)).bind fun r90 =>
some (r90.1, [(nth r90.2.1 0), (nth r90.2.1 1)], r90.2.2)).bind fun r72 =>
some (r72.1, [(nth r72.2.1 0), (nth r72.2.1 1)], r72.2.2)).bind fun r66 =>
some (r66.1, [(nth r66.2.1 0), (nth r66.2.1 1)], r66.2.2)).bind fun r57 =>
some (r57.1, [(nth r57.2.1 0), (nth r57.2.1 1)], r57.2.2)).bind fun r48 =>
seqK (Ex.outOf 0 r48.1) ((aLoad true 58 (nth r48.2.1 1) r48.2.2).bind fun p152 =>
(aStore st.stk.length 58 (nth r48.2.1 0) p152 r48.2.2).bind fun st153 =>
(aLoad true 58 (nth r48.2.1 0) st153).bind fun p154 =>
fin st.stk.length st.tk.length st.lp.length [p154] st153) fun x151 =>
retK x151 ((aLoad true 58 (nth r48.2.1 0) r48.2.2).bind fun p155 =>
fin st.stk.length st.tk.length st.lp.length [p155] r48.2.2)) fun x46 =>
seqK (Ex.outOf 0 x46) ((aLoad true 58 (nth r41.2.1 3) r41.2.2).bind fun p157 =>
(aStore st.stk.length 58 (nth r41.2.1 2) p157 r41.2.2).bind fun st158 =>
(aLoad true 58 (nth r41.2.1 2) st158).bind fun p159 =>
fin st.stk.length st.tk.length st.lp.length [p159] st158) fun x156 =>
retK x156 ((aLoad true 58 (nth r41.2.1 2) r41.2.2).bind fun p160 =>
fin st.stk.length st.tk.length st.lp.length [p160] r41.2.2)) fun x34 =>
retK x34 ((aLoad true 58 (nth r33.2.1 2) r33.2.2).bind fun p161 =>
fin st.stk.length st.tk.length st.lp.length [p161] r33.2.2)
theorem S44_eq (a0 a1 : PV) (st : St) : E L (.func 44) [a0, a1] st = S44 (E L) itE a0 a1 st := (E_func' (by rfl) Try.func44 _ _).trans (by kernel_rfl)
noncomputable def S25.b0 (call : CallF) (it : LoopF) (base lb : Nat) (vs3 : List PV) (st4 : St) : Option (Ex × List PV × St) :=
(aBin Try.prog true .gtr 3 (nth vs3 3) (PV.v (.int .i64 0))).bind fun p5 =>
(onG p5 true (
some ((nth vs3 0), st4)) st4).bind fun r7 =>
(onG p5 true (
(aNilCheck r7.1).bind fun p10 =>
some (p10, r7.2)) r7.2).bind fun r9 =>
(onG p5 true (
(shift r9.1 2).bind fun p13 =>
some (p13, r9.2)) r9.2).bind fun r12 =>
(onG p5 true (
(aLoad false 1 r12.1 r12.2).bind fun p16 =>
some (p16, r12.2)) r12.2).bind fun r15 =>
(onG p5 true (
(aBin Try.prog true .gtr 3 r15.1 (PV.v (.int .i64 0))).bind fun p19 =>
some (p19, r15.2)) r15.2).bind fun r18 =>
(aPick p5 r18.1 (PV.v (.bool false))).bind fun p20 =>
onBool p20 fun b21 => (bif b21 then
some (Ex.normal, [(nth vs3 0), (nth vs3 1), (nth vs3 2), (nth vs3 3)], r18.2)
else
some ((Ex.exit 0), [(nth vs3 0), (nth vs3 1), (nth vs3 2), (nth vs3 3)], r18.2)).bind fun r22 =>
seqK r22.1 ((aNilCheck (nth r22.2.1 0)).bind fun p24 =>
(shift p24 2).bind fun p25 =>
(aLoad false 1 p25 r22.2.2).bind fun p26 =>
(aBin Try.prog true .sub 3 p26 (PV.v (.int .i64 1))).bind fun p27 =>
(aNilCheck (nth r22.2.1 0)).bind fun p28 =>
(shift p28 2).bind fun p29 =>
(aStore base 1 p29 p27 r22.2.2).bind fun st30 =>
(call (.func 44) [canon (nth r22.2.1 0), canon (nth r22.2.1 1)] st30).bind fun r31 =>
(rBuildSlice 58 [.v (.int .i64 0), .v (.string ⟨#[]⟩), .v (.int .i64 0), .v (.int .i64 0), .v (.int .i64 0), .v (.int .u64 0), .v (.int .i64 0), .v (.string ⟨#[]⟩), .v (.string ⟨#[]⟩), .sl [] .nil, .v (.int .i64 0), .v (.int .i64 0), .v (.int .i64 0), .v (.string ⟨#[]⟩), .v (.string ⟨#[]⟩), .v (.int .i64 0), .v (.int .i64 0), .v (.int .u64 0), .v (.int .i64 0), .v (.string ⟨#[]⟩), .v (.string ⟨#[]⟩), .sl [] .nil, .v (.int .i64 0), .v (.int .i64 0), .v (.int .i64 0), .v (.int .i64 0), .v (.string ⟨#[]⟩), .v (.int .i64 0), .v (.int .i64 0), .v (.int .i64 0), .v (.string ⟨#[]⟩), .v (.string ⟨#[]⟩), .v (.int .i64 0), .v (.int .i64 0), .v (.int .u64 0), .v (.int .i64 0), .v (.string ⟨#[]⟩), .v (.string ⟨#[]⟩), .sl [] .nil, .v (.int .i64 0), .v (.int .i64 0), .v (.int .i64 0), .v (.int .i64 0), .v (.int .i64 0), .v (.int .i64 0), .v (.int .u64 0), .v (.int .i64 0), .v (.string ⟨#[]⟩), .v (.string ⟨#[]⟩), .sl [] .nil, .v (.int .i64 0), .v (.int .i64 0), .v (.int .i64 0), .sl [] .nil, .sl [] .nil, .sl [] .nil, .v (.int .i64 0), .v (.int .i64 0)] 1 [(0, r31.1)]).bind fun p32 =>
(elemsOf r31.2 p32).bind fun ys33 =>
(rAppend base [.v (.int .i64 0), .v (.string ⟨#[]⟩), .v (.int .i64 0), .v (.int .i64 0), .v (.int .i64 0), .v (.int .u64 0), .v (.int .i64 0), .v (.string ⟨#[]⟩), .v (.string ⟨#[]⟩), .sl [] .nil, .v (.int .i64 0), .v (.int .i64 0), .v (.int .i64 0), .v (.string ⟨#[]⟩), .v (.string ⟨#[]⟩), .v (.int .i64 0), .v (.int .i64 0), .v (.int .u64 0), .v (.int .i64 0), .v (.string ⟨#[]⟩), .v (.string ⟨#[]⟩), .sl [] .nil, .v (.int .i64 0), .v (.int .i64 0), .v (.int .i64 0), .v (.int .i64 0), .v (.string ⟨#[]⟩), .v (.int .i64 0), .v (.int .i64 0), .v (.int .i64 0), .v (.string ⟨#[]⟩), .v (.string ⟨#[]⟩), .v (.int .i64 0), .v (.int .i64 0), .v (.int .u64 0), .v (.int .i64 0), .v (.string ⟨#[]⟩), .v (.string ⟨#[]⟩), .sl [] .nil, .v (.int .i64 0), .v (.int .i64 0), .v (.int .i64 0), .v (.int .i64 0), .v (.int .i64 0), .v (.int .i64 0), .v (.int .u64 0), .v (.int .i64 0), .v (.string ⟨#[]⟩), .v (.string ⟨#[]⟩), .sl [] .nil, .v (.int .i64 0), .v (.int .i64 0), .v (.int .i64 0), .sl [] .nil, .sl [] .nil, .sl [] .nil, .v (.int .i64 0), .v (.int .i64 0)] 58 688 (nth r22.2.1 2) ys33 r31.2).bind fun r34 =>
(aBin Try.prog true .sub 3 (nth r22.2.1 3) (PV.v (.int .i64 1))).bind fun p35 =>
some (Ex.normal, [(nth r22.2.1 0), (nth r22.2.1 1), r34.1, p35], r34.2)) fun x23 =>
some (x23, [(nth r22.2.1 0), (nth r22.2.1 1), (nth r22.2.1 2), (nth r22.2.1 3)], r22.2.2)
/-- (*padlock/padlockref04.Maker).row -/
noncomputable def S25 (call : CallF) (it : LoopF) (a0 a1 : PV) (st : St) : Option (PV × St) :=
(call (.func 22) [canon a0, canon (PV.v (.int .i64 4))] st).bind fun r1 =>
(it (S25.b0 call it st.stk.length st.lp.length) [a0, a1, (PV.sl [] .nil), r1.1] r1.2).bind fun r2 =>
seqK (Ex.outOf 0 r2.1) (fin st.stk.length st.tk.length st.lp.length [(nth r2.2.1 2)] r2.2.2) fun x36 =>
retK x36 (fin st.stk.length st.tk.length st.lp.length [PV.u] r2.2.2)
theorem S25_eq (a0 a1 : PV) (st : St) : E L (.func 25) [a0, a1] st = S25 (E L) itE a0 a1 st := (E_func' (by rfl) Try.func25 _ _).trans (by kernel_rfl)
noncomputable def S8.b0 (call : CallF) (it : LoopF) (base lb : Nat) (vs11 : List PV) (st12 : St) : Option (Ex × List PV × St) :=
(aBin Try.prog true .gtr 3 (nth vs11 3) (PV.v (.int .i64 0))).bind fun p13 =>
onBool p13 fun b14 => (bif b14 then
some (Ex.normal, [(nth vs11 0), (nth vs11 1), (nth vs11 2), (nth vs11 3)], st12)
else
some ((Ex.exit 0), [(nth vs11 0), (nth vs11 1), (nth vs11 2), (nth vs11 3)], st12)).bind fun r15 =>
seqK r15.1 ((shift (nth r15.2.1 2) 0).bind fun p17 =>
(aLoad false 1 p17 r15.2.2).bind fun p18 =>
need (r15.2.2 = r15.2.2) <|
(call (.func 23) [canon (nth r15.2.1 1)] r15.2.2).bind fun r19 =>
need (((aLoad false 1 p17 r19.2).bind fun p20 =>
some (p20, r19.2)) = some (p18, r19.2)) <|
(call (.func 24) [canon (nth r15.2.1 1), canon (PV.v (.int .i64 3))] r19.2).bind fun r21 =>
need (((aLoad false 1 p17 r21.2).bind fun p22 =>
some (p22, r21.2)) = some (p18, r21.2)) <|
(rBuild [(0, 1), (1, 1), (2, 1), (3, 1)] [.v (.string ⟨#[]⟩), .sl [] .nil, .v (.int .i64 0), .v (.int .i64 0)] [(0, r19.1), (1, r21.1)]).bind fun p23 =>
(rBuildSlice 4 [.v (.string ⟨#[]⟩), .sl [] .nil, .v (.int .i64 0), .v (.int .i64 0)] 1 [(0, p23)]).bind fun p24 =>
(elemsOf r21.2 p24).bind fun ys25 =>
(rAppend base [.v (.string ⟨#[]⟩), .sl [] .nil, .v (.int .i64 0), .v (.int .i64 0)] 4 56 p18 ys25 r21.2).bind fun r26 =>
(shift (nth r15.2.1 2) 0).bind fun p27 =>
(aStore base 1 p27 r26.1 r26.2).bind fun st28 =>
(aBin Try.prog true .sub 3 (nth r15.2.1 3) (PV.v (.int .i64 1))).bind fun p29 =>
some (Ex.normal, [(nth r15.2.1 0), (nth r15.2.1 1), (nth r15.2.1 2), p29], st28)) fun x16 =>
some (x16, [(nth r15.2.1 0), (nth r15.2.1 1), (nth r15.2.1 2), (nth r15.2.1 3)], r15.2.2)
noncomputable def S8.b1 (call : CallF) (it : LoopF) (base lb : Nat) (vs36 : List PV) (st37 : St) : Option (Ex × List PV × St) :=
(aBin Try.prog true .gtr 3 (nth vs36 3) (PV.v (.int .i64 0))).bind fun p38 =>
onBool p38 fun b39 => (bif b39 then
some (Ex.normal, [(nth vs36 0), (nth vs36 1), (nth vs36 2), (nth vs36 3)], st37)
else
some ((Ex.exit 2), [(nth vs36 0), (nth vs36 1), (nth vs36 2), (nth vs36 3)], st37)).bind fun r40 =>
seqK r40.1 ((shift (nth r40.2.1 2) 2).bind fun p42 =>
(aLoad false 1 p42 r40.2.2).bind fun p43 =>
need (r40.2.2 = r40.2.2) <|
(call (.func 23) [canon (nth r40.2.1 1)] r40.2.2).bind fun r44 =>
need (((aLoad false 1 p42 r44.2).bind fun p45 =>
some (p45, r44.2)) = some (p43, r44.2)) <|
(call (.func 24) [canon (nth r40.2.1 1), canon (PV.v (.int .i64 3))] r44.2).bind fun r46 =>
need (((aLoad false 1 p42 r46.2).bind fun p47 =>
some (p47, r46.2)) = some (p43, r46.2)) <|
(call (.func 25) [canon (nth r40.2.1 1), canon (PV.v (.int .i64 2))] r46.2).bind fun r48 =>
need (((aLoad false 1 p42 r48.2).bind fun p49 =>
some (p49, r48.2)) = some (p43, r48.2)) <|
(rBuild [(0, 1), (1, 1), (2, 1), (3, 1), (4, 1)] [.v (.string ⟨#[]⟩), .sl [] .nil, .sl [] .nil, .v (.int .i64 0), .v (.int .i64 0)] [(0, r44.1), (1, r46.1), (2, r48.1)]).bind fun p50 =>
(rBuildSlice 5 [.v (.string ⟨#[]⟩), .sl [] .nil, .sl [] .nil, .v (.int .i64 0), .v (.int .i64 0)] 1 [(0, p50)]).bind fun p51 =>
(elemsOf r48.2 p51).bind fun ys52 =>
(rAppend base [.v (.string ⟨#[]⟩), .sl [] .nil, .sl [] .nil, .v (.int .i64 0), .v (.int .i64 0)] 5 80 p43 ys52 r48.2).bind fun r53 =>
(shift (nth r40.2.1 2) 2).bind fun p54 =>
(aStore base 1 p54 r53.1 r53.2).bind fun st55 =>
(aBin Try.prog true .sub 3 (nth r40.2.1 3) (PV.v (.int .i64 1))).bind fun p56 =>
some (Ex.normal, [(nth r40.2.1 0), (nth r40.2.1 1), (nth r40.2.1 2), p56], st55)) fun x41 =>
some (x41, [(nth r40.2.1 0), (nth r40.2.1 1), (nth r40.2.1 2), (nth r40.2.1 3)], r40.2.2)
noncomputable def S8.b2 (call : CallF) (it : LoopF) (base lb : Nat) (vs60 : List PV) (st61 : St) : Option (Ex × List PV × St) :=
(aBin Try.prog true .gtr 3 (nth vs60 3) (PV.v (.int .i64 0))).bind fun p62 =>
onBool p62 fun b63 => (bif b63 then
some (Ex.normal, [(nth vs60 0), (nth vs60 1), (nth vs60 2), (nth vs60 3)], st61)
else
some ((Ex.exit 4), [(nth vs60 0), (nth vs60 1), (nth vs60 2), (nth vs60 3)], st61)).bind fun r64 =>
seqK r64.1 ((shift (nth r64.2.1 2) 3).bind fun p66 =>
(aLoad false 1 p66 r64.2.2).bind fun p67 =>
need (r64.2.2 = r64.2.2) <|
(call (.func 25) [canon (nth r64.2.1 1), canon (PV.v (.int .i64 3))] r64.2.2).bind fun r68 =>
need (((aLoad false 1 p66 r68.2).bind fun p69 =>
some (p69, r68.2)) = some (p67, r68.2)) <|
(rBuild [(0, 1), (1, 1), (2, 1)] [.sl [] .nil, .v (.int .i64 0), .v (.int .i64 0)] [(0, r68.1)]).bind fun p70 =>
(rBuildSlice 3 [.sl [] .nil, .v (.int .i64 0), .v (.int .i64 0)] 1 [(0, p70)]).bind fun p71 =>
(elemsOf r68.2 p71).bind fun ys72 =>
(rAppend base [.sl [] .nil, .v (.int .i64 0), .v (.int .i64 0)] 3 40 p67 ys72 r68.2).bind fun r73 =>
(shift (nth r64.2.1 2) 3).bind fun p74 =>
(aStore base 1 p74 r73.1 r73.2).bind fun st75 =>
(aBin Try.prog true .sub 3 (nth r64.2.1 3) (PV.v (.int .i64 1))).bind fun p76 =>
some (Ex.normal, [(nth r64.2.1 0), (nth r64.2.1 1), (nth r64.2.1 2), p76], st75)) fun x65 =>
some (x65, [(nth r64.2.1 0), (nth r64.2.1 1), (nth r64.2.1 2), (nth r64.2.1 3)], r64.2.2)
/-- padlock/padlockref04.Make -/
noncomputable def S8 (call : CallF) (it : LoopF) (a0 : PV) (st : St) : Option (PV × St) :=
let q2 : PV := .ptr false st.stk.length 0
let st1 := st.push [.sl [] .nil, .sl [] .nil, .sl [] .nil, .sl [] .nil]
(rBuild [(0, 1), (1, 1), (2, 1)] [.sl [] .nil, .v (.int .i64 0), .v (.int .i64 0)] [(0, a0), (2, (PV.v (.int .i64 60)))]).bind fun p3 =>
(cellsOf p3).bind fun b4 =>
let q6 : PV := .ptr false st1.stk.length 0
let st5 := st1.push b4
let q8 : PV := .ptr false st5.stk.length 0
let st7 := st5.push [.sl [] .nil, .sl [] .nil, .sl [] .nil, .sl [] .nil]
(call (.func 22) [canon q6, canon (PV.v (.int .i64 3))] st7).bind fun r9 =>
(it (S8.b0 call it st.stk.length st.lp.length) [q2, q6, q8, r9.1] r9.2).bind fun r10 =>
seqK (Ex.outOf 0 r10.1) ((call (.func 24) [canon (nth r10.2.1 1), canon (PV.v (.int .i64 4))] r10.2.2).bind fun r31 =>
(shift (nth r10.2.1 2) 1).bind fun p32 =>
(aStore st.stk.length 1 p32 r31.1 r31.2).bind fun st33 =>
(call (.func 22) [canon (nth r10.2.1 1), canon (PV.v (.int .i64 3))] st33).bind fun r34 =>
(it (S8.b1 call it st.stk.length st.lp.length) [(nth r10.2.1 0), (nth r10.2.1 1), (nth r10.2.1 2), r34.1] r34.2).bind fun r35 =>
seqK (Ex.outOf 2 r35.1) ((call (.func 22) [canon (nth r35.2.1 1), canon (PV.v (.int .i64 4))] r35.2.2).bind fun r58 =>
(it (S8.b2 call it st.stk.length st.lp.length) [(nth r35.2.1 0), (nth r35.2.1 1), (nth r35.2.1 2), r58.1] r58.2).bind fun r59 =>
seqK (Ex.outOf 4 r59.1) ((aLoad true 4 (nth r59.2.1 2) r59.2.2).bind fun p78 =>
(aStore st.stk.length 4 (nth r59.2.1 0) p78 r59.2.2).bind fun st79 =>
(aLoad true 4 (nth r59.2.1 0) st79).bind fun p80 =>
fin st.stk.length st.tk.length st.lp.length [p80] st79) fun x77 =>
retK x77 ((aLoad true 4 (nth r59.2.1 0) r59.2.2).bind fun p81 =>
fin st.stk.length st.tk.length st.lp.length [p81] r59.2.2)) fun x57 =>
retK x57 ((aLoad true 4 (nth r35.2.1 0) r35.2.2).bind fun p82 =>
fin st.stk.length st.tk.length st.lp.length [p82] r35.2.2)) fun x30 =>
retK x30 ((aLoad true 4 (nth r10.2.1 0) r10.2.2).bind fun p83 =>
fin st.stk.length st.tk.length st.lp.length [p83] r10.2.2)
theorem S8_eq (a0 : PV) (st : St) : E L (.func 8) [a0] st = S8 (E L) itE a0 st := (E_func' (by rfl) Try.func8 _ _).trans (by kernel_rfl)
noncomputable def S13.b0 (call : CallF) (it : LoopF) (base lb : Nat) (vs9 : List PV) (st10 : St) : Option (Ex × List PV × St) :=
(aBin Try.prog false .lss 3 (nth vs9 4) (nth vs9 3)).bind fun p11 =>
onBool p11 fun b12 => (bif b12 then
some (Ex.normal, [(nth vs9 0), (nth vs9 1), (nth vs9 2), (nth vs9 3), (nth vs9 4)], st10)
else
some ((Ex.exit 0), [(nth vs9 0), (nth vs9 1), (nth vs9 2), (nth vs9 3), (nth vs9 4)], st10)).bind fun r13 =>
seqK r13.1 ((aIndexAddr Try.prog 47 (nth r13.2.1 0) (nth r13.2.1 4)).bind fun p15 =>
(aLoad false 1 p15 r13.2.2).bind fun p16 =>
need (r13.2.2 = r13.2.2) <|
(aIndexAddr Try.prog 47 (nth r13.2.1 1) (nth r13.2.1 4)).bind fun p17 =>
(aLoad false 1 p17 r13.2.2).bind fun p18 =>
need (r13.2.2 = r13.2.2) <|
(aBin Try.prog false .neq 9 p16 p18).bind fun p19 =>
onBool p19 fun b20 => (bif b20 then
some (Ex.ret, [(nth r13.2.1 0), (nth r13.2.1 1), (PV.v (.bool false)), (nth r13.2.1 3), (nth r13.2.1 4)], r13.2.2)
else
some (Ex.normal, [(nth r13.2.1 0), (nth r13.2.1 1), (nth r13.2.1 2), (nth r13.2.1 3), (nth r13.2.1 4)], r13.2.2)).bind fun r21 =>
seqK (Ex.outOf 1 r21.1) ((aBin Try.prog true .add 3 (nth r21.2.1 4) (PV.v (.int .i64 1))).bind fun p23 =>
some (Ex.normal, [(nth r21.2.1 0), (nth r21.2.1 1), (nth r21.2.1 2), (nth r21.2.1 3), p23], r21.2.2)) fun x22 =>
some (x22, [(nth r21.2.1 0), (nth r21.2.1 1), (nth r21.2.1 2), (nth r21.2.1 3), (nth r21.2.1 4)], r21.2.2)) fun x14 =>
some (x14, [(nth r13.2.1 0), (nth r13.2.1 1), (nth r13.2.1 2), (nth r13.2.1 3), (nth r13.2.1 4)], r13.2.2)
/-- padlock/padlockref04.Same -/
noncomputable def S13 (call : CallF) (it : LoopF) (a0 a1 : PV) (st : St) : Option (PV × St) :=
(aLen Try.prog 47 a0).bind fun p1 =>
(aLen Try.prog 47 a1).bind fun p2 =>
(aBin Try.prog false .neq 3 p1 p2).bind fun p3 =>
onBool p3 fun b4 => (bif b4 then
some (Ex.ret, [a0, a1, (PV.v (.bool false))], st)
else
some (Ex.normal, [a0, a1, (PV.v (.bool false))], st)).bind fun r5 =>
seqK r5.1 ((aLen Try.prog 47 (nth r5.2.1 0)).bind fun p7 =>
(it (S13.b0 call it st.stk.length st.lp.length) [(nth r5.2.1 0), (nth r5.2.1 1), (nth r5.2.1 2), p7, (PV.v (.int .i64 0))] r5.2.2).bind fun r8 =>
seqK (Ex.outOf 0 r8.1) (fin st.stk.length st.tk.length st.lp.length [(PV.v (.bool true))] r8.2.2) fun x24 =>
retK x24 (fin st.stk.length st.tk.length st.lp.length [(nth r8.2.1 2)] r8.2.2)) fun x6 =>
retK x6 (fin st.stk.length st.tk.length st.lp.length [(nth r5.2.1 2)] r5.2.2)
theorem S13_eq (a0 a1 : PV) (st : St) : E L (.func 13) [a0, a1] st = S13 (E L) itE a0 a1 st := (E_func' (by rfl) Try.func13 _ _).trans (by kernel_rfl)
/-- padlock/padlockref04.text -/
noncomputable def S37 (call : CallF) (it : LoopF) (a0 : PV) (st : St) : Option (PV × St) :=
(aConv Try.prog 3 38 a0).bind fun p1 =>
(aConv Try.prog 38 5 p1).bind fun p2 =>
(aBin Try.prog true .shr 38 p1 (PV.v (.int .u64 8))).bind fun p3 =>
(aConv Try.prog 38 5 p3).bind fun p4 =>
(aBin Try.prog true .shr 38 p1 (PV.v (.int .u64 16))).bind fun p5 =>
(aConv Try.prog 38 5 p5).bind fun p6 =>
(aBin Try.prog true .shr 38 p1 (PV.v (.int .u64 24))).bind fun p7 =>
(aConv Try.prog 38 5 p7).bind fun p8 =>
(aBin Try.prog true .shr 38 p1 (PV.v (.int .u64 32))).bind fun p9 =>
(aConv Try.prog 38 5 p9).bind fun p10 =>
(aBin Try.prog true .shr 38 p1 (PV.v (.int .u64 40))).bind fun p11 =>
(aConv Try.prog 38 5 p11).bind fun p12 =>
(aBin Try.prog true .shr 38 p1 (PV.v (.int .u64 48))).bind fun p13 =>
(aConv Try.prog 38 5 p13).bind fun p14 =>
(aBin Try.prog true .shr 38 p1 (PV.v (.int .u64 56))).bind fun p15 =>
(aConv Try.prog 38 5 p15).bind fun p16 =>
(rBuildSlice 1 [.v (.int .u8 0)] 8 [(0, p2), (1, p4), (2, p6), (3, p8), (4, p10), (5, p12), (6, p14), (7, p16)]).bind fun p17 =>
(aConv Try.prog 103 9 p17).bind fun p18 =>
fin st.stk.length st.tk.length st.lp.length [p18] st
theorem S37_eq (a0 : PV) (st : St) : E L (.func 37) [a0] st = S37 (E L) itE a0 st := (E_func' (by rfl) Try.func37 _ _).trans (by kernel_rfl)
noncomputable def S17.b0 (call : CallF) (it : LoopF) (base lb : Nat) (vs32 : List PV) (st33 : St) : Option (Ex × List PV × St) :=
(aBin Try.prog false .lss 3 (nth vs32 3) (nth vs32 2)).bind fun p34 =>
onBool p34 fun b35 => (bif b35 then
some (Ex.normal, [(nth vs32 0), (nth vs32 1), (nth vs32 2), (nth vs32 3)], st33)
else
some ((Ex.exit 0), [(nth vs32 0), (nth vs32 1), (nth vs32 2), (nth vs32 3)], st33)).bind fun r36 =>
seqK r36.1 ((aIndexAddr Try.prog 41 (nth r36.2.1 1) (nth r36.2.1 3)).bind fun p38 =>
(aLoad true 9 p38 r36.2.2).bind fun p39 =>
let q41 : PV := .ptr false r36.2.2.stk.length 0
let st40 := r36.2.2.push [.v (.int .i64 0), .v (.int .i64 0), .v (.int .u64 0), .v (.int .i64 0), .v (.string ⟨#[]⟩), .v (.string ⟨#[]⟩), .sl [] .nil, .v (.int .i64 0), .v (.int .i64 0)]
(aStore base 9 q41 p39 st40).bind fun st42 =>
(aLoad true 9 q41 st42).bind fun p43 =>
(call (.func 17) [canon p43] st42).bind fun r44 =>
(elemsOf r44.2 r44.1).bind fun ys45 =>
(rAppend base [.v (.string ⟨#[]⟩)] 1 16 (nth r36.2.1 0) ys45 r44.2).bind fun r46 =>
(aBin Try.prog true .add 3 (nth r36.2.1 3) (PV.v (.int .i64 1))).bind fun p47 =>
leaveV base lb st33.stk.length Ex.normal [r46.1, (nth r36.2.1 1), (nth r36.2.1 2), p47] r46.2) fun x37 =>
leaveV base lb st33.stk.length x37 [(nth r36.2.1 0), (nth r36.2.1 1), (nth r36.2.1 2), (nth r36.2.1 3)] r36.2.2
/-- padlock/padlockref04.Expr -/
noncomputable def S17 (call : CallF) (it : LoopF) (a0 : PV) (st : St) : Option (PV × St) :=
(cellsOf a0).bind fun b1 =>
let q3 : PV := .ptr false st.stk.length 0
let st2 := st.push b1
(shift q3 0).bind fun p4 =>
(aLoad false 1 p4 st2).bind fun p5 =>
need (st2 = st2) <|
(call (.func 37) [canon p5] st2).bind fun r6 =>
need (r6.2 = st2) <|
(shift q3 1).bind fun p7 =>
(aLoad false 1 p7 st2).bind fun p8 =>
need (st2 = st2) <|
(call (.func 37) [canon p8] st2).bind fun r9 =>
need (r9.2 = st2) <|
(shift q3 2).bind fun p10 =>
(aLoad false 1 p10 st2).bind fun p11 =>
need (st2 = st2) <|
(aConv Try.prog 38 3 p11).bind fun p12 =>
(call (.func 37) [canon p12] st2).bind fun r13 =>
need (r13.2 = st2) <|
(shift q3 3).bind fun p14 =>
(shift p14 0).bind fun p15 =>
(aLoad false 1 p15 st2).bind fun p16 =>
need (st2 = st2) <|
(call (.func 37) [canon p16] st2).bind fun r17 =>
need (r17.2 = st2) <|
(shift q3 3).bind fun p18 =>
(shift p18 1).bind fun p19 =>
(aLoad false 1 p19 st2).bind fun p20 =>
need (st2 = st2) <|
(shift q3 5).bind fun p21 =>
(aLoad false 1 p21 st2).bind fun p22 =>
need (st2 = st2) <|
(shift q3 6).bind fun p23 =>
(aLoad false 1 p23 st2).bind fun p24 =>
need (st2 = st2) <|
(aLen Try.prog 41 p24).bind fun p25 =>
(call (.func 37) [canon p25] st2).bind fun r26 =>
need (r26.2 = st2) <|
(rBuildSlice 1 [.v (.string ⟨#[]⟩)] 8 [(0, (PV.v (.string ⟨#[101, 120, 112, 114]⟩))), (1, r6.1), (2, r9.1), (3, r13.1), (4, r17.1), (5, p20), (6, p22), (7, r26.1)]).bind fun p27 =>
(shift q3 6).bind fun p28 =>
(aLoad false 1 p28 st2).bind fun p29 =>
(aLen Try.prog 41 p29).bind fun p30 =>
(it (S17.b0 call it st.stk.length st.lp.length) [p27, p29, p30, (PV.v (.int .i64 0))] st2).bind fun r31 =>
seqK (Ex.outOf 0 r31.1) (fin st.stk.length st.tk.length st.lp.length [(nth r31.2.1 0)] r31.2.2) fun x48 =>
retK x48 (fin st.stk.length st.tk.length st.lp.length [PV.u] r31.2.2)
theorem S17_eq (a0 : PV) (st : St) : E L (.func 17) [a0] st = S17 (E L) itE a0 st := (E_func' (by rfl) Try.func17 _ _).trans (by kernel_rfl)
/-- padlock/padlockref04.place -/
noncomputable def S39 (call : CallF) (it : LoopF) (a0 : PV) (st : St) : Option (PV × St) :=
(cellsOf a0).bind fun b1 =>
let q3 : PV := .ptr false st.stk.length 0
let st2 := st.push b1
(shift q3 0).bind fun p4 =>
(aLoad false 1 p4 st2).bind fun p5 =>
need (st2 = st2) <|
(call (.func 37) [canon p5] st2).bind fun r6 =>
need (r6.2 = st2) <|
(shift q3 1).bind fun p7 =>
(aLoad false 1 p7 st2).bind fun p8 =>
need (st2 = st2) <|
(shift q3 2).bind fun p9 =>
(aLoad false 1 p9 st2).bind fun p10 =>
need (st2 = st2) <|
(rBuildSlice 1 [.v (.string ⟨#[]⟩)] 4 [(0, (PV.v (.string ⟨#[112, 108, 97, 99, 101]⟩))), (1, r6.1), (2, p8), (3, p10)]).bind fun p11 =>
(shift q3 3).bind fun p12 =>
(aLoad true 9 p12 st2).bind fun p13 =>
need (st2 = st2) <|
(call (.func 17) [canon p13] st2).bind fun r14 =>
need (r14.2 = st2) <|
(elemsOf st2 r14.1).bind fun ys15 =>
(rAppend st.stk.length [.v (.string ⟨#[]⟩)] 1 16 p11 ys15 st2).bind fun r16 =>
fin st.stk.length st.tk.length st.lp.length [r16.1] r16.2
theorem S39_eq (a0 : PV) (st : St) : E L (.func 39) [a0] st = S39 (E L) itE a0 st := (E_func' (by rfl) Try.func39 _ _).trans (by kernel_rfl)
noncomputable def S15.b1 (call : CallF) (it : LoopF) (base lb : Nat) (vs65 : List PV) (st66 : St) : Option (Ex × List PV × St) :=
(aBin Try.prog false .lss 3 (nth vs65 7) (nth vs65 6)).bind fun p67 =>
onBool p67 fun b68 => (bif b68 then
some (Ex.normal, [(nth vs65 0), (nth vs65 1), (nth vs65 2), (nth vs65 3), (nth vs65 4), (nth vs65 5), (nth vs65 6), (nth vs65 7)], st66)
else
some ((Ex.exit 2), [(nth vs65 0), (nth vs65 1), (nth vs65 2), (nth vs65 3), (nth vs65 4), (nth vs65 5), (nth vs65 6), (nth vs65 7)], st66)).bind fun r69 =>
seqK r69.1 ((aIndexAddr Try.prog 41 (nth r69.2.1 5) (nth r69.2.1 7)).bind fun p71 =>
(aLoad true 9 p71 r69.2.2).bind fun p72 =>
let q74 : PV := .ptr false r69.2.2.stk.length 0
let st73 := r69.2.2.push [.v (.int .i64 0), .v (.int .i64 0), .v (.int .u64 0), .v (.int .i64 0), .v (.string ⟨#[]⟩), .v (.string ⟨#[]⟩), .sl [] .nil, .v (.int .i64 0), .v (.int .i64 0)]
(aStore base 9 q74 p72 st73).bind fun st75 =>
(aLoad true 9 q74 st75).bind fun p76 =>
(call (.func 17) [canon p76] st75).bind fun r77 =>
(elemsOf r77.2 r77.1).bind fun ys78 =>
(rAppend base [.v (.string ⟨#[]⟩)] 1 16 (nth r69.2.1 0) ys78 r77.2).bind fun r79 =>
(aBin Try.prog true .add 3 (nth r69.2.1 7) (PV.v (.int .i64 1))).bind fun p80 =>
leaveV base lb st66.stk.length Ex.normal [r79.1, (nth r69.2.1 1), (nth r69.2.1 2), (nth r69.2.1 3), (nth r69.2.1 4), (nth r69.2.1 5), (nth r69.2.1 6), p80] r79.2) fun x70 =>
leaveV base lb st66.stk.length x70 [(nth r69.2.1 0), (nth r69.2.1 1), (nth r69.2.1 2), (nth r69.2.1 3), (nth r69.2.1 4), (nth r69.2.1 5), (nth r69.2.1 6), (nth r69.2.1 7)] r69.2.2
noncomputable def S15.b0 (call : CallF) (it : LoopF) (base lb : Nat) (vs6 : List PV) (st7 : St) : Option (Ex × List PV × St) :=
(aBin Try.prog false .lss 3 (nth vs6 3) (nth vs6 2)).bind fun p8 =>
onBool p8 fun b9 => (bif b9 then
some (Ex.normal, [(nth vs6 0), (nth vs6 1), (nth vs6 2), (nth vs6 3)], st7)
else
some ((Ex.exit 0), [(nth vs6 0), (nth vs6 1), (nth vs6 2), (nth vs6 3)], st7)).bind fun r10 =>
seqK r10.1 ((aIndexAddr Try.prog 31 (nth r10.2.1 1) (nth r10.2.1 3)).bind fun p12 =>
(aLoad true 58 p12 r10.2.2).bind fun p13 =>
let q15 : PV := .ptr false r10.2.2.stk.length 0
let st14 := r10.2.2.push [.v (.int .i64 0), .v (.string ⟨#[]⟩), .v (.int .i64 0), .v (.int .i64 0), .v (.int .i64 0), .v (.int .u64 0), .v (.int .i64 0), .v (.string ⟨#[]⟩), .v (.string ⟨#[]⟩), .sl [] .nil, .v (.int .i64 0), .v (.int .i64 0), .v (.int .i64 0), .v (.string ⟨#[]⟩), .v (.string ⟨#[]⟩), .v (.int .i64 0), .v (.int .i64 0), .v (.int .u64 0), .v (.int .i64 0), .v (.string ⟨#[]⟩), .v (.string ⟨#[]⟩), .sl [] .nil, .v (.int .i64 0), .v (.int .i64 0), .v (.int .i64 0), .v (.int .i64 0), .v (.string ⟨#[]⟩), .v (.int .i64 0), .v (.int .i64 0), .v (.int .i64 0), .v (.string ⟨#[]⟩), .v (.string ⟨#[]⟩), .v (.int .i64 0), .v (.int .i64 0), .v (.int .u64 0), .v (.int .i64 0), .v (.string ⟨#[]⟩), .v (.string ⟨#[]⟩), .sl [] .nil, .v (.int .i64 0), .v (.int .i64 0), .v (.int .i64 0), .v (.int .i64 0), .v (.int .i64 0), .v (.int .i64 0), .v (.int .u64 0), .v (.int .i64 0), .v (.string ⟨#[]⟩), .v (.string ⟨#[]⟩), .sl [] .nil, .v (.int .i64 0), .v (.int .i64 0), .v (.int .i64 0), .sl [] .nil, .sl [] .nil, .sl [] .nil, .v (.int .i64 0), .v (.int .i64 0)]
(aStore base 58 q15 p13 st14).bind fun st16 =>
(shift q15 0).bind fun p17 =>
(aLoad false 1 p17 st16).bind fun p18 =>
need (st16 = st16) <|
(call (.func 37) [canon p18] st16).bind fun r19 =>
need (r19.2 = st16) <|
(shift q15 1).bind fun p20 =>
(aLoad false 1 p20 st16).bind fun p21 =>
need (st16 = st16) <|
(shift q15 52).bind fun p22 =>
(aLoad false 1 p22 st16).bind fun p23 =>
need (st16 = st16) <|
(call (.func 37) [canon p23] st16).bind fun r24 =>
need (r24.2 = st16) <|
(shift q15 2).bind fun p25 =>
(shift p25 0).bind fun p26 =>
(aLoad false 1 p26 st16).bind fun p27 =>
need (st16 = st16) <|
(call (.func 37) [canon p27] st16).bind fun r28 =>
need (r28.2 = st16) <|
(shift q15 2).bind fun p29 =>
(shift p29 24).bind fun p30 =>
(aLoad false 1 p30 st16).bind fun p31 =>
need (st16 = st16) <|
(shift q15 53).bind fun p32 =>
(aLoad false 1 p32 st16).bind fun p33 =>
need (st16 = st16) <|
(aLen Try.prog 41 p33).bind fun p34 =>
(call (.func 37) [canon p34] st16).bind fun r35 =>
need (r35.2 = st16) <|
(rBuildSlice 1 [.v (.string ⟨#[]⟩)] 7 [(0, (PV.v (.string ⟨#[115, 116, 109, 116]⟩))), (1, r19.1), (2, p21), (3, r24.1), (4, r28.1), (5, p31), (6, r35.1)]).bind fun p36 =>
(elemsOf st16 p36).bind fun ys37 =>
(rAppend base [.v (.string ⟨#[]⟩)] 1 16 (nth r10.2.1 0) ys37 st16).bind fun r38 =>
(shift q15 2).bind fun p39 =>
(shift p39 1).bind fun p40 =>
(aLoad true 9 p40 r38.2).bind fun p41 =>
(call (.func 17) [canon p41] r38.2).bind fun r42 =>
(elemsOf r42.2 r42.1).bind fun ys43 =>
(rAppend base [.v (.string ⟨#[]⟩)] 1 16 r38.1 ys43 r42.2).bind fun r44 =>
(shift q15 2).bind fun p45 =>
(shift p45 10).bind fun p46 =>
(aLoad true 14 p46 r44.2).bind fun p47 =>
(call (.func 39) [canon p47] r44.2).bind fun r48 =>
(elemsOf r48.2 r48.1).bind fun ys49 =>
(rAppend base [.v (.string ⟨#[]⟩)] 1 16 r44.1 ys49 r48.2).bind fun r50 =>
(shift q15 29).bind fun p51 =>
(aLoad true 14 p51 r50.2).bind fun p52 =>
(call (.func 39) [canon p52] r50.2).bind fun r53 =>
(elemsOf r53.2 r53.1).bind fun ys54 =>
(rAppend base [.v (.string ⟨#[]⟩)] 1 16 r50.1 ys54 r53.2).bind fun r55 =>
(shift q15 43).bind fun p56 =>
(aLoad true 9 p56 r55.2).bind fun p57 =>
(call (.func 17) [canon p57] r55.2).bind fun r58 =>
(elemsOf r58.2 r58.1).bind fun ys59 =>
(rAppend base [.v (.string ⟨#[]⟩)] 1 16 r55.1 ys59 r58.2).bind fun r60 =>
(shift q15 53).bind fun p61 =>
(aLoad false 1 p61 r60.2).bind fun p62 =>
(aLen Try.prog 41 p62).bind fun p63 =>
(it (S15.b1 call it base lb) [r60.1, q15, (nth r10.2.1 1), (nth r10.2.1 2), (nth r10.2.1 3), p62, p63, (PV.v (.int .i64 0))] r60.2).bind fun r64 =>
seqK (Ex.outOf 2 r64.1) ((shift (nth r64.2.1 1) 54).bind fun p82 =>
(aLoad false 1 p82 r64.2.2).bind fun p83 =>
(call (.func 15) [canon p83] r64.2.2).bind fun r84 =>
(elemsOf r84.2 r84.1).bind fun ys85 =>
(rAppend base [.v (.string ⟨#[]⟩)] 1 16 (nth r64.2.1 0) ys85 r84.2).bind fun r86 =>
(shift (nth r64.2.1 1) 55).bind fun p87 =>
(aLoad false 1 p87 r86.2).bind fun p88 =>
(call (.func 15) [canon p88] r86.2).bind fun r89 =>
(elemsOf r89.2 r89.1).bind fun ys90 =>
(rAppend base [.v (.string ⟨#[]⟩)] 1 16 r86.1 ys90 r89.2).bind fun r91 =>
(aBin Try.prog true .add 3 (nth r64.2.1 4) (PV.v (.int .i64 1))).bind fun p92 =>
leaveV base lb st7.stk.length Ex.normal [r91.1, (nth r64.2.1 2), (nth r64.2.1 3), p92] r91.2) fun x81 =>
seqK (Ex.outOf 1 x81) ((aBin Try.prog true .add 3 (nth r64.2.1 4) (PV.v (.int .i64 1))).bind fun p94 =>
leaveV base lb st7.stk.length Ex.normal [(nth r64.2.1 0), (nth r64.2.1 2), (nth r64.2.1 3), p94] r64.2.2) fun x93 =>
leaveV base lb st7.stk.length x93 [(nth r64.2.1 0), (nth r64.2.1 2), (nth r64.2.1 3), (nth r64.2.1 4)] r64.2.2) fun x11 =>
leaveV base lb st7.stk.length x11 [(nth r10.2.1 0), (nth r10.2.1 1), (nth r10.2.1 2), (nth r10.2.1 3)] r10.2.2
/-- padlock/padlockref04.Stmts -/
noncomputable def S15 (call : CallF) (it : LoopF) (a0 : PV) (st : St) : Option (PV × St) :=
(aLen Try.prog 31 a0).bind fun p1 =>
(call (.func 37) [canon p1] st).bind fun r2 =>
(rBuildSlice 1 [.v (.string ⟨#[]⟩)] 2 [(0, (PV.v (.string ⟨#[114, 111, 119]⟩))), (1, r2.1)]).bind fun p3 =>
(aLen Try.prog 31 a0).bind fun p4 =>
(it (S15.b0 call it st.stk.length st.lp.length) [p3, a0, p4, (PV.v (.int .i64 0))] r2.2).bind fun r5 =>
seqK (Ex.outOf 0 r5.1) (fin st.stk.length st.tk.length st.lp.length [(nth r5.2.1 0)] r5.2.2) fun x95 =>
retK x95 (fin st.stk.length st.tk.length st.lp.length [PV.u] r5.2.2)
theorem S15_eq (a0 : PV) (st : St) : E L (.func 15) [a0] st = S15 (E L) itE a0 st := (E_func' (by rfl) Try.func15 _ _).trans (by kernel_rfl)
noncomputable def S19.b1 (call : CallF) (it : LoopF) (base lb : Nat) (vs28 : List PV) (st29 : St) : Option (Ex × List PV × St) :=
(aBin Try.prog false .lss 3 (nth vs28 8) (nth vs28 7)).bind fun p30 =>
onBool p30 fun b31 => (bif b31 then
some (Ex.normal, [(nth vs28 0), (nth vs28 1), (nth vs28 2), (nth vs28 3), (nth vs28 4), (nth vs28 5), (nth vs28 6), (nth vs28 7), (nth vs28 8)], st29)
else
some ((Ex.exit 2), [(nth vs28 0), (nth vs28 1), (nth vs28 2), (nth vs28 3), (nth vs28 4), (nth vs28 5), (nth vs28 6), (nth vs28 7), (nth vs28 8)], st29)).bind fun r32 =>
seqK r32.1 ((aIndexAddr Try.prog 61 (nth r32.2.1 6) (nth r32.2.1 8)).bind fun p34 =>
(aLoad false 1 p34 r32.2.2).bind fun p35 =>
(aBin Try.prog true .add 3 (nth r32.2.1 0) (PV.v (.int .i64 1))).bind fun p36 =>
(call (.func 19) [canon p35, canon p36] r32.2.2).bind fun r37 =>
(aExtract r37.1 0).bind fun p38 =>
(aExtract r37.1 1).bind fun p39 =>
(elemsOf r37.2 p38).bind fun ys40 =>
(rAppend base [.v (.int .i64 0), .v (.string ⟨#[]⟩), .v (.int .i64 0), .v (.int .i64 0), .v (.int .i64 0), .v (.int .u64 0), .v (.int .i64 0), .v (.string ⟨#[]⟩), .v (.string ⟨#[]⟩), .sl [] .nil, .v (.int .i64 0), .v (.int .i64 0), .v (.int .i64 0), .v (.string ⟨#[]⟩), .v (.string ⟨#[]⟩), .v (.int .i64 0), .v (.int .i64 0), .v (.int .u64 0), .v (.int .i64 0), .v (.string ⟨#[]⟩), .v (.string ⟨#[]⟩), .sl [] .nil, .v (.int .i64 0), .v (.int .i64 0), .v (.int .i64 0), .v (.int .i64 0), .v (.string ⟨#[]⟩), .v (.int .i64 0), .v (.int .i64 0), .v (.int .i64 0), .v (.string ⟨#[]⟩), .v (.string ⟨#[]⟩), .v (.int .i64 0), .v (.int .i64 0), .v (.int .u64 0), .v (.int .i64 0), .v (.string ⟨#[]⟩), .v (.string ⟨#[]⟩), .sl [] .nil, .v (.int .i64 0), .v (.int .i64 0), .v (.int .i64 0), .v (.int .i64 0), .v (.int .i64 0), .v (.int .i64 0), .v (.int .u64 0), .v (.int .i64 0), .v (.string ⟨#[]⟩), .v (.string ⟨#[]⟩), .sl [] .nil, .v (.int .i64 0), .v (.int .i64 0), .v (.int .i64 0), .sl [] .nil, .sl [] .nil, .sl [] .nil, .v (.int .i64 0), .v (.int .i64 0)] 58 688 (nth r32.2.1 1) ys40 r37.2).bind fun r41 =>
(elemsOf r41.2 p39).bind fun ys42 =>
(rAppend base [.v (.int .i64 0)] 1 8 (nth r32.2.1 2) ys42 r41.2).bind fun r43 =>
(aBin Try.prog true .add 3 (nth r32.2.1 8) (PV.v (.int .i64 1))).bind fun p44 =>
some (Ex.normal, [(nth r32.2.1 0), r41.1, r43.1, (nth r32.2.1 3), (nth r32.2.1 4), (nth r32.2.1 5), (nth r32.2.1 6), (nth r32.2.1 7), p44], r43.2)) fun x33 =>
some (x33, [(nth r32.2.1 0), (nth r32.2.1 1), (nth r32.2.1 2), (nth r32.2.1 3), (nth r32.2.1 4), (nth r32.2.1 5), (nth r32.2.1 6), (nth r32.2.1 7), (nth r32.2.1 8)], r32.2.2)
noncomputable def S19.b0 (call : CallF) (it : LoopF) (base lb : Nat) (vs3 : List PV) (st4 : St) : Option (Ex × List PV × St) :=
(aBin Try.prog false .lss 3 (nth vs3 5) (nth vs3 4)).bind fun p5 =>
onBool p5 fun b6 => (bif b6 then
some (Ex.normal, [(nth vs3 0), (nth vs3 1), (nth vs3 2), (nth vs3 3), (nth vs3 4), (nth vs3 5)], st4)
else
some ((Ex.exit 0), [(nth vs3 0), (nth vs3 1), (nth vs3 2), (nth vs3 3), (nth vs3 4), (nth vs3 5)], st4)).bind fun r7 =>
seqK r7.1 ((aIndexAddr Try.prog 31 (nth r7.2.1 3) (nth r7.2.1 5)).bind fun p9 =>
(aLoad true 58 p9 r7.2.2).bind fun p10 =>
let q12 : PV := .ptr false r7.2.2.stk.length 0
let st11 := r7.2.2.push [.v (.int .i64 0), .v (.string ⟨#[]⟩), .v (.int .i64 0), .v (.int .i64 0), .v (.int .i64 0), .v (.int .u64 0), .v (.int .i64 0), .v (.string ⟨#[]⟩), .v (.string ⟨#[]⟩), .sl [] .nil, .v (.int .i64 0), .v (.int .i64 0), .v (.int .i64 0), .v (.string ⟨#[]⟩), .v (.string ⟨#[]⟩), .v (.int .i64 0), .v (.int .i64 0), .v (.int .u64 0), .v (.int .i64 0), .v (.string ⟨#[]⟩), .v (.string ⟨#[]⟩), .sl [] .nil, .v (.int .i64 0), .v (.int .i64 0), .v (.int .i64 0), .v (.int .i64 0), .v (.string ⟨#[]⟩), .v (.int .i64 0), .v (.int .i64 0), .v (.int .i64 0), .v (.string ⟨#[]⟩), .v (.string ⟨#[]⟩), .v (.int .i64 0), .v (.int .i64 0), .v (.int .u64 0), .v (.int .i64 0), .v (.string ⟨#[]⟩), .v (.string ⟨#[]⟩), .sl [] .nil, .v (.int .i64 0), .v (.int .i64 0), .v (.int .i64 0), .v (.int .i64 0), .v (.int .i64 0), .v (.int .i64 0), .v (.int .u64 0), .v (.int .i64 0), .v (.string ⟨#[]⟩), .v (.string ⟨#[]⟩), .sl [] .nil, .v (.int .i64 0), .v (.int .i64 0), .v (.int .i64 0), .sl [] .nil, .sl [] .nil, .sl [] .nil, .v (.int .i64 0), .v (.int .i64 0)]
(aStore base 58 q12 p10 st11).bind fun st13 =>
(aLoad true 58 q12 st13).bind fun p14 =>
(rBuildSlice 58 [.v (.int .i64 0), .v (.string ⟨#[]⟩), .v (.int .i64 0), .v (.int .i64 0), .v (.int .i64 0), .v (.int .u64 0), .v (.int .i64 0), .v (.string ⟨#[]⟩), .v (.string ⟨#[]⟩), .sl [] .nil, .v (.int .i64 0), .v (.int .i64 0), .v (.int .i64 0), .v (.string ⟨#[]⟩), .v (.string ⟨#[]⟩), .v (.int .i64 0), .v (.int .i64 0), .v (.int .u64 0), .v (.int .i64 0), .v (.string ⟨#[]⟩), .v (.string ⟨#[]⟩), .sl [] .nil, .v (.int .i64 0), .v (.int .i64 0), .v (.int .i64 0), .v (.int .i64 0), .v (.string ⟨#[]⟩), .v (.int .i64 0), .v (.int .i64 0), .v (.int .i64 0), .v (.string ⟨#[]⟩), .v (.string ⟨#[]⟩), .v (.int .i64 0), .v (.int .i64 0), .v (.int .u64 0), .v (.int .i64 0), .v (.string ⟨#[]⟩), .v (.string ⟨#[]⟩), .sl [] .nil, .v (.int .i64 0), .v (.int .i64 0), .v (.int .i64 0), .v (.int .i64 0), .v (.int .i64 0), .v (.int .i64 0), .v (.int .u64 0), .v (.int .i64 0), .v (.string ⟨#[]⟩), .v (.string ⟨#[]⟩), .sl [] .nil, .v (.int .i64 0), .v (.int .i64 0), .v (.int .i64 0), .sl [] .nil, .sl [] .nil, .sl [] .nil, .v (.int .i64 0), .v (.int .i64 0)] 1 [(0, p14)]).bind fun p15 =>
(elemsOf st13 p15).bind fun ys16 =>
(rAppend base [.v (.int .i64 0), .v (.string ⟨#[]⟩), .v (.int .i64 0), .v (.int .i64 0), .v (.int .i64 0), .v (.int .u64 0), .v (.int .i64 0), .v (.string ⟨#[]⟩), .v (.string ⟨#[]⟩), .sl [] .nil, .v (.int .i64 0), .v (.int .i64 0), .v (.int .i64 0), .v (.string ⟨#[]⟩), .v (.string ⟨#[]⟩), .v (.int .i64 0), .v (.int .i64 0), .v (.int .u64 0), .v (.int .i64 0), .v (.string ⟨#[]⟩), .v (.string ⟨#[]⟩), .sl [] .nil, .v (.int .i64 0), .v (.int .i64 0), .v (.int .i64 0), .v (.int .i64 0), .v (.string ⟨#[]⟩), .v (.int .i64 0), .v (.int .i64 0), .v (.int .i64 0), .v (.string ⟨#[]⟩), .v (.string ⟨#[]⟩), .v (.int .i64 0), .v (.int .i64 0), .v (.int .u64 0), .v (.int .i64 0), .v (.string ⟨#[]⟩), .v (.string ⟨#[]⟩), .sl [] .nil, .v (.int .i64 0), .v (.int .i64 0), .v (.int .i64 0), .v (.int .i64 0), .v (.int .i64 0), .v (.int .i64 0), .v (.int .u64 0), .v (.int .i64 0), .v (.string ⟨#[]⟩), .v (.string ⟨#[]⟩), .sl [] .nil, .v (.int .i64 0), .v (.int .i64 0), .v (.int .i64 0), .sl [] .nil, .sl [] .nil, .sl [] .nil, .v (.int .i64 0), .v (.int .i64 0)] 58 688 (nth r7.2.1 1) ys16 st13).bind fun r17 =>
(rBuildSlice 1 [.v (.int .i64 0)] 1 [(0, (nth r7.2.1 0))]).bind fun p18 =>
(elemsOf r17.2 p18).bind fun ys19 =>
(rAppend base [.v (.int .i64 0)] 1 8 (nth r7.2.1 2) ys19 r17.2).bind fun r20 =>
(shift q12 54).bind fun p21 =>
(aLoad false 1 p21 r20.2).bind fun p22 =>
(shift q12 55).bind fun p23 =>
(aLoad false 1 p23 r20.2).bind fun p24 =>
(rBuildSlice 1 [.sl [] .nil] 2 [(0, p22), (1, p24)]).bind fun p25 =>
(aLen Try.prog 61 p25).bind fun p26 =>
(it (S19.b1 call it base lb) [(nth r7.2.1 0), r17.1, r20.1, (nth r7.2.1 3), (nth r7.2.1 4), (nth r7.2.1 5), p25, p26, (PV.v (.int .i64 0))] r20.2).bind fun r27 =>
seqK (Ex.outOf 1 (Ex.outOf 2 r27.1)) ((aBin Try.prog true .add 3 (nth r27.2.1 5) (PV.v (.int .i64 1))).bind fun p46 =>
leaveV base lb st4.stk.length Ex.normal [(nth r27.2.1 0), (nth r27.2.1 1), (nth r27.2.1 2), (nth r27.2.1 3), (nth r27.2.1 4), p46] r27.2.2) fun x45 =>
leaveV base lb st4.stk.length x45 [(nth r27.2.1 0), (nth r27.2.1 1), (nth r27.2.1 2), (nth r27.2.1 3), (nth r27.2.1 4), (nth r27.2.1 5)] r27.2.2) fun x8 =>
leaveV base lb st4.stk.length x8 [(nth r7.2.1 0), (nth r7.2.1 1), (nth r7.2.1 2), (nth r7.2.1 3), (nth r7.2.1 4), (nth r7.2.1 5)] r7.2.2
/-- padlock/padlockref04.Flat -/
noncomputable def S19 (call : CallF) (it : LoopF) (a0 a1 : PV) (st : St) : Option (PV × St) :=
(aLen Try.prog 31 a0).bind fun p1 =>
(it (S19.b0 call it st.stk.length st.lp.length) [a1, (PV.sl [] .nil), (PV.sl [] .nil), a0, p1, (PV.v (.int .i64 0))] st).bind fun r2 =>
seqK (Ex.outOf 0 r2.1) (fin st.stk.length st.tk.length st.lp.length [(nth r2.2.1 1), (nth r2.2.1 2)] r2.2.2) fun x47 =>
retK x47 (fin st.stk.length st.tk.length st.lp.length [PV.u, PV.u] r2.2.2)
theorem S19_eq (a0 a1 : PV) (st : St) : E L (.func 19) [a0, a1] st = S19 (E L) itE a0 a1 st := (E_func' (by rfl) Try.func19 _ _).trans (by kernel_rfl)
end Go.Proofs.Ytkbhejcfejembaa.S

/- The seat's functions, each as a Lean function over plain values, and that the evaluator comes to it: written by my program mkS.py. No condition. -/
namespace Go.Proofs.Ytkbhejcfejembaa.S
open Go Go.AM Go.Proofs
set_option linter.unusedVariables false
noncomputable def S9.lp0 (vs : List PV) : Lp := ⟨[3, 4, 5, 6, 7, 8], vs, 59, ⟨[], []⟩, [18, 19], (Try.f9.body.getD .skip).r.r.r.l.r.l.l, (Try.f9.body.getD .skip).r.r.r.l.r.l.r, (.seq .nil (.blk (.seq (.seq .nil (.cnd [4, 5, 6, 7, 8, 9, 10] .nil .nil)) (.seq (.seq .nil (.cnd [8] .nil .nil)) .nil)))), 0, .normal⟩
noncomputable def S9.r0 (call : CallF) (it : LoopF) (i : Nat) (vs : List PV) (p0_ p1_ : PV) (st : St) : Option (PV × St) :=
let q27 : PV := .ptr false st.stk.length 0
let st26 := st.push [.v (.int .i64 0), .v (.string ⟨#[]⟩), .v (.int .i64 0), .v (.int .i64 0), .v (.int .i64 0), .v (.int .u64 0), .v (.int .i64 0), .v (.string ⟨#[]⟩), .v (.string ⟨#[]⟩), .sl [] .nil, .v (.int .i64 0), .v (.int .i64 0), .v (.int .i64 0), .v (.string ⟨#[]⟩), .v (.string ⟨#[]⟩), .v (.int .i64 0), .v (.int .i64 0), .v (.int .u64 0), .v (.int .i64 0), .v (.string ⟨#[]⟩), .v (.string ⟨#[]⟩), .sl [] .nil, .v (.int .i64 0), .v (.int .i64 0), .v (.int .i64 0), .v (.int .i64 0), .v (.string ⟨#[]⟩), .v (.int .i64 0), .v (.int .i64 0), .v (.int .i64 0), .v (.string ⟨#[]⟩), .v (.string ⟨#[]⟩), .v (.int .i64 0), .v (.int .i64 0), .v (.int .u64 0), .v (.int .i64 0), .v (.string ⟨#[]⟩), .v (.string ⟨#[]⟩), .sl [] .nil, .v (.int .i64 0), .v (.int .i64 0), .v (.int .i64 0), .v (.int .i64 0), .v (.int .i64 0), .v (.int .i64 0), .v (.int .u64 0), .v (.int .i64 0), .v (.string ⟨#[]⟩), .v (.string ⟨#[]⟩), .sl [] .nil, .v (.int .i64 0), .v (.int .i64 0), .v (.int .i64 0), .sl [] .nil, .sl [] .nil, .sl [] .nil, .v (.int .i64 0), .v (.int .i64 0)]
(aStore st.stk.length 58 q27 p1_ st26).bind fun st28 =>
beginR i st28 fun st29 =>
(aLoad false 1 (nth vs 5) st29).bind fun p30 =>
(aLoad false 1 (nth vs 0) st29).bind fun p31 =>
(aBin Try.prog false .geq 3 p30 p31).bind fun p32 =>
onBool p32 fun b33 => (bif b33 then
some ((Ex.exit 0), [(nth vs 1), (nth vs 2), (nth vs 3), (nth vs 4), (nth vs 5), p0_, q27], st29)
else
some (Ex.normal, [(nth vs 1), (nth vs 2), (nth vs 3), (nth vs 4), (nth vs 5), p0_, q27], st29)).bind fun r34 =>
seqK r34.1 ((aLoad false 1 (nth r34.2.1 4) r34.2.2).bind fun p36 =>
need (r34.2.2 = r34.2.2) <|
(aLoad false 1 (nth r34.2.1 2) r34.2.2).bind fun p37 =>
need (r34.2.2 = r34.2.2) <|
(aLen Try.prog 31 p37).bind fun p38 =>
(aBin Try.prog false .geq 3 p36 p38).bind fun p39 =>
(onG p39 false (
some ((nth r34.2.1 5), r34.2.2)) r34.2.2).bind fun r41 =>
(onG p39 false (
(aLoad false 1 (nth r34.2.1 3) r34.2.2).bind fun p44 =>
some (p44, r34.2.2)) r34.2.2).bind fun r43 =>
need (r43.2 = r34.2.2) <|
(onG p39 false (
(aLoad false 1 (nth r34.2.1 4) r34.2.2).bind fun p47 =>
some (p47, r34.2.2)) r34.2.2).bind fun r46 =>
need (r46.2 = r34.2.2) <|
(onG p39 false (
(aIndexAddr Try.prog 22 r43.1 r46.1).bind fun p50 =>
some (p50, r34.2.2)) r34.2.2).bind fun r49 =>
(onG p39 false (
(aLoad false 1 r49.1 r34.2.2).bind fun p53 =>
some (p53, r34.2.2)) r34.2.2).bind fun r52 =>
need (r52.2 = r34.2.2) <|
(onG p39 false (
(aBin Try.prog false .neq 3 r41.1 r52.1).bind fun p56 =>
some (p56, r34.2.2)) r34.2.2).bind fun r55 =>
(aPick p39 (PV.v (.bool true)) r55.1).bind fun p57 =>
(onG p57 false (
(aLoad true 58 (nth r34.2.1 6) r34.2.2).bind fun p60 =>
some (p60, r34.2.2)) r34.2.2).bind fun r59 =>
need (r59.2 = r34.2.2) <|
(onG p57 false (
(rBuildSlice 58 [.v (.int .i64 0), .v (.string ⟨#[]⟩), .v (.int .i64 0), .v (.int .i64 0), .v (.int .i64 0), .v (.int .u64 0), .v (.int .i64 0), .v (.string ⟨#[]⟩), .v (.string ⟨#[]⟩), .sl [] .nil, .v (.int .i64 0), .v (.int .i64 0), .v (.int .i64 0), .v (.string ⟨#[]⟩), .v (.string ⟨#[]⟩), .v (.int .i64 0), .v (.int .i64 0), .v (.int .u64 0), .v (.int .i64 0), .v (.string ⟨#[]⟩), .v (.string ⟨#[]⟩), .sl [] .nil, .v (.int .i64 0), .v (.int .i64 0), .v (.int .i64 0), .v (.int .i64 0), .v (.string ⟨#[]⟩), .v (.int .i64 0), .v (.int .i64 0), .v (.int .i64 0), .v (.string ⟨#[]⟩), .v (.string ⟨#[]⟩), .v (.int .i64 0), .v (.int .i64 0), .v (.int .u64 0), .v (.int .i64 0), .v (.string ⟨#[]⟩), .v (.string ⟨#[]⟩), .sl [] .nil, .v (.int .i64 0), .v (.int .i64 0), .v (.int .i64 0), .v (.int .i64 0), .v (.int .i64 0), .v (.int .i64 0), .v (.int .u64 0), .v (.int .i64 0), .v (.string ⟨#[]⟩), .v (.string ⟨#[]⟩), .sl [] .nil, .v (.int .i64 0), .v (.int .i64 0), .v (.int .i64 0), .sl [] .nil, .sl [] .nil, .sl [] .nil, .v (.int .i64 0), .v (.int .i64 0)] 1 [(0, r59.1)]).bind fun p63 =>
some (p63, r34.2.2)) r34.2.2).bind fun r62 =>
(onG p57 false (
(call (.func 15) [canon r62.1] r34.2.2).bind fun r66 =>
some (r66.1, r66.2)) r34.2.2).bind fun r65 =>
need (r65.2 = r34.2.2) <|
(onG p57 false (
(aLoad false 1 (nth r34.2.1 2) r34.2.2).bind fun p69 =>
some (p69, r34.2.2)) r34.2.2).bind fun r68 =>
need (r68.2 = r34.2.2) <|
(onG p57 false (
(aLoad false 1 (nth r34.2.1 4) r34.2.2).bind fun p72 =>
some (p72, r34.2.2)) r34.2.2).bind fun r71 =>
need (r71.2 = r34.2.2) <|
(onG p57 false (
(aIndexAddr Try.prog 31 r68.1 r71.1).bind fun p75 =>
some (p75, r34.2.2)) r34.2.2).bind fun r74 =>
(onG p57 false (
(aLoad true 58 r74.1 r34.2.2).bind fun p78 =>
some (p78, r34.2.2)) r34.2.2).bind fun r77 =>
need (r77.2 = r34.2.2) <|
(onG p57 false (
(rBuildSlice 58 [.v (.int .i64 0), .v (.string ⟨#[]⟩), .v (.int .i64 0), .v (.int .i64 0), .v (.int .i64 0), .v (.int .u64 0), .v (.int .i64 0), .v (.string ⟨#[]⟩), .v (.string ⟨#[]⟩), .sl [] .nil, .v (.int .i64 0), .v (.int .i64 0), .v (.int .i64 0), .v (.string ⟨#[]⟩), .v (.string ⟨#[]⟩), .v (.int .i64 0), .v (.int .i64 0), .v (.int .u64 0), .v (.int .i64 0), .v (.string ⟨#[]⟩), .v (.string ⟨#[]⟩), .sl [] .nil, .v (.int .i64 0), .v (.int .i64 0), .v (.int .i64 0), .v (.int .i64 0), .v (.string ⟨#[]⟩), .v (.int .i64 0), .v (.int .i64 0), .v (.int .i64 0), .v (.string ⟨#[]⟩), .v (.string ⟨#[]⟩), .v (.int .i64 0), .v (.int .i64 0), .v (.int .u64 0), .v (.int .i64 0), .v (.string ⟨#[]⟩), .v (.string ⟨#[]⟩), .sl [] .nil, .v (.int .i64 0), .v (.int .i64 0), .v (.int .i64 0), .v (.int .i64 0), .v (.int .i64 0), .v (.int .i64 0), .v (.int .u64 0), .v (.int .i64 0), .v (.string ⟨#[]⟩), .v (.string ⟨#[]⟩), .sl [] .nil, .v (.int .i64 0), .v (.int .i64 0), .v (.int .i64 0), .sl [] .nil, .sl [] .nil, .sl [] .nil, .v (.int .i64 0), .v (.int .i64 0)] 1 [(0, r77.1)]).bind fun p81 =>
some (p81, r34.2.2)) r34.2.2).bind fun r80 =>
(onG p57 false (
(call (.func 15) [canon r80.1] r34.2.2).bind fun r84 =>
some (r84.1, r84.2)) r34.2.2).bind fun r83 =>
need (r83.2 = r34.2.2) <|
(onG p57 false (
(call (.func 13) [canon r65.1, canon r83.1] r34.2.2).bind fun r87 =>
some (r87.1, r87.2)) r34.2.2).bind fun r86 =>
need (r86.2 = r34.2.2) <|
(onG p57 false (
(aUn Try.prog .not r86.1).bind fun p90 =>
some (p90, r34.2.2)) r34.2.2).bind fun r89 =>
(aPick p57 (PV.v (.bool true)) r89.1).bind fun p91 =>
onBool p91 fun b92 => (bif b92 then
(aLoad false 1 (nth r34.2.1 4) r34.2.2).bind fun p94 =>
(aStore st.stk.length 1 (nth r34.2.1 0) p94 r34.2.2).bind fun st95 =>
(aStore st.stk.length 1 (nth r34.2.1 1) (PV.v (.bool false)) st95).bind fun st96 =>
some (Ex.ret, [(nth r34.2.1 4)], st96)
else
some (Ex.normal, [(nth r34.2.1 4)], r34.2.2)).bind fun r93 =>
seqK r93.1 ((aLoad false 1 (nth r93.2.1 0) r93.2.2).bind fun p98 =>
(aBin Try.prog true .add 3 p98 (PV.v (.int .i64 1))).bind fun p99 =>
(aStore st.stk.length 1 (nth r93.2.1 0) p99 r93.2.2).bind fun st100 =>
finR st.stk.length st.tk.length st.lp.length i Ex.normal st100) fun x97 =>
finR st.stk.length st.tk.length st.lp.length i (Ex.outOf 1 x97) r93.2.2) fun x35 =>
finR st.stk.length st.tk.length st.lp.length i (Ex.outOf 1 x35) r34.2.2
/-- padlock/padlocklaw04.gone -/
noncomputable def S9 (call : CallF) (it : LoopF) (a0 a1 : PV) (st : St) : Option (PV × St) :=
(cellsOf a1).bind fun b1 =>
let q3 : PV := .ptr false st.stk.length 0
let st2 := st.push b1
let q5 : PV := .ptr false st2.stk.length 0
let st4 := st2.push [.v (.int .i64 0)]
let q7 : PV := .ptr false st4.stk.length 0
let st6 := st4.push [.v (.bool false)]
(call (.func 19) [canon a0, canon (PV.v (.int .i64 0))] st6).bind fun r8 =>
(aExtract r8.1 0).bind fun p9 =>
(aExtract r8.1 1).bind fun p10 =>
let q12 : PV := .ptr false r8.2.stk.length 0
let st11 := r8.2.push [.sl [] .nil]
let q14 : PV := .ptr false st11.stk.length 0
let st13 := st11.push [.sl [] .nil]
(aStore st.stk.length 1 q12 p9 st13).bind fun st15 =>
(aStore st.stk.length 1 q14 p10 st15).bind fun st16 =>
let q18 : PV := .ptr false st16.stk.length 0
let st17 := st16.push [.v (.int .i64 0)]
(aStore st.stk.length 1 q18 (PV.v (.int .i64 0)) st17).bind fun st19 =>
(call (.func 26) [canon a0] st19).bind fun r20 =>
onFn r20.1 fun g21 caps22 => bif true && plainFn g21 then
(call g21 (.clo (.yield r20.2.lp.length) [] :: caps22) { r20.2 with lp := r20.2.lp ++ [.loop (S9.lp0 [q3, q5, q7, q12, q14, q18])] }).bind fun r23 =>
endLp r23.2 r20.2.stk.length r20.2.tk.length r20.2.lp.length fun x24 st25 =>
seqK (Ex.outOf 0 x24) ((aLoad false 1 q18 st25).bind fun p102 =>
need (st25 = st25) <|
(aLoad false 1 q18 st25).bind fun p103 =>
need (st25 = st25) <|
(aLoad false 1 q3 st25).bind fun p104 =>
need (st25 = st25) <|
(aMax2 Try.prog p104 (PV.v (.int .i64 0))).bind fun p105 =>
(aLoad false 1 q12 st25).bind fun p106 =>
need (st25 = st25) <|
(aLen Try.prog 31 p106).bind fun p107 =>
(aMin2 Try.prog p105 p107).bind fun p108 =>
(aBin Try.prog false .eql 3 p103 p108).bind fun p109 =>
(aStore st.stk.length 1 q5 p102 st25).bind fun st110 =>
need (((aLoad false 1 q12 st110).bind fun p111 =>
some (p111, st110)) = some (p106, st110)) <|
need (((aLoad false 1 q3 st110).bind fun p112 =>
some (p112, st110)) = some (p104, st110)) <|
need (((aLoad false 1 q18 st110).bind fun p113 =>
some (p113, st110)) = some (p103, st110)) <|
(aStore st.stk.length 1 q7 p109 st110).bind fun st114 =>
(aLoad false 1 q5 st114).bind fun p115 =>
(aLoad false 1 q7 st114).bind fun p116 =>
fin st.stk.length st.tk.length st.lp.length [p115, p116] st114) fun x101 =>
retK x101 ((aLoad false 1 q5 st25).bind fun p117 =>
(aLoad false 1 q7 st25).bind fun p118 =>
fin st.stk.length st.tk.length st.lp.length [p117, p118] st25)
else none
theorem S9_eq (a0 a1 : PV) (st : St) : E L (.func 9) [a0, a1] st = S9 (E L) itE a0 a1 st := (E_func' (by rfl) Try.func9 _ _).trans (by kernel_rfl)
theorem S9.r0_eq {i : Nat} {vs : List PV} {st : St} (h : st.loop i = some (S9.lp0 vs)) (p0_ p1_ : PV) : E L (.yield i) [p0_, p1_] st = S9.r0 (E L) itE i vs p0_ p1_ st := (E_yield h _).trans (by kernel_rfl)
/-- padlock/padlocklaw04.TreeRows -/
noncomputable def S3 (call : CallF) (it : LoopF) (a0 a1 : PV) (st : St) : Option (PV × St) :=
(call (.func 7) [] st).bind fun r1 =>
(aUn Try.prog .not r1.1).bind fun p2 =>
onBool p2 fun b3 => (bif b3 then
some (Ex.ret, [a0, a1, (PV.v (.bool false))], r1.2)
else
some (Ex.normal, [a0, a1, (PV.v (.bool false))], r1.2)).bind fun r4 =>
seqK r4.1 ((aLen Try.prog 22 (nth r4.2.1 0)).bind fun p6 =>
(aBin Try.prog true .gtr 3 p6 (PV.v (.int .i64 400))).bind fun p7 =>
(onG p7 false (
some ((nth r4.2.1 1), r4.2.2)) r4.2.2).bind fun r9 =>
(onG p7 false (
(aLen Try.prog 22 r9.1).bind fun p12 =>
some (p12, r9.2)) r9.2).bind fun r11 =>
(onG p7 false (
(aBin Try.prog true .gtr 3 r11.1 (PV.v (.int .i64 400))).bind fun p15 =>
some (p15, r11.2)) r11.2).bind fun r14 =>
(aPick p7 (PV.v (.bool true)) r14.1).bind fun p16 =>
onBool p16 fun b17 => (bif b17 then
some (Ex.ret, [(nth r4.2.1 0), (nth r4.2.1 1), (PV.v (.bool true))], r14.2)
else
some (Ex.normal, [(nth r4.2.1 0), (nth r4.2.1 1), (nth r4.2.1 2)], r14.2)).bind fun r18 =>
seqK r18.1 ((call (.func 8) [canon (nth r18.2.1 0)] r18.2.2).bind fun r20 =>
(call (.func 8) [canon (nth r18.2.1 1)] r20.2).bind fun r21 =>
let q23 : PV := .ptr false r21.2.stk.length 0
let st22 := r21.2.push [.sl [] .nil, .sl [] .nil, .sl [] .nil, .sl [] .nil]
let q25 : PV := .ptr false st22.stk.length 0
let st24 := st22.push [.sl [] .nil, .sl [] .nil, .sl [] .nil, .sl [] .nil]
(aStore st.stk.length 4 q23 r20.1 st24).bind fun st26 =>
(aStore st.stk.length 4 q25 r21.1 st26).bind fun st27 =>
(shift q23 3).bind fun p28 =>
(aLoad false 1 p28 st27).bind fun p29 =>
(aLen Try.prog 27 p29).bind fun p30 =>
(aBin Try.prog true .eql 3 p30 (PV.v (.int .i64 0))).bind fun p31 =>
(onG p31 false (
(shift q25 3).bind fun p34 =>
some (p34, st27)) st27).bind fun r33 =>
(onG p31 false (
(aLoad false 1 r33.1 r33.2).bind fun p37 =>
some (p37, r33.2)) r33.2).bind fun r36 =>
(onG p31 false (
(aLen Try.prog 27 r36.1).bind fun p40 =>
some (p40, r36.2)) r36.2).bind fun r39 =>
(onG p31 false (
(aBin Try.prog true .eql 3 r39.1 (PV.v (.int .i64 0))).bind fun p43 =>
some (p43, r39.2)) r39.2).bind fun r42 =>
(aPick p31 (PV.v (.bool true)) r42.1).bind fun p44 =>
onBool p44 fun b45 => (bif b45 then
some (Ex.ret, [(PV.v (.bool true)), q23, q25], r42.2)
else
some (Ex.normal, [(nth r18.2.1 2), q23, q25], r42.2)).bind fun r46 =>
seqK r46.1 ((shift (nth r46.2.1 1) 3).bind fun p48 =>
(aLoad false 1 p48 r46.2.2).bind fun p49 =>
need (r46.2.2 = r46.2.2) <|
(aIndexAddr Try.prog 27 p49 (PV.v (.int .i64 0))).bind fun p50 =>
(shift p50 0).bind fun p51 =>
(aLoad false 1 p51 r46.2.2).bind fun p52 =>
need (r46.2.2 = r46.2.2) <|
(shift (nth r46.2.1 2) 3).bind fun p53 =>
(aLoad false 1 p53 r46.2.2).bind fun p54 =>
need (r46.2.2 = r46.2.2) <|
(aIndexAddr Try.prog 27 p54 (PV.v (.int .i64 0))).bind fun p55 =>
(shift p55 0).bind fun p56 =>
(aLoad false 1 p56 r46.2.2).bind fun p57 =>
need (r46.2.2 = r46.2.2) <|
(rBuildSlice 58 [.v (.int .i64 0), .v (.string ⟨#[]⟩), .v (.int .i64 0), .v (.int .i64 0), .v (.int .i64 0), .v (.int .u64 0), .v (.int .i64 0), .v (.string ⟨#[]⟩), .v (.string ⟨#[]⟩), .sl [] .nil, .v (.int .i64 0), .v (.int .i64 0), .v (.int .i64 0), .v (.string ⟨#[]⟩), .v (.string ⟨#[]⟩), .v (.int .i64 0), .v (.int .i64 0), .v (.int .u64 0), .v (.int .i64 0), .v (.string ⟨#[]⟩), .v (.string ⟨#[]⟩), .sl [] .nil, .v (.int .i64 0), .v (.int .i64 0), .v (.int .i64 0), .v (.int .i64 0), .v (.string ⟨#[]⟩), .v (.int .i64 0), .v (.int .i64 0), .v (.int .i64 0), .v (.string ⟨#[]⟩), .v (.string ⟨#[]⟩), .v (.int .i64 0), .v (.int .i64 0), .v (.int .u64 0), .v (.int .i64 0), .v (.string ⟨#[]⟩), .v (.string ⟨#[]⟩), .sl [] .nil, .v (.int .i64 0), .v (.int .i64 0), .v (.int .i64 0), .v (.int .i64 0), .v (.int .i64 0), .v (.int .i64 0), .v (.int .u64 0), .v (.int .i64 0), .v (.string ⟨#[]⟩), .v (.string ⟨#[]⟩), .sl [] .nil, .v (.int .i64 0), .v (.int .i64 0), .v (.int .i64 0), .sl [] .nil, .sl [] .nil, .sl [] .nil, .v (.int .i64 0), .v (.int .i64 0)] 0 []).bind fun p58 =>
(elemsOf r46.2.2 p52).bind fun ys59 =>
(rAppend st.stk.length [.v (.int .i64 0), .v (.string ⟨#[]⟩), .v (.int .i64 0), .v (.int .i64 0), .v (.int .i64 0), .v (.int .u64 0), .v (.int .i64 0), .v (.string ⟨#[]⟩), .v (.string ⟨#[]⟩), .sl [] .nil, .v (.int .i64 0), .v (.int .i64 0), .v (.int .i64 0), .v (.string ⟨#[]⟩), .v (.string ⟨#[]⟩), .v (.int .i64 0), .v (.int .i64 0), .v (.int .u64 0), .v (.int .i64 0), .v (.string ⟨#[]⟩), .v (.string ⟨#[]⟩), .sl [] .nil, .v (.int .i64 0), .v (.int .i64 0), .v (.int .i64 0), .v (.int .i64 0), .v (.string ⟨#[]⟩), .v (.int .i64 0), .v (.int .i64 0), .v (.int .i64 0), .v (.string ⟨#[]⟩), .v (.string ⟨#[]⟩), .v (.int .i64 0), .v (.int .i64 0), .v (.int .u64 0), .v (.int .i64 0), .v (.string ⟨#[]⟩), .v (.string ⟨#[]⟩), .sl [] .nil, .v (.int .i64 0), .v (.int .i64 0), .v (.int .i64 0), .v (.int .i64 0), .v (.int .i64 0), .v (.int .i64 0), .v (.int .u64 0), .v (.int .i64 0), .v (.string ⟨#[]⟩), .v (.string ⟨#[]⟩), .sl [] .nil, .v (.int .i64 0), .v (.int .i64 0), .v (.int .i64 0), .sl [] .nil, .sl [] .nil, .sl [] .nil, .v (.int .i64 0), .v (.int .i64 0)] 58 688 p58 ys59 r46.2.2).bind fun r60 =>
(elemsOf r60.2 p57).bind fun ys61 =>
(rAppend st.stk.length [.v (.int .i64 0), .v (.string ⟨#[]⟩), .v (.int .i64 0), .v (.int .i64 0), .v (.int .i64 0), .v (.int .u64 0), .v (.int .i64 0), .v (.string ⟨#[]⟩), .v (.string ⟨#[]⟩), .sl [] .nil, .v (.int .i64 0), .v (.int .i64 0), .v (.int .i64 0), .v (.string ⟨#[]⟩), .v (.string ⟨#[]⟩), .v (.int .i64 0), .v (.int .i64 0), .v (.int .u64 0), .v (.int .i64 0), .v (.string ⟨#[]⟩), .v (.string ⟨#[]⟩), .sl [] .nil, .v (.int .i64 0), .v (.int .i64 0), .v (.int .i64 0), .v (.int .i64 0), .v (.string ⟨#[]⟩), .v (.int .i64 0), .v (.int .i64 0), .v (.int .i64 0), .v (.string ⟨#[]⟩), .v (.string ⟨#[]⟩), .v (.int .i64 0), .v (.int .i64 0), .v (.int .u64 0), .v (.int .i64 0), .v (.string ⟨#[]⟩), .v (.string ⟨#[]⟩), .sl [] .nil, .v (.int .i64 0), .v (.int .i64 0), .v (.int .i64 0), .v (.int .i64 0), .v (.int .i64 0), .v (.int .i64 0), .v (.int .u64 0), .v (.int .i64 0), .v (.string ⟨#[]⟩), .v (.string ⟨#[]⟩), .sl [] .nil, .v (.int .i64 0), .v (.int .i64 0), .v (.int .i64 0), .sl [] .nil, .sl [] .nil, .sl [] .nil, .v (.int .i64 0), .v (.int .i64 0)] 58 688 r60.1 ys61 r60.2).bind fun r62 =>
(rBuildSlice 58 [.v (.int .i64 0), .v (.string ⟨#[]⟩), .v (.int .i64 0), .v (.int .i64 0), .v (.int .i64 0), .v (.int .u64 0), .v (.int .i64 0), .v (.string ⟨#[]⟩), .v (.string ⟨#[]⟩), .sl [] .nil, .v (.int .i64 0), .v (.int .i64 0), .v (.int .i64 0), .v (.string ⟨#[]⟩), .v (.string ⟨#[]⟩), .v (.int .i64 0), .v (.int .i64 0), .v (.int .u64 0), .v (.int .i64 0), .v (.string ⟨#[]⟩), .v (.string ⟨#[]⟩), .sl [] .nil, .v (.int .i64 0), .v (.int .i64 0), .v (.int .i64 0), .v (.int .i64 0), .v (.string ⟨#[]⟩), .v (.int .i64 0), .v (.int .i64 0), .v (.int .i64 0), .v (.string ⟨#[]⟩), .v (.string ⟨#[]⟩), .v (.int .i64 0), .v (.int .i64 0), .v (.int .u64 0), .v (.int .i64 0), .v (.string ⟨#[]⟩), .v (.string ⟨#[]⟩), .sl [] .nil, .v (.int .i64 0), .v (.int .i64 0), .v (.int .i64 0), .v (.int .i64 0), .v (.int .i64 0), .v (.int .i64 0), .v (.int .u64 0), .v (.int .i64 0), .v (.string ⟨#[]⟩), .v (.string ⟨#[]⟩), .sl [] .nil, .v (.int .i64 0), .v (.int .i64 0), .v (.int .i64 0), .sl [] .nil, .sl [] .nil, .sl [] .nil, .v (.int .i64 0), .v (.int .i64 0)] 0 []).bind fun p63 =>
(elemsOf r62.2 p57).bind fun ys64 =>
(rAppend st.stk.length [.v (.int .i64 0), .v (.string ⟨#[]⟩), .v (.int .i64 0), .v (.int .i64 0), .v (.int .i64 0), .v (.int .u64 0), .v (.int .i64 0), .v (.string ⟨#[]⟩), .v (.string ⟨#[]⟩), .sl [] .nil, .v (.int .i64 0), .v (.int .i64 0), .v (.int .i64 0), .v (.string ⟨#[]⟩), .v (.string ⟨#[]⟩), .v (.int .i64 0), .v (.int .i64 0), .v (.int .u64 0), .v (.int .i64 0), .v (.string ⟨#[]⟩), .v (.string ⟨#[]⟩), .sl [] .nil, .v (.int .i64 0), .v (.int .i64 0), .v (.int .i64 0), .v (.int .i64 0), .v (.string ⟨#[]⟩), .v (.int .i64 0), .v (.int .i64 0), .v (.int .i64 0), .v (.string ⟨#[]⟩), .v (.string ⟨#[]⟩), .v (.int .i64 0), .v (.int .i64 0), .v (.int .u64 0), .v (.int .i64 0), .v (.string ⟨#[]⟩), .v (.string ⟨#[]⟩), .sl [] .nil, .v (.int .i64 0), .v (.int .i64 0), .v (.int .i64 0), .v (.int .i64 0), .v (.int .i64 0), .v (.int .i64 0), .v (.int .u64 0), .v (.int .i64 0), .v (.string ⟨#[]⟩), .v (.string ⟨#[]⟩), .sl [] .nil, .v (.int .i64 0), .v (.int .i64 0), .v (.int .i64 0), .sl [] .nil, .sl [] .nil, .sl [] .nil, .v (.int .i64 0), .v (.int .i64 0)] 58 688 p63 ys64 r62.2).bind fun r65 =>
(elemsOf r65.2 p52).bind fun ys66 =>
(rAppend st.stk.length [.v (.int .i64 0), .v (.string ⟨#[]⟩), .v (.int .i64 0), .v (.int .i64 0), .v (.int .i64 0), .v (.int .u64 0), .v (.int .i64 0), .v (.string ⟨#[]⟩), .v (.string ⟨#[]⟩), .sl [] .nil, .v (.int .i64 0), .v (.int .i64 0), .v (.int .i64 0), .v (.string ⟨#[]⟩), .v (.string ⟨#[]⟩), .v (.int .i64 0), .v (.int .i64 0), .v (.int .u64 0), .v (.int .i64 0), .v (.string ⟨#[]⟩), .v (.string ⟨#[]⟩), .sl [] .nil, .v (.int .i64 0), .v (.int .i64 0), .v (.int .i64 0), .v (.int .i64 0), .v (.string ⟨#[]⟩), .v (.int .i64 0), .v (.int .i64 0), .v (.int .i64 0), .v (.string ⟨#[]⟩), .v (.string ⟨#[]⟩), .v (.int .i64 0), .v (.int .i64 0), .v (.int .u64 0), .v (.int .i64 0), .v (.string ⟨#[]⟩), .v (.string ⟨#[]⟩), .sl [] .nil, .v (.int .i64 0), .v (.int .i64 0), .v (.int .i64 0), .v (.int .i64 0), .v (.int .i64 0), .v (.int .i64 0), .v (.int .u64 0), .v (.int .i64 0), .v (.string ⟨#[]⟩), .v (.string ⟨#[]⟩), .sl [] .nil, .v (.int .i64 0), .v (.int .i64 0), .v (.int .i64 0), .sl [] .nil, .sl [] .nil, .sl [] .nil, .v (.int .i64 0), .v (.int .i64 0)] 58 688 r65.1 ys66 r65.2).bind fun r67 =>
(call (.func 9) [canon r62.1, canon (PV.v (.int .i64 1000))] r67.2).bind fun r68 =>
(aExtract r68.1 0).bind fun p69 =>
(aExtract r68.1 1).bind fun p70 =>
(call (.func 9) [canon p52, canon (PV.v (.int .i64 1000))] r68.2).bind fun r71 =>
(aExtract r71.1 0).bind fun p72 =>
(aExtract r71.1 1).bind fun p73 =>
(call (.func 9) [canon p57, canon (PV.v (.int .i64 1000))] r71.2).bind fun r74 =>
(aExtract r74.1 0).bind fun p75 =>
(aExtract r74.1 1).bind fun p76 =>
(aUn Try.prog .not p70).bind fun p77 =>
(onG p77 false (
some (p73, r74.2)) r74.2).bind fun r79 =>
(onG p77 false (
(aUn Try.prog .not r79.1).bind fun p82 =>
some (p82, r79.2)) r79.2).bind fun r81 =>
(aPick p77 (PV.v (.bool true)) r81.1).bind fun p83 =>
(onG p83 false (
some (p76, r81.2)) r81.2).bind fun r85 =>
(onG p83 false (
(aUn Try.prog .not r85.1).bind fun p88 =>
some (p88, r85.2)) r85.2).bind fun r87 =>
(aPick p83 (PV.v (.bool true)) r87.1).bind fun p89 =>
(onG p89 false (
some (p69, r87.2)) r87.2).bind fun r91 =>
(onG p89 false (
some (p72, r91.2)) r91.2).bind fun r93 =>
(onG p89 false (
some (p75, r93.2)) r93.2).bind fun r95 =>
(onG p89 false (
(aBin Try.prog false .add 3 r93.1 r95.1).bind fun p98 =>
some (p98, r95.2)) r95.2).bind fun r97 =>
(onG p89 false (
(aBin Try.prog false .neq 3 r91.1 r97.1).bind fun p101 =>
some (p101, r97.2)) r97.2).bind fun r100 =>
(aPick p89 (PV.v (.bool true)) r100.1).bind fun p102 =>
onBool p102 fun b103 => (bif b103 then
some (Ex.ret, [(PV.v (.bool false)), p52, p57, r62.1, r67.1], r100.2)
else
some (Ex.normal, [(nth r46.2.1 0), p52, p57, r62.1, r67.1], r100.2)).bind fun r104 =>
seqK r104.1 ((rBuildSlice 58 [.v (.int .i64 0), .v (.string ⟨#[]⟩), .v (.int .i64 0), .v (.int .i64 0), .v (.int .i64 0), .v (.int .u64 0), .v (.int .i64 0), .v (.string ⟨#[]⟩), .v (.string ⟨#[]⟩), .sl [] .nil, .v (.int .i64 0), .v (.int .i64 0), .v (.int .i64 0), .v (.string ⟨#[]⟩), .v (.string ⟨#[]⟩), .v (.int .i64 0), .v (.int .i64 0), .v (.int .u64 0), .v (.int .i64 0), .v (.string ⟨#[]⟩), .v (.string ⟨#[]⟩), .sl [] .nil, .v (.int .i64 0), .v (.int .i64 0), .v (.int .i64 0), .v (.int .i64 0), .v (.string ⟨#[]⟩), .v (.int .i64 0), .v (.int .i64 0), .v (.int .i64 0), .v (.string ⟨#[]⟩), .v (.string ⟨#[]⟩), .v (.int .i64 0), .v (.int .i64 0), .v (.int .u64 0), .v (.int .i64 0), .v (.string ⟨#[]⟩), .v (.string ⟨#[]⟩), .sl [] .nil, .v (.int .i64 0), .v (.int .i64 0), .v (.int .i64 0), .v (.int .i64 0), .v (.int .i64 0), .v (.int .i64 0), .v (.int .u64 0), .v (.int .i64 0), .v (.string ⟨#[]⟩), .v (.string ⟨#[]⟩), .sl [] .nil, .v (.int .i64 0), .v (.int .i64 0), .v (.int .i64 0), .sl [] .nil, .sl [] .nil, .sl [] .nil, .v (.int .i64 0), .v (.int .i64 0)] 0 []).bind fun p106 =>
(elemsOf r104.2.2 (nth r104.2.1 1)).bind fun ys107 =>
(rAppend st.stk.length [.v (.int .i64 0), .v (.string ⟨#[]⟩), .v (.int .i64 0), .v (.int .i64 0), .v (.int .i64 0), .v (.int .u64 0), .v (.int .i64 0), .v (.string ⟨#[]⟩), .v (.string ⟨#[]⟩), .sl [] .nil, .v (.int .i64 0), .v (.int .i64 0), .v (.int .i64 0), .v (.string ⟨#[]⟩), .v (.string ⟨#[]⟩), .v (.int .i64 0), .v (.int .i64 0), .v (.int .u64 0), .v (.int .i64 0), .v (.string ⟨#[]⟩), .v (.string ⟨#[]⟩), .sl [] .nil, .v (.int .i64 0), .v (.int .i64 0), .v (.int .i64 0), .v (.int .i64 0), .v (.string ⟨#[]⟩), .v (.int .i64 0), .v (.int .i64 0), .v (.int .i64 0), .v (.string ⟨#[]⟩), .v (.string ⟨#[]⟩), .v (.int .i64 0), .v (.int .i64 0), .v (.int .u64 0), .v (.int .i64 0), .v (.string ⟨#[]⟩), .v (.string ⟨#[]⟩), .sl [] .nil, .v (.int .i64 0), .v (.int .i64 0), .v (.int .i64 0), .v (.int .i64 0), .v (.int .i64 0), .v (.int .i64 0), .v (.int .u64 0), .v (.int .i64 0), .v (.string ⟨#[]⟩), .v (.string ⟨#[]⟩), .sl [] .nil, .v (.int .i64 0), .v (.int .i64 0), .v (.int .i64 0), .sl [] .nil, .sl [] .nil, .sl [] .nil, .v (.int .i64 0), .v (.int .i64 0)] 58 688 p106 ys107 r104.2.2).bind fun r108 =>
(elemsOf r108.2 (nth r104.2.1 2)).bind fun ys109 =>
(rAppend st.stk.length [.v (.int .i64 0), .v (.string ⟨#[]⟩), .v (.int .i64 0), .v (.int .i64 0), .v (.int .i64 0), .v (.int .u64 0), .v (.int .i64 0), .v (.string ⟨#[]⟩), .v (.string ⟨#[]⟩), .sl [] .nil, .v (.int .i64 0), .v (.int .i64 0), .v (.int .i64 0), .v (.string ⟨#[]⟩), .v (.string ⟨#[]⟩), .v (.int .i64 0), .v (.int .i64 0), .v (.int .u64 0), .v (.int .i64 0), .v (.string ⟨#[]⟩), .v (.string ⟨#[]⟩), .sl [] .nil, .v (.int .i64 0), .v (.int .i64 0), .v (.int .i64 0), .v (.int .i64 0), .v (.string ⟨#[]⟩), .v (.int .i64 0), .v (.int .i64 0), .v (.int .i64 0), .v (.string ⟨#[]⟩), .v (.string ⟨#[]⟩), .v (.int .i64 0), .v (.int .i64 0), .v (.int .u64 0), .v (.int .i64 0), .v (.string ⟨#[]⟩), .v (.string ⟨#[]⟩), .sl [] .nil, .v (.int .i64 0), .v (.int .i64 0), .v (.int .i64 0), .v (.int .i64 0), .v (.int .i64 0), .v (.int .i64 0), .v (.int .u64 0), .v (.int .i64 0), .v (.string ⟨#[]⟩), .v (.string ⟨#[]⟩), .sl [] .nil, .v (.int .i64 0), .v (.int .i64 0), .v (.int .i64 0), .sl [] .nil, .sl [] .nil, .sl [] .nil, .v (.int .i64 0), .v (.int .i64 0)] 58 688 r108.1 ys109 r108.2).bind fun r110 =>
(call (.func 10) [canon (nth r104.2.1 3), canon r110.1] r110.2).bind fun r111 =>
(onG r111.1 true (
some ((nth r104.2.1 1), r111.2)) r111.2).bind fun r113 =>
(onG r111.1 true (
some ((nth r104.2.1 2), r113.2)) r113.2).bind fun r115 =>
(onG r111.1 true (
(call (.func 10) [canon r113.1, canon r115.1] r115.2).bind fun r118 =>
some (r118.1, r118.2)) r115.2).bind fun r117 =>
(onG r111.1 true (
(aUn Try.prog .not r117.1).bind fun p121 =>
some (p121, r117.2)) r117.2).bind fun r120 =>
(onG r111.1 true (
some (r120.1, r120.2)) r120.2).bind fun r123 =>
(onG r123.1 false (
some ((nth r104.2.1 3), r123.2)) r123.2).bind fun r125 =>
(onG r123.1 false (
some ((nth r104.2.1 4), r125.2)) r125.2).bind fun r127 =>
(onG r123.1 false (
(call (.func 10) [canon r125.1, canon r127.1] r127.2).bind fun r130 =>
some (r130.1, r130.2)) r127.2).bind fun r129 =>
(onG r111.1 true (
(aPick r123.1 (PV.v (.bool true)) r129.1).bind fun p133 =>
some (p133, r129.2)) r129.2).bind fun r132 =>
(aPick r111.1 r132.1 (PV.v (.bool false))).bind fun p134 =>
(onG p134 true (
(rBuild [(0, 1), (1, 1), (2, 1), (3, 2), (5, 1), (6, 1), (7, 1), (8, 1)] [.v (.int .i64 0), .v (.int .i64 0), .v (.int .u64 0), .v (.int .i64 0), .v (.string ⟨#[]⟩), .v (.string ⟨#[]⟩), .sl [] .nil, .v (.int .i64 0), .v (.int .i64 0)] [(2, (PV.v (.int .u64 1)))]).bind fun p137 =>
some (p137, r132.2)) r132.2).bind fun r136 =>
(onG p134 true (
(rBuildSlice 9 [.v (.int .i64 0), .v (.int .i64 0), .v (.int .u64 0), .v (.int .i64 0), .v (.string ⟨#[]⟩), .v (.string ⟨#[]⟩), .sl [] .nil, .v (.int .i64 0), .v (.int .i64 0)] 1 [(0, r136.1)]).bind fun p140 =>
some (p140, r136.2)) r136.2).bind fun r139 =>
(onG p134 true (
(rBuild [(0, 1), (1, 1), (2, 1), (3, 2), (5, 1), (6, 1), (7, 1), (8, 1)] [.v (.int .i64 0), .v (.int .i64 0), .v (.int .u64 0), .v (.int .i64 0), .v (.string ⟨#[]⟩), .v (.string ⟨#[]⟩), .sl [] .nil, .v (.int .i64 0), .v (.int .i64 0)] [(2, (PV.v (.int .u64 1))), (6, (PV.v (.int .i64 4)))]).bind fun p143 =>
some (p143, r139.2)) r139.2).bind fun r142 =>
(onG p134 true (
(rBuildSlice 9 [.v (.int .i64 0), .v (.int .i64 0), .v (.int .u64 0), .v (.int .i64 0), .v (.string ⟨#[]⟩), .v (.string ⟨#[]⟩), .sl [] .nil, .v (.int .i64 0), .v (.int .i64 0)] 1 [(0, r142.1)]).bind fun p146 =>
some (p146, r142.2)) r142.2).bind fun r145 =>
(onG p134 true (
(call (.func 11) [canon r139.1, canon r145.1] r145.2).bind fun r149 =>
some (r149.1, r149.2)) r145.2).bind fun r148 =>
(aPick p134 r148.1 (PV.v (.bool false))).bind fun p150 =>
fin st.stk.length st.tk.length st.lp.length [p150] r148.2) fun x105 =>
retK x105 (fin st.stk.length st.tk.length st.lp.length [(nth r104.2.1 0)] r104.2.2)) fun x47 =>
retK x47 (fin st.stk.length st.tk.length st.lp.length [(nth r46.2.1 0)] r46.2.2)) fun x19 =>
retK x19 (fin st.stk.length st.tk.length st.lp.length [(nth r18.2.1 2)] r18.2.2)) fun x5 =>
retK x5 (fin st.stk.length st.tk.length st.lp.length [(nth r4.2.1 2)] r4.2.2)
theorem S3_eq (a0 a1 : PV) (st : St) : E L (.func 3) [a0, a1] st = S3 (E L) itE a0 a1 st := (E_func' (by rfl) Try.func3 _ _).trans (by kernel_rfl)
noncomputable def S29.b0 (call : CallF) (it : LoopF) (base lb : Nat) (vs9 : List PV) (st10 : St) : Option (Ex × List PV × St) :=
(aBin Try.prog false .lss 3 (nth vs9 5) (nth vs9 4)).bind fun p11 =>
onBool p11 fun b12 => (bif b12 then
some (Ex.normal, [(nth vs9 0), (nth vs9 1), (nth vs9 2), (nth vs9 3), (nth vs9 4), (nth vs9 5)], st10)
else
some ((Ex.exit 0), [(nth vs9 0), (nth vs9 1), (nth vs9 2), (nth vs9 3), (nth vs9 4), (nth vs9 5)], st10)).bind fun r13 =>
seqK r13.1 ((aIndexAddr Try.prog 24 (nth r13.2.1 3) (nth r13.2.1 5)).bind fun p15 =>
(aLoad true 4 p15 r13.2.2).bind fun p16 =>
let q18 : PV := .ptr false r13.2.2.stk.length 0
let st17 := r13.2.2.push [.v (.string ⟨#[]⟩), .sl [] .nil, .v (.int .i64 0), .v (.int .i64 0)]
(aStore base 4 q18 p16 st17).bind fun st19 =>
(aIndexAddr Try.prog 24 (nth r13.2.1 0) (nth r13.2.1 5)).bind fun p20 =>
(aLoad true 4 p20 st19).bind fun p21 =>
let q23 : PV := .ptr false st19.stk.length 0
let st22 := st19.push [.v (.string ⟨#[]⟩), .sl [] .nil, .v (.int .i64 0), .v (.int .i64 0)]
(aStore base 4 q23 p21 st22).bind fun st24 =>
(aLoad true 4 q18 st24).bind fun p25 =>
(aLoad true 4 q23 st24).bind fun p26 =>
onFn (nth r13.2.1 1) fun g28 caps29 =>
(call g28 ([canon p25, canon p26] ++ caps29) st24).bind fun r27 =>
(aUn Try.prog .not r27.1).bind fun p30 =>
onBool p30 fun b31 => (bif b31 then
some (Ex.ret, [(nth r13.2.1 0), (nth r13.2.1 1), (PV.v (.bool false)), (nth r13.2.1 3), (nth r13.2.1 4), (nth r13.2.1 5)], r27.2)
else
some (Ex.normal, [(nth r13.2.1 0), (nth r13.2.1 1), (nth r13.2.1 2), (nth r13.2.1 3), (nth r13.2.1 4), (nth r13.2.1 5)], r27.2)).bind fun r32 =>
seqK (Ex.outOf 1 r32.1) ((aBin Try.prog true .add 3 (nth r32.2.1 5) (PV.v (.int .i64 1))).bind fun p34 =>
leaveV base lb st10.stk.length Ex.normal [(nth r32.2.1 0), (nth r32.2.1 1), (nth r32.2.1 2), (nth r32.2.1 3), (nth r32.2.1 4), p34] r32.2.2) fun x33 =>
leaveV base lb st10.stk.length x33 [(nth r32.2.1 0), (nth r32.2.1 1), (nth r32.2.1 2), (nth r32.2.1 3), (nth r32.2.1 4), (nth r32.2.1 5)] r32.2.2) fun x14 =>
leaveV base lb st10.stk.length x14 [(nth r13.2.1 0), (nth r13.2.1 1), (nth r13.2.1 2), (nth r13.2.1 3), (nth r13.2.1 4), (nth r13.2.1 5)] r13.2.2
/-- slices.EqualFunc[[]padlock/api.Record,[]padlock/api.Record,padlock/api.Record,padlock/api.Record] -/
noncomputable def S29 (call : CallF) (it : LoopF) (a0 a1 a2 : PV) (st : St) : Option (PV × St) :=
(aLen Try.prog 24 a0).bind fun p1 =>
(aLen Try.prog 24 a1).bind fun p2 =>
(aBin Try.prog false .neq 3 p1 p2).bind fun p3 =>
onBool p3 fun b4 => (bif b4 then
some (Ex.ret, [a0, a1, a2, (PV.v (.bool false))], st)
else
some (Ex.normal, [a0, a1, a2, (PV.v (.bool false))], st)).bind fun r5 =>
seqK r5.1 ((aLen Try.prog 24 (nth r5.2.1 0)).bind fun p7 =>
(it (S29.b0 call it st.stk.length st.lp.length) [(nth r5.2.1 1), (nth r5.2.1 2), (nth r5.2.1 3), (nth r5.2.1 0), p7, (PV.v (.int .i64 0))] r5.2.2).bind fun r8 =>
seqK (Ex.outOf 0 r8.1) (fin st.stk.length st.tk.length st.lp.length [(PV.v (.bool true))] r8.2.2) fun x35 =>
retK x35 (fin st.stk.length st.tk.length st.lp.length [(nth r8.2.1 2)] r8.2.2)) fun x6 =>
retK x6 (fin st.stk.length st.tk.length st.lp.length [(nth r5.2.1 3)] r5.2.2)
theorem S29_eq (a0 a1 a2 : PV) (st : St) : E L (.func 29) [a0, a1, a2] st = S29 (E L) itE a0 a1 a2 st := (E_func' (by rfl) Try.func29 _ _).trans (by kernel_rfl)
noncomputable def S31.b0 (call : CallF) (it : LoopF) (base lb : Nat) (vs9 : List PV) (st10 : St) : Option (Ex × List PV × St) :=
(aBin Try.prog false .lss 3 (nth vs9 5) (nth vs9 4)).bind fun p11 =>
onBool p11 fun b12 => (bif b12 then
some (Ex.normal, [(nth vs9 0), (nth vs9 1), (nth vs9 2), (nth vs9 3), (nth vs9 4), (nth vs9 5)], st10)
else
some ((Ex.exit 0), [(nth vs9 0), (nth vs9 1), (nth vs9 2), (nth vs9 3), (nth vs9 4), (nth vs9 5)], st10)).bind fun r13 =>
seqK r13.1 ((aIndexAddr Try.prog 25 (nth r13.2.1 3) (nth r13.2.1 5)).bind fun p15 =>
(aLoad true 5 p15 r13.2.2).bind fun p16 =>
let q18 : PV := .ptr false r13.2.2.stk.length 0
let st17 := r13.2.2.push [.v (.string ⟨#[]⟩), .v (.int .i64 0), .v (.string ⟨#[]⟩), .v (.int .i64 0), .v (.int .i64 0)]
(aStore base 5 q18 p16 st17).bind fun st19 =>
(aIndexAddr Try.prog 25 (nth r13.2.1 0) (nth r13.2.1 5)).bind fun p20 =>
(aLoad true 5 p20 st19).bind fun p21 =>
let q23 : PV := .ptr false st19.stk.length 0
let st22 := st19.push [.v (.string ⟨#[]⟩), .v (.int .i64 0), .v (.string ⟨#[]⟩), .v (.int .i64 0), .v (.int .i64 0)]
(aStore base 5 q23 p21 st22).bind fun st24 =>
(aLoad true 5 q18 st24).bind fun p25 =>
(aLoad true 5 q23 st24).bind fun p26 =>
onFn (nth r13.2.1 1) fun g28 caps29 =>
(call g28 ([canon p25, canon p26] ++ caps29) st24).bind fun r27 =>
(aUn Try.prog .not r27.1).bind fun p30 =>
onBool p30 fun b31 => (bif b31 then
some (Ex.ret, [(nth r13.2.1 0), (nth r13.2.1 1), (PV.v (.bool false)), (nth r13.2.1 3), (nth r13.2.1 4), (nth r13.2.1 5)], r27.2)
else
some (Ex.normal, [(nth r13.2.1 0), (nth r13.2.1 1), (nth r13.2.1 2), (nth r13.2.1 3), (nth r13.2.1 4), (nth r13.2.1 5)], r27.2)).bind fun r32 =>
seqK (Ex.outOf 1 r32.1) ((aBin Try.prog true .add 3 (nth r32.2.1 5) (PV.v (.int .i64 1))).bind fun p34 =>
leaveV base lb st10.stk.length Ex.normal [(nth r32.2.1 0), (nth r32.2.1 1), (nth r32.2.1 2), (nth r32.2.1 3), (nth r32.2.1 4), p34] r32.2.2) fun x33 =>
leaveV base lb st10.stk.length x33 [(nth r32.2.1 0), (nth r32.2.1 1), (nth r32.2.1 2), (nth r32.2.1 3), (nth r32.2.1 4), (nth r32.2.1 5)] r32.2.2) fun x14 =>
leaveV base lb st10.stk.length x14 [(nth r13.2.1 0), (nth r13.2.1 1), (nth r13.2.1 2), (nth r13.2.1 3), (nth r13.2.1 4), (nth r13.2.1 5)] r13.2.2
/-- slices.EqualFunc[[]padlock/api.Named,[]padlock/api.Named,padlock/api.Named,padlock/api.Named] -/
noncomputable def S31 (call : CallF) (it : LoopF) (a0 a1 a2 : PV) (st : St) : Option (PV × St) :=
(aLen Try.prog 25 a0).bind fun p1 =>
(aLen Try.prog 25 a1).bind fun p2 =>
(aBin Try.prog false .neq 3 p1 p2).bind fun p3 =>
onBool p3 fun b4 => (bif b4 then
some (Ex.ret, [a0, a1, a2, (PV.v (.bool false))], st)
else
some (Ex.normal, [a0, a1, a2, (PV.v (.bool false))], st)).bind fun r5 =>
seqK r5.1 ((aLen Try.prog 25 (nth r5.2.1 0)).bind fun p7 =>
(it (S31.b0 call it st.stk.length st.lp.length) [(nth r5.2.1 1), (nth r5.2.1 2), (nth r5.2.1 3), (nth r5.2.1 0), p7, (PV.v (.int .i64 0))] r5.2.2).bind fun r8 =>
seqK (Ex.outOf 0 r8.1) (fin st.stk.length st.tk.length st.lp.length [(PV.v (.bool true))] r8.2.2) fun x35 =>
retK x35 (fin st.stk.length st.tk.length st.lp.length [(nth r8.2.1 2)] r8.2.2)) fun x6 =>
retK x6 (fin st.stk.length st.tk.length st.lp.length [(nth r5.2.1 3)] r5.2.2)
theorem S31_eq (a0 a1 a2 : PV) (st : St) : E L (.func 31) [a0, a1, a2] st = S31 (E L) itE a0 a1 a2 st := (E_func' (by rfl) Try.func31 _ _).trans (by kernel_rfl)
/-- padlock/tree.sameNamed -/
noncomputable def S32 (call : CallF) (it : LoopF) (a0 a1 : PV) (st : St) : Option (PV × St) :=
(cellsOf a0).bind fun b1 =>
let q3 : PV := .ptr false st.stk.length 0
let st2 := st.push b1
(cellsOf a1).bind fun b4 =>
let q6 : PV := .ptr false st2.stk.length 0
let st5 := st2.push b4
(shift q3 0).bind fun p7 =>
(aLoad false 1 p7 st5).bind fun p8 =>
(shift q6 0).bind fun p9 =>
(aLoad false 1 p9 st5).bind fun p10 =>
(aBin Try.prog false .eql 9 p8 p10).bind fun p11 =>
(onG p11 true (
(shift q3 1).bind fun p14 =>
some (p14, st5)) st5).bind fun r13 =>
(onG p11 true (
(aLoad true 2 r13.1 r13.2).bind fun p17 =>
some (p17, r13.2)) r13.2).bind fun r16 =>
(onG p11 true (
(shift q6 1).bind fun p20 =>
some (p20, r16.2)) r16.2).bind fun r19 =>
(onG p11 true (
(aLoad true 2 r19.1 r19.2).bind fun p23 =>
some (p23, r19.2)) r19.2).bind fun r22 =>
(onG p11 true (
(aBin Try.prog false .eql 40 r16.1 r22.1).bind fun p26 =>
some (p26, r22.2)) r22.2).bind fun r25 =>
(aPick p11 r25.1 (PV.v (.bool false))).bind fun p27 =>
fin st.stk.length st.tk.length st.lp.length [p27] r25.2
theorem S32_eq (a0 a1 : PV) (st : St) : E L (.func 32) [a0, a1] st = S32 (E L) itE a0 a1 st := (E_func' (by rfl) Try.func32 _ _).trans (by kernel_rfl)
noncomputable def S33.b0 (call : CallF) (it : LoopF) (base lb : Nat) (vs9 : List PV) (st10 : St) : Option (Ex × List PV × St) :=
(aBin Try.prog false .lss 3 (nth vs9 5) (nth vs9 4)).bind fun p11 =>
onBool p11 fun b12 => (bif b12 then
some (Ex.normal, [(nth vs9 0), (nth vs9 1), (nth vs9 2), (nth vs9 3), (nth vs9 4), (nth vs9 5)], st10)
else
some ((Ex.exit 0), [(nth vs9 0), (nth vs9 1), (nth vs9 2), (nth vs9 3), (nth vs9 4), (nth vs9 5)], st10)).bind fun r13 =>
seqK r13.1 ((aIndexAddr Try.prog 26 (nth r13.2.1 3) (nth r13.2.1 5)).bind fun p15 =>
(aLoad true 5 p15 r13.2.2).bind fun p16 =>
let q18 : PV := .ptr false r13.2.2.stk.length 0
let st17 := r13.2.2.push [.v (.string ⟨#[]⟩), .sl [] .nil, .sl [] .nil, .v (.int .i64 0), .v (.int .i64 0)]
(aStore base 5 q18 p16 st17).bind fun st19 =>
(aIndexAddr Try.prog 26 (nth r13.2.1 0) (nth r13.2.1 5)).bind fun p20 =>
(aLoad true 5 p20 st19).bind fun p21 =>
let q23 : PV := .ptr false st19.stk.length 0
let st22 := st19.push [.v (.string ⟨#[]⟩), .sl [] .nil, .sl [] .nil, .v (.int .i64 0), .v (.int .i64 0)]
(aStore base 5 q23 p21 st22).bind fun st24 =>
(aLoad true 5 q18 st24).bind fun p25 =>
(aLoad true 5 q23 st24).bind fun p26 =>
onFn (nth r13.2.1 1) fun g28 caps29 =>
(call g28 ([canon p25, canon p26] ++ caps29) st24).bind fun r27 =>
(aUn Try.prog .not r27.1).bind fun p30 =>
onBool p30 fun b31 => (bif b31 then
some (Ex.ret, [(nth r13.2.1 0), (nth r13.2.1 1), (PV.v (.bool false)), (nth r13.2.1 3), (nth r13.2.1 4), (nth r13.2.1 5)], r27.2)
else
some (Ex.normal, [(nth r13.2.1 0), (nth r13.2.1 1), (nth r13.2.1 2), (nth r13.2.1 3), (nth r13.2.1 4), (nth r13.2.1 5)], r27.2)).bind fun r32 =>
seqK (Ex.outOf 1 r32.1) ((aBin Try.prog true .add 3 (nth r32.2.1 5) (PV.v (.int .i64 1))).bind fun p34 =>
leaveV base lb st10.stk.length Ex.normal [(nth r32.2.1 0), (nth r32.2.1 1), (nth r32.2.1 2), (nth r32.2.1 3), (nth r32.2.1 4), p34] r32.2.2) fun x33 =>
leaveV base lb st10.stk.length x33 [(nth r32.2.1 0), (nth r32.2.1 1), (nth r32.2.1 2), (nth r32.2.1 3), (nth r32.2.1 4), (nth r32.2.1 5)] r32.2.2) fun x14 =>
leaveV base lb st10.stk.length x14 [(nth r13.2.1 0), (nth r13.2.1 1), (nth r13.2.1 2), (nth r13.2.1 3), (nth r13.2.1 4), (nth r13.2.1 5)] r13.2.2
/-- slices.EqualFunc[[]padlock/api.Fun,[]padlock/api.Fun,padlock/api.Fun,padlock/api.Fun] -/
noncomputable def S33 (call : CallF) (it : LoopF) (a0 a1 a2 : PV) (st : St) : Option (PV × St) :=
(aLen Try.prog 26 a0).bind fun p1 =>
(aLen Try.prog 26 a1).bind fun p2 =>
(aBin Try.prog false .neq 3 p1 p2).bind fun p3 =>
onBool p3 fun b4 => (bif b4 then
some (Ex.ret, [a0, a1, a2, (PV.v (.bool false))], st)
else
some (Ex.normal, [a0, a1, a2, (PV.v (.bool false))], st)).bind fun r5 =>
seqK r5.1 ((aLen Try.prog 26 (nth r5.2.1 0)).bind fun p7 =>
(it (S33.b0 call it st.stk.length st.lp.length) [(nth r5.2.1 1), (nth r5.2.1 2), (nth r5.2.1 3), (nth r5.2.1 0), p7, (PV.v (.int .i64 0))] r5.2.2).bind fun r8 =>
seqK (Ex.outOf 0 r8.1) (fin st.stk.length st.tk.length st.lp.length [(PV.v (.bool true))] r8.2.2) fun x35 =>
retK x35 (fin st.stk.length st.tk.length st.lp.length [(nth r8.2.1 2)] r8.2.2)) fun x6 =>
retK x6 (fin st.stk.length st.tk.length st.lp.length [(nth r5.2.1 3)] r5.2.2)
theorem S33_eq (a0 a1 a2 : PV) (st : St) : E L (.func 33) [a0, a1, a2] st = S33 (E L) itE a0 a1 a2 st := (E_func' (by rfl) Try.func33 _ _).trans (by kernel_rfl)
noncomputable def S35.b0 (call : CallF) (it : LoopF) (base lb : Nat) (vs9 : List PV) (st10 : St) : Option (Ex × List PV × St) :=
(aBin Try.prog false .lss 3 (nth vs9 5) (nth vs9 4)).bind fun p11 =>
onBool p11 fun b12 => (bif b12 then
some (Ex.normal, [(nth vs9 0), (nth vs9 1), (nth vs9 2), (nth vs9 3), (nth vs9 4), (nth vs9 5)], st10)
else
some ((Ex.exit 0), [(nth vs9 0), (nth vs9 1), (nth vs9 2), (nth vs9 3), (nth vs9 4), (nth vs9 5)], st10)).bind fun r13 =>
seqK r13.1 ((aIndexAddr Try.prog 27 (nth r13.2.1 3) (nth r13.2.1 5)).bind fun p15 =>
(aLoad true 3 p15 r13.2.2).bind fun p16 =>
let q18 : PV := .ptr false r13.2.2.stk.length 0
let st17 := r13.2.2.push [.sl [] .nil, .v (.int .i64 0), .v (.int .i64 0)]
(aStore base 3 q18 p16 st17).bind fun st19 =>
(aIndexAddr Try.prog 27 (nth r13.2.1 0) (nth r13.2.1 5)).bind fun p20 =>
(aLoad true 3 p20 st19).bind fun p21 =>
let q23 : PV := .ptr false st19.stk.length 0
let st22 := st19.push [.sl [] .nil, .v (.int .i64 0), .v (.int .i64 0)]
(aStore base 3 q23 p21 st22).bind fun st24 =>
(aLoad true 3 q18 st24).bind fun p25 =>
(aLoad true 3 q23 st24).bind fun p26 =>
onFn (nth r13.2.1 1) fun g28 caps29 =>
(call g28 ([canon p25, canon p26] ++ caps29) st24).bind fun r27 =>
(aUn Try.prog .not r27.1).bind fun p30 =>
onBool p30 fun b31 => (bif b31 then
some (Ex.ret, [(nth r13.2.1 0), (nth r13.2.1 1), (PV.v (.bool false)), (nth r13.2.1 3), (nth r13.2.1 4), (nth r13.2.1 5)], r27.2)
else
some (Ex.normal, [(nth r13.2.1 0), (nth r13.2.1 1), (nth r13.2.1 2), (nth r13.2.1 3), (nth r13.2.1 4), (nth r13.2.1 5)], r27.2)).bind fun r32 =>
seqK (Ex.outOf 1 r32.1) ((aBin Try.prog true .add 3 (nth r32.2.1 5) (PV.v (.int .i64 1))).bind fun p34 =>
leaveV base lb st10.stk.length Ex.normal [(nth r32.2.1 0), (nth r32.2.1 1), (nth r32.2.1 2), (nth r32.2.1 3), (nth r32.2.1 4), p34] r32.2.2) fun x33 =>
leaveV base lb st10.stk.length x33 [(nth r32.2.1 0), (nth r32.2.1 1), (nth r32.2.1 2), (nth r32.2.1 3), (nth r32.2.1 4), (nth r32.2.1 5)] r32.2.2) fun x14 =>
leaveV base lb st10.stk.length x14 [(nth r13.2.1 0), (nth r13.2.1 1), (nth r13.2.1 2), (nth r13.2.1 3), (nth r13.2.1 4), (nth r13.2.1 5)] r13.2.2
/-- slices.EqualFunc[[]padlock/api.Thread,[]padlock/api.Thread,padlock/api.Thread,padlock/api.Thread] -/
noncomputable def S35 (call : CallF) (it : LoopF) (a0 a1 a2 : PV) (st : St) : Option (PV × St) :=
(aLen Try.prog 27 a0).bind fun p1 =>
(aLen Try.prog 27 a1).bind fun p2 =>
(aBin Try.prog false .neq 3 p1 p2).bind fun p3 =>
onBool p3 fun b4 => (bif b4 then
some (Ex.ret, [a0, a1, a2, (PV.v (.bool false))], st)
else
some (Ex.normal, [a0, a1, a2, (PV.v (.bool false))], st)).bind fun r5 =>
seqK r5.1 ((aLen Try.prog 27 (nth r5.2.1 0)).bind fun p7 =>
(it (S35.b0 call it st.stk.length st.lp.length) [(nth r5.2.1 1), (nth r5.2.1 2), (nth r5.2.1 3), (nth r5.2.1 0), p7, (PV.v (.int .i64 0))] r5.2.2).bind fun r8 =>
seqK (Ex.outOf 0 r8.1) (fin st.stk.length st.tk.length st.lp.length [(PV.v (.bool true))] r8.2.2) fun x35 =>
retK x35 (fin st.stk.length st.tk.length st.lp.length [(nth r8.2.1 2)] r8.2.2)) fun x6 =>
retK x6 (fin st.stk.length st.tk.length st.lp.length [(nth r5.2.1 3)] r5.2.2)
theorem S35_eq (a0 a1 a2 : PV) (st : St) : E L (.func 35) [a0, a1, a2] st = S35 (E L) itE a0 a1 a2 st := (E_func' (by rfl) Try.func35 _ _).trans (by kernel_rfl)
/-- padlock/tree.Same -/
noncomputable def S12 (call : CallF) (it : LoopF) (a0 a1 : PV) (st : St) : Option (PV × St) :=
(cellsOf a0).bind fun b1 =>
let q3 : PV := .ptr false st.stk.length 0
let st2 := st.push b1
(cellsOf a1).bind fun b4 =>
let q6 : PV := .ptr false st2.stk.length 0
let st5 := st2.push b4
(shift q3 0).bind fun p7 =>
(aLoad false 1 p7 st5).bind fun p8 =>
(shift q6 0).bind fun p9 =>
(aLoad false 1 p9 st5).bind fun p10 =>
(call (.func 29) [canon p8, canon p10, canon (PV.clo (.func 30) [])] st5).bind fun r11 =>
(onG r11.1 true (
(shift q3 1).bind fun p14 =>
some (p14, r11.2)) r11.2).bind fun r13 =>
(onG r11.1 true (
(aLoad false 1 r13.1 r13.2).bind fun p17 =>
some (p17, r13.2)) r13.2).bind fun r16 =>
(onG r11.1 true (
(shift q6 1).bind fun p20 =>
some (p20, r16.2)) r16.2).bind fun r19 =>
(onG r11.1 true (
(aLoad false 1 r19.1 r19.2).bind fun p23 =>
some (p23, r19.2)) r19.2).bind fun r22 =>
(onG r11.1 true (
(call (.func 31) [canon r16.1, canon r22.1, canon (PV.clo (.func 32) [])] r22.2).bind fun r26 =>
some (r26.1, r26.2)) r22.2).bind fun r25 =>
(aPick r11.1 r25.1 (PV.v (.bool false))).bind fun p27 =>
(onG p27 true (
(shift q3 2).bind fun p30 =>
some (p30, r25.2)) r25.2).bind fun r29 =>
(onG p27 true (
(aLoad false 1 r29.1 r29.2).bind fun p33 =>
some (p33, r29.2)) r29.2).bind fun r32 =>
(onG p27 true (
(shift q6 2).bind fun p36 =>
some (p36, r32.2)) r32.2).bind fun r35 =>
(onG p27 true (
(aLoad false 1 r35.1 r35.2).bind fun p39 =>
some (p39, r35.2)) r35.2).bind fun r38 =>
(onG p27 true (
(call (.func 33) [canon r32.1, canon r38.1, canon (PV.clo (.func 34) [])] r38.2).bind fun r42 =>
some (r42.1, r42.2)) r38.2).bind fun r41 =>
(aPick p27 r41.1 (PV.v (.bool false))).bind fun p43 =>
(onG p43 true (
(shift q3 3).bind fun p46 =>
some (p46, r41.2)) r41.2).bind fun r45 =>
(onG p43 true (
(aLoad false 1 r45.1 r45.2).bind fun p49 =>
some (p49, r45.2)) r45.2).bind fun r48 =>
(onG p43 true (
(shift q6 3).bind fun p52 =>
some (p52, r48.2)) r48.2).bind fun r51 =>
(onG p43 true (
(aLoad false 1 r51.1 r51.2).bind fun p55 =>
some (p55, r51.2)) r51.2).bind fun r54 =>
(onG p43 true (
(call (.func 35) [canon r48.1, canon r54.1, canon (PV.clo (.func 36) [])] r54.2).bind fun r58 =>
some (r58.1, r58.2)) r54.2).bind fun r57 =>
(aPick p43 r57.1 (PV.v (.bool false))).bind fun p59 =>
fin st.stk.length st.tk.length st.lp.length [p59] r57.2
theorem S12_eq (a0 a1 : PV) (st : St) : E L (.func 12) [a0, a1] st = S12 (E L) itE a0 a1 st := (E_func' (by rfl) Try.func12 _ _).trans (by kernel_rfl)
noncomputable def S38.b0 (call : CallF) (it : LoopF) (base lb : Nat) (vs6 : List PV) (st7 : St) : Option (Ex × List PV × St) :=
(aBin Try.prog false .lss 3 (nth vs6 3) (nth vs6 2)).bind fun p8 =>
onBool p8 fun b9 => (bif b9 then
some (Ex.normal, [(nth vs6 0), (nth vs6 1), (nth vs6 2), (nth vs6 3)], st7)
else
some ((Ex.exit 0), [(nth vs6 0), (nth vs6 1), (nth vs6 2), (nth vs6 3)], st7)).bind fun r10 =>
seqK r10.1 ((aIndexAddr Try.prog 25 (nth r10.2.1 1) (nth r10.2.1 3)).bind fun p12 =>
(aLoad true 5 p12 r10.2.2).bind fun p13 =>
let q15 : PV := .ptr false r10.2.2.stk.length 0
let st14 := r10.2.2.push [.v (.string ⟨#[]⟩), .v (.int .i64 0), .v (.string ⟨#[]⟩), .v (.int .i64 0), .v (.int .i64 0)]
(aStore base 5 q15 p13 st14).bind fun st16 =>
(shift q15 0).bind fun p17 =>
(aLoad false 1 p17 st16).bind fun p18 =>
need (st16 = st16) <|
(shift q15 1).bind fun p19 =>
(shift p19 0).bind fun p20 =>
(aLoad false 1 p20 st16).bind fun p21 =>
need (st16 = st16) <|
(call (.func 37) [canon p21] st16).bind fun r22 =>
need (r22.2 = st16) <|
(shift q15 1).bind fun p23 =>
(shift p23 1).bind fun p24 =>
(aLoad false 1 p24 st16).bind fun p25 =>
need (st16 = st16) <|
(rBuildSlice 1 [.v (.string ⟨#[]⟩)] 3 [(0, p18), (1, r22.1), (2, p25)]).bind fun p26 =>
(elemsOf st16 p26).bind fun ys27 =>
(rAppend base [.v (.string ⟨#[]⟩)] 1 16 (nth r10.2.1 0) ys27 st16).bind fun r28 =>
(aBin Try.prog true .add 3 (nth r10.2.1 3) (PV.v (.int .i64 1))).bind fun p29 =>
leaveV base lb st7.stk.length Ex.normal [r28.1, (nth r10.2.1 1), (nth r10.2.1 2), p29] r28.2) fun x11 =>
leaveV base lb st7.stk.length x11 [(nth r10.2.1 0), (nth r10.2.1 1), (nth r10.2.1 2), (nth r10.2.1 3)] r10.2.2
/-- padlock/padlockref04.named -/
noncomputable def S38 (call : CallF) (it : LoopF) (a0 : PV) (st : St) : Option (PV × St) :=
(aLen Try.prog 25 a0).bind fun p1 =>
(call (.func 37) [canon p1] st).bind fun r2 =>
(rBuildSlice 1 [.v (.string ⟨#[]⟩)] 1 [(0, r2.1)]).bind fun p3 =>
(aLen Try.prog 25 a0).bind fun p4 =>
(it (S38.b0 call it st.stk.length st.lp.length) [p3, a0, p4, (PV.v (.int .i64 0))] r2.2).bind fun r5 =>
seqK (Ex.outOf 0 r5.1) (fin st.stk.length st.tk.length st.lp.length [(nth r5.2.1 0)] r5.2.2) fun x30 =>
retK x30 (fin st.stk.length st.tk.length st.lp.length [PV.u] r5.2.2)
theorem S38_eq (a0 : PV) (st : St) : E L (.func 38) [a0] st = S38 (E L) itE a0 st := (E_func' (by rfl) Try.func38 _ _).trans (by kernel_rfl)
noncomputable def S14.b0 (call : CallF) (it : LoopF) (base lb : Nat) (vs21 : List PV) (st22 : St) : Option (Ex × List PV × St) :=
(aBin Try.prog false .lss 3 (nth vs21 4) (nth vs21 3)).bind fun p23 =>
onBool p23 fun b24 => (bif b24 then
some (Ex.normal, [(nth vs21 0), (nth vs21 1), (nth vs21 2), (nth vs21 3), (nth vs21 4)], st22)
else
some ((Ex.exit 0), [(nth vs21 0), (nth vs21 1), (nth vs21 2), (nth vs21 3), (nth vs21 4)], st22)).bind fun r25 =>
seqK r25.1 ((aIndexAddr Try.prog 24 (nth r25.2.1 2) (nth r25.2.1 4)).bind fun p27 =>
(aLoad true 4 p27 r25.2.2).bind fun p28 =>
let q30 : PV := .ptr false r25.2.2.stk.length 0
let st29 := r25.2.2.push [.v (.string ⟨#[]⟩), .sl [] .nil, .v (.int .i64 0), .v (.int .i64 0)]
(aStore base 4 q30 p28 st29).bind fun st31 =>
(shift q30 0).bind fun p32 =>
(aLoad false 1 p32 st31).bind fun p33 =>
need (st31 = st31) <|
(rBuildSlice 1 [.v (.string ⟨#[]⟩)] 1 [(0, p33)]).bind fun p34 =>
(elemsOf st31 p34).bind fun ys35 =>
(rAppend base [.v (.string ⟨#[]⟩)] 1 16 (nth r25.2.1 1) ys35 st31).bind fun r36 =>
(shift q30 1).bind fun p37 =>
(aLoad false 1 p37 r36.2).bind fun p38 =>
need (r36.2 = r36.2) <|
need (((aLoad false 1 p37 st31).bind fun p39 =>
some (p39, st31)) = some (p38, st31)) <|
(call (.func 38) [canon p38] r36.2).bind fun r40 =>
need (r40.2 = r36.2) <|
(elemsOf r36.2 r40.1).bind fun ys41 =>
(rAppend base [.v (.string ⟨#[]⟩)] 1 16 r36.1 ys41 r36.2).bind fun r42 =>
(aBin Try.prog true .add 3 (nth r25.2.1 4) (PV.v (.int .i64 1))).bind fun p43 =>
leaveV base lb st22.stk.length Ex.normal [(nth r25.2.1 0), r42.1, (nth r25.2.1 2), (nth r25.2.1 3), p43] r42.2) fun x26 =>
leaveV base lb st22.stk.length x26 [(nth r25.2.1 0), (nth r25.2.1 1), (nth r25.2.1 2), (nth r25.2.1 3), (nth r25.2.1 4)] r25.2.2
noncomputable def S14.b1 (call : CallF) (it : LoopF) (base lb : Nat) (vs54 : List PV) (st55 : St) : Option (Ex × List PV × St) :=
(aBin Try.prog false .lss 3 (nth vs54 4) (nth vs54 3)).bind fun p56 =>
onBool p56 fun b57 => (bif b57 then
some (Ex.normal, [(nth vs54 0), (nth vs54 1), (nth vs54 2), (nth vs54 3), (nth vs54 4)], st55)
else
some ((Ex.exit 2), [(nth vs54 0), (nth vs54 1), (nth vs54 2), (nth vs54 3), (nth vs54 4)], st55)).bind fun r58 =>
seqK r58.1 ((aIndexAddr Try.prog 26 (nth r58.2.1 2) (nth r58.2.1 4)).bind fun p60 =>
(aLoad true 5 p60 r58.2.2).bind fun p61 =>
let q63 : PV := .ptr false r58.2.2.stk.length 0
let st62 := r58.2.2.push [.v (.string ⟨#[]⟩), .sl [] .nil, .sl [] .nil, .v (.int .i64 0), .v (.int .i64 0)]
(aStore base 5 q63 p61 st62).bind fun st64 =>
(shift q63 0).bind fun p65 =>
(aLoad false 1 p65 st64).bind fun p66 =>
need (st64 = st64) <|
(rBuildSlice 1 [.v (.string ⟨#[]⟩)] 1 [(0, p66)]).bind fun p67 =>
(elemsOf st64 p67).bind fun ys68 =>
(rAppend base [.v (.string ⟨#[]⟩)] 1 16 (nth r58.2.1 1) ys68 st64).bind fun r69 =>
(shift q63 1).bind fun p70 =>
(aLoad false 1 p70 r69.2).bind fun p71 =>
need (r69.2 = r69.2) <|
need (((aLoad false 1 p70 st64).bind fun p72 =>
some (p72, st64)) = some (p71, st64)) <|
(call (.func 38) [canon p71] r69.2).bind fun r73 =>
need (r73.2 = r69.2) <|
(elemsOf r69.2 r73.1).bind fun ys74 =>
(rAppend base [.v (.string ⟨#[]⟩)] 1 16 r69.1 ys74 r69.2).bind fun r75 =>
(shift q63 2).bind fun p76 =>
(aLoad false 1 p76 r75.2).bind fun p77 =>
need (r75.2 = r75.2) <|
need (((aLoad false 1 p76 r69.2).bind fun p78 =>
some (p78, r69.2)) = some (p77, r69.2)) <|
need (((aLoad false 1 p76 st64).bind fun p79 =>
some (p79, st64)) = some (p77, st64)) <|
(call (.func 15) [canon p77] r75.2).bind fun r80 =>
need (r80.2 = r75.2) <|
(elemsOf r75.2 r80.1).bind fun ys81 =>
(rAppend base [.v (.string ⟨#[]⟩)] 1 16 r75.1 ys81 r75.2).bind fun r82 =>
(aBin Try.prog true .add 3 (nth r58.2.1 4) (PV.v (.int .i64 1))).bind fun p83 =>
leaveV base lb st55.stk.length Ex.normal [(nth r58.2.1 0), r82.1, (nth r58.2.1 2), (nth r58.2.1 3), p83] r82.2) fun x59 =>
leaveV base lb st55.stk.length x59 [(nth r58.2.1 0), (nth r58.2.1 1), (nth r58.2.1 2), (nth r58.2.1 3), (nth r58.2.1 4)] r58.2.2
noncomputable def S14.b2 (call : CallF) (it : LoopF) (base lb : Nat) (vs89 : List PV) (st90 : St) : Option (Ex × List PV × St) :=
(aBin Try.prog false .lss 3 (nth vs89 3) (nth vs89 2)).bind fun p91 =>
onBool p91 fun b92 => (bif b92 then
some (Ex.normal, [(nth vs89 0), (nth vs89 1), (nth vs89 2), (nth vs89 3)], st90)
else
some ((Ex.exit 4), [(nth vs89 0), (nth vs89 1), (nth vs89 2), (nth vs89 3)], st90)).bind fun r93 =>
seqK r93.1 ((aIndexAddr Try.prog 27 (nth r93.2.1 1) (nth r93.2.1 3)).bind fun p95 =>
(aLoad true 3 p95 r93.2.2).bind fun p96 =>
let q98 : PV := .ptr false r93.2.2.stk.length 0
let st97 := r93.2.2.push [.sl [] .nil, .v (.int .i64 0), .v (.int .i64 0)]
(aStore base 3 q98 p96 st97).bind fun st99 =>
(shift q98 0).bind fun p100 =>
(aLoad false 1 p100 st99).bind fun p101 =>
(call (.func 15) [canon p101] st99).bind fun r102 =>
(elemsOf r102.2 r102.1).bind fun ys103 =>
(rAppend base [.v (.string ⟨#[]⟩)] 1 16 (nth r93.2.1 0) ys103 r102.2).bind fun r104 =>
(aBin Try.prog true .add 3 (nth r93.2.1 3) (PV.v (.int .i64 1))).bind fun p105 =>
leaveV base lb st90.stk.length Ex.normal [r104.1, (nth r93.2.1 1), (nth r93.2.1 2), p105] r104.2) fun x94 =>
leaveV base lb st90.stk.length x94 [(nth r93.2.1 0), (nth r93.2.1 1), (nth r93.2.1 2), (nth r93.2.1 3)] r93.2.2
/-- padlock/padlockref04.Program -/
noncomputable def S14 (call : CallF) (it : LoopF) (a0 : PV) (st : St) : Option (PV × St) :=
(cellsOf a0).bind fun b1 =>
let q3 : PV := .ptr false st.stk.length 0
let st2 := st.push b1
(shift q3 0).bind fun p4 =>
(aLoad false 1 p4 st2).bind fun p5 =>
need (st2 = st2) <|
(aLen Try.prog 24 p5).bind fun p6 =>
(call (.func 37) [canon p6] st2).bind fun r7 =>
need (r7.2 = st2) <|
(shift q3 2).bind fun p8 =>
(aLoad false 1 p8 st2).bind fun p9 =>
need (st2 = st2) <|
(aLen Try.prog 26 p9).bind fun p10 =>
(call (.func 37) [canon p10] st2).bind fun r11 =>
need (r11.2 = st2) <|
(shift q3 3).bind fun p12 =>
(aLoad false 1 p12 st2).bind fun p13 =>
need (st2 = st2) <|
(aLen Try.prog 27 p13).bind fun p14 =>
(call (.func 37) [canon p14] st2).bind fun r15 =>
need (r15.2 = st2) <|
(rBuildSlice 1 [.v (.string ⟨#[]⟩)] 3 [(0, r7.1), (1, r11.1), (2, r15.1)]).bind fun p16 =>
(shift q3 0).bind fun p17 =>
(aLoad false 1 p17 st2).bind fun p18 =>
(aLen Try.prog 24 p18).bind fun p19 =>
(it (S14.b0 call it st.stk.length st.lp.length) [q3, p16, p18, p19, (PV.v (.int .i64 0))] st2).bind fun r20 =>
seqK (Ex.outOf 0 r20.1) ((shift (nth r20.2.1 0) 1).bind fun p45 =>
(aLoad false 1 p45 r20.2.2).bind fun p46 =>
(call (.func 38) [canon p46] r20.2.2).bind fun r47 =>
(elemsOf r47.2 r47.1).bind fun ys48 =>
(rAppend st.stk.length [.v (.string ⟨#[]⟩)] 1 16 (nth r20.2.1 1) ys48 r47.2).bind fun r49 =>
(shift (nth r20.2.1 0) 2).bind fun p50 =>
(aLoad false 1 p50 r49.2).bind fun p51 =>
(aLen Try.prog 26 p51).bind fun p52 =>
(it (S14.b1 call it st.stk.length st.lp.length) [(nth r20.2.1 0), r49.1, p51, p52, (PV.v (.int .i64 0))] r49.2).bind fun r53 =>
seqK (Ex.outOf 2 r53.1) ((shift (nth r53.2.1 0) 3).bind fun p85 =>
(aLoad false 1 p85 r53.2.2).bind fun p86 =>
(aLen Try.prog 27 p86).bind fun p87 =>
(it (S14.b2 call it st.stk.length st.lp.length) [(nth r53.2.1 1), p86, p87, (PV.v (.int .i64 0))] r53.2.2).bind fun r88 =>
seqK (Ex.outOf 4 r88.1) (fin st.stk.length st.tk.length st.lp.length [(nth r88.2.1 0)] r88.2.2) fun x106 =>
retK x106 (fin st.stk.length st.tk.length st.lp.length [PV.u] r88.2.2)) fun x84 =>
retK x84 (fin st.stk.length st.tk.length st.lp.length [PV.u] r53.2.2)) fun x44 =>
retK x44 (fin st.stk.length st.tk.length st.lp.length [PV.u] r20.2.2)
theorem S14_eq (a0 : PV) (st : St) : E L (.func 14) [a0] st = S14 (E L) itE a0 st := (E_func' (by rfl) Try.func14 _ _).trans (by kernel_rfl)
end Go.Proofs.Ytkbhejcfejembaa.S
