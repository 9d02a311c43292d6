/- The seat's functions, each as a Lean function over plain values, and that the evaluator comes to it: written by my program mkS.py. No condition. -/
import Derived.Test.YtkbhejcfejembaaS0
import Derived.KernelRfl
set_option linter.all false
namespace Go.Proofs.Ytkbhejcfejembaa.S
open Go Go.AM Go.Proofs
set_option linter.unusedVariables false
/-- padlock/tree.SameExpr -/
noncomputable def S16 (call : CallF) (it : LoopF) (a0 a1 : PV) (st : St) : Option (PV × St) :=
(cellsOf a0).bind fun b1 =>
let q3 : PV := .ptr false st.stk.length 0
let st2 := st.push b1
(cellsOf a1).bind fun b4 =>
let q6 : PV := .ptr false st2.stk.length 0
let st5 := st2.push b4
(shift q3 0).bind fun p7 =>
(aLoad false 1 p7 st5).bind fun p8 =>
(shift q6 0).bind fun p9 =>
(aLoad false 1 p9 st5).bind fun p10 =>
(aBin Try.prog false .eql 3 p8 p10).bind fun p11 =>
(onG p11 true (
(shift q3 1).bind fun p14 =>
some (p14, st5)) st5).bind fun r13 =>
(onG p11 true (
(aLoad false 1 r13.1 r13.2).bind fun p17 =>
some (p17, r13.2)) r13.2).bind fun r16 =>
(onG p11 true (
(shift q6 1).bind fun p20 =>
some (p20, r16.2)) r16.2).bind fun r19 =>
(onG p11 true (
(aLoad false 1 r19.1 r19.2).bind fun p23 =>
some (p23, r19.2)) r19.2).bind fun r22 =>
(onG p11 true (
(aBin Try.prog false .eql 3 r16.1 r22.1).bind fun p26 =>
some (p26, r22.2)) r22.2).bind fun r25 =>
(aPick p11 r25.1 (PV.v (.bool false))).bind fun p27 =>
(onG p27 true (
(shift q3 2).bind fun p30 =>
some (p30, r25.2)) r25.2).bind fun r29 =>
(onG p27 true (
(aLoad false 1 r29.1 r29.2).bind fun p33 =>
some (p33, r29.2)) r29.2).bind fun r32 =>
(onG p27 true (
(shift q6 2).bind fun p36 =>
some (p36, r32.2)) r32.2).bind fun r35 =>
(onG p27 true (
(aLoad false 1 r35.1 r35.2).bind fun p39 =>
some (p39, r35.2)) r35.2).bind fun r38 =>
(onG p27 true (
(aBin Try.prog false .eql 38 r32.1 r38.1).bind fun p42 =>
some (p42, r38.2)) r38.2).bind fun r41 =>
(aPick p27 r41.1 (PV.v (.bool false))).bind fun p43 =>
(onG p43 true (
(shift q3 3).bind fun p46 =>
some (p46, r41.2)) r41.2).bind fun r45 =>
(onG p43 true (
(aLoad true 2 r45.1 r45.2).bind fun p49 =>
some (p49, r45.2)) r45.2).bind fun r48 =>
(onG p43 true (
(shift q6 3).bind fun p52 =>
some (p52, r48.2)) r48.2).bind fun r51 =>
(onG p43 true (
(aLoad true 2 r51.1 r51.2).bind fun p55 =>
some (p55, r51.2)) r51.2).bind fun r54 =>
(onG p43 true (
(aBin Try.prog false .eql 40 r48.1 r54.1).bind fun p58 =>
some (p58, r54.2)) r54.2).bind fun r57 =>
(aPick p43 r57.1 (PV.v (.bool false))).bind fun p59 =>
(onG p59 true (
(shift q3 5).bind fun p62 =>
some (p62, r57.2)) r57.2).bind fun r61 =>
(onG p59 true (
(aLoad false 1 r61.1 r61.2).bind fun p65 =>
some (p65, r61.2)) r61.2).bind fun r64 =>
(onG p59 true (
(shift q6 5).bind fun p68 =>
some (p68, r64.2)) r64.2).bind fun r67 =>
(onG p59 true (
(aLoad false 1 r67.1 r67.2).bind fun p71 =>
some (p71, r67.2)) r67.2).bind fun r70 =>
(onG p59 true (
(aBin Try.prog false .eql 9 r64.1 r70.1).bind fun p74 =>
some (p74, r70.2)) r70.2).bind fun r73 =>
(aPick p59 r73.1 (PV.v (.bool false))).bind fun p75 =>
(onG p75 true (
(shift q3 6).bind fun p78 =>
some (p78, r73.2)) r73.2).bind fun r77 =>
(onG p75 true (
(aLoad false 1 r77.1 r77.2).bind fun p81 =>
some (p81, r77.2)) r77.2).bind fun r80 =>
(onG p75 true (
(shift q6 6).bind fun p84 =>
some (p84, r80.2)) r80.2).bind fun r83 =>
(onG p75 true (
(aLoad false 1 r83.1 r83.2).bind fun p87 =>
some (p87, r83.2)) r83.2).bind fun r86 =>
(onG p75 true (
(call (.func 11) [canon r80.1, canon r86.1] r86.2).bind fun r90 =>
some (r90.1, r90.2)) r86.2).bind fun r89 =>
(aPick p75 r89.1 (PV.v (.bool false))).bind fun p91 =>
fin st.stk.length st.tk.length st.lp.length [p91] r89.2
theorem S16_eq (a0 a1 : PV) (st : St) : E L (.func 16) [a0, a1] st = S16 (E L) itE a0 a1 st := (E_func' (by rfl) Try.func16 _ _).trans (by kernel_rfl)
noncomputable def S28.b0 (call : CallF) (it : LoopF) (base lb : Nat) (vs9 : List PV) (st10 : St) : Option (Ex × List PV × St) :=
(aBin Try.prog false .lss 3 (nth vs9 5) (nth vs9 4)).bind fun p11 =>
onBool p11 fun b12 => (bif b12 then
some (Ex.normal, [(nth vs9 0), (nth vs9 1), (nth vs9 2), (nth vs9 3), (nth vs9 4), (nth vs9 5)], st10)
else
some ((Ex.exit 0), [(nth vs9 0), (nth vs9 1), (nth vs9 2), (nth vs9 3), (nth vs9 4), (nth vs9 5)], st10)).bind fun r13 =>
seqK r13.1 ((aIndexAddr Try.prog 41 (nth r13.2.1 3) (nth r13.2.1 5)).bind fun p15 =>
(aLoad true 9 p15 r13.2.2).bind fun p16 =>
let q18 : PV := .ptr false r13.2.2.stk.length 0
let st17 := r13.2.2.push [.v (.int .i64 0), .v (.int .i64 0), .v (.int .u64 0), .v (.int .i64 0), .v (.string ⟨#[]⟩), .v (.string ⟨#[]⟩), .sl [] .nil, .v (.int .i64 0), .v (.int .i64 0)]
(aStore base 9 q18 p16 st17).bind fun st19 =>
(aIndexAddr Try.prog 41 (nth r13.2.1 0) (nth r13.2.1 5)).bind fun p20 =>
(aLoad true 9 p20 st19).bind fun p21 =>
let q23 : PV := .ptr false st19.stk.length 0
let st22 := st19.push [.v (.int .i64 0), .v (.int .i64 0), .v (.int .u64 0), .v (.int .i64 0), .v (.string ⟨#[]⟩), .v (.string ⟨#[]⟩), .sl [] .nil, .v (.int .i64 0), .v (.int .i64 0)]
(aStore base 9 q23 p21 st22).bind fun st24 =>
(aLoad true 9 q18 st24).bind fun p25 =>
(aLoad true 9 q23 st24).bind fun p26 =>
onFn (nth r13.2.1 1) fun g28 caps29 =>
(call g28 ([canon p25, canon p26] ++ caps29) st24).bind fun r27 =>
(aUn Try.prog .not r27.1).bind fun p30 =>
onBool p30 fun b31 => (bif b31 then
some (Ex.ret, [(nth r13.2.1 0), (nth r13.2.1 1), (PV.v (.bool false)), (nth r13.2.1 3), (nth r13.2.1 4), (nth r13.2.1 5)], r27.2)
else
some (Ex.normal, [(nth r13.2.1 0), (nth r13.2.1 1), (nth r13.2.1 2), (nth r13.2.1 3), (nth r13.2.1 4), (nth r13.2.1 5)], r27.2)).bind fun r32 =>
seqK (Ex.outOf 1 r32.1) ((aBin Try.prog true .add 3 (nth r32.2.1 5) (PV.v (.int .i64 1))).bind fun p34 =>
leaveV base lb st10.stk.length Ex.normal [(nth r32.2.1 0), (nth r32.2.1 1), (nth r32.2.1 2), (nth r32.2.1 3), (nth r32.2.1 4), p34] r32.2.2) fun x33 =>
leaveV base lb st10.stk.length x33 [(nth r32.2.1 0), (nth r32.2.1 1), (nth r32.2.1 2), (nth r32.2.1 3), (nth r32.2.1 4), (nth r32.2.1 5)] r32.2.2) fun x14 =>
leaveV base lb st10.stk.length x14 [(nth r13.2.1 0), (nth r13.2.1 1), (nth r13.2.1 2), (nth r13.2.1 3), (nth r13.2.1 4), (nth r13.2.1 5)] r13.2.2
/-- slices.EqualFunc[[]padlock/api.Expr,[]padlock/api.Expr,padlock/api.Expr,padlock/api.Expr] -/
noncomputable def S28 (call : CallF) (it : LoopF) (a0 a1 a2 : PV) (st : St) : Option (PV × St) :=
(aLen Try.prog 41 a0).bind fun p1 =>
(aLen Try.prog 41 a1).bind fun p2 =>
(aBin Try.prog false .neq 3 p1 p2).bind fun p3 =>
onBool p3 fun b4 => (bif b4 then
some (Ex.ret, [a0, a1, a2, (PV.v (.bool false))], st)
else
some (Ex.normal, [a0, a1, a2, (PV.v (.bool false))], st)).bind fun r5 =>
seqK r5.1 ((aLen Try.prog 41 (nth r5.2.1 0)).bind fun p7 =>
(it (S28.b0 call it st.stk.length st.lp.length) [(nth r5.2.1 1), (nth r5.2.1 2), (nth r5.2.1 3), (nth r5.2.1 0), p7, (PV.v (.int .i64 0))] r5.2.2).bind fun r8 =>
seqK (Ex.outOf 0 r8.1) (fin st.stk.length st.tk.length st.lp.length [(PV.v (.bool true))] r8.2.2) fun x35 =>
retK x35 (fin st.stk.length st.tk.length st.lp.length [(nth r8.2.1 2)] r8.2.2)) fun x6 =>
retK x6 (fin st.stk.length st.tk.length st.lp.length [(nth r5.2.1 3)] r5.2.2)
theorem S28_eq (a0 a1 a2 : PV) (st : St) : E L (.func 28) [a0, a1, a2] st = S28 (E L) itE a0 a1 a2 st := (E_func' (by rfl) Try.func28 _ _).trans (by kernel_rfl)
/-- padlock/tree.Exprs -/
noncomputable def S11 (call : CallF) (it : LoopF) (a0 a1 : PV) (st : St) : Option (PV × St) :=
(call (.func 28) [canon a0, canon a1, canon (PV.clo (.func 16) [])] st).bind fun r1 =>
fin st.stk.length st.tk.length st.lp.length [r1.1] r1.2
theorem S11_eq (a0 a1 : PV) (st : St) : E L (.func 11) [a0, a1] st = S11 (E L) itE a0 a1 st := (E_func' (by rfl) Try.func11 _ _).trans (by kernel_rfl)
/-- padlock/tree.samePlace -/
noncomputable def S41 (call : CallF) (it : LoopF) (a0 a1 : PV) (st : St) : Option (PV × St) :=
(cellsOf a0).bind fun b1 =>
let q3 : PV := .ptr false st.stk.length 0
let st2 := st.push b1
(cellsOf a1).bind fun b4 =>
let q6 : PV := .ptr false st2.stk.length 0
let st5 := st2.push b4
(shift q3 0).bind fun p7 =>
(aLoad false 1 p7 st5).bind fun p8 =>
(shift q6 0).bind fun p9 =>
(aLoad false 1 p9 st5).bind fun p10 =>
(aBin Try.prog false .eql 3 p8 p10).bind fun p11 =>
(onG p11 true (
(shift q3 1).bind fun p14 =>
some (p14, st5)) st5).bind fun r13 =>
(onG p11 true (
(aLoad false 1 r13.1 r13.2).bind fun p17 =>
some (p17, r13.2)) r13.2).bind fun r16 =>
(onG p11 true (
(shift q6 1).bind fun p20 =>
some (p20, r16.2)) r16.2).bind fun r19 =>
(onG p11 true (
(aLoad false 1 r19.1 r19.2).bind fun p23 =>
some (p23, r19.2)) r19.2).bind fun r22 =>
(onG p11 true (
(aBin Try.prog false .eql 9 r16.1 r22.1).bind fun p26 =>
some (p26, r22.2)) r22.2).bind fun r25 =>
(aPick p11 r25.1 (PV.v (.bool false))).bind fun p27 =>
(onG p27 true (
(shift q3 2).bind fun p30 =>
some (p30, r25.2)) r25.2).bind fun r29 =>
(onG p27 true (
(aLoad false 1 r29.1 r29.2).bind fun p33 =>
some (p33, r29.2)) r29.2).bind fun r32 =>
(onG p27 true (
(shift q6 2).bind fun p36 =>
some (p36, r32.2)) r32.2).bind fun r35 =>
(onG p27 true (
(aLoad false 1 r35.1 r35.2).bind fun p39 =>
some (p39, r35.2)) r35.2).bind fun r38 =>
(onG p27 true (
(aBin Try.prog false .eql 9 r32.1 r38.1).bind fun p42 =>
some (p42, r38.2)) r38.2).bind fun r41 =>
(aPick p27 r41.1 (PV.v (.bool false))).bind fun p43 =>
(onG p43 true (
(shift q3 3).bind fun p46 =>
some (p46, r41.2)) r41.2).bind fun r45 =>
(onG p43 true (
(aLoad true 9 r45.1 r45.2).bind fun p49 =>
some (p49, r45.2)) r45.2).bind fun r48 =>
(onG p43 true (
(shift q6 3).bind fun p52 =>
some (p52, r48.2)) r48.2).bind fun r51 =>
(onG p43 true (
(aLoad true 9 r51.1 r51.2).bind fun p55 =>
some (p55, r51.2)) r51.2).bind fun r54 =>
(onG p43 true (
(call (.func 16) [canon r48.1, canon r54.1] r54.2).bind fun r58 =>
some (r58.1, r58.2)) r54.2).bind fun r57 =>
(aPick p43 r57.1 (PV.v (.bool false))).bind fun p59 =>
fin st.stk.length st.tk.length st.lp.length [p59] r57.2
theorem S41_eq (a0 a1 : PV) (st : St) : E L (.func 41) [a0, a1] st = S41 (E L) itE a0 a1 st := (E_func' (by rfl) Try.func41 _ _).trans (by kernel_rfl)
/-- padlock/tree.sameRight -/
noncomputable def S40 (call : CallF) (it : LoopF) (a0 a1 : PV) (st : St) : Option (PV × St) :=
(cellsOf a0).bind fun b1 =>
let q3 : PV := .ptr false st.stk.length 0
let st2 := st.push b1
(cellsOf a1).bind fun b4 =>
let q6 : PV := .ptr false st2.stk.length 0
let st5 := st2.push b4
(shift q3 0).bind fun p7 =>
(aLoad false 1 p7 st5).bind fun p8 =>
(shift q6 0).bind fun p9 =>
(aLoad false 1 p9 st5).bind fun p10 =>
(aBin Try.prog false .eql 3 p8 p10).bind fun p11 =>
(onG p11 true (
(shift q3 24).bind fun p14 =>
some (p14, st5)) st5).bind fun r13 =>
(onG p11 true (
(aLoad false 1 r13.1 r13.2).bind fun p17 =>
some (p17, r13.2)) r13.2).bind fun r16 =>
(onG p11 true (
(shift q6 24).bind fun p20 =>
some (p20, r16.2)) r16.2).bind fun r19 =>
(onG p11 true (
(aLoad false 1 r19.1 r19.2).bind fun p23 =>
some (p23, r19.2)) r19.2).bind fun r22 =>
(onG p11 true (
(aBin Try.prog false .eql 9 r16.1 r22.1).bind fun p26 =>
some (p26, r22.2)) r22.2).bind fun r25 =>
(aPick p11 r25.1 (PV.v (.bool false))).bind fun p27 =>
(onG p27 true (
(shift q3 1).bind fun p30 =>
some (p30, r25.2)) r25.2).bind fun r29 =>
(onG p27 true (
(aLoad true 9 r29.1 r29.2).bind fun p33 =>
some (p33, r29.2)) r29.2).bind fun r32 =>
(onG p27 true (
(shift q6 1).bind fun p36 =>
some (p36, r32.2)) r32.2).bind fun r35 =>
(onG p27 true (
(aLoad true 9 r35.1 r35.2).bind fun p39 =>
some (p39, r35.2)) r35.2).bind fun r38 =>
(onG p27 true (
(call (.func 16) [canon r32.1, canon r38.1] r38.2).bind fun r42 =>
some (r42.1, r42.2)) r38.2).bind fun r41 =>
(aPick p27 r41.1 (PV.v (.bool false))).bind fun p43 =>
(onG p43 true (
(shift q3 10).bind fun p46 =>
some (p46, r41.2)) r41.2).bind fun r45 =>
(onG p43 true (
(aLoad true 14 r45.1 r45.2).bind fun p49 =>
some (p49, r45.2)) r45.2).bind fun r48 =>
(onG p43 true (
(shift q6 10).bind fun p52 =>
some (p52, r48.2)) r48.2).bind fun r51 =>
(onG p43 true (
(aLoad true 14 r51.1 r51.2).bind fun p55 =>
some (p55, r51.2)) r51.2).bind fun r54 =>
(onG p43 true (
(call (.func 41) [canon r48.1, canon r54.1] r54.2).bind fun r58 =>
some (r58.1, r58.2)) r54.2).bind fun r57 =>
(aPick p43 r57.1 (PV.v (.bool false))).bind fun p59 =>
fin st.stk.length st.tk.length st.lp.length [p59] r57.2
theorem S40_eq (a0 a1 : PV) (st : St) : E L (.func 40) [a0, a1] st = S40 (E L) itE a0 a1 st := (E_func' (by rfl) Try.func40 _ _).trans (by kernel_rfl)
/-- padlock/tree.SameStmt -/
noncomputable def S18 (call : CallF) (it : LoopF) (a0 a1 : PV) (st : St) : Option (PV × St) :=
(cellsOf a0).bind fun b1 =>
let q3 : PV := .ptr false st.stk.length 0
let st2 := st.push b1
(cellsOf a1).bind fun b4 =>
let q6 : PV := .ptr false st2.stk.length 0
let st5 := st2.push b4
(shift q3 0).bind fun p7 =>
(aLoad false 1 p7 st5).bind fun p8 =>
(shift q6 0).bind fun p9 =>
(aLoad false 1 p9 st5).bind fun p10 =>
(aBin Try.prog false .eql 3 p8 p10).bind fun p11 =>
(onG p11 true (
(shift q3 1).bind fun p14 =>
some (p14, st5)) st5).bind fun r13 =>
(onG p11 true (
(aLoad false 1 r13.1 r13.2).bind fun p17 =>
some (p17, r13.2)) r13.2).bind fun r16 =>
(onG p11 true (
(shift q6 1).bind fun p20 =>
some (p20, r16.2)) r16.2).bind fun r19 =>
(onG p11 true (
(aLoad false 1 r19.1 r19.2).bind fun p23 =>
some (p23, r19.2)) r19.2).bind fun r22 =>
(onG p11 true (
(aBin Try.prog false .eql 9 r16.1 r22.1).bind fun p26 =>
some (p26, r22.2)) r22.2).bind fun r25 =>
(aPick p11 r25.1 (PV.v (.bool false))).bind fun p27 =>
(onG p27 true (
(shift q3 52).bind fun p30 =>
some (p30, r25.2)) r25.2).bind fun r29 =>
(onG p27 true (
(aLoad false 1 r29.1 r29.2).bind fun p33 =>
some (p33, r29.2)) r29.2).bind fun r32 =>
(onG p27 true (
(shift q6 52).bind fun p36 =>
some (p36, r32.2)) r32.2).bind fun r35 =>
(onG p27 true (
(aLoad false 1 r35.1 r35.2).bind fun p39 =>
some (p39, r35.2)) r35.2).bind fun r38 =>
(onG p27 true (
(aBin Try.prog false .eql 3 r32.1 r38.1).bind fun p42 =>
some (p42, r38.2)) r38.2).bind fun r41 =>
(aPick p27 r41.1 (PV.v (.bool false))).bind fun p43 =>
(onG p43 true (
(shift q3 2).bind fun p46 =>
some (p46, r41.2)) r41.2).bind fun r45 =>
(onG p43 true (
(aLoad true 27 r45.1 r45.2).bind fun p49 =>
some (p49, r45.2)) r45.2).bind fun r48 =>
(onG p43 true (
(shift q6 2).bind fun p52 =>
some (p52, r48.2)) r48.2).bind fun r51 =>
(onG p43 true (
(aLoad true 27 r51.1 r51.2).bind fun p55 =>
some (p55, r51.2)) r51.2).bind fun r54 =>
(onG p43 true (
(call (.func 40) [canon r48.1, canon r54.1] r54.2).bind fun r58 =>
some (r58.1, r58.2)) r54.2).bind fun r57 =>
(aPick p43 r57.1 (PV.v (.bool false))).bind fun p59 =>
(onG p59 true (
(shift q3 29).bind fun p62 =>
some (p62, r57.2)) r57.2).bind fun r61 =>
(onG p59 true (
(aLoad true 14 r61.1 r61.2).bind fun p65 =>
some (p65, r61.2)) r61.2).bind fun r64 =>
(onG p59 true (
(shift q6 29).bind fun p68 =>
some (p68, r64.2)) r64.2).bind fun r67 =>
(onG p59 true (
(aLoad true 14 r67.1 r67.2).bind fun p71 =>
some (p71, r67.2)) r67.2).bind fun r70 =>
(onG p59 true (
(call (.func 41) [canon r64.1, canon r70.1] r70.2).bind fun r74 =>
some (r74.1, r74.2)) r70.2).bind fun r73 =>
(aPick p59 r73.1 (PV.v (.bool false))).bind fun p75 =>
(onG p75 true (
(shift q3 43).bind fun p78 =>
some (p78, r73.2)) r73.2).bind fun r77 =>
(onG p75 true (
(aLoad true 9 r77.1 r77.2).bind fun p81 =>
some (p81, r77.2)) r77.2).bind fun r80 =>
(onG p75 true (
(shift q6 43).bind fun p84 =>
some (p84, r80.2)) r80.2).bind fun r83 =>
(onG p75 true (
(aLoad true 9 r83.1 r83.2).bind fun p87 =>
some (p87, r83.2)) r83.2).bind fun r86 =>
(onG p75 true (
(call (.func 16) [canon r80.1, canon r86.1] r86.2).bind fun r90 =>
some (r90.1, r90.2)) r86.2).bind fun r89 =>
(aPick p75 r89.1 (PV.v (.bool false))).bind fun p91 =>
(onG p91 true (
(shift q3 53).bind fun p94 =>
some (p94, r89.2)) r89.2).bind fun r93 =>
(onG p91 true (
(aLoad false 1 r93.1 r93.2).bind fun p97 =>
some (p97, r93.2)) r93.2).bind fun r96 =>
(onG p91 true (
(shift q6 53).bind fun p100 =>
some (p100, r96.2)) r96.2).bind fun r99 =>
(onG p91 true (
(aLoad false 1 r99.1 r99.2).bind fun p103 =>
some (p103, r99.2)) r99.2).bind fun r102 =>
(onG p91 true (
(call (.func 11) [canon r96.1, canon r102.1] r102.2).bind fun r106 =>
some (r106.1, r106.2)) r102.2).bind fun r105 =>
(aPick p91 r105.1 (PV.v (.bool false))).bind fun p107 =>
(onG p107 true (
(shift q3 54).bind fun p110 =>
some (p110, r105.2)) r105.2).bind fun r109 =>
(onG p107 true (
(aLoad false 1 r109.1 r109.2).bind fun p113 =>
some (p113, r109.2)) r109.2).bind fun r112 =>
(onG p107 true (
(shift q6 54).bind fun p116 =>
some (p116, r112.2)) r112.2).bind fun r115 =>
(onG p107 true (
(aLoad false 1 r115.1 r115.2).bind fun p119 =>
some (p119, r115.2)) r115.2).bind fun r118 =>
(onG p107 true (
(call (.func 10) [canon r112.1, canon r118.1] r118.2).bind fun r122 =>
some (r122.1, r122.2)) r118.2).bind fun r121 =>
(aPick p107 r121.1 (PV.v (.bool false))).bind fun p123 =>
(onG p123 true (
(shift q3 55).bind fun p126 =>
some (p126, r121.2)) r121.2).bind fun r125 =>
(onG p123 true (
(aLoad false 1 r125.1 r125.2).bind fun p129 =>
some (p129, r125.2)) r125.2).bind fun r128 =>
(onG p123 true (
(shift q6 55).bind fun p132 =>
some (p132, r128.2)) r128.2).bind fun r131 =>
(onG p123 true (
(aLoad false 1 r131.1 r131.2).bind fun p135 =>
some (p135, r131.2)) r131.2).bind fun r134 =>
(onG p123 true (
(call (.func 10) [canon r128.1, canon r134.1] r134.2).bind fun r138 =>
some (r138.1, r138.2)) r134.2).bind fun r137 =>
(aPick p123 r137.1 (PV.v (.bool false))).bind fun p139 =>
fin st.stk.length st.tk.length st.lp.length [p139] r137.2
theorem S18_eq (a0 a1 : PV) (st : St) : E L (.func 18) [a0, a1] st = S18 (E L) itE a0 a1 st := (E_func' (by rfl) Try.func18 _ _).trans (by kernel_rfl)
noncomputable def S27.b0 (call : CallF) (it : LoopF) (base lb : Nat) (vs9 : List PV) (st10 : St) : Option (Ex × List PV × St) :=
(aBin Try.prog false .lss 3 (nth vs9 5) (nth vs9 4)).bind fun p11 =>
onBool p11 fun b12 => (bif b12 then
some (Ex.normal, [(nth vs9 0), (nth vs9 1), (nth vs9 2), (nth vs9 3), (nth vs9 4), (nth vs9 5)], st10)
else
some ((Ex.exit 0), [(nth vs9 0), (nth vs9 1), (nth vs9 2), (nth vs9 3), (nth vs9 4), (nth vs9 5)], st10)).bind fun r13 =>
seqK r13.1 ((aIndexAddr Try.prog 31 (nth r13.2.1 3) (nth r13.2.1 5)).bind fun p15 =>
(aLoad true 58 p15 r13.2.2).bind fun p16 =>
let q18 : PV := .ptr false r13.2.2.stk.length 0
let st17 := r13.2.2.push [.v (.int .i64 0), .v (.string ⟨#[]⟩), .v (.int .i64 0), .v (.int .i64 0), .v (.int .i64 0), .v (.int .u64 0), .v (.int .i64 0), .v (.string ⟨#[]⟩), .v (.string ⟨#[]⟩), .sl [] .nil, .v (.int .i64 0), .v (.int .i64 0), .v (.int .i64 0), .v (.string ⟨#[]⟩), .v (.string ⟨#[]⟩), .v (.int .i64 0), .v (.int .i64 0), .v (.int .u64 0), .v (.int .i64 0), .v (.string ⟨#[]⟩), .v (.string ⟨#[]⟩), .sl [] .nil, .v (.int .i64 0), .v (.int .i64 0), .v (.int .i64 0), .v (.int .i64 0), .v (.string ⟨#[]⟩), .v (.int .i64 0), .v (.int .i64 0), .v (.int .i64 0), .v (.string ⟨#[]⟩), .v (.string ⟨#[]⟩), .v (.int .i64 0), .v (.int .i64 0), .v (.int .u64 0), .v (.int .i64 0), .v (.string ⟨#[]⟩), .v (.string ⟨#[]⟩), .sl [] .nil, .v (.int .i64 0), .v (.int .i64 0), .v (.int .i64 0), .v (.int .i64 0), .v (.int .i64 0), .v (.int .i64 0), .v (.int .u64 0), .v (.int .i64 0), .v (.string ⟨#[]⟩), .v (.string ⟨#[]⟩), .sl [] .nil, .v (.int .i64 0), .v (.int .i64 0), .v (.int .i64 0), .sl [] .nil, .sl [] .nil, .sl [] .nil, .v (.int .i64 0), .v (.int .i64 0)]
(aStore base 58 q18 p16 st17).bind fun st19 =>
(aIndexAddr Try.prog 31 (nth r13.2.1 0) (nth r13.2.1 5)).bind fun p20 =>
(aLoad true 58 p20 st19).bind fun p21 =>
let q23 : PV := .ptr false st19.stk.length 0
let st22 := st19.push [.v (.int .i64 0), .v (.string ⟨#[]⟩), .v (.int .i64 0), .v (.int .i64 0), .v (.int .i64 0), .v (.int .u64 0), .v (.int .i64 0), .v (.string ⟨#[]⟩), .v (.string ⟨#[]⟩), .sl [] .nil, .v (.int .i64 0), .v (.int .i64 0), .v (.int .i64 0), .v (.string ⟨#[]⟩), .v (.string ⟨#[]⟩), .v (.int .i64 0), .v (.int .i64 0), .v (.int .u64 0), .v (.int .i64 0), .v (.string ⟨#[]⟩), .v (.string ⟨#[]⟩), .sl [] .nil, .v (.int .i64 0), .v (.int .i64 0), .v (.int .i64 0), .v (.int .i64 0), .v (.string ⟨#[]⟩), .v (.int .i64 0), .v (.int .i64 0), .v (.int .i64 0), .v (.string ⟨#[]⟩), .v (.string ⟨#[]⟩), .v (.int .i64 0), .v (.int .i64 0), .v (.int .u64 0), .v (.int .i64 0), .v (.string ⟨#[]⟩), .v (.string ⟨#[]⟩), .sl [] .nil, .v (.int .i64 0), .v (.int .i64 0), .v (.int .i64 0), .v (.int .i64 0), .v (.int .i64 0), .v (.int .i64 0), .v (.int .u64 0), .v (.int .i64 0), .v (.string ⟨#[]⟩), .v (.string ⟨#[]⟩), .sl [] .nil, .v (.int .i64 0), .v (.int .i64 0), .v (.int .i64 0), .sl [] .nil, .sl [] .nil, .sl [] .nil, .v (.int .i64 0), .v (.int .i64 0)]
(aStore base 58 q23 p21 st22).bind fun st24 =>
(aLoad true 58 q18 st24).bind fun p25 =>
(aLoad true 58 q23 st24).bind fun p26 =>
onFn (nth r13.2.1 1) fun g28 caps29 =>
(call g28 ([canon p25, canon p26] ++ caps29) st24).bind fun r27 =>
(aUn Try.prog .not r27.1).bind fun p30 =>
onBool p30 fun b31 => (bif b31 then
some (Ex.ret, [(nth r13.2.1 0), (nth r13.2.1 1), (PV.v (.bool false)), (nth r13.2.1 3), (nth r13.2.1 4), (nth r13.2.1 5)], r27.2)
else
some (Ex.normal, [(nth r13.2.1 0), (nth r13.2.1 1), (nth r13.2.1 2), (nth r13.2.1 3), (nth r13.2.1 4), (nth r13.2.1 5)], r27.2)).bind fun r32 =>
seqK (Ex.outOf 1 r32.1) ((aBin Try.prog true .add 3 (nth r32.2.1 5) (PV.v (.int .i64 1))).bind fun p34 =>
leaveV base lb st10.stk.length Ex.normal [(nth r32.2.1 0), (nth r32.2.1 1), (nth r32.2.1 2), (nth r32.2.1 3), (nth r32.2.1 4), p34] r32.2.2) fun x33 =>
leaveV base lb st10.stk.length x33 [(nth r32.2.1 0), (nth r32.2.1 1), (nth r32.2.1 2), (nth r32.2.1 3), (nth r32.2.1 4), (nth r32.2.1 5)] r32.2.2) fun x14 =>
leaveV base lb st10.stk.length x14 [(nth r13.2.1 0), (nth r13.2.1 1), (nth r13.2.1 2), (nth r13.2.1 3), (nth r13.2.1 4), (nth r13.2.1 5)] r13.2.2
/-- slices.EqualFunc[[]padlock/api.Stmt,[]padlock/api.Stmt,padlock/api.Stmt,padlock/api.Stmt] -/
noncomputable def S27 (call : CallF) (it : LoopF) (a0 a1 a2 : PV) (st : St) : Option (PV × St) :=
(aLen Try.prog 31 a0).bind fun p1 =>
(aLen Try.prog 31 a1).bind fun p2 =>
(aBin Try.prog false .neq 3 p1 p2).bind fun p3 =>
onBool p3 fun b4 => (bif b4 then
some (Ex.ret, [a0, a1, a2, (PV.v (.bool false))], st)
else
some (Ex.normal, [a0, a1, a2, (PV.v (.bool false))], st)).bind fun r5 =>
seqK r5.1 ((aLen Try.prog 31 (nth r5.2.1 0)).bind fun p7 =>
(it (S27.b0 call it st.stk.length st.lp.length) [(nth r5.2.1 1), (nth r5.2.1 2), (nth r5.2.1 3), (nth r5.2.1 0), p7, (PV.v (.int .i64 0))] r5.2.2).bind fun r8 =>
seqK (Ex.outOf 0 r8.1) (fin st.stk.length st.tk.length st.lp.length [(PV.v (.bool true))] r8.2.2) fun x35 =>
retK x35 (fin st.stk.length st.tk.length st.lp.length [(nth r8.2.1 2)] r8.2.2)) fun x6 =>
retK x6 (fin st.stk.length st.tk.length st.lp.length [(nth r5.2.1 3)] r5.2.2)
theorem S27_eq (a0 a1 a2 : PV) (st : St) : E L (.func 27) [a0, a1, a2] st = S27 (E L) itE a0 a1 a2 st := (E_func' (by rfl) Try.func27 _ _).trans (by kernel_rfl)
/-- padlock/tree.Stmts -/
noncomputable def S10 (call : CallF) (it : LoopF) (a0 a1 : PV) (st : St) : Option (PV × St) :=
(call (.func 27) [canon a0, canon a1, canon (PV.clo (.func 18) [])] st).bind fun r1 =>
fin st.stk.length st.tk.length st.lp.length [r1.1] r1.2
theorem S10_eq (a0 a1 : PV) (st : St) : E L (.func 10) [a0, a1] st = S10 (E L) itE a0 a1 st := (E_func' (by rfl) Try.func10 _ _).trans (by kernel_rfl)
/-- padlock/tree.All -/
noncomputable def S26 (call : CallF) (it : LoopF) (a0 : PV) (st : St) : Option (PV × St) :=
(cellsOf a0).bind fun b1 =>
(aBox true b1 st).bind fun r2 =>
(aMakeFunc (Fn.func 45) true [r2.1]).bind fun p3 =>
fin st.stk.length st.tk.length st.lp.length [p3] r2.2
theorem S26_eq (a0 : PV) (st : St) : E L (.func 26) [a0] st = S26 (E L) itE a0 st := (E_func' (by rfl) Try.func26 _ _).trans (by kernel_rfl)
noncomputable def S42.b0 (call : CallF) (it : LoopF) (base lb : Nat) (vs8 : List PV) (st9 : St) : Option (Ex × List PV × St) :=
(aBin Try.prog false .lss 3 (nth vs8 4) (nth vs8 3)).bind fun p10 =>
onBool p10 fun b11 => (bif b11 then
some (Ex.normal, [(nth vs8 0), (nth vs8 1), (nth vs8 2), (nth vs8 3), (nth vs8 4)], st9)
else
some ((Ex.exit 0), [(nth vs8 0), (nth vs8 1), (nth vs8 2), (nth vs8 3), (nth vs8 4)], st9)).bind fun r12 =>
seqK r12.1 ((aIndexAddr Try.prog 26 (nth r12.2.1 2) (nth r12.2.1 4)).bind fun p14 =>
(aLoad true 5 p14 r12.2.2).bind fun p15 =>
let q17 : PV := .ptr false r12.2.2.stk.length 0
let st16 := r12.2.2.push [.v (.string ⟨#[]⟩), .sl [] .nil, .sl [] .nil, .v (.int .i64 0), .v (.int .i64 0)]
(aStore base 5 q17 p15 st16).bind fun st18 =>
(shift q17 2).bind fun p19 =>
(aLoad false 1 p19 st18).bind fun p20 =>
(rBuildSlice 1 [.sl [] .nil] 1 [(0, p20)]).bind fun p21 =>
(elemsOf st18 p21).bind fun ys22 =>
(rAppend base [.sl [] .nil] 1 24 (nth r12.2.1 1) ys22 st18).bind fun r23 =>
(aBin Try.prog true .add 3 (nth r12.2.1 4) (PV.v (.int .i64 1))).bind fun p24 =>
leaveV base lb st9.stk.length Ex.normal [(nth r12.2.1 0), r23.1, (nth r12.2.1 2), (nth r12.2.1 3), p24] r23.2) fun x13 =>
leaveV base lb st9.stk.length x13 [(nth r12.2.1 0), (nth r12.2.1 1), (nth r12.2.1 2), (nth r12.2.1 3), (nth r12.2.1 4)] r12.2.2
noncomputable def S42.b1 (call : CallF) (it : LoopF) (base lb : Nat) (vs30 : List PV) (st31 : St) : Option (Ex × List PV × St) :=
(aBin Try.prog false .lss 3 (nth vs30 3) (nth vs30 2)).bind fun p32 =>
onBool p32 fun b33 => (bif b33 then
some (Ex.normal, [(nth vs30 0), (nth vs30 1), (nth vs30 2), (nth vs30 3)], st31)
else
some ((Ex.exit 2), [(nth vs30 0), (nth vs30 1), (nth vs30 2), (nth vs30 3)], st31)).bind fun r34 =>
seqK r34.1 ((aIndexAddr Try.prog 27 (nth r34.2.1 1) (nth r34.2.1 3)).bind fun p36 =>
(aLoad true 3 p36 r34.2.2).bind fun p37 =>
let q39 : PV := .ptr false r34.2.2.stk.length 0
let st38 := r34.2.2.push [.sl [] .nil, .v (.int .i64 0), .v (.int .i64 0)]
(aStore base 3 q39 p37 st38).bind fun st40 =>
(shift q39 0).bind fun p41 =>
(aLoad false 1 p41 st40).bind fun p42 =>
(rBuildSlice 1 [.sl [] .nil] 1 [(0, p42)]).bind fun p43 =>
(elemsOf st40 p43).bind fun ys44 =>
(rAppend base [.sl [] .nil] 1 24 (nth r34.2.1 0) ys44 st40).bind fun r45 =>
(aBin Try.prog true .add 3 (nth r34.2.1 3) (PV.v (.int .i64 1))).bind fun p46 =>
leaveV base lb st31.stk.length Ex.normal [r45.1, (nth r34.2.1 1), (nth r34.2.1 2), p46] r45.2) fun x35 =>
leaveV base lb st31.stk.length x35 [(nth r34.2.1 0), (nth r34.2.1 1), (nth r34.2.1 2), (nth r34.2.1 3)] r34.2.2
/-- padlock/tree.bodies -/
noncomputable def S42 (call : CallF) (it : LoopF) (a0 : PV) (st : St) : Option (PV × St) :=
(cellsOf a0).bind fun b1 =>
let q3 : PV := .ptr false st.stk.length 0
let st2 := st.push b1
(shift q3 2).bind fun p4 =>
(aLoad false 1 p4 st2).bind fun p5 =>
(aLen Try.prog 26 p5).bind fun p6 =>
(it (S42.b0 call it st.stk.length st.lp.length) [q3, (PV.sl [] .nil), p5, p6, (PV.v (.int .i64 0))] st2).bind fun r7 =>
seqK (Ex.outOf 0 r7.1) ((shift (nth r7.2.1 0) 3).bind fun p26 =>
(aLoad false 1 p26 r7.2.2).bind fun p27 =>
(aLen Try.prog 27 p27).bind fun p28 =>
(it (S42.b1 call it st.stk.length st.lp.length) [(nth r7.2.1 1), p27, p28, (PV.v (.int .i64 0))] r7.2.2).bind fun r29 =>
seqK (Ex.outOf 2 r29.1) (fin st.stk.length st.tk.length st.lp.length [(nth r29.2.1 0)] r29.2.2) fun x47 =>
retK x47 (fin st.stk.length st.tk.length st.lp.length [PV.u] r29.2.2)) fun x25 =>
retK x25 (fin st.stk.length st.tk.length st.lp.length [PV.u] r7.2.2)
theorem S42_eq (a0 : PV) (st : St) : E L (.func 42) [a0] st = S42 (E L) itE a0 st := (E_func' (by rfl) Try.func42 _ _).trans (by kernel_rfl)
noncomputable def S21.lp0 (vs : List PV) : Lp := ⟨[4, 5], vs, 28, ⟨[], []⟩, [18, 19], (Try.f21.body.getD .skip).r.r.l.r.l.l.r.r.l.l.r.r.l.l, (Try.f21.body.getD .skip).r.r.l.r.l.l.r.r.l.l.r.r.l.r, (.seq .nil .nil), 0, .normal⟩
noncomputable def S21.r0 (call : CallF) (it : LoopF) (i : Nat) (vs : List PV) (p0_ p1_ : PV) (st : St) : Option (PV × St) :=
beginR i st fun st28 =>
(aLoad false 1 (nth vs 0) st28).bind fun p29 =>
(aBin Try.prog true .add 3 p29 (PV.v (.int .i64 1))).bind fun p30 =>
(aStore st.stk.length 1 (nth vs 0) p30 st28).bind fun st31 =>
(aLoad false 1 (nth vs 1) st31).bind fun p32 =>
(aMax2 Try.prog p32 p0_).bind fun p33 =>
(aStore st.stk.length 1 (nth vs 1) p33 st31).bind fun st34 =>
finR st.stk.length st.tk.length st.lp.length i Ex.normal st34
noncomputable def S21.b0 (call : CallF) (it : LoopF) (base lb : Nat) (vs14 : List PV) (st15 : St) : Option (Ex × List PV × St) :=
(aBin Try.prog false .lss 3 (nth vs14 4) (nth vs14 3)).bind fun p16 =>
onBool p16 fun b17 => (bif b17 then
some (Ex.normal, [(nth vs14 0), (nth vs14 1), (nth vs14 2), (nth vs14 3), (nth vs14 4)], st15)
else
some ((Ex.exit 0), [(nth vs14 0), (nth vs14 1), (nth vs14 2), (nth vs14 3), (nth vs14 4)], st15)).bind fun r18 =>
seqK r18.1 ((aIndexAddr Try.prog 61 (nth r18.2.1 2) (nth r18.2.1 4)).bind fun p20 =>
(aLoad false 1 p20 r18.2.2).bind fun p21 =>
(call (.func 26) [canon p21] r18.2.2).bind fun r22 =>
onFn r22.1 fun g23 caps24 => bif true && plainFn g23 then
(call g23 (.clo (.yield r22.2.lp.length) [] :: caps24) { r22.2 with lp := r22.2.lp ++ [.loop (S21.lp0 [(nth r18.2.1 0), (nth r18.2.1 1)])] }).bind fun r25 =>
endLp r25.2 r22.2.stk.length r22.2.tk.length r22.2.lp.length fun x26 st27 =>
seqK (Ex.outOf 1 (Ex.outOf 2 x26)) ((aBin Try.prog true .add 3 (nth r18.2.1 4) (PV.v (.int .i64 1))).bind fun p36 =>
some (Ex.normal, [(nth r18.2.1 0), (nth r18.2.1 1), (nth r18.2.1 2), (nth r18.2.1 3), p36], st27)) fun x35 =>
some (x35, [(nth r18.2.1 0), (nth r18.2.1 1), (nth r18.2.1 2), (nth r18.2.1 3), (nth r18.2.1 4)], st27)
else none) fun x19 =>
some (x19, [(nth r18.2.1 0), (nth r18.2.1 1), (nth r18.2.1 2), (nth r18.2.1 3), (nth r18.2.1 4)], r18.2.2)
/-- padlock/tree.Count -/
noncomputable def S21 (call : CallF) (it : LoopF) (a0 : PV) (st : St) : Option (PV × St) :=
(cellsOf a0).bind fun b1 =>
let q3 : PV := .ptr false st.stk.length 0
let st2 := st.push b1
let q5 : PV := .ptr false st2.stk.length 0
let st4 := st2.push [.v (.int .i64 0)]
let q7 : PV := .ptr false st4.stk.length 0
let st6 := st4.push [.v (.int .i64 0)]
(aStore st.stk.length 1 q5 (PV.v (.int .i64 0)) st6).bind fun st8 =>
(aStore st.stk.length 1 q7 (PV.v (.int .i64 (-1))) st8).bind fun st9 =>
(aLoad true 4 q3 st9).bind fun p10 =>
(call (.func 42) [canon p10] st9).bind fun r11 =>
(aLen Try.prog 61 r11.1).bind fun p12 =>
(it (S21.b0 call it st.stk.length st.lp.length) [q5, q7, r11.1, p12, (PV.v (.int .i64 0))] r11.2).bind fun r13 =>
seqK (Ex.outOf 0 r13.1) ((aLoad false 1 (nth r13.2.1 0) r13.2.2).bind fun p38 =>
need (r13.2.2 = r13.2.2) <|
(aLoad false 1 (nth r13.2.1 1) r13.2.2).bind fun p39 =>
need (r13.2.2 = r13.2.2) <|
fin st.stk.length st.tk.length st.lp.length [p38, p39] r13.2.2) fun x37 =>
retK x37 (fin st.stk.length st.tk.length st.lp.length [PV.u, PV.u] r13.2.2)
theorem S21_eq (a0 : PV) (st : St) : E L (.func 21) [a0] st = S21 (E L) itE a0 st := (E_func' (by rfl) Try.func21 _ _).trans (by kernel_rfl)
theorem S21.r0_eq {i : Nat} {vs : List PV} {st : St} (h : st.loop i = some (S21.lp0 vs)) (p0_ p1_ : PV) : E L (.yield i) [p0_, p1_] st = S21.r0 (E L) itE i vs p0_ p1_ st := (E_yield h _).trans (by kernel_rfl)
/-- padlock/padlocklaw04.alive -/
noncomputable def S7 (call : CallF) (it : LoopF) (st : St) : Option (PV × St) :=
(rBuild [(0, 1), (1, 1), (2, 1), (3, 2), (5, 1), (6, 1), (7, 1), (8, 1)] [.v (.int .i64 0), .v (.int .i64 0), .v (.int .u64 0), .v (.int .i64 0), .v (.string ⟨#[]⟩), .v (.string ⟨#[]⟩), .sl [] .nil, .v (.int .i64 0), .v (.int .i64 0)] [(0, (PV.v (.int .i64 1))), (2, (PV.v (.int .u64 1)))]).bind fun p1 =>
(rBuild [(0, 1), (1, 1), (2, 27), (29, 14), (43, 9), (52, 1), (53, 1), (54, 1), (55, 1), (56, 1), (57, 1)] [.v (.int .i64 0), .v (.string ⟨#[]⟩), .v (.int .i64 0), .v (.int .i64 0), .v (.int .i64 0), .v (.int .u64 0), .v (.int .i64 0), .v (.string ⟨#[]⟩), .v (.string ⟨#[]⟩), .sl [] .nil, .v (.int .i64 0), .v (.int .i64 0), .v (.int .i64 0), .v (.string ⟨#[]⟩), .v (.string ⟨#[]⟩), .v (.int .i64 0), .v (.int .i64 0), .v (.int .u64 0), .v (.int .i64 0), .v (.string ⟨#[]⟩), .v (.string ⟨#[]⟩), .sl [] .nil, .v (.int .i64 0), .v (.int .i64 0), .v (.int .i64 0), .v (.int .i64 0), .v (.string ⟨#[]⟩), .v (.int .i64 0), .v (.int .i64 0), .v (.int .i64 0), .v (.string ⟨#[]⟩), .v (.string ⟨#[]⟩), .v (.int .i64 0), .v (.int .i64 0), .v (.int .u64 0), .v (.int .i64 0), .v (.string ⟨#[]⟩), .v (.string ⟨#[]⟩), .sl [] .nil, .v (.int .i64 0), .v (.int .i64 0), .v (.int .i64 0), .v (.int .i64 0), .v (.int .i64 0), .v (.int .i64 0), .v (.int .u64 0), .v (.int .i64 0), .v (.string ⟨#[]⟩), .v (.string ⟨#[]⟩), .sl [] .nil, .v (.int .i64 0), .v (.int .i64 0), .v (.int .i64 0), .sl [] .nil, .sl [] .nil, .sl [] .nil, .v (.int .i64 0), .v (.int .i64 0)] [(0, (PV.v (.int .i64 5))), (9, (PV.v (.int .i64 7)))]).bind fun p2 =>
(rBuildSlice 58 [.v (.int .i64 0), .v (.string ⟨#[]⟩), .v (.int .i64 0), .v (.int .i64 0), .v (.int .i64 0), .v (.int .u64 0), .v (.int .i64 0), .v (.string ⟨#[]⟩), .v (.string ⟨#[]⟩), .sl [] .nil, .v (.int .i64 0), .v (.int .i64 0), .v (.int .i64 0), .v (.string ⟨#[]⟩), .v (.string ⟨#[]⟩), .v (.int .i64 0), .v (.int .i64 0), .v (.int .u64 0), .v (.int .i64 0), .v (.string ⟨#[]⟩), .v (.string ⟨#[]⟩), .sl [] .nil, .v (.int .i64 0), .v (.int .i64 0), .v (.int .i64 0), .v (.int .i64 0), .v (.string ⟨#[]⟩), .v (.int .i64 0), .v (.int .i64 0), .v (.int .i64 0), .v (.string ⟨#[]⟩), .v (.string ⟨#[]⟩), .v (.int .i64 0), .v (.int .i64 0), .v (.int .u64 0), .v (.int .i64 0), .v (.string ⟨#[]⟩), .v (.string ⟨#[]⟩), .sl [] .nil, .v (.int .i64 0), .v (.int .i64 0), .v (.int .i64 0), .v (.int .i64 0), .v (.int .i64 0), .v (.int .i64 0), .v (.int .u64 0), .v (.int .i64 0), .v (.string ⟨#[]⟩), .v (.string ⟨#[]⟩), .sl [] .nil, .v (.int .i64 0), .v (.int .i64 0), .v (.int .i64 0), .sl [] .nil, .sl [] .nil, .sl [] .nil, .v (.int .i64 0), .v (.int .i64 0)] 1 [(0, p2)]).bind fun p3 =>
(rBuild [(0, 1), (1, 1), (2, 27), (29, 14), (43, 9), (52, 1), (53, 1), (54, 1), (55, 1), (56, 1), (57, 1)] [.v (.int .i64 0), .v (.string ⟨#[]⟩), .v (.int .i64 0), .v (.int .i64 0), .v (.int .i64 0), .v (.int .u64 0), .v (.int .i64 0), .v (.string ⟨#[]⟩), .v (.string ⟨#[]⟩), .sl [] .nil, .v (.int .i64 0), .v (.int .i64 0), .v (.int .i64 0), .v (.string ⟨#[]⟩), .v (.string ⟨#[]⟩), .v (.int .i64 0), .v (.int .i64 0), .v (.int .u64 0), .v (.int .i64 0), .v (.string ⟨#[]⟩), .v (.string ⟨#[]⟩), .sl [] .nil, .v (.int .i64 0), .v (.int .i64 0), .v (.int .i64 0), .v (.int .i64 0), .v (.string ⟨#[]⟩), .v (.int .i64 0), .v (.int .i64 0), .v (.int .i64 0), .v (.string ⟨#[]⟩), .v (.string ⟨#[]⟩), .v (.int .i64 0), .v (.int .i64 0), .v (.int .u64 0), .v (.int .i64 0), .v (.string ⟨#[]⟩), .v (.string ⟨#[]⟩), .sl [] .nil, .v (.int .i64 0), .v (.int .i64 0), .v (.int .i64 0), .v (.int .i64 0), .v (.int .i64 0), .v (.int .i64 0), .v (.int .u64 0), .v (.int .i64 0), .v (.string ⟨#[]⟩), .v (.string ⟨#[]⟩), .sl [] .nil, .v (.int .i64 0), .v (.int .i64 0), .v (.int .i64 0), .sl [] .nil, .sl [] .nil, .sl [] .nil, .v (.int .i64 0), .v (.int .i64 0)] [(0, (PV.v (.int .i64 6))), (4, p1), (7, p3)]).bind fun p4 =>
(rBuildSlice 58 [.v (.int .i64 0), .v (.string ⟨#[]⟩), .v (.int .i64 0), .v (.int .i64 0), .v (.int .i64 0), .v (.int .u64 0), .v (.int .i64 0), .v (.string ⟨#[]⟩), .v (.string ⟨#[]⟩), .sl [] .nil, .v (.int .i64 0), .v (.int .i64 0), .v (.int .i64 0), .v (.string ⟨#[]⟩), .v (.string ⟨#[]⟩), .v (.int .i64 0), .v (.int .i64 0), .v (.int .u64 0), .v (.int .i64 0), .v (.string ⟨#[]⟩), .v (.string ⟨#[]⟩), .sl [] .nil, .v (.int .i64 0), .v (.int .i64 0), .v (.int .i64 0), .v (.int .i64 0), .v (.string ⟨#[]⟩), .v (.int .i64 0), .v (.int .i64 0), .v (.int .i64 0), .v (.string ⟨#[]⟩), .v (.string ⟨#[]⟩), .v (.int .i64 0), .v (.int .i64 0), .v (.int .u64 0), .v (.int .i64 0), .v (.string ⟨#[]⟩), .v (.string ⟨#[]⟩), .sl [] .nil, .v (.int .i64 0), .v (.int .i64 0), .v (.int .i64 0), .v (.int .i64 0), .v (.int .i64 0), .v (.int .i64 0), .v (.int .u64 0), .v (.int .i64 0), .v (.string ⟨#[]⟩), .v (.string ⟨#[]⟩), .sl [] .nil, .v (.int .i64 0), .v (.int .i64 0), .v (.int .i64 0), .sl [] .nil, .sl [] .nil, .sl [] .nil, .v (.int .i64 0), .v (.int .i64 0)] 1 [(0, p4)]).bind fun p5 =>
(rBuild [(0, 1), (1, 1), (2, 1), (3, 2), (5, 1), (6, 1), (7, 1), (8, 1)] [.v (.int .i64 0), .v (.int .i64 0), .v (.int .u64 0), .v (.int .i64 0), .v (.string ⟨#[]⟩), .v (.string ⟨#[]⟩), .sl [] .nil, .v (.int .i64 0), .v (.int .i64 0)] [(0, (PV.v (.int .i64 1))), (2, (PV.v (.int .u64 1)))]).bind fun p6 =>
(rBuild [(0, 1), (1, 1), (2, 27), (29, 14), (43, 9), (52, 1), (53, 1), (54, 1), (55, 1), (56, 1), (57, 1)] [.v (.int .i64 0), .v (.string ⟨#[]⟩), .v (.int .i64 0), .v (.int .i64 0), .v (.int .i64 0), .v (.int .u64 0), .v (.int .i64 0), .v (.string ⟨#[]⟩), .v (.string ⟨#[]⟩), .sl [] .nil, .v (.int .i64 0), .v (.int .i64 0), .v (.int .i64 0), .v (.string ⟨#[]⟩), .v (.string ⟨#[]⟩), .v (.int .i64 0), .v (.int .i64 0), .v (.int .u64 0), .v (.int .i64 0), .v (.string ⟨#[]⟩), .v (.string ⟨#[]⟩), .sl [] .nil, .v (.int .i64 0), .v (.int .i64 0), .v (.int .i64 0), .v (.int .i64 0), .v (.string ⟨#[]⟩), .v (.int .i64 0), .v (.int .i64 0), .v (.int .i64 0), .v (.string ⟨#[]⟩), .v (.string ⟨#[]⟩), .v (.int .i64 0), .v (.int .i64 0), .v (.int .u64 0), .v (.int .i64 0), .v (.string ⟨#[]⟩), .v (.string ⟨#[]⟩), .sl [] .nil, .v (.int .i64 0), .v (.int .i64 0), .v (.int .i64 0), .v (.int .i64 0), .v (.int .i64 0), .v (.int .i64 0), .v (.int .u64 0), .v (.int .i64 0), .v (.string ⟨#[]⟩), .v (.string ⟨#[]⟩), .sl [] .nil, .v (.int .i64 0), .v (.int .i64 0), .v (.int .i64 0), .sl [] .nil, .sl [] .nil, .sl [] .nil, .v (.int .i64 0), .v (.int .i64 0)] [(0, (PV.v (.int .i64 5)))]).bind fun p7 =>
(rBuildSlice 58 [.v (.int .i64 0), .v (.string ⟨#[]⟩), .v (.int .i64 0), .v (.int .i64 0), .v (.int .i64 0), .v (.int .u64 0), .v (.int .i64 0), .v (.string ⟨#[]⟩), .v (.string ⟨#[]⟩), .sl [] .nil, .v (.int .i64 0), .v (.int .i64 0), .v (.int .i64 0), .v (.string ⟨#[]⟩), .v (.string ⟨#[]⟩), .v (.int .i64 0), .v (.int .i64 0), .v (.int .u64 0), .v (.int .i64 0), .v (.string ⟨#[]⟩), .v (.string ⟨#[]⟩), .sl [] .nil, .v (.int .i64 0), .v (.int .i64 0), .v (.int .i64 0), .v (.int .i64 0), .v (.string ⟨#[]⟩), .v (.int .i64 0), .v (.int .i64 0), .v (.int .i64 0), .v (.string ⟨#[]⟩), .v (.string ⟨#[]⟩), .v (.int .i64 0), .v (.int .i64 0), .v (.int .u64 0), .v (.int .i64 0), .v (.string ⟨#[]⟩), .v (.string ⟨#[]⟩), .sl [] .nil, .v (.int .i64 0), .v (.int .i64 0), .v (.int .i64 0), .v (.int .i64 0), .v (.int .i64 0), .v (.int .i64 0), .v (.int .u64 0), .v (.int .i64 0), .v (.string ⟨#[]⟩), .v (.string ⟨#[]⟩), .sl [] .nil, .v (.int .i64 0), .v (.int .i64 0), .v (.int .i64 0), .sl [] .nil, .sl [] .nil, .sl [] .nil, .v (.int .i64 0), .v (.int .i64 0)] 1 [(0, p7)]).bind fun p8 =>
(rBuild [(0, 1), (1, 1), (2, 27), (29, 14), (43, 9), (52, 1), (53, 1), (54, 1), (55, 1), (56, 1), (57, 1)] [.v (.int .i64 0), .v (.string ⟨#[]⟩), .v (.int .i64 0), .v (.int .i64 0), .v (.int .i64 0), .v (.int .u64 0), .v (.int .i64 0), .v (.string ⟨#[]⟩), .v (.string ⟨#[]⟩), .sl [] .nil, .v (.int .i64 0), .v (.int .i64 0), .v (.int .i64 0), .v (.string ⟨#[]⟩), .v (.string ⟨#[]⟩), .v (.int .i64 0), .v (.int .i64 0), .v (.int .u64 0), .v (.int .i64 0), .v (.string ⟨#[]⟩), .v (.string ⟨#[]⟩), .sl [] .nil, .v (.int .i64 0), .v (.int .i64 0), .v (.int .i64 0), .v (.int .i64 0), .v (.string ⟨#[]⟩), .v (.int .i64 0), .v (.int .i64 0), .v (.int .i64 0), .v (.string ⟨#[]⟩), .v (.string ⟨#[]⟩), .v (.int .i64 0), .v (.int .i64 0), .v (.int .u64 0), .v (.int .i64 0), .v (.string ⟨#[]⟩), .v (.string ⟨#[]⟩), .sl [] .nil, .v (.int .i64 0), .v (.int .i64 0), .v (.int .i64 0), .v (.int .i64 0), .v (.int .i64 0), .v (.int .i64 0), .v (.int .u64 0), .v (.int .i64 0), .v (.string ⟨#[]⟩), .v (.string ⟨#[]⟩), .sl [] .nil, .v (.int .i64 0), .v (.int .i64 0), .v (.int .i64 0), .sl [] .nil, .sl [] .nil, .sl [] .nil, .v (.int .i64 0), .v (.int .i64 0)] [(0, (PV.v (.int .i64 6))), (4, p6), (7, p8)]).bind fun p9 =>
(rBuildSlice 58 [.v (.int .i64 0), .v (.string ⟨#[]⟩), .v (.int .i64 0), .v (.int .i64 0), .v (.int .i64 0), .v (.int .u64 0), .v (.int .i64 0), .v (.string ⟨#[]⟩), .v (.string ⟨#[]⟩), .sl [] .nil, .v (.int .i64 0), .v (.int .i64 0), .v (.int .i64 0), .v (.string ⟨#[]⟩), .v (.string ⟨#[]⟩), .v (.int .i64 0), .v (.int .i64 0), .v (.int .u64 0), .v (.int .i64 0), .v (.string ⟨#[]⟩), .v (.string ⟨#[]⟩), .sl [] .nil, .v (.int .i64 0), .v (.int .i64 0), .v (.int .i64 0), .v (.int .i64 0), .v (.string ⟨#[]⟩), .v (.int .i64 0), .v (.int .i64 0), .v (.int .i64 0), .v (.string ⟨#[]⟩), .v (.string ⟨#[]⟩), .v (.int .i64 0), .v (.int .i64 0), .v (.int .u64 0), .v (.int .i64 0), .v (.string ⟨#[]⟩), .v (.string ⟨#[]⟩), .sl [] .nil, .v (.int .i64 0), .v (.int .i64 0), .v (.int .i64 0), .v (.int .i64 0), .v (.int .i64 0), .v (.int .i64 0), .v (.int .u64 0), .v (.int .i64 0), .v (.string ⟨#[]⟩), .v (.string ⟨#[]⟩), .sl [] .nil, .v (.int .i64 0), .v (.int .i64 0), .v (.int .i64 0), .sl [] .nil, .sl [] .nil, .sl [] .nil, .v (.int .i64 0), .v (.int .i64 0)] 1 [(0, p9)]).bind fun p10 =>
(rBuild [(0, 1), (1, 1), (2, 1)] [.sl [] .nil, .v (.int .i64 0), .v (.int .i64 0)] [(0, p5)]).bind fun p11 =>
(rBuildSlice 3 [.sl [] .nil, .v (.int .i64 0), .v (.int .i64 0)] 1 [(0, p11)]).bind fun p12 =>
(rBuild [(0, 1), (1, 1), (2, 1), (3, 1)] [.sl [] .nil, .sl [] .nil, .sl [] .nil, .sl [] .nil] [(3, p12)]).bind fun p13 =>
(call (.func 21) [canon p13] st).bind fun r14 =>
(aExtract r14.1 0).bind fun p15 =>
(aExtract r14.1 1).bind fun p16 =>
(aBin Try.prog true .eql 3 p15 (PV.v (.int .i64 2))).bind fun p17 =>
(onG p17 true (
some (p16, r14.2)) r14.2).bind fun r19 =>
(onG p17 true (
(aBin Try.prog true .eql 3 r19.1 (PV.v (.int .i64 1))).bind fun p22 =>
some (p22, r19.2)) r19.2).bind fun r21 =>
(aPick p17 r21.1 (PV.v (.bool false))).bind fun p23 =>
(onG p23 true (
some (p5, r21.2)) r21.2).bind fun r25 =>
(onG p23 true (
some (p10, r25.2)) r25.2).bind fun r27 =>
(onG p23 true (
(call (.func 10) [canon r25.1, canon r27.1] r27.2).bind fun r30 =>
some (r30.1, r30.2)) r27.2).bind fun r29 =>
(aPick p23 r29.1 (PV.v (.bool false))).bind fun p31 =>
(onG p31 true (
some (p5, r29.2)) r29.2).bind fun r33 =>
(onG p31 true (
(call (.func 10) [canon r33.1, canon (PV.sl [] .nil)] r33.2).bind fun r36 =>
some (r36.1, r36.2)) r33.2).bind fun r35 =>
(onG p31 true (
(aUn Try.prog .not r35.1).bind fun p39 =>
some (p39, r35.2)) r35.2).bind fun r38 =>
(aPick p31 r38.1 (PV.v (.bool false))).bind fun p40 =>
fin st.stk.length st.tk.length st.lp.length [p40] r38.2
theorem S7_eq (st : St) : E L (.func 7) [] st = S7 (E L) itE st := (E_func' (by rfl) Try.func7 _ _).trans (by kernel_rfl)
/-- (*padlock/padlockref04.Maker).pick -/
noncomputable def S22 (call : CallF) (it : LoopF) (a0 a1 : PV) (st : St) : Option (PV × St) :=
(aNilCheck a0).bind fun p1 =>
(shift p1 1).bind fun p2 =>
(aLoad false 1 p2 st).bind fun p3 =>
need (st = st) <|
(aNilCheck a0).bind fun p4 =>
(shift p4 0).bind fun p5 =>
(aLoad false 1 p5 st).bind fun p6 =>
need (st = st) <|
(aLen Try.prog 22 p6).bind fun p7 =>
(aBin Try.prog false .geq 3 p3 p7).bind fun p8 =>
onBool p8 fun b9 => (bif b9 then
some (Ex.ret, [a0, a1, (PV.v (.int .i64 0))], st)
else
some (Ex.normal, [a0, a1, (PV.v (.int .i64 0))], st)).bind fun r10 =>
seqK r10.1 ((aNilCheck (nth r10.2.1 0)).bind fun p12 =>
(shift p12 1).bind fun p13 =>
(aLoad false 1 p13 r10.2.2).bind fun p14 =>
(aBin Try.prog true .add 3 p14 (PV.v (.int .i64 1))).bind fun p15 =>
(aNilCheck (nth r10.2.1 0)).bind fun p16 =>
(shift p16 1).bind fun p17 =>
(aStore st.stk.length 1 p17 p15 r10.2.2).bind fun st18 =>
(aNilCheck (nth r10.2.1 0)).bind fun p19 =>
(shift p19 0).bind fun p20 =>
(aLoad false 1 p20 st18).bind fun p21 =>
need (st18 = st18) <|
(aNilCheck (nth r10.2.1 0)).bind fun p22 =>
(shift p22 1).bind fun p23 =>
(aLoad false 1 p23 st18).bind fun p24 =>
need (st18 = st18) <|
(aBin Try.prog true .sub 3 p24 (PV.v (.int .i64 1))).bind fun p25 =>
(aIndexAddr Try.prog 22 p21 p25).bind fun p26 =>
(aLoad false 1 p26 st18).bind fun p27 =>
need (st18 = st18) <|
(aConv Try.prog 3 59 p27).bind fun p28 =>
(aConv Try.prog 3 59 (nth r10.2.1 1)).bind fun p29 =>
(aBin Try.prog false .rem 59 p28 p29).bind fun p30 =>
(aConv Try.prog 59 3 p30).bind fun p31 =>
fin st.stk.length st.tk.length st.lp.length [p31] st18) fun x11 =>
retK x11 (fin st.stk.length st.tk.length st.lp.length [(nth r10.2.1 2)] r10.2.2)
theorem S22_eq (a0 a1 : PV) (st : St) : E L (.func 22) [a0, a1] st = S22 (E L) itE a0 a1 st := (E_func' (by rfl) Try.func22 _ _).trans (by kernel_rfl)
/-- (*padlock/padlockref04.Maker).name -/
noncomputable def S23 (call : CallF) (it : LoopF) (a0 : PV) (st : St) : Option (PV × St) :=
(rBuildSlice 1 [.v (.string ⟨#[]⟩)] 8 [(0, (PV.v (.string ⟨#[97]⟩))), (1, (PV.v (.string ⟨#[98]⟩))), (2, (PV.v (.string ⟨#[120]⟩))), (3, (PV.v (.string ⟨#[121]⟩))), (4, (PV.v (.string ⟨#[103]⟩))), (5, (PV.v (.string ⟨#[82]⟩))), (6, (PV.v (.string ⟨#[81]⟩))), (7, (PV.v (.string ⟨#[102]⟩)))]).bind fun p1 =>
(call (.func 22) [canon a0, canon (PV.v (.int .i64 8))] st).bind fun r2 =>
(aIndexAddr Try.prog 47 p1 r2.1).bind fun p3 =>
(aLoad false 1 p3 r2.2).bind fun p4 =>
fin st.stk.length st.tk.length st.lp.length [p4] r2.2
theorem S23_eq (a0 : PV) (st : St) : E L (.func 23) [a0] st = S23 (E L) itE a0 st := (E_func' (by rfl) Try.func23 _ _).trans (by kernel_rfl)
/-- (*padlock/padlockref04.Maker).kind -/
noncomputable def S43 (call : CallF) (it : LoopF) (a0 : PV) (st : St) : Option (PV × St) :=
let q2 : PV := .ptr false st.stk.length 0
let st1 := st.push [.v (.int .i64 0), .v (.string ⟨#[]⟩)]
(call (.func 22) [canon a0, canon (PV.v (.int .i64 4))] st1).bind fun r3 =>
(aBin Try.prog true .add 3 (PV.v (.int .i64 1)) r3.1).bind fun p4 =>
(aBin Try.prog true .eql 3 p4 (PV.v (.int .i64 4))).bind fun p5 =>
onBool p5 fun b6 => (bif b6 then
(call (.func 23) [canon a0] r3.2).bind fun r8 =>
(rBuild [(0, 1), (1, 1)] [.v (.int .i64 0), .v (.string ⟨#[]⟩)] [(0, p4), (1, r8.1)]).bind fun p9 =>
(aStore st.stk.length 2 q2 p9 r8.2).bind fun st10 =>
some (Ex.ret, [q2, p4], st10)
else
some (Ex.normal, [q2, p4], r3.2)).bind fun r7 =>
seqK r7.1 ((rBuild [(0, 1), (1, 1)] [.v (.int .i64 0), .v (.string ⟨#[]⟩)] [(0, (nth r7.2.1 1))]).bind fun p12 =>
(aStore st.stk.length 2 (nth r7.2.1 0) p12 r7.2.2).bind fun st13 =>
(aLoad true 2 (nth r7.2.1 0) st13).bind fun p14 =>
fin st.stk.length st.tk.length st.lp.length [p14] st13) fun x11 =>
retK x11 ((aLoad true 2 (nth r7.2.1 0) r7.2.2).bind fun p15 =>
fin st.stk.length st.tk.length st.lp.length [p15] r7.2.2)
theorem S43_eq (a0 : PV) (st : St) : E L (.func 43) [a0] st = S43 (E L) itE a0 st := (E_func' (by rfl) Try.func43 _ _).trans (by kernel_rfl)
noncomputable def S24.b0 (call : CallF) (it : LoopF) (base lb : Nat) (vs3 : List PV) (st4 : St) : Option (Ex × List PV × St) :=
(aBin Try.prog true .gtr 3 (nth vs3 2) (PV.v (.int .i64 0))).bind fun p5 =>
onBool p5 fun b6 => (bif b6 then
some (Ex.normal, [(nth vs3 0), (nth vs3 1), (nth vs3 2)], st4)
else
some ((Ex.exit 0), [(nth vs3 0), (nth vs3 1), (nth vs3 2)], st4)).bind fun r7 =>
seqK r7.1 ((call (.func 23) [canon (nth r7.2.1 0)] r7.2.2).bind fun r9 =>
(call (.func 43) [canon (nth r7.2.1 0)] r9.2).bind fun r10 =>
(rBuild [(0, 1), (1, 2), (3, 1), (4, 1)] [.v (.string ⟨#[]⟩), .v (.int .i64 0), .v (.string ⟨#[]⟩), .v (.int .i64 0), .v (.int .i64 0)] [(0, r9.1), (1, r10.1)]).bind fun p11 =>
(rBuildSlice 5 [.v (.string ⟨#[]⟩), .v (.int .i64 0), .v (.string ⟨#[]⟩), .v (.int .i64 0), .v (.int .i64 0)] 1 [(0, p11)]).bind fun p12 =>
(elemsOf r10.2 p12).bind fun ys13 =>
(rAppend base [.v (.string ⟨#[]⟩), .v (.int .i64 0), .v (.string ⟨#[]⟩), .v (.int .i64 0), .v (.int .i64 0)] 5 56 (nth r7.2.1 1) ys13 r10.2).bind fun r14 =>
(aBin Try.prog true .sub 3 (nth r7.2.1 2) (PV.v (.int .i64 1))).bind fun p15 =>
some (Ex.normal, [(nth r7.2.1 0), r14.1, p15], r14.2)) fun x8 =>
some (x8, [(nth r7.2.1 0), (nth r7.2.1 1), (nth r7.2.1 2)], r7.2.2)
/-- (*padlock/padlockref04.Maker).names -/
noncomputable def S24 (call : CallF) (it : LoopF) (a0 a1 : PV) (st : St) : Option (PV × St) :=
(call (.func 22) [canon a0, canon a1] st).bind fun r1 =>
(it (S24.b0 call it st.stk.length st.lp.length) [a0, (PV.sl [] .nil), r1.1] r1.2).bind fun r2 =>
seqK (Ex.outOf 0 r2.1) (fin st.stk.length st.tk.length st.lp.length [(nth r2.2.1 1)] r2.2.2) fun x16 =>
retK x16 (fin st.stk.length st.tk.length st.lp.length [PV.u] r2.2.2)
theorem S24_eq (a0 a1 : PV) (st : St) : E L (.func 24) [a0, a1] st = S24 (E L) itE a0 a1 st := (E_func' (by rfl) Try.func24 _ _).trans (by kernel_rfl)
/-- (*padlock/padlockref04.Maker).expr -/
noncomputable def S49 (call : CallF) (it : LoopF) (a0 a1 : PV) (st : St) : Option (PV × St) :=
let q2 : PV := .ptr false st.stk.length 0
let st1 := st.push [.v (.int .i64 0), .v (.int .i64 0), .v (.int .u64 0), .v (.int .i64 0), .v (.string ⟨#[]⟩), .v (.string ⟨#[]⟩), .sl [] .nil, .v (.int .i64 0), .v (.int .i64 0)]
(call (.func 22) [canon a0, canon (PV.v (.int .i64 9))] st1).bind fun r3 =>
(aBin Try.prog true .add 3 (PV.v (.int .i64 1)) r3.1).bind fun p4 =>
(aBin Try.prog true .eql 3 a1 (PV.v (.int .i64 0))).bind fun p5 =>
(onG p5 true (
some (p4, r3.2)) r3.2).bind fun r7 =>
(onG p5 true (
(aBin Try.prog true .gtr 3 r7.1 (PV.v (.int .i64 5))).bind fun p10 =>
some (p10, r7.2)) r7.2).bind fun r9 =>
(aPick p5 r9.1 (PV.v (.bool false))).bind fun p11 =>
onBool p11 fun b12 => (bif b12 then
some (Ex.normal, [a0, a1, q2, (PV.v (.int .i64 5))], r9.2)
else
some (Ex.normal, [a0, a1, q2, p4], r9.2)).bind fun r13 =>
seqK r13.1 ((aBin Try.prog true .eql 3 (nth r13.2.1 3) (PV.v (.int .i64 1))).bind fun p15 =>
onBool p15 fun b16 => (bif b16 then
(call (.func 22) [canon (nth r13.2.1 0), canon (PV.v (.int .i64 200))] r13.2.2).bind fun r18 =>
(aConv Try.prog 3 38 r18.1).bind fun p19 =>
(rBuild [(0, 1), (1, 1), (2, 1), (3, 2), (5, 1), (6, 1), (7, 1), (8, 1)] [.v (.int .i64 0), .v (.int .i64 0), .v (.int .u64 0), .v (.int .i64 0), .v (.string ⟨#[]⟩), .v (.string ⟨#[]⟩), .sl [] .nil, .v (.int .i64 0), .v (.int .i64 0)] [(0, (nth r13.2.1 3)), (2, p19)]).bind fun p20 =>
(aStore st.stk.length 9 (nth r13.2.1 2) p20 r18.2).bind fun st21 =>
some (Ex.ret, [(nth r13.2.1 0), (nth r13.2.1 1), (nth r13.2.1 2), (nth r13.2.1 3)], st21)
else
(aBin Try.prog true .eql 3 (nth r13.2.1 3) (PV.v (.int .i64 2))).bind fun p22 =>
onBool p22 fun b23 => (bif b23 then
(rBuildSlice 1 [.v (.int .u64 0)] 4 [(0, (PV.v (.int .u64 0))), (1, (PV.v (.int .u64 9223372036854775808))), (2, (PV.v (.int .u64 9221120237041090560))), (3, (PV.v (.int .u64 4607182418800017408)))]).bind fun p25 =>
(call (.func 22) [canon (nth r13.2.1 0), canon (PV.v (.int .i64 4))] r13.2.2).bind fun r26 =>
(aIndexAddr Try.prog 107 p25 r26.1).bind fun p27 =>
(aLoad false 1 p27 r26.2).bind fun p28 =>
(rBuild [(0, 1), (1, 1), (2, 1), (3, 2), (5, 1), (6, 1), (7, 1), (8, 1)] [.v (.int .i64 0), .v (.int .i64 0), .v (.int .u64 0), .v (.int .i64 0), .v (.string ⟨#[]⟩), .v (.string ⟨#[]⟩), .sl [] .nil, .v (.int .i64 0), .v (.int .i64 0)] [(0, (nth r13.2.1 3)), (2, p28)]).bind fun p29 =>
(aStore st.stk.length 9 (nth r13.2.1 2) p29 r26.2).bind fun st30 =>
some (Ex.ret, [(nth r13.2.1 0), (nth r13.2.1 1), (nth r13.2.1 2), (nth r13.2.1 3)], st30)
else
(aBin Try.prog true .eql 3 (nth r13.2.1 3) (PV.v (.int .i64 3))).bind fun p31 =>
onBool p31 fun b32 => (bif b32 then
(call (.func 22) [canon (nth r13.2.1 0), canon (PV.v (.int .i64 4))] r13.2.2).bind fun r34 =>
(aBin Try.prog true .eql 3 r34.1 (PV.v (.int .i64 0))).bind fun p35 =>
onBool p35 fun b36 => (bif b36 then
(rBuild [(0, 1), (1, 1)] [.v (.int .i64 0), .v (.string ⟨#[]⟩)] [(0, (PV.v (.int .i64 3)))]).bind fun p38 =>
(rBuild [(0, 1), (1, 1), (2, 1), (3, 2), (5, 1), (6, 1), (7, 1), (8, 1)] [.v (.int .i64 0), .v (.int .i64 0), .v (.int .u64 0), .v (.int .i64 0), .v (.string ⟨#[]⟩), .v (.string ⟨#[]⟩), .sl [] .nil, .v (.int .i64 0), .v (.int .i64 0)] [(0, (nth r13.2.1 3)), (3, p38)]).bind fun p39 =>
(aStore st.stk.length 9 (nth r13.2.1 2) p39 r34.2).bind fun st40 =>
some (Ex.ret, [(nth r13.2.1 0), (nth r13.2.1 1), (nth r13.2.1 2), (nth r13.2.1 3)], st40)
else
some (Ex.normal, [(nth r13.2.1 0), (nth r13.2.1 1), (nth r13.2.1 2), (nth r13.2.1 3)], r34.2)).bind fun r37 =>
seqK r37.1 ((call (.func 23) [canon (nth r37.2.1 0)] r37.2.2).bind fun r42 =>
(rBuild [(0, 1), (1, 1)] [.v (.int .i64 0), .v (.string ⟨#[]⟩)] [(0, (PV.v (.int .i64 4))), (1, r42.1)]).bind fun p43 =>
(rBuild [(0, 1), (1, 1), (2, 1), (3, 2), (5, 1), (6, 1), (7, 1), (8, 1)] [.v (.int .i64 0), .v (.int .i64 0), .v (.int .u64 0), .v (.int .i64 0), .v (.string ⟨#[]⟩), .v (.string ⟨#[]⟩), .sl [] .nil, .v (.int .i64 0), .v (.int .i64 0)] [(0, (nth r37.2.1 3)), (3, p43)]).bind fun p44 =>
(aStore st.stk.length 9 (nth r37.2.1 2) p44 r42.2).bind fun st45 =>
some (Ex.ret, [(nth r37.2.1 0), (nth r37.2.1 1), (nth r37.2.1 2), (nth r37.2.1 3)], st45)) fun x41 =>
some (x41, [(nth r37.2.1 0), (nth r37.2.1 1), (nth r37.2.1 2), (nth r37.2.1 3)], r37.2.2)
else
(aBin Try.prog true .eql 3 (nth r13.2.1 3) (PV.v (.int .i64 4))).bind fun p46 =>
onBool p46 fun b47 => (bif b47 then
(call (.func 22) [canon (nth r13.2.1 0), canon (PV.v (.int .i64 16))] r13.2.2).bind fun r49 =>
(aConv Try.prog 3 38 r49.1).bind fun p50 =>
(rBuild [(0, 1), (1, 1), (2, 1), (3, 2), (5, 1), (6, 1), (7, 1), (8, 1)] [.v (.int .i64 0), .v (.int .i64 0), .v (.int .u64 0), .v (.int .i64 0), .v (.string ⟨#[]⟩), .v (.string ⟨#[]⟩), .sl [] .nil, .v (.int .i64 0), .v (.int .i64 0)] [(0, (nth r13.2.1 3)), (2, p50)]).bind fun p51 =>
(aStore st.stk.length 9 (nth r13.2.1 2) p51 r49.2).bind fun st52 =>
some (Ex.ret, [(nth r13.2.1 0), (nth r13.2.1 1), (nth r13.2.1 2), (nth r13.2.1 3)], st52)
else
(aBin Try.prog true .eql 3 (nth r13.2.1 3) (PV.v (.int .i64 5))).bind fun p53 =>
onBool p53 fun b54 => (bif b54 then
(call (.func 23) [canon (nth r13.2.1 0)] r13.2.2).bind fun r56 =>
(rBuild [(0, 1), (1, 1), (2, 1), (3, 2), (5, 1), (6, 1), (7, 1), (8, 1)] [.v (.int .i64 0), .v (.int .i64 0), .v (.int .u64 0), .v (.int .i64 0), .v (.string ⟨#[]⟩), .v (.string ⟨#[]⟩), .sl [] .nil, .v (.int .i64 0), .v (.int .i64 0)] [(0, (nth r13.2.1 3)), (4, r56.1)]).bind fun p57 =>
(aStore st.stk.length 9 (nth r13.2.1 2) p57 r56.2).bind fun st58 =>
some (Ex.ret, [(nth r13.2.1 0), (nth r13.2.1 1), (nth r13.2.1 2), (nth r13.2.1 3)], st58)
else
(aBin Try.prog true .eql 3 (nth r13.2.1 3) (PV.v (.int .i64 9))).bind fun p59 =>
onBool p59 fun b60 => (bif b60 then
(call (.func 22) [canon (nth r13.2.1 0), canon (PV.v (.int .i64 9))] r13.2.2).bind fun r62 =>
(aBin Try.prog true .sub 3 (nth r13.2.1 1) (PV.v (.int .i64 1))).bind fun p63 =>
(call (.func 49) [canon (nth r13.2.1 0), canon p63] r62.2).bind fun r64 =>
(aBin Try.prog true .sub 3 (nth r13.2.1 1) (PV.v (.int .i64 1))).bind fun p65 =>
(call (.func 49) [canon (nth r13.2.1 0), canon p65] r64.2).bind fun r66 =>
(rBuildSlice 9 [.v (.int .i64 0), .v (.int .i64 0), .v (.int .u64 0), .v (.int .i64 0), .v (.string ⟨#[]⟩), .v (.string ⟨#[]⟩), .sl [] .nil, .v (.int .i64 0), .v (.int .i64 0)] 2 [(0, r64.1), (1, r66.1)]).bind fun p67 =>
(rBuild [(0, 1), (1, 1), (2, 1), (3, 2), (5, 1), (6, 1), (7, 1), (8, 1)] [.v (.int .i64 0), .v (.int .i64 0), .v (.int .u64 0), .v (.int .i64 0), .v (.string ⟨#[]⟩), .v (.string ⟨#[]⟩), .sl [] .nil, .v (.int .i64 0), .v (.int .i64 0)] [(0, (nth r13.2.1 3)), (1, r62.1), (5, p67)]).bind fun p68 =>
(aStore st.stk.length 9 (nth r13.2.1 2) p68 r66.2).bind fun st69 =>
some (Ex.ret, [(nth r13.2.1 0), (nth r13.2.1 1), (nth r13.2.1 2), (nth r13.2.1 3)], st69)
else
some (Ex.normal, [(nth r13.2.1 0), (nth r13.2.1 1), (nth r13.2.1 2), (nth r13.2.1 3)], r13.2.2)).bind fun r61 =>
some (r61.1, [(nth r61.2.1 0), (nth r61.2.1 1), (nth r61.2.1 2), (nth r61.2.1 3)], r61.2.2)).bind fun r55 =>
some (r55.1, [(nth r55.2.1 0), (nth r55.2.1 1), (nth r55.2.1 2), (nth r55.2.1 3)], r55.2.2)).bind fun r48 =>
some (r48.1, [(nth r48.2.1 0), (nth r48.2.1 1), (nth r48.2.1 2), (nth r48.2.1 3)], r48.2.2)).bind fun r33 =>
some (r33.1, [(nth r33.2.1 0), (nth r33.2.1 1), (nth r33.2.1 2), (nth r33.2.1 3)], r33.2.2)).bind fun r24 =>
some (r24.1, [(nth r24.2.1 0), (nth r24.2.1 1), (nth r24.2.1 2), (nth r24.2.1 3)], r24.2.2)).bind fun r17 =>
seqK (Ex.outOf 0 r17.1) ((aBin Try.prog true .sub 3 (nth r17.2.1 1) (PV.v (.int .i64 1))).bind fun p71 =>
(call (.func 49) [canon (nth r17.2.1 0), canon p71] r17.2.2).bind fun r72 =>
(rBuildSlice 9 [.v (.int .i64 0), .v (.int .i64 0), .v (.int .u64 0), .v (.int .i64 0), .v (.string ⟨#[]⟩), .v (.string ⟨#[]⟩), .sl [] .nil, .v (.int .i64 0), .v (.int .i64 0)] 1 [(0, r72.1)]).bind fun p73 =>
(rBuild [(0, 1), (1, 1), (2, 1), (3, 2), (5, 1), (6, 1), (7, 1), (8, 1)] [.v (.int .i64 0), .v (.int .i64 0), .v (.int .u64 0), .v (.int .i64 0), .v (.string ⟨#[]⟩), .v (.string ⟨#[]⟩), .sl [] .nil, .v (.int .i64 0), .v (.int .i64 0)] [(0, (nth r17.2.1 3)), (5, p73)]).bind fun p74 =>
(aStore st.stk.length 9 (nth r17.2.1 2) p74 r72.2).bind fun st75 =>
(aLoad true 9 (nth r17.2.1 2) st75).bind fun p76 =>
fin st.stk.length st.tk.length st.lp.length [p76] st75) fun x70 =>
retK x70 ((aLoad true 9 (nth r17.2.1 2) r17.2.2).bind fun p77 =>
fin st.stk.length st.tk.length st.lp.length [p77] r17.2.2)) fun x14 =>
retK x14 ((aLoad true 9 (nth r13.2.1 2) r13.2.2).bind fun p78 =>
fin st.stk.length st.tk.length st.lp.length [p78] r13.2.2)
theorem S49_eq (a0 a1 : PV) (st : St) : E L (.func 49) [a0, a1] st = S49 (E L) itE a0 a1 st := (E_func' (by rfl) Try.func49 _ _).trans (by kernel_rfl)
/-- (*padlock/padlockref04.Maker).place -/
noncomputable def S48 (call : CallF) (it : LoopF) (a0 : PV) (st : St) : Option (PV × St) :=
let q2 : PV := .ptr false st.stk.length 0
let st1 := st.push [.v (.int .i64 0), .v (.string ⟨#[]⟩), .v (.string ⟨#[]⟩), .v (.int .i64 0), .v (.int .i64 0), .v (.int .u64 0), .v (.int .i64 0), .v (.string ⟨#[]⟩), .v (.string ⟨#[]⟩), .sl [] .nil, .v (.int .i64 0), .v (.int .i64 0), .v (.int .i64 0), .v (.int .i64 0)]
(call (.func 22) [canon a0, canon (PV.v (.int .i64 3))] st1).bind fun r3 =>
(aBin Try.prog true .eql 3 r3.1 (PV.v (.int .i64 0))).bind fun p4 =>
onBool p4 fun b5 => (bif b5 then
(call (.func 23) [canon a0] r3.2).bind fun r7 =>
(rBuild [(0, 1), (1, 1), (2, 1), (3, 9), (12, 1), (13, 1)] [.v (.int .i64 0), .v (.string ⟨#[]⟩), .v (.string ⟨#[]⟩), .v (.int .i64 0), .v (.int .i64 0), .v (.int .u64 0), .v (.int .i64 0), .v (.string ⟨#[]⟩), .v (.string ⟨#[]⟩), .sl [] .nil, .v (.int .i64 0), .v (.int .i64 0), .v (.int .i64 0), .v (.int .i64 0)] [(0, (PV.v (.int .i64 1))), (1, r7.1)]).bind fun p8 =>
(aStore st.stk.length 14 q2 p8 r7.2).bind fun st9 =>
some (Ex.ret, [a0, q2], st9)
else
(aBin Try.prog true .eql 3 r3.1 (PV.v (.int .i64 1))).bind fun p10 =>
onBool p10 fun b11 => (bif b11 then
(call (.func 23) [canon a0] r3.2).bind fun r13 =>
(call (.func 23) [canon a0] r13.2).bind fun r14 =>
(rBuild [(0, 1), (1, 1), (2, 1), (3, 9), (12, 1), (13, 1)] [.v (.int .i64 0), .v (.string ⟨#[]⟩), .v (.string ⟨#[]⟩), .v (.int .i64 0), .v (.int .i64 0), .v (.int .u64 0), .v (.int .i64 0), .v (.string ⟨#[]⟩), .v (.string ⟨#[]⟩), .sl [] .nil, .v (.int .i64 0), .v (.int .i64 0), .v (.int .i64 0), .v (.int .i64 0)] [(0, (PV.v (.int .i64 2))), (1, r13.1), (2, r14.1)]).bind fun p15 =>
(aStore st.stk.length 14 q2 p15 r14.2).bind fun st16 =>
some (Ex.ret, [a0, q2], st16)
else
some (Ex.normal, [a0, q2], r3.2)).bind fun r12 =>
some (r12.1, [(nth r12.2.1 0), (nth r12.2.1 1)], r12.2.2)).bind fun r6 =>
seqK (Ex.outOf 0 r6.1) ((call (.func 23) [canon (nth r6.2.1 0)] r6.2.2).bind fun r18 =>
(call (.func 49) [canon (nth r6.2.1 0), canon (PV.v (.int .i64 2))] r18.2).bind fun r19 =>
(rBuild [(0, 1), (1, 1), (2, 1), (3, 9), (12, 1), (13, 1)] [.v (.int .i64 0), .v (.string ⟨#[]⟩), .v (.string ⟨#[]⟩), .v (.int .i64 0), .v (.int .i64 0), .v (.int .u64 0), .v (.int .i64 0), .v (.string ⟨#[]⟩), .v (.string ⟨#[]⟩), .sl [] .nil, .v (.int .i64 0), .v (.int .i64 0), .v (.int .i64 0), .v (.int .i64 0)] [(0, (PV.v (.int .i64 3))), (1, r18.1), (3, r19.1)]).bind fun p20 =>
(aStore st.stk.length 14 (nth r6.2.1 1) p20 r19.2).bind fun st21 =>
(aLoad true 14 (nth r6.2.1 1) st21).bind fun p22 =>
fin st.stk.length st.tk.length st.lp.length [p22] st21) fun x17 =>
retK x17 ((aLoad true 14 (nth r6.2.1 1) r6.2.2).bind fun p23 =>
fin st.stk.length st.tk.length st.lp.length [p23] r6.2.2)
theorem S48_eq (a0 : PV) (st : St) : E L (.func 48) [a0] st = S48 (E L) itE a0 st := (E_func' (by rfl) Try.func48 _ _).trans (by kernel_rfl)
end Go.Proofs.Ytkbhejcfejembaa.S
