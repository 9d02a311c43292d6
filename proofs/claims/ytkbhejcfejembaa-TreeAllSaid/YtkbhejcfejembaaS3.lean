/- The seat's functions, each as a Lean function over plain values, and that the evaluator comes to it: written by my program mkS.py. No condition. -/
import Derived.Test.YtkbhejcfejembaaS0
import Derived.KernelRfl
set_option linter.all false
namespace Go.Proofs.Ytkbhejcfejembaa.S
open Go Go.AM Go.Proofs
set_option linter.unusedVariables false
noncomputable def S9.lp0 (vs : List PV) : Lp := ⟨[3, 4, 5, 6, 7, 8], vs, 59, ⟨[], []⟩, [18, 19], (Try.f9.body.getD .skip).r.r.r.l.r.l.l, (Try.f9.body.getD .skip).r.r.r.l.r.l.r, (.seq .nil (.blk (.seq (.seq .nil (.cnd [4, 5, 6, 7, 8, 9, 10] .nil .nil)) (.seq (.seq .nil (.cnd [8] .nil .nil)) .nil)))), 0, .normal⟩
noncomputable def S9.r0 (call : CallF) (it : LoopF) (i : Nat) (vs : List PV) (p0_ p1_ : PV) (st : St) : Option (PV × St) :=
let q27 : PV := .ptr false st.stk.length 0
let st26 := st.push [.v (.int .i64 0), .v (.string ⟨#[]⟩), .v (.int .i64 0), .v (.int .i64 0), .v (.int .i64 0), .v (.int .u64 0), .v (.int .i64 0), .v (.string ⟨#[]⟩), .v (.string ⟨#[]⟩), .sl [] .nil, .v (.int .i64 0), .v (.int .i64 0), .v (.int .i64 0), .v (.string ⟨#[]⟩), .v (.string ⟨#[]⟩), .v (.int .i64 0), .v (.int .i64 0), .v (.int .u64 0), .v (.int .i64 0), .v (.string ⟨#[]⟩), .v (.string ⟨#[]⟩), .sl [] .nil, .v (.int .i64 0), .v (.int .i64 0), .v (.int .i64 0), .v (.int .i64 0), .v (.string ⟨#[]⟩), .v (.int .i64 0), .v (.int .i64 0), .v (.int .i64 0), .v (.string ⟨#[]⟩), .v (.string ⟨#[]⟩), .v (.int .i64 0), .v (.int .i64 0), .v (.int .u64 0), .v (.int .i64 0), .v (.string ⟨#[]⟩), .v (.string ⟨#[]⟩), .sl [] .nil, .v (.int .i64 0), .v (.int .i64 0), .v (.int .i64 0), .v (.int .i64 0), .v (.int .i64 0), .v (.int .i64 0), .v (.int .u64 0), .v (.int .i64 0), .v (.string ⟨#[]⟩), .v (.string ⟨#[]⟩), .sl [] .nil, .v (.int .i64 0), .v (.int .i64 0), .v (.int .i64 0), .sl [] .nil, .sl [] .nil, .sl [] .nil, .v (.int .i64 0), .v (.int .i64 0)]
(aStore st.stk.length 58 q27 p1_ st26).bind fun st28 =>
beginR i st28 fun st29 =>
(aLoad false 1 (nth vs 5) st29).bind fun p30 =>
(aLoad false 1 (nth vs 0) st29).bind fun p31 =>
(aBin Try.prog false .geq 3 p30 p31).bind fun p32 =>
onBool p32 fun b33 => (bif b33 then
some ((Ex.exit 0), [(nth vs 1), (nth vs 2), (nth vs 3), (nth vs 4), (nth vs 5), p0_, q27], st29)
else
some (Ex.normal, [(nth vs 1), (nth vs 2), (nth vs 3), (nth vs 4), (nth vs 5), p0_, q27], st29)).bind fun r34 =>
seqK r34.1 ((aLoad false 1 (nth r34.2.1 4) r34.2.2).bind fun p36 =>
need (r34.2.2 = r34.2.2) <|
(aLoad false 1 (nth r34.2.1 2) r34.2.2).bind fun p37 =>
need (r34.2.2 = r34.2.2) <|
(aLen Try.prog 31 p37).bind fun p38 =>
(aBin Try.prog false .geq 3 p36 p38).bind fun p39 =>
(onG p39 false (
some ((nth r34.2.1 5), r34.2.2)) r34.2.2).bind fun r41 =>
(onG p39 false (
(aLoad false 1 (nth r34.2.1 3) r34.2.2).bind fun p44 =>
some (p44, r34.2.2)) r34.2.2).bind fun r43 =>
need (r43.2 = r34.2.2) <|
(onG p39 false (
(aLoad false 1 (nth r34.2.1 4) r34.2.2).bind fun p47 =>
some (p47, r34.2.2)) r34.2.2).bind fun r46 =>
need (r46.2 = r34.2.2) <|
(onG p39 false (
(aIndexAddr Try.prog 22 r43.1 r46.1).bind fun p50 =>
some (p50, r34.2.2)) r34.2.2).bind fun r49 =>
(onG p39 false (
(aLoad false 1 r49.1 r34.2.2).bind fun p53 =>
some (p53, r34.2.2)) r34.2.2).bind fun r52 =>
need (r52.2 = r34.2.2) <|
(onG p39 false (
(aBin Try.prog false .neq 3 r41.1 r52.1).bind fun p56 =>
some (p56, r34.2.2)) r34.2.2).bind fun r55 =>
(aPick p39 (PV.v (.bool true)) r55.1).bind fun p57 =>
(onG p57 false (
(aLoad true 58 (nth r34.2.1 6) r34.2.2).bind fun p60 =>
some (p60, r34.2.2)) r34.2.2).bind fun r59 =>
need (r59.2 = r34.2.2) <|
(onG p57 false (
(rBuildSlice 58 [.v (.int .i64 0), .v (.string ⟨#[]⟩), .v (.int .i64 0), .v (.int .i64 0), .v (.int .i64 0), .v (.int .u64 0), .v (.int .i64 0), .v (.string ⟨#[]⟩), .v (.string ⟨#[]⟩), .sl [] .nil, .v (.int .i64 0), .v (.int .i64 0), .v (.int .i64 0), .v (.string ⟨#[]⟩), .v (.string ⟨#[]⟩), .v (.int .i64 0), .v (.int .i64 0), .v (.int .u64 0), .v (.int .i64 0), .v (.string ⟨#[]⟩), .v (.string ⟨#[]⟩), .sl [] .nil, .v (.int .i64 0), .v (.int .i64 0), .v (.int .i64 0), .v (.int .i64 0), .v (.string ⟨#[]⟩), .v (.int .i64 0), .v (.int .i64 0), .v (.int .i64 0), .v (.string ⟨#[]⟩), .v (.string ⟨#[]⟩), .v (.int .i64 0), .v (.int .i64 0), .v (.int .u64 0), .v (.int .i64 0), .v (.string ⟨#[]⟩), .v (.string ⟨#[]⟩), .sl [] .nil, .v (.int .i64 0), .v (.int .i64 0), .v (.int .i64 0), .v (.int .i64 0), .v (.int .i64 0), .v (.int .i64 0), .v (.int .u64 0), .v (.int .i64 0), .v (.string ⟨#[]⟩), .v (.string ⟨#[]⟩), .sl [] .nil, .v (.int .i64 0), .v (.int .i64 0), .v (.int .i64 0), .sl [] .nil, .sl [] .nil, .sl [] .nil, .v (.int .i64 0), .v (.int .i64 0)] 1 [(0, r59.1)]).bind fun p63 =>
some (p63, r34.2.2)) r34.2.2).bind fun r62 =>
(onG p57 false (
(call (.func 15) [canon r62.1] r34.2.2).bind fun r66 =>
some (r66.1, r66.2)) r34.2.2).bind fun r65 =>
need (r65.2 = r34.2.2) <|
(onG p57 false (
(aLoad false 1 (nth r34.2.1 2) r34.2.2).bind fun p69 =>
some (p69, r34.2.2)) r34.2.2).bind fun r68 =>
need (r68.2 = r34.2.2) <|
(onG p57 false (
(aLoad false 1 (nth r34.2.1 4) r34.2.2).bind fun p72 =>
some (p72, r34.2.2)) r34.2.2).bind fun r71 =>
need (r71.2 = r34.2.2) <|
(onG p57 false (
(aIndexAddr Try.prog 31 r68.1 r71.1).bind fun p75 =>
some (p75, r34.2.2)) r34.2.2).bind fun r74 =>
(onG p57 false (
(aLoad true 58 r74.1 r34.2.2).bind fun p78 =>
some (p78, r34.2.2)) r34.2.2).bind fun r77 =>
need (r77.2 = r34.2.2) <|
(onG p57 false (
(rBuildSlice 58 [.v (.int .i64 0), .v (.string ⟨#[]⟩), .v (.int .i64 0), .v (.int .i64 0), .v (.int .i64 0), .v (.int .u64 0), .v (.int .i64 0), .v (.string ⟨#[]⟩), .v (.string ⟨#[]⟩), .sl [] .nil, .v (.int .i64 0), .v (.int .i64 0), .v (.int .i64 0), .v (.string ⟨#[]⟩), .v (.string ⟨#[]⟩), .v (.int .i64 0), .v (.int .i64 0), .v (.int .u64 0), .v (.int .i64 0), .v (.string ⟨#[]⟩), .v (.string ⟨#[]⟩), .sl [] .nil, .v (.int .i64 0), .v (.int .i64 0), .v (.int .i64 0), .v (.int .i64 0), .v (.string ⟨#[]⟩), .v (.int .i64 0), .v (.int .i64 0), .v (.int .i64 0), .v (.string ⟨#[]⟩), .v (.string ⟨#[]⟩), .v (.int .i64 0), .v (.int .i64 0), .v (.int .u64 0), .v (.int .i64 0), .v (.string ⟨#[]⟩), .v (.string ⟨#[]⟩), .sl [] .nil, .v (.int .i64 0), .v (.int .i64 0), .v (.int .i64 0), .v (.int .i64 0), .v (.int .i64 0), .v (.int .i64 0), .v (.int .u64 0), .v (.int .i64 0), .v (.string ⟨#[]⟩), .v (.string ⟨#[]⟩), .sl [] .nil, .v (.int .i64 0), .v (.int .i64 0), .v (.int .i64 0), .sl [] .nil, .sl [] .nil, .sl [] .nil, .v (.int .i64 0), .v (.int .i64 0)] 1 [(0, r77.1)]).bind fun p81 =>
some (p81, r34.2.2)) r34.2.2).bind fun r80 =>
(onG p57 false (
(call (.func 15) [canon r80.1] r34.2.2).bind fun r84 =>
some (r84.1, r84.2)) r34.2.2).bind fun r83 =>
need (r83.2 = r34.2.2) <|
(onG p57 false (
(call (.func 13) [canon r65.1, canon r83.1] r34.2.2).bind fun r87 =>
some (r87.1, r87.2)) r34.2.2).bind fun r86 =>
need (r86.2 = r34.2.2) <|
(onG p57 false (
(aUn Try.prog .not r86.1).bind fun p90 =>
some (p90, r34.2.2)) r34.2.2).bind fun r89 =>
(aPick p57 (PV.v (.bool true)) r89.1).bind fun p91 =>
onBool p91 fun b92 => (bif b92 then
(aLoad false 1 (nth r34.2.1 4) r34.2.2).bind fun p94 =>
(aStore st.stk.length 1 (nth r34.2.1 0) p94 r34.2.2).bind fun st95 =>
(aStore st.stk.length 1 (nth r34.2.1 1) (PV.v (.bool false)) st95).bind fun st96 =>
some (Ex.ret, [(nth r34.2.1 4)], st96)
else
some (Ex.normal, [(nth r34.2.1 4)], r34.2.2)).bind fun r93 =>
seqK r93.1 ((aLoad false 1 (nth r93.2.1 0) r93.2.2).bind fun p98 =>
(aBin Try.prog true .add 3 p98 (PV.v (.int .i64 1))).bind fun p99 =>
(aStore st.stk.length 1 (nth r93.2.1 0) p99 r93.2.2).bind fun st100 =>
finR st.stk.length st.tk.length st.lp.length i Ex.normal st100) fun x97 =>
finR st.stk.length st.tk.length st.lp.length i (Ex.outOf 1 x97) r93.2.2) fun x35 =>
finR st.stk.length st.tk.length st.lp.length i (Ex.outOf 1 x35) r34.2.2
/-- padlock/padlocklaw04.gone -/
noncomputable def S9 (call : CallF) (it : LoopF) (a0 a1 : PV) (st : St) : Option (PV × St) :=
(cellsOf a1).bind fun b1 =>
let q3 : PV := .ptr false st.stk.length 0
let st2 := st.push b1
let q5 : PV := .ptr false st2.stk.length 0
let st4 := st2.push [.v (.int .i64 0)]
let q7 : PV := .ptr false st4.stk.length 0
let st6 := st4.push [.v (.bool false)]
(call (.func 19) [canon a0, canon (PV.v (.int .i64 0))] st6).bind fun r8 =>
(aExtract r8.1 0).bind fun p9 =>
(aExtract r8.1 1).bind fun p10 =>
let q12 : PV := .ptr false r8.2.stk.length 0
let st11 := r8.2.push [.sl [] .nil]
let q14 : PV := .ptr false st11.stk.length 0
let st13 := st11.push [.sl [] .nil]
(aStore st.stk.length 1 q12 p9 st13).bind fun st15 =>
(aStore st.stk.length 1 q14 p10 st15).bind fun st16 =>
let q18 : PV := .ptr false st16.stk.length 0
let st17 := st16.push [.v (.int .i64 0)]
(aStore st.stk.length 1 q18 (PV.v (.int .i64 0)) st17).bind fun st19 =>
(call (.func 26) [canon a0] st19).bind fun r20 =>
onFn r20.1 fun g21 caps22 => bif true && plainFn g21 then
(call g21 (.clo (.yield r20.2.lp.length) [] :: caps22) { r20.2 with lp := r20.2.lp ++ [.loop (S9.lp0 [q3, q5, q7, q12, q14, q18])] }).bind fun r23 =>
endLp r23.2 r20.2.stk.length r20.2.tk.length r20.2.lp.length fun x24 st25 =>
seqK (Ex.outOf 0 x24) ((aLoad false 1 q18 st25).bind fun p102 =>
need (st25 = st25) <|
(aLoad false 1 q18 st25).bind fun p103 =>
need (st25 = st25) <|
(aLoad false 1 q3 st25).bind fun p104 =>
need (st25 = st25) <|
(aMax2 Try.prog p104 (PV.v (.int .i64 0))).bind fun p105 =>
(aLoad false 1 q12 st25).bind fun p106 =>
need (st25 = st25) <|
(aLen Try.prog 31 p106).bind fun p107 =>
(aMin2 Try.prog p105 p107).bind fun p108 =>
(aBin Try.prog false .eql 3 p103 p108).bind fun p109 =>
(aStore st.stk.length 1 q5 p102 st25).bind fun st110 =>
need (((aLoad false 1 q12 st110).bind fun p111 =>
some (p111, st110)) = some (p106, st110)) <|
need (((aLoad false 1 q3 st110).bind fun p112 =>
some (p112, st110)) = some (p104, st110)) <|
need (((aLoad false 1 q18 st110).bind fun p113 =>
some (p113, st110)) = some (p103, st110)) <|
(aStore st.stk.length 1 q7 p109 st110).bind fun st114 =>
(aLoad false 1 q5 st114).bind fun p115 =>
(aLoad false 1 q7 st114).bind fun p116 =>
fin st.stk.length st.tk.length st.lp.length [p115, p116] st114) fun x101 =>
retK x101 ((aLoad false 1 q5 st25).bind fun p117 =>
(aLoad false 1 q7 st25).bind fun p118 =>
fin st.stk.length st.tk.length st.lp.length [p117, p118] st25)
else none
theorem S9_eq (a0 a1 : PV) (st : St) : E L (.func 9) [a0, a1] st = S9 (E L) itE a0 a1 st := (E_func' (by rfl) Try.func9 _ _).trans (by kernel_rfl)
theorem S9.r0_eq {i : Nat} {vs : List PV} {st : St} (h : st.loop i = some (S9.lp0 vs)) (p0_ p1_ : PV) : E L (.yield i) [p0_, p1_] st = S9.r0 (E L) itE i vs p0_ p1_ st := (E_yield h _).trans (by kernel_rfl)
/-- padlock/padlocklaw04.TreeRows -/
noncomputable def S3 (call : CallF) (it : LoopF) (a0 a1 : PV) (st : St) : Option (PV × St) :=
(call (.func 7) [] st).bind fun r1 =>
(aUn Try.prog .not r1.1).bind fun p2 =>
onBool p2 fun b3 => (bif b3 then
some (Ex.ret, [a0, a1, (PV.v (.bool false))], r1.2)
else
some (Ex.normal, [a0, a1, (PV.v (.bool false))], r1.2)).bind fun r4 =>
seqK r4.1 ((aLen Try.prog 22 (nth r4.2.1 0)).bind fun p6 =>
(aBin Try.prog true .gtr 3 p6 (PV.v (.int .i64 400))).bind fun p7 =>
(onG p7 false (
some ((nth r4.2.1 1), r4.2.2)) r4.2.2).bind fun r9 =>
(onG p7 false (
(aLen Try.prog 22 r9.1).bind fun p12 =>
some (p12, r9.2)) r9.2).bind fun r11 =>
(onG p7 false (
(aBin Try.prog true .gtr 3 r11.1 (PV.v (.int .i64 400))).bind fun p15 =>
some (p15, r11.2)) r11.2).bind fun r14 =>
(aPick p7 (PV.v (.bool true)) r14.1).bind fun p16 =>
onBool p16 fun b17 => (bif b17 then
some (Ex.ret, [(nth r4.2.1 0), (nth r4.2.1 1), (PV.v (.bool true))], r14.2)
else
some (Ex.normal, [(nth r4.2.1 0), (nth r4.2.1 1), (nth r4.2.1 2)], r14.2)).bind fun r18 =>
seqK r18.1 ((call (.func 8) [canon (nth r18.2.1 0)] r18.2.2).bind fun r20 =>
(call (.func 8) [canon (nth r18.2.1 1)] r20.2).bind fun r21 =>
let q23 : PV := .ptr false r21.2.stk.length 0
let st22 := r21.2.push [.sl [] .nil, .sl [] .nil, .sl [] .nil, .sl [] .nil]
let q25 : PV := .ptr false st22.stk.length 0
let st24 := st22.push [.sl [] .nil, .sl [] .nil, .sl [] .nil, .sl [] .nil]
(aStore st.stk.length 4 q23 r20.1 st24).bind fun st26 =>
(aStore st.stk.length 4 q25 r21.1 st26).bind fun st27 =>
(shift q23 3).bind fun p28 =>
(aLoad false 1 p28 st27).bind fun p29 =>
(aLen Try.prog 27 p29).bind fun p30 =>
(aBin Try.prog true .eql 3 p30 (PV.v (.int .i64 0))).bind fun p31 =>
(onG p31 false (
(shift q25 3).bind fun p34 =>
some (p34, st27)) st27).bind fun r33 =>
(onG p31 false (
(aLoad false 1 r33.1 r33.2).bind fun p37 =>
some (p37, r33.2)) r33.2).bind fun r36 =>
(onG p31 false (
(aLen Try.prog 27 r36.1).bind fun p40 =>
some (p40, r36.2)) r36.2).bind fun r39 =>
(onG p31 false (
(aBin Try.prog true .eql 3 r39.1 (PV.v (.int .i64 0))).bind fun p43 =>
some (p43, r39.2)) r39.2).bind fun r42 =>
(aPick p31 (PV.v (.bool true)) r42.1).bind fun p44 =>
onBool p44 fun b45 => (bif b45 then
some (Ex.ret, [(PV.v (.bool true)), q23, q25], r42.2)
else
some (Ex.normal, [(nth r18.2.1 2), q23, q25], r42.2)).bind fun r46 =>
seqK r46.1 ((shift (nth r46.2.1 1) 3).bind fun p48 =>
(aLoad false 1 p48 r46.2.2).bind fun p49 =>
need (r46.2.2 = r46.2.2) <|
(aIndexAddr Try.prog 27 p49 (PV.v (.int .i64 0))).bind fun p50 =>
(shift p50 0).bind fun p51 =>
(aLoad false 1 p51 r46.2.2).bind fun p52 =>
need (r46.2.2 = r46.2.2) <|
(shift (nth r46.2.1 2) 3).bind fun p53 =>
(aLoad false 1 p53 r46.2.2).bind fun p54 =>
need (r46.2.2 = r46.2.2) <|
(aIndexAddr Try.prog 27 p54 (PV.v (.int .i64 0))).bind fun p55 =>
(shift p55 0).bind fun p56 =>
(aLoad false 1 p56 r46.2.2).bind fun p57 =>
need (r46.2.2 = r46.2.2) <|
(rBuildSlice 58 [.v (.int .i64 0), .v (.string ⟨#[]⟩), .v (.int .i64 0), .v (.int .i64 0), .v (.int .i64 0), .v (.int .u64 0), .v (.int .i64 0), .v (.string ⟨#[]⟩), .v (.string ⟨#[]⟩), .sl [] .nil, .v (.int .i64 0), .v (.int .i64 0), .v (.int .i64 0), .v (.string ⟨#[]⟩), .v (.string ⟨#[]⟩), .v (.int .i64 0), .v (.int .i64 0), .v (.int .u64 0), .v (.int .i64 0), .v (.string ⟨#[]⟩), .v (.string ⟨#[]⟩), .sl [] .nil, .v (.int .i64 0), .v (.int .i64 0), .v (.int .i64 0), .v (.int .i64 0), .v (.string ⟨#[]⟩), .v (.int .i64 0), .v (.int .i64 0), .v (.int .i64 0), .v (.string ⟨#[]⟩), .v (.string ⟨#[]⟩), .v (.int .i64 0), .v (.int .i64 0), .v (.int .u64 0), .v (.int .i64 0), .v (.string ⟨#[]⟩), .v (.string ⟨#[]⟩), .sl [] .nil, .v (.int .i64 0), .v (.int .i64 0), .v (.int .i64 0), .v (.int .i64 0), .v (.int .i64 0), .v (.int .i64 0), .v (.int .u64 0), .v (.int .i64 0), .v (.string ⟨#[]⟩), .v (.string ⟨#[]⟩), .sl [] .nil, .v (.int .i64 0), .v (.int .i64 0), .v (.int .i64 0), .sl [] .nil, .sl [] .nil, .sl [] .nil, .v (.int .i64 0), .v (.int .i64 0)] 0 []).bind fun p58 =>
(elemsOf r46.2.2 p52).bind fun ys59 =>
(rAppend st.stk.length [.v (.int .i64 0), .v (.string ⟨#[]⟩), .v (.int .i64 0), .v (.int .i64 0), .v (.int .i64 0), .v (.int .u64 0), .v (.int .i64 0), .v (.string ⟨#[]⟩), .v (.string ⟨#[]⟩), .sl [] .nil, .v (.int .i64 0), .v (.int .i64 0), .v (.int .i64 0), .v (.string ⟨#[]⟩), .v (.string ⟨#[]⟩), .v (.int .i64 0), .v (.int .i64 0), .v (.int .u64 0), .v (.int .i64 0), .v (.string ⟨#[]⟩), .v (.string ⟨#[]⟩), .sl [] .nil, .v (.int .i64 0), .v (.int .i64 0), .v (.int .i64 0), .v (.int .i64 0), .v (.string ⟨#[]⟩), .v (.int .i64 0), .v (.int .i64 0), .v (.int .i64 0), .v (.string ⟨#[]⟩), .v (.string ⟨#[]⟩), .v (.int .i64 0), .v (.int .i64 0), .v (.int .u64 0), .v (.int .i64 0), .v (.string ⟨#[]⟩), .v (.string ⟨#[]⟩), .sl [] .nil, .v (.int .i64 0), .v (.int .i64 0), .v (.int .i64 0), .v (.int .i64 0), .v (.int .i64 0), .v (.int .i64 0), .v (.int .u64 0), .v (.int .i64 0), .v (.string ⟨#[]⟩), .v (.string ⟨#[]⟩), .sl [] .nil, .v (.int .i64 0), .v (.int .i64 0), .v (.int .i64 0), .sl [] .nil, .sl [] .nil, .sl [] .nil, .v (.int .i64 0), .v (.int .i64 0)] 58 688 p58 ys59 r46.2.2).bind fun r60 =>
(elemsOf r60.2 p57).bind fun ys61 =>
(rAppend st.stk.length [.v (.int .i64 0), .v (.string ⟨#[]⟩), .v (.int .i64 0), .v (.int .i64 0), .v (.int .i64 0), .v (.int .u64 0), .v (.int .i64 0), .v (.string ⟨#[]⟩), .v (.string ⟨#[]⟩), .sl [] .nil, .v (.int .i64 0), .v (.int .i64 0), .v (.int .i64 0), .v (.string ⟨#[]⟩), .v (.string ⟨#[]⟩), .v (.int .i64 0), .v (.int .i64 0), .v (.int .u64 0), .v (.int .i64 0), .v (.string ⟨#[]⟩), .v (.string ⟨#[]⟩), .sl [] .nil, .v (.int .i64 0), .v (.int .i64 0), .v (.int .i64 0), .v (.int .i64 0), .v (.string ⟨#[]⟩), .v (.int .i64 0), .v (.int .i64 0), .v (.int .i64 0), .v (.string ⟨#[]⟩), .v (.string ⟨#[]⟩), .v (.int .i64 0), .v (.int .i64 0), .v (.int .u64 0), .v (.int .i64 0), .v (.string ⟨#[]⟩), .v (.string ⟨#[]⟩), .sl [] .nil, .v (.int .i64 0), .v (.int .i64 0), .v (.int .i64 0), .v (.int .i64 0), .v (.int .i64 0), .v (.int .i64 0), .v (.int .u64 0), .v (.int .i64 0), .v (.string ⟨#[]⟩), .v (.string ⟨#[]⟩), .sl [] .nil, .v (.int .i64 0), .v (.int .i64 0), .v (.int .i64 0), .sl [] .nil, .sl [] .nil, .sl [] .nil, .v (.int .i64 0), .v (.int .i64 0)] 58 688 r60.1 ys61 r60.2).bind fun r62 =>
(rBuildSlice 58 [.v (.int .i64 0), .v (.string ⟨#[]⟩), .v (.int .i64 0), .v (.int .i64 0), .v (.int .i64 0), .v (.int .u64 0), .v (.int .i64 0), .v (.string ⟨#[]⟩), .v (.string ⟨#[]⟩), .sl [] .nil, .v (.int .i64 0), .v (.int .i64 0), .v (.int .i64 0), .v (.string ⟨#[]⟩), .v (.string ⟨#[]⟩), .v (.int .i64 0), .v (.int .i64 0), .v (.int .u64 0), .v (.int .i64 0), .v (.string ⟨#[]⟩), .v (.string ⟨#[]⟩), .sl [] .nil, .v (.int .i64 0), .v (.int .i64 0), .v (.int .i64 0), .v (.int .i64 0), .v (.string ⟨#[]⟩), .v (.int .i64 0), .v (.int .i64 0), .v (.int .i64 0), .v (.string ⟨#[]⟩), .v (.string ⟨#[]⟩), .v (.int .i64 0), .v (.int .i64 0), .v (.int .u64 0), .v (.int .i64 0), .v (.string ⟨#[]⟩), .v (.string ⟨#[]⟩), .sl [] .nil, .v (.int .i64 0), .v (.int .i64 0), .v (.int .i64 0), .v (.int .i64 0), .v (.int .i64 0), .v (.int .i64 0), .v (.int .u64 0), .v (.int .i64 0), .v (.string ⟨#[]⟩), .v (.string ⟨#[]⟩), .sl [] .nil, .v (.int .i64 0), .v (.int .i64 0), .v (.int .i64 0), .sl [] .nil, .sl [] .nil, .sl [] .nil, .v (.int .i64 0), .v (.int .i64 0)] 0 []).bind fun p63 =>
(elemsOf r62.2 p57).bind fun ys64 =>
(rAppend st.stk.length [.v (.int .i64 0), .v (.string ⟨#[]⟩), .v (.int .i64 0), .v (.int .i64 0), .v (.int .i64 0), .v (.int .u64 0), .v (.int .i64 0), .v (.string ⟨#[]⟩), .v (.string ⟨#[]⟩), .sl [] .nil, .v (.int .i64 0), .v (.int .i64 0), .v (.int .i64 0), .v (.string ⟨#[]⟩), .v (.string ⟨#[]⟩), .v (.int .i64 0), .v (.int .i64 0), .v (.int .u64 0), .v (.int .i64 0), .v (.string ⟨#[]⟩), .v (.string ⟨#[]⟩), .sl [] .nil, .v (.int .i64 0), .v (.int .i64 0), .v (.int .i64 0), .v (.int .i64 0), .v (.string ⟨#[]⟩), .v (.int .i64 0), .v (.int .i64 0), .v (.int .i64 0), .v (.string ⟨#[]⟩), .v (.string ⟨#[]⟩), .v (.int .i64 0), .v (.int .i64 0), .v (.int .u64 0), .v (.int .i64 0), .v (.string ⟨#[]⟩), .v (.string ⟨#[]⟩), .sl [] .nil, .v (.int .i64 0), .v (.int .i64 0), .v (.int .i64 0), .v (.int .i64 0), .v (.int .i64 0), .v (.int .i64 0), .v (.int .u64 0), .v (.int .i64 0), .v (.string ⟨#[]⟩), .v (.string ⟨#[]⟩), .sl [] .nil, .v (.int .i64 0), .v (.int .i64 0), .v (.int .i64 0), .sl [] .nil, .sl [] .nil, .sl [] .nil, .v (.int .i64 0), .v (.int .i64 0)] 58 688 p63 ys64 r62.2).bind fun r65 =>
(elemsOf r65.2 p52).bind fun ys66 =>
(rAppend st.stk.length [.v (.int .i64 0), .v (.string ⟨#[]⟩), .v (.int .i64 0), .v (.int .i64 0), .v (.int .i64 0), .v (.int .u64 0), .v (.int .i64 0), .v (.string ⟨#[]⟩), .v (.string ⟨#[]⟩), .sl [] .nil, .v (.int .i64 0), .v (.int .i64 0), .v (.int .i64 0), .v (.string ⟨#[]⟩), .v (.string ⟨#[]⟩), .v (.int .i64 0), .v (.int .i64 0), .v (.int .u64 0), .v (.int .i64 0), .v (.string ⟨#[]⟩), .v (.string ⟨#[]⟩), .sl [] .nil, .v (.int .i64 0), .v (.int .i64 0), .v (.int .i64 0), .v (.int .i64 0), .v (.string ⟨#[]⟩), .v (.int .i64 0), .v (.int .i64 0), .v (.int .i64 0), .v (.string ⟨#[]⟩), .v (.string ⟨#[]⟩), .v (.int .i64 0), .v (.int .i64 0), .v (.int .u64 0), .v (.int .i64 0), .v (.string ⟨#[]⟩), .v (.string ⟨#[]⟩), .sl [] .nil, .v (.int .i64 0), .v (.int .i64 0), .v (.int .i64 0), .v (.int .i64 0), .v (.int .i64 0), .v (.int .i64 0), .v (.int .u64 0), .v (.int .i64 0), .v (.string ⟨#[]⟩), .v (.string ⟨#[]⟩), .sl [] .nil, .v (.int .i64 0), .v (.int .i64 0), .v (.int .i64 0), .sl [] .nil, .sl [] .nil, .sl [] .nil, .v (.int .i64 0), .v (.int .i64 0)] 58 688 r65.1 ys66 r65.2).bind fun r67 =>
(call (.func 9) [canon r62.1, canon (PV.v (.int .i64 1000))] r67.2).bind fun r68 =>
(aExtract r68.1 0).bind fun p69 =>
(aExtract r68.1 1).bind fun p70 =>
(call (.func 9) [canon p52, canon (PV.v (.int .i64 1000))] r68.2).bind fun r71 =>
(aExtract r71.1 0).bind fun p72 =>
(aExtract r71.1 1).bind fun p73 =>
(call (.func 9) [canon p57, canon (PV.v (.int .i64 1000))] r71.2).bind fun r74 =>
(aExtract r74.1 0).bind fun p75 =>
(aExtract r74.1 1).bind fun p76 =>
(aUn Try.prog .not p70).bind fun p77 =>
(onG p77 false (
some (p73, r74.2)) r74.2).bind fun r79 =>
(onG p77 false (
(aUn Try.prog .not r79.1).bind fun p82 =>
some (p82, r79.2)) r79.2).bind fun r81 =>
(aPick p77 (PV.v (.bool true)) r81.1).bind fun p83 =>
(onG p83 false (
some (p76, r81.2)) r81.2).bind fun r85 =>
(onG p83 false (
(aUn Try.prog .not r85.1).bind fun p88 =>
some (p88, r85.2)) r85.2).bind fun r87 =>
(aPick p83 (PV.v (.bool true)) r87.1).bind fun p89 =>
(onG p89 false (
some (p69, r87.2)) r87.2).bind fun r91 =>
(onG p89 false (
some (p72, r91.2)) r91.2).bind fun r93 =>
(onG p89 false (
some (p75, r93.2)) r93.2).bind fun r95 =>
(onG p89 false (
(aBin Try.prog false .add 3 r93.1 r95.1).bind fun p98 =>
some (p98, r95.2)) r95.2).bind fun r97 =>
(onG p89 false (
(aBin Try.prog false .neq 3 r91.1 r97.1).bind fun p101 =>
some (p101, r97.2)) r97.2).bind fun r100 =>
(aPick p89 (PV.v (.bool true)) r100.1).bind fun p102 =>
onBool p102 fun b103 => (bif b103 then
some (Ex.ret, [(PV.v (.bool false)), p52, p57, r62.1, r67.1], r100.2)
else
some (Ex.normal, [(nth r46.2.1 0), p52, p57, r62.1, r67.1], r100.2)).bind fun r104 =>
seqK r104.1 ((rBuildSlice 58 [.v (.int .i64 0), .v (.string ⟨#[]⟩), .v (.int .i64 0), .v (.int .i64 0), .v (.int .i64 0), .v (.int .u64 0), .v (.int .i64 0), .v (.string ⟨#[]⟩), .v (.string ⟨#[]⟩), .sl [] .nil, .v (.int .i64 0), .v (.int .i64 0), .v (.int .i64 0), .v (.string ⟨#[]⟩), .v (.string ⟨#[]⟩), .v (.int .i64 0), .v (.int .i64 0), .v (.int .u64 0), .v (.int .i64 0), .v (.string ⟨#[]⟩), .v (.string ⟨#[]⟩), .sl [] .nil, .v (.int .i64 0), .v (.int .i64 0), .v (.int .i64 0), .v (.int .i64 0), .v (.string ⟨#[]⟩), .v (.int .i64 0), .v (.int .i64 0), .v (.int .i64 0), .v (.string ⟨#[]⟩), .v (.string ⟨#[]⟩), .v (.int .i64 0), .v (.int .i64 0), .v (.int .u64 0), .v (.int .i64 0), .v (.string ⟨#[]⟩), .v (.string ⟨#[]⟩), .sl [] .nil, .v (.int .i64 0), .v (.int .i64 0), .v (.int .i64 0), .v (.int .i64 0), .v (.int .i64 0), .v (.int .i64 0), .v (.int .u64 0), .v (.int .i64 0), .v (.string ⟨#[]⟩), .v (.string ⟨#[]⟩), .sl [] .nil, .v (.int .i64 0), .v (.int .i64 0), .v (.int .i64 0), .sl [] .nil, .sl [] .nil, .sl [] .nil, .v (.int .i64 0), .v (.int .i64 0)] 0 []).bind fun p106 =>
(elemsOf r104.2.2 (nth r104.2.1 1)).bind fun ys107 =>
(rAppend st.stk.length [.v (.int .i64 0), .v (.string ⟨#[]⟩), .v (.int .i64 0), .v (.int .i64 0), .v (.int .i64 0), .v (.int .u64 0), .v (.int .i64 0), .v (.string ⟨#[]⟩), .v (.string ⟨#[]⟩), .sl [] .nil, .v (.int .i64 0), .v (.int .i64 0), .v (.int .i64 0), .v (.string ⟨#[]⟩), .v (.string ⟨#[]⟩), .v (.int .i64 0), .v (.int .i64 0), .v (.int .u64 0), .v (.int .i64 0), .v (.string ⟨#[]⟩), .v (.string ⟨#[]⟩), .sl [] .nil, .v (.int .i64 0), .v (.int .i64 0), .v (.int .i64 0), .v (.int .i64 0), .v (.string ⟨#[]⟩), .v (.int .i64 0), .v (.int .i64 0), .v (.int .i64 0), .v (.string ⟨#[]⟩), .v (.string ⟨#[]⟩), .v (.int .i64 0), .v (.int .i64 0), .v (.int .u64 0), .v (.int .i64 0), .v (.string ⟨#[]⟩), .v (.string ⟨#[]⟩), .sl [] .nil, .v (.int .i64 0), .v (.int .i64 0), .v (.int .i64 0), .v (.int .i64 0), .v (.int .i64 0), .v (.int .i64 0), .v (.int .u64 0), .v (.int .i64 0), .v (.string ⟨#[]⟩), .v (.string ⟨#[]⟩), .sl [] .nil, .v (.int .i64 0), .v (.int .i64 0), .v (.int .i64 0), .sl [] .nil, .sl [] .nil, .sl [] .nil, .v (.int .i64 0), .v (.int .i64 0)] 58 688 p106 ys107 r104.2.2).bind fun r108 =>
(elemsOf r108.2 (nth r104.2.1 2)).bind fun ys109 =>
(rAppend st.stk.length [.v (.int .i64 0), .v (.string ⟨#[]⟩), .v (.int .i64 0), .v (.int .i64 0), .v (.int .i64 0), .v (.int .u64 0), .v (.int .i64 0), .v (.string ⟨#[]⟩), .v (.string ⟨#[]⟩), .sl [] .nil, .v (.int .i64 0), .v (.int .i64 0), .v (.int .i64 0), .v (.string ⟨#[]⟩), .v (.string ⟨#[]⟩), .v (.int .i64 0), .v (.int .i64 0), .v (.int .u64 0), .v (.int .i64 0), .v (.string ⟨#[]⟩), .v (.string ⟨#[]⟩), .sl [] .nil, .v (.int .i64 0), .v (.int .i64 0), .v (.int .i64 0), .v (.int .i64 0), .v (.string ⟨#[]⟩), .v (.int .i64 0), .v (.int .i64 0), .v (.int .i64 0), .v (.string ⟨#[]⟩), .v (.string ⟨#[]⟩), .v (.int .i64 0), .v (.int .i64 0), .v (.int .u64 0), .v (.int .i64 0), .v (.string ⟨#[]⟩), .v (.string ⟨#[]⟩), .sl [] .nil, .v (.int .i64 0), .v (.int .i64 0), .v (.int .i64 0), .v (.int .i64 0), .v (.int .i64 0), .v (.int .i64 0), .v (.int .u64 0), .v (.int .i64 0), .v (.string ⟨#[]⟩), .v (.string ⟨#[]⟩), .sl [] .nil, .v (.int .i64 0), .v (.int .i64 0), .v (.int .i64 0), .sl [] .nil, .sl [] .nil, .sl [] .nil, .v (.int .i64 0), .v (.int .i64 0)] 58 688 r108.1 ys109 r108.2).bind fun r110 =>
(call (.func 10) [canon (nth r104.2.1 3), canon r110.1] r110.2).bind fun r111 =>
(onG r111.1 true (
some ((nth r104.2.1 1), r111.2)) r111.2).bind fun r113 =>
(onG r111.1 true (
some ((nth r104.2.1 2), r113.2)) r113.2).bind fun r115 =>
(onG r111.1 true (
(call (.func 10) [canon r113.1, canon r115.1] r115.2).bind fun r118 =>
some (r118.1, r118.2)) r115.2).bind fun r117 =>
(onG r111.1 true (
(aUn Try.prog .not r117.1).bind fun p121 =>
some (p121, r117.2)) r117.2).bind fun r120 =>
(onG r111.1 true (
some (r120.1, r120.2)) r120.2).bind fun r123 =>
(onG r123.1 false (
some ((nth r104.2.1 3), r123.2)) r123.2).bind fun r125 =>
(onG r123.1 false (
some ((nth r104.2.1 4), r125.2)) r125.2).bind fun r127 =>
(onG r123.1 false (
(call (.func 10) [canon r125.1, canon r127.1] r127.2).bind fun r130 =>
some (r130.1, r130.2)) r127.2).bind fun r129 =>
(onG r111.1 true (
(aPick r123.1 (PV.v (.bool true)) r129.1).bind fun p133 =>
some (p133, r129.2)) r129.2).bind fun r132 =>
(aPick r111.1 r132.1 (PV.v (.bool false))).bind fun p134 =>
(onG p134 true (
(rBuild [(0, 1), (1, 1), (2, 1), (3, 2), (5, 1), (6, 1), (7, 1), (8, 1)] [.v (.int .i64 0), .v (.int .i64 0), .v (.int .u64 0), .v (.int .i64 0), .v (.string ⟨#[]⟩), .v (.string ⟨#[]⟩), .sl [] .nil, .v (.int .i64 0), .v (.int .i64 0)] [(2, (PV.v (.int .u64 1)))]).bind fun p137 =>
some (p137, r132.2)) r132.2).bind fun r136 =>
(onG p134 true (
(rBuildSlice 9 [.v (.int .i64 0), .v (.int .i64 0), .v (.int .u64 0), .v (.int .i64 0), .v (.string ⟨#[]⟩), .v (.string ⟨#[]⟩), .sl [] .nil, .v (.int .i64 0), .v (.int .i64 0)] 1 [(0, r136.1)]).bind fun p140 =>
some (p140, r136.2)) r136.2).bind fun r139 =>
(onG p134 true (
(rBuild [(0, 1), (1, 1), (2, 1), (3, 2), (5, 1), (6, 1), (7, 1), (8, 1)] [.v (.int .i64 0), .v (.int .i64 0), .v (.int .u64 0), .v (.int .i64 0), .v (.string ⟨#[]⟩), .v (.string ⟨#[]⟩), .sl [] .nil, .v (.int .i64 0), .v (.int .i64 0)] [(2, (PV.v (.int .u64 1))), (6, (PV.v (.int .i64 4)))]).bind fun p143 =>
some (p143, r139.2)) r139.2).bind fun r142 =>
(onG p134 true (
(rBuildSlice 9 [.v (.int .i64 0), .v (.int .i64 0), .v (.int .u64 0), .v (.int .i64 0), .v (.string ⟨#[]⟩), .v (.string ⟨#[]⟩), .sl [] .nil, .v (.int .i64 0), .v (.int .i64 0)] 1 [(0, r142.1)]).bind fun p146 =>
some (p146, r142.2)) r142.2).bind fun r145 =>
(onG p134 true (
(call (.func 11) [canon r139.1, canon r145.1] r145.2).bind fun r149 =>
some (r149.1, r149.2)) r145.2).bind fun r148 =>
(aPick p134 r148.1 (PV.v (.bool false))).bind fun p150 =>
fin st.stk.length st.tk.length st.lp.length [p150] r148.2) fun x105 =>
retK x105 (fin st.stk.length st.tk.length st.lp.length [(nth r104.2.1 0)] r104.2.2)) fun x47 =>
retK x47 (fin st.stk.length st.tk.length st.lp.length [(nth r46.2.1 0)] r46.2.2)) fun x19 =>
retK x19 (fin st.stk.length st.tk.length st.lp.length [(nth r18.2.1 2)] r18.2.2)) fun x5 =>
retK x5 (fin st.stk.length st.tk.length st.lp.length [(nth r4.2.1 2)] r4.2.2)
theorem S3_eq (a0 a1 : PV) (st : St) : E L (.func 3) [a0, a1] st = S3 (E L) itE a0 a1 st := (E_func' (by rfl) Try.func3 _ _).trans (by kernel_rfl)
noncomputable def S29.b0 (call : CallF) (it : LoopF) (base lb : Nat) (vs9 : List PV) (st10 : St) : Option (Ex × List PV × St) :=
(aBin Try.prog false .lss 3 (nth vs9 5) (nth vs9 4)).bind fun p11 =>
onBool p11 fun b12 => (bif b12 then
some (Ex.normal, [(nth vs9 0), (nth vs9 1), (nth vs9 2), (nth vs9 3), (nth vs9 4), (nth vs9 5)], st10)
else
some ((Ex.exit 0), [(nth vs9 0), (nth vs9 1), (nth vs9 2), (nth vs9 3), (nth vs9 4), (nth vs9 5)], st10)).bind fun r13 =>
seqK r13.1 ((aIndexAddr Try.prog 24 (nth r13.2.1 3) (nth r13.2.1 5)).bind fun p15 =>
(aLoad true 4 p15 r13.2.2).bind fun p16 =>
let q18 : PV := .ptr false r13.2.2.stk.length 0
let st17 := r13.2.2.push [.v (.string ⟨#[]⟩), .sl [] .nil, .v (.int .i64 0), .v (.int .i64 0)]
(aStore base 4 q18 p16 st17).bind fun st19 =>
(aIndexAddr Try.prog 24 (nth r13.2.1 0) (nth r13.2.1 5)).bind fun p20 =>
(aLoad true 4 p20 st19).bind fun p21 =>
let q23 : PV := .ptr false st19.stk.length 0
let st22 := st19.push [.v (.string ⟨#[]⟩), .sl [] .nil, .v (.int .i64 0), .v (.int .i64 0)]
(aStore base 4 q23 p21 st22).bind fun st24 =>
(aLoad true 4 q18 st24).bind fun p25 =>
(aLoad true 4 q23 st24).bind fun p26 =>
onFn (nth r13.2.1 1) fun g28 caps29 =>
(call g28 ([canon p25, canon p26] ++ caps29) st24).bind fun r27 =>
(aUn Try.prog .not r27.1).bind fun p30 =>
onBool p30 fun b31 => (bif b31 then
some (Ex.ret, [(nth r13.2.1 0), (nth r13.2.1 1), (PV.v (.bool false)), (nth r13.2.1 3), (nth r13.2.1 4), (nth r13.2.1 5)], r27.2)
else
some (Ex.normal, [(nth r13.2.1 0), (nth r13.2.1 1), (nth r13.2.1 2), (nth r13.2.1 3), (nth r13.2.1 4), (nth r13.2.1 5)], r27.2)).bind fun r32 =>
seqK (Ex.outOf 1 r32.1) ((aBin Try.prog true .add 3 (nth r32.2.1 5) (PV.v (.int .i64 1))).bind fun p34 =>
leaveV base lb st10.stk.length Ex.normal [(nth r32.2.1 0), (nth r32.2.1 1), (nth r32.2.1 2), (nth r32.2.1 3), (nth r32.2.1 4), p34] r32.2.2) fun x33 =>
leaveV base lb st10.stk.length x33 [(nth r32.2.1 0), (nth r32.2.1 1), (nth r32.2.1 2), (nth r32.2.1 3), (nth r32.2.1 4), (nth r32.2.1 5)] r32.2.2) fun x14 =>
leaveV base lb st10.stk.length x14 [(nth r13.2.1 0), (nth r13.2.1 1), (nth r13.2.1 2), (nth r13.2.1 3), (nth r13.2.1 4), (nth r13.2.1 5)] r13.2.2
/-- slices.EqualFunc[[]padlock/api.Record,[]padlock/api.Record,padlock/api.Record,padlock/api.Record] -/
noncomputable def S29 (call : CallF) (it : LoopF) (a0 a1 a2 : PV) (st : St) : Option (PV × St) :=
(aLen Try.prog 24 a0).bind fun p1 =>
(aLen Try.prog 24 a1).bind fun p2 =>
(aBin Try.prog false .neq 3 p1 p2).bind fun p3 =>
onBool p3 fun b4 => (bif b4 then
some (Ex.ret, [a0, a1, a2, (PV.v (.bool false))], st)
else
some (Ex.normal, [a0, a1, a2, (PV.v (.bool false))], st)).bind fun r5 =>
seqK r5.1 ((aLen Try.prog 24 (nth r5.2.1 0)).bind fun p7 =>
(it (S29.b0 call it st.stk.length st.lp.length) [(nth r5.2.1 1), (nth r5.2.1 2), (nth r5.2.1 3), (nth r5.2.1 0), p7, (PV.v (.int .i64 0))] r5.2.2).bind fun r8 =>
seqK (Ex.outOf 0 r8.1) (fin st.stk.length st.tk.length st.lp.length [(PV.v (.bool true))] r8.2.2) fun x35 =>
retK x35 (fin st.stk.length st.tk.length st.lp.length [(nth r8.2.1 2)] r8.2.2)) fun x6 =>
retK x6 (fin st.stk.length st.tk.length st.lp.length [(nth r5.2.1 3)] r5.2.2)
theorem S29_eq (a0 a1 a2 : PV) (st : St) : E L (.func 29) [a0, a1, a2] st = S29 (E L) itE a0 a1 a2 st := (E_func' (by rfl) Try.func29 _ _).trans (by kernel_rfl)
noncomputable def S31.b0 (call : CallF) (it : LoopF) (base lb : Nat) (vs9 : List PV) (st10 : St) : Option (Ex × List PV × St) :=
(aBin Try.prog false .lss 3 (nth vs9 5) (nth vs9 4)).bind fun p11 =>
onBool p11 fun b12 => (bif b12 then
some (Ex.normal, [(nth vs9 0), (nth vs9 1), (nth vs9 2), (nth vs9 3), (nth vs9 4), (nth vs9 5)], st10)
else
some ((Ex.exit 0), [(nth vs9 0), (nth vs9 1), (nth vs9 2), (nth vs9 3), (nth vs9 4), (nth vs9 5)], st10)).bind fun r13 =>
seqK r13.1 ((aIndexAddr Try.prog 25 (nth r13.2.1 3) (nth r13.2.1 5)).bind fun p15 =>
(aLoad true 5 p15 r13.2.2).bind fun p16 =>
let q18 : PV := .ptr false r13.2.2.stk.length 0
let st17 := r13.2.2.push [.v (.string ⟨#[]⟩), .v (.int .i64 0), .v (.string ⟨#[]⟩), .v (.int .i64 0), .v (.int .i64 0)]
(aStore base 5 q18 p16 st17).bind fun st19 =>
(aIndexAddr Try.prog 25 (nth r13.2.1 0) (nth r13.2.1 5)).bind fun p20 =>
(aLoad true 5 p20 st19).bind fun p21 =>
let q23 : PV := .ptr false st19.stk.length 0
let st22 := st19.push [.v (.string ⟨#[]⟩), .v (.int .i64 0), .v (.string ⟨#[]⟩), .v (.int .i64 0), .v (.int .i64 0)]
(aStore base 5 q23 p21 st22).bind fun st24 =>
(aLoad true 5 q18 st24).bind fun p25 =>
(aLoad true 5 q23 st24).bind fun p26 =>
onFn (nth r13.2.1 1) fun g28 caps29 =>
(call g28 ([canon p25, canon p26] ++ caps29) st24).bind fun r27 =>
(aUn Try.prog .not r27.1).bind fun p30 =>
onBool p30 fun b31 => (bif b31 then
some (Ex.ret, [(nth r13.2.1 0), (nth r13.2.1 1), (PV.v (.bool false)), (nth r13.2.1 3), (nth r13.2.1 4), (nth r13.2.1 5)], r27.2)
else
some (Ex.normal, [(nth r13.2.1 0), (nth r13.2.1 1), (nth r13.2.1 2), (nth r13.2.1 3), (nth r13.2.1 4), (nth r13.2.1 5)], r27.2)).bind fun r32 =>
seqK (Ex.outOf 1 r32.1) ((aBin Try.prog true .add 3 (nth r32.2.1 5) (PV.v (.int .i64 1))).bind fun p34 =>
leaveV base lb st10.stk.length Ex.normal [(nth r32.2.1 0), (nth r32.2.1 1), (nth r32.2.1 2), (nth r32.2.1 3), (nth r32.2.1 4), p34] r32.2.2) fun x33 =>
leaveV base lb st10.stk.length x33 [(nth r32.2.1 0), (nth r32.2.1 1), (nth r32.2.1 2), (nth r32.2.1 3), (nth r32.2.1 4), (nth r32.2.1 5)] r32.2.2) fun x14 =>
leaveV base lb st10.stk.length x14 [(nth r13.2.1 0), (nth r13.2.1 1), (nth r13.2.1 2), (nth r13.2.1 3), (nth r13.2.1 4), (nth r13.2.1 5)] r13.2.2
/-- slices.EqualFunc[[]padlock/api.Named,[]padlock/api.Named,padlock/api.Named,padlock/api.Named] -/
noncomputable def S31 (call : CallF) (it : LoopF) (a0 a1 a2 : PV) (st : St) : Option (PV × St) :=
(aLen Try.prog 25 a0).bind fun p1 =>
(aLen Try.prog 25 a1).bind fun p2 =>
(aBin Try.prog false .neq 3 p1 p2).bind fun p3 =>
onBool p3 fun b4 => (bif b4 then
some (Ex.ret, [a0, a1, a2, (PV.v (.bool false))], st)
else
some (Ex.normal, [a0, a1, a2, (PV.v (.bool false))], st)).bind fun r5 =>
seqK r5.1 ((aLen Try.prog 25 (nth r5.2.1 0)).bind fun p7 =>
(it (S31.b0 call it st.stk.length st.lp.length) [(nth r5.2.1 1), (nth r5.2.1 2), (nth r5.2.1 3), (nth r5.2.1 0), p7, (PV.v (.int .i64 0))] r5.2.2).bind fun r8 =>
seqK (Ex.outOf 0 r8.1) (fin st.stk.length st.tk.length st.lp.length [(PV.v (.bool true))] r8.2.2) fun x35 =>
retK x35 (fin st.stk.length st.tk.length st.lp.length [(nth r8.2.1 2)] r8.2.2)) fun x6 =>
retK x6 (fin st.stk.length st.tk.length st.lp.length [(nth r5.2.1 3)] r5.2.2)
theorem S31_eq (a0 a1 a2 : PV) (st : St) : E L (.func 31) [a0, a1, a2] st = S31 (E L) itE a0 a1 a2 st := (E_func' (by rfl) Try.func31 _ _).trans (by kernel_rfl)
/-- padlock/tree.sameNamed -/
noncomputable def S32 (call : CallF) (it : LoopF) (a0 a1 : PV) (st : St) : Option (PV × St) :=
(cellsOf a0).bind fun b1 =>
let q3 : PV := .ptr false st.stk.length 0
let st2 := st.push b1
(cellsOf a1).bind fun b4 =>
let q6 : PV := .ptr false st2.stk.length 0
let st5 := st2.push b4
(shift q3 0).bind fun p7 =>
(aLoad false 1 p7 st5).bind fun p8 =>
(shift q6 0).bind fun p9 =>
(aLoad false 1 p9 st5).bind fun p10 =>
(aBin Try.prog false .eql 9 p8 p10).bind fun p11 =>
(onG p11 true (
(shift q3 1).bind fun p14 =>
some (p14, st5)) st5).bind fun r13 =>
(onG p11 true (
(aLoad true 2 r13.1 r13.2).bind fun p17 =>
some (p17, r13.2)) r13.2).bind fun r16 =>
(onG p11 true (
(shift q6 1).bind fun p20 =>
some (p20, r16.2)) r16.2).bind fun r19 =>
(onG p11 true (
(aLoad true 2 r19.1 r19.2).bind fun p23 =>
some (p23, r19.2)) r19.2).bind fun r22 =>
(onG p11 true (
(aBin Try.prog false .eql 40 r16.1 r22.1).bind fun p26 =>
some (p26, r22.2)) r22.2).bind fun r25 =>
(aPick p11 r25.1 (PV.v (.bool false))).bind fun p27 =>
fin st.stk.length st.tk.length st.lp.length [p27] r25.2
theorem S32_eq (a0 a1 : PV) (st : St) : E L (.func 32) [a0, a1] st = S32 (E L) itE a0 a1 st := (E_func' (by rfl) Try.func32 _ _).trans (by kernel_rfl)
noncomputable def S33.b0 (call : CallF) (it : LoopF) (base lb : Nat) (vs9 : List PV) (st10 : St) : Option (Ex × List PV × St) :=
(aBin Try.prog false .lss 3 (nth vs9 5) (nth vs9 4)).bind fun p11 =>
onBool p11 fun b12 => (bif b12 then
some (Ex.normal, [(nth vs9 0), (nth vs9 1), (nth vs9 2), (nth vs9 3), (nth vs9 4), (nth vs9 5)], st10)
else
some ((Ex.exit 0), [(nth vs9 0), (nth vs9 1), (nth vs9 2), (nth vs9 3), (nth vs9 4), (nth vs9 5)], st10)).bind fun r13 =>
seqK r13.1 ((aIndexAddr Try.prog 26 (nth r13.2.1 3) (nth r13.2.1 5)).bind fun p15 =>
(aLoad true 5 p15 r13.2.2).bind fun p16 =>
let q18 : PV := .ptr false r13.2.2.stk.length 0
let st17 := r13.2.2.push [.v (.string ⟨#[]⟩), .sl [] .nil, .sl [] .nil, .v (.int .i64 0), .v (.int .i64 0)]
(aStore base 5 q18 p16 st17).bind fun st19 =>
(aIndexAddr Try.prog 26 (nth r13.2.1 0) (nth r13.2.1 5)).bind fun p20 =>
(aLoad true 5 p20 st19).bind fun p21 =>
let q23 : PV := .ptr false st19.stk.length 0
let st22 := st19.push [.v (.string ⟨#[]⟩), .sl [] .nil, .sl [] .nil, .v (.int .i64 0), .v (.int .i64 0)]
(aStore base 5 q23 p21 st22).bind fun st24 =>
(aLoad true 5 q18 st24).bind fun p25 =>
(aLoad true 5 q23 st24).bind fun p26 =>
onFn (nth r13.2.1 1) fun g28 caps29 =>
(call g28 ([canon p25, canon p26] ++ caps29) st24).bind fun r27 =>
(aUn Try.prog .not r27.1).bind fun p30 =>
onBool p30 fun b31 => (bif b31 then
some (Ex.ret, [(nth r13.2.1 0), (nth r13.2.1 1), (PV.v (.bool false)), (nth r13.2.1 3), (nth r13.2.1 4), (nth r13.2.1 5)], r27.2)
else
some (Ex.normal, [(nth r13.2.1 0), (nth r13.2.1 1), (nth r13.2.1 2), (nth r13.2.1 3), (nth r13.2.1 4), (nth r13.2.1 5)], r27.2)).bind fun r32 =>
seqK (Ex.outOf 1 r32.1) ((aBin Try.prog true .add 3 (nth r32.2.1 5) (PV.v (.int .i64 1))).bind fun p34 =>
leaveV base lb st10.stk.length Ex.normal [(nth r32.2.1 0), (nth r32.2.1 1), (nth r32.2.1 2), (nth r32.2.1 3), (nth r32.2.1 4), p34] r32.2.2) fun x33 =>
leaveV base lb st10.stk.length x33 [(nth r32.2.1 0), (nth r32.2.1 1), (nth r32.2.1 2), (nth r32.2.1 3), (nth r32.2.1 4), (nth r32.2.1 5)] r32.2.2) fun x14 =>
leaveV base lb st10.stk.length x14 [(nth r13.2.1 0), (nth r13.2.1 1), (nth r13.2.1 2), (nth r13.2.1 3), (nth r13.2.1 4), (nth r13.2.1 5)] r13.2.2
/-- slices.EqualFunc[[]padlock/api.Fun,[]padlock/api.Fun,padlock/api.Fun,padlock/api.Fun] -/
noncomputable def S33 (call : CallF) (it : LoopF) (a0 a1 a2 : PV) (st : St) : Option (PV × St) :=
(aLen Try.prog 26 a0).bind fun p1 =>
(aLen Try.prog 26 a1).bind fun p2 =>
(aBin Try.prog false .neq 3 p1 p2).bind fun p3 =>
onBool p3 fun b4 => (bif b4 then
some (Ex.ret, [a0, a1, a2, (PV.v (.bool false))], st)
else
some (Ex.normal, [a0, a1, a2, (PV.v (.bool false))], st)).bind fun r5 =>
seqK r5.1 ((aLen Try.prog 26 (nth r5.2.1 0)).bind fun p7 =>
(it (S33.b0 call it st.stk.length st.lp.length) [(nth r5.2.1 1), (nth r5.2.1 2), (nth r5.2.1 3), (nth r5.2.1 0), p7, (PV.v (.int .i64 0))] r5.2.2).bind fun r8 =>
seqK (Ex.outOf 0 r8.1) (fin st.stk.length st.tk.length st.lp.length [(PV.v (.bool true))] r8.2.2) fun x35 =>
retK x35 (fin st.stk.length st.tk.length st.lp.length [(nth r8.2.1 2)] r8.2.2)) fun x6 =>
retK x6 (fin st.stk.length st.tk.length st.lp.length [(nth r5.2.1 3)] r5.2.2)
theorem S33_eq (a0 a1 a2 : PV) (st : St) : E L (.func 33) [a0, a1, a2] st = S33 (E L) itE a0 a1 a2 st := (E_func' (by rfl) Try.func33 _ _).trans (by kernel_rfl)
noncomputable def S35.b0 (call : CallF) (it : LoopF) (base lb : Nat) (vs9 : List PV) (st10 : St) : Option (Ex × List PV × St) :=
(aBin Try.prog false .lss 3 (nth vs9 5) (nth vs9 4)).bind fun p11 =>
onBool p11 fun b12 => (bif b12 then
some (Ex.normal, [(nth vs9 0), (nth vs9 1), (nth vs9 2), (nth vs9 3), (nth vs9 4), (nth vs9 5)], st10)
else
some ((Ex.exit 0), [(nth vs9 0), (nth vs9 1), (nth vs9 2), (nth vs9 3), (nth vs9 4), (nth vs9 5)], st10)).bind fun r13 =>
seqK r13.1 ((aIndexAddr Try.prog 27 (nth r13.2.1 3) (nth r13.2.1 5)).bind fun p15 =>
(aLoad true 3 p15 r13.2.2).bind fun p16 =>
let q18 : PV := .ptr false r13.2.2.stk.length 0
let st17 := r13.2.2.push [.sl [] .nil, .v (.int .i64 0), .v (.int .i64 0)]
(aStore base 3 q18 p16 st17).bind fun st19 =>
(aIndexAddr Try.prog 27 (nth r13.2.1 0) (nth r13.2.1 5)).bind fun p20 =>
(aLoad true 3 p20 st19).bind fun p21 =>
let q23 : PV := .ptr false st19.stk.length 0
let st22 := st19.push [.sl [] .nil, .v (.int .i64 0), .v (.int .i64 0)]
(aStore base 3 q23 p21 st22).bind fun st24 =>
(aLoad true 3 q18 st24).bind fun p25 =>
(aLoad true 3 q23 st24).bind fun p26 =>
onFn (nth r13.2.1 1) fun g28 caps29 =>
(call g28 ([canon p25, canon p26] ++ caps29) st24).bind fun r27 =>
(aUn Try.prog .not r27.1).bind fun p30 =>
onBool p30 fun b31 => (bif b31 then
some (Ex.ret, [(nth r13.2.1 0), (nth r13.2.1 1), (PV.v (.bool false)), (nth r13.2.1 3), (nth r13.2.1 4), (nth r13.2.1 5)], r27.2)
else
some (Ex.normal, [(nth r13.2.1 0), (nth r13.2.1 1), (nth r13.2.1 2), (nth r13.2.1 3), (nth r13.2.1 4), (nth r13.2.1 5)], r27.2)).bind fun r32 =>
seqK (Ex.outOf 1 r32.1) ((aBin Try.prog true .add 3 (nth r32.2.1 5) (PV.v (.int .i64 1))).bind fun p34 =>
leaveV base lb st10.stk.length Ex.normal [(nth r32.2.1 0), (nth r32.2.1 1), (nth r32.2.1 2), (nth r32.2.1 3), (nth r32.2.1 4), p34] r32.2.2) fun x33 =>
leaveV base lb st10.stk.length x33 [(nth r32.2.1 0), (nth r32.2.1 1), (nth r32.2.1 2), (nth r32.2.1 3), (nth r32.2.1 4), (nth r32.2.1 5)] r32.2.2) fun x14 =>
leaveV base lb st10.stk.length x14 [(nth r13.2.1 0), (nth r13.2.1 1), (nth r13.2.1 2), (nth r13.2.1 3), (nth r13.2.1 4), (nth r13.2.1 5)] r13.2.2
/-- slices.EqualFunc[[]padlock/api.Thread,[]padlock/api.Thread,padlock/api.Thread,padlock/api.Thread] -/
noncomputable def S35 (call : CallF) (it : LoopF) (a0 a1 a2 : PV) (st : St) : Option (PV × St) :=
(aLen Try.prog 27 a0).bind fun p1 =>
(aLen Try.prog 27 a1).bind fun p2 =>
(aBin Try.prog false .neq 3 p1 p2).bind fun p3 =>
onBool p3 fun b4 => (bif b4 then
some (Ex.ret, [a0, a1, a2, (PV.v (.bool false))], st)
else
some (Ex.normal, [a0, a1, a2, (PV.v (.bool false))], st)).bind fun r5 =>
seqK r5.1 ((aLen Try.prog 27 (nth r5.2.1 0)).bind fun p7 =>
(it (S35.b0 call it st.stk.length st.lp.length) [(nth r5.2.1 1), (nth r5.2.1 2), (nth r5.2.1 3), (nth r5.2.1 0), p7, (PV.v (.int .i64 0))] r5.2.2).bind fun r8 =>
seqK (Ex.outOf 0 r8.1) (fin st.stk.length st.tk.length st.lp.length [(PV.v (.bool true))] r8.2.2) fun x35 =>
retK x35 (fin st.stk.length st.tk.length st.lp.length [(nth r8.2.1 2)] r8.2.2)) fun x6 =>
retK x6 (fin st.stk.length st.tk.length st.lp.length [(nth r5.2.1 3)] r5.2.2)
theorem S35_eq (a0 a1 a2 : PV) (st : St) : E L (.func 35) [a0, a1, a2] st = S35 (E L) itE a0 a1 a2 st := (E_func' (by rfl) Try.func35 _ _).trans (by kernel_rfl)
/-- padlock/tree.Same -/
noncomputable def S12 (call : CallF) (it : LoopF) (a0 a1 : PV) (st : St) : Option (PV × St) :=
(cellsOf a0).bind fun b1 =>
let q3 : PV := .ptr false st.stk.length 0
let st2 := st.push b1
(cellsOf a1).bind fun b4 =>
let q6 : PV := .ptr false st2.stk.length 0
let st5 := st2.push b4
(shift q3 0).bind fun p7 =>
(aLoad false 1 p7 st5).bind fun p8 =>
(shift q6 0).bind fun p9 =>
(aLoad false 1 p9 st5).bind fun p10 =>
(call (.func 29) [canon p8, canon p10, canon (PV.clo (.func 30) [])] st5).bind fun r11 =>
(onG r11.1 true (
(shift q3 1).bind fun p14 =>
some (p14, r11.2)) r11.2).bind fun r13 =>
(onG r11.1 true (
(aLoad false 1 r13.1 r13.2).bind fun p17 =>
some (p17, r13.2)) r13.2).bind fun r16 =>
(onG r11.1 true (
(shift q6 1).bind fun p20 =>
some (p20, r16.2)) r16.2).bind fun r19 =>
(onG r11.1 true (
(aLoad false 1 r19.1 r19.2).bind fun p23 =>
some (p23, r19.2)) r19.2).bind fun r22 =>
(onG r11.1 true (
(call (.func 31) [canon r16.1, canon r22.1, canon (PV.clo (.func 32) [])] r22.2).bind fun r26 =>
some (r26.1, r26.2)) r22.2).bind fun r25 =>
(aPick r11.1 r25.1 (PV.v (.bool false))).bind fun p27 =>
(onG p27 true (
(shift q3 2).bind fun p30 =>
some (p30, r25.2)) r25.2).bind fun r29 =>
(onG p27 true (
(aLoad false 1 r29.1 r29.2).bind fun p33 =>
some (p33, r29.2)) r29.2).bind fun r32 =>
(onG p27 true (
(shift q6 2).bind fun p36 =>
some (p36, r32.2)) r32.2).bind fun r35 =>
(onG p27 true (
(aLoad false 1 r35.1 r35.2).bind fun p39 =>
some (p39, r35.2)) r35.2).bind fun r38 =>
(onG p27 true (
(call (.func 33) [canon r32.1, canon r38.1, canon (PV.clo (.func 34) [])] r38.2).bind fun r42 =>
some (r42.1, r42.2)) r38.2).bind fun r41 =>
(aPick p27 r41.1 (PV.v (.bool false))).bind fun p43 =>
(onG p43 true (
(shift q3 3).bind fun p46 =>
some (p46, r41.2)) r41.2).bind fun r45 =>
(onG p43 true (
(aLoad false 1 r45.1 r45.2).bind fun p49 =>
some (p49, r45.2)) r45.2).bind fun r48 =>
(onG p43 true (
(shift q6 3).bind fun p52 =>
some (p52, r48.2)) r48.2).bind fun r51 =>
(onG p43 true (
(aLoad false 1 r51.1 r51.2).bind fun p55 =>
some (p55, r51.2)) r51.2).bind fun r54 =>
(onG p43 true (
(call (.func 35) [canon r48.1, canon r54.1, canon (PV.clo (.func 36) [])] r54.2).bind fun r58 =>
some (r58.1, r58.2)) r54.2).bind fun r57 =>
(aPick p43 r57.1 (PV.v (.bool false))).bind fun p59 =>
fin st.stk.length st.tk.length st.lp.length [p59] r57.2
theorem S12_eq (a0 a1 : PV) (st : St) : E L (.func 12) [a0, a1] st = S12 (E L) itE a0 a1 st := (E_func' (by rfl) Try.func12 _ _).trans (by kernel_rfl)
noncomputable def S38.b0 (call : CallF) (it : LoopF) (base lb : Nat) (vs6 : List PV) (st7 : St) : Option (Ex × List PV × St) :=
(aBin Try.prog false .lss 3 (nth vs6 3) (nth vs6 2)).bind fun p8 =>
onBool p8 fun b9 => (bif b9 then
some (Ex.normal, [(nth vs6 0), (nth vs6 1), (nth vs6 2), (nth vs6 3)], st7)
else
some ((Ex.exit 0), [(nth vs6 0), (nth vs6 1), (nth vs6 2), (nth vs6 3)], st7)).bind fun r10 =>
seqK r10.1 ((aIndexAddr Try.prog 25 (nth r10.2.1 1) (nth r10.2.1 3)).bind fun p12 =>
(aLoad true 5 p12 r10.2.2).bind fun p13 =>
let q15 : PV := .ptr false r10.2.2.stk.length 0
let st14 := r10.2.2.push [.v (.string ⟨#[]⟩), .v (.int .i64 0), .v (.string ⟨#[]⟩), .v (.int .i64 0), .v (.int .i64 0)]
(aStore base 5 q15 p13 st14).bind fun st16 =>
(shift q15 0).bind fun p17 =>
(aLoad false 1 p17 st16).bind fun p18 =>
need (st16 = st16) <|
(shift q15 1).bind fun p19 =>
(shift p19 0).bind fun p20 =>
(aLoad false 1 p20 st16).bind fun p21 =>
need (st16 = st16) <|
(call (.func 37) [canon p21] st16).bind fun r22 =>
need (r22.2 = st16) <|
(shift q15 1).bind fun p23 =>
(shift p23 1).bind fun p24 =>
(aLoad false 1 p24 st16).bind fun p25 =>
need (st16 = st16) <|
(rBuildSlice 1 [.v (.string ⟨#[]⟩)] 3 [(0, p18), (1, r22.1), (2, p25)]).bind fun p26 =>
(elemsOf st16 p26).bind fun ys27 =>
(rAppend base [.v (.string ⟨#[]⟩)] 1 16 (nth r10.2.1 0) ys27 st16).bind fun r28 =>
(aBin Try.prog true .add 3 (nth r10.2.1 3) (PV.v (.int .i64 1))).bind fun p29 =>
leaveV base lb st7.stk.length Ex.normal [r28.1, (nth r10.2.1 1), (nth r10.2.1 2), p29] r28.2) fun x11 =>
leaveV base lb st7.stk.length x11 [(nth r10.2.1 0), (nth r10.2.1 1), (nth r10.2.1 2), (nth r10.2.1 3)] r10.2.2
/-- padlock/padlockref04.named -/
noncomputable def S38 (call : CallF) (it : LoopF) (a0 : PV) (st : St) : Option (PV × St) :=
(aLen Try.prog 25 a0).bind fun p1 =>
(call (.func 37) [canon p1] st).bind fun r2 =>
(rBuildSlice 1 [.v (.string ⟨#[]⟩)] 1 [(0, r2.1)]).bind fun p3 =>
(aLen Try.prog 25 a0).bind fun p4 =>
(it (S38.b0 call it st.stk.length st.lp.length) [p3, a0, p4, (PV.v (.int .i64 0))] r2.2).bind fun r5 =>
seqK (Ex.outOf 0 r5.1) (fin st.stk.length st.tk.length st.lp.length [(nth r5.2.1 0)] r5.2.2) fun x30 =>
retK x30 (fin st.stk.length st.tk.length st.lp.length [PV.u] r5.2.2)
theorem S38_eq (a0 : PV) (st : St) : E L (.func 38) [a0] st = S38 (E L) itE a0 st := (E_func' (by rfl) Try.func38 _ _).trans (by kernel_rfl)
noncomputable def S14.b0 (call : CallF) (it : LoopF) (base lb : Nat) (vs21 : List PV) (st22 : St) : Option (Ex × List PV × St) :=
(aBin Try.prog false .lss 3 (nth vs21 4) (nth vs21 3)).bind fun p23 =>
onBool p23 fun b24 => (bif b24 then
some (Ex.normal, [(nth vs21 0), (nth vs21 1), (nth vs21 2), (nth vs21 3), (nth vs21 4)], st22)
else
some ((Ex.exit 0), [(nth vs21 0), (nth vs21 1), (nth vs21 2), (nth vs21 3), (nth vs21 4)], st22)).bind fun r25 =>
seqK r25.1 ((aIndexAddr Try.prog 24 (nth r25.2.1 2) (nth r25.2.1 4)).bind fun p27 =>
(aLoad true 4 p27 r25.2.2).bind fun p28 =>
let q30 : PV := .ptr false r25.2.2.stk.length 0
let st29 := r25.2.2.push [.v (.string ⟨#[]⟩), .sl [] .nil, .v (.int .i64 0), .v (.int .i64 0)]
(aStore base 4 q30 p28 st29).bind fun st31 =>
(shift q30 0).bind fun p32 =>
(aLoad false 1 p32 st31).bind fun p33 =>
need (st31 = st31) <|
(rBuildSlice 1 [.v (.string ⟨#[]⟩)] 1 [(0, p33)]).bind fun p34 =>
(elemsOf st31 p34).bind fun ys35 =>
(rAppend base [.v (.string ⟨#[]⟩)] 1 16 (nth r25.2.1 1) ys35 st31).bind fun r36 =>
(shift q30 1).bind fun p37 =>
(aLoad false 1 p37 r36.2).bind fun p38 =>
need (r36.2 = r36.2) <|
need (((aLoad false 1 p37 st31).bind fun p39 =>
some (p39, st31)) = some (p38, st31)) <|
(call (.func 38) [canon p38] r36.2).bind fun r40 =>
need (r40.2 = r36.2) <|
(elemsOf r36.2 r40.1).bind fun ys41 =>
(rAppend base [.v (.string ⟨#[]⟩)] 1 16 r36.1 ys41 r36.2).bind fun r42 =>
(aBin Try.prog true .add 3 (nth r25.2.1 4) (PV.v (.int .i64 1))).bind fun p43 =>
leaveV base lb st22.stk.length Ex.normal [(nth r25.2.1 0), r42.1, (nth r25.2.1 2), (nth r25.2.1 3), p43] r42.2) fun x26 =>
leaveV base lb st22.stk.length x26 [(nth r25.2.1 0), (nth r25.2.1 1), (nth r25.2.1 2), (nth r25.2.1 3), (nth r25.2.1 4)] r25.2.2
noncomputable def S14.b1 (call : CallF) (it : LoopF) (base lb : Nat) (vs54 : List PV) (st55 : St) : Option (Ex × List PV × St) :=
(aBin Try.prog false .lss 3 (nth vs54 4) (nth vs54 3)).bind fun p56 =>
onBool p56 fun b57 => (bif b57 then
some (Ex.normal, [(nth vs54 0), (nth vs54 1), (nth vs54 2), (nth vs54 3), (nth vs54 4)], st55)
else
some ((Ex.exit 2), [(nth vs54 0), (nth vs54 1), (nth vs54 2), (nth vs54 3), (nth vs54 4)], st55)).bind fun r58 =>
seqK r58.1 ((aIndexAddr Try.prog 26 (nth r58.2.1 2) (nth r58.2.1 4)).bind fun p60 =>
(aLoad true 5 p60 r58.2.2).bind fun p61 =>
let q63 : PV := .ptr false r58.2.2.stk.length 0
let st62 := r58.2.2.push [.v (.string ⟨#[]⟩), .sl [] .nil, .sl [] .nil, .v (.int .i64 0), .v (.int .i64 0)]
(aStore base 5 q63 p61 st62).bind fun st64 =>
(shift q63 0).bind fun p65 =>
(aLoad false 1 p65 st64).bind fun p66 =>
need (st64 = st64) <|
(rBuildSlice 1 [.v (.string ⟨#[]⟩)] 1 [(0, p66)]).bind fun p67 =>
(elemsOf st64 p67).bind fun ys68 =>
(rAppend base [.v (.string ⟨#[]⟩)] 1 16 (nth r58.2.1 1) ys68 st64).bind fun r69 =>
(shift q63 1).bind fun p70 =>
(aLoad false 1 p70 r69.2).bind fun p71 =>
need (r69.2 = r69.2) <|
need (((aLoad false 1 p70 st64).bind fun p72 =>
some (p72, st64)) = some (p71, st64)) <|
(call (.func 38) [canon p71] r69.2).bind fun r73 =>
need (r73.2 = r69.2) <|
(elemsOf r69.2 r73.1).bind fun ys74 =>
(rAppend base [.v (.string ⟨#[]⟩)] 1 16 r69.1 ys74 r69.2).bind fun r75 =>
(shift q63 2).bind fun p76 =>
(aLoad false 1 p76 r75.2).bind fun p77 =>
need (r75.2 = r75.2) <|
need (((aLoad false 1 p76 r69.2).bind fun p78 =>
some (p78, r69.2)) = some (p77, r69.2)) <|
need (((aLoad false 1 p76 st64).bind fun p79 =>
some (p79, st64)) = some (p77, st64)) <|
(call (.func 15) [canon p77] r75.2).bind fun r80 =>
need (r80.2 = r75.2) <|
(elemsOf r75.2 r80.1).bind fun ys81 =>
(rAppend base [.v (.string ⟨#[]⟩)] 1 16 r75.1 ys81 r75.2).bind fun r82 =>
(aBin Try.prog true .add 3 (nth r58.2.1 4) (PV.v (.int .i64 1))).bind fun p83 =>
leaveV base lb st55.stk.length Ex.normal [(nth r58.2.1 0), r82.1, (nth r58.2.1 2), (nth r58.2.1 3), p83] r82.2) fun x59 =>
leaveV base lb st55.stk.length x59 [(nth r58.2.1 0), (nth r58.2.1 1), (nth r58.2.1 2), (nth r58.2.1 3), (nth r58.2.1 4)] r58.2.2
noncomputable def S14.b2 (call : CallF) (it : LoopF) (base lb : Nat) (vs89 : List PV) (st90 : St) : Option (Ex × List PV × St) :=
(aBin Try.prog false .lss 3 (nth vs89 3) (nth vs89 2)).bind fun p91 =>
onBool p91 fun b92 => (bif b92 then
some (Ex.normal, [(nth vs89 0), (nth vs89 1), (nth vs89 2), (nth vs89 3)], st90)
else
some ((Ex.exit 4), [(nth vs89 0), (nth vs89 1), (nth vs89 2), (nth vs89 3)], st90)).bind fun r93 =>
seqK r93.1 ((aIndexAddr Try.prog 27 (nth r93.2.1 1) (nth r93.2.1 3)).bind fun p95 =>
(aLoad true 3 p95 r93.2.2).bind fun p96 =>
let q98 : PV := .ptr false r93.2.2.stk.length 0
let st97 := r93.2.2.push [.sl [] .nil, .v (.int .i64 0), .v (.int .i64 0)]
(aStore base 3 q98 p96 st97).bind fun st99 =>
(shift q98 0).bind fun p100 =>
(aLoad false 1 p100 st99).bind fun p101 =>
(call (.func 15) [canon p101] st99).bind fun r102 =>
(elemsOf r102.2 r102.1).bind fun ys103 =>
(rAppend base [.v (.string ⟨#[]⟩)] 1 16 (nth r93.2.1 0) ys103 r102.2).bind fun r104 =>
(aBin Try.prog true .add 3 (nth r93.2.1 3) (PV.v (.int .i64 1))).bind fun p105 =>
leaveV base lb st90.stk.length Ex.normal [r104.1, (nth r93.2.1 1), (nth r93.2.1 2), p105] r104.2) fun x94 =>
leaveV base lb st90.stk.length x94 [(nth r93.2.1 0), (nth r93.2.1 1), (nth r93.2.1 2), (nth r93.2.1 3)] r93.2.2
/-- padlock/padlockref04.Program -/
noncomputable def S14 (call : CallF) (it : LoopF) (a0 : PV) (st : St) : Option (PV × St) :=
(cellsOf a0).bind fun b1 =>
let q3 : PV := .ptr false st.stk.length 0
let st2 := st.push b1
(shift q3 0).bind fun p4 =>
(aLoad false 1 p4 st2).bind fun p5 =>
need (st2 = st2) <|
(aLen Try.prog 24 p5).bind fun p6 =>
(call (.func 37) [canon p6] st2).bind fun r7 =>
need (r7.2 = st2) <|
(shift q3 2).bind fun p8 =>
(aLoad false 1 p8 st2).bind fun p9 =>
need (st2 = st2) <|
(aLen Try.prog 26 p9).bind fun p10 =>
(call (.func 37) [canon p10] st2).bind fun r11 =>
need (r11.2 = st2) <|
(shift q3 3).bind fun p12 =>
(aLoad false 1 p12 st2).bind fun p13 =>
need (st2 = st2) <|
(aLen Try.prog 27 p13).bind fun p14 =>
(call (.func 37) [canon p14] st2).bind fun r15 =>
need (r15.2 = st2) <|
(rBuildSlice 1 [.v (.string ⟨#[]⟩)] 3 [(0, r7.1), (1, r11.1), (2, r15.1)]).bind fun p16 =>
(shift q3 0).bind fun p17 =>
(aLoad false 1 p17 st2).bind fun p18 =>
(aLen Try.prog 24 p18).bind fun p19 =>
(it (S14.b0 call it st.stk.length st.lp.length) [q3, p16, p18, p19, (PV.v (.int .i64 0))] st2).bind fun r20 =>
seqK (Ex.outOf 0 r20.1) ((shift (nth r20.2.1 0) 1).bind fun p45 =>
(aLoad false 1 p45 r20.2.2).bind fun p46 =>
(call (.func 38) [canon p46] r20.2.2).bind fun r47 =>
(elemsOf r47.2 r47.1).bind fun ys48 =>
(rAppend st.stk.length [.v (.string ⟨#[]⟩)] 1 16 (nth r20.2.1 1) ys48 r47.2).bind fun r49 =>
(shift (nth r20.2.1 0) 2).bind fun p50 =>
(aLoad false 1 p50 r49.2).bind fun p51 =>
(aLen Try.prog 26 p51).bind fun p52 =>
(it (S14.b1 call it st.stk.length st.lp.length) [(nth r20.2.1 0), r49.1, p51, p52, (PV.v (.int .i64 0))] r49.2).bind fun r53 =>
seqK (Ex.outOf 2 r53.1) ((shift (nth r53.2.1 0) 3).bind fun p85 =>
(aLoad false 1 p85 r53.2.2).bind fun p86 =>
(aLen Try.prog 27 p86).bind fun p87 =>
(it (S14.b2 call it st.stk.length st.lp.length) [(nth r53.2.1 1), p86, p87, (PV.v (.int .i64 0))] r53.2.2).bind fun r88 =>
seqK (Ex.outOf 4 r88.1) (fin st.stk.length st.tk.length st.lp.length [(nth r88.2.1 0)] r88.2.2) fun x106 =>
retK x106 (fin st.stk.length st.tk.length st.lp.length [PV.u] r88.2.2)) fun x84 =>
retK x84 (fin st.stk.length st.tk.length st.lp.length [PV.u] r53.2.2)) fun x44 =>
retK x44 (fin st.stk.length st.tk.length st.lp.length [PV.u] r20.2.2)
theorem S14_eq (a0 : PV) (st : St) : E L (.func 14) [a0] st = S14 (E L) itE a0 st := (E_func' (by rfl) Try.func14 _ _).trans (by kernel_rfl)
end Go.Proofs.Ytkbhejcfejembaa.S
