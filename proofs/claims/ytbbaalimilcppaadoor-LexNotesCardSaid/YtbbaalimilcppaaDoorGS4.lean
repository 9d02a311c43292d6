/- The seat's functions, each as a Lean function over plain values, and that the evaluator comes to it: written by my program mkS.py. No condition. -/
import Derived.Test.YtbbaalimilcppaaDoorGS3
import Derived.KernelRfl
import Derived.Test.YtbbaalimilcppaaDoorProg
import Derived.Shelf.Small.Utf8
import Derived.Shelf.Small.Strs
import Derived.Shelf.Strconv.Itoa0
import Derived.Shelf.Strconv.Itoa1
import Derived.Shelf.LaysM
import Derived.Shelf.Strconv.Itoa2
import Derived.Shelf.Strconv.Itoa3
import Derived.Shelf.Strconv.Clone
import Derived.Shelf.Strconv.SyntaxError
import Derived.Shelf.LaysC
import Derived.Shelf.Strconv.ToError
import Derived.Shelf.Strconv.RangeError
import Derived.Shelf.Strconv.ToErrorRange
import Derived.Shelf.Strings.Search1
import Derived.Shelf.Strings.Search2
import Derived.Shelf.Strings.Search3
import Derived.Shelf.Strings.Shaped
import Derived.Shelf.Strings.Runes
import Derived.Shelf.Strings.IndexAny
import Derived.Shelf.Strings.AsciiSet
import Derived.Shelf.Strings.IndexAnyAll
import Derived.Test.YtbbaalimilcppaaDoorChecked
import Derived.Lib.Walk
import Derived.Lib.ItoaMem
import Derived.Lib.QuietBelow
import Derived.WalkKit
import Derived.ProofKit
import Derived.BigCall
import Derived.BigGuard
import Derived.Below
import Derived.WalkSmall
set_option linter.all false
namespace Go.Proofs.YtbbaalimilcppaaDoor.S
open Go Go.AM Go.Proofs
set_option linter.unusedVariables false
/-- (*padlock/lex.reader).next -/
noncomputable def S18 (call : CallF) (it : LoopF) (a0 : PV) (st : St) : Option (PV × St) :=
let q2 : PV := .ptr false st.stk.length 0
let st1 := st.push [.v (.int .i64 0), .v (.string ⟨#[]⟩), .v (.int .u64 0), .v (.int .i64 0), .v (.int .i64 0)]
(aNilCheck a0).bind fun p3 =>
(shift p3 0).bind fun p4 =>
(aLoad false 1 p4 st1).bind fun p5 =>
(aIndex Tryd.prog 9 p5 (PV.v (.int .i64 0))).bind fun p6 =>
(aConv Tryd.prog 5 21 p6).bind fun p7 =>
(call (.func 20) [canon p7] st1).bind fun r8 =>
(onG r8.1 false (
some (p7, r8.2)) r8.2).bind fun r10 =>
(onG r8.1 false (
(call (.func 21) [canon r10.1] r10.2).bind fun r13 =>
some (r13.1, r13.2)) r10.2).bind fun r12 =>
(aPick r8.1 (PV.v (.bool true)) r12.1).bind fun p14 =>
onBool p14 fun b15 => (bif b15 then
(call (.func 31) [canon a0] r12.2).bind fun r17 =>
(aExtract r17.1 0).bind fun p18 =>
(aExtract r17.1 1).bind fun p19 =>
(aStore st.stk.length 5 q2 p18 r17.2).bind fun st20 =>
some (Ex.ret, [a0, q2, p19], st20)
else
(aBin Tryd.prog true .eql 21 p7 (PV.v (.int .i32 35))).bind fun p21 =>
onBool p21 fun b22 => (bif b22 then
(call (.func 32) [canon a0] r12.2).bind fun r24 =>
(aExtract r24.1 0).bind fun p25 =>
(aExtract r24.1 1).bind fun p26 =>
(aStore st.stk.length 5 q2 p25 r24.2).bind fun st27 =>
some (Ex.ret, [a0, q2, p26], st27)
else
some (Ex.normal, [a0, q2, (PV.v (.bool false))], r12.2)).bind fun r23 =>
some (r23.1, [(nth r23.2.1 0), (nth r23.2.1 1), (nth r23.2.1 2)], r23.2.2)).bind fun r16 =>
seqK (Ex.outOf 0 r16.1) ((call (.func 33) [canon (nth r16.2.1 0)] r16.2.2).bind fun r29 =>
(aExtract r29.1 0).bind fun p30 =>
(aExtract r29.1 1).bind fun p31 =>
(aStore st.stk.length 5 (nth r16.2.1 1) p30 r29.2).bind fun st32 =>
(aLoad true 5 (nth r16.2.1 1) st32).bind fun p33 =>
fin st.stk.length st.tk.length st.lp.length [p33, p31] st32) fun x28 =>
retK x28 ((aLoad true 5 (nth r16.2.1 1) r16.2.2).bind fun p34 =>
fin st.stk.length st.tk.length st.lp.length [p34, (nth r16.2.1 2)] r16.2.2)
theorem S18_eq (a0 : PV) (st : St) : E L (.func 18) [a0] st = S18 (E L) itE a0 st := (E_func' (by rfl) Tryd.func18 _ _).trans (by kernel_rfl)
noncomputable def S10.b0 (call : CallF) (it : LoopF) (base lb : Nat) (vs15 : List PV) (st16 : St) : Option (Ex × List PV × St) :=
(call (.func 17) [canon (nth vs15 3)] st16).bind fun r17 =>
(aNilCheck (nth vs15 3)).bind fun p18 =>
(shift p18 0).bind fun p19 =>
(aLoad false 1 p19 r17.2).bind fun p20 =>
(aBin Tryd.prog true .eql 9 p20 (PV.v (.string ⟨#[]⟩))).bind fun p21 =>
onBool p21 fun b22 => (bif b22 then
(aNilCheck (nth vs15 3)).bind fun p24 =>
(shift p24 1).bind fun p25 =>
(aLoad false 1 p25 r17.2).bind fun p26 =>
need (r17.2 = r17.2) <|
(aNilCheck (nth vs15 3)).bind fun p27 =>
(shift p27 2).bind fun p28 =>
(aLoad false 1 p28 r17.2).bind fun p29 =>
need (r17.2 = r17.2) <|
(rBuild [(0, 1), (1, 1), (2, 1), (3, 1), (4, 1)] [.v (.int .i64 0), .v (.string ⟨#[]⟩), .v (.int .u64 0), .v (.int .i64 0), .v (.int .i64 0)] [(3, p26), (4, p29)]).bind fun p30 =>
(rBuildSlice 5 [.v (.int .i64 0), .v (.string ⟨#[]⟩), .v (.int .u64 0), .v (.int .i64 0), .v (.int .i64 0)] 1 [(0, p30)]).bind fun p31 =>
(elemsOf r17.2 p31).bind fun ys32 =>
(rAppend base [.v (.int .i64 0), .v (.string ⟨#[]⟩), .v (.int .u64 0), .v (.int .i64 0), .v (.int .i64 0)] 5 48 (nth vs15 2) ys32 r17.2).bind fun r33 =>
(rBuild [(0, 1), (1, 1), (2, 1)] [.v (.int .i64 0), .v (.int .i64 0), .v (.int .i64 0)] []).bind fun p34 =>
(aStore base 3 (nth vs15 1) p34 r33.2).bind fun st35 =>
some (Ex.ret, [r33.1, (nth vs15 1), (nth vs15 2), (nth vs15 3)], st35)
else
some (Ex.normal, [(nth vs15 0), (nth vs15 1), (nth vs15 2), (nth vs15 3)], r17.2)).bind fun r23 =>
seqK r23.1 ((call (.func 18) [canon (nth r23.2.1 3)] r23.2.2).bind fun r37 =>
(aExtract r37.1 0).bind fun p38 =>
(aExtract r37.1 1).bind fun p39 =>
let q41 : PV := .ptr false r37.2.stk.length 0
let st40 := r37.2.push [.v (.int .i64 0), .v (.string ⟨#[]⟩), .v (.int .u64 0), .v (.int .i64 0), .v (.int .i64 0)]
(aStore base 5 q41 p38 st40).bind fun st42 =>
(aUn Tryd.prog .not p39).bind fun p43 =>
onBool p43 fun b44 => (bif b44 then
(shift q41 3).bind fun p46 =>
(aLoad false 1 p46 st42).bind fun p47 =>
need (st42 = st42) <|
(shift q41 4).bind fun p48 =>
(aLoad false 1 p48 st42).bind fun p49 =>
need (st42 = st42) <|
(rBuild [(0, 1), (1, 1), (2, 1)] [.v (.int .i64 0), .v (.int .i64 0), .v (.int .i64 0)] [(0, (PV.v (.int .i64 3))), (1, p47), (2, p49)]).bind fun p50 =>
(aStore base 3 (nth r23.2.1 1) p50 st42).bind fun st51 =>
some (Ex.ret, [(PV.sl [] .nil), (nth r23.2.1 1), (nth r23.2.1 2), (nth r23.2.1 3), q41], st51)
else
some (Ex.normal, [(nth r23.2.1 0), (nth r23.2.1 1), (nth r23.2.1 2), (nth r23.2.1 3), q41], st42)).bind fun r45 =>
seqK r45.1 ((aLoad true 5 (nth r45.2.1 4) r45.2.2).bind fun p53 =>
(rBuildSlice 5 [.v (.int .i64 0), .v (.string ⟨#[]⟩), .v (.int .u64 0), .v (.int .i64 0), .v (.int .i64 0)] 1 [(0, p53)]).bind fun p54 =>
(elemsOf r45.2.2 p54).bind fun ys55 =>
(rAppend base [.v (.int .i64 0), .v (.string ⟨#[]⟩), .v (.int .u64 0), .v (.int .i64 0), .v (.int .i64 0)] 5 48 (nth r45.2.1 2) ys55 r45.2.2).bind fun r56 =>
leaveV base lb st16.stk.length Ex.normal [(nth r45.2.1 0), (nth r45.2.1 1), r56.1, (nth r45.2.1 3)] r56.2) fun x52 =>
leaveV base lb st16.stk.length (Ex.outOf 1 x52) [(nth r45.2.1 0), (nth r45.2.1 1), (nth r45.2.1 2), (nth r45.2.1 3)] r45.2.2) fun x36 =>
leaveV base lb st16.stk.length (Ex.outOf 1 x36) [(nth r23.2.1 0), (nth r23.2.1 1), (nth r23.2.1 2), (nth r23.2.1 3)] r23.2.2
/-- padlock/lex.Lex -/
noncomputable def S10 (call : CallF) (it : LoopF) (a0 : PV) (st : St) : Option (PV × St) :=
let q2 : PV := .ptr false st.stk.length 0
let st1 := st.push [.v (.int .i64 0), .v (.int .i64 0), .v (.int .i64 0)]
(aLen Tryd.prog 9 a0).bind fun p3 =>
(aBin Tryd.prog true .gtr 3 p3 (PV.v (.int .i64 8192))).bind fun p4 =>
onBool p4 fun b5 => (bif b5 then
(rBuild [(0, 1), (1, 1), (2, 1)] [.v (.int .i64 0), .v (.int .i64 0), .v (.int .i64 0)] [(0, (PV.v (.int .i64 10))), (1, (PV.v (.int .i64 1))), (2, (PV.v (.int .i64 1)))]).bind fun p7 =>
(aStore st.stk.length 3 q2 p7 st1).bind fun st8 =>
some (Ex.ret, [a0, (PV.sl [] .nil), q2], st8)
else
some (Ex.normal, [a0, (PV.sl [] .nil), q2], st1)).bind fun r6 =>
seqK r6.1 ((rBuild [(0, 1), (1, 1), (2, 1)] [.v (.string ⟨#[]⟩), .v (.int .i64 0), .v (.int .i64 0)] [(0, (nth r6.2.1 0)), (1, (PV.v (.int .i64 1))), (2, (PV.v (.int .i64 1)))]).bind fun p10 =>
(cellsOf p10).bind fun b11 =>
let q13 : PV := .ptr false r6.2.2.stk.length 0
let st12 := r6.2.2.push b11
(it (S10.b0 call it st.stk.length st.lp.length) [(nth r6.2.1 1), (nth r6.2.1 2), (PV.sl [] .nil), q13] st12).bind fun r14 =>
retK (Ex.outOf 0 r14.1) ((aLoad true 3 (nth r14.2.1 1) r14.2.2).bind fun p57 =>
fin st.stk.length st.tk.length st.lp.length [(nth r14.2.1 0), p57] r14.2.2)) fun x9 =>
retK x9 ((aLoad true 3 (nth r6.2.1 2) r6.2.2).bind fun p58 =>
fin st.stk.length st.tk.length st.lp.length [(nth r6.2.1 1), p58] r6.2.2)
theorem S10_eq (a0 : PV) (st : St) : E L (.func 10) [a0] st = S10 (E L) itE a0 st := (E_func' (by rfl) Tryd.func10 _ _).trans (by kernel_rfl)
/-- padlock/padlocklaw03.alive -/
noncomputable def S9 (call : CallF) (it : LoopF) (st : St) : Option (PV × St) :=
(call (.func 10) [canon (PV.v (.string ⟨#[120, 49, 60, 61, 50]⟩))] st).bind fun r1 =>
(aExtract r1.1 0).bind fun p2 =>
(aExtract r1.1 1).bind fun p3 =>
let q5 : PV := .ptr false r1.2.stk.length 0
let st4 := r1.2.push [.v (.int .i64 0), .v (.int .i64 0), .v (.int .i64 0)]
(aStore st.stk.length 3 q5 p3 st4).bind fun st6 =>
(call (.func 10) [canon (PV.v (.string ⟨#[32, 49, 120]⟩))] st6).bind fun r7 =>
(aExtract r7.1 0).bind fun p8 =>
(aExtract r7.1 1).bind fun p9 =>
let q11 : PV := .ptr false r7.2.stk.length 0
let st10 := r7.2.push [.v (.int .i64 0), .v (.int .i64 0), .v (.int .i64 0)]
(aStore st.stk.length 3 q11 p9 st10).bind fun st12 =>
(aLoad true 3 q5 st12).bind fun p13 =>
(rBuild [(0, 1), (1, 1), (2, 1)] [.v (.int .i64 0), .v (.int .i64 0), .v (.int .i64 0)] []).bind fun p14 =>
(aBin Tryd.prog false .eql 26 p13 p14).bind fun p15 =>
(onG p15 true (
some (p2, st12)) st12).bind fun r17 =>
(onG p15 true (
(aLen Tryd.prog 23 r17.1).bind fun p20 =>
some (p20, r17.2)) r17.2).bind fun r19 =>
(onG p15 true (
(aBin Tryd.prog true .eql 3 r19.1 (PV.v (.int .i64 4))).bind fun p23 =>
some (p23, r19.2)) r19.2).bind fun r22 =>
(aPick p15 r22.1 (PV.v (.bool false))).bind fun p24 =>
(onG p24 true (
some (p2, r22.2)) r22.2).bind fun r26 =>
(onG p24 true (
(aIndexAddr Tryd.prog 23 r26.1 (PV.v (.int .i64 0))).bind fun p29 =>
some (p29, r26.2)) r26.2).bind fun r28 =>
(onG p24 true (
(shift r28.1 0).bind fun p32 =>
some (p32, r28.2)) r28.2).bind fun r31 =>
(onG p24 true (
(aLoad false 1 r31.1 r31.2).bind fun p35 =>
some (p35, r31.2)) r31.2).bind fun r34 =>
(onG p24 true (
(aBin Tryd.prog true .eql 32 r34.1 (PV.v (.int .i64 1))).bind fun p38 =>
some (p38, r34.2)) r34.2).bind fun r37 =>
(aPick p24 r37.1 (PV.v (.bool false))).bind fun p39 =>
(onG p39 true (
some (p2, r37.2)) r37.2).bind fun r41 =>
(onG p39 true (
(aIndexAddr Tryd.prog 23 r41.1 (PV.v (.int .i64 1))).bind fun p44 =>
some (p44, r41.2)) r41.2).bind fun r43 =>
(onG p39 true (
(shift r43.1 1).bind fun p47 =>
some (p47, r43.2)) r43.2).bind fun r46 =>
(onG p39 true (
(aLoad false 1 r46.1 r46.2).bind fun p50 =>
some (p50, r46.2)) r46.2).bind fun r49 =>
(onG p39 true (
(aBin Tryd.prog true .eql 9 r49.1 (PV.v (.string ⟨#[60, 61]⟩))).bind fun p53 =>
some (p53, r49.2)) r49.2).bind fun r52 =>
(aPick p39 r52.1 (PV.v (.bool false))).bind fun p54 =>
(onG p54 true (
some (p2, r52.2)) r52.2).bind fun r56 =>
(onG p54 true (
(aIndexAddr Tryd.prog 23 r56.1 (PV.v (.int .i64 2))).bind fun p59 =>
some (p59, r56.2)) r56.2).bind fun r58 =>
(onG p54 true (
(shift r58.1 2).bind fun p62 =>
some (p62, r58.2)) r58.2).bind fun r61 =>
(onG p54 true (
(aLoad false 1 r61.1 r61.2).bind fun p65 =>
some (p65, r61.2)) r61.2).bind fun r64 =>
(onG p54 true (
(aBin Tryd.prog true .eql 33 r64.1 (PV.v (.int .u64 2))).bind fun p68 =>
some (p68, r64.2)) r64.2).bind fun r67 =>
(aPick p54 r67.1 (PV.v (.bool false))).bind fun p69 =>
(onG p69 true (
some (p2, r67.2)) r67.2).bind fun r71 =>
(onG p69 true (
(aIndexAddr Tryd.prog 23 r71.1 (PV.v (.int .i64 2))).bind fun p74 =>
some (p74, r71.2)) r71.2).bind fun r73 =>
(onG p69 true (
(shift r73.1 4).bind fun p77 =>
some (p77, r73.2)) r73.2).bind fun r76 =>
(onG p69 true (
(aLoad false 1 r76.1 r76.2).bind fun p80 =>
some (p80, r76.2)) r76.2).bind fun r79 =>
(onG p69 true (
(aBin Tryd.prog true .eql 3 r79.1 (PV.v (.int .i64 5))).bind fun p83 =>
some (p83, r79.2)) r79.2).bind fun r82 =>
(aPick p69 r82.1 (PV.v (.bool false))).bind fun p84 =>
(onG p84 true (
(aLoad true 3 q11 r82.2).bind fun p87 =>
some (p87, r82.2)) r82.2).bind fun r86 =>
(onG p84 true (
(rBuild [(0, 1), (1, 1), (2, 1)] [.v (.int .i64 0), .v (.int .i64 0), .v (.int .i64 0)] [(0, (PV.v (.int .i64 3))), (1, (PV.v (.int .i64 1))), (2, (PV.v (.int .i64 2)))]).bind fun p90 =>
some (p90, r86.2)) r86.2).bind fun r89 =>
(onG p84 true (
(aBin Tryd.prog false .eql 26 r86.1 r89.1).bind fun p93 =>
some (p93, r89.2)) r89.2).bind fun r92 =>
(aPick p84 r92.1 (PV.v (.bool false))).bind fun p94 =>
(onG p94 true (
(call (.func 14) [canon (PV.v (.string ⟨#[108, 111, 111, 112]⟩))] r92.2).bind fun r97 =>
some (r97.1, r97.2)) r92.2).bind fun r96 =>
(aPick p94 r96.1 (PV.v (.bool false))).bind fun p98 =>
fin st.stk.length st.tk.length st.lp.length [p98] r96.2
theorem S9_eq (st : St) : E L (.func 9) [] st = S9 (E L) itE st := (E_func' (by rfl) Tryd.func9 _ _).trans (by kernel_rfl)
/-- padlock/padlockref03.Words -/
noncomputable def S25 (call : CallF) (it : LoopF) (st : St) : Option (PV × St) :=
(rBuildSlice 1 [.v (.string ⟨#[]⟩)] 24 [(0, (PV.v (.string ⟨#[114, 101, 99, 111, 114, 100]⟩))), (1, (PV.v (.string ⟨#[103, 108, 111, 98, 97, 108]⟩))), (2, (PV.v (.string ⟨#[102, 117, 110]⟩))), (3, (PV.v (.string ⟨#[116, 104, 114, 101, 97, 100]⟩))), (4, (PV.v (.string ⟨#[108, 101, 116]⟩))), (5, (PV.v (.string ⟨#[118, 97, 114]⟩))), (6, (PV.v (.string ⟨#[115, 101, 116]⟩))), (7, (PV.v (.string ⟨#[112, 114, 105, 110, 116]⟩))), (8, (PV.v (.string ⟨#[105, 102]⟩))), (9, (PV.v (.string ⟨#[101, 108, 115, 101]⟩))), (10, (PV.v (.string ⟨#[108, 111, 111, 112]⟩))), (11, (PV.v (.string ⟨#[98, 114, 101, 97, 107]⟩))), (12, (PV.v (.string ⟨#[99, 111, 110, 116, 105, 110, 117, 101]⟩))), (13, (PV.v (.string ⟨#[97, 116, 111, 109, 105, 99]⟩))), (14, (PV.v (.string ⟨#[99, 97, 108, 108]⟩))), (15, (PV.v (.string ⟨#[108, 111, 97, 100]⟩))), (16, (PV.v (.string ⟨#[110, 101, 119]⟩))), (17, (PV.v (.string ⟨#[115, 105, 122, 101]⟩))), (18, (PV.v (.string ⟨#[105, 110, 116]⟩))), (19, (PV.v (.string ⟨#[114, 101, 97, 108]⟩))), (20, (PV.v (.string ⟨#[105, 110, 116, 115]⟩))), (21, (PV.v (.string ⟨#[110, 105, 108]⟩))), (22, (PV.v (.string ⟨#[105, 110, 112, 117, 116]⟩))), (23, (PV.v (.string ⟨#[116, 114, 117, 110, 99]⟩)))]).bind fun p1 =>
fin st.stk.length st.tk.length st.lp.length [p1] st
theorem S25_eq (st : St) : E L (.func 25) [] st = S25 (E L) itE st := (E_func' (by rfl) Tryd.func25 _ _).trans (by kernel_rfl)
noncomputable def S16.b0 (call : CallF) (it : LoopF) (base lb : Nat) (vs4 : List PV) (st5 : St) : Option (Ex × List PV × St) :=
(aBin Tryd.prog false .lss 3 (nth vs4 4) (nth vs4 3)).bind fun p6 =>
onBool p6 fun b7 => (bif b7 then
some (Ex.normal, [(nth vs4 0), (nth vs4 1), (nth vs4 2), (nth vs4 3), (nth vs4 4)], st5)
else
some ((Ex.exit 0), [(nth vs4 0), (nth vs4 1), (nth vs4 2), (nth vs4 3), (nth vs4 4)], st5)).bind fun r8 =>
seqK r8.1 ((aIndexAddr Tryd.prog 50 (nth r8.2.1 2) (nth r8.2.1 4)).bind fun p10 =>
(aLoad false 1 p10 r8.2.2).bind fun p11 =>
(aBin Tryd.prog false .eql 9 p11 (nth r8.2.1 0)).bind fun p12 =>
onBool p12 fun b13 => (bif b13 then
some (Ex.ret, [(nth r8.2.1 0), (PV.v (.bool true)), (nth r8.2.1 2), (nth r8.2.1 3), (nth r8.2.1 4)], r8.2.2)
else
some (Ex.normal, [(nth r8.2.1 0), (nth r8.2.1 1), (nth r8.2.1 2), (nth r8.2.1 3), (nth r8.2.1 4)], r8.2.2)).bind fun r14 =>
seqK (Ex.outOf 1 r14.1) ((aBin Tryd.prog true .add 3 (nth r14.2.1 4) (PV.v (.int .i64 1))).bind fun p16 =>
some (Ex.normal, [(nth r14.2.1 0), (nth r14.2.1 1), (nth r14.2.1 2), (nth r14.2.1 3), p16], r14.2.2)) fun x15 =>
some (x15, [(nth r14.2.1 0), (nth r14.2.1 1), (nth r14.2.1 2), (nth r14.2.1 3), (nth r14.2.1 4)], r14.2.2)) fun x9 =>
some (x9, [(nth r8.2.1 0), (nth r8.2.1 1), (nth r8.2.1 2), (nth r8.2.1 3), (nth r8.2.1 4)], r8.2.2)
/-- padlock/padlockref03.IsWord -/
noncomputable def S16 (call : CallF) (it : LoopF) (a0 : PV) (st : St) : Option (PV × St) :=
(call (.func 25) [] st).bind fun r1 =>
(aLen Tryd.prog 50 r1.1).bind fun p2 =>
(it (S16.b0 call it st.stk.length st.lp.length) [a0, (PV.v (.bool false)), r1.1, p2, (PV.v (.int .i64 0))] r1.2).bind fun r3 =>
seqK (Ex.outOf 0 r3.1) (fin st.stk.length st.tk.length st.lp.length [(PV.v (.bool false))] r3.2.2) fun x17 =>
retK x17 (fin st.stk.length st.tk.length st.lp.length [(nth r3.2.1 1)] r3.2.2)
theorem S16_eq (a0 : PV) (st : St) : E L (.func 16) [a0] st = S16 (E L) itE a0 st := (E_func' (by rfl) Tryd.func16 _ _).trans (by kernel_rfl)
/-- padlock/padlockref03.Letter -/
noncomputable def S23 (call : CallF) (it : LoopF) (a0 : PV) (st : St) : Option (PV × St) :=
(aBin Tryd.prog true .geq 5 a0 (PV.v (.int .u8 97))).bind fun p1 =>
(onG p1 true (
some (a0, st)) st).bind fun r3 =>
(onG p1 true (
(aBin Tryd.prog true .leq 5 r3.1 (PV.v (.int .u8 122))).bind fun p6 =>
some (p6, r3.2)) r3.2).bind fun r5 =>
(aPick p1 r5.1 (PV.v (.bool false))).bind fun p7 =>
(onG p7 false (
some (a0, r5.2)) r5.2).bind fun r9 =>
(onG p7 false (
(aBin Tryd.prog true .geq 5 r9.1 (PV.v (.int .u8 65))).bind fun p12 =>
some (p12, r9.2)) r9.2).bind fun r11 =>
(onG p7 false (
some (r11.1, r11.2)) r11.2).bind fun r14 =>
(onG r14.1 true (
some (a0, r14.2)) r14.2).bind fun r16 =>
(onG r14.1 true (
(aBin Tryd.prog true .leq 5 r16.1 (PV.v (.int .u8 90))).bind fun p19 =>
some (p19, r16.2)) r16.2).bind fun r18 =>
(onG p7 false (
(aPick r14.1 r18.1 (PV.v (.bool false))).bind fun p22 =>
some (p22, r18.2)) r18.2).bind fun r21 =>
(aPick p7 (PV.v (.bool true)) r21.1).bind fun p23 =>
(onG p23 false (
some (a0, r21.2)) r21.2).bind fun r25 =>
(onG p23 false (
(aBin Tryd.prog true .eql 5 r25.1 (PV.v (.int .u8 95))).bind fun p28 =>
some (p28, r25.2)) r25.2).bind fun r27 =>
(aPick p23 (PV.v (.bool true)) r27.1).bind fun p29 =>
fin st.stk.length st.tk.length st.lp.length [p29] r27.2
theorem S23_eq (a0 : PV) (st : St) : E L (.func 23) [a0] st = S23 (E L) itE a0 st := (E_func' (by rfl) Tryd.func23 _ _).trans (by kernel_rfl)
/-- padlock/padlockref03.Digit -/
noncomputable def S24 (call : CallF) (it : LoopF) (a0 : PV) (st : St) : Option (PV × St) :=
(aBin Tryd.prog true .geq 5 a0 (PV.v (.int .u8 48))).bind fun p1 =>
(onG p1 true (
some (a0, st)) st).bind fun r3 =>
(onG p1 true (
(aBin Tryd.prog true .leq 5 r3.1 (PV.v (.int .u8 57))).bind fun p6 =>
some (p6, r3.2)) r3.2).bind fun r5 =>
(aPick p1 r5.1 (PV.v (.bool false))).bind fun p7 =>
fin st.stk.length st.tk.length st.lp.length [p7] r5.2
theorem S24_eq (a0 : PV) (st : St) : E L (.func 24) [a0] st = S24 (E L) itE a0 st := (E_func' (by rfl) Tryd.func24 _ _).trans (by kernel_rfl)
noncomputable def S15.b0 (call : CallF) (it : LoopF) (base lb : Nat) (vs24 : List PV) (st25 : St) : Option (Ex × List PV × St) :=
(aLen Tryd.prog 9 (nth vs24 0)).bind fun p26 =>
(aBin Tryd.prog false .lss 3 (nth vs24 2) p26).bind fun p27 =>
onBool p27 fun b28 => (bif b28 then
some (Ex.normal, [(nth vs24 0), (nth vs24 1), (nth vs24 2)], st25)
else
some ((Ex.exit 0), [(nth vs24 0), (nth vs24 1), (nth vs24 2)], st25)).bind fun r29 =>
seqK r29.1 ((aIndex Tryd.prog 9 (nth r29.2.1 0) (nth r29.2.1 2)).bind fun p31 =>
(call (.func 23) [canon p31] r29.2.2).bind fun r32 =>
(aUn Tryd.prog .not r32.1).bind fun p33 =>
(onG p33 true (
some ((nth r29.2.1 0), r32.2)) r32.2).bind fun r35 =>
(onG p33 true (
some ((nth r29.2.1 2), r35.2)) r35.2).bind fun r37 =>
(onG p33 true (
(aIndex Tryd.prog 9 r35.1 r37.1).bind fun p40 =>
some (p40, r37.2)) r37.2).bind fun r39 =>
(onG p33 true (
(call (.func 24) [canon r39.1] r39.2).bind fun r43 =>
some (r43.1, r43.2)) r39.2).bind fun r42 =>
(onG p33 true (
(aUn Tryd.prog .not r42.1).bind fun p46 =>
some (p46, r42.2)) r42.2).bind fun r45 =>
(aPick p33 r45.1 (PV.v (.bool false))).bind fun p47 =>
onBool p47 fun b48 => (bif b48 then
some (Ex.ret, [(nth r29.2.1 0), (PV.v (.bool false)), (nth r29.2.1 2)], r45.2)
else
some (Ex.normal, [(nth r29.2.1 0), (nth r29.2.1 1), (nth r29.2.1 2)], r45.2)).bind fun r49 =>
seqK (Ex.outOf 1 r49.1) ((aBin Tryd.prog true .add 3 (nth r49.2.1 2) (PV.v (.int .i64 1))).bind fun p51 =>
some (Ex.normal, [(nth r49.2.1 0), (nth r49.2.1 1), p51], r49.2.2)) fun x50 =>
some (x50, [(nth r49.2.1 0), (nth r49.2.1 1), (nth r49.2.1 2)], r49.2.2)) fun x30 =>
some (x30, [(nth r29.2.1 0), (nth r29.2.1 1), (nth r29.2.1 2)], r29.2.2)
/-- padlock/padlockref03.IsName -/
noncomputable def S15 (call : CallF) (it : LoopF) (a0 : PV) (st : St) : Option (PV × St) :=
(aBin Tryd.prog true .eql 9 a0 (PV.v (.string ⟨#[]⟩))).bind fun p1 =>
(onG p1 false (
some (a0, st)) st).bind fun r3 =>
(onG p1 false (
(call (.func 16) [canon r3.1] r3.2).bind fun r6 =>
some (r6.1, r6.2)) r3.2).bind fun r5 =>
(aPick p1 (PV.v (.bool true)) r5.1).bind fun p7 =>
(onG p7 false (
some (a0, r5.2)) r5.2).bind fun r9 =>
(onG p7 false (
(aIndex Tryd.prog 9 r9.1 (PV.v (.int .i64 0))).bind fun p12 =>
some (p12, r9.2)) r9.2).bind fun r11 =>
(onG p7 false (
(call (.func 23) [canon r11.1] r11.2).bind fun r15 =>
some (r15.1, r15.2)) r11.2).bind fun r14 =>
(onG p7 false (
(aUn Tryd.prog .not r14.1).bind fun p18 =>
some (p18, r14.2)) r14.2).bind fun r17 =>
(aPick p7 (PV.v (.bool true)) r17.1).bind fun p19 =>
onBool p19 fun b20 => (bif b20 then
some (Ex.ret, [a0, (PV.v (.bool false))], r17.2)
else
some (Ex.normal, [a0, (PV.v (.bool false))], r17.2)).bind fun r21 =>
seqK r21.1 ((it (S15.b0 call it st.stk.length st.lp.length) [(nth r21.2.1 0), (nth r21.2.1 1), (PV.v (.int .i64 0))] r21.2.2).bind fun r23 =>
seqK (Ex.outOf 0 r23.1) (fin st.stk.length st.tk.length st.lp.length [(PV.v (.bool true))] r23.2.2) fun x52 =>
retK x52 (fin st.stk.length st.tk.length st.lp.length [(nth r23.2.1 1)] r23.2.2)) fun x22 =>
retK x22 (fin st.stk.length st.tk.length st.lp.length [(nth r21.2.1 1)] r21.2.2)
theorem S15_eq (a0 : PV) (st : St) : E L (.func 15) [a0] st = S15 (E L) itE a0 st := (E_func' (by rfl) Tryd.func15 _ _).trans (by kernel_rfl)
noncomputable def S34.b0 (call : CallF) (it : LoopF) (base lb : Nat) (vs2 : List PV) (st3 : St) : Option (Ex × List PV × St) :=
(aLen Tryd.prog 9 (nth vs2 0)).bind fun p4 =>
(aBin Tryd.prog false .lss 3 (nth vs2 1) p4).bind fun p5 =>
(onG p5 true (
some ((nth vs2 0), st3)) st3).bind fun r7 =>
(onG p5 true (
some ((nth vs2 1), r7.2)) r7.2).bind fun r9 =>
(onG p5 true (
(aIndex Tryd.prog 9 r7.1 r9.1).bind fun p12 =>
some (p12, r9.2)) r9.2).bind fun r11 =>
(onG p5 true (
(call (.func 23) [canon r11.1] r11.2).bind fun r15 =>
some (r15.1, r15.2)) r11.2).bind fun r14 =>
(onG p5 true (
some (r14.1, r14.2)) r14.2).bind fun r17 =>
(onG r17.1 false (
some ((nth vs2 0), r17.2)) r17.2).bind fun r19 =>
(onG r17.1 false (
some ((nth vs2 1), r19.2)) r19.2).bind fun r21 =>
(onG r17.1 false (
(aIndex Tryd.prog 9 r19.1 r21.1).bind fun p24 =>
some (p24, r21.2)) r21.2).bind fun r23 =>
(onG r17.1 false (
(call (.func 24) [canon r23.1] r23.2).bind fun r27 =>
some (r27.1, r27.2)) r23.2).bind fun r26 =>
(onG p5 true (
(aPick r17.1 (PV.v (.bool true)) r26.1).bind fun p30 =>
some (p30, r26.2)) r26.2).bind fun r29 =>
(aPick p5 r29.1 (PV.v (.bool false))).bind fun p31 =>
onBool p31 fun b32 => (bif b32 then
some (Ex.normal, [(nth vs2 0), (nth vs2 1)], r29.2)
else
some ((Ex.exit 0), [(nth vs2 0), (nth vs2 1)], r29.2)).bind fun r33 =>
seqK r33.1 ((aBin Tryd.prog true .add 3 (nth r33.2.1 1) (PV.v (.int .i64 1))).bind fun p35 =>
some (Ex.normal, [(nth r33.2.1 0), p35], r33.2.2)) fun x34 =>
some (x34, [(nth r33.2.1 0), (nth r33.2.1 1)], r33.2.2)
/-- padlock/padlockref03.row -/
noncomputable def S34 (call : CallF) (it : LoopF) (a0 a1 : PV) (st : St) : Option (PV × St) :=
(it (S34.b0 call it st.stk.length st.lp.length) [a0, a1] st).bind fun r1 =>
seqK (Ex.outOf 0 r1.1) (fin st.stk.length st.tk.length st.lp.length [(nth r1.2.1 1)] r1.2.2) fun x36 =>
retK x36 (fin st.stk.length st.tk.length st.lp.length [PV.u] r1.2.2)
theorem S34_eq (a0 a1 : PV) (st : St) : E L (.func 34) [a0, a1] st = S34 (E L) itE a0 a1 st := (E_func' (by rfl) Tryd.func34 _ _).trans (by kernel_rfl)
noncomputable def S35.b0 (call : CallF) (it : LoopF) (base lb : Nat) (vs2 : List PV) (st3 : St) : Option (Ex × List PV × St) :=
(aLen Tryd.prog 9 (nth vs2 0)).bind fun p4 =>
(aBin Tryd.prog false .lss 3 (nth vs2 4) p4).bind fun p5 =>
onBool p5 fun b6 => (bif b6 then
some (Ex.normal, [(nth vs2 0), (nth vs2 1), (nth vs2 2), (nth vs2 3), (nth vs2 4)], st3)
else
some ((Ex.exit 0), [(nth vs2 0), (nth vs2 1), (nth vs2 2), (nth vs2 3), (nth vs2 4)], st3)).bind fun r7 =>
seqK r7.1 ((aIndex Tryd.prog 9 (nth r7.2.1 0) (nth r7.2.1 4)).bind fun p9 =>
(call (.func 24) [canon p9] r7.2.2).bind fun r10 =>
onBool r10.1 fun b11 => (bif b11 then
(aBin Tryd.prog true .mul 33 (PV.v (.int .u64 16)) (nth r7.2.1 3)).bind fun p13 =>
(aBin Tryd.prog true .sub 5 p9 (PV.v (.int .u8 48))).bind fun p14 =>
(aConv Tryd.prog 5 33 p14).bind fun p15 =>
(aBin Tryd.prog false .add 33 p13 p15).bind fun p16 =>
some (Ex.normal, [(nth r7.2.1 0), (nth r7.2.1 1), (nth r7.2.1 2), p16, (nth r7.2.1 4)], r10.2)
else
(aBin Tryd.prog true .geq 5 p9 (PV.v (.int .u8 97))).bind fun p17 =>
(onG p17 true (
some (p9, r10.2)) r10.2).bind fun r19 =>
(onG p17 true (
(aBin Tryd.prog true .leq 5 r19.1 (PV.v (.int .u8 102))).bind fun p22 =>
some (p22, r19.2)) r19.2).bind fun r21 =>
(aPick p17 r21.1 (PV.v (.bool false))).bind fun p23 =>
onBool p23 fun b24 => (bif b24 then
(aBin Tryd.prog true .mul 33 (PV.v (.int .u64 16)) (nth r7.2.1 3)).bind fun p26 =>
(aBin Tryd.prog true .sub 5 p9 (PV.v (.int .u8 97))).bind fun p27 =>
(aConv Tryd.prog 5 33 p27).bind fun p28 =>
(aBin Tryd.prog false .add 33 p26 p28).bind fun p29 =>
(aBin Tryd.prog true .add 33 p29 (PV.v (.int .u64 10))).bind fun p30 =>
some (Ex.normal, [(nth r7.2.1 0), (nth r7.2.1 1), (nth r7.2.1 2), p30, (nth r7.2.1 4)], r21.2)
else
some (Ex.ret, [(nth r7.2.1 0), (PV.v (.int .u64 0)), (PV.v (.bool false)), (nth r7.2.1 3), (nth r7.2.1 4)], r21.2)).bind fun r25 =>
some (r25.1, [(nth r25.2.1 0), (nth r25.2.1 1), (nth r25.2.1 2), (nth r25.2.1 3), (nth r25.2.1 4)], r25.2.2)).bind fun r12 =>
seqK (Ex.outOf 1 r12.1) ((aBin Tryd.prog true .add 3 (nth r12.2.1 4) (PV.v (.int .i64 1))).bind fun p32 =>
some (Ex.normal, [(nth r12.2.1 0), (nth r12.2.1 1), (nth r12.2.1 2), (nth r12.2.1 3), p32], r12.2.2)) fun x31 =>
some (x31, [(nth r12.2.1 0), (nth r12.2.1 1), (nth r12.2.1 2), (nth r12.2.1 3), (nth r12.2.1 4)], r12.2.2)) fun x8 =>
some (x8, [(nth r7.2.1 0), (nth r7.2.1 1), (nth r7.2.1 2), (nth r7.2.1 3), (nth r7.2.1 4)], r7.2.2)
/-- padlock/padlockref03.bits -/
noncomputable def S35 (call : CallF) (it : LoopF) (a0 : PV) (st : St) : Option (PV × St) :=
(it (S35.b0 call it st.stk.length st.lp.length) [a0, (PV.v (.int .u64 0)), (PV.v (.bool false)), (PV.v (.int .u64 0)), (PV.v (.int .i64 0))] st).bind fun r1 =>
seqK (Ex.outOf 0 r1.1) ((aLen Tryd.prog 9 (nth r1.2.1 0)).bind fun p34 =>
(aBin Tryd.prog true .eql 3 p34 (PV.v (.int .i64 16))).bind fun p35 =>
fin st.stk.length st.tk.length st.lp.length [(nth r1.2.1 3), p35] r1.2.2) fun x33 =>
retK x33 (fin st.stk.length st.tk.length st.lp.length [(nth r1.2.1 1), (nth r1.2.1 2)] r1.2.2)
theorem S35_eq (a0 : PV) (st : St) : E L (.func 35) [a0] st = S35 (E L) itE a0 st := (E_func' (by rfl) Tryd.func35 _ _).trans (by kernel_rfl)
noncomputable def S36.b0 (call : CallF) (it : LoopF) (base lb : Nat) (vs4 : List PV) (st5 : St) : Option (Ex × List PV × St) :=
(aBin Tryd.prog false .lss 3 (nth vs4 5) (nth vs4 4)).bind fun p6 =>
onBool p6 fun b7 => (bif b7 then
some (Ex.normal, [(nth vs4 0), (nth vs4 1), (nth vs4 2), (nth vs4 3), (nth vs4 4), (nth vs4 5)], st5)
else
some ((Ex.exit 0), [(nth vs4 0), (nth vs4 1), (nth vs4 2), (nth vs4 3), (nth vs4 4), (nth vs4 5)], st5)).bind fun r8 =>
seqK r8.1 ((aIndexAddr Tryd.prog 50 (nth r8.2.1 3) (nth r8.2.1 5)).bind fun p10 =>
(aLoad false 1 p10 r8.2.2).bind fun p11 =>
(aLen Tryd.prog 9 p11).bind fun p12 =>
(aBin Tryd.prog false .add 3 (nth r8.2.1 1) p12).bind fun p13 =>
(aLen Tryd.prog 9 (nth r8.2.1 0)).bind fun p14 =>
(aBin Tryd.prog false .leq 3 p13 p14).bind fun p15 =>
(onG p15 true (
some ((nth r8.2.1 0), r8.2.2)) r8.2.2).bind fun r17 =>
(onG p15 true (
some ((nth r8.2.1 1), r17.2)) r17.2).bind fun r19 =>
(onG p15 true (
some ((nth r8.2.1 1), r19.2)) r19.2).bind fun r21 =>
(onG p15 true (
some (p11, r21.2)) r21.2).bind fun r23 =>
(onG p15 true (
(aLen Tryd.prog 9 r23.1).bind fun p26 =>
some (p26, r23.2)) r23.2).bind fun r25 =>
(onG p15 true (
(aBin Tryd.prog false .add 3 r21.1 r25.1).bind fun p29 =>
some (p29, r25.2)) r25.2).bind fun r28 =>
(onG p15 true (
(aSlice Tryd.prog 9 r17.1 (some r19.1) (some r28.1) none).bind fun p32 =>
some (p32, r28.2)) r28.2).bind fun r31 =>
(onG p15 true (
some (p11, r31.2)) r31.2).bind fun r34 =>
(onG p15 true (
(aBin Tryd.prog false .eql 9 r31.1 r34.1).bind fun p37 =>
some (p37, r34.2)) r34.2).bind fun r36 =>
(aPick p15 r36.1 (PV.v (.bool false))).bind fun p38 =>
onBool p38 fun b39 => (bif b39 then
some (Ex.ret, [(nth r8.2.1 0), (nth r8.2.1 1), p11, (nth r8.2.1 3), (nth r8.2.1 4), (nth r8.2.1 5)], r36.2)
else
some (Ex.normal, [(nth r8.2.1 0), (nth r8.2.1 1), (nth r8.2.1 2), (nth r8.2.1 3), (nth r8.2.1 4), (nth r8.2.1 5)], r36.2)).bind fun r40 =>
seqK (Ex.outOf 1 r40.1) ((aBin Tryd.prog true .add 3 (nth r40.2.1 5) (PV.v (.int .i64 1))).bind fun p42 =>
some (Ex.normal, [(nth r40.2.1 0), (nth r40.2.1 1), (nth r40.2.1 2), (nth r40.2.1 3), (nth r40.2.1 4), p42], r40.2.2)) fun x41 =>
some (x41, [(nth r40.2.1 0), (nth r40.2.1 1), (nth r40.2.1 2), (nth r40.2.1 3), (nth r40.2.1 4), (nth r40.2.1 5)], r40.2.2)) fun x9 =>
some (x9, [(nth r8.2.1 0), (nth r8.2.1 1), (nth r8.2.1 2), (nth r8.2.1 3), (nth r8.2.1 4), (nth r8.2.1 5)], r8.2.2)
/-- padlock/padlockref03.Sign -/
noncomputable def S36 (call : CallF) (it : LoopF) (a0 a1 : PV) (st : St) : Option (PV × St) :=
(rBuildSlice 1 [.v (.string ⟨#[]⟩)] 20 [(0, (PV.v (.string ⟨#[61, 61]⟩))), (1, (PV.v (.string ⟨#[33, 61]⟩))), (2, (PV.v (.string ⟨#[60, 61]⟩))), (3, (PV.v (.string ⟨#[123]⟩))), (4, (PV.v (.string ⟨#[125]⟩))), (5, (PV.v (.string ⟨#[40]⟩))), (6, (PV.v (.string ⟨#[41]⟩))), (7, (PV.v (.string ⟨#[91]⟩))), (8, (PV.v (.string ⟨#[93]⟩))), (9, (PV.v (.string ⟨#[59]⟩))), (10, (PV.v (.string ⟨#[58]⟩))), (11, (PV.v (.string ⟨#[44]⟩))), (12, (PV.v (.string ⟨#[46]⟩))), (13, (PV.v (.string ⟨#[61]⟩))), (14, (PV.v (.string ⟨#[60]⟩))), (15, (PV.v (.string ⟨#[43]⟩))), (16, (PV.v (.string ⟨#[45]⟩))), (17, (PV.v (.string ⟨#[42]⟩))), (18, (PV.v (.string ⟨#[47]⟩))), (19, (PV.v (.string ⟨#[37]⟩)))]).bind fun p1 =>
(aLen Tryd.prog 50 p1).bind fun p2 =>
(it (S36.b0 call it st.stk.length st.lp.length) [a0, a1, (PV.v (.string ⟨#[]⟩)), p1, p2, (PV.v (.int .i64 0))] st).bind fun r3 =>
seqK (Ex.outOf 0 r3.1) (fin st.stk.length st.tk.length st.lp.length [(PV.v (.string ⟨#[]⟩))] r3.2.2) fun x43 =>
retK x43 (fin st.stk.length st.tk.length st.lp.length [(nth r3.2.1 2)] r3.2.2)
theorem S36_eq (a0 a1 : PV) (st : St) : E L (.func 36) [a0, a1] st = S36 (E L) itE a0 a1 st := (E_func' (by rfl) Tryd.func36 _ _).trans (by kernel_rfl)
noncomputable def S37.b0 (call : CallF) (it : LoopF) (base lb : Nat) (vs29 : List PV) (st30 : St) : Option (Ex × List PV × St) :=
(aLen Tryd.prog 9 (nth vs29 0)).bind fun p31 =>
(aBin Tryd.prog false .lss 3 (nth vs29 4) p31).bind fun p32 =>
onBool p32 fun b33 => (bif b33 then
some (Ex.normal, [(nth vs29 0), (nth vs29 1), (nth vs29 2), (nth vs29 3), (nth vs29 4)], st30)
else
some ((Ex.exit 0), [(nth vs29 0), (nth vs29 1), (nth vs29 2), (nth vs29 3), (nth vs29 4)], st30)).bind fun r34 =>
seqK r34.1 ((aIndex Tryd.prog 9 (nth r34.2.1 0) (nth r34.2.1 4)).bind fun p36 =>
(call (.func 24) [canon p36] r34.2.2).bind fun r37 =>
(aUn Tryd.prog .not r37.1).bind fun p38 =>
onBool p38 fun b39 => (bif b39 then
some (Ex.ret, [(nth r34.2.1 0), (PV.v (.int .u64 0)), (PV.v (.bool false)), (nth r34.2.1 3), (nth r34.2.1 4)], r37.2)
else
some (Ex.normal, [(nth r34.2.1 0), (nth r34.2.1 1), (nth r34.2.1 2), (nth r34.2.1 3), (nth r34.2.1 4)], r37.2)).bind fun r40 =>
seqK r40.1 ((aBin Tryd.prog true .mul 33 (PV.v (.int .u64 10)) (nth r40.2.1 3)).bind fun p42 =>
(aIndex Tryd.prog 9 (nth r40.2.1 0) (nth r40.2.1 4)).bind fun p43 =>
(aBin Tryd.prog true .sub 5 p43 (PV.v (.int .u8 48))).bind fun p44 =>
(aConv Tryd.prog 5 33 p44).bind fun p45 =>
(aBin Tryd.prog false .add 33 p42 p45).bind fun p46 =>
(aBin Tryd.prog true .add 3 (nth r40.2.1 4) (PV.v (.int .i64 1))).bind fun p47 =>
some (Ex.normal, [(nth r40.2.1 0), (nth r40.2.1 1), (nth r40.2.1 2), p46, p47], r40.2.2)) fun x41 =>
seqK (Ex.outOf 1 x41) ((aBin Tryd.prog true .add 3 (nth r40.2.1 4) (PV.v (.int .i64 1))).bind fun p49 =>
some (Ex.normal, [(nth r40.2.1 0), (nth r40.2.1 1), (nth r40.2.1 2), (nth r40.2.1 3), p49], r40.2.2)) fun x48 =>
some (x48, [(nth r40.2.1 0), (nth r40.2.1 1), (nth r40.2.1 2), (nth r40.2.1 3), (nth r40.2.1 4)], r40.2.2)) fun x35 =>
some (x35, [(nth r34.2.1 0), (nth r34.2.1 1), (nth r34.2.1 2), (nth r34.2.1 3), (nth r34.2.1 4)], r34.2.2)
/-- padlock/padlockref03.whole -/
noncomputable def S37 (call : CallF) (it : LoopF) (a0 : PV) (st : St) : Option (PV × St) :=
(aLen Tryd.prog 9 a0).bind fun p1 =>
(aBin Tryd.prog true .gtr 3 p1 (PV.v (.int .i64 19))).bind fun p2 =>
(onG p2 false (
some (a0, st)) st).bind fun r4 =>
(onG p2 false (
(aLen Tryd.prog 9 r4.1).bind fun p7 =>
some (p7, r4.2)) r4.2).bind fun r6 =>
(onG p2 false (
(aBin Tryd.prog true .gtr 3 r6.1 (PV.v (.int .i64 1))).bind fun p10 =>
some (p10, r6.2)) r6.2).bind fun r9 =>
(onG p2 false (
some (r9.1, r9.2)) r9.2).bind fun r12 =>
(onG r12.1 true (
some (a0, r12.2)) r12.2).bind fun r14 =>
(onG r12.1 true (
(aIndex Tryd.prog 9 r14.1 (PV.v (.int .i64 0))).bind fun p17 =>
some (p17, r14.2)) r14.2).bind fun r16 =>
(onG r12.1 true (
(aBin Tryd.prog true .eql 5 r16.1 (PV.v (.int .u8 48))).bind fun p20 =>
some (p20, r16.2)) r16.2).bind fun r19 =>
(onG p2 false (
(aPick r12.1 r19.1 (PV.v (.bool false))).bind fun p23 =>
some (p23, r19.2)) r19.2).bind fun r22 =>
(aPick p2 (PV.v (.bool true)) r22.1).bind fun p24 =>
onBool p24 fun b25 => (bif b25 then
some (Ex.ret, [a0, (PV.v (.int .u64 0)), (PV.v (.bool false))], r22.2)
else
some (Ex.normal, [a0, (PV.v (.int .u64 0)), (PV.v (.bool false))], r22.2)).bind fun r26 =>
seqK r26.1 ((it (S37.b0 call it st.stk.length st.lp.length) [(nth r26.2.1 0), (nth r26.2.1 1), (nth r26.2.1 2), (PV.v (.int .u64 0)), (PV.v (.int .i64 0))] r26.2.2).bind fun r28 =>
seqK (Ex.outOf 0 r28.1) ((aBin Tryd.prog true .lss 33 (nth r28.2.1 3) (PV.v (.int .u64 9223372036854775808))).bind fun p51 =>
fin st.stk.length st.tk.length st.lp.length [(nth r28.2.1 3), p51] r28.2.2) fun x50 =>
retK x50 (fin st.stk.length st.tk.length st.lp.length [(nth r28.2.1 1), (nth r28.2.1 2)] r28.2.2)) fun x27 =>
retK x27 (fin st.stk.length st.tk.length st.lp.length [(nth r26.2.1 1), (nth r26.2.1 2)] r26.2.2)
theorem S37_eq (a0 : PV) (st : St) : E L (.func 37) [a0] st = S37 (E L) itE a0 st := (E_func' (by rfl) Tryd.func37 _ _).trans (by kernel_rfl)
/-- padlock/padlockref03.One -/
noncomputable def S19 (call : CallF) (it : LoopF) (a0 a1 : PV) (st : St) : Option (PV × St) :=
let q2 : PV := .ptr false st.stk.length 0
let st1 := st.push [.v (.int .i64 0), .v (.string ⟨#[]⟩), .v (.int .u64 0), .v (.int .i64 0), .v (.int .i64 0)]
(aIndex Tryd.prog 9 a0 a1).bind fun p3 =>
(aBin Tryd.prog true .eql 5 p3 (PV.v (.int .u8 35))).bind fun p4 =>
onBool p4 fun b5 => (bif b5 then
(aBin Tryd.prog true .add 3 a1 (PV.v (.int .i64 1))).bind fun p7 =>
(call (.func 34) [canon a0, canon p7] st1).bind fun r8 =>
(aBin Tryd.prog true .add 3 a1 (PV.v (.int .i64 1))).bind fun p9 =>
(aSlice Tryd.prog 9 a0 (some p9) (some r8.1) none).bind fun p10 =>
(call (.func 35) [canon p10] r8.2).bind fun r11 =>
(aExtract r11.1 0).bind fun p12 =>
(aExtract r11.1 1).bind fun p13 =>
(aUn Tryd.prog .not p13).bind fun p14 =>
onBool p14 fun b15 => (bif b15 then
(rBuild [(0, 1), (1, 1), (2, 1), (3, 1), (4, 1)] [.v (.int .i64 0), .v (.string ⟨#[]⟩), .v (.int .u64 0), .v (.int .i64 0), .v (.int .i64 0)] []).bind fun p17 =>
(aStore st.stk.length 5 q2 p17 r11.2).bind fun st18 =>
some (Ex.ret, [a0, a1, q2, a1, r8.1, p12], st18)
else
some (Ex.normal, [a0, a1, q2, (PV.v (.int .i64 0)), r8.1, p12], r11.2)).bind fun r16 =>
seqK r16.1 ((aSlice Tryd.prog 9 (nth r16.2.1 0) (some (nth r16.2.1 1)) (some (nth r16.2.1 4)) none).bind fun p20 =>
(rBuild [(0, 1), (1, 1), (2, 1), (3, 1), (4, 1)] [.v (.int .i64 0), .v (.string ⟨#[]⟩), .v (.int .u64 0), .v (.int .i64 0), .v (.int .i64 0)] [(0, (PV.v (.int .i64 4))), (1, p20), (2, (nth r16.2.1 5))]).bind fun p21 =>
(aStore st.stk.length 5 (nth r16.2.1 2) p21 r16.2.2).bind fun st22 =>
some (Ex.ret, [(nth r16.2.1 0), (nth r16.2.1 1), (nth r16.2.1 2), (nth r16.2.1 4)], st22)) fun x19 =>
some (x19, [(nth r16.2.1 0), (nth r16.2.1 1), (nth r16.2.1 2), (nth r16.2.1 3)], r16.2.2)
else
some (Ex.normal, [a0, a1, q2, (PV.v (.int .i64 0))], st1)).bind fun r6 =>
seqK r6.1 ((call (.func 34) [canon (nth r6.2.1 0), canon (nth r6.2.1 1)] r6.2.2).bind fun r24 =>
(aBin Tryd.prog false .eql 3 r24.1 (nth r6.2.1 1)).bind fun p25 =>
onBool p25 fun b26 => (bif b26 then
(call (.func 36) [canon (nth r6.2.1 0), canon (nth r6.2.1 1)] r24.2).bind fun r28 =>
(aBin Tryd.prog true .eql 9 r28.1 (PV.v (.string ⟨#[]⟩))).bind fun p29 =>
onBool p29 fun b30 => (bif b30 then
(rBuild [(0, 1), (1, 1), (2, 1), (3, 1), (4, 1)] [.v (.int .i64 0), .v (.string ⟨#[]⟩), .v (.int .u64 0), .v (.int .i64 0), .v (.int .i64 0)] []).bind fun p32 =>
(aStore st.stk.length 5 (nth r6.2.1 2) p32 r28.2).bind fun st33 =>
some (Ex.ret, [(nth r6.2.1 0), (nth r6.2.1 1), (nth r6.2.1 2), (nth r6.2.1 1), r24.1, r28.1], st33)
else
some (Ex.normal, [(nth r6.2.1 0), (nth r6.2.1 1), (nth r6.2.1 2), (nth r6.2.1 3), r24.1, r28.1], r28.2)).bind fun r31 =>
seqK r31.1 ((rBuild [(0, 1), (1, 1), (2, 1), (3, 1), (4, 1)] [.v (.int .i64 0), .v (.string ⟨#[]⟩), .v (.int .u64 0), .v (.int .i64 0), .v (.int .i64 0)] [(0, (PV.v (.int .i64 5))), (1, (nth r31.2.1 5))]).bind fun p35 =>
(aLen Tryd.prog 9 (nth r31.2.1 5)).bind fun p36 =>
(aBin Tryd.prog false .add 3 (nth r31.2.1 1) p36).bind fun p37 =>
(aStore st.stk.length 5 (nth r31.2.1 2) p35 r31.2.2).bind fun st38 =>
some (Ex.ret, [(nth r31.2.1 0), (nth r31.2.1 1), (nth r31.2.1 2), p37, (nth r31.2.1 4)], st38)) fun x34 =>
some (x34, [(nth r31.2.1 0), (nth r31.2.1 1), (nth r31.2.1 2), (nth r31.2.1 3), (nth r31.2.1 4)], r31.2.2)
else
some (Ex.normal, [(nth r6.2.1 0), (nth r6.2.1 1), (nth r6.2.1 2), (nth r6.2.1 3), r24.1], r24.2)).bind fun r27 =>
seqK r27.1 ((aSlice Tryd.prog 9 (nth r27.2.1 0) (some (nth r27.2.1 1)) (some (nth r27.2.1 4)) none).bind fun p40 =>
(call (.func 16) [canon p40] r27.2.2).bind fun r41 =>
onBool r41.1 fun b42 => (bif b42 then
(rBuild [(0, 1), (1, 1), (2, 1), (3, 1), (4, 1)] [.v (.int .i64 0), .v (.string ⟨#[]⟩), .v (.int .u64 0), .v (.int .i64 0), .v (.int .i64 0)] [(0, (PV.v (.int .i64 2))), (1, p40)]).bind fun p44 =>
(aStore st.stk.length 5 (nth r27.2.1 2) p44 r41.2).bind fun st45 =>
some (Ex.ret, [(nth r27.2.1 1), (nth r27.2.1 2), (nth r27.2.1 4), (nth r27.2.1 4), p40], st45)
else
some (Ex.normal, [(nth r27.2.1 1), (nth r27.2.1 2), (nth r27.2.1 3), (nth r27.2.1 4), p40], r41.2)).bind fun r43 =>
seqK r43.1 ((call (.func 15) [canon (nth r43.2.1 4)] r43.2.2).bind fun r47 =>
onBool r47.1 fun b48 => (bif b48 then
(rBuild [(0, 1), (1, 1), (2, 1), (3, 1), (4, 1)] [.v (.int .i64 0), .v (.string ⟨#[]⟩), .v (.int .u64 0), .v (.int .i64 0), .v (.int .i64 0)] [(0, (PV.v (.int .i64 1))), (1, (nth r43.2.1 4))]).bind fun p50 =>
(aStore st.stk.length 5 (nth r43.2.1 1) p50 r47.2).bind fun st51 =>
some (Ex.ret, [(nth r43.2.1 0), (nth r43.2.1 1), (nth r43.2.1 3), (nth r43.2.1 3), (nth r43.2.1 4)], st51)
else
some (Ex.normal, [(nth r43.2.1 0), (nth r43.2.1 1), (nth r43.2.1 2), (nth r43.2.1 3), (nth r43.2.1 4)], r47.2)).bind fun r49 =>
seqK r49.1 ((call (.func 37) [canon (nth r49.2.1 4)] r49.2.2).bind fun r53 =>
(aExtract r53.1 0).bind fun p54 =>
(aExtract r53.1 1).bind fun p55 =>
(aUn Tryd.prog .not p55).bind fun p56 =>
onBool p56 fun b57 => (bif b57 then
(rBuild [(0, 1), (1, 1), (2, 1), (3, 1), (4, 1)] [.v (.int .i64 0), .v (.string ⟨#[]⟩), .v (.int .u64 0), .v (.int .i64 0), .v (.int .i64 0)] []).bind fun p59 =>
(aStore st.stk.length 5 (nth r49.2.1 1) p59 r53.2).bind fun st60 =>
some (Ex.ret, [(nth r49.2.1 1), (nth r49.2.1 0), (nth r49.2.1 3), (nth r49.2.1 4), p54], st60)
else
some (Ex.normal, [(nth r49.2.1 1), (nth r49.2.1 2), (nth r49.2.1 3), (nth r49.2.1 4), p54], r53.2)).bind fun r58 =>
seqK r58.1 ((rBuild [(0, 1), (1, 1), (2, 1), (3, 1), (4, 1)] [.v (.int .i64 0), .v (.string ⟨#[]⟩), .v (.int .u64 0), .v (.int .i64 0), .v (.int .i64 0)] [(0, (PV.v (.int .i64 3))), (1, (nth r58.2.1 3)), (2, (nth r58.2.1 4))]).bind fun p62 =>
(aStore st.stk.length 5 (nth r58.2.1 0) p62 r58.2.2).bind fun st63 =>
(aLoad true 5 (nth r58.2.1 0) st63).bind fun p64 =>
fin st.stk.length st.tk.length st.lp.length [p64, (nth r58.2.1 2)] st63) fun x61 =>
retK x61 ((aLoad true 5 (nth r58.2.1 0) r58.2.2).bind fun p65 =>
fin st.stk.length st.tk.length st.lp.length [p65, (nth r58.2.1 1)] r58.2.2)) fun x52 =>
retK x52 ((aLoad true 5 (nth r49.2.1 1) r49.2.2).bind fun p66 =>
fin st.stk.length st.tk.length st.lp.length [p66, (nth r49.2.1 2)] r49.2.2)) fun x46 =>
retK x46 ((aLoad true 5 (nth r43.2.1 1) r43.2.2).bind fun p67 =>
fin st.stk.length st.tk.length st.lp.length [p67, (nth r43.2.1 2)] r43.2.2)) fun x39 =>
retK x39 ((aLoad true 5 (nth r27.2.1 2) r27.2.2).bind fun p68 =>
fin st.stk.length st.tk.length st.lp.length [p68, (nth r27.2.1 3)] r27.2.2)) fun x23 =>
retK x23 ((aLoad true 5 (nth r6.2.1 2) r6.2.2).bind fun p69 =>
fin st.stk.length st.tk.length st.lp.length [p69, (nth r6.2.1 3)] r6.2.2)
theorem S19_eq (a0 a1 : PV) (st : St) : E L (.func 19) [a0, a1] st = S19 (E L) itE a0 a1 st := (E_func' (by rfl) Tryd.func19 _ _).trans (by kernel_rfl)
noncomputable def S11.b1 (call : CallF) (it : LoopF) (base lb : Nat) (vs69 : List PV) (st70 : St) : Option (Ex × List PV × St) :=
(aLen Tryd.prog 9 (nth vs69 0)).bind fun p71 =>
(aBin Tryd.prog false .lss 3 (nth vs69 10) p71).bind fun p72 =>
(onG p72 true (
some ((nth vs69 0), st70)) st70).bind fun r74 =>
(onG p72 true (
some ((nth vs69 10), r74.2)) r74.2).bind fun r76 =>
(onG p72 true (
(aIndex Tryd.prog 9 r74.1 r76.1).bind fun p79 =>
some (p79, r76.2)) r76.2).bind fun r78 =>
(onG p72 true (
(aBin Tryd.prog true .neq 5 r78.1 (PV.v (.int .u8 10))).bind fun p82 =>
some (p82, r78.2)) r78.2).bind fun r81 =>
(aPick p72 r81.1 (PV.v (.bool false))).bind fun p83 =>
onBool p83 fun b84 => (bif b84 then
some (Ex.normal, [(nth vs69 0), (nth vs69 1), (nth vs69 2), (nth vs69 3), (nth vs69 4), (nth vs69 5), (nth vs69 6), (nth vs69 7), (nth vs69 8), (nth vs69 9), (nth vs69 10)], r81.2)
else
some ((Ex.exit 2), [(nth vs69 0), (nth vs69 1), (nth vs69 2), (nth vs69 3), (nth vs69 4), (nth vs69 5), (nth vs69 6), (nth vs69 7), (nth vs69 8), (nth vs69 9), (nth vs69 10)], r81.2)).bind fun r85 =>
seqK r85.1 ((aBin Tryd.prog true .add 3 (nth r85.2.1 10) (PV.v (.int .i64 1))).bind fun p87 =>
some (Ex.normal, [(nth r85.2.1 0), (nth r85.2.1 1), (nth r85.2.1 2), (nth r85.2.1 3), (nth r85.2.1 4), (nth r85.2.1 5), (nth r85.2.1 6), (nth r85.2.1 7), (nth r85.2.1 8), (nth r85.2.1 9), p87], r85.2.2)) fun x86 =>
some (x86, [(nth r85.2.1 0), (nth r85.2.1 1), (nth r85.2.1 2), (nth r85.2.1 3), (nth r85.2.1 4), (nth r85.2.1 5), (nth r85.2.1 6), (nth r85.2.1 7), (nth r85.2.1 8), (nth r85.2.1 9), (nth r85.2.1 10)], r85.2.2)
noncomputable def S11.b0 (call : CallF) (it : LoopF) (base lb : Nat) (vs7 : List PV) (st8 : St) : Option (Ex × List PV × St) :=
(aLen Tryd.prog 9 (nth vs7 0)).bind fun p9 =>
(aBin Tryd.prog false .lss 3 (nth vs7 8) p9).bind fun p10 =>
onBool p10 fun b11 => (bif b11 then
some (Ex.normal, [(nth vs7 0), (nth vs7 1), (nth vs7 2), (nth vs7 3), (nth vs7 4), (nth vs7 5), (nth vs7 6), (nth vs7 7), (nth vs7 8)], st8)
else
some ((Ex.exit 0), [(nth vs7 0), (nth vs7 1), (nth vs7 2), (nth vs7 3), (nth vs7 4), (nth vs7 5), (nth vs7 6), (nth vs7 7), (nth vs7 8)], st8)).bind fun r12 =>
seqK r12.1 ((aIndex Tryd.prog 9 (nth r12.2.1 0) (nth r12.2.1 8)).bind fun p14 =>
(aBin Tryd.prog true .eql 5 p14 (PV.v (.int .u8 32))).bind fun p15 =>
(onG p15 false (
some (p14, r12.2.2)) r12.2.2).bind fun r17 =>
(onG p15 false (
(aBin Tryd.prog true .eql 5 r17.1 (PV.v (.int .u8 9))).bind fun p20 =>
some (p20, r17.2)) r17.2).bind fun r19 =>
(aPick p15 (PV.v (.bool true)) r19.1).bind fun p21 =>
(onG p21 false (
some (p14, r19.2)) r19.2).bind fun r23 =>
(onG p21 false (
(aBin Tryd.prog true .eql 5 r23.1 (PV.v (.int .u8 10))).bind fun p26 =>
some (p26, r23.2)) r23.2).bind fun r25 =>
(aPick p21 (PV.v (.bool true)) r25.1).bind fun p27 =>
(onG p27 false (
some (p14, r25.2)) r25.2).bind fun r29 =>
(onG p27 false (
(aBin Tryd.prog true .eql 5 r29.1 (PV.v (.int .u8 13))).bind fun p32 =>
some (p32, r29.2)) r29.2).bind fun r31 =>
(aPick p27 (PV.v (.bool true)) r31.1).bind fun p33 =>
onBool p33 fun b34 => (bif b34 then
(aBin Tryd.prog true .add 3 (nth r12.2.1 8) (PV.v (.int .i64 1))).bind fun p36 =>
some (Ex.normal, [(nth r12.2.1 0), (nth r12.2.1 1), (nth r12.2.1 2), (nth r12.2.1 3), (nth r12.2.1 4), (nth r12.2.1 5), (nth r12.2.1 6), (nth r12.2.1 7), (nth r12.2.1 8), p14, p36], r31.2)
else
(aBin Tryd.prog true .eql 5 p14 (PV.v (.int .u8 47))).bind fun p37 =>
(onG p37 true (
some ((nth r12.2.1 8), r31.2)) r31.2).bind fun r39 =>
(onG p37 true (
(aBin Tryd.prog true .add 3 r39.1 (PV.v (.int .i64 1))).bind fun p42 =>
some (p42, r39.2)) r39.2).bind fun r41 =>
(onG p37 true (
some ((nth r12.2.1 0), r41.2)) r41.2).bind fun r44 =>
(onG p37 true (
(aLen Tryd.prog 9 r44.1).bind fun p47 =>
some (p47, r44.2)) r44.2).bind fun r46 =>
(onG p37 true (
(aBin Tryd.prog false .lss 3 r41.1 r46.1).bind fun p50 =>
some (p50, r46.2)) r46.2).bind fun r49 =>
(aPick p37 r49.1 (PV.v (.bool false))).bind fun p51 =>
(onG p51 true (
some ((nth r12.2.1 0), r49.2)) r49.2).bind fun r53 =>
(onG p51 true (
some ((nth r12.2.1 8), r53.2)) r53.2).bind fun r55 =>
(onG p51 true (
(aBin Tryd.prog true .add 3 r55.1 (PV.v (.int .i64 1))).bind fun p58 =>
some (p58, r55.2)) r55.2).bind fun r57 =>
(onG p51 true (
(aIndex Tryd.prog 9 r53.1 r57.1).bind fun p61 =>
some (p61, r57.2)) r57.2).bind fun r60 =>
(onG p51 true (
(aBin Tryd.prog true .eql 5 r60.1 (PV.v (.int .u8 47))).bind fun p64 =>
some (p64, r60.2)) r60.2).bind fun r63 =>
(aPick p51 r63.1 (PV.v (.bool false))).bind fun p65 =>
onBool p65 fun b66 => (bif b66 then
(it (S11.b1 call it base lb) [(nth r12.2.1 0), (nth r12.2.1 1), (nth r12.2.1 2), (nth r12.2.1 3), (nth r12.2.1 4), (nth r12.2.1 5), (nth r12.2.1 6), (nth r12.2.1 7), (nth r12.2.1 8), p14, (nth r12.2.1 8)] r63.2).bind fun r68 =>
some ((Ex.outOf 2 r68.1), [(nth r68.2.1 0), (nth r68.2.1 1), (nth r68.2.1 2), (nth r68.2.1 3), (nth r68.2.1 4), (nth r68.2.1 5), (nth r68.2.1 6), (nth r68.2.1 7), (nth r68.2.1 8), (nth r68.2.1 9), (nth r68.2.1 10)], r68.2.2)
else
(call (.func 19) [canon (nth r12.2.1 0), canon (nth r12.2.1 8)] r63.2).bind fun r88 =>
(aExtract r88.1 0).bind fun p89 =>
(aExtract r88.1 1).bind fun p90 =>
let q92 : PV := .ptr false r88.2.stk.length 0
let st91 := r88.2.push [.v (.int .i64 0), .v (.string ⟨#[]⟩), .v (.int .u64 0), .v (.int .i64 0), .v (.int .i64 0)]
(aStore base 5 q92 p89 st91).bind fun st93 =>
(shift q92 0).bind fun p94 =>
(aLoad false 1 p94 st93).bind fun p95 =>
(aBin Tryd.prog true .eql 3 p95 (PV.v (.int .i64 0))).bind fun p96 =>
onBool p96 fun b97 => (bif b97 then
some (Ex.ret, [(nth r12.2.1 0), (PV.sl [] .nil), (PV.v (.int .i64 3)), (nth r12.2.1 6), (nth r12.2.1 7), (nth r12.2.1 5), (nth r12.2.1 6), (nth r12.2.1 7), (nth r12.2.1 8), p14, (nth r12.2.1 8), q92, p90], st93)
else
some (Ex.normal, [(nth r12.2.1 0), (nth r12.2.1 1), (nth r12.2.1 2), (nth r12.2.1 3), (nth r12.2.1 4), (nth r12.2.1 5), (nth r12.2.1 6), (nth r12.2.1 7), (nth r12.2.1 8), p14, (nth r12.2.1 8), q92, p90], st93)).bind fun r98 =>
seqK r98.1 ((shift (nth r98.2.1 11) 3).bind fun p100 =>
(aStore base 1 p100 (nth r98.2.1 6) r98.2.2).bind fun st101 =>
(shift (nth r98.2.1 11) 4).bind fun p102 =>
(aStore base 1 p102 (nth r98.2.1 7) st101).bind fun st103 =>
(aLoad true 5 (nth r98.2.1 11) st103).bind fun p104 =>
(rBuildSlice 5 [.v (.int .i64 0), .v (.string ⟨#[]⟩), .v (.int .u64 0), .v (.int .i64 0), .v (.int .i64 0)] 1 [(0, p104)]).bind fun p105 =>
(elemsOf st103 p105).bind fun ys106 =>
(rAppend base [.v (.int .i64 0), .v (.string ⟨#[]⟩), .v (.int .u64 0), .v (.int .i64 0), .v (.int .i64 0)] 5 48 (nth r98.2.1 5) ys106 st103).bind fun r107 =>
some (Ex.normal, [(nth r98.2.1 0), (nth r98.2.1 1), (nth r98.2.1 2), (nth r98.2.1 3), (nth r98.2.1 4), r107.1, (nth r98.2.1 6), (nth r98.2.1 7), (nth r98.2.1 8), (nth r98.2.1 9), (nth r98.2.1 12)], r107.2)) fun x99 =>
some (x99, [(nth r98.2.1 0), (nth r98.2.1 1), (nth r98.2.1 2), (nth r98.2.1 3), (nth r98.2.1 4), (nth r98.2.1 5), (nth r98.2.1 6), (nth r98.2.1 7), (nth r98.2.1 8), (nth r98.2.1 9), (nth r98.2.1 10)], r98.2.2)).bind fun r67 =>
some (r67.1, [(nth r67.2.1 0), (nth r67.2.1 1), (nth r67.2.1 2), (nth r67.2.1 3), (nth r67.2.1 4), (nth r67.2.1 5), (nth r67.2.1 6), (nth r67.2.1 7), (nth r67.2.1 8), (nth r67.2.1 9), (nth r67.2.1 10)], r67.2.2)).bind fun r35 =>
seqK r35.1 ((aBin Tryd.prog false .add 3 (nth r35.2.1 7) (nth r35.2.1 10)).bind fun p109 =>
(aBin Tryd.prog false .sub 3 p109 (nth r35.2.1 8)).bind fun p110 =>
(aBin Tryd.prog true .eql 5 (nth r35.2.1 9) (PV.v (.int .u8 10))).bind fun p111 =>
onBool p111 fun b112 => (bif b112 then
(aBin Tryd.prog true .add 3 (nth r35.2.1 6) (PV.v (.int .i64 1))).bind fun p114 =>
some (Ex.normal, [(nth r35.2.1 0), (nth r35.2.1 1), (nth r35.2.1 2), (nth r35.2.1 3), (nth r35.2.1 4), (nth r35.2.1 5), p114, (PV.v (.int .i64 1)), (nth r35.2.1 10)], r35.2.2)
else
some (Ex.normal, [(nth r35.2.1 0), (nth r35.2.1 1), (nth r35.2.1 2), (nth r35.2.1 3), (nth r35.2.1 4), (nth r35.2.1 5), (nth r35.2.1 6), p110, (nth r35.2.1 10)], r35.2.2)).bind fun r113 =>
seqK r113.1 (leaveV base lb st8.stk.length Ex.normal [(nth r113.2.1 0), (nth r113.2.1 1), (nth r113.2.1 2), (nth r113.2.1 3), (nth r113.2.1 4), (nth r113.2.1 5), (nth r113.2.1 6), (nth r113.2.1 7), (nth r113.2.1 8)] r113.2.2) fun x115 =>
leaveV base lb st8.stk.length (Ex.outOf 1 x115) [(nth r113.2.1 0), (nth r113.2.1 1), (nth r113.2.1 2), (nth r113.2.1 3), (nth r113.2.1 4), (nth r113.2.1 5), (nth r113.2.1 6), (nth r113.2.1 7), PV.u] r113.2.2) fun x108 =>
leaveV base lb st8.stk.length (Ex.outOf 1 x108) [(nth r35.2.1 0), (nth r35.2.1 1), (nth r35.2.1 2), (nth r35.2.1 3), (nth r35.2.1 4), (nth r35.2.1 5), (nth r35.2.1 6), (nth r35.2.1 7), (nth r35.2.1 8)] r35.2.2) fun x13 =>
leaveV base lb st8.stk.length x13 [(nth r12.2.1 0), (nth r12.2.1 1), (nth r12.2.1 2), (nth r12.2.1 3), (nth r12.2.1 4), (nth r12.2.1 5), (nth r12.2.1 6), (nth r12.2.1 7), (nth r12.2.1 8)] r12.2.2
/-- padlock/padlockref03.Lex -/
noncomputable def S11 (call : CallF) (it : LoopF) (a0 : PV) (st : St) : Option (PV × St) :=
(aLen Tryd.prog 9 a0).bind fun p1 =>
(aBin Tryd.prog true .gtr 3 p1 (PV.v (.int .i64 8192))).bind fun p2 =>
onBool p2 fun b3 => (bif b3 then
some (Ex.ret, [a0, (PV.sl [] .nil), (PV.v (.int .i64 10)), (PV.v (.int .i64 1)), (PV.v (.int .i64 1))], st)
else
some (Ex.normal, [a0, (PV.sl [] .nil), (PV.v (.int .i64 0)), (PV.v (.int .i64 0)), (PV.v (.int .i64 0))], st)).bind fun r4 =>
seqK r4.1 ((it (S11.b0 call it st.stk.length st.lp.length) [(nth r4.2.1 0), (nth r4.2.1 1), (nth r4.2.1 2), (nth r4.2.1 3), (nth r4.2.1 4), (PV.sl [] .nil), (PV.v (.int .i64 1)), (PV.v (.int .i64 1)), (PV.v (.int .i64 0))] r4.2.2).bind fun r6 =>
seqK (Ex.outOf 0 r6.1) ((rBuild [(0, 1), (1, 1), (2, 1), (3, 1), (4, 1)] [.v (.int .i64 0), .v (.string ⟨#[]⟩), .v (.int .u64 0), .v (.int .i64 0), .v (.int .i64 0)] [(3, (nth r6.2.1 6)), (4, (nth r6.2.1 7))]).bind fun p117 =>
(rBuildSlice 5 [.v (.int .i64 0), .v (.string ⟨#[]⟩), .v (.int .u64 0), .v (.int .i64 0), .v (.int .i64 0)] 1 [(0, p117)]).bind fun p118 =>
(elemsOf r6.2.2 p118).bind fun ys119 =>
(rAppend st.stk.length [.v (.int .i64 0), .v (.string ⟨#[]⟩), .v (.int .u64 0), .v (.int .i64 0), .v (.int .i64 0)] 5 48 (nth r6.2.1 5) ys119 r6.2.2).bind fun r120 =>
fin st.stk.length st.tk.length st.lp.length [r120.1, (PV.v (.int .i64 0)), (PV.v (.int .i64 0)), (PV.v (.int .i64 0))] r120.2) fun x116 =>
retK x116 (fin st.stk.length st.tk.length st.lp.length [(nth r6.2.1 1), (nth r6.2.1 2), (nth r6.2.1 3), (nth r6.2.1 4)] r6.2.2)) fun x5 =>
retK x5 (fin st.stk.length st.tk.length st.lp.length [(nth r4.2.1 1), (nth r4.2.1 2), (nth r4.2.1 3), (nth r4.2.1 4)] r4.2.2)
theorem S11_eq (a0 : PV) (st : St) : E L (.func 11) [a0] st = S11 (E L) itE a0 st := (E_func' (by rfl) Tryd.func11 _ _).trans (by kernel_rfl)
/-- padlock/padlocklaw03.plain -/
noncomputable def S12 (call : CallF) (it : LoopF) (a0 : PV) (st : St) : Option (PV × St) :=
(cellsOf a0).bind fun b1 =>
let q3 : PV := .ptr false st.stk.length 0
let st2 := st.push b1
let q5 : PV := .ptr false st2.stk.length 0
let st4 := st2.push [.v (.int .i64 0), .v (.string ⟨#[]⟩), .v (.int .u64 0), .v (.int .i64 0), .v (.int .i64 0)]
(shift q3 0).bind fun p6 =>
(aLoad false 1 p6 st4).bind fun p7 =>
(shift q3 1).bind fun p8 =>
(aLoad false 1 p8 st4).bind fun p9 =>
(shift q3 2).bind fun p10 =>
(aLoad false 1 p10 st4).bind fun p11 =>
(shift q3 3).bind fun p12 =>
(aLoad false 1 p12 st4).bind fun p13 =>
(shift q3 4).bind fun p14 =>
(aLoad false 1 p14 st4).bind fun p15 =>
(rBuild [(0, 1), (1, 1), (2, 1), (3, 1), (4, 1)] [.v (.int .i64 0), .v (.string ⟨#[]⟩), .v (.int .u64 0), .v (.int .i64 0), .v (.int .i64 0)] [(0, p7), (1, p9), (2, p11), (3, p13), (4, p15)]).bind fun p16 =>
(aStore st.stk.length 5 q5 p16 st4).bind fun st17 =>
(aLoad true 5 q5 st17).bind fun p18 =>
fin st.stk.length st.tk.length st.lp.length [p18] st17
theorem S12_eq (a0 : PV) (st : St) : E L (.func 12) [a0] st = S12 (E L) itE a0 st := (E_func' (by rfl) Tryd.func12 _ _).trans (by kernel_rfl)
noncomputable def S3.b0 (call : CallF) (it : LoopF) (base lb : Nat) (vs68 : List PV) (st69 : St) : Option (Ex × List PV × St) :=
(aBin Tryd.prog false .lss 3 (nth vs68 4) (nth vs68 3)).bind fun p70 =>
onBool p70 fun b71 => (bif b71 then
some (Ex.normal, [(nth vs68 0), (nth vs68 1), (nth vs68 2), (nth vs68 3), (nth vs68 4)], st69)
else
some ((Ex.exit 0), [(nth vs68 0), (nth vs68 1), (nth vs68 2), (nth vs68 3), (nth vs68 4)], st69)).bind fun r72 =>
seqK r72.1 ((aIndexAddr Tryd.prog 23 (nth r72.2.1 2) (nth r72.2.1 4)).bind fun p74 =>
(aLoad true 5 p74 r72.2.2).bind fun p75 =>
let q77 : PV := .ptr false r72.2.2.stk.length 0
let st76 := r72.2.2.push [.v (.int .i64 0), .v (.string ⟨#[]⟩), .v (.int .u64 0), .v (.int .i64 0), .v (.int .i64 0)]
(aStore base 5 q77 p75 st76).bind fun st78 =>
(aLoad true 5 q77 st78).bind fun p79 =>
need (st78 = st78) <|
(call (.func 12) [canon p79] st78).bind fun r80 =>
need (r80.2 = st78) <|
(aIndexAddr Tryd.prog 29 (nth r72.2.1 1) (nth r72.2.1 4)).bind fun p81 =>
(aLoad true 5 p81 st78).bind fun p82 =>
need (st78 = st78) <|
(aBin Tryd.prog false .neq 37 r80.1 p82).bind fun p83 =>
onBool p83 fun b84 => (bif b84 then
some (Ex.ret, [(PV.v (.bool false)), (nth r72.2.1 1), (nth r72.2.1 2), (nth r72.2.1 3), (nth r72.2.1 4)], st78)
else
some (Ex.normal, [(nth r72.2.1 0), (nth r72.2.1 1), (nth r72.2.1 2), (nth r72.2.1 3), (nth r72.2.1 4)], st78)).bind fun r85 =>
seqK (Ex.outOf 1 r85.1) ((aBin Tryd.prog true .add 3 (nth r85.2.1 4) (PV.v (.int .i64 1))).bind fun p87 =>
leaveV base lb st69.stk.length Ex.normal [(nth r85.2.1 0), (nth r85.2.1 1), (nth r85.2.1 2), (nth r85.2.1 3), p87] r85.2.2) fun x86 =>
leaveV base lb st69.stk.length x86 [(nth r85.2.1 0), (nth r85.2.1 1), (nth r85.2.1 2), (nth r85.2.1 3), (nth r85.2.1 4)] r85.2.2) fun x73 =>
leaveV base lb st69.stk.length x73 [(nth r72.2.1 0), (nth r72.2.1 1), (nth r72.2.1 2), (nth r72.2.1 3), (nth r72.2.1 4)] r72.2.2
/-- padlock/padlocklaw03.LexIs -/
noncomputable def S3 (call : CallF) (it : LoopF) (a0 : PV) (st : St) : Option (PV × St) :=
(call (.func 9) [] st).bind fun r1 =>
(aUn Tryd.prog .not r1.1).bind fun p2 =>
onBool p2 fun b3 => (bif b3 then
some (Ex.ret, [a0, (PV.v (.bool false))], r1.2)
else
some (Ex.normal, [a0, (PV.v (.bool false))], r1.2)).bind fun r4 =>
seqK r4.1 ((aLen Tryd.prog 9 (nth r4.2.1 0)).bind fun p6 =>
(aBin Tryd.prog true .gtr 3 p6 (PV.v (.int .i64 16384))).bind fun p7 =>
onBool p7 fun b8 => (bif b8 then
some (Ex.ret, [(nth r4.2.1 0), (PV.v (.bool true))], r4.2.2)
else
some (Ex.normal, [(nth r4.2.1 0), (nth r4.2.1 1)], r4.2.2)).bind fun r9 =>
seqK r9.1 ((call (.func 10) [canon (nth r9.2.1 0)] r9.2.2).bind fun r11 =>
(aExtract r11.1 0).bind fun p12 =>
(aExtract r11.1 1).bind fun p13 =>
let q15 : PV := .ptr false r11.2.stk.length 0
let st14 := r11.2.push [.v (.int .i64 0), .v (.int .i64 0), .v (.int .i64 0)]
(aStore st.stk.length 3 q15 p13 st14).bind fun st16 =>
(call (.func 11) [canon (nth r9.2.1 0)] st16).bind fun r17 =>
(aExtract r17.1 0).bind fun p18 =>
(aExtract r17.1 1).bind fun p19 =>
(aExtract r17.1 2).bind fun p20 =>
(aExtract r17.1 3).bind fun p21 =>
(shift q15 0).bind fun p22 =>
(aLoad false 1 p22 r17.2).bind fun p23 =>
(aBin Tryd.prog false .neq 3 p23 p19).bind fun p24 =>
(onG p24 false (
(shift q15 1).bind fun p27 =>
some (p27, r17.2)) r17.2).bind fun r26 =>
(onG p24 false (
(aLoad false 1 r26.1 r26.2).bind fun p30 =>
some (p30, r26.2)) r26.2).bind fun r29 =>
(onG p24 false (
some (p20, r29.2)) r29.2).bind fun r32 =>
(onG p24 false (
(aBin Tryd.prog false .neq 3 r29.1 r32.1).bind fun p35 =>
some (p35, r32.2)) r32.2).bind fun r34 =>
(aPick p24 (PV.v (.bool true)) r34.1).bind fun p36 =>
(onG p36 false (
(shift q15 2).bind fun p39 =>
some (p39, r34.2)) r34.2).bind fun r38 =>
(onG p36 false (
(aLoad false 1 r38.1 r38.2).bind fun p42 =>
some (p42, r38.2)) r38.2).bind fun r41 =>
(onG p36 false (
some (p21, r41.2)) r41.2).bind fun r44 =>
(onG p36 false (
(aBin Tryd.prog false .neq 3 r41.1 r44.1).bind fun p47 =>
some (p47, r44.2)) r44.2).bind fun r46 =>
(aPick p36 (PV.v (.bool true)) r46.1).bind fun p48 =>
(onG p48 false (
some (p12, r46.2)) r46.2).bind fun r50 =>
(onG p48 false (
(aLen Tryd.prog 23 r50.1).bind fun p53 =>
some (p53, r50.2)) r50.2).bind fun r52 =>
(onG p48 false (
some (p18, r52.2)) r52.2).bind fun r55 =>
(onG p48 false (
(aLen Tryd.prog 29 r55.1).bind fun p58 =>
some (p58, r55.2)) r55.2).bind fun r57 =>
(onG p48 false (
(aBin Tryd.prog false .neq 3 r52.1 r57.1).bind fun p61 =>
some (p61, r57.2)) r57.2).bind fun r60 =>
(aPick p48 (PV.v (.bool true)) r60.1).bind fun p62 =>
onBool p62 fun b63 => (bif b63 then
some (Ex.ret, [(PV.v (.bool false)), p12, p18], r60.2)
else
some (Ex.normal, [(nth r9.2.1 1), p12, p18], r60.2)).bind fun r64 =>
seqK r64.1 ((aLen Tryd.prog 23 (nth r64.2.1 1)).bind fun p66 =>
(it (S3.b0 call it st.stk.length st.lp.length) [(nth r64.2.1 0), (nth r64.2.1 2), (nth r64.2.1 1), p66, (PV.v (.int .i64 0))] r64.2.2).bind fun r67 =>
seqK (Ex.outOf 0 r67.1) (fin st.stk.length st.tk.length st.lp.length [(PV.v (.bool true))] r67.2.2) fun x88 =>
retK x88 (fin st.stk.length st.tk.length st.lp.length [(nth r67.2.1 0)] r67.2.2)) fun x65 =>
retK x65 (fin st.stk.length st.tk.length st.lp.length [(nth r64.2.1 0)] r64.2.2)) fun x10 =>
retK x10 (fin st.stk.length st.tk.length st.lp.length [(nth r9.2.1 1)] r9.2.2)) fun x5 =>
retK x5 (fin st.stk.length st.tk.length st.lp.length [(nth r4.2.1 1)] r4.2.2)
theorem S3_eq (a0 : PV) (st : St) : E L (.func 3) [a0] st = S3 (E L) itE a0 st := (E_func' (by rfl) Tryd.func3 _ _).trans (by kernel_rfl)
end Go.Proofs.YtbbaalimilcppaaDoor.S

/- The seat's functions, each as a Lean function over plain values, and that the evaluator comes to it: written by my program mkS.py. No condition. -/
namespace Go.Proofs.YtbbaalimilcppaaDoor.S
open Go Go.AM Go.Proofs
set_option linter.unusedVariables false
/-- padlock/padlocklaw03.LexNames -/
noncomputable def S4 (call : CallF) (it : LoopF) (a0 : PV) (st : St) : Option (PV × St) :=
(call (.func 9) [] st).bind fun r1 =>
(aUn Tryd.prog .not r1.1).bind fun p2 =>
onBool p2 fun b3 => (bif b3 then
some (Ex.ret, [a0, (PV.v (.bool false))], r1.2)
else
some (Ex.normal, [a0, (PV.v (.bool false))], r1.2)).bind fun r4 =>
seqK r4.1 ((aLen Tryd.prog 9 (nth r4.2.1 0)).bind fun p6 =>
(aBin Tryd.prog true .gtr 3 p6 (PV.v (.int .i64 1000))).bind fun p7 =>
onBool p7 fun b8 => (bif b8 then
some (Ex.ret, [(nth r4.2.1 0), (PV.v (.bool true))], r4.2.2)
else
some (Ex.normal, [(nth r4.2.1 0), (nth r4.2.1 1)], r4.2.2)).bind fun r9 =>
seqK r9.1 ((call (.func 13) [canon (nth r9.2.1 0)] r9.2.2).bind fun r11 =>
(call (.func 14) [canon (nth r9.2.1 0)] r11.2).bind fun r12 =>
(call (.func 15) [canon (nth r9.2.1 0)] r12.2).bind fun r13 =>
(aBin Tryd.prog false .neq 4 r11.1 r13.1).bind fun p14 =>
(onG p14 false (
some (r12.1, r13.2)) r13.2).bind fun r16 =>
(onG p14 false (
some ((nth r9.2.1 0), r16.2)) r16.2).bind fun r18 =>
(onG p14 false (
(call (.func 16) [canon r18.1] r18.2).bind fun r21 =>
some (r21.1, r21.2)) r18.2).bind fun r20 =>
(onG p14 false (
(aBin Tryd.prog false .neq 4 r16.1 r20.1).bind fun p24 =>
some (p24, r20.2)) r20.2).bind fun r23 =>
(aPick p14 (PV.v (.bool true)) r23.1).bind fun p25 =>
(onG p25 false (
some (r11.1, r23.2)) r23.2).bind fun r27 =>
(onG p25 false (
some (r27.1, r27.2)) r27.2).bind fun r29 =>
(onG r29.1 true (
some (r12.1, r29.2)) r29.2).bind fun r31 =>
(onG p25 false (
(aPick r29.1 r31.1 (PV.v (.bool false))).bind fun p34 =>
some (p34, r31.2)) r31.2).bind fun r33 =>
(aPick p25 (PV.v (.bool true)) r33.1).bind fun p35 =>
onBool p35 fun b36 => (bif b36 then
some (Ex.ret, [(nth r9.2.1 0), (PV.v (.bool false)), r11.1, r12.1], r33.2)
else
some (Ex.normal, [(nth r9.2.1 0), (nth r9.2.1 1), r11.1, r12.1], r33.2)).bind fun r37 =>
seqK r37.1 ((call (.func 10) [canon (nth r37.2.1 0)] r37.2.2).bind fun r39 =>
(aExtract r39.1 0).bind fun p40 =>
(aExtract r39.1 1).bind fun p41 =>
let q43 : PV := .ptr false r39.2.stk.length 0
let st42 := r39.2.push [.v (.int .i64 0), .v (.int .i64 0), .v (.int .i64 0)]
(aStore st.stk.length 3 q43 p41 st42).bind fun st44 =>
(aLoad true 3 q43 st44).bind fun p45 =>
(rBuild [(0, 1), (1, 1), (2, 1)] [.v (.int .i64 0), .v (.int .i64 0), .v (.int .i64 0)] []).bind fun p46 =>
(aBin Tryd.prog false .eql 26 p45 p46).bind fun p47 =>
(onG p47 true (
some (p40, st44)) st44).bind fun r49 =>
(onG p47 true (
(aLen Tryd.prog 23 r49.1).bind fun p52 =>
some (p52, r49.2)) r49.2).bind fun r51 =>
(onG p47 true (
(aBin Tryd.prog true .eql 3 r51.1 (PV.v (.int .i64 2))).bind fun p55 =>
some (p55, r51.2)) r51.2).bind fun r54 =>
(aPick p47 r54.1 (PV.v (.bool false))).bind fun p56 =>
(onG p56 true (
some (p40, r54.2)) r54.2).bind fun r58 =>
(onG p56 true (
(aIndexAddr Tryd.prog 23 r58.1 (PV.v (.int .i64 0))).bind fun p61 =>
some (p61, r58.2)) r58.2).bind fun r60 =>
(onG p56 true (
(shift r60.1 1).bind fun p64 =>
some (p64, r60.2)) r60.2).bind fun r63 =>
(onG p56 true (
(aLoad false 1 r63.1 r63.2).bind fun p67 =>
some (p67, r63.2)) r63.2).bind fun r66 =>
(onG p56 true (
some ((nth r37.2.1 0), r66.2)) r66.2).bind fun r69 =>
(onG p56 true (
(aBin Tryd.prog false .eql 9 r66.1 r69.1).bind fun p72 =>
some (p72, r69.2)) r69.2).bind fun r71 =>
(aPick p56 r71.1 (PV.v (.bool false))).bind fun p73 =>
(onG (nth r37.2.1 2) false (
some ((nth r37.2.1 3), r71.2)) r71.2).bind fun r75 =>
(aPick (nth r37.2.1 2) (PV.v (.bool true)) r75.1).bind fun p76 =>
(onG p73 true (
some (p40, r75.2)) r75.2).bind fun r78 =>
(onG p73 true (
(aIndexAddr Tryd.prog 23 r78.1 (PV.v (.int .i64 0))).bind fun p81 =>
some (p81, r78.2)) r78.2).bind fun r80 =>
(onG p73 true (
(shift r80.1 0).bind fun p84 =>
some (p84, r80.2)) r80.2).bind fun r83 =>
(onG p73 true (
(aLoad false 1 r83.1 r83.2).bind fun p87 =>
some (p87, r83.2)) r83.2).bind fun r86 =>
(onG p73 true (
(aBin Tryd.prog true .eql 32 r86.1 (PV.v (.int .i64 1))).bind fun p90 =>
some (p90, r86.2)) r86.2).bind fun r89 =>
(onG p73 true (
some (r89.1, r89.2)) r89.2).bind fun r92 =>
(onG r92.1 false (
some (p40, r92.2)) r92.2).bind fun r94 =>
(onG r92.1 false (
(aIndexAddr Tryd.prog 23 r94.1 (PV.v (.int .i64 0))).bind fun p97 =>
some (p97, r94.2)) r94.2).bind fun r96 =>
(onG r92.1 false (
(shift r96.1 0).bind fun p100 =>
some (p100, r96.2)) r96.2).bind fun r99 =>
(onG r92.1 false (
(aLoad false 1 r99.1 r99.2).bind fun p103 =>
some (p103, r99.2)) r99.2).bind fun r102 =>
(onG r92.1 false (
(aBin Tryd.prog true .eql 32 r102.1 (PV.v (.int .i64 2))).bind fun p106 =>
some (p106, r102.2)) r102.2).bind fun r105 =>
(onG p73 true (
(aPick r92.1 (PV.v (.bool true)) r105.1).bind fun p109 =>
some (p109, r105.2)) r105.2).bind fun r108 =>
(aPick p73 r108.1 (PV.v (.bool false))).bind fun p110 =>
(aBin Tryd.prog false .eql 4 p76 p110).bind fun p111 =>
fin st.stk.length st.tk.length st.lp.length [p111] r108.2) fun x38 =>
retK x38 (fin st.stk.length st.tk.length st.lp.length [(nth r37.2.1 1)] r37.2.2)) fun x10 =>
retK x10 (fin st.stk.length st.tk.length st.lp.length [(nth r9.2.1 1)] r9.2.2)) fun x5 =>
retK x5 (fin st.stk.length st.tk.length st.lp.length [(nth r4.2.1 1)] r4.2.2)
theorem S4_eq (a0 : PV) (st : St) : E L (.func 4) [a0] st = S4 (E L) itE a0 st := (E_func' (by rfl) Tryd.func4 _ _).trans (by kernel_rfl)
noncomputable def S5.b0 (call : CallF) (it : LoopF) (base lb : Nat) (vs27 : List PV) (st28 : St) : Option (Ex × List PV × St) :=
(aBin Tryd.prog false .lss 3 (nth vs27 5) (nth vs27 4)).bind fun p29 =>
onBool p29 fun b30 => (bif b30 then
some (Ex.normal, [(nth vs27 0), (nth vs27 1), (nth vs27 2), (nth vs27 3), (nth vs27 4), (nth vs27 5)], st28)
else
some ((Ex.exit 0), [(nth vs27 0), (nth vs27 1), (nth vs27 2), (nth vs27 3), (nth vs27 4), (nth vs27 5)], st28)).bind fun r31 =>
seqK r31.1 ((aIndexAddr Tryd.prog 23 (nth r31.2.1 3) (nth r31.2.1 5)).bind fun p33 =>
(aLoad true 5 p33 r31.2.2).bind fun p34 =>
let q36 : PV := .ptr false r31.2.2.stk.length 0
let st35 := r31.2.2.push [.v (.int .i64 0), .v (.string ⟨#[]⟩), .v (.int .u64 0), .v (.int .i64 0), .v (.int .i64 0)]
(aStore base 5 q36 p34 st35).bind fun st37 =>
(shift q36 1).bind fun p38 =>
(aLoad false 1 p38 st37).bind fun p39 =>
(aBin Tryd.prog false .add 9 (nth r31.2.1 2) p39).bind fun p40 =>
(aBin Tryd.prog true .add 9 p40 (PV.v (.string ⟨#[10]⟩))).bind fun p41 =>
(aBin Tryd.prog true .add 3 (nth r31.2.1 5) (PV.v (.int .i64 1))).bind fun p42 =>
leaveV base lb st28.stk.length Ex.normal [(nth r31.2.1 0), (nth r31.2.1 1), p41, (nth r31.2.1 3), (nth r31.2.1 4), p42] st37) fun x32 =>
leaveV base lb st28.stk.length x32 [(nth r31.2.1 0), (nth r31.2.1 1), (nth r31.2.1 2), (nth r31.2.1 3), (nth r31.2.1 4), (nth r31.2.1 5)] r31.2.2
noncomputable def S5.b1 (call : CallF) (it : LoopF) (base lb : Nat) (vs77 : List PV) (st78 : St) : Option (Ex × List PV × St) :=
(aBin Tryd.prog false .lss 3 (nth vs77 4) (nth vs77 3)).bind fun p79 =>
onBool p79 fun b80 => (bif b80 then
some (Ex.normal, [(nth vs77 0), (nth vs77 1), (nth vs77 2), (nth vs77 3), (nth vs77 4)], st78)
else
some ((Ex.exit 2), [(nth vs77 0), (nth vs77 1), (nth vs77 2), (nth vs77 3), (nth vs77 4)], st78)).bind fun r81 =>
seqK r81.1 ((aIndexAddr Tryd.prog 23 (nth r81.2.1 1) (nth r81.2.1 4)).bind fun p83 =>
(shift p83 0).bind fun p84 =>
(aLoad false 1 p84 r81.2.2).bind fun p85 =>
need (r81.2.2 = r81.2.2) <|
(aIndexAddr Tryd.prog 23 (nth r81.2.1 2) (nth r81.2.1 4)).bind fun p86 =>
(shift p86 0).bind fun p87 =>
(aLoad false 1 p87 r81.2.2).bind fun p88 =>
need (r81.2.2 = r81.2.2) <|
(aBin Tryd.prog false .neq 32 p85 p88).bind fun p89 =>
(onG p89 false (
some ((nth r81.2.1 1), r81.2.2)) r81.2.2).bind fun r91 =>
(onG p89 false (
some ((nth r81.2.1 4), r81.2.2)) r81.2.2).bind fun r93 =>
(onG p89 false (
(aIndexAddr Tryd.prog 23 r91.1 r93.1).bind fun p96 =>
some (p96, r81.2.2)) r81.2.2).bind fun r95 =>
(onG p89 false (
(shift r95.1 1).bind fun p99 =>
some (p99, r81.2.2)) r81.2.2).bind fun r98 =>
(onG p89 false (
(aLoad false 1 r98.1 r81.2.2).bind fun p102 =>
some (p102, r81.2.2)) r81.2.2).bind fun r101 =>
need (r101.2 = r81.2.2) <|
(onG p89 false (
some ((nth r81.2.1 2), r81.2.2)) r81.2.2).bind fun r104 =>
(onG p89 false (
some ((nth r81.2.1 4), r81.2.2)) r81.2.2).bind fun r106 =>
(onG p89 false (
(aIndexAddr Tryd.prog 23 r104.1 r106.1).bind fun p109 =>
some (p109, r81.2.2)) r81.2.2).bind fun r108 =>
(onG p89 false (
(shift r108.1 1).bind fun p112 =>
some (p112, r81.2.2)) r81.2.2).bind fun r111 =>
(onG p89 false (
(aLoad false 1 r111.1 r81.2.2).bind fun p115 =>
some (p115, r81.2.2)) r81.2.2).bind fun r114 =>
need (r114.2 = r81.2.2) <|
(onG p89 false (
(aBin Tryd.prog false .neq 9 r101.1 r114.1).bind fun p118 =>
some (p118, r81.2.2)) r81.2.2).bind fun r117 =>
(aPick p89 (PV.v (.bool true)) r117.1).bind fun p119 =>
(onG p119 false (
some ((nth r81.2.1 1), r81.2.2)) r81.2.2).bind fun r121 =>
(onG p119 false (
some ((nth r81.2.1 4), r81.2.2)) r81.2.2).bind fun r123 =>
(onG p119 false (
(aIndexAddr Tryd.prog 23 r121.1 r123.1).bind fun p126 =>
some (p126, r81.2.2)) r81.2.2).bind fun r125 =>
(onG p119 false (
(shift r125.1 2).bind fun p129 =>
some (p129, r81.2.2)) r81.2.2).bind fun r128 =>
(onG p119 false (
(aLoad false 1 r128.1 r81.2.2).bind fun p132 =>
some (p132, r81.2.2)) r81.2.2).bind fun r131 =>
need (r131.2 = r81.2.2) <|
(onG p119 false (
some ((nth r81.2.1 2), r81.2.2)) r81.2.2).bind fun r134 =>
(onG p119 false (
some ((nth r81.2.1 4), r81.2.2)) r81.2.2).bind fun r136 =>
(onG p119 false (
(aIndexAddr Tryd.prog 23 r134.1 r136.1).bind fun p139 =>
some (p139, r81.2.2)) r81.2.2).bind fun r138 =>
(onG p119 false (
(shift r138.1 2).bind fun p142 =>
some (p142, r81.2.2)) r81.2.2).bind fun r141 =>
(onG p119 false (
(aLoad false 1 r141.1 r81.2.2).bind fun p145 =>
some (p145, r81.2.2)) r81.2.2).bind fun r144 =>
need (r144.2 = r81.2.2) <|
(onG p119 false (
(aBin Tryd.prog false .neq 33 r131.1 r144.1).bind fun p148 =>
some (p148, r81.2.2)) r81.2.2).bind fun r147 =>
(aPick p119 (PV.v (.bool true)) r147.1).bind fun p149 =>
(onG p149 false (
some ((nth r81.2.1 4), r81.2.2)) r81.2.2).bind fun r151 =>
(onG p149 false (
(aBin Tryd.prog true .add 3 r151.1 (PV.v (.int .i64 1))).bind fun p154 =>
some (p154, r81.2.2)) r81.2.2).bind fun r153 =>
(onG p149 false (
some ((nth r81.2.1 1), r81.2.2)) r81.2.2).bind fun r156 =>
(onG p149 false (
(aLen Tryd.prog 23 r156.1).bind fun p159 =>
some (p159, r81.2.2)) r81.2.2).bind fun r158 =>
(onG p149 false (
(aBin Tryd.prog false .lss 3 r153.1 r158.1).bind fun p162 =>
some (p162, r81.2.2)) r81.2.2).bind fun r161 =>
(onG p149 false (
some (r161.1, r81.2.2)) r81.2.2).bind fun r164 =>
(onG r164.1 true (
some ((nth r81.2.1 2), r81.2.2)) r81.2.2).bind fun r166 =>
(onG r164.1 true (
some ((nth r81.2.1 4), r81.2.2)) r81.2.2).bind fun r168 =>
(onG r164.1 true (
(aIndexAddr Tryd.prog 23 r166.1 r168.1).bind fun p171 =>
some (p171, r81.2.2)) r81.2.2).bind fun r170 =>
(onG r164.1 true (
(shift r170.1 3).bind fun p174 =>
some (p174, r81.2.2)) r81.2.2).bind fun r173 =>
(onG r164.1 true (
(aLoad false 1 r173.1 r81.2.2).bind fun p177 =>
some (p177, r81.2.2)) r81.2.2).bind fun r176 =>
need (r176.2 = r81.2.2) <|
(onG r164.1 true (
some ((nth r81.2.1 4), r81.2.2)) r81.2.2).bind fun r179 =>
(onG r164.1 true (
(aBin Tryd.prog true .add 3 r179.1 (PV.v (.int .i64 1))).bind fun p182 =>
some (p182, r81.2.2)) r81.2.2).bind fun r181 =>
(onG r164.1 true (
(aBin Tryd.prog false .neq 3 r176.1 r181.1).bind fun p185 =>
some (p185, r81.2.2)) r81.2.2).bind fun r184 =>
(onG r164.1 true (
some (r184.1, r81.2.2)) r81.2.2).bind fun r187 =>
(onG r187.1 false (
some ((nth r81.2.1 2), r81.2.2)) r81.2.2).bind fun r189 =>
(onG r187.1 false (
some ((nth r81.2.1 4), r81.2.2)) r81.2.2).bind fun r191 =>
(onG r187.1 false (
(aIndexAddr Tryd.prog 23 r189.1 r191.1).bind fun p194 =>
some (p194, r81.2.2)) r81.2.2).bind fun r193 =>
(onG r187.1 false (
(shift r193.1 4).bind fun p197 =>
some (p197, r81.2.2)) r81.2.2).bind fun r196 =>
(onG r187.1 false (
(aLoad false 1 r196.1 r81.2.2).bind fun p200 =>
some (p200, r81.2.2)) r81.2.2).bind fun r199 =>
need (r199.2 = r81.2.2) <|
(onG r187.1 false (
(aBin Tryd.prog true .neq 3 r199.1 (PV.v (.int .i64 1))).bind fun p203 =>
some (p203, r81.2.2)) r81.2.2).bind fun r202 =>
(onG r164.1 true (
(aPick r187.1 (PV.v (.bool true)) r202.1).bind fun p206 =>
some (p206, r81.2.2)) r81.2.2).bind fun r205 =>
(onG p149 false (
(aPick r164.1 r205.1 (PV.v (.bool false))).bind fun p209 =>
some (p209, r81.2.2)) r81.2.2).bind fun r208 =>
(aPick p149 (PV.v (.bool true)) r208.1).bind fun p210 =>
onBool p210 fun b211 => (bif b211 then
some (Ex.ret, [(PV.v (.bool false)), (nth r81.2.1 1), (nth r81.2.1 2), (nth r81.2.1 3), (nth r81.2.1 4)], r81.2.2)
else
some (Ex.normal, [(nth r81.2.1 0), (nth r81.2.1 1), (nth r81.2.1 2), (nth r81.2.1 3), (nth r81.2.1 4)], r81.2.2)).bind fun r212 =>
seqK (Ex.outOf 3 r212.1) ((aBin Tryd.prog true .add 3 (nth r212.2.1 4) (PV.v (.int .i64 1))).bind fun p214 =>
some (Ex.normal, [(nth r212.2.1 0), (nth r212.2.1 1), (nth r212.2.1 2), (nth r212.2.1 3), p214], r212.2.2)) fun x213 =>
some (x213, [(nth r212.2.1 0), (nth r212.2.1 1), (nth r212.2.1 2), (nth r212.2.1 3), (nth r212.2.1 4)], r212.2.2)) fun x82 =>
some (x82, [(nth r81.2.1 0), (nth r81.2.1 1), (nth r81.2.1 2), (nth r81.2.1 3), (nth r81.2.1 4)], r81.2.2)
/-- padlock/padlocklaw03.LexBack -/
noncomputable def S5 (call : CallF) (it : LoopF) (a0 : PV) (st : St) : Option (PV × St) :=
(call (.func 9) [] st).bind fun r1 =>
(aUn Tryd.prog .not r1.1).bind fun p2 =>
onBool p2 fun b3 => (bif b3 then
some (Ex.ret, [a0, (PV.v (.bool false))], r1.2)
else
some (Ex.normal, [a0, (PV.v (.bool false))], r1.2)).bind fun r4 =>
seqK r4.1 ((aLen Tryd.prog 9 (nth r4.2.1 0)).bind fun p6 =>
(aBin Tryd.prog true .gtr 3 p6 (PV.v (.int .i64 8192))).bind fun p7 =>
onBool p7 fun b8 => (bif b8 then
some (Ex.ret, [(nth r4.2.1 0), (PV.v (.bool true))], r4.2.2)
else
some (Ex.normal, [(nth r4.2.1 0), (nth r4.2.1 1)], r4.2.2)).bind fun r9 =>
seqK r9.1 ((call (.func 10) [canon (nth r9.2.1 0)] r9.2.2).bind fun r11 =>
(aExtract r11.1 0).bind fun p12 =>
(aExtract r11.1 1).bind fun p13 =>
let q15 : PV := .ptr false r11.2.stk.length 0
let st14 := r11.2.push [.v (.int .i64 0), .v (.int .i64 0), .v (.int .i64 0)]
(aStore st.stk.length 3 q15 p13 st14).bind fun st16 =>
(aLoad true 3 q15 st16).bind fun p17 =>
(rBuild [(0, 1), (1, 1), (2, 1)] [.v (.int .i64 0), .v (.int .i64 0), .v (.int .i64 0)] []).bind fun p18 =>
(aBin Tryd.prog false .neq 26 p17 p18).bind fun p19 =>
onBool p19 fun b20 => (bif b20 then
(aLen Tryd.prog 23 p12).bind fun p22 =>
(aBin Tryd.prog true .eql 3 p22 (PV.v (.int .i64 0))).bind fun p23 =>
some (Ex.ret, [p23, p12], st16)
else
some (Ex.normal, [(nth r9.2.1 1), p12], st16)).bind fun r21 =>
seqK r21.1 ((aLen Tryd.prog 23 (nth r21.2.1 1)).bind fun p25 =>
(it (S5.b0 call it st.stk.length st.lp.length) [(nth r21.2.1 0), (nth r21.2.1 1), (PV.v (.string ⟨#[]⟩)), (nth r21.2.1 1), p25, (PV.v (.int .i64 0))] r21.2.2).bind fun r26 =>
seqK (Ex.outOf 0 r26.1) ((aLen Tryd.prog 9 (nth r26.2.1 2)).bind fun p44 =>
(aBin Tryd.prog true .gtr 3 p44 (PV.v (.int .i64 8192))).bind fun p45 =>
onBool p45 fun b46 => (bif b46 then
some (Ex.ret, [(PV.v (.bool true)), (nth r26.2.1 1), (nth r26.2.1 2)], r26.2.2)
else
some (Ex.normal, [(nth r26.2.1 0), (nth r26.2.1 1), (nth r26.2.1 2)], r26.2.2)).bind fun r47 =>
seqK r47.1 ((call (.func 10) [canon (nth r47.2.1 2)] r47.2.2).bind fun r49 =>
(aExtract r49.1 0).bind fun p50 =>
(aExtract r49.1 1).bind fun p51 =>
let q53 : PV := .ptr false r49.2.stk.length 0
let st52 := r49.2.push [.v (.int .i64 0), .v (.int .i64 0), .v (.int .i64 0)]
(aStore st.stk.length 3 q53 p51 st52).bind fun st54 =>
(aLoad true 3 q53 st54).bind fun p55 =>
(rBuild [(0, 1), (1, 1), (2, 1)] [.v (.int .i64 0), .v (.int .i64 0), .v (.int .i64 0)] []).bind fun p56 =>
(aBin Tryd.prog false .neq 26 p55 p56).bind fun p57 =>
(onG p57 false (
some (p50, st54)) st54).bind fun r59 =>
(onG p57 false (
(aLen Tryd.prog 23 r59.1).bind fun p62 =>
some (p62, r59.2)) r59.2).bind fun r61 =>
(onG p57 false (
some ((nth r47.2.1 1), r61.2)) r61.2).bind fun r64 =>
(onG p57 false (
(aLen Tryd.prog 23 r64.1).bind fun p67 =>
some (p67, r64.2)) r64.2).bind fun r66 =>
(onG p57 false (
(aBin Tryd.prog false .neq 3 r61.1 r66.1).bind fun p70 =>
some (p70, r66.2)) r66.2).bind fun r69 =>
(aPick p57 (PV.v (.bool true)) r69.1).bind fun p71 =>
onBool p71 fun b72 => (bif b72 then
some (Ex.ret, [(PV.v (.bool false)), (nth r47.2.1 1), p50], r69.2)
else
some (Ex.normal, [(nth r47.2.1 0), (nth r47.2.1 1), p50], r69.2)).bind fun r73 =>
seqK r73.1 ((aLen Tryd.prog 23 (nth r73.2.1 1)).bind fun p75 =>
(it (S5.b1 call it st.stk.length st.lp.length) [(nth r73.2.1 0), (nth r73.2.1 1), (nth r73.2.1 2), p75, (PV.v (.int .i64 0))] r73.2.2).bind fun r76 =>
seqK (Ex.outOf 2 r76.1) (fin st.stk.length st.tk.length st.lp.length [(PV.v (.bool true))] r76.2.2) fun x215 =>
retK x215 (fin st.stk.length st.tk.length st.lp.length [(nth r76.2.1 0)] r76.2.2)) fun x74 =>
retK x74 (fin st.stk.length st.tk.length st.lp.length [(nth r73.2.1 0)] r73.2.2)) fun x48 =>
retK x48 (fin st.stk.length st.tk.length st.lp.length [(nth r47.2.1 0)] r47.2.2)) fun x43 =>
retK x43 (fin st.stk.length st.tk.length st.lp.length [(nth r26.2.1 0)] r26.2.2)) fun x24 =>
retK x24 (fin st.stk.length st.tk.length st.lp.length [(nth r21.2.1 0)] r21.2.2)) fun x10 =>
retK x10 (fin st.stk.length st.tk.length st.lp.length [(nth r9.2.1 1)] r9.2.2)) fun x5 =>
retK x5 (fin st.stk.length st.tk.length st.lp.length [(nth r4.2.1 1)] r4.2.2)
theorem S5_eq (a0 : PV) (st : St) : E L (.func 5) [a0] st = S5 (E L) itE a0 st := (E_func' (by rfl) Tryd.func5 _ _).trans (by kernel_rfl)
noncomputable def S6.b0 (call : CallF) (it : LoopF) (base lb : Nat) (vs18 : List PV) (st19 : St) : Option (Ex × List PV × St) :=
(aLen Tryd.prog 9 (nth vs18 0)).bind fun p20 =>
(aBin Tryd.prog false .lss 3 (nth vs18 6) p20).bind fun p21 =>
(onG p21 true (
some ((nth vs18 5), st19)) st19).bind fun r23 =>
(onG p21 true (
some ((nth vs18 2), r23.2)) r23.2).bind fun r25 =>
(onG p21 true (
(aLen Tryd.prog 23 r25.1).bind fun p28 =>
some (p28, r25.2)) r25.2).bind fun r27 =>
(onG p21 true (
(aBin Tryd.prog false .lss 3 r23.1 r27.1).bind fun p31 =>
some (p31, r27.2)) r27.2).bind fun r30 =>
(aPick p21 r30.1 (PV.v (.bool false))).bind fun p32 =>
onBool p32 fun b33 => (bif b33 then
some (Ex.normal, [(nth vs18 0), (nth vs18 1), (nth vs18 2), (nth vs18 3), (nth vs18 4), (nth vs18 5), (nth vs18 6)], r30.2)
else
some ((Ex.exit 0), [(nth vs18 0), (nth vs18 1), (nth vs18 2), (nth vs18 3), (nth vs18 4), (nth vs18 5), (nth vs18 6)], r30.2)).bind fun r34 =>
seqK r34.1 ((aIndexAddr Tryd.prog 23 (nth r34.2.1 2) (nth r34.2.1 5)).bind fun p36 =>
(shift p36 3).bind fun p37 =>
(aLoad false 1 p37 r34.2.2).bind fun p38 =>
(aBin Tryd.prog false .eql 3 p38 (nth r34.2.1 3)).bind fun p39 =>
(onG p39 true (
some ((nth r34.2.1 2), r34.2.2)) r34.2.2).bind fun r41 =>
(onG p39 true (
some ((nth r34.2.1 5), r41.2)) r41.2).bind fun r43 =>
(onG p39 true (
(aIndexAddr Tryd.prog 23 r41.1 r43.1).bind fun p46 =>
some (p46, r43.2)) r43.2).bind fun r45 =>
(onG p39 true (
(shift r45.1 4).bind fun p49 =>
some (p49, r45.2)) r45.2).bind fun r48 =>
(onG p39 true (
(aLoad false 1 r48.1 r48.2).bind fun p52 =>
some (p52, r48.2)) r48.2).bind fun r51 =>
(onG p39 true (
some ((nth r34.2.1 4), r51.2)) r51.2).bind fun r54 =>
(onG p39 true (
(aBin Tryd.prog false .eql 3 r51.1 r54.1).bind fun p57 =>
some (p57, r54.2)) r54.2).bind fun r56 =>
(aPick p39 r56.1 (PV.v (.bool false))).bind fun p58 =>
(onG p58 true (
some ((nth r34.2.1 2), r56.2)) r56.2).bind fun r60 =>
(onG p58 true (
some ((nth r34.2.1 5), r60.2)) r60.2).bind fun r62 =>
(onG p58 true (
(aIndexAddr Tryd.prog 23 r60.1 r62.1).bind fun p65 =>
some (p65, r62.2)) r62.2).bind fun r64 =>
(onG p58 true (
(shift r64.1 0).bind fun p68 =>
some (p68, r64.2)) r64.2).bind fun r67 =>
(onG p58 true (
(aLoad false 1 r67.1 r67.2).bind fun p71 =>
some (p71, r67.2)) r67.2).bind fun r70 =>
(onG p58 true (
(aBin Tryd.prog true .neq 32 r70.1 (PV.v (.int .i64 0))).bind fun p74 =>
some (p74, r70.2)) r70.2).bind fun r73 =>
(aPick p58 r73.1 (PV.v (.bool false))).bind fun p75 =>
onBool p75 fun b76 => (bif b76 then
(aIndexAddr Tryd.prog 23 (nth r34.2.1 2) (nth r34.2.1 5)).bind fun p78 =>
(shift p78 1).bind fun p79 =>
(aLoad false 1 p79 r73.2).bind fun p80 =>
(aLen Tryd.prog 9 p80).bind fun p81 =>
(aBin Tryd.prog false .add 3 (nth r34.2.1 6) p81).bind fun p82 =>
(aLen Tryd.prog 9 (nth r34.2.1 0)).bind fun p83 =>
(aBin Tryd.prog false .gtr 3 p82 p83).bind fun p84 =>
(onG p84 false (
some ((nth r34.2.1 0), r73.2)) r73.2).bind fun r86 =>
(onG p84 false (
some ((nth r34.2.1 6), r86.2)) r86.2).bind fun r88 =>
(onG p84 false (
some ((nth r34.2.1 6), r88.2)) r88.2).bind fun r90 =>
(onG p84 false (
some (p80, r90.2)) r90.2).bind fun r92 =>
(onG p84 false (
(aLen Tryd.prog 9 r92.1).bind fun p95 =>
some (p95, r92.2)) r92.2).bind fun r94 =>
(onG p84 false (
(aBin Tryd.prog false .add 3 r90.1 r94.1).bind fun p98 =>
some (p98, r94.2)) r94.2).bind fun r97 =>
(onG p84 false (
(aSlice Tryd.prog 9 r86.1 (some r88.1) (some r97.1) none).bind fun p101 =>
some (p101, r97.2)) r97.2).bind fun r100 =>
(onG p84 false (
some (p80, r100.2)) r100.2).bind fun r103 =>
(onG p84 false (
(aBin Tryd.prog false .neq 9 r100.1 r103.1).bind fun p106 =>
some (p106, r103.2)) r103.2).bind fun r105 =>
(aPick p84 (PV.v (.bool true)) r105.1).bind fun p107 =>
(onG p107 false (
some (p80, r105.2)) r105.2).bind fun r109 =>
(onG p107 false (
(aBin Tryd.prog true .eql 9 r109.1 (PV.v (.string ⟨#[]⟩))).bind fun p112 =>
some (p112, r109.2)) r109.2).bind fun r111 =>
(aPick p107 (PV.v (.bool true)) r111.1).bind fun p113 =>
onBool p113 fun b114 => (bif b114 then
some (Ex.ret, [(nth r34.2.1 0), (PV.v (.bool false)), (nth r34.2.1 2), (nth r34.2.1 3), (nth r34.2.1 4), (nth r34.2.1 5), (nth r34.2.1 6)], r111.2)
else
some (Ex.normal, [(nth r34.2.1 0), (nth r34.2.1 1), (nth r34.2.1 2), (nth r34.2.1 3), (nth r34.2.1 4), (nth r34.2.1 5), (nth r34.2.1 6)], r111.2)).bind fun r115 =>
seqK r115.1 ((aBin Tryd.prog true .add 3 (nth r115.2.1 5) (PV.v (.int .i64 1))).bind fun p117 =>
some (Ex.normal, [(nth r115.2.1 0), (nth r115.2.1 1), (nth r115.2.1 2), (nth r115.2.1 3), (nth r115.2.1 4), p117, (nth r115.2.1 6)], r115.2.2)) fun x116 =>
some (x116, [(nth r115.2.1 0), (nth r115.2.1 1), (nth r115.2.1 2), (nth r115.2.1 3), (nth r115.2.1 4), (nth r115.2.1 5), (nth r115.2.1 6)], r115.2.2)
else
some (Ex.normal, [(nth r34.2.1 0), (nth r34.2.1 1), (nth r34.2.1 2), (nth r34.2.1 3), (nth r34.2.1 4), (nth r34.2.1 5), (nth r34.2.1 6)], r73.2)).bind fun r77 =>
seqK r77.1 ((aBin Tryd.prog true .add 3 (nth r77.2.1 4) (PV.v (.int .i64 1))).bind fun p119 =>
(aIndex Tryd.prog 9 (nth r77.2.1 0) (nth r77.2.1 6)).bind fun p120 =>
(aBin Tryd.prog true .eql 5 p120 (PV.v (.int .u8 10))).bind fun p121 =>
onBool p121 fun b122 => (bif b122 then
(aBin Tryd.prog true .add 3 (nth r77.2.1 3) (PV.v (.int .i64 1))).bind fun p124 =>
some (Ex.normal, [(nth r77.2.1 0), (nth r77.2.1 1), (nth r77.2.1 2), p124, (PV.v (.int .i64 1)), (nth r77.2.1 5), (nth r77.2.1 6)], r77.2.2)
else
some (Ex.normal, [(nth r77.2.1 0), (nth r77.2.1 1), (nth r77.2.1 2), (nth r77.2.1 3), p119, (nth r77.2.1 5), (nth r77.2.1 6)], r77.2.2)).bind fun r123 =>
seqK (Ex.outOf 1 r123.1) ((aBin Tryd.prog true .add 3 (nth r123.2.1 6) (PV.v (.int .i64 1))).bind fun p126 =>
some (Ex.normal, [(nth r123.2.1 0), (nth r123.2.1 1), (nth r123.2.1 2), (nth r123.2.1 3), (nth r123.2.1 4), (nth r123.2.1 5), p126], r123.2.2)) fun x125 =>
some (x125, [(nth r123.2.1 0), (nth r123.2.1 1), (nth r123.2.1 2), (nth r123.2.1 3), (nth r123.2.1 4), (nth r123.2.1 5), (nth r123.2.1 6)], r123.2.2)) fun x118 =>
seqK (Ex.outOf 1 x118) ((aBin Tryd.prog true .add 3 (nth r77.2.1 6) (PV.v (.int .i64 1))).bind fun p128 =>
some (Ex.normal, [(nth r77.2.1 0), (nth r77.2.1 1), (nth r77.2.1 2), (nth r77.2.1 3), (nth r77.2.1 4), (nth r77.2.1 5), p128], r77.2.2)) fun x127 =>
some (x127, [(nth r77.2.1 0), (nth r77.2.1 1), (nth r77.2.1 2), (nth r77.2.1 3), (nth r77.2.1 4), (nth r77.2.1 5), (nth r77.2.1 6)], r77.2.2)) fun x35 =>
some (x35, [(nth r34.2.1 0), (nth r34.2.1 1), (nth r34.2.1 2), (nth r34.2.1 3), (nth r34.2.1 4), (nth r34.2.1 5), (nth r34.2.1 6)], r34.2.2)
/-- padlock/padlocklaw03.LexPlaces -/
noncomputable def S6 (call : CallF) (it : LoopF) (a0 : PV) (st : St) : Option (PV × St) :=
(call (.func 9) [] st).bind fun r1 =>
(aUn Tryd.prog .not r1.1).bind fun p2 =>
onBool p2 fun b3 => (bif b3 then
some (Ex.ret, [a0, (PV.v (.bool false))], r1.2)
else
some (Ex.normal, [a0, (PV.v (.bool false))], r1.2)).bind fun r4 =>
seqK r4.1 ((aLen Tryd.prog 9 (nth r4.2.1 0)).bind fun p6 =>
(aBin Tryd.prog true .gtr 3 p6 (PV.v (.int .i64 8192))).bind fun p7 =>
onBool p7 fun b8 => (bif b8 then
some (Ex.ret, [(nth r4.2.1 0), (PV.v (.bool true))], r4.2.2)
else
some (Ex.normal, [(nth r4.2.1 0), (nth r4.2.1 1)], r4.2.2)).bind fun r9 =>
seqK r9.1 ((call (.func 10) [canon (nth r9.2.1 0)] r9.2.2).bind fun r11 =>
(aExtract r11.1 0).bind fun p12 =>
(aExtract r11.1 1).bind fun p13 =>
let q15 : PV := .ptr false r11.2.stk.length 0
let st14 := r11.2.push [.v (.int .i64 0), .v (.int .i64 0), .v (.int .i64 0)]
(aStore st.stk.length 3 q15 p13 st14).bind fun st16 =>
(it (S6.b0 call it st.stk.length st.lp.length) [(nth r9.2.1 0), (nth r9.2.1 1), p12, (PV.v (.int .i64 1)), (PV.v (.int .i64 1)), (PV.v (.int .i64 0)), (PV.v (.int .i64 0))] st16).bind fun r17 =>
seqK (Ex.outOf 0 r17.1) ((aLen Tryd.prog 23 (nth r17.2.1 2)).bind fun p130 =>
(aBin Tryd.prog true .eql 3 p130 (PV.v (.int .i64 0))).bind fun p131 =>
(onG p131 false (
some ((nth r17.2.1 5), r17.2.2)) r17.2.2).bind fun r133 =>
(onG p131 false (
some ((nth r17.2.1 2), r133.2)) r133.2).bind fun r135 =>
(onG p131 false (
(aLen Tryd.prog 23 r135.1).bind fun p138 =>
some (p138, r135.2)) r135.2).bind fun r137 =>
(onG p131 false (
(aBin Tryd.prog true .sub 3 r137.1 (PV.v (.int .i64 1))).bind fun p141 =>
some (p141, r137.2)) r137.2).bind fun r140 =>
(onG p131 false (
(aBin Tryd.prog false .eql 3 r133.1 r140.1).bind fun p144 =>
some (p144, r140.2)) r140.2).bind fun r143 =>
(onG p131 false (
some (r143.1, r143.2)) r143.2).bind fun r146 =>
(onG r146.1 true (
some ((nth r17.2.1 2), r146.2)) r146.2).bind fun r148 =>
(onG r146.1 true (
some ((nth r17.2.1 5), r148.2)) r148.2).bind fun r150 =>
(onG r146.1 true (
(aIndexAddr Tryd.prog 23 r148.1 r150.1).bind fun p153 =>
some (p153, r150.2)) r150.2).bind fun r152 =>
(onG r146.1 true (
(shift r152.1 0).bind fun p156 =>
some (p156, r152.2)) r152.2).bind fun r155 =>
(onG r146.1 true (
(aLoad false 1 r155.1 r155.2).bind fun p159 =>
some (p159, r155.2)) r155.2).bind fun r158 =>
(onG r146.1 true (
(aBin Tryd.prog true .eql 32 r158.1 (PV.v (.int .i64 0))).bind fun p162 =>
some (p162, r158.2)) r158.2).bind fun r161 =>
(onG p131 false (
(aPick r146.1 r161.1 (PV.v (.bool false))).bind fun p165 =>
some (p165, r161.2)) r161.2).bind fun r164 =>
(onG p131 false (
some (r164.1, r164.2)) r164.2).bind fun r167 =>
(onG r167.1 true (
some ((nth r17.2.1 2), r167.2)) r167.2).bind fun r169 =>
(onG r167.1 true (
some ((nth r17.2.1 5), r169.2)) r169.2).bind fun r171 =>
(onG r167.1 true (
(aIndexAddr Tryd.prog 23 r169.1 r171.1).bind fun p174 =>
some (p174, r171.2)) r171.2).bind fun r173 =>
(onG r167.1 true (
(shift r173.1 3).bind fun p177 =>
some (p177, r173.2)) r173.2).bind fun r176 =>
(onG r167.1 true (
(aLoad false 1 r176.1 r176.2).bind fun p180 =>
some (p180, r176.2)) r176.2).bind fun r179 =>
(onG r167.1 true (
some ((nth r17.2.1 3), r179.2)) r179.2).bind fun r182 =>
(onG r167.1 true (
(aBin Tryd.prog false .eql 3 r179.1 r182.1).bind fun p185 =>
some (p185, r182.2)) r182.2).bind fun r184 =>
(onG p131 false (
(aPick r167.1 r184.1 (PV.v (.bool false))).bind fun p188 =>
some (p188, r184.2)) r184.2).bind fun r187 =>
(onG p131 false (
some (r187.1, r187.2)) r187.2).bind fun r190 =>
(onG r190.1 true (
some ((nth r17.2.1 2), r190.2)) r190.2).bind fun r192 =>
(onG r190.1 true (
some ((nth r17.2.1 5), r192.2)) r192.2).bind fun r194 =>
(onG r190.1 true (
(aIndexAddr Tryd.prog 23 r192.1 r194.1).bind fun p197 =>
some (p197, r194.2)) r194.2).bind fun r196 =>
(onG r190.1 true (
(shift r196.1 4).bind fun p200 =>
some (p200, r196.2)) r196.2).bind fun r199 =>
(onG r190.1 true (
(aLoad false 1 r199.1 r199.2).bind fun p203 =>
some (p203, r199.2)) r199.2).bind fun r202 =>
(onG r190.1 true (
some ((nth r17.2.1 4), r202.2)) r202.2).bind fun r205 =>
(onG r190.1 true (
(aBin Tryd.prog false .eql 3 r202.1 r205.1).bind fun p208 =>
some (p208, r205.2)) r205.2).bind fun r207 =>
(onG p131 false (
(aPick r190.1 r207.1 (PV.v (.bool false))).bind fun p211 =>
some (p211, r207.2)) r207.2).bind fun r210 =>
(aPick p131 (PV.v (.bool true)) r210.1).bind fun p212 =>
fin st.stk.length st.tk.length st.lp.length [p212] r210.2) fun x129 =>
retK x129 (fin st.stk.length st.tk.length st.lp.length [(nth r17.2.1 1)] r17.2.2)) fun x10 =>
retK x10 (fin st.stk.length st.tk.length st.lp.length [(nth r9.2.1 1)] r9.2.2)) fun x5 =>
retK x5 (fin st.stk.length st.tk.length st.lp.length [(nth r4.2.1 1)] r4.2.2)
theorem S6_eq (a0 : PV) (st : St) : E L (.func 6) [a0] st = S6 (E L) itE a0 st := (E_func' (by rfl) Tryd.func6 _ _).trans (by kernel_rfl)
noncomputable def S7.b0 (call : CallF) (it : LoopF) (base lb : Nat) (vs139 : List PV) (st140 : St) : Option (Ex × List PV × St) :=
(aBin Tryd.prog false .lss 3 (nth vs139 6) (nth vs139 5)).bind fun p141 =>
onBool p141 fun b142 => (bif b142 then
some (Ex.normal, [(nth vs139 0), (nth vs139 1), (nth vs139 2), (nth vs139 3), (nth vs139 4), (nth vs139 5), (nth vs139 6)], st140)
else
some ((Ex.exit 0), [(nth vs139 0), (nth vs139 1), (nth vs139 2), (nth vs139 3), (nth vs139 4), (nth vs139 5), (nth vs139 6)], st140)).bind fun r143 =>
seqK r143.1 ((aIndexAddr Tryd.prog 23 (nth r143.2.1 4) (nth r143.2.1 6)).bind fun p145 =>
(aLoad true 5 p145 r143.2.2).bind fun p146 =>
let q148 : PV := .ptr false r143.2.2.stk.length 0
let st147 := r143.2.2.push [.v (.int .i64 0), .v (.string ⟨#[]⟩), .v (.int .u64 0), .v (.int .i64 0), .v (.int .i64 0)]
(aStore base 5 q148 p146 st147).bind fun st149 =>
(rBuild [(0, 1), (1, 1), (2, 1), (3, 1), (4, 1)] [.v (.int .i64 0), .v (.string ⟨#[]⟩), .v (.int .u64 0), .v (.int .i64 0), .v (.int .i64 0)] []).bind fun p150 =>
let q152 : PV := .ptr false st149.stk.length 0
let st151 := st149.push [.v (.int .i64 0), .v (.string ⟨#[]⟩), .v (.int .u64 0), .v (.int .i64 0), .v (.int .i64 0)]
(aStore base 5 q152 p150 st151).bind fun st153 =>
(aLen Tryd.prog 23 (nth r143.2.1 1)).bind fun p154 =>
(aBin Tryd.prog true .sub 3 p154 (PV.v (.int .i64 1))).bind fun p155 =>
(aBin Tryd.prog false .lss 3 (nth r143.2.1 6) p155).bind fun p156 =>
onBool p156 fun b157 => (bif b157 then
(aIndexAddr Tryd.prog 23 (nth r143.2.1 1) (nth r143.2.1 6)).bind fun p159 =>
(aLoad true 5 p159 st153).bind fun p160 =>
(aStore base 5 q152 p160 st153).bind fun st161 =>
some (Ex.normal, [(nth r143.2.1 0), (nth r143.2.1 1), (nth r143.2.1 2), (nth r143.2.1 3), q148, q152, (nth r143.2.1 4), (nth r143.2.1 5), (nth r143.2.1 6)], st161)
else
(aLen Tryd.prog 23 (nth r143.2.1 1)).bind fun p162 =>
(aBin Tryd.prog false .sub 3 (nth r143.2.1 6) p162).bind fun p163 =>
(aBin Tryd.prog true .add 3 p163 (PV.v (.int .i64 1))).bind fun p164 =>
(aIndexAddr Tryd.prog 23 (nth r143.2.1 2) p164).bind fun p165 =>
(aLoad true 5 p165 st153).bind fun p166 =>
(aStore base 5 q152 p166 st153).bind fun st167 =>
(shift q152 3).bind fun p168 =>
(aLoad false 1 p168 st167).bind fun p169 =>
(aBin Tryd.prog false .add 3 p169 (nth r143.2.1 3)).bind fun p170 =>
(shift q152 3).bind fun p171 =>
(aStore base 1 p171 p170 st167).bind fun st172 =>
some (Ex.normal, [(nth r143.2.1 0), (nth r143.2.1 1), (nth r143.2.1 2), (nth r143.2.1 3), q148, q152, (nth r143.2.1 4), (nth r143.2.1 5), (nth r143.2.1 6)], st172)).bind fun r158 =>
seqK r158.1 ((aLoad true 5 (nth r158.2.1 4) r158.2.2).bind fun p174 =>
(aLoad true 5 (nth r158.2.1 5) r158.2.2).bind fun p175 =>
(aBin Tryd.prog false .neq 35 p174 p175).bind fun p176 =>
onBool p176 fun b177 => (bif b177 then
some (Ex.ret, [(PV.v (.bool false)), (nth r158.2.1 1), (nth r158.2.1 2), (nth r158.2.1 3), (nth r158.2.1 6), (nth r158.2.1 7), (nth r158.2.1 8)], r158.2.2)
else
some (Ex.normal, [(nth r158.2.1 0), (nth r158.2.1 1), (nth r158.2.1 2), (nth r158.2.1 3), (nth r158.2.1 6), (nth r158.2.1 7), (nth r158.2.1 8)], r158.2.2)).bind fun r178 =>
seqK (Ex.outOf 1 r178.1) ((aBin Tryd.prog true .add 3 (nth r178.2.1 6) (PV.v (.int .i64 1))).bind fun p180 =>
leaveV base lb st140.stk.length Ex.normal [(nth r178.2.1 0), (nth r178.2.1 1), (nth r178.2.1 2), (nth r178.2.1 3), (nth r178.2.1 4), (nth r178.2.1 5), p180] r178.2.2) fun x179 =>
leaveV base lb st140.stk.length x179 [(nth r178.2.1 0), (nth r178.2.1 1), (nth r178.2.1 2), (nth r178.2.1 3), (nth r178.2.1 4), (nth r178.2.1 5), (nth r178.2.1 6)] r178.2.2) fun x173 =>
seqK (Ex.outOf 1 x173) ((aBin Tryd.prog true .add 3 (nth r158.2.1 8) (PV.v (.int .i64 1))).bind fun p182 =>
leaveV base lb st140.stk.length Ex.normal [(nth r158.2.1 0), (nth r158.2.1 1), (nth r158.2.1 2), (nth r158.2.1 3), (nth r158.2.1 6), (nth r158.2.1 7), p182] r158.2.2) fun x181 =>
leaveV base lb st140.stk.length x181 [(nth r158.2.1 0), (nth r158.2.1 1), (nth r158.2.1 2), (nth r158.2.1 3), (nth r158.2.1 6), (nth r158.2.1 7), (nth r158.2.1 8)] r158.2.2) fun x144 =>
leaveV base lb st140.stk.length x144 [(nth r143.2.1 0), (nth r143.2.1 1), (nth r143.2.1 2), (nth r143.2.1 3), (nth r143.2.1 4), (nth r143.2.1 5), (nth r143.2.1 6)] r143.2.2
/-- padlock/padlocklaw03.LexJoins -/
noncomputable def S7 (call : CallF) (it : LoopF) (a0 a1 : PV) (st : St) : Option (PV × St) :=
(call (.func 9) [] st).bind fun r1 =>
(aUn Tryd.prog .not r1.1).bind fun p2 =>
onBool p2 fun b3 => (bif b3 then
some (Ex.ret, [a0, a1, (PV.v (.bool false))], r1.2)
else
some (Ex.normal, [a0, a1, (PV.v (.bool false))], r1.2)).bind fun r4 =>
seqK r4.1 ((aLen Tryd.prog 9 (nth r4.2.1 0)).bind fun p6 =>
(aBin Tryd.prog true .gtr 3 p6 (PV.v (.int .i64 4096))).bind fun p7 =>
(onG p7 false (
some ((nth r4.2.1 1), r4.2.2)) r4.2.2).bind fun r9 =>
(onG p7 false (
(aLen Tryd.prog 9 r9.1).bind fun p12 =>
some (p12, r9.2)) r9.2).bind fun r11 =>
(onG p7 false (
(aBin Tryd.prog true .geq 3 r11.1 (PV.v (.int .i64 4096))).bind fun p15 =>
some (p15, r11.2)) r11.2).bind fun r14 =>
(aPick p7 (PV.v (.bool true)) r14.1).bind fun p16 =>
onBool p16 fun b17 => (bif b17 then
some (Ex.ret, [(nth r4.2.1 0), (nth r4.2.1 1), (PV.v (.bool true))], r14.2)
else
some (Ex.normal, [(nth r4.2.1 0), (nth r4.2.1 1), (nth r4.2.1 2)], r14.2)).bind fun r18 =>
seqK r18.1 ((call (.func 10) [canon (nth r18.2.1 0)] r18.2.2).bind fun r20 =>
(aExtract r20.1 0).bind fun p21 =>
(aExtract r20.1 1).bind fun p22 =>
let q24 : PV := .ptr false r20.2.stk.length 0
let st23 := r20.2.push [.v (.int .i64 0), .v (.int .i64 0), .v (.int .i64 0)]
(aStore st.stk.length 3 q24 p22 st23).bind fun st25 =>
(call (.func 10) [canon (nth r18.2.1 1)] st25).bind fun r26 =>
(aExtract r26.1 0).bind fun p27 =>
(aExtract r26.1 1).bind fun p28 =>
let q30 : PV := .ptr false r26.2.stk.length 0
let st29 := r26.2.push [.v (.int .i64 0), .v (.int .i64 0), .v (.int .i64 0)]
(aStore st.stk.length 3 q30 p28 st29).bind fun st31 =>
(aBin Tryd.prog true .add 9 (nth r18.2.1 0) (PV.v (.string ⟨#[10]⟩))).bind fun p32 =>
(aBin Tryd.prog false .add 9 p32 (nth r18.2.1 1)).bind fun p33 =>
(call (.func 10) [canon p33] st31).bind fun r34 =>
(aExtract r34.1 0).bind fun p35 =>
(aExtract r34.1 1).bind fun p36 =>
let q38 : PV := .ptr false r34.2.stk.length 0
let st37 := r34.2.push [.v (.int .i64 0), .v (.int .i64 0), .v (.int .i64 0)]
(aStore st.stk.length 3 q38 p36 st37).bind fun st39 =>
(aLoad true 3 q24 st39).bind fun p40 =>
(rBuild [(0, 1), (1, 1), (2, 1)] [.v (.int .i64 0), .v (.int .i64 0), .v (.int .i64 0)] []).bind fun p41 =>
(aBin Tryd.prog false .neq 26 p40 p41).bind fun p42 =>
(onG p42 false (
(aLoad true 3 q30 st39).bind fun p45 =>
some (p45, st39)) st39).bind fun r44 =>
(onG p42 false (
(rBuild [(0, 1), (1, 1), (2, 1)] [.v (.int .i64 0), .v (.int .i64 0), .v (.int .i64 0)] []).bind fun p48 =>
some (p48, r44.2)) r44.2).bind fun r47 =>
(onG p42 false (
(aBin Tryd.prog false .neq 26 r44.1 r47.1).bind fun p51 =>
some (p51, r47.2)) r47.2).bind fun r50 =>
(aPick p42 (PV.v (.bool true)) r50.1).bind fun p52 =>
onBool p52 fun b53 => (bif b53 then
(aLoad true 3 q38 r50.2).bind fun p55 =>
(rBuild [(0, 1), (1, 1), (2, 1)] [.v (.int .i64 0), .v (.int .i64 0), .v (.int .i64 0)] []).bind fun p56 =>
(aBin Tryd.prog false .neq 26 p55 p56).bind fun p57 =>
(onG p57 true (
some (p35, r50.2)) r50.2).bind fun r59 =>
(onG p57 true (
(aLen Tryd.prog 23 r59.1).bind fun p62 =>
some (p62, r59.2)) r59.2).bind fun r61 =>
(onG p57 true (
(aBin Tryd.prog true .eql 3 r61.1 (PV.v (.int .i64 0))).bind fun p65 =>
some (p65, r61.2)) r61.2).bind fun r64 =>
(aPick p57 r64.1 (PV.v (.bool false))).bind fun p66 =>
(onG p66 true (
(aLoad true 3 q24 r64.2).bind fun p69 =>
some (p69, r64.2)) r64.2).bind fun r68 =>
(onG p66 true (
(rBuild [(0, 1), (1, 1), (2, 1)] [.v (.int .i64 0), .v (.int .i64 0), .v (.int .i64 0)] []).bind fun p72 =>
some (p72, r68.2)) r68.2).bind fun r71 =>
(onG p66 true (
(aBin Tryd.prog false .eql 26 r68.1 r71.1).bind fun p75 =>
some (p75, r71.2)) r71.2).bind fun r74 =>
(onG p66 true (
some (r74.1, r74.2)) r74.2).bind fun r77 =>
(onG r77.1 false (
(aLoad true 3 q38 r77.2).bind fun p80 =>
some (p80, r77.2)) r77.2).bind fun r79 =>
(onG r77.1 false (
(aLoad true 3 q24 r79.2).bind fun p83 =>
some (p83, r79.2)) r79.2).bind fun r82 =>
(onG r77.1 false (
(aBin Tryd.prog false .eql 26 r79.1 r82.1).bind fun p86 =>
some (p86, r82.2)) r82.2).bind fun r85 =>
(onG p66 true (
(aPick r77.1 (PV.v (.bool true)) r85.1).bind fun p89 =>
some (p89, r85.2)) r85.2).bind fun r88 =>
(aPick p66 r88.1 (PV.v (.bool false))).bind fun p90 =>
some (Ex.ret, [p90, p21, p27, p35, q38], r88.2)
else
some (Ex.normal, [(nth r18.2.1 2), p21, p27, p35, q38], r50.2)).bind fun r54 =>
seqK r54.1 ((aLoad true 3 (nth r54.2.1 4) r54.2.2).bind fun p92 =>
(rBuild [(0, 1), (1, 1), (2, 1)] [.v (.int .i64 0), .v (.int .i64 0), .v (.int .i64 0)] []).bind fun p93 =>
(aBin Tryd.prog false .neq 26 p92 p93).bind fun p94 =>
(onG p94 false (
some ((nth r54.2.1 1), r54.2.2)) r54.2.2).bind fun r96 =>
(onG p94 false (
(aLen Tryd.prog 23 r96.1).bind fun p99 =>
some (p99, r96.2)) r96.2).bind fun r98 =>
(onG p94 false (
(aBin Tryd.prog true .eql 3 r98.1 (PV.v (.int .i64 0))).bind fun p102 =>
some (p102, r98.2)) r98.2).bind fun r101 =>
(aPick p94 (PV.v (.bool true)) r101.1).bind fun p103 =>
(onG p103 false (
some ((nth r54.2.1 3), r101.2)) r101.2).bind fun r105 =>
(onG p103 false (
(aLen Tryd.prog 23 r105.1).bind fun p108 =>
some (p108, r105.2)) r105.2).bind fun r107 =>
(onG p103 false (
some ((nth r54.2.1 1), r107.2)) r107.2).bind fun r110 =>
(onG p103 false (
(aLen Tryd.prog 23 r110.1).bind fun p113 =>
some (p113, r110.2)) r110.2).bind fun r112 =>
(onG p103 false (
(aBin Tryd.prog true .sub 3 r112.1 (PV.v (.int .i64 1))).bind fun p116 =>
some (p116, r112.2)) r112.2).bind fun r115 =>
(onG p103 false (
some ((nth r54.2.1 2), r115.2)) r115.2).bind fun r118 =>
(onG p103 false (
(aLen Tryd.prog 23 r118.1).bind fun p121 =>
some (p121, r118.2)) r118.2).bind fun r120 =>
(onG p103 false (
(aBin Tryd.prog false .add 3 r115.1 r120.1).bind fun p124 =>
some (p124, r120.2)) r120.2).bind fun r123 =>
(onG p103 false (
(aBin Tryd.prog false .neq 3 r107.1 r123.1).bind fun p127 =>
some (p127, r123.2)) r123.2).bind fun r126 =>
(aPick p103 (PV.v (.bool true)) r126.1).bind fun p128 =>
onBool p128 fun b129 => (bif b129 then
some (Ex.ret, [(PV.v (.bool false)), (nth r54.2.1 1), (nth r54.2.1 2), (nth r54.2.1 3)], r126.2)
else
some (Ex.normal, [(nth r54.2.1 0), (nth r54.2.1 1), (nth r54.2.1 2), (nth r54.2.1 3)], r126.2)).bind fun r130 =>
seqK r130.1 ((aLen Tryd.prog 23 (nth r130.2.1 1)).bind fun p132 =>
(aBin Tryd.prog true .sub 3 p132 (PV.v (.int .i64 1))).bind fun p133 =>
(aIndexAddr Tryd.prog 23 (nth r130.2.1 1) p133).bind fun p134 =>
(shift p134 3).bind fun p135 =>
(aLoad false 1 p135 r130.2.2).bind fun p136 =>
(aLen Tryd.prog 23 (nth r130.2.1 3)).bind fun p137 =>
(it (S7.b0 call it st.stk.length st.lp.length) [(nth r130.2.1 0), (nth r130.2.1 1), (nth r130.2.1 2), p136, (nth r130.2.1 3), p137, (PV.v (.int .i64 0))] r130.2.2).bind fun r138 =>
seqK (Ex.outOf 0 r138.1) (fin st.stk.length st.tk.length st.lp.length [(PV.v (.bool true))] r138.2.2) fun x183 =>
retK x183 (fin st.stk.length st.tk.length st.lp.length [(nth r138.2.1 0)] r138.2.2)) fun x131 =>
retK x131 (fin st.stk.length st.tk.length st.lp.length [(nth r130.2.1 0)] r130.2.2)) fun x91 =>
retK x91 (fin st.stk.length st.tk.length st.lp.length [(nth r54.2.1 0)] r54.2.2)) fun x19 =>
retK x19 (fin st.stk.length st.tk.length st.lp.length [(nth r18.2.1 2)] r18.2.2)) fun x5 =>
retK x5 (fin st.stk.length st.tk.length st.lp.length [(nth r4.2.1 2)] r4.2.2)
theorem S7_eq (a0 a1 : PV) (st : St) : E L (.func 7) [a0, a1] st = S7 (E L) itE a0 a1 st := (E_func' (by rfl) Tryd.func7 _ _).trans (by kernel_rfl)
noncomputable def S8.b0 (call : CallF) (it : LoopF) (base lb : Nat) (vs21 : List PV) (st22 : St) : Option (Ex × List PV × St) :=
(aLen Tryd.prog 9 (nth vs21 1)).bind fun p23 =>
(aBin Tryd.prog false .lss 3 (nth vs21 3) p23).bind fun p24 =>
onBool p24 fun b25 => (bif b25 then
some (Ex.normal, [(nth vs21 0), (nth vs21 1), (nth vs21 2), (nth vs21 3)], st22)
else
some ((Ex.exit 0), [(nth vs21 0), (nth vs21 1), (nth vs21 2), (nth vs21 3)], st22)).bind fun r26 =>
seqK r26.1 ((aIndex Tryd.prog 9 (nth r26.2.1 1) (nth r26.2.1 3)).bind fun p28 =>
(aBin Tryd.prog true .eql 5 p28 (PV.v (.int .u8 10))).bind fun p29 =>
onBool p29 fun b30 => (bif b30 then
some (Ex.ret, [(nth r26.2.1 0), (nth r26.2.1 1), (PV.v (.bool true)), (nth r26.2.1 3)], r26.2.2)
else
some (Ex.normal, [(nth r26.2.1 0), (nth r26.2.1 1), (nth r26.2.1 2), (nth r26.2.1 3)], r26.2.2)).bind fun r31 =>
seqK (Ex.outOf 1 r31.1) ((aBin Tryd.prog true .add 3 (nth r31.2.1 3) (PV.v (.int .i64 1))).bind fun p33 =>
some (Ex.normal, [(nth r31.2.1 0), (nth r31.2.1 1), (nth r31.2.1 2), p33], r31.2.2)) fun x32 =>
some (x32, [(nth r31.2.1 0), (nth r31.2.1 1), (nth r31.2.1 2), (nth r31.2.1 3)], r31.2.2)) fun x27 =>
some (x27, [(nth r26.2.1 0), (nth r26.2.1 1), (nth r26.2.1 2), (nth r26.2.1 3)], r26.2.2)
noncomputable def S8.b1 (call : CallF) (it : LoopF) (base lb : Nat) (vs49 : List PV) (st50 : St) : Option (Ex × List PV × St) :=
(aBin Tryd.prog false .lss 3 (nth vs49 6) (nth vs49 5)).bind fun p51 =>
onBool p51 fun b52 => (bif b52 then
some (Ex.normal, [(nth vs49 0), (nth vs49 1), (nth vs49 2), (nth vs49 3), (nth vs49 4), (nth vs49 5), (nth vs49 6)], st50)
else
some ((Ex.exit 2), [(nth vs49 0), (nth vs49 1), (nth vs49 2), (nth vs49 3), (nth vs49 4), (nth vs49 5), (nth vs49 6)], st50)).bind fun r53 =>
seqK r53.1 ((aIndexAddr Tryd.prog 23 (nth r53.2.1 4) (nth r53.2.1 6)).bind fun p55 =>
(aLoad true 5 p55 r53.2.2).bind fun p56 =>
let q58 : PV := .ptr false r53.2.2.stk.length 0
let st57 := r53.2.2.push [.v (.int .i64 0), .v (.string ⟨#[]⟩), .v (.int .u64 0), .v (.int .i64 0), .v (.int .i64 0)]
(aStore base 5 q58 p56 st57).bind fun st59 =>
(shift q58 1).bind fun p60 =>
(aLoad false 1 p60 st59).bind fun p61 =>
(aBin Tryd.prog false .add 9 (nth r53.2.1 3) p61).bind fun p62 =>
(aBin Tryd.prog true .add 9 p62 (PV.v (.string ⟨#[32]⟩))).bind fun p63 =>
(aBin Tryd.prog true .rem 3 (nth r53.2.1 6) (PV.v (.int .i64 3))).bind fun p64 =>
(aBin Tryd.prog true .eql 3 p64 (PV.v (.int .i64 0))).bind fun p65 =>
onBool p65 fun b66 => (bif b66 then
(aBin Tryd.prog true .add 9 p63 (PV.v (.string ⟨#[9, 47, 47]⟩))).bind fun p68 =>
(aBin Tryd.prog false .add 9 p68 (nth r53.2.1 0)).bind fun p69 =>
(aBin Tryd.prog true .add 9 p69 (PV.v (.string ⟨#[10]⟩))).bind fun p70 =>
some (Ex.normal, [(nth r53.2.1 0), (nth r53.2.1 1), (nth r53.2.1 2), p70, (nth r53.2.1 4), (nth r53.2.1 5), (nth r53.2.1 6)], st59)
else
some (Ex.normal, [(nth r53.2.1 0), (nth r53.2.1 1), (nth r53.2.1 2), p63, (nth r53.2.1 4), (nth r53.2.1 5), (nth r53.2.1 6)], st59)).bind fun r67 =>
seqK (Ex.outOf 3 r67.1) ((aBin Tryd.prog true .add 3 (nth r67.2.1 6) (PV.v (.int .i64 1))).bind fun p72 =>
leaveV base lb st50.stk.length Ex.normal [(nth r67.2.1 0), (nth r67.2.1 1), (nth r67.2.1 2), (nth r67.2.1 3), (nth r67.2.1 4), (nth r67.2.1 5), p72] r67.2.2) fun x71 =>
leaveV base lb st50.stk.length x71 [(nth r67.2.1 0), (nth r67.2.1 1), (nth r67.2.1 2), (nth r67.2.1 3), (nth r67.2.1 4), (nth r67.2.1 5), (nth r67.2.1 6)] r67.2.2) fun x54 =>
leaveV base lb st50.stk.length x54 [(nth r53.2.1 0), (nth r53.2.1 1), (nth r53.2.1 2), (nth r53.2.1 3), (nth r53.2.1 4), (nth r53.2.1 5), (nth r53.2.1 6)] r53.2.2
noncomputable def S8.b2 (call : CallF) (it : LoopF) (base lb : Nat) (vs107 : List PV) (st108 : St) : Option (Ex × List PV × St) :=
(aBin Tryd.prog false .lss 3 (nth vs107 4) (nth vs107 3)).bind fun p109 =>
onBool p109 fun b110 => (bif b110 then
some (Ex.normal, [(nth vs107 0), (nth vs107 1), (nth vs107 2), (nth vs107 3), (nth vs107 4)], st108)
else
some ((Ex.exit 4), [(nth vs107 0), (nth vs107 1), (nth vs107 2), (nth vs107 3), (nth vs107 4)], st108)).bind fun r111 =>
seqK r111.1 ((aIndexAddr Tryd.prog 23 (nth r111.2.1 1) (nth r111.2.1 4)).bind fun p113 =>
(shift p113 0).bind fun p114 =>
(aLoad false 1 p114 r111.2.2).bind fun p115 =>
need (r111.2.2 = r111.2.2) <|
(aIndexAddr Tryd.prog 23 (nth r111.2.1 2) (nth r111.2.1 4)).bind fun p116 =>
(shift p116 0).bind fun p117 =>
(aLoad false 1 p117 r111.2.2).bind fun p118 =>
need (r111.2.2 = r111.2.2) <|
(aBin Tryd.prog false .neq 32 p115 p118).bind fun p119 =>
(onG p119 false (
some ((nth r111.2.1 1), r111.2.2)) r111.2.2).bind fun r121 =>
(onG p119 false (
some ((nth r111.2.1 4), r111.2.2)) r111.2.2).bind fun r123 =>
(onG p119 false (
(aIndexAddr Tryd.prog 23 r121.1 r123.1).bind fun p126 =>
some (p126, r111.2.2)) r111.2.2).bind fun r125 =>
(onG p119 false (
(shift r125.1 1).bind fun p129 =>
some (p129, r111.2.2)) r111.2.2).bind fun r128 =>
(onG p119 false (
(aLoad false 1 r128.1 r111.2.2).bind fun p132 =>
some (p132, r111.2.2)) r111.2.2).bind fun r131 =>
need (r131.2 = r111.2.2) <|
(onG p119 false (
some ((nth r111.2.1 2), r111.2.2)) r111.2.2).bind fun r134 =>
(onG p119 false (
some ((nth r111.2.1 4), r111.2.2)) r111.2.2).bind fun r136 =>
(onG p119 false (
(aIndexAddr Tryd.prog 23 r134.1 r136.1).bind fun p139 =>
some (p139, r111.2.2)) r111.2.2).bind fun r138 =>
(onG p119 false (
(shift r138.1 1).bind fun p142 =>
some (p142, r111.2.2)) r111.2.2).bind fun r141 =>
(onG p119 false (
(aLoad false 1 r141.1 r111.2.2).bind fun p145 =>
some (p145, r111.2.2)) r111.2.2).bind fun r144 =>
need (r144.2 = r111.2.2) <|
(onG p119 false (
(aBin Tryd.prog false .neq 9 r131.1 r144.1).bind fun p148 =>
some (p148, r111.2.2)) r111.2.2).bind fun r147 =>
(aPick p119 (PV.v (.bool true)) r147.1).bind fun p149 =>
(onG p149 false (
some ((nth r111.2.1 1), r111.2.2)) r111.2.2).bind fun r151 =>
(onG p149 false (
some ((nth r111.2.1 4), r111.2.2)) r111.2.2).bind fun r153 =>
(onG p149 false (
(aIndexAddr Tryd.prog 23 r151.1 r153.1).bind fun p156 =>
some (p156, r111.2.2)) r111.2.2).bind fun r155 =>
(onG p149 false (
(shift r155.1 2).bind fun p159 =>
some (p159, r111.2.2)) r111.2.2).bind fun r158 =>
(onG p149 false (
(aLoad false 1 r158.1 r111.2.2).bind fun p162 =>
some (p162, r111.2.2)) r111.2.2).bind fun r161 =>
need (r161.2 = r111.2.2) <|
(onG p149 false (
some ((nth r111.2.1 2), r111.2.2)) r111.2.2).bind fun r164 =>
(onG p149 false (
some ((nth r111.2.1 4), r111.2.2)) r111.2.2).bind fun r166 =>
(onG p149 false (
(aIndexAddr Tryd.prog 23 r164.1 r166.1).bind fun p169 =>
some (p169, r111.2.2)) r111.2.2).bind fun r168 =>
(onG p149 false (
(shift r168.1 2).bind fun p172 =>
some (p172, r111.2.2)) r111.2.2).bind fun r171 =>
(onG p149 false (
(aLoad false 1 r171.1 r111.2.2).bind fun p175 =>
some (p175, r111.2.2)) r111.2.2).bind fun r174 =>
need (r174.2 = r111.2.2) <|
(onG p149 false (
(aBin Tryd.prog false .neq 33 r161.1 r174.1).bind fun p178 =>
some (p178, r111.2.2)) r111.2.2).bind fun r177 =>
(aPick p149 (PV.v (.bool true)) r177.1).bind fun p179 =>
onBool p179 fun b180 => (bif b180 then
some (Ex.ret, [(PV.v (.bool false)), (nth r111.2.1 1), (nth r111.2.1 2), (nth r111.2.1 3), (nth r111.2.1 4)], r111.2.2)
else
some (Ex.normal, [(nth r111.2.1 0), (nth r111.2.1 1), (nth r111.2.1 2), (nth r111.2.1 3), (nth r111.2.1 4)], r111.2.2)).bind fun r181 =>
seqK (Ex.outOf 5 r181.1) ((aBin Tryd.prog true .add 3 (nth r181.2.1 4) (PV.v (.int .i64 1))).bind fun p183 =>
some (Ex.normal, [(nth r181.2.1 0), (nth r181.2.1 1), (nth r181.2.1 2), (nth r181.2.1 3), p183], r181.2.2)) fun x182 =>
some (x182, [(nth r181.2.1 0), (nth r181.2.1 1), (nth r181.2.1 2), (nth r181.2.1 3), (nth r181.2.1 4)], r181.2.2)) fun x112 =>
some (x112, [(nth r111.2.1 0), (nth r111.2.1 1), (nth r111.2.1 2), (nth r111.2.1 3), (nth r111.2.1 4)], r111.2.2)
/-- padlock/padlocklaw03.LexNotes -/
noncomputable def S8 (call : CallF) (it : LoopF) (a0 a1 : PV) (st : St) : Option (PV × St) :=
(call (.func 9) [] st).bind fun r1 =>
(aUn Tryd.prog .not r1.1).bind fun p2 =>
onBool p2 fun b3 => (bif b3 then
some (Ex.ret, [a0, a1, (PV.v (.bool false))], r1.2)
else
some (Ex.normal, [a0, a1, (PV.v (.bool false))], r1.2)).bind fun r4 =>
seqK r4.1 ((aLen Tryd.prog 9 (nth r4.2.1 0)).bind fun p6 =>
(aBin Tryd.prog true .gtr 3 p6 (PV.v (.int .i64 4096))).bind fun p7 =>
(onG p7 false (
some ((nth r4.2.1 1), r4.2.2)) r4.2.2).bind fun r9 =>
(onG p7 false (
(aLen Tryd.prog 9 r9.1).bind fun p12 =>
some (p12, r9.2)) r9.2).bind fun r11 =>
(onG p7 false (
(aBin Tryd.prog true .gtr 3 r11.1 (PV.v (.int .i64 20))).bind fun p15 =>
some (p15, r11.2)) r11.2).bind fun r14 =>
(aPick p7 (PV.v (.bool true)) r14.1).bind fun p16 =>
onBool p16 fun b17 => (bif b17 then
some (Ex.ret, [(nth r4.2.1 0), (nth r4.2.1 1), (PV.v (.bool true))], r14.2)
else
some (Ex.normal, [(nth r4.2.1 0), (nth r4.2.1 1), (nth r4.2.1 2)], r14.2)).bind fun r18 =>
seqK r18.1 ((it (S8.b0 call it st.stk.length st.lp.length) [(nth r18.2.1 0), (nth r18.2.1 1), (nth r18.2.1 2), (PV.v (.int .i64 0))] r18.2.2).bind fun r20 =>
seqK (Ex.outOf 0 r20.1) ((call (.func 10) [canon (nth r20.2.1 0)] r20.2.2).bind fun r35 =>
(aExtract r35.1 0).bind fun p36 =>
(aExtract r35.1 1).bind fun p37 =>
let q39 : PV := .ptr false r35.2.stk.length 0
let st38 := r35.2.push [.v (.int .i64 0), .v (.int .i64 0), .v (.int .i64 0)]
(aStore st.stk.length 3 q39 p37 st38).bind fun st40 =>
(aLoad true 3 q39 st40).bind fun p41 =>
(rBuild [(0, 1), (1, 1), (2, 1)] [.v (.int .i64 0), .v (.int .i64 0), .v (.int .i64 0)] []).bind fun p42 =>
(aBin Tryd.prog false .neq 26 p41 p42).bind fun p43 =>
onBool p43 fun b44 => (bif b44 then
some (Ex.ret, [(nth r20.2.1 1), (PV.v (.bool true)), p36], st40)
else
some (Ex.normal, [(nth r20.2.1 1), (nth r20.2.1 2), p36], st40)).bind fun r45 =>
seqK r45.1 ((aLen Tryd.prog 23 (nth r45.2.1 2)).bind fun p47 =>
(it (S8.b1 call it st.stk.length st.lp.length) [(nth r45.2.1 0), (nth r45.2.1 1), (nth r45.2.1 2), (PV.v (.string ⟨#[]⟩)), (nth r45.2.1 2), p47, (PV.v (.int .i64 0))] r45.2.2).bind fun r48 =>
seqK (Ex.outOf 2 r48.1) ((aLen Tryd.prog 9 (nth r48.2.1 3)).bind fun p74 =>
(aBin Tryd.prog true .gtr 3 p74 (PV.v (.int .i64 8192))).bind fun p75 =>
onBool p75 fun b76 => (bif b76 then
some (Ex.ret, [(PV.v (.bool true)), (nth r48.2.1 2), (nth r48.2.1 3)], r48.2.2)
else
some (Ex.normal, [(nth r48.2.1 1), (nth r48.2.1 2), (nth r48.2.1 3)], r48.2.2)).bind fun r77 =>
seqK r77.1 ((call (.func 10) [canon (nth r77.2.1 2)] r77.2.2).bind fun r79 =>
(aExtract r79.1 0).bind fun p80 =>
(aExtract r79.1 1).bind fun p81 =>
let q83 : PV := .ptr false r79.2.stk.length 0
let st82 := r79.2.push [.v (.int .i64 0), .v (.int .i64 0), .v (.int .i64 0)]
(aStore st.stk.length 3 q83 p81 st82).bind fun st84 =>
(aLoad true 3 q83 st84).bind fun p85 =>
(rBuild [(0, 1), (1, 1), (2, 1)] [.v (.int .i64 0), .v (.int .i64 0), .v (.int .i64 0)] []).bind fun p86 =>
(aBin Tryd.prog false .neq 26 p85 p86).bind fun p87 =>
(onG p87 false (
some (p80, st84)) st84).bind fun r89 =>
(onG p87 false (
(aLen Tryd.prog 23 r89.1).bind fun p92 =>
some (p92, r89.2)) r89.2).bind fun r91 =>
(onG p87 false (
some ((nth r77.2.1 1), r91.2)) r91.2).bind fun r94 =>
(onG p87 false (
(aLen Tryd.prog 23 r94.1).bind fun p97 =>
some (p97, r94.2)) r94.2).bind fun r96 =>
(onG p87 false (
(aBin Tryd.prog false .neq 3 r91.1 r96.1).bind fun p100 =>
some (p100, r96.2)) r96.2).bind fun r99 =>
(aPick p87 (PV.v (.bool true)) r99.1).bind fun p101 =>
onBool p101 fun b102 => (bif b102 then
some (Ex.ret, [(PV.v (.bool false)), (nth r77.2.1 1), p80], r99.2)
else
some (Ex.normal, [(nth r77.2.1 0), (nth r77.2.1 1), p80], r99.2)).bind fun r103 =>
seqK r103.1 ((aLen Tryd.prog 23 (nth r103.2.1 1)).bind fun p105 =>
(it (S8.b2 call it st.stk.length st.lp.length) [(nth r103.2.1 0), (nth r103.2.1 1), (nth r103.2.1 2), p105, (PV.v (.int .i64 0))] r103.2.2).bind fun r106 =>
seqK (Ex.outOf 4 r106.1) (fin st.stk.length st.tk.length st.lp.length [(PV.v (.bool true))] r106.2.2) fun x184 =>
retK x184 (fin st.stk.length st.tk.length st.lp.length [(nth r106.2.1 0)] r106.2.2)) fun x104 =>
retK x104 (fin st.stk.length st.tk.length st.lp.length [(nth r103.2.1 0)] r103.2.2)) fun x78 =>
retK x78 (fin st.stk.length st.tk.length st.lp.length [(nth r77.2.1 0)] r77.2.2)) fun x73 =>
retK x73 (fin st.stk.length st.tk.length st.lp.length [(nth r48.2.1 1)] r48.2.2)) fun x46 =>
retK x46 (fin st.stk.length st.tk.length st.lp.length [(nth r45.2.1 1)] r45.2.2)) fun x34 =>
retK x34 (fin st.stk.length st.tk.length st.lp.length [(nth r20.2.1 2)] r20.2.2)) fun x19 =>
retK x19 (fin st.stk.length st.tk.length st.lp.length [(nth r18.2.1 2)] r18.2.2)) fun x5 =>
retK x5 (fin st.stk.length st.tk.length st.lp.length [(nth r4.2.1 2)] r4.2.2)
theorem S8_eq (a0 a1 : PV) (st : St) : E L (.func 8) [a0, a1] st = S8 (E L) itE a0 a1 st := (E_func' (by rfl) Tryd.func8 _ _).trans (by kernel_rfl)
/-- (*padlock/lex.reader).blank$1 -/
noncomputable def S29 (call : CallF) (it : LoopF) (a0 : PV) (st : St) : Option (PV × St) :=
(aBin Tryd.prog true .neq 21 a0 (PV.v (.int .i32 10))).bind fun p1 =>
fin st.stk.length st.tk.length st.lp.length [p1] st
theorem S29_eq (a0 : PV) (st : St) : E L (.func 29) [a0] st = S29 (E L) itE a0 st := (E_func' (by rfl) Tryd.func29 _ _).trans (by kernel_rfl)
/-- (*padlock/lex.reader).word$1 -/
noncomputable def S41 (call : CallF) (it : LoopF) (a0 : PV) (st : St) : Option (PV × St) :=
(call (.func 20) [canon a0] st).bind fun r1 =>
(onG r1.1 false (
some (a0, r1.2)) r1.2).bind fun r3 =>
(onG r1.1 false (
(call (.func 21) [canon r3.1] r3.2).bind fun r6 =>
some (r6.1, r6.2)) r3.2).bind fun r5 =>
(aPick r1.1 (PV.v (.bool true)) r5.1).bind fun p7 =>
fin st.stk.length st.tk.length st.lp.length [p7] r5.2
theorem S41_eq (a0 : PV) (st : St) : E L (.func 41) [a0] st = S41 (E L) itE a0 st := (E_func' (by rfl) Tryd.func41 _ _).trans (by kernel_rfl)
/-- (*padlock/lex.reader).real$1 -/
noncomputable def S44 (call : CallF) (it : LoopF) (a0 : PV) (st : St) : Option (PV × St) :=
(call (.func 20) [canon a0] st).bind fun r1 =>
(onG r1.1 false (
some (a0, r1.2)) r1.2).bind fun r3 =>
(onG r1.1 false (
(call (.func 21) [canon r3.1] r3.2).bind fun r6 =>
some (r6.1, r6.2)) r3.2).bind fun r5 =>
(aPick r1.1 (PV.v (.bool true)) r5.1).bind fun p7 =>
fin st.stk.length st.tk.length st.lp.length [p7] r5.2
theorem S44_eq (a0 : PV) (st : St) : E L (.func 44) [a0] st = S44 (E L) itE a0 st := (E_func' (by rfl) Tryd.func44 _ _).trans (by kernel_rfl)
end Go.Proofs.YtbbaalimilcppaaDoor.S

/- What the abstract machine's words say at this program's types: written by my program mkF.py. No condition. -/
namespace Go.Proofs.YtbbaalimilcppaaDoor.S
open Go Go.AM Go.Proofs
set_option linter.unusedVariables false
theorem under_26 : Tryd.prog.underlying 26 = some (.struct (Tryd.prog.fieldsOf 26)) := by kernel_rfl
theorem steq_26 (c : Bool) (x0 y0 : Int) (x1 y1 : Int) (x2 y2 : Int) : aBin Tryd.prog c .eql 26 (.agg [(.v (.int .i64 x0)), (.v (.int .i64 x1)), (.v (.int .i64 x2))]) (.agg [(.v (.int .i64 y0)), (.v (.int .i64 y1)), (.v (.int .i64 y2))]) = some (.v (.bool (((x0 == y0) && ((x1 == y1) && ((x2 == y2) && true)))))) := by kernel_rfl
theorem stne_26 (c : Bool) (x0 y0 : Int) (x1 y1 : Int) (x2 y2 : Int) : aBin Tryd.prog c .neq 26 (.agg [(.v (.int .i64 x0)), (.v (.int .i64 x1)), (.v (.int .i64 x2))]) (.agg [(.v (.int .i64 y0)), (.v (.int .i64 y1)), (.v (.int .i64 y2))]) = some (.v (.bool (!(((x0 == y0) && ((x1 == y1) && ((x2 == y2) && true))))))) := by kernel_rfl
theorem under_35 : Tryd.prog.underlying 35 = some (.struct (Tryd.prog.fieldsOf 35)) := by kernel_rfl
theorem steq_35 (c : Bool) (x0 y0 : Int) (x1 y1 : ByteArray) (x2 y2 : Int) (x3 y3 : Int) (x4 y4 : Int) : aBin Tryd.prog c .eql 35 (.agg [(.v (.int .i64 x0)), (.v (.string x1)), (.v (.int .u64 x2)), (.v (.int .i64 x3)), (.v (.int .i64 x4))]) (.agg [(.v (.int .i64 y0)), (.v (.string y1)), (.v (.int .u64 y2)), (.v (.int .i64 y3)), (.v (.int .i64 y4))]) = some (.v (.bool (((x0 == y0) && ((x1 == y1) && ((x2 == y2) && ((x3 == y3) && ((x4 == y4) && true)))))))) := by kernel_rfl
theorem stne_35 (c : Bool) (x0 y0 : Int) (x1 y1 : ByteArray) (x2 y2 : Int) (x3 y3 : Int) (x4 y4 : Int) : aBin Tryd.prog c .neq 35 (.agg [(.v (.int .i64 x0)), (.v (.string x1)), (.v (.int .u64 x2)), (.v (.int .i64 x3)), (.v (.int .i64 x4))]) (.agg [(.v (.int .i64 y0)), (.v (.string y1)), (.v (.int .u64 y2)), (.v (.int .i64 y3)), (.v (.int .i64 y4))]) = some (.v (.bool (!(((x0 == y0) && ((x1 == y1) && ((x2 == y2) && ((x3 == y3) && ((x4 == y4) && true))))))))) := by kernel_rfl
theorem under_37 : Tryd.prog.underlying 37 = some (.struct (Tryd.prog.fieldsOf 37)) := by kernel_rfl
theorem steq_37 (c : Bool) (x0 y0 : Int) (x1 y1 : ByteArray) (x2 y2 : Int) (x3 y3 : Int) (x4 y4 : Int) : aBin Tryd.prog c .eql 37 (.agg [(.v (.int .i64 x0)), (.v (.string x1)), (.v (.int .u64 x2)), (.v (.int .i64 x3)), (.v (.int .i64 x4))]) (.agg [(.v (.int .i64 y0)), (.v (.string y1)), (.v (.int .u64 y2)), (.v (.int .i64 y3)), (.v (.int .i64 y4))]) = some (.v (.bool (((x0 == y0) && ((x1 == y1) && ((x2 == y2) && ((x3 == y3) && ((x4 == y4) && true)))))))) := by kernel_rfl
theorem stne_37 (c : Bool) (x0 y0 : Int) (x1 y1 : ByteArray) (x2 y2 : Int) (x3 y3 : Int) (x4 y4 : Int) : aBin Tryd.prog c .neq 37 (.agg [(.v (.int .i64 x0)), (.v (.string x1)), (.v (.int .u64 x2)), (.v (.int .i64 x3)), (.v (.int .i64 x4))]) (.agg [(.v (.int .i64 y0)), (.v (.string y1)), (.v (.int .u64 y2)), (.v (.int .i64 y3)), (.v (.int .i64 y4))]) = some (.v (.bool (!(((x0 == y0) && ((x1 == y1) && ((x2 == y2) && ((x3 == y3) && ((x4 == y4) && true))))))))) := by kernel_rfl
theorem beq_4 (c x y : Bool) : aBin Tryd.prog c .eql 4 (.v (.bool x)) (.v (.bool y)) = some (.v (.bool (x == y))) := by kernel_rfl
theorem bne_4 (c x y : Bool) : aBin Tryd.prog c .neq 4 (.v (.bool x)) (.v (.bool y)) = some (.v (.bool (!(x == y)))) := by kernel_rfl
theorem nneql_62 : aBin Tryd.prog true .eql 62 (.v .nilIface) (.v .nilIface) = some (.v (.bool true)) := by kernel_rfl
theorem nnneq_62 : aBin Tryd.prog true .neq 62 (.v .nilIface) (.v .nilIface) = some (.v (.bool false)) := by kernel_rfl
theorem ineql_62 (c : Bool) : aBin Tryd.prog c .eql 62 (.ni) (.v .nilIface) = some (.v (.bool false)) := by kernel_rfl
theorem inneq_62 (c : Bool) : aBin Tryd.prog c .neq 62 (.ni) (.v .nilIface) = some (.v (.bool true)) := by kernel_rfl
theorem nieql_62 (c : Bool) : aBin Tryd.prog c .eql 62 (.v .nilIface) (.ni) = some (.v (.bool false)) := by kernel_rfl
theorem nineq_62 (c : Bool) : aBin Tryd.prog c .neq 62 (.v .nilIface) (.ni) = some (.v (.bool true)) := by kernel_rfl
theorem fneql_62 (c : Bool) (a : TypeId) (x : Value) : aBin Tryd.prog c .eql 62 (.ifc a x) (.v .nilIface) = some (.v (.bool false)) := by kernel_rfl
theorem fnneq_62 (c : Bool) (a : TypeId) (x : Value) : aBin Tryd.prog c .neq 62 (.ifc a x) (.v .nilIface) = some (.v (.bool true)) := by kernel_rfl
theorem conv_3_33 (n : Int) : aConv Tryd.prog 3 33 (.v (.int .i64 n)) = some (.v (.int .u64 (IntKind.u64.wrap n))) := by kernel_rfl
theorem conv_3_5 (n : Int) : aConv Tryd.prog 3 5 (.v (.int .i64 n)) = some (.v (.int .u8 (IntKind.u8.wrap n))) := by kernel_rfl
theorem conv_3_69 (n : Int) : aConv Tryd.prog 3 69 (.v (.int .i64 n)) = some (.v (.int .u64 (IntKind.u64.wrap n))) := by kernel_rfl
theorem conv_5_21 (n : Int) : aConv Tryd.prog 5 21 (.v (.int .u8 n)) = some (.v (.int .i32 (IntKind.i32.wrap n))) := by kernel_rfl
theorem conv_5_33 (n : Int) : aConv Tryd.prog 5 33 (.v (.int .u8 n)) = some (.v (.int .u64 (IntKind.u64.wrap n))) := by kernel_rfl
theorem conv_9_60 (s : ByteArray) : aConv Tryd.prog 9 60 (.v (.string s)) = some (.sl (bytesEs s) .dead) := by kernel_rfl
theorem ia_23 (es : List (List PV)) (c : Cap) (k : IntKind) (n : Int) : aIndexAddr Tryd.prog 23 (.sl es c) (.v (.int k n)) = bif inRange n es.length then (es[n.toNat]?).bind fun e => bif Nat.beq e.length 5 && true then some (.fp e 0) else none else none := by kernel_rfl
theorem iar_23 (h : Bool) (b off len sz : Nat) (k : IntKind) (n : Int) : aIndexAddr Tryd.prog 23 (.rs h b off len sz) (.v (.int k n)) = bif inRange n len && Nat.beq 5 sz && !Nat.beq sz 0 then some (.ptr h b (off + n.toNat * sz)) else none := by kernel_rfl
theorem ia_29 (es : List (List PV)) (c : Cap) (k : IntKind) (n : Int) : aIndexAddr Tryd.prog 29 (.sl es c) (.v (.int k n)) = bif inRange n es.length then (es[n.toNat]?).bind fun e => bif Nat.beq e.length 5 && true then some (.fp e 0) else none else none := by kernel_rfl
theorem iar_29 (h : Bool) (b off len sz : Nat) (k : IntKind) (n : Int) : aIndexAddr Tryd.prog 29 (.rs h b off len sz) (.v (.int k n)) = bif inRange n len && Nat.beq 5 sz && !Nat.beq sz 0 then some (.ptr h b (off + n.toNat * sz)) else none := by kernel_rfl
theorem ia_50 (es : List (List PV)) (c : Cap) (k : IntKind) (n : Int) : aIndexAddr Tryd.prog 50 (.sl es c) (.v (.int k n)) = bif inRange n es.length then (es[n.toNat]?).bind fun e => bif Nat.beq e.length 1 && true then some (.fp e 0) else none else none := by kernel_rfl
theorem iar_50 (h : Bool) (b off len sz : Nat) (k : IntKind) (n : Int) : aIndexAddr Tryd.prog 50 (.rs h b off len sz) (.v (.int k n)) = bif inRange n len && Nat.beq 1 sz && !Nat.beq sz 0 then some (.ptr h b (off + n.toNat * sz)) else none := by kernel_rfl
theorem ia_60 (es : List (List PV)) (c : Cap) (k : IntKind) (n : Int) : aIndexAddr Tryd.prog 60 (.sl es c) (.v (.int k n)) = bif inRange n es.length then (es[n.toNat]?).bind fun e => bif Nat.beq e.length 1 && true then some (.fp e 0) else none else none := by kernel_rfl
theorem iar_60 (h : Bool) (b off len sz : Nat) (k : IntKind) (n : Int) : aIndexAddr Tryd.prog 60 (.rs h b off len sz) (.v (.int k n)) = bif inRange n len && Nat.beq 1 sz && !Nat.beq sz 0 then some (.ptr h b (off + n.toNat * sz)) else none := by kernel_rfl
theorem ifc_70 (x : Value) : aIface Tryd.prog 70 (.v x) = some (.ifc 70 x) := by kernel_rfl
theorem ix0_66 (x0 x1 x2 : PV) (k : IntKind) : aIndex Tryd.prog 66 (.agg [x0, x1, x2]) (.v (.int k 0)) = some x0 := by kernel_rfl
theorem ix1_66 (x0 x1 x2 : PV) (k : IntKind) : aIndex Tryd.prog 66 (.agg [x0, x1, x2]) (.v (.int k 1)) = some x1 := by kernel_rfl
theorem ix2_66 (x0 x1 x2 : PV) (k : IntKind) : aIndex Tryd.prog 66 (.agg [x0, x1, x2]) (.v (.int k 2)) = some x2 := by kernel_rfl
theorem ix_9 {l : List UInt8} {i : Nat} (k : IntKind) (h : i < l.length) : aIndex Tryd.prog 9 (str l) (.v (.int k (i : Int))) = some (.v (.int .u8 (l[i].toNat : Int))) := idx_str (by kernel_rfl) k h
theorem ix0_9 (c : UInt8) (l : List UInt8) (k : IntKind) : aIndex Tryd.prog 9 (str (c :: l)) (.v (.int k 0)) = some (.v (.int .u8 (c.toNat : Int))) := ix_9 (l := c :: l) (i := 0) k (by simp)
theorem ix1_9 (b c : UInt8) (l : List UInt8) (k : IntKind) : aIndex Tryd.prog 9 (str (b :: c :: l)) (.v (.int k 1)) = some (.v (.int .u8 (c.toNat : Int))) := ix_9 (l := b :: c :: l) (i := 1) k (by simp)
theorem len_23 (es : List (List PV)) (c : Cap) : aLen Tryd.prog 23 (.sl es c) = some (.v (.int .i64 es.length)) := by kernel_rfl
theorem lenr_23 (h : Bool) (b off n sz : Nat) : aLen Tryd.prog 23 (.rs h b off n sz) = some (.v (.int .i64 n)) := by kernel_rfl
theorem len_29 (es : List (List PV)) (c : Cap) : aLen Tryd.prog 29 (.sl es c) = some (.v (.int .i64 es.length)) := by kernel_rfl
theorem lenr_29 (h : Bool) (b off n sz : Nat) : aLen Tryd.prog 29 (.rs h b off n sz) = some (.v (.int .i64 n)) := by kernel_rfl
theorem len_50 (es : List (List PV)) (c : Cap) : aLen Tryd.prog 50 (.sl es c) = some (.v (.int .i64 es.length)) := by kernel_rfl
theorem lenr_50 (h : Bool) (b off n sz : Nat) : aLen Tryd.prog 50 (.rs h b off n sz) = some (.v (.int .i64 n)) := by kernel_rfl
theorem len_60 (es : List (List PV)) (c : Cap) : aLen Tryd.prog 60 (.sl es c) = some (.v (.int .i64 es.length)) := by kernel_rfl
theorem lenr_60 (h : Bool) (b off n sz : Nat) : aLen Tryd.prog 60 (.rs h b off n sz) = some (.v (.int .i64 n)) := by kernel_rfl
theorem len_9 (s : ByteArray) : aLen Tryd.prog 9 (.v (.string s)) = some (.v (.int .i64 s.size)) := by kernel_rfl
theorem rng_9 (s : ByteArray) (st : St) : aRange Tryd.prog 9 (.v (.string s)) st = some (.it st.lp.length, { st with lp := st.lp ++ [.iter s 0] }) := by kernel_rfl
theorem slc_9 {l : List UInt8} {lo hi : Nat} (k k' : IntKind) (h : lo ≤ hi) (h' : hi ≤ l.length) : aSlice Tryd.prog 9 (str l) (some (.v (.int k (lo : Int)))) (some (.v (.int k' (hi : Int)))) none = some (str ((l.take hi).drop lo)) := slc_str (by kernel_rfl) k k' h h'
theorem slcl_9 {l : List UInt8} {lo : Nat} (k : IntKind) (h : lo ≤ l.length) : aSlice Tryd.prog 9 (str l) (some (.v (.int k (lo : Int)))) none none = some (str (l.drop lo)) := slcl_str (by kernel_rfl) k h
theorem slch_9 {l : List UInt8} {hi : Nat} (k' : IntKind) (h' : hi ≤ l.length) : aSlice Tryd.prog 9 (str l) none (some (.v (.int k' (hi : Int)))) none = some (str (l.take hi)) := slch_str (by kernel_rfl) k' h'
end Go.Proofs.YtbbaalimilcppaaDoor.S

/- Contracts of functions of Go's library, laid over this program by the kit's tool; those that are used here. No condition. -/
namespace Go.Proofs
open Go.Shelf
def Tryd.lays283_ren : Go.Shelf.Ren := ⟨fun | 283 => 61 | n => n, fun | 3 => 3 | 9 => 9 | 4 => 4 | n => n, fun | n => n⟩
theorem Tryd.lays283 : Go.Proofs.Lays.n283 Tryd.prog Tryd.lays283_ren := {
  mixed := by kernel_rfl
  f283 := Tryd.func61.trans (congrArg some (by kernel_rfl))
  t3 := Tryd.underlying3
  a3 := Tryd.isAgg3
  z3 := Tryd.sizeOf3
  v3 := Tryd.zeroValue3
  t4 := Tryd.underlying4
  a4 := Tryd.isAgg4
  z4 := Tryd.sizeOf4
  v4 := Tryd.zeroValue4
  t9 := Tryd.underlying9
  a9 := Tryd.isAgg9
  z9 := Tryd.sizeOf9
  v9 := Tryd.zeroValue9 }
open Go.Lib in
/-- internal/strconv.small: "small returns the string for an i with 0 <= i < nSmalls.": i's decimal numeral. The world is as it was. (LAID: no walk: one application.) -/
theorem Tryd.internal_strconv_small (i : Nat) (h : i < 100) (w : World) :
    Calls Tryd.prog 61 #[.int .i64 i] w fun e w' => e = .returned (.string ⟨(Lib.decDigits i).toArray⟩) ∧ w' = w := Any.internal_strconv_small Tryd.lays283 i h w
def Tryd.laysM284_ren : Go.Shelf.Ren := ⟨fun | 284 => 62 | 129 => 74 | 317 => 73 | 318 => 75 | n => n, fun | 53 => 33 | 3 => 3 | 212 => 94 | 0 => 0 | 4 => 4 | 46 => 69 | 5 => 5 | 9 => 9 | n => n, fun | 17 => 3 | n => n⟩
theorem Tryd.laysM284 : Go.Proofs.LaysM.n284 Tryd.prog Tryd.laysM284_ren := {
  mixed := by kernel_rfl
  f129 := Tryd.func74.trans (congrArg some (by kernel_rfl))
  f284 := Tryd.func62.trans (congrArg some (by kernel_rfl))
  f317 := Tryd.func73.trans (congrArg some (by kernel_rfl))
  f318 := Tryd.func75.trans (congrArg some (by kernel_rfl))
  t0 := Tryd.underlying0
  a0 := Tryd.isAgg0
  z0 := Tryd.sizeOf0
  v0 := Tryd.zeroValue0
  t3 := Tryd.underlying3
  a3 := Tryd.isAgg3
  z3 := Tryd.sizeOf3
  v3 := Tryd.zeroValue3
  t4 := Tryd.underlying4
  a4 := Tryd.isAgg4
  z4 := Tryd.sizeOf4
  v4 := Tryd.zeroValue4
  t5 := Tryd.underlying5
  a5 := Tryd.isAgg5
  z5 := Tryd.sizeOf5
  v5 := Tryd.zeroValue5
  t9 := Tryd.underlying9
  a9 := Tryd.isAgg9
  z9 := Tryd.sizeOf9
  v9 := Tryd.zeroValue9
  t46 := Tryd.underlying69
  a46 := Tryd.isAgg69
  z46 := Tryd.sizeOf69
  v46 := Tryd.zeroValue69
  t53 := Tryd.underlying33
  a53 := Tryd.isAgg33
  z53 := Tryd.sizeOf33
  v53 := Tryd.zeroValue33
  t212 := Tryd.underlying94
  a212 := Tryd.isAgg94
  z212 := Tryd.sizeOf94
  v212 := Tryd.zeroValue94
  g17 := by kernel_rfl
  i0 := by kernel_rfl
  i3 := by kernel_rfl
  i4 := by kernel_rfl
  i5 := by kernel_rfl
  i9 := by kernel_rfl
  i46 := by kernel_rfl
  i53 := by kernel_rfl
  i212 := by kernel_rfl
  m17 := by kernel_rfl }
open Go.Lib in
/-- internal/strconv.numDigits, at a d that is not 0: THE NUMBER OF d's DECIMAL DIGITS. The world is as it was. (LAID: no walk: one application.) -/
theorem Tryd.internal_strconv_numDigits (u : Nat) (h1 : 1 ≤ u) (h2 : u < 18446744073709551616) (w : World) (htab : Lib.TabIs Tryd.prog w "internal/strconv.uint64pow10" .u64 Lib.pow10Tab) :
    Calls Tryd.prog 62 #[.int .u64 u] w fun e w' => e = .returned (.int .i64 (Lib.nDigits u)) ∧ w' = w := Any.internal_strconv_numDigits Tryd.laysM284 u h1 h2 w htab
def Tryd.lays285_ren : Go.Shelf.Ren := ⟨fun | 285 => 63 | n => n, fun | 37 => 60 | 53 => 33 | 3 => 3 | 4 => 4 | 51 => 86 | 9 => 9 | 5 => 5 | 0 => 0 | n => n, fun | n => n⟩
theorem Tryd.lays285 : Go.Proofs.Lays.n285 Tryd.prog Tryd.lays285_ren := {
  mixed := by kernel_rfl
  f285 := Tryd.func63.trans (congrArg some (by kernel_rfl))
  t0 := Tryd.underlying0
  a0 := Tryd.isAgg0
  z0 := Tryd.sizeOf0
  v0 := Tryd.zeroValue0
  t3 := Tryd.underlying3
  a3 := Tryd.isAgg3
  z3 := Tryd.sizeOf3
  v3 := Tryd.zeroValue3
  t4 := Tryd.underlying4
  a4 := Tryd.isAgg4
  z4 := Tryd.sizeOf4
  v4 := Tryd.zeroValue4
  t5 := Tryd.underlying5
  a5 := Tryd.isAgg5
  z5 := Tryd.sizeOf5
  v5 := Tryd.zeroValue5
  t9 := Tryd.underlying9
  a9 := Tryd.isAgg9
  z9 := Tryd.sizeOf9
  v9 := Tryd.zeroValue9
  t37 := Tryd.underlying60
  a37 := Tryd.isAgg60
  z37 := Tryd.sizeOf60
  v37 := Tryd.zeroValue60
  t51 := Tryd.underlying86
  a51 := Tryd.isAgg86
  z51 := Tryd.sizeOf86
  v51 := Tryd.zeroValue86
  t53 := Tryd.underlying33
  a53 := Tryd.isAgg33
  z53 := Tryd.sizeOf33
  v53 := Tryd.zeroValue33 }
open Go.RowKit Go.Sort Go.Lib in
/-- internal/strconv.formatBase10: "formatBase10 formats the decimal representation of u into a. The caller is responsible for ensuring that a is big enough to hold u. If a is too big, leading zeros will be filled in as needed.": THE ROW HOLDS u's DIGITS ('FmtInv .. 0 ..': every place t holds 'dg u (len - 1 - t)'); all else is as it was but for the count of draws. (LAID: no walk: one application.) -/
theorem Tryd.internal_strconv_formatBase10 (blk off cap : Nat) (u : Nat) (d : Array UInt8) (w : World) (hH : Holds (fun (b : UInt8) => Value.int .u8 (b.toNat : Int)) w blk off d) (hu : u < 10 ^ d.size) (hu64 : u < 18446744073709551616) (hsz : d.size < 4611686018427387904) :
    Calls Tryd.prog 63 #[.slice (some ⟨blk, off, none⟩) d.size cap, .int .u64 u] w fun e w' =>
      e = .returned (.tuple #[]) ∧ ∃ (n v' : Nat) (dk : Array UInt8), w' = (putRow (fun (b : UInt8) => Value.int .u8 (b.toNat : Int)) w blk off dk).drewN n ∧ FmtInv d.size u 0 v' dk := Any.internal_strconv_formatBase10 Tryd.lays285 blk off cap u d w hH hu hu64 hsz
def Tryd.laysC245_ren : Go.Shelf.Ren := ⟨fun | 245 => 49 | 279 => 57 | 280 => 58 | 281 => 59 | 282 => 60 | 316 => 70 | 171 => 72 | 205 => 71 | 243 => 79 | 246 => 82 | 283 => 61 | 284 => 62 | 285 => 63 | 286 => 64 | 129 => 74 | 317 => 73 | 318 => 75 | 319 => 76 | 320 => 77 | 337 => 80 | 338 => 81 | n => n, fun | 9 => 9 | 3 => 3 | 75 => 62 | 167 => 70 | 4 => 4 | 168 => 72 | 210 => 91 | 37 => 60 | 0 => 0 | 127 => 98 | 145 => 101 | 143 => 99 | 2 => 2 | 171 => 75 | 53 => 33 | 5 => 5 | 173 => 78 | 212 => 94 | 51 => 86 | 20 => 20 | 213 => 95 | 46 => 69 | 232 => 104 | 233 => 105 | 80 => 106 | n => n, fun | 15 => 1 | 16 => 2 | 17 => 3 | 18 => 4 | 19 => 5 | n => n⟩
theorem Tryd.laysC245 : Go.Proofs.LaysC.n245 Tryd.prog Tryd.laysC245_ren := {
  mixed := by kernel_rfl
  f129 := Tryd.func74.trans (congrArg some (by kernel_rfl))
  f171 := Tryd.func72.trans (congrArg some (by kernel_rfl))
  f205 := Tryd.func71.trans (congrArg some (by kernel_rfl))
  f243 := Tryd.func79.trans (congrArg some (by kernel_rfl))
  f245 := Tryd.func49.trans (congrArg some (by kernel_rfl))
  f246 := Tryd.func82.trans (congrArg some (by kernel_rfl))
  f279 := Tryd.func57.trans (congrArg some (by kernel_rfl))
  f280 := Tryd.func58.trans (congrArg some (by kernel_rfl))
  f281 := Tryd.func59.trans (congrArg some (by kernel_rfl))
  f282 := Tryd.func60.trans (congrArg some (by kernel_rfl))
  f283 := Tryd.func61.trans (congrArg some (by kernel_rfl))
  f284 := Tryd.func62.trans (congrArg some (by kernel_rfl))
  f285 := Tryd.func63.trans (congrArg some (by kernel_rfl))
  f286 := Tryd.func64.trans (congrArg some (by kernel_rfl))
  f316 := Tryd.func70.trans (congrArg some (by kernel_rfl))
  f317 := Tryd.func73.trans (congrArg some (by kernel_rfl))
  f318 := Tryd.func75.trans (congrArg some (by kernel_rfl))
  f319 := Tryd.func76.trans (congrArg some (by kernel_rfl))
  f320 := Tryd.func77.trans (congrArg some (by kernel_rfl))
  f337 := Tryd.func80.trans (congrArg some (by kernel_rfl))
  f338 := Tryd.func81.trans (congrArg some (by kernel_rfl))
  t0 := Tryd.underlying0
  a0 := Tryd.isAgg0
  z0 := Tryd.sizeOf0
  v0 := Tryd.zeroValue0
  t2 := Tryd.underlying2
  a2 := Tryd.isAgg2
  z2 := Tryd.sizeOf2
  v2 := Tryd.zeroValue2
  t3 := Tryd.underlying3
  a3 := Tryd.isAgg3
  z3 := Tryd.sizeOf3
  v3 := Tryd.zeroValue3
  t4 := Tryd.underlying4
  a4 := Tryd.isAgg4
  z4 := Tryd.sizeOf4
  v4 := Tryd.zeroValue4
  t5 := Tryd.underlying5
  a5 := Tryd.isAgg5
  z5 := Tryd.sizeOf5
  v5 := Tryd.zeroValue5
  t9 := Tryd.underlying9
  a9 := Tryd.isAgg9
  z9 := Tryd.sizeOf9
  v9 := Tryd.zeroValue9
  t20 := Tryd.underlying20
  a20 := Tryd.isAgg20
  z20 := Tryd.sizeOf20
  v20 := Tryd.zeroValue20
  t37 := Tryd.underlying60
  a37 := Tryd.isAgg60
  z37 := Tryd.sizeOf60
  v37 := Tryd.zeroValue60
  t46 := Tryd.underlying69
  a46 := Tryd.isAgg69
  z46 := Tryd.sizeOf69
  v46 := Tryd.zeroValue69
  t51 := Tryd.underlying86
  a51 := Tryd.isAgg86
  z51 := Tryd.sizeOf86
  v51 := Tryd.zeroValue86
  t53 := Tryd.underlying33
  a53 := Tryd.isAgg33
  z53 := Tryd.sizeOf33
  v53 := Tryd.zeroValue33
  t75 := Tryd.underlying62
  a75 := Tryd.isAgg62
  z75 := Tryd.sizeOf62
  v75 := Tryd.zeroValue62
  t127 := Tryd.underlying98
  a127 := Tryd.isAgg98
  z127 := Tryd.sizeOf98
  v127 := Tryd.zeroValue98
  t143 := Tryd.underlying99
  a143 := Tryd.isAgg99
  z143 := Tryd.sizeOf99
  v143 := Tryd.zeroValue99
  t145 := Tryd.underlying101
  a145 := Tryd.isAgg101
  z145 := Tryd.sizeOf101
  v145 := Tryd.zeroValue101
  t167 := Tryd.underlying70
  a167 := Tryd.isAgg70
  z167 := Tryd.sizeOf70
  v167 := Tryd.zeroValue70
  t168 := Tryd.underlying72
  a168 := Tryd.isAgg72
  z168 := Tryd.sizeOf72
  v168 := Tryd.zeroValue72
  t171 := Tryd.underlying75
  a171 := Tryd.isAgg75
  z171 := Tryd.sizeOf75
  v171 := Tryd.zeroValue75
  t173 := Tryd.underlying78
  a173 := Tryd.isAgg78
  z173 := Tryd.sizeOf78
  v173 := Tryd.zeroValue78
  t210 := Tryd.underlying91
  a210 := Tryd.isAgg91
  z210 := Tryd.sizeOf91
  v210 := Tryd.zeroValue91
  t212 := Tryd.underlying94
  a212 := Tryd.isAgg94
  z212 := Tryd.sizeOf94
  v212 := Tryd.zeroValue94
  t213 := Tryd.underlying95
  a213 := Tryd.isAgg95
  z213 := Tryd.sizeOf95
  t232 := Tryd.underlying104
  a232 := Tryd.isAgg104
  z232 := Tryd.sizeOf104
  v232 := Tryd.zeroValue104
  t233 := Tryd.underlying105
  a233 := Tryd.isAgg105
  z233 := Tryd.sizeOf105
  v233 := Tryd.zeroValue105
  g15 := by kernel_rfl
  g16 := by kernel_rfl
  g17 := by kernel_rfl
  g18 := by kernel_rfl
  g19 := by kernel_rfl
  t80 := Tryd.underlying106
  a80 := Tryd.isAgg106
  z80 := Tryd.sizeOf106
  v80 := Tryd.zeroValue106
  i0 := by kernel_rfl
  i2 := by kernel_rfl
  i3 := by kernel_rfl
  i4 := by kernel_rfl
  i5 := by kernel_rfl
  i9 := by kernel_rfl
  i20 := by kernel_rfl
  i37 := by kernel_rfl
  i46 := by kernel_rfl
  i51 := by kernel_rfl
  i53 := by kernel_rfl
  i75 := by kernel_rfl
  i80 := by kernel_rfl
  i127 := by kernel_rfl
  i143 := by kernel_rfl
  i145 := by kernel_rfl
  i167 := by kernel_rfl
  i168 := by kernel_rfl
  i171 := by kernel_rfl
  i173 := by kernel_rfl
  i210 := by kernel_rfl
  i212 := by kernel_rfl
  i232 := by kernel_rfl
  i233 := by kernel_rfl
  m15 := by kernel_rfl
  m16 := by kernel_rfl
  m17 := by kernel_rfl
  m18 := by kernel_rfl
  m19 := by kernel_rfl
  c0 := by kernel_rfl
  c2 := by kernel_rfl
  c3 := by kernel_rfl
  c4 := by kernel_rfl
  c5 := by kernel_rfl
  c9 := by kernel_rfl
  c20 := by kernel_rfl
  c37 := by kernel_rfl
  c46 := by kernel_rfl
  c51 := by kernel_rfl
  c53 := by kernel_rfl
  c75 := by kernel_rfl
  c80 := by kernel_rfl
  c127 := by kernel_rfl
  c143 := by kernel_rfl
  c145 := by kernel_rfl
  c167 := by kernel_rfl
  c168 := by kernel_rfl
  c171 := by kernel_rfl
  c173 := by kernel_rfl
  c210 := by kernel_rfl
  c212 := by kernel_rfl
  c213 := by kernel_rfl
  c232 := by kernel_rfl
  c233 := by kernel_rfl }
open Go.RowKit in
/-- strconv.toError, at the inner package's ErrSyntax: 'syntaxError(fn, s)' as an error: A *NumError IN A NEW BLOCK. (LAID: no walk: one application.) -/
theorem Tryd.strconv_toError_syntax (fn s : ByteArray) (base bits : Int) (ev : Value) (w : World) (hlim : s.size ≤ 281474976710656) (hv : w.cell? ⟨1, 0, none⟩ = some ev) (hev : ev = .nilIface ∨ ∃ te pe, ev = .iface te pe) :
    Calls Tryd.prog 49 #[.string fn, .string s, .int .i64 base, .int .i64 bits, .iface 70 (.int .i64 2)] w fun e w' => ∃ N, e = .returned (.iface 72 (.pointer (some ⟨N, 0, none⟩))) ∧ w.heap.size ≤ N ∧ w'.heap[N]? = some (.cells #[.string fn, .string s, ev] 91 (0, 0)) ∧ Below w.heap.size w w' := Any.strconv_toError_syntax Tryd.laysC245 fn s base bits ev w hlim hv hev
open Go.RowKit in
/-- strconv.toError, at the inner package's ErrRange: 'rangeError(fn, s)' as an error: A *NumError IN A NEW BLOCK. (LAID: no walk: one application.) -/
theorem Tryd.strconv_toError_range (fn s : ByteArray) (base bits : Int) (ev : Value) (w : World) (hlim : s.size ≤ 281474976710656) (hv : w.cell? ⟨2, 0, none⟩ = some ev) (hev : ev = .nilIface ∨ ∃ te pe, ev = .iface te pe) :
    Calls Tryd.prog 49 #[.string fn, .string s, .int .i64 base, .int .i64 bits, .iface 70 (.int .i64 1)] w fun e w' => ∃ N, e = .returned (.iface 72 (.pointer (some ⟨N, 0, none⟩))) ∧ w.heap.size ≤ N ∧ w'.heap[N]? = some (.cells #[.string fn, .string s, ev] 91 (0, 0)) ∧ Below w.heap.size w w' := Any.strconv_toError_range Tryd.laysC245 fn s base bits ev w hlim hv hev
def Tryd.lays217_ren : Go.Shelf.Ren := ⟨fun | 217 => 40 | 266 => 47 | n => n, fun | 9 => 9 | 5 => 5 | 3 => 3 | n => n, fun | n => n⟩
theorem Tryd.lays217 : Go.Proofs.Lays.n217 Tryd.prog Tryd.lays217_ren := {
  mixed := by kernel_rfl
  f217 := Tryd.func40.trans (congrArg some (by kernel_rfl))
  f266 := Tryd.func47.trans (congrArg some (by kernel_rfl))
  t3 := Tryd.underlying3
  a3 := Tryd.isAgg3
  z3 := Tryd.sizeOf3
  v3 := Tryd.zeroValue3
  t5 := Tryd.underlying5
  a5 := Tryd.isAgg5
  z5 := Tryd.sizeOf5
  v5 := Tryd.zeroValue5
  t9 := Tryd.underlying9
  a9 := Tryd.isAgg9
  z9 := Tryd.sizeOf9
  v9 := Tryd.zeroValue9 }
open Go.RowKit Go.Lib in
/-- internal/stringslite.IndexByte (what strings.IndexByte calls): IT RETURNS 'Lib.indexByte s c'; the world is as it was. (LAID: no walk: one application.) -/
theorem Tryd.stringslite_IndexByte (s : ByteArray) (c : Int) (w : World) :
    Calls Tryd.prog 40 #[.string s, .int .u8 c] w fun e w' => e = .returned (.int .i64 (Lib.indexByte s.data.toList c.toNat.toUInt8)) ∧ w' = w := Any.stringslite_IndexByte Tryd.lays217 s c w
def Tryd.lays144_ren : Go.Shelf.Ren := ⟨fun | 144 => 22 | 143 => 38 | 219 => 46 | 217 => 40 | 225 => 52 | 224 => 53 | 267 => 54 | 266 => 47 | 314 => 69 | n => n, fun | 9 => 9 | 4 => 4 | 3 => 3 | 5 => 5 | 46 => 69 | 146 => 87 | 51 => 86 | n => n, fun | 1 => 0 | n => n⟩
theorem Tryd.lays144 : Go.Proofs.Lays.n144 Tryd.prog Tryd.lays144_ren := {
  mixed := by kernel_rfl
  f143 := Tryd.func38.trans (congrArg some (by kernel_rfl))
  f144 := Tryd.func22.trans (congrArg some (by kernel_rfl))
  f217 := Tryd.func40.trans (congrArg some (by kernel_rfl))
  f219 := Tryd.func46.trans (congrArg some (by kernel_rfl))
  f224 := Tryd.func53.trans (congrArg some (by kernel_rfl))
  f225 := Tryd.func52.trans (congrArg some (by kernel_rfl))
  f266 := Tryd.func47.trans (congrArg some (by kernel_rfl))
  f267 := Tryd.func54.trans (congrArg some (by kernel_rfl))
  f314 := Tryd.func69.trans (congrArg some (by kernel_rfl))
  t3 := Tryd.underlying3
  a3 := Tryd.isAgg3
  z3 := Tryd.sizeOf3
  v3 := Tryd.zeroValue3
  t4 := Tryd.underlying4
  a4 := Tryd.isAgg4
  z4 := Tryd.sizeOf4
  v4 := Tryd.zeroValue4
  t5 := Tryd.underlying5
  a5 := Tryd.isAgg5
  z5 := Tryd.sizeOf5
  v5 := Tryd.zeroValue5
  t9 := Tryd.underlying9
  a9 := Tryd.isAgg9
  z9 := Tryd.sizeOf9
  v9 := Tryd.zeroValue9
  t46 := Tryd.underlying69
  a46 := Tryd.isAgg69
  z46 := Tryd.sizeOf69
  v46 := Tryd.zeroValue69
  t51 := Tryd.underlying86
  a51 := Tryd.isAgg86
  z51 := Tryd.sizeOf86
  v51 := Tryd.zeroValue86
  t146 := Tryd.underlying87
  a146 := Tryd.isAgg87
  z146 := Tryd.sizeOf87
  v146 := Tryd.zeroValue87
  g1 := by kernel_rfl }
open Go.RowKit Go.Lib in
/-- strings.Contains: "Contains reports whether substr is within s.": IT RETURNS 'Lib.contains s substr'; the world is as it was. (LAID: no walk: one application.) -/
theorem Tryd.strings_Contains (s sub : ByteArray) (m : Int) (w : World) (hs : s.size < 4294967281) (hm : w.cell? ⟨0, 0, none⟩ = some (.int .i64 m)) :
    Calls Tryd.prog 22 #[.string s, .string sub] w fun e w' => e = .returned (.bool (Lib.contains s.data.toList sub.data.toList)) ∧ w' = w := Any.strings_Contains Tryd.lays144 s sub m w hs hm
def Tryd.lays150_ren : Go.Shelf.Ren := ⟨fun | 150 => 45 | 153 => 51 | 152 => 65 | 226 => 66 | 227 => 67 | 228 => 68 | 137 => 30 | 119 => 78 | 224 => 53 | 225 => 52 | 217 => 40 | 266 => 47 | n => n, fun | 9 => 9 | 4 => 4 | 3 => 3 | 5 => 5 | 21 => 21 | 117 => 84 | 116 => 83 | 0 => 0 | 46 => 69 | 124 => 97 | n => n, fun | n => n⟩
theorem Tryd.lays150 : Go.Proofs.Lays.n150 Tryd.prog Tryd.lays150_ren := {
  mixed := by kernel_rfl
  f119 := Tryd.func78.trans (congrArg some (by kernel_rfl))
  f137 := Tryd.func30.trans (congrArg some (by kernel_rfl))
  f150 := Tryd.func45.trans (congrArg some (by kernel_rfl))
  f152 := Tryd.func65.trans (congrArg some (by kernel_rfl))
  f153 := Tryd.func51.trans (congrArg some (by kernel_rfl))
  f217 := Tryd.func40.trans (congrArg some (by kernel_rfl))
  f224 := Tryd.func53.trans (congrArg some (by kernel_rfl))
  f225 := Tryd.func52.trans (congrArg some (by kernel_rfl))
  f226 := Tryd.func66.trans (congrArg some (by kernel_rfl))
  f227 := Tryd.func67.trans (congrArg some (by kernel_rfl))
  f228 := Tryd.func68.trans (congrArg some (by kernel_rfl))
  f266 := Tryd.func47.trans (congrArg some (by kernel_rfl))
  t0 := Tryd.underlying0
  a0 := Tryd.isAgg0
  z0 := Tryd.sizeOf0
  v0 := Tryd.zeroValue0
  t3 := Tryd.underlying3
  a3 := Tryd.isAgg3
  z3 := Tryd.sizeOf3
  v3 := Tryd.zeroValue3
  t4 := Tryd.underlying4
  a4 := Tryd.isAgg4
  z4 := Tryd.sizeOf4
  v4 := Tryd.zeroValue4
  t5 := Tryd.underlying5
  a5 := Tryd.isAgg5
  z5 := Tryd.sizeOf5
  v5 := Tryd.zeroValue5
  t9 := Tryd.underlying9
  a9 := Tryd.isAgg9
  z9 := Tryd.sizeOf9
  v9 := Tryd.zeroValue9
  t21 := Tryd.underlying21
  a21 := Tryd.isAgg21
  z21 := Tryd.sizeOf21
  v21 := Tryd.zeroValue21
  t46 := Tryd.underlying69
  a46 := Tryd.isAgg69
  z46 := Tryd.sizeOf69
  v46 := Tryd.zeroValue69
  t116 := Tryd.underlying83
  a116 := Tryd.isAgg83
  z116 := Tryd.sizeOf83
  t117 := Tryd.underlying84
  a117 := Tryd.isAgg84
  z117 := Tryd.sizeOf84
  v117 := Tryd.zeroValue84
  t124 := Tryd.underlying97
  a124 := Tryd.isAgg97
  z124 := Tryd.sizeOf97
  v124 := Tryd.zeroValue97 }
open Go.RowKit Go.Lib in
/-- strings.ContainsAny ON ASCII BYTES. (LAID: no walk: one application.) -/
theorem Tryd.strings_ContainsAny (hv116 : ∀ w, (zeroValue 83).run Tryd.prog w = .ok (.agg (Array.replicate 256 (.bool false))) w) (s chars : ByteArray) (w : World) (hs : s.size < 4294967281) (hcs : chars.size < 4294967281) (has : ∀ (j : Nat) b, s.data.toList[j]? = some b → b.toNat < 128) (hac : ∀ (j : Nat) b, chars.data.toList[j]? = some b → b.toNat < 128) :
    Calls Tryd.prog 45 #[.string s, .string chars] w fun e w' => e = .returned (.bool (Lib.containsAny s.data.toList chars.data.toList)) ∧ Below w.heap.size w w' := Any.strings_ContainsAny Tryd.lays150 hv116 (by kernel_rfl) s chars w hs hcs has hac
open Go.RowKit Go.Lib in
theorem Tryd.strings_ContainsAny_laid (s chars : ByteArray) (w : World) (hs : s.size < 4294967281) (hcs : chars.size < 4294967281) (has : ∀ (j : Nat) b, s.data.toList[j]? = some b → b.toNat < 128) (hac : ∀ (j : Nat) b, chars.data.toList[j]? = some b → b.toNat < 128) :
    Calls Tryd.prog 45 #[.string s, .string chars] w fun e w' => e = .returned (.bool (Lib.containsAny s.data.toList chars.data.toList)) ∧ Below w.heap.size w w' := Any.strings_ContainsAny_laid Tryd.lays150 (by kernel_rfl) s chars w hs hcs has hac

end Go.Proofs

/- strconv.FormatUint at base 10: it answers the decimal numeral; what was there stays. No condition. -/
set_option linter.unusedVariables false
namespace Go.Proofs
open Go.Shelf Go.RowKit Go.Sort Go.Lib
set_option maxHeartbeats 3200000 in
set_option maxRecDepth 100000 in
theorem Tryd.formatUint_small (i : Nat) (hi : i < 100) (w : World) :
    Calls Tryd.prog 50 #[.int .u64 i, .int .i64 10] w fun e w' => e = .returned (.string ⟨(Lib.decDigits i).toArray⟩) ∧ w' = w := by
  go_enter Tryd.func50, Tryd.ntmps50
  go_wp2_with (go_at_call 61; refine (Tryd.internal_strconv_small i hi _).mono ?_; rintro e w' ⟨rfl, rfl⟩)
  go_ret
  exact ⟨rfl, rfl⟩

theorem Tryd.holds_zero0 (w : World) (T : TypeId) (nd : Nat) (hs : nd ≤ 24) : Holds (fun (b : UInt8) => Value.int .u8 (b.toNat : Int)) (w.alloc (.cells zeros24 T)) w.heap.size 0 (Array.replicate nd (0 : UInt8)) := fun j hj => by
  simp only [Array.size_replicate] at hj
  rw [show (⟨w.heap.size, 0 + j, none⟩ : Addr) = ⟨w.heap.size, j, none⟩ from by simp]
  rw [World.cell?_alloc_new, zeros24_at _ (by omega), getElem!_pos _ j (by simpa using hj)]
  simp

theorem below_drewN' {B : Nat} {a w : World} (h : Below B a w) (k : Nat) : Below B a (w.drewN k) := ⟨h.os, h.tape, h.output, h.size, h.block⟩

set_option maxHeartbeats 6400000 in
set_option maxRecDepth 100000 in
theorem Tryd.formatUint_big (u : Nat) (hu : 100 ≤ u) (hu64 : u < 18446744073709551616) (w : World) (htab : Lib.TabIs Tryd.prog w "internal/strconv.uint64pow10" .u64 Lib.pow10Tab) :
    Calls Tryd.prog 50 #[.int .u64 u, .int .i64 10] w fun e w' => e = .returned (.string ⟨(Lib.decDigits u).toArray⟩) ∧ Below w.heap.size w w' := by
  have hu1 : 1 ≤ u := by omega
  have hnd20 : Lib.nDigits u ≤ 20 := by have := Lib.numDigits_eq u hu1 hu64; split at this <;> omega
  have hal : Tryd.prog.arrayLen 75 = 24 := by simp [Program.arrayLen, Tryd.underlying75]
  have hsl1 : ∀ W, (Instr.sliceAt 75 (.pointer (some ⟨w.heap.size, 0, none⟩)) none (some (.int .i64 (Lib.nDigits u : Int))) none).run Tryd.prog W = .ok (.slice (some ⟨w.heap.size, 0, none⟩) (Lib.nDigits u) 24) W := fun W => by
    rw [run_sliceAt_array_h W 75 ⟨w.heap.size, 0, none⟩ (by simp [Program.arrayLen, Program.elem, Tryd.underlying75]) .i64 (Lib.nDigits u : Int) (by omega) (by rw [hal]; omega)]
    go_simp
  have hH0 := Tryd.holds_zero0 w 75 (Lib.nDigits u) (by omega)
  have hfmt := Tryd.internal_strconv_formatBase10 w.heap.size 0 24 u (Array.replicate (Lib.nDigits u) 0) (w.alloc (.cells Lib.zeros24 75)) hH0 (by rw [Array.size_replicate]; exact Lib.lt_pow_nDigits u) hu64 (by rw [Array.size_replicate]; omega)
  rw [Array.size_replicate] at hfmt
  have HH0 := Lib.hid hH0
  have Hal := Lib.hid hal
  clear hH0 hal
  go_enter Tryd.func50, Tryd.ntmps50
  go_wp2_with (first
    | (go_at_call 62; refine (Tryd.internal_strconv_numDigits u hu1 hu64 _ (Lib.tabIs_alloc htab _)).mono ?_; rintro e w' ⟨rfl, rfl⟩))
  go_at_call 63
  refine hfmt.mono ?_
  rintro e w' ⟨rfl, k, v', dk, rfl, hF⟩
  have hcv : (convert 60 9 (.slice (some ⟨w.heap.size, 0, none⟩) (Lib.nDigits u) 24)).run Tryd.prog ((putRow (fun (b : UInt8) => Value.int .u8 (b.toNat : Int)) (w.alloc (.cells Lib.zeros24 75)) w.heap.size 0 dk).drewN k) = .ok (.string ⟨(Lib.decDigits u).toArray⟩) ((putRow (fun (b : UInt8) => Value.int .u8 (b.toNat : Int)) (w.alloc (.cells Lib.zeros24 75)) w.heap.size 0 dk).drewN k) := by
    have h := run_convert_bytes_back (P := Tryd.prog) ((putRow (fun (b : UInt8) => Value.int .u8 (b.toNat : Int)) (w.alloc (.cells Lib.zeros24 75)) w.heap.size 0 dk).drewN k) 60 9 5 ⟨w.heap.size, 0, none⟩ 24 (Lib.decDigits u) Tryd.underlying60 Tryd.underlying5 Tryd.underlying9 (fun j hj => by
      rw [Lib.row_is_numeral hF j hj, Lib.add_plain, World.cell?_drewN]
      exact cell?_putRow (fun (b : UInt8) => Value.int .u8 (b.toNat : Int)) _ w.heap.size 0 _ dk HH0.out (by rw [hF.size, Array.size_replicate]) j (by rw [hF.size]; rw [Lib.decDigits_length] at hj; exact hj))
    rw [Lib.decDigits_length] at h
    exact h
  go_wp2
  go_ret
  refine ⟨rfl, ?_⟩
  have e0 := alloc_eq_grow w (.cells Lib.zeros24 75)
  obtain ⟨os', _, e⟩ := putRow_grow_new (fun (b : UInt8) => Value.int .u8 (b.toNat : Int)) w #[.cells Lib.zeros24 75] w.heap.size 0 dk (Nat.le_refl _)
  rw [e0, e]
  have hb : Below w.heap.size w (grow w os') := ⟨rfl, rfl, rfl, by simp [grow], fun k hk => by simp [grow, Array.getElem?_append, hk]⟩
  exact below_drewN' hb k
theorem Tryd.formatUint (u : Nat) (hu64 : u < 18446744073709551616) (w : World) (htab : Lib.TabIs Tryd.prog w "internal/strconv.uint64pow10" .u64 Lib.pow10Tab) :
    Calls Tryd.prog 43 #[.int .u64 u, .int .i64 10] w fun e w' => e = .returned (.string ⟨(Lib.decDigits u).toArray⟩) ∧ Below w.heap.size w w' := by
  have h : Calls Tryd.prog 50 #[.int .u64 u, .int .i64 10] w fun e w' => e = .returned (.string ⟨(Lib.decDigits u).toArray⟩) ∧ Below w.heap.size w w' := by
    by_cases hu : u < 100
    · refine (Tryd.formatUint_small u hu w).mono ?_
      rintro e w' ⟨rfl, rfl⟩
      exact ⟨rfl, Below.refl _ _⟩
    · exact Tryd.formatUint_big u (by omega) hu64 w htab
  go_enter Tryd.func43, Tryd.ntmps43
  go_wp2_with (go_at_call 50; refine h.mono ?_; rintro e w' ⟨rfl, hb⟩)
  go_ret
  exact ⟨rfl, hb⟩
end Go.Proofs

/- The lexer: what is known of the library's functions, and of package-level variables; the machine's own conditions hold of this program. No condition. -/
namespace Go.Proofs.YtbbaalimilcppaaDoor.S
open Go Go.AM Go.Proofs Go.RowKit
set_option linter.unusedVariables false
set_option linter.unusedSimpArgs false

/-- What the package-level variables of the library hold. -/
structure Gvs (gv : GV) : Prop where
  len : ∃ m, gv.cell 0 0 = some (.int .i64 m)
  syn : ∃ ev, gv.cell 1 0 = some ev ∧ (ev = .nilIface ∨ ∃ te pe, ev = .iface te pe)
  rng : ∃ ev, gv.cell 2 0 = some ev ∧ (ev = .nilIface ∨ ∃ te pe, ev = .iface te pe)
  tab : Lib.TabIs Tryd.prog gv.w0 "internal/strconv.uint64pow10" .u64 Lib.pow10Tab
  six : 4 ≤ gv.w0.heap.size

theorem glob3 : Tryd.prog.globalNamed "internal/strconv.uint64pow10" = some 3 := by kernel_rfl
theorem Gvs.tabAt {gv : GV} (h : Gvs gv) {w : World} (hw : gv.at w) : Lib.TabIs Tryd.prog w "internal/strconv.uint64pow10" .u64 Lib.pow10Tab :=
  var?_below hw.2 glob3 (by have := h.six; omega) h.tab

theorem pr22 {gv : GV} (hg : Gvs gv) (w : World) (vs : List Value) (p : PV) (hw : gv.at w) (h : pContains vs = some p) : Calls Tryd.prog 22 vs.toArray w fun e w' => (∃ v, e = .returned v ∧ PRep v p) ∧ Below w.heap.size w w' := by
  unfold pContains at h
  split at h
  · rename_i s t
    split at h
    · rename_i hs
      obtain rfl := Option.some.inj h
      obtain ⟨m, hm⟩ := hg.len
      refine (Tryd.strings_Contains s t m w hs (hw.1 _ _ _ hm)).mono ?_
      rintro e w' ⟨rfl, rfl⟩
      exact ⟨⟨_, rfl, .v⟩, Below.refl _ _⟩
    · cases h
  · cases h
theorem pr40 (w : World) (vs : List Value) (p : PV) (h : pIndexByte vs = some p) : Calls Tryd.prog 40 vs.toArray w fun e w' => (∃ v, e = .returned v ∧ PRep v p) ∧ Below w.heap.size w w' := by
  unfold pIndexByte at h
  split at h
  · rename_i s c
    obtain rfl := Option.some.inj h
    refine (Tryd.stringslite_IndexByte s c w).mono ?_
    rintro e w' ⟨rfl, rfl⟩
    exact ⟨⟨_, rfl, .v⟩, Below.refl _ _⟩
  · cases h
theorem asciiB_at {s : ByteArray} (h : asciiB s = true) (j : Nat) (b : UInt8) (hb : s.data.toList[j]? = some b) : b.toNat < 128 := by
  have := List.all_eq_true.1 h b (List.mem_of_getElem? hb)
  simpa using this
theorem pr45 (w : World) (vs : List Value) (p : PV) (h : pContainsAny vs = some p) : Calls Tryd.prog 45 vs.toArray w fun e w' => (∃ v, e = .returned v ∧ PRep v p) ∧ Below w.heap.size w w' := by
  unfold pContainsAny at h
  split at h
  · rename_i s t
    split at h
    · rename_i hs
      obtain rfl := Option.some.inj h
      refine (Tryd.strings_ContainsAny_laid s t w hs.1 hs.2.1 (asciiB_at hs.2.2.1) (asciiB_at hs.2.2.2)).mono ?_
      rintro e w' ⟨rfl, hb⟩
      exact ⟨⟨_, rfl, .v⟩, hb⟩
    · cases h
  · cases h
theorem pr49 {gv : GV} (hg : Gvs gv) (w : World) (vs : List Value) (p : PV) (hw : gv.at w) (h : pToErr 70 vs = some p) : Calls Tryd.prog 49 vs.toArray w fun e w' => (∃ v, e = .returned v ∧ PRep v p) ∧ Below w.heap.size w w' := by
  unfold pToErr at h
  split at h
  · rename_i f s b z t n
    split at h
    · rename_i hs
      obtain ⟨h1, rfl, h2⟩ := hs
      obtain rfl := Option.some.inj h
      rcases h2 with rfl | rfl
      · obtain ⟨ev, he, hi⟩ := hg.rng
        refine (Tryd.strconv_toError_range f s b z ev w h1 (hw.1 _ _ _ he) hi).mono ?_
        rintro e w' ⟨N, rfl, _, _, hb⟩
        exact ⟨⟨_, rfl, .ni⟩, hb⟩
      · obtain ⟨ev, he, hi⟩ := hg.syn
        refine (Tryd.strconv_toError_syntax f s b z ev w h1 (hw.1 _ _ _ he) hi).mono ?_
        rintro e w' ⟨N, rfl, _, _, hb⟩
        exact ⟨⟨_, rfl, .ni⟩, hb⟩
    · cases h
  · cases h
theorem pr43 {gv : GV} (hg : Gvs gv) (w : World) (vs : List Value) (p : PV) (hw : gv.at w) (h : pFmt vs = some p) : Calls Tryd.prog 43 vs.toArray w fun e w' => (∃ v, e = .returned v ∧ PRep v p) ∧ Below w.heap.size w w' := by
  unfold pFmt at h
  split at h
  · rename_i n b
    split at h
    · rename_i hs
      obtain ⟨rfl, h1, h2⟩ := hs
      obtain rfl := Option.some.inj h
      obtain ⟨u, rfl⟩ : ∃ u : Nat, n = u := ⟨n.toNat, by omega⟩
      refine (Tryd.formatUint u (by omega) w (hg.tabAt hw)).mono ?_
      rintro e w' ⟨rfl, hb⟩
      exact ⟨⟨_, rfl, .v⟩, hb⟩
    · cases h
  · cases h

theorem names_ok : (Tryd.prog.funcs.toList.all fun fn => !(fn.name == "runtime.NumGoroutine")) = true := by kernel_rfl
theorem name_ok (f : Nat) (fn : Func) (h : Tryd.prog.funcs[f]? = some fn) : (fn.name == "runtime.NumGoroutine") = false := by
  have h1 := List.all_eq_true.1 names_ok fn (by
    rw [← Array.getElem?_toList] at h
    exact List.mem_of_getElem? h)
  simpa using h1
theorem ok {gv : GV} (hg : Gvs gv) : LibOk gv L where
  gl w C _ i := .u
  name := name_ok
  mixed := by
    have h : Tryd.prog.follows .mixedOrders = true := by kernel_rfl
    exact h
  prim f g h := by
    have hl : lookP primL f = some g := h
    simp only [primL, lookP] at hl
    cases e22 : Nat.beq 22 f with
    | true =>
      rw [e22, cond_true] at hl
      obtain rfl := Option.some.inj hl
      obtain rfl := Nat.eq_of_beq_eq_true e22
      exact pure_good ⟨_, Tryd.func22, name_ok _ _ Tryd.func22, rfl⟩ fun w vs p hw h => pr22 hg w vs p hw h
    | false =>
      rw [e22, cond_false] at hl
      cases e40 : Nat.beq 40 f with
      | true =>
        rw [e40, cond_true] at hl
        obtain rfl := Option.some.inj hl
        obtain rfl := Nat.eq_of_beq_eq_true e40
        exact pure_good ⟨_, Tryd.func40, name_ok _ _ Tryd.func40, rfl⟩ fun w vs p hw h => pr40 w vs p h
      | false =>
        rw [e40, cond_false] at hl
        cases e45 : Nat.beq 45 f with
        | true =>
          rw [e45, cond_true] at hl
          obtain rfl := Option.some.inj hl
          obtain rfl := Nat.eq_of_beq_eq_true e45
          exact pure_good ⟨_, Tryd.func45, name_ok _ _ Tryd.func45, rfl⟩ fun w vs p hw h => pr45 w vs p h
        | false =>
          rw [e45, cond_false] at hl
          cases e43 : Nat.beq 43 f with
          | true =>
            rw [e43, cond_true] at hl
            obtain rfl := Option.some.inj hl
            obtain rfl := Nat.eq_of_beq_eq_true e43
            exact pure_good ⟨_, Tryd.func43, name_ok _ _ Tryd.func43, rfl⟩ fun w vs p hw h => pr43 hg w vs p hw h
          | false =>
            rw [e43, cond_false] at hl
            cases e49 : Nat.beq 49 f with
            | true =>
              rw [e49, cond_true] at hl
              obtain rfl := Option.some.inj hl
              obtain rfl := Nat.eq_of_beq_eq_true e49
              exact pure_good ⟨_, Tryd.func49, name_ok _ _ Tryd.func49, rfl⟩ fun w vs p hw h => pr49 hg w vs p hw h
            | false =>
              rw [e49, cond_false] at hl
              cases hl
end Go.Proofs.YtbbaalimilcppaaDoor.S

/- The lexer: letters and digits. No condition. -/
namespace Go.Proofs.YtbbaalimilcppaaDoor.S
open Go Go.AM Go.Proofs
set_option linter.unusedVariables false
set_option linter.unusedSimpArgs false
def letR (n : Int) : Bool := decide (n = 95) || (decide (97 ≤ n) && decide (n ≤ 122)) || (decide (65 ≤ n) && decide (n ≤ 90))
def digR (n : Int) : Bool := decide (48 ≤ n) && decide (n ≤ 57)
theorem F20_ev (n : Int) (st : St) : E L (.func 20) [.v (.int .i32 n)] st = some (.v (.bool (letR n)), st) := by
  rw [S20_eq]
  obtain ⟨N, hN⟩ : ∃ q, st.stk.length = q := ⟨_, rfl⟩
  obtain ⟨T, hT⟩ : ∃ q, st.tk.length = q := ⟨_, rfl⟩
  obtain ⟨Lb, hL⟩ : ∃ q, st.lp.length = q := ⟨_, rfl⟩
  conv => lhs; rw [← app_nil st]
  by_cases h1 : n = 95
  · simp [S20, canon_v, canon_sl, canon_clo, canon_ptr, need_refl, elems_sl, sf_v, sf_sl, sf_ptr, sf_ptrh, sf_clo, sf_dead, sf_nil, sf_full, sf_fr, need_true, ibeq, beq_ba, nbeq, nble, nblt, AM.nth, List.getD_cons_succ, List.getD_cons_zero, Option.bind_some, Option.bind_none, Option.map_some, onBool, AM.onG, onFn, seqK, retK, Ex.outOf, cond_true, cond_false, bin_lss, bin_leq, bin_gtr, bin_geq, bin_eql, bin_neq, bin_add, bin_sub, bin_mul, un_not, str_eql, str_neq, app_push, load_fp, AM.ownPut, AM.cellsOf, AM.shift, aPick, beq_true, okSz, List.length_cons, List.length_nil, Nat.zero_add, Nat.add_zero, Nat.reduceAdd, decide_true, decide_false, Bool.and_true, Bool.true_and, Bool.and_self, Bool.not_true, Bool.not_false, List.getElem?_cons_zero, List.getElem?_cons_succ, List.nil_append, List.cons_append, max_int, min_int, modify_concat, part1, List.take_succ_cons, List.take_left, List.take_zero, List.take_nil, app_stk, app_tk, app_lp, set_stk, set_tk, set_lp, set_set, n_load, n_load0, n_old, n_store, n_store0, n_store_old, n_leave, n_leave0, n_fin_v, n_fin_sl, n_fin_u, n_back, n_next, n_blk, n_blk0, n_set, n_set0, n_set_old, bs_size, bs_inj, mk_bs, noPan, onRet, hN, hT, hL, List.toList_toArray, aNilCheck, AM.aExtract, canon, canonA, canonC, List.map_cons, List.map_nil, List.modify_zero_cons, List.modify_succ_cons, letR, h1]
  by_cases h2 : 97 ≤ n <;> by_cases h3 : n ≤ 122 <;> by_cases h4 : 65 ≤ n <;> by_cases h5 : n ≤ 90 <;> simp [S20, canon_v, canon_sl, canon_clo, canon_ptr, need_refl, elems_sl, sf_v, sf_sl, sf_ptr, sf_ptrh, sf_clo, sf_dead, sf_nil, sf_full, sf_fr, need_true, ibeq, beq_ba, nbeq, nble, nblt, AM.nth, List.getD_cons_succ, List.getD_cons_zero, Option.bind_some, Option.bind_none, Option.map_some, onBool, AM.onG, onFn, seqK, retK, Ex.outOf, cond_true, cond_false, bin_lss, bin_leq, bin_gtr, bin_geq, bin_eql, bin_neq, bin_add, bin_sub, bin_mul, un_not, str_eql, str_neq, app_push, load_fp, AM.ownPut, AM.cellsOf, AM.shift, aPick, beq_true, okSz, List.length_cons, List.length_nil, Nat.zero_add, Nat.add_zero, Nat.reduceAdd, decide_true, decide_false, Bool.and_true, Bool.true_and, Bool.and_self, Bool.not_true, Bool.not_false, List.getElem?_cons_zero, List.getElem?_cons_succ, List.nil_append, List.cons_append, max_int, min_int, modify_concat, part1, List.take_succ_cons, List.take_left, List.take_zero, List.take_nil, app_stk, app_tk, app_lp, set_stk, set_tk, set_lp, set_set, n_load, n_load0, n_old, n_store, n_store0, n_store_old, n_leave, n_leave0, n_fin_v, n_fin_sl, n_fin_u, n_back, n_next, n_blk, n_blk0, n_set, n_set0, n_set_old, bs_size, bs_inj, mk_bs, noPan, onRet, hN, hT, hL, List.toList_toArray, aNilCheck, AM.aExtract, canon, canonA, canonC, List.map_cons, List.map_nil, List.modify_zero_cons, List.modify_succ_cons, letR, h1, h2, h3, h4, h5]
theorem F21_ev (n : Int) (st : St) : E L (.func 21) [.v (.int .i32 n)] st = some (.v (.bool (digR n)), st) := by
  rw [S21_eq]
  obtain ⟨N, hN⟩ : ∃ q, st.stk.length = q := ⟨_, rfl⟩
  obtain ⟨T, hT⟩ : ∃ q, st.tk.length = q := ⟨_, rfl⟩
  obtain ⟨Lb, hL⟩ : ∃ q, st.lp.length = q := ⟨_, rfl⟩
  conv => lhs; rw [← app_nil st]
  by_cases h2 : 48 ≤ n <;> by_cases h3 : n ≤ 57 <;> simp [S21, canon_v, canon_sl, canon_clo, canon_ptr, need_refl, elems_sl, sf_v, sf_sl, sf_ptr, sf_ptrh, sf_clo, sf_dead, sf_nil, sf_full, sf_fr, need_true, ibeq, beq_ba, nbeq, nble, nblt, AM.nth, List.getD_cons_succ, List.getD_cons_zero, Option.bind_some, Option.bind_none, Option.map_some, onBool, AM.onG, onFn, seqK, retK, Ex.outOf, cond_true, cond_false, bin_lss, bin_leq, bin_gtr, bin_geq, bin_eql, bin_neq, bin_add, bin_sub, bin_mul, un_not, str_eql, str_neq, app_push, load_fp, AM.ownPut, AM.cellsOf, AM.shift, aPick, beq_true, okSz, List.length_cons, List.length_nil, Nat.zero_add, Nat.add_zero, Nat.reduceAdd, decide_true, decide_false, Bool.and_true, Bool.true_and, Bool.and_self, Bool.not_true, Bool.not_false, List.getElem?_cons_zero, List.getElem?_cons_succ, List.nil_append, List.cons_append, max_int, min_int, modify_concat, part1, List.take_succ_cons, List.take_left, List.take_zero, List.take_nil, app_stk, app_tk, app_lp, set_stk, set_tk, set_lp, set_set, n_load, n_load0, n_old, n_store, n_store0, n_store_old, n_leave, n_leave0, n_fin_v, n_fin_sl, n_fin_u, n_back, n_next, n_blk, n_blk0, n_set, n_set0, n_set_old, bs_size, bs_inj, mk_bs, noPan, onRet, hN, hT, hL, List.toList_toArray, aNilCheck, AM.aExtract, canon, canonA, canonC, List.map_cons, List.map_nil, List.modify_zero_cons, List.modify_succ_cons, digR, h2, h3]
theorem F29_ev (n : Int) (st : St) : E L (.func 29) [.v (.int .i32 n)] st = some (.v (.bool (!decide (n = 10))), st) := by
  rw [S29_eq]
  obtain ⟨N, hN⟩ : ∃ q, st.stk.length = q := ⟨_, rfl⟩
  obtain ⟨T, hT⟩ : ∃ q, st.tk.length = q := ⟨_, rfl⟩
  obtain ⟨Lb, hL⟩ : ∃ q, st.lp.length = q := ⟨_, rfl⟩
  conv => lhs; rw [← app_nil st]
  simp [S29, canon_v, canon_sl, canon_clo, canon_ptr, need_refl, elems_sl, sf_v, sf_sl, sf_ptr, sf_ptrh, sf_clo, sf_dead, sf_nil, sf_full, sf_fr, need_true, ibeq, beq_ba, nbeq, nble, nblt, AM.nth, List.getD_cons_succ, List.getD_cons_zero, Option.bind_some, Option.bind_none, Option.map_some, onBool, AM.onG, onFn, seqK, retK, Ex.outOf, cond_true, cond_false, bin_lss, bin_leq, bin_gtr, bin_geq, bin_eql, bin_neq, bin_add, bin_sub, bin_mul, un_not, str_eql, str_neq, app_push, load_fp, AM.ownPut, AM.cellsOf, AM.shift, aPick, beq_true, okSz, List.length_cons, List.length_nil, Nat.zero_add, Nat.add_zero, Nat.reduceAdd, decide_true, decide_false, Bool.and_true, Bool.true_and, Bool.and_self, Bool.not_true, Bool.not_false, List.getElem?_cons_zero, List.getElem?_cons_succ, List.nil_append, List.cons_append, max_int, min_int, modify_concat, part1, List.take_succ_cons, List.take_left, List.take_zero, List.take_nil, app_stk, app_tk, app_lp, set_stk, set_tk, set_lp, set_set, n_load, n_load0, n_old, n_store, n_store0, n_store_old, n_leave, n_leave0, n_fin_v, n_fin_sl, n_fin_u, n_back, n_next, n_blk, n_blk0, n_set, n_set0, n_set_old, bs_size, bs_inj, mk_bs, noPan, onRet, hN, hT, hL, List.toList_toArray, aNilCheck, AM.aExtract, canon, canonA, canonC, List.map_cons, List.map_nil, List.modify_zero_cons, List.modify_succ_cons]
theorem F41_ev (n : Int) (st : St) : E L (.func 41) [.v (.int .i32 n)] st = some (.v (.bool (letR n || digR n)), st) := by
  rw [S41_eq]
  obtain ⟨N, hN⟩ : ∃ q, st.stk.length = q := ⟨_, rfl⟩
  obtain ⟨T, hT⟩ : ∃ q, st.tk.length = q := ⟨_, rfl⟩
  obtain ⟨Lb, hL⟩ : ∃ q, st.lp.length = q := ⟨_, rfl⟩
  conv => lhs; rw [← app_nil st]
  cases h : letR n <;> simp [S41, canon_v, canon_sl, canon_clo, canon_ptr, need_refl, elems_sl, sf_v, sf_sl, sf_ptr, sf_ptrh, sf_clo, sf_dead, sf_nil, sf_full, sf_fr, need_true, ibeq, beq_ba, nbeq, nble, nblt, AM.nth, List.getD_cons_succ, List.getD_cons_zero, Option.bind_some, Option.bind_none, Option.map_some, onBool, AM.onG, onFn, seqK, retK, Ex.outOf, cond_true, cond_false, bin_lss, bin_leq, bin_gtr, bin_geq, bin_eql, bin_neq, bin_add, bin_sub, bin_mul, un_not, str_eql, str_neq, app_push, load_fp, AM.ownPut, AM.cellsOf, AM.shift, aPick, beq_true, okSz, List.length_cons, List.length_nil, Nat.zero_add, Nat.add_zero, Nat.reduceAdd, decide_true, decide_false, Bool.and_true, Bool.true_and, Bool.and_self, Bool.not_true, Bool.not_false, List.getElem?_cons_zero, List.getElem?_cons_succ, List.nil_append, List.cons_append, max_int, min_int, modify_concat, part1, List.take_succ_cons, List.take_left, List.take_zero, List.take_nil, app_stk, app_tk, app_lp, set_stk, set_tk, set_lp, set_set, n_load, n_load0, n_old, n_store, n_store0, n_store_old, n_leave, n_leave0, n_fin_v, n_fin_sl, n_fin_u, n_back, n_next, n_blk, n_blk0, n_set, n_set0, n_set_old, bs_size, bs_inj, mk_bs, noPan, onRet, hN, hT, hL, List.toList_toArray, aNilCheck, AM.aExtract, canon, canonA, canonC, List.map_cons, List.map_nil, List.modify_zero_cons, List.modify_succ_cons, F20_ev, F21_ev, h]
theorem F44_ev (n : Int) (st : St) : E L (.func 44) [.v (.int .i32 n)] st = some (.v (.bool (letR n || digR n)), st) := by
  rw [S44_eq]
  obtain ⟨N, hN⟩ : ∃ q, st.stk.length = q := ⟨_, rfl⟩
  obtain ⟨T, hT⟩ : ∃ q, st.tk.length = q := ⟨_, rfl⟩
  obtain ⟨Lb, hL⟩ : ∃ q, st.lp.length = q := ⟨_, rfl⟩
  conv => lhs; rw [← app_nil st]
  cases h : letR n <;> simp [S44, canon_v, canon_sl, canon_clo, canon_ptr, need_refl, elems_sl, sf_v, sf_sl, sf_ptr, sf_ptrh, sf_clo, sf_dead, sf_nil, sf_full, sf_fr, need_true, ibeq, beq_ba, nbeq, nble, nblt, AM.nth, List.getD_cons_succ, List.getD_cons_zero, Option.bind_some, Option.bind_none, Option.map_some, onBool, AM.onG, onFn, seqK, retK, Ex.outOf, cond_true, cond_false, bin_lss, bin_leq, bin_gtr, bin_geq, bin_eql, bin_neq, bin_add, bin_sub, bin_mul, un_not, str_eql, str_neq, app_push, load_fp, AM.ownPut, AM.cellsOf, AM.shift, aPick, beq_true, okSz, List.length_cons, List.length_nil, Nat.zero_add, Nat.add_zero, Nat.reduceAdd, decide_true, decide_false, Bool.and_true, Bool.true_and, Bool.and_self, Bool.not_true, Bool.not_false, List.getElem?_cons_zero, List.getElem?_cons_succ, List.nil_append, List.cons_append, max_int, min_int, modify_concat, part1, List.take_succ_cons, List.take_left, List.take_zero, List.take_nil, app_stk, app_tk, app_lp, set_stk, set_tk, set_lp, set_set, n_load, n_load0, n_old, n_store, n_store0, n_store_old, n_leave, n_leave0, n_fin_v, n_fin_sl, n_fin_u, n_back, n_next, n_blk, n_blk0, n_set, n_set0, n_set_old, bs_size, bs_inj, mk_bs, noPan, onRet, hN, hT, hL, List.toList_toArray, aNilCheck, AM.aExtract, canon, canonA, canonC, List.map_cons, List.map_nil, List.modify_zero_cons, List.modify_succ_cons, F20_ev, F21_ev, h]
theorem F23_ev (n : Int) (st : St) : E L (.func 23) [.v (.int .u8 n)] st = some (.v (.bool (letR n)), st) := by
  rw [S23_eq]
  obtain ⟨N, hN⟩ : ∃ q, st.stk.length = q := ⟨_, rfl⟩
  obtain ⟨T, hT⟩ : ∃ q, st.tk.length = q := ⟨_, rfl⟩
  obtain ⟨Lb, hL⟩ : ∃ q, st.lp.length = q := ⟨_, rfl⟩
  conv => lhs; rw [← app_nil st]
  by_cases h1 : n = 95
  · simp [S23, canon_v, canon_sl, canon_clo, canon_ptr, need_refl, elems_sl, sf_v, sf_sl, sf_ptr, sf_ptrh, sf_clo, sf_dead, sf_nil, sf_full, sf_fr, need_true, ibeq, beq_ba, nbeq, nble, nblt, AM.nth, List.getD_cons_succ, List.getD_cons_zero, Option.bind_some, Option.bind_none, Option.map_some, onBool, AM.onG, onFn, seqK, retK, Ex.outOf, cond_true, cond_false, bin_lss, bin_leq, bin_gtr, bin_geq, bin_eql, bin_neq, bin_add, bin_sub, bin_mul, un_not, str_eql, str_neq, app_push, load_fp, AM.ownPut, AM.cellsOf, AM.shift, aPick, beq_true, okSz, List.length_cons, List.length_nil, Nat.zero_add, Nat.add_zero, Nat.reduceAdd, decide_true, decide_false, Bool.and_true, Bool.true_and, Bool.and_self, Bool.not_true, Bool.not_false, List.getElem?_cons_zero, List.getElem?_cons_succ, List.nil_append, List.cons_append, max_int, min_int, modify_concat, part1, List.take_succ_cons, List.take_left, List.take_zero, List.take_nil, app_stk, app_tk, app_lp, set_stk, set_tk, set_lp, set_set, n_load, n_load0, n_old, n_store, n_store0, n_store_old, n_leave, n_leave0, n_fin_v, n_fin_sl, n_fin_u, n_back, n_next, n_blk, n_blk0, n_set, n_set0, n_set_old, bs_size, bs_inj, mk_bs, noPan, onRet, hN, hT, hL, List.toList_toArray, aNilCheck, AM.aExtract, canon, canonA, canonC, List.map_cons, List.map_nil, List.modify_zero_cons, List.modify_succ_cons, letR, h1]
  by_cases h2 : 97 ≤ n <;> by_cases h3 : n ≤ 122 <;> by_cases h4 : 65 ≤ n <;> by_cases h5 : n ≤ 90 <;> simp [S23, canon_v, canon_sl, canon_clo, canon_ptr, need_refl, elems_sl, sf_v, sf_sl, sf_ptr, sf_ptrh, sf_clo, sf_dead, sf_nil, sf_full, sf_fr, need_true, ibeq, beq_ba, nbeq, nble, nblt, AM.nth, List.getD_cons_succ, List.getD_cons_zero, Option.bind_some, Option.bind_none, Option.map_some, onBool, AM.onG, onFn, seqK, retK, Ex.outOf, cond_true, cond_false, bin_lss, bin_leq, bin_gtr, bin_geq, bin_eql, bin_neq, bin_add, bin_sub, bin_mul, un_not, str_eql, str_neq, app_push, load_fp, AM.ownPut, AM.cellsOf, AM.shift, aPick, beq_true, okSz, List.length_cons, List.length_nil, Nat.zero_add, Nat.add_zero, Nat.reduceAdd, decide_true, decide_false, Bool.and_true, Bool.true_and, Bool.and_self, Bool.not_true, Bool.not_false, List.getElem?_cons_zero, List.getElem?_cons_succ, List.nil_append, List.cons_append, max_int, min_int, modify_concat, part1, List.take_succ_cons, List.take_left, List.take_zero, List.take_nil, app_stk, app_tk, app_lp, set_stk, set_tk, set_lp, set_set, n_load, n_load0, n_old, n_store, n_store0, n_store_old, n_leave, n_leave0, n_fin_v, n_fin_sl, n_fin_u, n_back, n_next, n_blk, n_blk0, n_set, n_set0, n_set_old, bs_size, bs_inj, mk_bs, noPan, onRet, hN, hT, hL, List.toList_toArray, aNilCheck, AM.aExtract, canon, canonA, canonC, List.map_cons, List.map_nil, List.modify_zero_cons, List.modify_succ_cons, letR, h1, h2, h3, h4, h5]
theorem F24_ev (n : Int) (st : St) : E L (.func 24) [.v (.int .u8 n)] st = some (.v (.bool (digR n)), st) := by
  rw [S24_eq]
  obtain ⟨N, hN⟩ : ∃ q, st.stk.length = q := ⟨_, rfl⟩
  obtain ⟨T, hT⟩ : ∃ q, st.tk.length = q := ⟨_, rfl⟩
  obtain ⟨Lb, hL⟩ : ∃ q, st.lp.length = q := ⟨_, rfl⟩
  conv => lhs; rw [← app_nil st]
  by_cases h2 : 48 ≤ n <;> by_cases h3 : n ≤ 57 <;> simp [S24, canon_v, canon_sl, canon_clo, canon_ptr, need_refl, elems_sl, sf_v, sf_sl, sf_ptr, sf_ptrh, sf_clo, sf_dead, sf_nil, sf_full, sf_fr, need_true, ibeq, beq_ba, nbeq, nble, nblt, AM.nth, List.getD_cons_succ, List.getD_cons_zero, Option.bind_some, Option.bind_none, Option.map_some, onBool, AM.onG, onFn, seqK, retK, Ex.outOf, cond_true, cond_false, bin_lss, bin_leq, bin_gtr, bin_geq, bin_eql, bin_neq, bin_add, bin_sub, bin_mul, un_not, str_eql, str_neq, app_push, load_fp, AM.ownPut, AM.cellsOf, AM.shift, aPick, beq_true, okSz, List.length_cons, List.length_nil, Nat.zero_add, Nat.add_zero, Nat.reduceAdd, decide_true, decide_false, Bool.and_true, Bool.true_and, Bool.and_self, Bool.not_true, Bool.not_false, List.getElem?_cons_zero, List.getElem?_cons_succ, List.nil_append, List.cons_append, max_int, min_int, modify_concat, part1, List.take_succ_cons, List.take_left, List.take_zero, List.take_nil, app_stk, app_tk, app_lp, set_stk, set_tk, set_lp, set_set, n_load, n_load0, n_old, n_store, n_store0, n_store_old, n_leave, n_leave0, n_fin_v, n_fin_sl, n_fin_u, n_back, n_next, n_blk, n_blk0, n_set, n_set0, n_set_old, bs_size, bs_inj, mk_bs, noPan, onRet, hN, hT, hL, List.toList_toArray, aNilCheck, AM.aExtract, canon, canonA, canonC, List.map_cons, List.map_nil, List.modify_zero_cons, List.modify_succ_cons, digR, h2, h3]
end Go.Proofs.YtbbaalimilcppaaDoor.S

/- The lexer: how far letters go. No condition. -/
namespace Go.Proofs.YtbbaalimilcppaaDoor.S
open Go Go.AM Go.Proofs
set_option linter.unusedVariables false
set_option linter.unusedSimpArgs false
/-- How many bytes at the beginning are such. -/
def spanN (q : UInt8 → Bool) (l : List UInt8) : Nat := (l.takeWhile q).length
theorem spanN_le (q : UInt8 → Bool) (l : List UInt8) : spanN q l ≤ l.length := (List.takeWhile_sublist q).length_le
theorem spanN_cons (q : UInt8 → Bool) (c : UInt8) (l : List UInt8) : spanN q (c :: l) = if q c then spanN q l + 1 else 0 := by
  unfold spanN
  rw [List.takeWhile_cons]
  split <;> simp
theorem spanN_eq {q : UInt8 → Bool} : ∀ {l : List UInt8} {n : Nat}, n ≤ l.length → (∀ j (hj : j < l.length), j < n → q l[j] = true) → (∀ h : n < l.length, q l[n] = false) → spanN q l = n
  | [], n, hn, _, _ => by
    have : n = 0 := by simpa using hn
    subst this; rfl
  | c :: l, 0, hn, _, h => by
    have := h (by simp)
    rw [spanN_cons, if_neg]
    simpa using this
  | c :: l, n + 1, hn, h1, h => by
    have h0 := h1 0 (by simp) (by omega)
    rw [spanN_cons, if_pos (by simpa using h0), spanN_eq (n := n) (by simpa using hn) (fun j hj hn' => by have := h1 (j + 1) (by simpa using hj) (by omega); rwa [List.getElem_cons_succ] at this) (fun hh => by have := h (by simpa using hh); rwa [List.getElem_cons_succ] at this)]
theorem spanN_at {q : UInt8 → Bool} {l : List UInt8} (h : spanN q l < l.length) : q l[spanN q l] = false := by
  induction l with
  | nil => simp at h
  | cons c l ih =>
    by_cases hc : q c = true
    · have e : spanN q (c :: l) = spanN q l + 1 := by rw [spanN_cons, if_pos hc]
      simp only [e, List.length_cons, List.getElem_cons_succ] at h ⊢
      exact ih (by omega)
    · have e : spanN q (c :: l) = 0 := by rw [spanN_cons, if_neg hc]
      simp only [e, List.getElem_cons_zero]
      simpa using hc

/-- A closure that tells of a rune what is told of a byte. -/
structure Tell (g : Nat) (q : UInt8 → Bool) : Prop where
  lo : ∀ (c : UInt8) (st : St), c.toNat < 128 → E L (.func g) [.v (.int .i32 (c.toNat : Int))] st = some (.v (.bool (q c)), st)
  hi : ∃ b, (∀ c : UInt8, 128 ≤ c.toNat → q c = b) ∧ ∀ (n : Nat) (st : St), 128 ≤ n → E L (.func g) [.v (.int .i32 (n : Int))] st = some (.v (.bool b), st)

theorem run_loop {g : Nat} {q : UInt8 → Bool} (ht : Tell g q) {rest : List UInt8} (hlen : rest.length < 4611686018427387904) {X : St} {N T Lb : Nat} (hN : X.stk.length = N) (hT : X.tk.length = T) (hL : X.lp.length = Lb) (ptr : PV) : ∀ (k pos : Nat), rest.length - pos = k → pos ≤ rest.length → (∀ j (hj : j < rest.length), j < pos → q rest[j] = true) → ∀ x : PV,
    ∃ pos' e y, itE (S28.b0 (E L) itE N Lb) [ptr, .clo (.func g) [], x, .it Lb] (X.app [] [] [.iter (bs rest) pos]) = some (e, [ptr, .clo (.func g) [], y, .it Lb], X.app [] [] [.iter (bs rest) pos']) ∧
      ((e = .ret ∧ spanN q rest < rest.length ∧ y = .v (.int .i64 (spanN q rest))) ∨ (e = .exit 0 ∧ spanN q rest = rest.length)) := by
  intro k
  induction k using Nat.strongRecOn with
  | ind k ih =>
  intro pos hk hp hall x
  by_cases hlt : pos < rest.length
  · by_cases hb : rest[pos].toNat < 128
    · by_cases hq : q rest[pos] = true
      · obtain ⟨pos', e, y, h1, h2⟩ := ih (rest.length - (pos + 1)) (by omega) (pos + 1) rfl (by omega) (fun j hj hj' => by
          by_cases hjp : j = pos
          · subst hjp; exact hq
          · exact hall j hj (by omega)) x
        refine ⟨pos', e, y, ?_, h2⟩
        rw [it_step (vs' := [ptr, .clo (.func g) [], x, .it Lb]) (st' := X.app [] [] [.iter (bs rest) (pos + 1)])]
        · exact h1
        · have hd := AM.decode_ascii hlt hb
          simp [S28.b0, canon_v, canon_sl, canon_clo, canon_ptr, need_refl, elems_sl, sf_v, sf_sl, sf_ptr, sf_ptrh, sf_clo, sf_dead, sf_nil, sf_full, sf_fr, need_true, ibeq, beq_ba, nbeq, nble, nblt, AM.nth, List.getD_cons_succ, List.getD_cons_zero, Option.bind_some, Option.bind_none, Option.map_some, onBool, AM.onG, onFn, seqK, retK, Ex.outOf, cond_true, cond_false, bin_lss, bin_leq, bin_gtr, bin_geq, bin_eql, bin_neq, bin_add, bin_sub, bin_mul, un_not, str_eql, str_neq, app_push, load_fp, AM.ownPut, AM.cellsOf, AM.shift, aPick, beq_true, okSz, List.length_cons, List.length_nil, Nat.zero_add, Nat.add_zero, Nat.reduceAdd, decide_true, decide_false, Bool.and_true, Bool.true_and, Bool.and_self, Bool.not_true, Bool.not_false, List.getElem?_cons_zero, List.getElem?_cons_succ, List.nil_append, List.cons_append, max_int, min_int, modify_concat, part1, List.take_succ_cons, List.take_left, List.take_zero, List.take_nil, app_stk, app_tk, app_lp, set_stk, set_tk, set_lp, set_set, n_load, n_load0, n_old, n_store, n_store0, n_store_old, n_leave, n_leave0, n_fin_v, n_fin_sl, n_fin_u, n_back, n_next, n_blk, n_blk0, n_set, n_set0, n_set_old, bs_size, bs_inj, mk_bs, noPan, onRet, hN, hT, hL, List.toList_toArray, aNilCheck, AM.aExtract, canon, canonA, canonC, List.map_cons, List.map_nil, List.modify_zero_cons, List.modify_succ_cons, AM.part, List.drop_zero, List.drop_succ_cons, List.drop_nil, hlt, hd, ht.lo rest[pos] _ hb, hq]
      · have hs : spanN q rest = pos := spanN_eq hp hall fun _ => by simpa using hq
        refine ⟨pos + 1, .ret, .v (.int .i64 pos), ?_, .inl ⟨rfl, by omega, by rw [hs]⟩⟩
        apply it_ret
        have hd := AM.decode_ascii hlt hb
        simp [S28.b0, canon_v, canon_sl, canon_clo, canon_ptr, need_refl, elems_sl, sf_v, sf_sl, sf_ptr, sf_ptrh, sf_clo, sf_dead, sf_nil, sf_full, sf_fr, need_true, ibeq, beq_ba, nbeq, nble, nblt, AM.nth, List.getD_cons_succ, List.getD_cons_zero, Option.bind_some, Option.bind_none, Option.map_some, onBool, AM.onG, onFn, seqK, retK, Ex.outOf, cond_true, cond_false, bin_lss, bin_leq, bin_gtr, bin_geq, bin_eql, bin_neq, bin_add, bin_sub, bin_mul, un_not, str_eql, str_neq, app_push, load_fp, AM.ownPut, AM.cellsOf, AM.shift, aPick, beq_true, okSz, List.length_cons, List.length_nil, Nat.zero_add, Nat.add_zero, Nat.reduceAdd, decide_true, decide_false, Bool.and_true, Bool.true_and, Bool.and_self, Bool.not_true, Bool.not_false, List.getElem?_cons_zero, List.getElem?_cons_succ, List.nil_append, List.cons_append, max_int, min_int, modify_concat, part1, List.take_succ_cons, List.take_left, List.take_zero, List.take_nil, app_stk, app_tk, app_lp, set_stk, set_tk, set_lp, set_set, n_load, n_load0, n_old, n_store, n_store0, n_store_old, n_leave, n_leave0, n_fin_v, n_fin_sl, n_fin_u, n_back, n_next, n_blk, n_blk0, n_set, n_set0, n_set_old, bs_size, bs_inj, mk_bs, noPan, onRet, hN, hT, hL, List.toList_toArray, aNilCheck, AM.aExtract, canon, canonA, canonC, List.map_cons, List.map_nil, List.modify_zero_cons, List.modify_succ_cons, AM.part, List.drop_zero, List.drop_succ_cons, List.drop_nil, hlt, hd, ht.lo rest[pos] _ hb, hq]
    · obtain ⟨hh1, hh2, hh3, hh4, hh5⟩ := AM.decode_high hlt (by omega : 128 ≤ rest[pos].toNat)
      obtain ⟨b, hb1, hb2⟩ := ht.hi
      cases b with
      | true =>
        obtain ⟨pos', e, y, h1, h2⟩ := ih (rest.length - (pos + (Utf8.decode (bs rest) pos).2)) (by omega) (pos + (Utf8.decode (bs rest) pos).2) rfl (by omega) (fun j hj hj' => by
          by_cases hjp : j < pos
          · exact hall j hj hjp
          · exact hb1 _ (hh5 j hj (by omega) hj')) x
        refine ⟨pos', e, y, ?_, h2⟩
        rw [it_step (vs' := [ptr, .clo (.func g) [], x, .it Lb]) (st' := X.app [] [] [.iter (bs rest) (pos + (Utf8.decode (bs rest) pos).2)])]
        · exact h1
        · simp [S28.b0, canon_v, canon_sl, canon_clo, canon_ptr, need_refl, elems_sl, sf_v, sf_sl, sf_ptr, sf_ptrh, sf_clo, sf_dead, sf_nil, sf_full, sf_fr, need_true, ibeq, beq_ba, nbeq, nble, nblt, AM.nth, List.getD_cons_succ, List.getD_cons_zero, Option.bind_some, Option.bind_none, Option.map_some, onBool, AM.onG, onFn, seqK, retK, Ex.outOf, cond_true, cond_false, bin_lss, bin_leq, bin_gtr, bin_geq, bin_eql, bin_neq, bin_add, bin_sub, bin_mul, un_not, str_eql, str_neq, app_push, load_fp, AM.ownPut, AM.cellsOf, AM.shift, aPick, beq_true, okSz, List.length_cons, List.length_nil, Nat.zero_add, Nat.add_zero, Nat.reduceAdd, decide_true, decide_false, Bool.and_true, Bool.true_and, Bool.and_self, Bool.not_true, Bool.not_false, List.getElem?_cons_zero, List.getElem?_cons_succ, List.nil_append, List.cons_append, max_int, min_int, modify_concat, part1, List.take_succ_cons, List.take_left, List.take_zero, List.take_nil, app_stk, app_tk, app_lp, set_stk, set_tk, set_lp, set_set, n_load, n_load0, n_old, n_store, n_store0, n_store_old, n_leave, n_leave0, n_fin_v, n_fin_sl, n_fin_u, n_back, n_next, n_blk, n_blk0, n_set, n_set0, n_set_old, bs_size, bs_inj, mk_bs, noPan, onRet, hN, hT, hL, List.toList_toArray, aNilCheck, AM.aExtract, canon, canonA, canonC, List.map_cons, List.map_nil, List.modify_zero_cons, List.modify_succ_cons, AM.part, List.drop_zero, List.drop_succ_cons, List.drop_nil, hlt, hb2 _ _ hh1]
      | false =>
        have hs : spanN q rest = pos := spanN_eq hp hall fun _ => hb1 _ (by omega)
        refine ⟨pos + (Utf8.decode (bs rest) pos).2, .ret, .v (.int .i64 pos), ?_, .inl ⟨rfl, by omega, by rw [hs]⟩⟩
        apply it_ret
        simp [S28.b0, canon_v, canon_sl, canon_clo, canon_ptr, need_refl, elems_sl, sf_v, sf_sl, sf_ptr, sf_ptrh, sf_clo, sf_dead, sf_nil, sf_full, sf_fr, need_true, ibeq, beq_ba, nbeq, nble, nblt, AM.nth, List.getD_cons_succ, List.getD_cons_zero, Option.bind_some, Option.bind_none, Option.map_some, onBool, AM.onG, onFn, seqK, retK, Ex.outOf, cond_true, cond_false, bin_lss, bin_leq, bin_gtr, bin_geq, bin_eql, bin_neq, bin_add, bin_sub, bin_mul, un_not, str_eql, str_neq, app_push, load_fp, AM.ownPut, AM.cellsOf, AM.shift, aPick, beq_true, okSz, List.length_cons, List.length_nil, Nat.zero_add, Nat.add_zero, Nat.reduceAdd, decide_true, decide_false, Bool.and_true, Bool.true_and, Bool.and_self, Bool.not_true, Bool.not_false, List.getElem?_cons_zero, List.getElem?_cons_succ, List.nil_append, List.cons_append, max_int, min_int, modify_concat, part1, List.take_succ_cons, List.take_left, List.take_zero, List.take_nil, app_stk, app_tk, app_lp, set_stk, set_tk, set_lp, set_set, n_load, n_load0, n_old, n_store, n_store0, n_store_old, n_leave, n_leave0, n_fin_v, n_fin_sl, n_fin_u, n_back, n_next, n_blk, n_blk0, n_set, n_set0, n_set_old, bs_size, bs_inj, mk_bs, noPan, onRet, hN, hT, hL, List.toList_toArray, aNilCheck, AM.aExtract, canon, canonA, canonC, List.map_cons, List.map_nil, List.modify_zero_cons, List.modify_succ_cons, AM.part, List.drop_zero, List.drop_succ_cons, List.drop_nil, hlt, hb2 _ _ hh1]
  · have hs : spanN q rest = pos := spanN_eq hp hall fun h => absurd h hlt
    refine ⟨pos, .exit 0, x, ?_, .inr ⟨rfl, by omega⟩⟩
    apply it_exit
    simp [S28.b0, canon_v, canon_sl, canon_clo, canon_ptr, need_refl, elems_sl, sf_v, sf_sl, sf_ptr, sf_ptrh, sf_clo, sf_dead, sf_nil, sf_full, sf_fr, need_true, ibeq, beq_ba, nbeq, nble, nblt, AM.nth, List.getD_cons_succ, List.getD_cons_zero, Option.bind_some, Option.bind_none, Option.map_some, onBool, AM.onG, onFn, seqK, retK, Ex.outOf, cond_true, cond_false, bin_lss, bin_leq, bin_gtr, bin_geq, bin_eql, bin_neq, bin_add, bin_sub, bin_mul, un_not, str_eql, str_neq, app_push, load_fp, AM.ownPut, AM.cellsOf, AM.shift, aPick, beq_true, okSz, List.length_cons, List.length_nil, Nat.zero_add, Nat.add_zero, Nat.reduceAdd, decide_true, decide_false, Bool.and_true, Bool.true_and, Bool.and_self, Bool.not_true, Bool.not_false, List.getElem?_cons_zero, List.getElem?_cons_succ, List.nil_append, List.cons_append, max_int, min_int, modify_concat, part1, List.take_succ_cons, List.take_left, List.take_zero, List.take_nil, app_stk, app_tk, app_lp, set_stk, set_tk, set_lp, set_set, n_load, n_load0, n_old, n_store, n_store0, n_store_old, n_leave, n_leave0, n_fin_v, n_fin_sl, n_fin_u, n_back, n_next, n_blk, n_blk0, n_set, n_set0, n_set_old, bs_size, bs_inj, mk_bs, noPan, onRet, hN, hT, hL, List.toList_toArray, aNilCheck, AM.aExtract, canon, canonA, canonC, List.map_cons, List.map_nil, List.modify_zero_cons, List.modify_succ_cons, AM.part, List.drop_zero, List.drop_succ_cons, List.drop_nil, hlt]
theorem F28_ev {g : Nat} {q : UInt8 → Bool} (ht : Tell g q) {s : St} {b : Nat} {rest : List UInt8} {x y : PV} (hb : b < s.stk.length) (hlen : rest.length < 4611686018427387904) :
    E L (.func 28) [.ptr false b 0, .clo (.func g) []] (s.setBlk false b [str rest, x, y]) = some (.v (.int .i64 (spanN q rest)), s.setBlk false b [str rest, x, y]) := by
  rw [S28_eq]
  obtain ⟨N, hN⟩ : ∃ q, s.stk.length = q := ⟨_, rfl⟩
  obtain ⟨T, hT⟩ : ∃ q, s.tk.length = q := ⟨_, rfl⟩
  obtain ⟨Lb, hL⟩ : ∃ q, s.lp.length = q := ⟨_, rfl⟩
  rw [hN] at hb
  conv => lhs; rw [← app_nil (s.setBlk false b [str rest, x, y])]
  have hr : ∀ X : St, X.lp.length = Lb → aRange Tryd.prog 9 (str rest) (X.app [] [] []) = some (.it Lb, X.app [] [] [.iter (bs rest) 0]) := fun X h => n_range [] [] [] (by kernel_rfl) (bs rest) h
  obtain ⟨pos', e, z, h1, h2⟩ := run_loop ht hlen (X := s.setBlk false b [str rest, x, y]) (N := N) (T := T) (Lb := Lb) (by rw [set_stk, hN]) (by rw [set_tk, hT]) (by rw [set_lp, hL]) (.ptr false b 0) rest.length 0 rfl (by omega) (fun j hj h => absurd h (by omega)) (.v (.int .i64 0))
  rcases h2 with ⟨rfl, h3, rfl⟩ | ⟨rfl, h3⟩
  · simp [S28, canon_v, canon_sl, canon_clo, canon_ptr, need_refl, elems_sl, sf_v, sf_sl, sf_ptr, sf_ptrh, sf_clo, sf_dead, sf_nil, sf_full, sf_fr, need_true, ibeq, beq_ba, nbeq, nble, nblt, AM.nth, List.getD_cons_succ, List.getD_cons_zero, Option.bind_some, Option.bind_none, Option.map_some, onBool, AM.onG, onFn, seqK, retK, Ex.outOf, cond_true, cond_false, bin_lss, bin_leq, bin_gtr, bin_geq, bin_eql, bin_neq, bin_add, bin_sub, bin_mul, un_not, str_eql, str_neq, app_push, load_fp, AM.ownPut, AM.cellsOf, AM.shift, aPick, beq_true, okSz, List.length_cons, List.length_nil, Nat.zero_add, Nat.add_zero, Nat.reduceAdd, decide_true, decide_false, Bool.and_true, Bool.true_and, Bool.and_self, Bool.not_true, Bool.not_false, List.getElem?_cons_zero, List.getElem?_cons_succ, List.nil_append, List.cons_append, max_int, min_int, modify_concat, part1, List.take_succ_cons, List.take_left, List.take_zero, List.take_nil, app_stk, app_tk, app_lp, set_stk, set_tk, set_lp, set_set, n_load, n_load0, n_old, n_store, n_store0, n_store_old, n_leave, n_leave0, n_fin_v, n_fin_sl, n_fin_u, n_back, n_next, n_blk, n_blk0, n_set, n_set0, n_set_old, bs_size, bs_inj, mk_bs, noPan, onRet, hN, hT, hL, List.toList_toArray, aNilCheck, AM.aExtract, canon, canonA, canonC, List.map_cons, List.map_nil, List.modify_zero_cons, List.modify_succ_cons, AM.part, List.drop_zero, List.drop_succ_cons, List.drop_nil, hb, hr, h1]
  · simp [S28, canon_v, canon_sl, canon_clo, canon_ptr, need_refl, elems_sl, sf_v, sf_sl, sf_ptr, sf_ptrh, sf_clo, sf_dead, sf_nil, sf_full, sf_fr, need_true, ibeq, beq_ba, nbeq, nble, nblt, AM.nth, List.getD_cons_succ, List.getD_cons_zero, Option.bind_some, Option.bind_none, Option.map_some, onBool, AM.onG, onFn, seqK, retK, Ex.outOf, cond_true, cond_false, bin_lss, bin_leq, bin_gtr, bin_geq, bin_eql, bin_neq, bin_add, bin_sub, bin_mul, un_not, str_eql, str_neq, app_push, load_fp, AM.ownPut, AM.cellsOf, AM.shift, aPick, beq_true, okSz, List.length_cons, List.length_nil, Nat.zero_add, Nat.add_zero, Nat.reduceAdd, decide_true, decide_false, Bool.and_true, Bool.true_and, Bool.and_self, Bool.not_true, Bool.not_false, List.getElem?_cons_zero, List.getElem?_cons_succ, List.nil_append, List.cons_append, max_int, min_int, modify_concat, part1, List.take_succ_cons, List.take_left, List.take_zero, List.take_nil, app_stk, app_tk, app_lp, set_stk, set_tk, set_lp, set_set, n_load, n_load0, n_old, n_store, n_store0, n_store_old, n_leave, n_leave0, n_fin_v, n_fin_sl, n_fin_u, n_back, n_next, n_blk, n_blk0, n_set, n_set0, n_set_old, bs_size, bs_inj, mk_bs, noPan, onRet, hN, hT, hL, List.toList_toArray, aNilCheck, AM.aExtract, canon, canonA, canonC, List.map_cons, List.map_nil, List.modify_zero_cons, List.modify_succ_cons, AM.part, List.drop_zero, List.drop_succ_cons, List.drop_nil, hb, hr, h1, len_9, h3]
end Go.Proofs.YtbbaalimilcppaaDoor.S

/- The lexer: letters are over. No condition. -/
namespace Go.Proofs.YtbbaalimilcppaaDoor.S
open Go Go.AM Go.Proofs
set_option linter.unusedVariables false
set_option linter.unusedSimpArgs false
/-- Where a text goes on: line and column behind some letters. -/
def adv : List UInt8 → Nat × Nat → Nat × Nat
  | [], p => p
  | c :: l, p => adv l (if c = 10 then (p.1 + 1, 1) else (p.1, p.2 + 1))
theorem adv_append (a b : List UInt8) (p : Nat × Nat) : adv (a ++ b) p = adv b (adv a p) := by
  induction a generalizing p with
  | nil => rfl
  | cons c a ih => exact ih _
theorem adv_bnd : ∀ (l : List UInt8) (p : Nat × Nat), 1 ≤ p.2 → p.1 ≤ (adv l p).1 ∧ (adv l p).1 ≤ p.1 + l.length ∧ 1 ≤ (adv l p).2 ∧ (adv l p).2 ≤ p.2 + l.length
  | [], p, h => by simp [adv, h]
  | c :: l, p, h => by
    simp only [adv, List.length_cons]
    split
    · have := adv_bnd l (p.1 + 1, 1) (by simp)
      simp only at this
      omega
    · have := adv_bnd l (p.1, p.2 + 1) (by simp)
      simp only at this
      omega
/-- A reader's cells. -/
abbrev rdc (rest : List UInt8) (p : Nat × Nat) : List PV := [str rest, .v (.int .i64 (p.1 : Int)), .v (.int .i64 (p.2 : Int))]
def byteC (c : UInt8) : List PV := [.v (.int .u8 (c.toNat : Int))]
theorem bytesEs_bs (l : List UInt8) : bytesEs (bs l) = l.map byteC := rfl
theorem ia60 {l : List UInt8} {i : Nat} {c : Cap} (k : IntKind) (h : i < l.length) : aIndexAddr Tryd.prog 60 (.sl (l.map byteC) c) (.v (.int k (i : Int))) = some (.fp (byteC l[i]) 0) := by
  rw [ia_60]
  have h1 : inRange (i : Int) (l.map byteC).length = true := by simp [inRange, h]
  rw [h1, cond_true, Int.toNat_natCast, List.getElem?_map, List.getElem?_eq_getElem h]
  rfl

theorem skip_loop {X : St} {N T Lb b : Nat} (hN : X.stk.length = N) (hT : X.tk.length = T) (hL : X.lp.length = Lb) (hb : b < N) {rest t : List UInt8} {p : Nat × Nat} (hp : 1 ≤ p.2) (h1 : p.1 + t.length < 4611686018427387904) (h2 : p.2 + t.length < 4611686018427387904) :
    ∀ (suf pre : List UInt8), t = pre ++ suf →
      itE (S27.b0 (E L) itE N Lb) [.ptr false b 0, str t, .sl (t.map byteC) .dead, .v (.int .i64 (t.length : Int)), .v (.int .i64 (pre.length : Int))] ((X.setBlk false b (rdc rest (adv pre p))).app [] [] []) =
        some (.exit 0, [.ptr false b 0, str t, .sl (t.map byteC) .dead, .v (.int .i64 (t.length : Int)), .v (.int .i64 (t.length : Int))], (X.setBlk false b (rdc rest (adv t p))).app [] [] []) := by
  intro suf
  induction suf with
  | nil =>
    intro pre ht
    have ht : t = pre := by simpa using ht
    subst ht
    apply it_exit
    simp [S27.b0, canon_v, canon_sl, canon_clo, canon_ptr, need_refl, elems_sl, sf_v, sf_sl, sf_ptr, sf_ptrh, sf_clo, sf_dead, sf_nil, sf_full, sf_fr, need_true, ibeq, beq_ba, nbeq, nble, nblt, AM.nth, List.getD_cons_succ, List.getD_cons_zero, Option.bind_some, Option.bind_none, Option.map_some, onBool, AM.onG, onFn, seqK, retK, Ex.outOf, cond_true, cond_false, bin_lss, bin_leq, bin_gtr, bin_geq, bin_eql, bin_neq, bin_add, bin_sub, bin_mul, un_not, str_eql, str_neq, app_push, load_fp, AM.ownPut, AM.cellsOf, AM.shift, aPick, beq_true, okSz, List.length_cons, List.length_nil, Nat.zero_add, Nat.add_zero, Nat.reduceAdd, decide_true, decide_false, Bool.and_true, Bool.true_and, Bool.and_self, Bool.not_true, Bool.not_false, List.getElem?_cons_zero, List.getElem?_cons_succ, List.nil_append, List.cons_append, max_int, min_int, modify_concat, part1, List.take_succ_cons, List.take_left, List.take_zero, List.take_nil, app_stk, app_tk, app_lp, set_stk, set_tk, set_lp, set_set, n_load, n_load0, n_old, n_store, n_store0, n_store_old, n_leave, n_leave0, n_fin_v, n_fin_sl, n_fin_u, n_back, n_next, n_blk, n_blk0, n_set, n_set0, n_set_old, bs_size, bs_inj, mk_bs, noPan, onRet, hN, hT, hL, List.toList_toArray, aNilCheck, AM.aExtract, canon, canonA, canonC, List.map_cons, List.map_nil, List.modify_zero_cons, List.modify_succ_cons, AM.part, List.drop_zero, List.drop_succ_cons, List.drop_nil]
  | cons c suf ih =>
    intro pre ht
    have ht' : t = (pre ++ [c]) ++ suf := by simp [ht]
    have hl : pre.length < t.length := by rw [ht]; simp
    have hg : t[pre.length] = c := by simp [ht]
    have hb1 := adv_bnd pre p hp
    have w0 : IntKind.i64.wrap ((pre.length : Int) + 1) = (pre.length : Int) + 1 := IntWalk.i64_in _ (by omega)
    have w1 : IntKind.i64.wrap (((adv pre p).1 : Int) + 1) = ((adv pre p).1 : Int) + 1 := IntWalk.i64_in _ (by omega)
    have w2 : IntKind.i64.wrap (((adv pre p).2 : Int) + 1) = ((adv pre p).2 : Int) + 1 := IntWalk.i64_in _ (by omega)
    have hi := ia60 (l := t) (c := .dead) .i64 hl
    rw [hg] at hi
    have ha : adv (pre ++ [c]) p = if c = 10 then ((adv pre p).1 + 1, 1) else ((adv pre p).1, (adv pre p).2 + 1) := by rw [adv_append]; rfl
    have ih := ih (pre ++ [c]) ht'
    rw [ha] at ih
    have hlt : (pre.length : Int) < (t.length : Int) := by omega
    by_cases hc : c = 10
    · subst hc
      rw [it_step (vs' := [.ptr false b 0, str t, .sl (t.map byteC) .dead, .v (.int .i64 (t.length : Int)), .v (.int .i64 ((pre ++ [(10 : UInt8)]).length : Int))]) (st' := (X.setBlk false b (rdc rest ((adv pre p).1 + 1, 1))).app [] [] [])]
      · simpa using ih
      · simp [S27.b0, canon_v, canon_sl, canon_clo, canon_ptr, need_refl, elems_sl, sf_v, sf_sl, sf_ptr, sf_ptrh, sf_clo, sf_dead, sf_nil, sf_full, sf_fr, need_true, ibeq, beq_ba, nbeq, nble, nblt, AM.nth, List.getD_cons_succ, List.getD_cons_zero, Option.bind_some, Option.bind_none, Option.map_some, onBool, AM.onG, onFn, seqK, retK, Ex.outOf, cond_true, cond_false, bin_lss, bin_leq, bin_gtr, bin_geq, bin_eql, bin_neq, bin_add, bin_sub, bin_mul, un_not, str_eql, str_neq, app_push, load_fp, AM.ownPut, AM.cellsOf, AM.shift, aPick, beq_true, okSz, List.length_cons, List.length_nil, Nat.zero_add, Nat.add_zero, Nat.reduceAdd, decide_true, decide_false, Bool.and_true, Bool.true_and, Bool.and_self, Bool.not_true, Bool.not_false, List.getElem?_cons_zero, List.getElem?_cons_succ, List.nil_append, List.cons_append, max_int, min_int, modify_concat, part1, List.take_succ_cons, List.take_left, List.take_zero, List.take_nil, app_stk, app_tk, app_lp, set_stk, set_tk, set_lp, set_set, n_load, n_load0, n_old, n_store, n_store0, n_store_old, n_leave, n_leave0, n_fin_v, n_fin_sl, n_fin_u, n_back, n_next, n_blk, n_blk0, n_set, n_set0, n_set_old, bs_size, bs_inj, mk_bs, noPan, onRet, hN, hT, hL, List.toList_toArray, aNilCheck, AM.aExtract, canon, canonA, canonC, List.map_cons, List.map_nil, List.modify_zero_cons, List.modify_succ_cons, AM.part, List.drop_zero, List.drop_succ_cons, List.drop_nil, hb, hlt, hi, byteC, rdc, w0, w1, w2]
    · have hc' : ¬ ((c.toNat : Int) = 10) := fun h => hc (UInt8.toNat_inj.1 (by simpa using Int.ofNat_inj.1 h))
      rw [it_step (vs' := [.ptr false b 0, str t, .sl (t.map byteC) .dead, .v (.int .i64 (t.length : Int)), .v (.int .i64 ((pre ++ [c]).length : Int))]) (st' := (X.setBlk false b (rdc rest ((adv pre p).1, (adv pre p).2 + 1))).app [] [] [])]
      · rw [if_neg hc] at ih
        exact ih
      · simp [S27.b0, canon_v, canon_sl, canon_clo, canon_ptr, need_refl, elems_sl, sf_v, sf_sl, sf_ptr, sf_ptrh, sf_clo, sf_dead, sf_nil, sf_full, sf_fr, need_true, ibeq, beq_ba, nbeq, nble, nblt, AM.nth, List.getD_cons_succ, List.getD_cons_zero, Option.bind_some, Option.bind_none, Option.map_some, onBool, AM.onG, onFn, seqK, retK, Ex.outOf, cond_true, cond_false, bin_lss, bin_leq, bin_gtr, bin_geq, bin_eql, bin_neq, bin_add, bin_sub, bin_mul, un_not, str_eql, str_neq, app_push, load_fp, AM.ownPut, AM.cellsOf, AM.shift, aPick, beq_true, okSz, List.length_cons, List.length_nil, Nat.zero_add, Nat.add_zero, Nat.reduceAdd, decide_true, decide_false, Bool.and_true, Bool.true_and, Bool.and_self, Bool.not_true, Bool.not_false, List.getElem?_cons_zero, List.getElem?_cons_succ, List.nil_append, List.cons_append, max_int, min_int, modify_concat, part1, List.take_succ_cons, List.take_left, List.take_zero, List.take_nil, app_stk, app_tk, app_lp, set_stk, set_tk, set_lp, set_set, n_load, n_load0, n_old, n_store, n_store0, n_store_old, n_leave, n_leave0, n_fin_v, n_fin_sl, n_fin_u, n_back, n_next, n_blk, n_blk0, n_set, n_set0, n_set_old, bs_size, bs_inj, mk_bs, noPan, onRet, hN, hT, hL, List.toList_toArray, aNilCheck, AM.aExtract, canon, canonA, canonC, List.map_cons, List.map_nil, List.modify_zero_cons, List.modify_succ_cons, AM.part, List.drop_zero, List.drop_succ_cons, List.drop_nil, hb, hlt, hi, byteC, rdc, w0, w1, w2, hc']
theorem F27_ev {s : St} {b n : Nat} {rest : List UInt8} {p : Nat × Nat} (hb : b < s.stk.length) (hn : n ≤ rest.length) (hp : 1 ≤ p.2) (h1 : p.1 + rest.length < 4611686018427387904) (h2 : p.2 + rest.length < 4611686018427387904) :
    E L (.func 27) [.ptr false b 0, .v (.int .i64 (n : Int))] (s.setBlk false b (rdc rest p)) = some (str (rest.take n), s.setBlk false b (rdc (rest.drop n) (adv (rest.take n) p))) := by
  rw [S27_eq]
  obtain ⟨N, hN⟩ : ∃ q, s.stk.length = q := ⟨_, rfl⟩
  obtain ⟨T, hT⟩ : ∃ q, s.tk.length = q := ⟨_, rfl⟩
  obtain ⟨Lb, hL⟩ : ∃ q, s.lp.length = q := ⟨_, rfl⟩
  rw [hN] at hb
  conv => lhs; rw [← app_nil (s.setBlk false b (rdc rest p))]
  have hl : (rest.take n).length ≤ rest.length := by simp; omega
  have h := skip_loop hN hT hL hb (rest := rest.drop n) (t := rest.take n) hp (by omega) (by omega) (rest.take n) [] rfl
  simp only [adv, List.length_nil] at h
  have e1 := slch_9 (l := rest) .i64 hn
  have e2 := slcl_9 (l := rest) .i64 hn
  generalize rest.take n = t at h e1 ⊢
  generalize rest.drop n = r at h e2 ⊢
  simp only [rdc, Int.natCast_zero] at h
  simp [S27, canon_v, canon_sl, canon_clo, canon_ptr, need_refl, elems_sl, sf_v, sf_sl, sf_ptr, sf_ptrh, sf_clo, sf_dead, sf_nil, sf_full, sf_fr, need_true, ibeq, beq_ba, nbeq, nble, nblt, AM.nth, List.getD_cons_succ, List.getD_cons_zero, Option.bind_some, Option.bind_none, Option.map_some, onBool, AM.onG, onFn, seqK, retK, Ex.outOf, cond_true, cond_false, bin_lss, bin_leq, bin_gtr, bin_geq, bin_eql, bin_neq, bin_add, bin_sub, bin_mul, un_not, str_eql, str_neq, app_push, load_fp, AM.ownPut, AM.cellsOf, AM.shift, aPick, beq_true, okSz, List.length_cons, List.length_nil, Nat.zero_add, Nat.add_zero, Nat.reduceAdd, decide_true, decide_false, Bool.and_true, Bool.true_and, Bool.and_self, Bool.not_true, Bool.not_false, List.getElem?_cons_zero, List.getElem?_cons_succ, List.nil_append, List.cons_append, max_int, min_int, modify_concat, part1, List.take_succ_cons, List.take_left, List.take_zero, List.take_nil, app_stk, app_tk, app_lp, set_stk, set_tk, set_lp, set_set, n_load, n_load0, n_old, n_store, n_store0, n_store_old, n_leave, n_leave0, n_fin_v, n_fin_sl, n_fin_u, n_back, n_next, n_blk, n_blk0, n_set, n_set0, n_set_old, bs_size, bs_inj, mk_bs, noPan, onRet, hN, hT, hL, List.toList_toArray, aNilCheck, AM.aExtract, canon, canonA, canonC, List.map_cons, List.map_nil, List.modify_zero_cons, List.modify_succ_cons, AM.part, List.drop_zero, List.drop_succ_cons, List.drop_nil, hb, rdc, e1, e2, conv_9_60, bytesEs_bs, len_60, h]
end Go.Proofs.YtbbaalimilcppaaDoor.S

/- The lexer: words and names. No condition. -/
namespace Go.Proofs.YtbbaalimilcppaaDoor.S
open Go Go.AM Go.Proofs
set_option linter.unusedVariables false
set_option linter.unusedSimpArgs false

/-! ### what contains what -/
theorem contains_nil (sub : List UInt8) : Lib.contains [] sub = sub.isEmpty := by
  cases sub <;> simp [Lib.contains, Lib.index]
theorem index_ge (sub : List UInt8) : ∀ l : List UInt8, -1 ≤ Lib.index l sub
  | [] => by simp only [Lib.index]; split <;> omega
  | b :: l => by
    have ih := index_ge sub l
    simp only [Lib.index]
    split
    · omega
    · split
      · omega
      · omega
theorem contains_cons (b : UInt8) (l sub : List UInt8) : Lib.contains (b :: l) sub = (sub.isPrefixOf (b :: l) || Lib.contains l sub) := by
  have h := index_ge sub l
  simp only [Lib.contains, Lib.index]
  by_cases h1 : sub.isPrefixOf (b :: l) = true
  · simp [h1]
  · simp only [h1, Bool.false_eq_true, if_false, Bool.false_or]
    by_cases h2 : Lib.index l sub = -1
    · simp [h2]
    · have : (Lib.index l sub == -1) = false := by simpa using h2
      rw [this]
      simp only [Bool.false_eq_true, if_false, decide_eq_decide]
      omega
def joinW : List (List UInt8) → List UInt8
  | [] => []
  | w :: ws => w ++ 32 :: joinW ws
theorem pre_word {s w : List UInt8} {R : List UInt8} (hs : ∀ c ∈ s, c ≠ 32) (hw : ∀ c ∈ w, c ≠ 32) : (s ++ [32]).isPrefixOf (w ++ 32 :: R) = decide (s = w) := by
  induction s generalizing w with
  | nil =>
    cases w with
    | nil => simp
    | cons c w =>
      have : c ≠ 32 := hw c (by simp)
      simp [List.isPrefixOf, Ne.symm this]
  | cons a s ih =>
    have ha : a ≠ 32 := hs a (by simp)
    cases w with
    | nil => simp [List.isPrefixOf, ha]
    | cons c w =>
      have := ih (w := w) (fun c h => hs c (by simp [h])) (fun c h => hw c (by simp [h]))
      simp only [List.cons_append, List.isPrefixOf, this, List.cons.injEq]
      by_cases hac : a = c <;> simp [hac]
theorem contains_skip {s w R : List UInt8} (hw : ∀ c ∈ w, c ≠ 32) : Lib.contains (w ++ 32 :: R) (32 :: s) = Lib.contains (32 :: R) (32 :: s) := by
  induction w with
  | nil => rfl
  | cons c w ih =>
    have hc : c ≠ 32 := hw c (by simp)
    rw [List.cons_append, contains_cons, ih fun c h => hw c (by simp [h])]
    simp [List.isPrefixOf, Ne.symm hc]
theorem contains_words {s : List UInt8} (hs : ∀ c ∈ s, c ≠ 32) : ∀ ws : List (List UInt8), (∀ w ∈ ws, ∀ c ∈ w, c ≠ 32) → Lib.contains (32 :: joinW ws) (32 :: (s ++ [32])) = ws.contains s
  | [], _ => by
    rw [contains_cons, joinW, contains_nil]
    cases s <;> simp [List.isPrefixOf]
  | w :: ws, h => by
    have hw := h w (by simp)
    rw [contains_cons, joinW, contains_skip hw, contains_words hs ws fun w hw => h w (by simp [hw])]
    simp only [List.isPrefixOf, beq_self_eq_true, Bool.true_and, pre_word hs hw, List.contains_cons, Bool.beq_eq_decide_eq]
theorem contains_one (l : List UInt8) (c : UInt8) : Lib.contains l [c] = l.contains c := by
  induction l with
  | nil => rfl
  | cons b l ih =>
    rw [contains_cons, ih, List.contains_cons]
    simp [List.isPrefixOf]

theorem F22_ev {a b : List UInt8} (h : a.length < 4294967281) (st : St) : E L (.func 22) [str a, str b] st = some (.v (.bool (Lib.contains a b)), st) := by
  rw [E_prim (L := L) (f := 22) (g := pureF pContains) rfl]
  simp [AM.pureF, AM.valsOf, AM.valOf, pContains, bs_size, h, plainR, flatV, toList_bs]

/-! ### words -/
def wordsL : List (List UInt8) := [[114, 101, 99, 111, 114, 100], [103, 108, 111, 98, 97, 108], [102, 117, 110], [116, 104, 114, 101, 97, 100], [108, 101, 116], [118, 97, 114], [115, 101, 116], [112, 114, 105, 110, 116], [105, 102], [101, 108, 115, 101], [108, 111, 111, 112], [98, 114, 101, 97, 107], [99, 111, 110, 116, 105, 110, 117, 101], [97, 116, 111, 109, 105, 99], [99, 97, 108, 108], [108, 111, 97, 100], [110, 101, 119], [115, 105, 122, 101], [105, 110, 116], [114, 101, 97, 108], [105, 110, 116, 115], [110, 105, 108], [105, 110, 112, 117, 116], [116, 114, 117, 110, 99]]
def wordB (l : List UInt8) : Bool := wordsL.contains l
theorem wordsL_ok : ∀ w ∈ wordsL, (∀ c ∈ w, c ≠ 32) ∧ w ≠ [] := by decide
theorem words_join : ([32, 114, 101, 99, 111, 114, 100, 32, 103, 108, 111, 98, 97, 108, 32, 102, 117, 110, 32, 116, 104, 114, 101, 97, 100, 32, 108, 101, 116, 32, 118, 97, 114, 32, 115, 101, 116, 32, 112, 114, 105, 110, 116, 32, 105, 102, 32, 101, 108, 115, 101, 32, 108, 111, 111, 112, 32, 98, 114, 101, 97, 107, 32, 99, 111, 110, 116, 105, 110, 117, 101, 32, 97, 116, 111, 109, 105, 99, 32, 99, 97, 108, 108, 32, 108, 111, 97, 100, 32, 110, 101, 119, 32, 115, 105, 122, 101, 32, 105, 110, 116, 32, 114, 101, 97, 108, 32, 105, 110, 116, 115, 32, 110, 105, 108, 32, 105, 110, 112, 117, 116, 32, 116, 114, 117, 110, 99, 32] : List UInt8) = 32 :: joinW wordsL := by decide
set_option maxRecDepth 10000 in
theorem words_len : (32 :: joinW wordsL).length = 128 := by decide
theorem wordB_law (l : List UInt8) : wordB l = (!decide (l = []) && !l.contains 32 && Lib.contains (32 :: joinW wordsL) (32 :: (l ++ [32]))) := by
  by_cases h0 : l = []
  · subst h0; simp [wordB]; decide
  by_cases h1 : l.contains 32 = true
  · have : wordB l = false := by
      cases h : wordB l with
      | false => rfl
      | true =>
        have hm : l ∈ wordsL := by simpa [wordB] using h
        have hc : (32 : UInt8) ∈ l := by simpa using h1
        exact absurd rfl ((wordsL_ok l hm).1 32 hc)
    have hm1 : (32 : UInt8) ∈ l := by simpa using h1
    simp [this, hm1]
  · have h2 : ∀ c ∈ l, c ≠ 32 := fun c hc e => h1 (by subst e; simpa using hc)
    rw [contains_words h2 wordsL fun w hw => (wordsL_ok w hw).1]
    have hm1 : (32 : UInt8) ∉ l := by simpa using h1
    simp [wordB, h0, hm1]
theorem F14_ev {l : List UInt8} (h : l.length < 2147483648) (st : St) : E L (.func 14) [str l] st = some (.v (.bool (wordB l)), st) := by
  rw [S14_eq]
  obtain ⟨N, hN⟩ : ∃ q, st.stk.length = q := ⟨_, rfl⟩
  obtain ⟨T, hT⟩ : ∃ q, st.tk.length = q := ⟨_, rfl⟩
  obtain ⟨Lb, hL⟩ : ∃ q, st.lp.length = q := ⟨_, rfl⟩
  conv => lhs; rw [← app_nil (st)]
  have e1 : ∀ X : St, E L (.func 22) [str l, str [32]] X = some (.v (.bool (l.contains 32)), X) := fun X => by rw [F22_ev (by omega), contains_one]
  have e2 : ∀ X : St, E L (.func 22) [str (32 :: joinW wordsL), str (32 :: (l ++ [32]))] X = some (.v (.bool (Lib.contains (32 :: joinW wordsL) (32 :: (l ++ [32])))), X) := fun X => by rw [F22_ev (by rw [words_len]; omega)]
  have e3 : aBin Tryd.prog true .add 9 (str [32]) (str l) = some (str (32 :: l)) := by rw [str_add _ _ _ _ _ (by simp [bs_size]; omega), bs_append]; rfl
  have e4 : aBin Tryd.prog true .add 9 (str (32 :: l)) (str [32]) = some (str (32 :: (l ++ [32]))) := by rw [str_add _ _ _ _ _ (by simp [bs_size]; omega), bs_append]; rfl
  have e5 : (bs l = bs []) = (l = []) := propext bs_inj
  rw [wordB_law]
  by_cases h0 : l = [] <;> cases h1 : l.contains 32 <;> simp only [S14, mk_bs, List.toList_toArray, words_join, canon_v, canon_sl, canon_clo, canon_ptr, need_refl, elems_sl, sf_v, sf_sl, sf_ptr, sf_ptrh, sf_clo, sf_dead, sf_nil, sf_full, sf_fr, need_true, ibeq, beq_ba, nbeq, nble, nblt, AM.nth, List.getD_cons_succ, List.getD_cons_zero, Option.bind_some, Option.bind_none, Option.map_some, onBool, AM.onG, onFn, seqK, retK, Ex.outOf, cond_true, cond_false, bin_lss, bin_leq, bin_gtr, bin_geq, bin_eql, bin_neq, bin_add, bin_sub, bin_mul, un_not, str_eql, str_neq, app_push, load_fp, AM.ownPut, AM.cellsOf, AM.shift, aPick, beq_true, okSz, List.length_cons, List.length_nil, Nat.zero_add, Nat.add_zero, Nat.reduceAdd, decide_true, decide_false, Bool.and_true, Bool.true_and, Bool.and_self, Bool.not_true, Bool.not_false, List.getElem?_cons_zero, List.getElem?_cons_succ, List.nil_append, List.cons_append, max_int, min_int, modify_concat, part1, List.take_succ_cons, List.take_left, List.take_zero, List.take_nil, app_stk, app_tk, app_lp, set_stk, set_tk, set_lp, set_set, n_load, n_load0, n_old, n_store, n_store0, n_store_old, n_leave, n_leave0, n_fin_v, n_fin_sl, n_fin_u, n_back, n_next, n_blk, n_blk0, n_set, n_set0, n_set_old, bs_size, bs_inj, mk_bs, noPan, onRet, hN, hT, hL, List.toList_toArray, aNilCheck, AM.aExtract, canon, canonA, canonC, List.map_cons, List.map_nil, List.modify_zero_cons, List.modify_succ_cons, AM.part, List.drop_zero, List.drop_succ_cons, List.drop_nil, n_fin_tup, n_fin_agg, flatA, flatA.flatD, AM.flatC, List.all_cons, List.all_nil, e1, e2, e3, e4, h0, h1]
  all_goals rfl

/-! ### names -/
def letB (c : UInt8) : Bool := letR (c.toNat : Int)
def digB (c : UInt8) : Bool := digR (c.toNat : Int)
def alnB (c : UInt8) : Bool := letB c || digB c
def okAt (i : Nat) (c : UInt8) : Bool := letB c || (!decide (i = 0) && digB c)
def nameP : List UInt8 → Bool
  | [] => true
  | c :: r => letB c && r.all alnB
def nameB (l : List UInt8) : Bool := !decide (l = []) && nameP l && !wordB l
theorem nameP_iff (l : List UInt8) : nameP l = true ↔ ∀ i (h : i < l.length), okAt i l[i] = true := by
  cases l with
  | nil => simp [nameP]
  | cons c r =>
    simp only [nameP, Bool.and_eq_true, List.all_eq_true]
    constructor
    · rintro ⟨h1, h2⟩ i hi
      cases i with
      | zero => simp [okAt, h1]
      | succ i =>
        have := h2 (r[i]'(by simpa using hi)) (List.getElem_mem _)
        simpa [okAt, alnB] using this
    · intro h
      refine ⟨by have := h 0 (by simp); rw [List.getElem_cons_zero] at this; simpa [okAt] using this, fun x hx => ?_⟩
      obtain ⟨i, hi, rfl⟩ := List.mem_iff_getElem.1 hx
      have := h (i + 1) (by simpa using hi)
      rw [List.getElem_cons_succ] at this
      simpa [okAt, alnB] using this
theorem let_high {n : Int} (h : 128 ≤ n) : letR n = false := by simp [letR]; omega
theorem dig_high {n : Int} (h : 128 ≤ n) : digR n = false := by simp [digR]; omega
theorem name_loop {l : List UInt8} (hlen : l.length < 4611686018427387904) {X : St} {N T Lb : Nat} (hN : X.stk.length = N) (hT : X.tk.length = T) (hL : X.lp.length = Lb) : ∀ (k pos : Nat), l.length - pos = k → pos ≤ l.length → (∀ j (hj : j < l.length), j < pos → okAt j l[j] = true) →
    ∃ pos', itE (S13.b0 (E L) itE N Lb) [str l, .v (.bool false), .it Lb] (X.app [] [] [.iter (bs l) pos]) = some (bif nameP l then .exit 0 else .ret, [str l, .v (.bool false), .it Lb], X.app [] [] [.iter (bs l) pos']) := by
  intro k
  induction k using Nat.strongRecOn with
  | ind k ih =>
  intro pos hk hp hall
  by_cases hlt : pos < l.length
  · by_cases hb : l[pos].toNat < 128
    · have hd := AM.decode_ascii hlt hb
      have h0 : ((pos : Int) = 0) = (pos = 0) := propext (by omega)
      by_cases hq : okAt pos l[pos] = true
      · obtain ⟨pos', h1⟩ := ih (l.length - (pos + 1)) (by omega) (pos + 1) rfl (by omega) (fun j hj hj' => by
          by_cases hjp : j = pos
          · subst hjp; exact hq
          · exact hall j hj (by omega))
        refine ⟨pos', ?_⟩
        rw [it_step (vs' := [str l, .v (.bool false), .it Lb]) (st' := X.app [] [] [.iter (bs l) (pos + 1)])]
        · exact h1
        · simp only [okAt, letB, digB] at hq
          cases hl : letR (l[pos].toNat : Int) with
          | true => simp [S13.b0, canon_v, canon_sl, canon_clo, canon_ptr, need_refl, elems_sl, sf_v, sf_sl, sf_ptr, sf_ptrh, sf_clo, sf_dead, sf_nil, sf_full, sf_fr, need_true, ibeq, beq_ba, nbeq, nble, nblt, AM.nth, List.getD_cons_succ, List.getD_cons_zero, Option.bind_some, Option.bind_none, Option.map_some, onBool, AM.onG, onFn, seqK, retK, Ex.outOf, cond_true, cond_false, bin_lss, bin_leq, bin_gtr, bin_geq, bin_eql, bin_neq, bin_add, bin_sub, bin_mul, un_not, str_eql, str_neq, app_push, load_fp, AM.ownPut, AM.cellsOf, AM.shift, aPick, beq_true, okSz, List.length_cons, List.length_nil, Nat.zero_add, Nat.add_zero, Nat.reduceAdd, decide_true, decide_false, Bool.and_true, Bool.true_and, Bool.and_self, Bool.not_true, Bool.not_false, List.getElem?_cons_zero, List.getElem?_cons_succ, List.nil_append, List.cons_append, max_int, min_int, modify_concat, part1, List.take_succ_cons, List.take_left, List.take_zero, List.take_nil, app_stk, app_tk, app_lp, set_stk, set_tk, set_lp, set_set, n_load, n_load0, n_old, n_store, n_store0, n_store_old, n_leave, n_leave0, n_fin_v, n_fin_sl, n_fin_u, n_back, n_next, n_blk, n_blk0, n_set, n_set0, n_set_old, bs_size, bs_inj, mk_bs, noPan, onRet, hN, hT, hL, List.toList_toArray, aNilCheck, AM.aExtract, canon, canonA, canonC, List.map_cons, List.map_nil, List.modify_zero_cons, List.modify_succ_cons, AM.part, List.drop_zero, List.drop_succ_cons, List.drop_nil, n_fin_tup, n_fin_agg, flatA, flatA.flatD, AM.flatC, List.all_cons, List.all_nil, hlt, hd, F20_ev, F21_ev, hl]
          | false =>
            rw [hl] at hq
            simp only [Bool.false_or, Bool.and_eq_true, Bool.not_eq_true', decide_eq_false_iff_not] at hq
            simp [S13.b0, canon_v, canon_sl, canon_clo, canon_ptr, need_refl, elems_sl, sf_v, sf_sl, sf_ptr, sf_ptrh, sf_clo, sf_dead, sf_nil, sf_full, sf_fr, need_true, ibeq, beq_ba, nbeq, nble, nblt, AM.nth, List.getD_cons_succ, List.getD_cons_zero, Option.bind_some, Option.bind_none, Option.map_some, onBool, AM.onG, onFn, seqK, retK, Ex.outOf, cond_true, cond_false, bin_lss, bin_leq, bin_gtr, bin_geq, bin_eql, bin_neq, bin_add, bin_sub, bin_mul, un_not, str_eql, str_neq, app_push, load_fp, AM.ownPut, AM.cellsOf, AM.shift, aPick, beq_true, okSz, List.length_cons, List.length_nil, Nat.zero_add, Nat.add_zero, Nat.reduceAdd, decide_true, decide_false, Bool.and_true, Bool.true_and, Bool.and_self, Bool.not_true, Bool.not_false, List.getElem?_cons_zero, List.getElem?_cons_succ, List.nil_append, List.cons_append, max_int, min_int, modify_concat, part1, List.take_succ_cons, List.take_left, List.take_zero, List.take_nil, app_stk, app_tk, app_lp, set_stk, set_tk, set_lp, set_set, n_load, n_load0, n_old, n_store, n_store0, n_store_old, n_leave, n_leave0, n_fin_v, n_fin_sl, n_fin_u, n_back, n_next, n_blk, n_blk0, n_set, n_set0, n_set_old, bs_size, bs_inj, mk_bs, noPan, onRet, hN, hT, hL, List.toList_toArray, aNilCheck, AM.aExtract, canon, canonA, canonC, List.map_cons, List.map_nil, List.modify_zero_cons, List.modify_succ_cons, AM.part, List.drop_zero, List.drop_succ_cons, List.drop_nil, n_fin_tup, n_fin_agg, flatA, flatA.flatD, AM.flatC, List.all_cons, List.all_nil, hlt, hd, F20_ev, F21_ev, hl, h0, hq.1, hq.2]
      · have hn : nameP l = false := by
          cases h : nameP l with
          | false => rfl
          | true => exact absurd ((nameP_iff l).1 h pos hlt) hq
        refine ⟨pos + 1, ?_⟩
        rw [hn, cond_false]
        apply it_ret
        simp only [okAt, letB, digB, Bool.or_eq_true, not_or, Bool.not_eq_true] at hq
        by_cases hz : pos = 0
        · subst hz
          simp [S13.b0, canon_v, canon_sl, canon_clo, canon_ptr, need_refl, elems_sl, sf_v, sf_sl, sf_ptr, sf_ptrh, sf_clo, sf_dead, sf_nil, sf_full, sf_fr, need_true, ibeq, beq_ba, nbeq, nble, nblt, AM.nth, List.getD_cons_succ, List.getD_cons_zero, Option.bind_some, Option.bind_none, Option.map_some, onBool, AM.onG, onFn, seqK, retK, Ex.outOf, cond_true, cond_false, bin_lss, bin_leq, bin_gtr, bin_geq, bin_eql, bin_neq, bin_add, bin_sub, bin_mul, un_not, str_eql, str_neq, app_push, load_fp, AM.ownPut, AM.cellsOf, AM.shift, aPick, beq_true, okSz, List.length_cons, List.length_nil, Nat.zero_add, Nat.add_zero, Nat.reduceAdd, decide_true, decide_false, Bool.and_true, Bool.true_and, Bool.and_self, Bool.not_true, Bool.not_false, List.getElem?_cons_zero, List.getElem?_cons_succ, List.nil_append, List.cons_append, max_int, min_int, modify_concat, part1, List.take_succ_cons, List.take_left, List.take_zero, List.take_nil, app_stk, app_tk, app_lp, set_stk, set_tk, set_lp, set_set, n_load, n_load0, n_old, n_store, n_store0, n_store_old, n_leave, n_leave0, n_fin_v, n_fin_sl, n_fin_u, n_back, n_next, n_blk, n_blk0, n_set, n_set0, n_set_old, bs_size, bs_inj, mk_bs, noPan, onRet, hN, hT, hL, List.toList_toArray, aNilCheck, AM.aExtract, canon, canonA, canonC, List.map_cons, List.map_nil, List.modify_zero_cons, List.modify_succ_cons, AM.part, List.drop_zero, List.drop_succ_cons, List.drop_nil, n_fin_tup, n_fin_agg, flatA, flatA.flatD, AM.flatC, List.all_cons, List.all_nil, hlt, hd, F20_ev, F21_ev, hq.1]
        · have hq2 := hq.2
          simp only [hz, decide_false, Bool.not_false, Bool.true_and] at hq2
          simp [S13.b0, canon_v, canon_sl, canon_clo, canon_ptr, need_refl, elems_sl, sf_v, sf_sl, sf_ptr, sf_ptrh, sf_clo, sf_dead, sf_nil, sf_full, sf_fr, need_true, ibeq, beq_ba, nbeq, nble, nblt, AM.nth, List.getD_cons_succ, List.getD_cons_zero, Option.bind_some, Option.bind_none, Option.map_some, onBool, AM.onG, onFn, seqK, retK, Ex.outOf, cond_true, cond_false, bin_lss, bin_leq, bin_gtr, bin_geq, bin_eql, bin_neq, bin_add, bin_sub, bin_mul, un_not, str_eql, str_neq, app_push, load_fp, AM.ownPut, AM.cellsOf, AM.shift, aPick, beq_true, okSz, List.length_cons, List.length_nil, Nat.zero_add, Nat.add_zero, Nat.reduceAdd, decide_true, decide_false, Bool.and_true, Bool.true_and, Bool.and_self, Bool.not_true, Bool.not_false, List.getElem?_cons_zero, List.getElem?_cons_succ, List.nil_append, List.cons_append, max_int, min_int, modify_concat, part1, List.take_succ_cons, List.take_left, List.take_zero, List.take_nil, app_stk, app_tk, app_lp, set_stk, set_tk, set_lp, set_set, n_load, n_load0, n_old, n_store, n_store0, n_store_old, n_leave, n_leave0, n_fin_v, n_fin_sl, n_fin_u, n_back, n_next, n_blk, n_blk0, n_set, n_set0, n_set_old, bs_size, bs_inj, mk_bs, noPan, onRet, hN, hT, hL, List.toList_toArray, aNilCheck, AM.aExtract, canon, canonA, canonC, List.map_cons, List.map_nil, List.modify_zero_cons, List.modify_succ_cons, AM.part, List.drop_zero, List.drop_succ_cons, List.drop_nil, n_fin_tup, n_fin_agg, flatA, flatA.flatD, AM.flatC, List.all_cons, List.all_nil, hlt, hd, F20_ev, F21_ev, hq.1, h0, hz, hq2]
    · have hb' : 128 ≤ l[pos].toNat := by omega
      obtain ⟨hh1, hh2, hh3, hh4, hh5⟩ := AM.decode_high hlt hb'
      have hn : nameP l = false := by
        cases h : nameP l with
        | false => rfl
        | true =>
          have := (nameP_iff l).1 h pos hlt
          simp [okAt, letB, digB, let_high (show (128 : Int) ≤ (l[pos].toNat : Int) by omega), dig_high (show (128 : Int) ≤ (l[pos].toNat : Int) by omega)] at this
      refine ⟨pos + (Utf8.decode (bs l) pos).2, ?_⟩
      rw [hn, cond_false]
      apply it_ret
      have e1 := let_high (show (128 : Int) ≤ ((Utf8.decode (bs l) pos).1 : Int) by omega)
      have e2 := dig_high (show (128 : Int) ≤ ((Utf8.decode (bs l) pos).1 : Int) by omega)
      have h0 : ((pos : Int) = 0) = (pos = 0) := propext (by omega)
      by_cases hz : pos = 0
      · subst hz
        simp [S13.b0, canon_v, canon_sl, canon_clo, canon_ptr, need_refl, elems_sl, sf_v, sf_sl, sf_ptr, sf_ptrh, sf_clo, sf_dead, sf_nil, sf_full, sf_fr, need_true, ibeq, beq_ba, nbeq, nble, nblt, AM.nth, List.getD_cons_succ, List.getD_cons_zero, Option.bind_some, Option.bind_none, Option.map_some, onBool, AM.onG, onFn, seqK, retK, Ex.outOf, cond_true, cond_false, bin_lss, bin_leq, bin_gtr, bin_geq, bin_eql, bin_neq, bin_add, bin_sub, bin_mul, un_not, str_eql, str_neq, app_push, load_fp, AM.ownPut, AM.cellsOf, AM.shift, aPick, beq_true, okSz, List.length_cons, List.length_nil, Nat.zero_add, Nat.add_zero, Nat.reduceAdd, decide_true, decide_false, Bool.and_true, Bool.true_and, Bool.and_self, Bool.not_true, Bool.not_false, List.getElem?_cons_zero, List.getElem?_cons_succ, List.nil_append, List.cons_append, max_int, min_int, modify_concat, part1, List.take_succ_cons, List.take_left, List.take_zero, List.take_nil, app_stk, app_tk, app_lp, set_stk, set_tk, set_lp, set_set, n_load, n_load0, n_old, n_store, n_store0, n_store_old, n_leave, n_leave0, n_fin_v, n_fin_sl, n_fin_u, n_back, n_next, n_blk, n_blk0, n_set, n_set0, n_set_old, bs_size, bs_inj, mk_bs, noPan, onRet, hN, hT, hL, List.toList_toArray, aNilCheck, AM.aExtract, canon, canonA, canonC, List.map_cons, List.map_nil, List.modify_zero_cons, List.modify_succ_cons, AM.part, List.drop_zero, List.drop_succ_cons, List.drop_nil, n_fin_tup, n_fin_agg, flatA, flatA.flatD, AM.flatC, List.all_cons, List.all_nil, hlt, F20_ev, F21_ev, e1, e2]
      · simp [S13.b0, canon_v, canon_sl, canon_clo, canon_ptr, need_refl, elems_sl, sf_v, sf_sl, sf_ptr, sf_ptrh, sf_clo, sf_dead, sf_nil, sf_full, sf_fr, need_true, ibeq, beq_ba, nbeq, nble, nblt, AM.nth, List.getD_cons_succ, List.getD_cons_zero, Option.bind_some, Option.bind_none, Option.map_some, onBool, AM.onG, onFn, seqK, retK, Ex.outOf, cond_true, cond_false, bin_lss, bin_leq, bin_gtr, bin_geq, bin_eql, bin_neq, bin_add, bin_sub, bin_mul, un_not, str_eql, str_neq, app_push, load_fp, AM.ownPut, AM.cellsOf, AM.shift, aPick, beq_true, okSz, List.length_cons, List.length_nil, Nat.zero_add, Nat.add_zero, Nat.reduceAdd, decide_true, decide_false, Bool.and_true, Bool.true_and, Bool.and_self, Bool.not_true, Bool.not_false, List.getElem?_cons_zero, List.getElem?_cons_succ, List.nil_append, List.cons_append, max_int, min_int, modify_concat, part1, List.take_succ_cons, List.take_left, List.take_zero, List.take_nil, app_stk, app_tk, app_lp, set_stk, set_tk, set_lp, set_set, n_load, n_load0, n_old, n_store, n_store0, n_store_old, n_leave, n_leave0, n_fin_v, n_fin_sl, n_fin_u, n_back, n_next, n_blk, n_blk0, n_set, n_set0, n_set_old, bs_size, bs_inj, mk_bs, noPan, onRet, hN, hT, hL, List.toList_toArray, aNilCheck, AM.aExtract, canon, canonA, canonC, List.map_cons, List.map_nil, List.modify_zero_cons, List.modify_succ_cons, AM.part, List.drop_zero, List.drop_succ_cons, List.drop_nil, n_fin_tup, n_fin_agg, flatA, flatA.flatD, AM.flatC, List.all_cons, List.all_nil, hlt, F20_ev, F21_ev, e1, e2, h0, hz]
  · have hn : nameP l = true := (nameP_iff l).2 fun i hi => hall i hi (by omega)
    refine ⟨pos, ?_⟩
    rw [hn, cond_true]
    apply it_exit
    simp [S13.b0, canon_v, canon_sl, canon_clo, canon_ptr, need_refl, elems_sl, sf_v, sf_sl, sf_ptr, sf_ptrh, sf_clo, sf_dead, sf_nil, sf_full, sf_fr, need_true, ibeq, beq_ba, nbeq, nble, nblt, AM.nth, List.getD_cons_succ, List.getD_cons_zero, Option.bind_some, Option.bind_none, Option.map_some, onBool, AM.onG, onFn, seqK, retK, Ex.outOf, cond_true, cond_false, bin_lss, bin_leq, bin_gtr, bin_geq, bin_eql, bin_neq, bin_add, bin_sub, bin_mul, un_not, str_eql, str_neq, app_push, load_fp, AM.ownPut, AM.cellsOf, AM.shift, aPick, beq_true, okSz, List.length_cons, List.length_nil, Nat.zero_add, Nat.add_zero, Nat.reduceAdd, decide_true, decide_false, Bool.and_true, Bool.true_and, Bool.and_self, Bool.not_true, Bool.not_false, List.getElem?_cons_zero, List.getElem?_cons_succ, List.nil_append, List.cons_append, max_int, min_int, modify_concat, part1, List.take_succ_cons, List.take_left, List.take_zero, List.take_nil, app_stk, app_tk, app_lp, set_stk, set_tk, set_lp, set_set, n_load, n_load0, n_old, n_store, n_store0, n_store_old, n_leave, n_leave0, n_fin_v, n_fin_sl, n_fin_u, n_back, n_next, n_blk, n_blk0, n_set, n_set0, n_set_old, bs_size, bs_inj, mk_bs, noPan, onRet, hN, hT, hL, List.toList_toArray, aNilCheck, AM.aExtract, canon, canonA, canonC, List.map_cons, List.map_nil, List.modify_zero_cons, List.modify_succ_cons, AM.part, List.drop_zero, List.drop_succ_cons, List.drop_nil, n_fin_tup, n_fin_agg, flatA, flatA.flatD, AM.flatC, List.all_cons, List.all_nil, hlt]
theorem F13_ev {l : List UInt8} (h : l.length < 2147483648) (st : St) : E L (.func 13) [str l] st = some (.v (.bool (nameB l)), st) := by
  rw [S13_eq]
  obtain ⟨N, hN⟩ : ∃ q, st.stk.length = q := ⟨_, rfl⟩
  obtain ⟨T, hT⟩ : ∃ q, st.tk.length = q := ⟨_, rfl⟩
  obtain ⟨Lb, hL⟩ : ∃ q, st.lp.length = q := ⟨_, rfl⟩
  conv => lhs; rw [← app_nil (st)]
  have hr : ∀ X : St, X.lp.length = Lb → aRange Tryd.prog 9 (str l) (X.app [] [] []) = some (.it Lb, X.app [] [] [.iter (bs l) 0]) := fun X h => n_range [] [] [] (by kernel_rfl) (bs l) h
  obtain ⟨pos', h1⟩ := name_loop (l := l) (by omega) hN hT hL l.length 0 rfl (by omega) (fun j hj h => absurd h (by omega))
  have hw : ∀ X : St, E L (.func 14) [str l] X = some (.v (.bool (wordB l)), X) := F14_ev h
  cases hn : nameP l with
  | true =>
    rw [hn, cond_true] at h1
    by_cases h0 : l = []
    · subst h0
      simp [S13, canon_v, canon_sl, canon_clo, canon_ptr, need_refl, elems_sl, sf_v, sf_sl, sf_ptr, sf_ptrh, sf_clo, sf_dead, sf_nil, sf_full, sf_fr, need_true, ibeq, beq_ba, nbeq, nble, nblt, AM.nth, List.getD_cons_succ, List.getD_cons_zero, Option.bind_some, Option.bind_none, Option.map_some, onBool, AM.onG, onFn, seqK, retK, Ex.outOf, cond_true, cond_false, bin_lss, bin_leq, bin_gtr, bin_geq, bin_eql, bin_neq, bin_add, bin_sub, bin_mul, un_not, str_eql, str_neq, app_push, load_fp, AM.ownPut, AM.cellsOf, AM.shift, aPick, beq_true, okSz, List.length_cons, List.length_nil, Nat.zero_add, Nat.add_zero, Nat.reduceAdd, decide_true, decide_false, Bool.and_true, Bool.true_and, Bool.and_self, Bool.not_true, Bool.not_false, List.getElem?_cons_zero, List.getElem?_cons_succ, List.nil_append, List.cons_append, max_int, min_int, modify_concat, part1, List.take_succ_cons, List.take_left, List.take_zero, List.take_nil, app_stk, app_tk, app_lp, set_stk, set_tk, set_lp, set_set, n_load, n_load0, n_old, n_store, n_store0, n_store_old, n_leave, n_leave0, n_fin_v, n_fin_sl, n_fin_u, n_back, n_next, n_blk, n_blk0, n_set, n_set0, n_set_old, bs_size, bs_inj, mk_bs, noPan, onRet, hN, hT, hL, List.toList_toArray, aNilCheck, AM.aExtract, canon, canonA, canonC, List.map_cons, List.map_nil, List.modify_zero_cons, List.modify_succ_cons, AM.part, List.drop_zero, List.drop_succ_cons, List.drop_nil, n_fin_tup, n_fin_agg, flatA, flatA.flatD, AM.flatC, List.all_cons, List.all_nil, hr, h1, nameB]
    · simp [S13, canon_v, canon_sl, canon_clo, canon_ptr, need_refl, elems_sl, sf_v, sf_sl, sf_ptr, sf_ptrh, sf_clo, sf_dead, sf_nil, sf_full, sf_fr, need_true, ibeq, beq_ba, nbeq, nble, nblt, AM.nth, List.getD_cons_succ, List.getD_cons_zero, Option.bind_some, Option.bind_none, Option.map_some, onBool, AM.onG, onFn, seqK, retK, Ex.outOf, cond_true, cond_false, bin_lss, bin_leq, bin_gtr, bin_geq, bin_eql, bin_neq, bin_add, bin_sub, bin_mul, un_not, str_eql, str_neq, app_push, load_fp, AM.ownPut, AM.cellsOf, AM.shift, aPick, beq_true, okSz, List.length_cons, List.length_nil, Nat.zero_add, Nat.add_zero, Nat.reduceAdd, decide_true, decide_false, Bool.and_true, Bool.true_and, Bool.and_self, Bool.not_true, Bool.not_false, List.getElem?_cons_zero, List.getElem?_cons_succ, List.nil_append, List.cons_append, max_int, min_int, modify_concat, part1, List.take_succ_cons, List.take_left, List.take_zero, List.take_nil, app_stk, app_tk, app_lp, set_stk, set_tk, set_lp, set_set, n_load, n_load0, n_old, n_store, n_store0, n_store_old, n_leave, n_leave0, n_fin_v, n_fin_sl, n_fin_u, n_back, n_next, n_blk, n_blk0, n_set, n_set0, n_set_old, bs_size, bs_inj, mk_bs, noPan, onRet, hN, hT, hL, List.toList_toArray, aNilCheck, AM.aExtract, canon, canonA, canonC, List.map_cons, List.map_nil, List.modify_zero_cons, List.modify_succ_cons, AM.part, List.drop_zero, List.drop_succ_cons, List.drop_nil, n_fin_tup, n_fin_agg, flatA, flatA.flatD, AM.flatC, List.all_cons, List.all_nil, hr, h1, nameB, h0, hn, hw]
  | false =>
    rw [hn, cond_false] at h1
    simp [S13, canon_v, canon_sl, canon_clo, canon_ptr, need_refl, elems_sl, sf_v, sf_sl, sf_ptr, sf_ptrh, sf_clo, sf_dead, sf_nil, sf_full, sf_fr, need_true, ibeq, beq_ba, nbeq, nble, nblt, AM.nth, List.getD_cons_succ, List.getD_cons_zero, Option.bind_some, Option.bind_none, Option.map_some, onBool, AM.onG, onFn, seqK, retK, Ex.outOf, cond_true, cond_false, bin_lss, bin_leq, bin_gtr, bin_geq, bin_eql, bin_neq, bin_add, bin_sub, bin_mul, un_not, str_eql, str_neq, app_push, load_fp, AM.ownPut, AM.cellsOf, AM.shift, aPick, beq_true, okSz, List.length_cons, List.length_nil, Nat.zero_add, Nat.add_zero, Nat.reduceAdd, decide_true, decide_false, Bool.and_true, Bool.true_and, Bool.and_self, Bool.not_true, Bool.not_false, List.getElem?_cons_zero, List.getElem?_cons_succ, List.nil_append, List.cons_append, max_int, min_int, modify_concat, part1, List.take_succ_cons, List.take_left, List.take_zero, List.take_nil, app_stk, app_tk, app_lp, set_stk, set_tk, set_lp, set_set, n_load, n_load0, n_old, n_store, n_store0, n_store_old, n_leave, n_leave0, n_fin_v, n_fin_sl, n_fin_u, n_back, n_next, n_blk, n_blk0, n_set, n_set0, n_set_old, bs_size, bs_inj, mk_bs, noPan, onRet, hN, hT, hL, List.toList_toArray, aNilCheck, AM.aExtract, canon, canonA, canonC, List.map_cons, List.map_nil, List.modify_zero_cons, List.modify_succ_cons, AM.part, List.drop_zero, List.drop_succ_cons, List.drop_nil, n_fin_tup, n_fin_agg, flatA, flatA.flatD, AM.flatC, List.all_cons, List.all_nil, hr, h1, nameB, hn]
end Go.Proofs.YtbbaalimilcppaaDoor.S
