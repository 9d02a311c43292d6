/- Part 4 of the proof of a law of the parser, its names made short by a program. No condition. -/
import Derived.Test.YtlhlijaondmccaaGreatDoorI3
import Derived.KernelRfl
import Derived.Test.YtlhlijaondmccaaGreatDoorProg
import Derived.Shelf.Small.Utf8
import Derived.Shelf.Small.Strs
import Derived.Shelf.Strconv.Itoa0
import Derived.Shelf.Strconv.Itoa1
import Derived.Shelf.LaysM
import Derived.Shelf.Strconv.Itoa2
import Derived.Shelf.Strconv.Itoa3
import Derived.Shelf.Strconv.Clone
import Derived.Shelf.Strconv.SyntaxError
import Derived.Shelf.LaysC
import Derived.Shelf.Strconv.ToError
import Derived.Shelf.Strconv.RangeError
import Derived.Shelf.Strconv.ToErrorRange
import Derived.Shelf.Strings.Search1
import Derived.Shelf.Strings.Search2
import Derived.Shelf.Strings.Search3
import Derived.Shelf.Strings.Shaped
import Derived.Shelf.Strings.Runes
import Derived.Shelf.Strings.IndexAny
import Derived.Shelf.Strings.AsciiSet
import Derived.Shelf.Strings.IndexAnyAll
import Derived.Test.YtlhlijaondmccaaGreatDoorChecked
import Derived.Lib.Walk
import Derived.Lib.ItoaMem
import Derived.Lib.QuietBelow
import Derived.WalkKit
import Derived.ProofKit
import Derived.BigCall
import Derived.BigGuard
import Derived.Below
import Derived.WalkSmall
set_option linter.all false
set_option maxRecDepth 100000
set_option maxHeartbeats 4000000
open _root_.Array renaming getElem?_toList → gR
open _root_.Bool renaming and_self → bu, and_true → bF, not_false → bg, not_true → bD, true_and → bE
open _root_.List renaming all_cons → bG, all_eq_true → dM, all_nil → cg, cons_append → al, drop_nil → cf, drop_succ_cons → aQ, drop_zero → br, getD_cons_succ → aR, getD_cons_zero → aS, getElem?_cons_succ → az, getElem?_cons_zero → aB, getElem?_eq_getElem → dL, length_cons → ah, length_nil → ay, map_cons → bc, map_nil → bh, mem_of_getElem? → eu, modify_succ_cons → aO, modify_zero_cons → aP, nil_append → aU, take_left → bI, take_nil → bR, take_succ_cons → aA, take_zero → ba, toList_toArray → aX
open _root_.Nat renaming add_zero → bz, beq → ak, eq_of_beq_eq_true → ax, le_refl → aq, reduceAdd → bT, zero_add → bj
open _root_.Option renaming bind_none → bf, bind_some → aj, map_some → aN
namespace Go.Proofs.YtlhlijaondmccaaGreatDoor.S
open Go Go.AM Go.Proofs
noncomputable def Bw (call : bB) (it : bO) (a0 : PV) (st : St) : Option (PV × St) :=
let q2 : PV := .ptr false st.stk.length 0
let st1 := st.push [.v (.int .i64 0), .v (.string ⟨#[]⟩), .v (.int .u64 0), .v (.int .i64 0), .v (.int .i64 0)]
(aI a0).bind fun p3 =>
(an p3 1).bind fun p4 =>
(ag false 1 p4 st1).bind fun p5 =>
aH (st1 = st1) <|
(aI a0).bind fun p6 =>
(an p6 2).bind fun p7 =>
(ag false 1 p7 st1).bind fun p8 =>
aH (st1 = st1) <|
(bq [(0, 1), (1, 1), (2, 1), (3, 1), (4, 1)] [.v (.int .i64 0), .v (.string ⟨#[]⟩), .v (.int .u64 0), .v (.int .i64 0), .v (.int .i64 0)] [(3, p5), (4, p8)]).bind fun p9 =>
let q11 : PV := .ptr false st1.stk.length 0
let st10 := st1.push [.v (.int .i64 0), .v (.string ⟨#[]⟩), .v (.int .u64 0), .v (.int .i64 0), .v (.int .i64 0)]
aH (((ag false 1 p7 st10).bind fun p12 =>
some (Rs.ret p12, st10)) = some (Rs.ret p8, st10)) <|
aH (((ag false 1 p4 st10).bind fun p13 =>
some (Rs.ret p13, st10)) = some (Rs.ret p5, st10)) <|
(av st.stk.length 5 q11 p9 st10).bind fun st14 =>
(call (.func 112) [ai a0, ai (PV.clo (.func 145) [])] st14).bind fun r15 =>
(call (.func 111) [ai a0, ai r15.1] r15.2).bind fun r16 =>
(an q11 1).bind fun p17 =>
(av st.stk.length 1 p17 r16.1 r16.2).bind fun st18 =>
(an q11 1).bind fun p19 =>
(ag false 1 p19 st18).bind fun p20 =>
(call (.func 146) [ai p20] st18).bind fun r21 =>
aE r21.1 fun b22 => (bif b22 then
(an q11 0).bind fun p24 =>
(av st.stk.length 1 p24 (PV.v (.int .i64 2)) r21.2).bind fun st25 =>
some (Ex.normal, [q2, (PV.v (.bool false)), q11], st25)
else
(an q11 1).bind fun p26 =>
(ag false 1 p26 r21.2).bind fun p27 =>
(call (.func 147) [ai p27] r21.2).bind fun r28 =>
aE r28.1 fun b29 => (bif b29 then
(an q11 0).bind fun p31 =>
(av st.stk.length 1 p31 (PV.v (.int .i64 1)) r28.2).bind fun st32 =>
some (Ex.normal, [q2, (PV.v (.bool false)), q11], st32)
else
(an q11 1).bind fun p33 =>
(ag false 1 p33 r28.2).bind fun p34 =>
(call (.func 148) [ai p34, ai (PV.v (.int .i64 10)), ai (PV.v (.int .i64 63))] r28.2).bind fun r35 =>
(aY r35.1 0).bind fun p36 =>
(aY r35.1 1).bind fun p37 =>
(an q11 0).bind fun p38 =>
(av st.stk.length 1 p38 (PV.v (.int .i64 3)) r35.2).bind fun st39 =>
(an q11 2).bind fun p40 =>
(av st.stk.length 1 p40 p36 st39).bind fun st41 =>
(ag true 5 q11 st41).bind fun p42 =>
aH (st41 = st41) <|
(aW Tryz.prog true .eql 128 p37 (PV.v (.nilIface))).bind fun p43 =>
(onG p43 true (
some (p36, st41)) st41).bind fun r45 =>
(onG p43 true (
(call (.func 31) [ai r45.1, ai (PV.v (.int .i64 10))] st41).bind fun r48 =>
some (r48.1, r48.2)) st41).bind fun r47 =>
aH (r47.2 = st41) <|
(onG p43 true (
(an q11 1).bind fun p51 =>
some (p51, st41)) st41).bind fun r50 =>
(onG p43 true (
(ag false 1 r50.1 st41).bind fun p54 =>
some (p54, st41)) st41).bind fun r53 =>
aH (r53.2 = st41) <|
(onG p43 true (
(aW Tryz.prog false .eql 9 r47.1 r53.1).bind fun p57 =>
some (p57, st41)) st41).bind fun r56 =>
(bX p43 r56.1 (PV.v (.bool false))).bind fun p58 =>
(av st.stk.length 5 q2 p42 st41).bind fun st59 =>
aH (((onG p43 true (
(ag false 1 r50.1 st59).bind fun p62 =>
some (p62, st59)) st59).bind fun r61 =>
some (Rs.ret r61.1, r61.2)) = some (Rs.ret r53.1, st59)) <|
some (Ex.ret, [q2, p58, q11], st59)).bind fun r30 =>
some (r30.1, [(ae r30.2.1 0), (ae r30.2.1 1), (ae r30.2.1 2)], r30.2.2)).bind fun r23 =>
bW (Ex.bn 0 r23.1) ((ag true 5 (ae r23.2.1 2) r23.2.2).bind fun p64 =>
(av st.stk.length 5 (ae r23.2.1 0) p64 r23.2.2).bind fun st65 =>
(ag true 5 (ae r23.2.1 0) st65).bind fun p66 =>
fin st.stk.length st.tk.length st.lp.length [p66, (PV.v (.bool true))] st65) fun x63 =>
ef x63 ((ag true 5 (ae r23.2.1 0) r23.2.2).bind fun p67 =>
fin st.stk.length st.tk.length st.lp.length [p67, (ae r23.2.1 1)] r23.2.2)
theorem DQ (a0 : PV) (st : St) : E L (.func 117) [a0] st = Bw (E L) itE a0 st := (bN (by kernel_rfl) Tryz.func117 _ _).trans (by kernel_rfl)
noncomputable def DR (call : bB) (it : bO) (a0 : PV) (st : St) : Option (PV × St) :=
let q2 : PV := .ptr false st.stk.length 0
let st1 := st.push [.v (.int .i64 0), .v (.string ⟨#[]⟩), .v (.int .u64 0), .v (.int .i64 0), .v (.int .i64 0)]
(aI a0).bind fun p3 =>
(an p3 1).bind fun p4 =>
(ag false 1 p4 st1).bind fun p5 =>
aH (st1 = st1) <|
(aI a0).bind fun p6 =>
(an p6 2).bind fun p7 =>
(ag false 1 p7 st1).bind fun p8 =>
aH (st1 = st1) <|
(bq [(0, 1), (1, 1), (2, 1), (3, 1), (4, 1)] [.v (.int .i64 0), .v (.string ⟨#[]⟩), .v (.int .u64 0), .v (.int .i64 0), .v (.int .i64 0)] [(0, (PV.v (.int .i64 4))), (3, p5), (4, p8)]).bind fun p9 =>
let q11 : PV := .ptr false st1.stk.length 0
let st10 := st1.push [.v (.int .i64 0), .v (.string ⟨#[]⟩), .v (.int .u64 0), .v (.int .i64 0), .v (.int .i64 0)]
aH (((ag false 1 p7 st10).bind fun p12 =>
some (Rs.ret p12, st10)) = some (Rs.ret p8, st10)) <|
aH (((ag false 1 p4 st10).bind fun p13 =>
some (Rs.ret p13, st10)) = some (Rs.ret p5, st10)) <|
(av st.stk.length 5 q11 p9 st10).bind fun st14 =>
(call (.func 111) [ai a0, ai (PV.v (.int .i64 1))] st14).bind fun r15 =>
(call (.func 112) [ai a0, ai (PV.clo (.func 149) [])] r15.2).bind fun r16 =>
(call (.func 111) [ai a0, ai r16.1] r16.2).bind fun r17 =>
(aW Tryz.prog true .add 9 (PV.v (.string ⟨#[35]⟩)) r17.1).bind fun p18 =>
(an q11 1).bind fun p19 =>
(av st.stk.length 1 p19 p18 r17.2).bind fun st20 =>
(an q11 1).bind fun p21 =>
(ag false 1 p21 st20).bind fun p22 =>
(ib Tryz.prog 9 p22 (some (PV.v (.int .i64 1))) none none).bind fun p23 =>
(call (.func 148) [ai p23, ai (PV.v (.int .i64 16)), ai (PV.v (.int .i64 64))] st20).bind fun r24 =>
(aY r24.1 0).bind fun p25 =>
(aY r24.1 1).bind fun p26 =>
(an q11 2).bind fun p27 =>
(av st.stk.length 1 p27 p25 r24.2).bind fun st28 =>
(ag true 5 q11 st28).bind fun p29 =>
aH (st28 = st28) <|
(aW Tryz.prog true .eql 128 p26 (PV.v (.nilIface))).bind fun p30 =>
(onG p30 true (
(an q11 1).bind fun p33 =>
some (p33, st28)) st28).bind fun r32 =>
(onG p30 true (
(ag false 1 r32.1 st28).bind fun p36 =>
some (p36, st28)) st28).bind fun r35 =>
aH (r35.2 = st28) <|
(onG p30 true (
(fR Tryz.prog 9 r35.1).bind fun p39 =>
some (p39, st28)) st28).bind fun r38 =>
(onG p30 true (
(aW Tryz.prog true .eql 3 r38.1 (PV.v (.int .i64 17))).bind fun p42 =>
some (p42, st28)) st28).bind fun r41 =>
(bX p30 r41.1 (PV.v (.bool false))).bind fun p43 =>
(onG p43 true (
(an q11 1).bind fun p46 =>
some (p46, st28)) st28).bind fun r45 =>
(onG p43 true (
(ag false 1 r45.1 st28).bind fun p49 =>
some (p49, st28)) st28).bind fun r48 =>
aH (r48.2 = st28) <|
(onG p43 true (
(call (.func 150) [ai r48.1, ai (PV.v (.string ⟨#[65, 66, 67, 68, 69, 70]⟩))] st28).bind fun r52 =>
some (r52.1, r52.2)) st28).bind fun r51 =>
aH (r51.2 = st28) <|
(onG p43 true (
(aUn Tryz.prog .not r51.1).bind fun p55 =>
some (p55, st28)) st28).bind fun r54 =>
(bX p43 r54.1 (PV.v (.bool false))).bind fun p56 =>
(av st.stk.length 5 q2 p29 st28).bind fun st57 =>
(ag true 5 q2 st57).bind fun p58 =>
fin st.stk.length st.tk.length st.lp.length [p58, p56] st57
theorem DS (a0 : PV) (st : St) : E L (.func 118) [a0] st = DR (E L) itE a0 st := (bN (by kernel_rfl) Tryz.func118 _ _).trans (by kernel_rfl)
noncomputable def qy.b0 (call : bB) (it : bO) (base lb : Nat) (vs17 : List PV) (st18 : St) : Option (Ex × List PV × St) :=
(aW Tryz.prog true .lss 3 (ae vs17 5) (PV.v (.int .i64 3))).bind fun p19 =>
aE p19 fun b20 => (bif b20 then
some (Ex.normal, [(ae vs17 0), (ae vs17 1), (ae vs17 2), (ae vs17 3), (ae vs17 4), (ae vs17 5)], st18)
else
some ((Ex.exit 0), [(ae vs17 0), (ae vs17 1), (ae vs17 2), (ae vs17 3), (ae vs17 4), (ae vs17 5)], st18)).bind fun r21 =>
bW r21.1 ((dG Tryz.prog 198 (ae r21.2.1 4) (ae r21.2.1 5)).bind fun p23 =>
(aI (ae r21.2.1 0)).bind fun p24 =>
(an p24 0).bind fun p25 =>
(ag false 1 p25 r21.2.2).bind fun p26 =>
(call (.func 99) [ai p26, ai p23] r21.2.2).bind fun r27 =>
aE r27.1 fun b28 => (bif b28 then
(call (.func 111) [ai (ae r21.2.1 0), ai (PV.v (.int .i64 2))] r27.2).bind fun r30 =>
(an (ae r21.2.1 3) 1).bind fun p31 =>
(av base 1 p31 r30.1 r30.2).bind fun st32 =>
(ag true 5 (ae r21.2.1 3) st32).bind fun p33 =>
(av base 5 (ae r21.2.1 1) p33 st32).bind fun st34 =>
some (Ex.ret, [(ae r21.2.1 0), (ae r21.2.1 1), (PV.v (.bool true)), (ae r21.2.1 3), (ae r21.2.1 4), (ae r21.2.1 5)], st34)
else
some (Ex.normal, [(ae r21.2.1 0), (ae r21.2.1 1), (ae r21.2.1 2), (ae r21.2.1 3), (ae r21.2.1 4), (ae r21.2.1 5)], r27.2)).bind fun r29 =>
bW (Ex.bn 1 r29.1) ((aW Tryz.prog true .add 3 (ae r29.2.1 5) (PV.v (.int .i64 1))).bind fun p36 =>
some (Ex.normal, [(ae r29.2.1 0), (ae r29.2.1 1), (ae r29.2.1 2), (ae r29.2.1 3), (ae r29.2.1 4), p36], r29.2.2)) fun x35 =>
some (x35, [(ae r29.2.1 0), (ae r29.2.1 1), (ae r29.2.1 2), (ae r29.2.1 3), (ae r29.2.1 4), (ae r29.2.1 5)], r29.2.2)) fun x22 =>
some (x22, [(ae r21.2.1 0), (ae r21.2.1 1), (ae r21.2.1 2), (ae r21.2.1 3), (ae r21.2.1 4), (ae r21.2.1 5)], r21.2.2)
noncomputable def qy (call : bB) (it : bO) (a0 : PV) (st : St) : Option (PV × St) :=
let q2 : PV := .ptr false st.stk.length 0
let st1 := st.push [.v (.int .i64 0), .v (.string ⟨#[]⟩), .v (.int .u64 0), .v (.int .i64 0), .v (.int .i64 0)]
(aI a0).bind fun p3 =>
(an p3 1).bind fun p4 =>
(ag false 1 p4 st1).bind fun p5 =>
aH (st1 = st1) <|
(aI a0).bind fun p6 =>
(an p6 2).bind fun p7 =>
(ag false 1 p7 st1).bind fun p8 =>
aH (st1 = st1) <|
(bq [(0, 1), (1, 1), (2, 1), (3, 1), (4, 1)] [.v (.int .i64 0), .v (.string ⟨#[]⟩), .v (.int .u64 0), .v (.int .i64 0), .v (.int .i64 0)] [(0, (PV.v (.int .i64 5))), (3, p5), (4, p8)]).bind fun p9 =>
let q11 : PV := .ptr false st1.stk.length 0
let st10 := st1.push [.v (.int .i64 0), .v (.string ⟨#[]⟩), .v (.int .u64 0), .v (.int .i64 0), .v (.int .i64 0)]
aH (((ag false 1 p7 st10).bind fun p12 =>
some (Rs.ret p12, st10)) = some (Rs.ret p8, st10)) <|
aH (((ag false 1 p4 st10).bind fun p13 =>
some (Rs.ret p13, st10)) = some (Rs.ret p5, st10)) <|
(av st.stk.length 5 q11 p9 st10).bind fun st14 =>
(kA Tryz.prog 198 [(0, (PV.v (.string ⟨#[61, 61]⟩))), (1, (PV.v (.string ⟨#[33, 61]⟩))), (2, (PV.v (.string ⟨#[60, 61]⟩)))]).bind fun p15 =>
(it (qy.b0 call it st.stk.length st.lp.length) [a0, q2, (PV.v (.bool false)), q11, p15, (PV.v (.int .i64 0))] st14).bind fun r16 =>
bW (Ex.bn 0 r16.1) ((aI (ae r16.2.1 0)).bind fun p38 =>
(an p38 0).bind fun p39 =>
(ag false 1 p39 r16.2.2).bind fun p40 =>
(dG Tryz.prog 9 p40 (PV.v (.int .i64 0))).bind fun p41 =>
(call (.func 114) [ai (PV.v (.string ⟨#[123, 125, 40, 41, 91, 93, 59, 58, 44, 46, 61, 60, 43, 45, 42, 47, 37]⟩)), ai p41] r16.2.2).bind fun r42 =>
(aW Tryz.prog true .lss 3 r42.1 (PV.v (.int .i64 0))).bind fun p43 =>
aE p43 fun b44 => (bif b44 then
(ag true 5 (ae r16.2.1 3) r42.2).bind fun p46 =>
(av st.stk.length 5 (ae r16.2.1 1) p46 r42.2).bind fun st47 =>
some (Ex.ret, [(ae r16.2.1 0), (ae r16.2.1 1), (PV.v (.bool false)), (ae r16.2.1 3)], st47)
else
some (Ex.normal, [(ae r16.2.1 0), (ae r16.2.1 1), (ae r16.2.1 2), (ae r16.2.1 3)], r42.2)).bind fun r45 =>
bW r45.1 ((call (.func 111) [ai (ae r45.2.1 0), ai (PV.v (.int .i64 1))] r45.2.2).bind fun r49 =>
(an (ae r45.2.1 3) 1).bind fun p50 =>
(av st.stk.length 1 p50 r49.1 r49.2).bind fun st51 =>
(ag true 5 (ae r45.2.1 3) st51).bind fun p52 =>
(av st.stk.length 5 (ae r45.2.1 1) p52 st51).bind fun st53 =>
(ag true 5 (ae r45.2.1 1) st53).bind fun p54 =>
fin st.stk.length st.tk.length st.lp.length [p54, (PV.v (.bool true))] st53) fun x48 =>
ef x48 ((ag true 5 (ae r45.2.1 1) r45.2.2).bind fun p55 =>
fin st.stk.length st.tk.length st.lp.length [p55, (ae r45.2.1 2)] r45.2.2)) fun x37 =>
ef x37 ((ag true 5 (ae r16.2.1 1) r16.2.2).bind fun p56 =>
fin st.stk.length st.tk.length st.lp.length [p56, (ae r16.2.1 2)] r16.2.2)
theorem DT (a0 : PV) (st : St) : E L (.func 119) [a0] st = qy (E L) itE a0 st := (bN (by kernel_rfl) Tryz.func119 _ _).trans (by kernel_rfl)
noncomputable def S66 (call : bB) (it : bO) (a0 : PV) (st : St) : Option (PV × St) :=
let q2 : PV := .ptr false st.stk.length 0
let st1 := st.push [.v (.int .i64 0), .v (.string ⟨#[]⟩), .v (.int .u64 0), .v (.int .i64 0), .v (.int .i64 0)]
(aI a0).bind fun p3 =>
(an p3 0).bind fun p4 =>
(ag false 1 p4 st1).bind fun p5 =>
(dG Tryz.prog 9 p5 (PV.v (.int .i64 0))).bind fun p6 =>
(fE Tryz.prog 5 21 p6).bind fun p7 =>
(call (.func 115) [ai p7] st1).bind fun r8 =>
(onG r8.1 false (
some (p7, r8.2)) r8.2).bind fun r10 =>
(onG r8.1 false (
(call (.func 116) [ai r10.1] r10.2).bind fun r13 =>
some (r13.1, r13.2)) r10.2).bind fun r12 =>
(bX r8.1 (PV.v (.bool true)) r12.1).bind fun p14 =>
aE p14 fun b15 => (bif b15 then
(call (.func 117) [ai a0] r12.2).bind fun r17 =>
(aY r17.1 0).bind fun p18 =>
(aY r17.1 1).bind fun p19 =>
(av st.stk.length 5 q2 p18 r17.2).bind fun st20 =>
some (Ex.ret, [a0, q2, p19], st20)
else
(aW Tryz.prog true .eql 21 p7 (PV.v (.int .i32 35))).bind fun p21 =>
aE p21 fun b22 => (bif b22 then
(call (.func 118) [ai a0] r12.2).bind fun r24 =>
(aY r24.1 0).bind fun p25 =>
(aY r24.1 1).bind fun p26 =>
(av st.stk.length 5 q2 p25 r24.2).bind fun st27 =>
some (Ex.ret, [a0, q2, p26], st27)
else
some (Ex.normal, [a0, q2, (PV.v (.bool false))], r12.2)).bind fun r23 =>
some (r23.1, [(ae r23.2.1 0), (ae r23.2.1 1), (ae r23.2.1 2)], r23.2.2)).bind fun r16 =>
bW (Ex.bn 0 r16.1) ((call (.func 119) [ai (ae r16.2.1 0)] r16.2.2).bind fun r29 =>
(aY r29.1 0).bind fun p30 =>
(aY r29.1 1).bind fun p31 =>
(av st.stk.length 5 (ae r16.2.1 1) p30 r29.2).bind fun st32 =>
(ag true 5 (ae r16.2.1 1) st32).bind fun p33 =>
fin st.stk.length st.tk.length st.lp.length [p33, p31] st32) fun x28 =>
ef x28 ((ag true 5 (ae r16.2.1 1) r16.2.2).bind fun p34 =>
fin st.stk.length st.tk.length st.lp.length [p34, (ae r16.2.1 2)] r16.2.2)
theorem F4 (a0 : PV) (st : St) : E L (.func 66) [a0] st = S66 (E L) itE a0 st := (bN (by kernel_rfl) Tryz.func66 _ _).trans (by kernel_rfl)
noncomputable def S46.b0 (call : bB) (it : bO) (base lb : Nat) (vs15 : List PV) (st16 : St) : Option (Ex × List PV × St) :=
(call (.func 65) [ai (ae vs15 3)] st16).bind fun r17 =>
(aI (ae vs15 3)).bind fun p18 =>
(an p18 0).bind fun p19 =>
(ag false 1 p19 r17.2).bind fun p20 =>
(aW Tryz.prog true .eql 9 p20 (PV.v (.string ⟨#[]⟩))).bind fun p21 =>
aE p21 fun b22 => (bif b22 then
(aI (ae vs15 3)).bind fun p24 =>
(an p24 1).bind fun p25 =>
(ag false 1 p25 r17.2).bind fun p26 =>
aH (r17.2 = r17.2) <|
(aI (ae vs15 3)).bind fun p27 =>
(an p27 2).bind fun p28 =>
(ag false 1 p28 r17.2).bind fun p29 =>
aH (r17.2 = r17.2) <|
(bq [(0, 1), (1, 1), (2, 1), (3, 1), (4, 1)] [.v (.int .i64 0), .v (.string ⟨#[]⟩), .v (.int .u64 0), .v (.int .i64 0), .v (.int .i64 0)] [(3, p26), (4, p29)]).bind fun p30 =>
(aF 5 [.v (.int .i64 0), .v (.string ⟨#[]⟩), .v (.int .u64 0), .v (.int .i64 0), .v (.int .i64 0)] 1 [(0, p30)]).bind fun p31 =>
(aZ r17.2 p31).bind fun ys32 =>
(bA base [.v (.int .i64 0), .v (.string ⟨#[]⟩), .v (.int .u64 0), .v (.int .i64 0), .v (.int .i64 0)] 5 48 (ae vs15 2) ys32 r17.2).bind fun r33 =>
(bq [(0, 1), (1, 1), (2, 1)] [.v (.int .i64 0), .v (.int .i64 0), .v (.int .i64 0)] []).bind fun p34 =>
(av base 3 (ae vs15 1) p34 r33.2).bind fun st35 =>
some (Ex.ret, [r33.1, (ae vs15 1), (ae vs15 2), (ae vs15 3)], st35)
else
some (Ex.normal, [(ae vs15 0), (ae vs15 1), (ae vs15 2), (ae vs15 3)], r17.2)).bind fun r23 =>
bW r23.1 ((call (.func 66) [ai (ae r23.2.1 3)] r23.2.2).bind fun r37 =>
(aY r37.1 0).bind fun p38 =>
(aY r37.1 1).bind fun p39 =>
let q41 : PV := .ptr false r37.2.stk.length 0
let st40 := r37.2.push [.v (.int .i64 0), .v (.string ⟨#[]⟩), .v (.int .u64 0), .v (.int .i64 0), .v (.int .i64 0)]
(av base 5 q41 p38 st40).bind fun st42 =>
(aUn Tryz.prog .not p39).bind fun p43 =>
aE p43 fun b44 => (bif b44 then
(an q41 3).bind fun p46 =>
(ag false 1 p46 st42).bind fun p47 =>
aH (st42 = st42) <|
(an q41 4).bind fun p48 =>
(ag false 1 p48 st42).bind fun p49 =>
aH (st42 = st42) <|
(bq [(0, 1), (1, 1), (2, 1)] [.v (.int .i64 0), .v (.int .i64 0), .v (.int .i64 0)] [(0, (PV.v (.int .i64 3))), (1, p47), (2, p49)]).bind fun p50 =>
(av base 3 (ae r23.2.1 1) p50 st42).bind fun st51 =>
some (Ex.ret, [(PV.sl [] .nil), (ae r23.2.1 1), (ae r23.2.1 2), (ae r23.2.1 3), q41], st51)
else
some (Ex.normal, [(ae r23.2.1 0), (ae r23.2.1 1), (ae r23.2.1 2), (ae r23.2.1 3), q41], st42)).bind fun r45 =>
bW r45.1 ((ag true 5 (ae r45.2.1 4) r45.2.2).bind fun p53 =>
(aF 5 [.v (.int .i64 0), .v (.string ⟨#[]⟩), .v (.int .u64 0), .v (.int .i64 0), .v (.int .i64 0)] 1 [(0, p53)]).bind fun p54 =>
(aZ r45.2.2 p54).bind fun ys55 =>
(bA base [.v (.int .i64 0), .v (.string ⟨#[]⟩), .v (.int .u64 0), .v (.int .i64 0), .v (.int .i64 0)] 5 48 (ae r45.2.1 2) ys55 r45.2.2).bind fun r56 =>
eC base lb st16.stk.length Ex.normal [(ae r45.2.1 0), (ae r45.2.1 1), r56.1, (ae r45.2.1 3)] r56.2) fun x52 =>
eC base lb st16.stk.length (Ex.bn 1 x52) [(ae r45.2.1 0), (ae r45.2.1 1), (ae r45.2.1 2), (ae r45.2.1 3)] r45.2.2) fun x36 =>
eC base lb st16.stk.length (Ex.bn 1 x36) [(ae r23.2.1 0), (ae r23.2.1 1), (ae r23.2.1 2), (ae r23.2.1 3)] r23.2.2
noncomputable def S46 (call : bB) (it : bO) (a0 : PV) (st : St) : Option (PV × St) :=
let q2 : PV := .ptr false st.stk.length 0
let st1 := st.push [.v (.int .i64 0), .v (.int .i64 0), .v (.int .i64 0)]
(fR Tryz.prog 9 a0).bind fun p3 =>
(aW Tryz.prog true .gtr 3 p3 (PV.v (.int .i64 8192))).bind fun p4 =>
aE p4 fun b5 => (bif b5 then
(bq [(0, 1), (1, 1), (2, 1)] [.v (.int .i64 0), .v (.int .i64 0), .v (.int .i64 0)] [(0, (PV.v (.int .i64 10))), (1, (PV.v (.int .i64 1))), (2, (PV.v (.int .i64 1)))]).bind fun p7 =>
(av st.stk.length 3 q2 p7 st1).bind fun st8 =>
some (Ex.ret, [a0, (PV.sl [] .nil), q2], st8)
else
some (Ex.normal, [a0, (PV.sl [] .nil), q2], st1)).bind fun r6 =>
bW r6.1 ((bq [(0, 1), (1, 1), (2, 1)] [.v (.string ⟨#[]⟩), .v (.int .i64 0), .v (.int .i64 0)] [(0, (ae r6.2.1 0)), (1, (PV.v (.int .i64 1))), (2, (PV.v (.int .i64 1)))]).bind fun p10 =>
(cellsOf p10).bind fun b11 =>
let q13 : PV := .ptr false r6.2.2.stk.length 0
let st12 := r6.2.2.push b11
(it (S46.b0 call it st.stk.length st.lp.length) [(ae r6.2.1 1), (ae r6.2.1 2), (PV.sl [] .nil), q13] st12).bind fun r14 =>
ef (Ex.bn 0 r14.1) ((ag true 3 (ae r14.2.1 1) r14.2.2).bind fun p57 =>
fin st.stk.length st.tk.length st.lp.length [(ae r14.2.1 0), p57] r14.2.2)) fun x9 =>
ef x9 ((ag true 3 (ae r6.2.1 2) r6.2.2).bind fun p58 =>
fin st.stk.length st.tk.length st.lp.length [(ae r6.2.1 1), p58] r6.2.2)
theorem FZ (a0 : PV) (st : St) : E L (.func 46) [a0] st = S46 (E L) itE a0 st := (bN (by kernel_rfl) Tryz.func46 _ _).trans (by kernel_rfl)
noncomputable def S67 (call : bB) (it : bO) (a0 : PV) (st : St) : Option (PV × St) :=
let q2 : PV := .ptr false st.stk.length 0
let st1 := st.push [.v (.int .i64 0), .v (.string ⟨#[]⟩), .v (.int .u64 0), .v (.int .i64 0), .v (.int .i64 0)]
(aI a0).bind fun p3 =>
(an p3 0).bind fun p4 =>
(ag false 1 p4 st1).bind fun p5 =>
aH (st1 = st1) <|
(aI a0).bind fun p6 =>
(an p6 1).bind fun p7 =>
(ag false 1 p7 st1).bind fun p8 =>
aH (st1 = st1) <|
(bL Tryz.prog 101 p5 p8).bind fun p9 =>
(ag true 5 p9 st1).bind fun p10 =>
aH (st1 = st1) <|
(av st.stk.length 5 q2 p10 st1).bind fun st11 =>
(ag true 5 q2 st11).bind fun p12 =>
fin st.stk.length st.tk.length st.lp.length [p12] st11
theorem F5 (a0 : PV) (st : St) : E L (.func 67) [a0] st = S67 (E L) itE a0 st := (bN (by kernel_rfl) Tryz.func67 _ _).trans (by kernel_rfl)
noncomputable def DU (call : bB) (it : bO) (a0 a1 : PV) (st : St) : Option (PV × St) :=
(call (.func 67) [ai a0] st).bind fun r1 =>
let q3 : PV := .ptr false r1.2.stk.length 0
let st2 := r1.2.push [.v (.int .i64 0), .v (.string ⟨#[]⟩), .v (.int .u64 0), .v (.int .i64 0), .v (.int .i64 0)]
(av st.stk.length 5 q3 r1.1 st2).bind fun st4 =>
(an q3 0).bind fun p5 =>
(ag false 1 p5 st4).bind fun p6 =>
(aW Tryz.prog true .eql 138 p6 (PV.v (.int .i64 2))).bind fun p7 =>
(onG p7 false (
(an q3 0).bind fun p10 =>
some (p10, st4)) st4).bind fun r9 =>
(onG p7 false (
(ag false 1 r9.1 r9.2).bind fun p13 =>
some (p13, r9.2)) r9.2).bind fun r12 =>
(onG p7 false (
(aW Tryz.prog true .eql 138 r12.1 (PV.v (.int .i64 5))).bind fun p16 =>
some (p16, r12.2)) r12.2).bind fun r15 =>
(bX p7 (PV.v (.bool true)) r15.1).bind fun p17 =>
(onG p17 true (
(an q3 1).bind fun p20 =>
some (p20, r15.2)) r15.2).bind fun r19 =>
(onG p17 true (
(ag false 1 r19.1 r19.2).bind fun p23 =>
some (p23, r19.2)) r19.2).bind fun r22 =>
(onG p17 true (
some (a1, r22.2)) r22.2).bind fun r25 =>
(onG p17 true (
(aW Tryz.prog false .eql 9 r22.1 r25.1).bind fun p28 =>
some (p28, r25.2)) r25.2).bind fun r27 =>
(bX p17 r27.1 (PV.v (.bool false))).bind fun p29 =>
fin st.stk.length st.tk.length st.lp.length [p29] r27.2
theorem DV (a0 a1 : PV) (st : St) : E L (.func 120) [a0, a1] st = DU (E L) itE a0 a1 st := (bN (by kernel_rfl) Tryz.func120 _ _).trans (by kernel_rfl)
noncomputable def S68 (call : bB) (it : bO) (a0 a1 : PV) (st : St) : Option (PV × St) :=
(call (.func 120) [ai a0, ai a1] st).bind fun r1 =>
aE r1.1 fun b2 => (bif b2 then
(aI a0).bind fun p4 =>
(an p4 1).bind fun p5 =>
(ag false 1 p5 r1.2).bind fun p6 =>
(aW Tryz.prog true .add 3 p6 (PV.v (.int .i64 1))).bind fun p7 =>
(aI a0).bind fun p8 =>
(an p8 1).bind fun p9 =>
(av st.stk.length 1 p9 p7 r1.2).bind fun st10 =>
some (Ex.ret, [(PV.v (.bool true))], st10)
else
some (Ex.normal, [(PV.v (.bool false))], r1.2)).bind fun r3 =>
bW r3.1 (fin st.stk.length st.tk.length st.lp.length [(PV.v (.bool false))] r3.2.2) fun x11 =>
ef x11 (fin st.stk.length st.tk.length st.lp.length [(ae r3.2.1 0)] r3.2.2)
theorem F6 (a0 a1 : PV) (st : St) : E L (.func 68) [a0, a1] st = S68 (E L) itE a0 a1 st := (bN (by kernel_rfl) Tryz.func68 _ _).trans (by kernel_rfl)
noncomputable def S74 (call : bB) (it : bO) (a0 a1 a2 : PV) (st : St) : Option (PV × St) :=
(cellsOf a2).bind fun b1 =>
let q3 : PV := .ptr false st.stk.length 0
let st2 := st.push b1
(an q3 3).bind fun p4 =>
(ag false 1 p4 st2).bind fun p5 =>
(an q3 4).bind fun p6 =>
(ag false 1 p6 st2).bind fun p7 =>
(bq [(0, 1), (1, 1), (2, 1)] [.v (.int .i64 0), .v (.int .i64 0), .v (.int .i64 0)] [(0, a1), (1, p5), (2, p7)]).bind fun p8 =>
(aI a0).bind fun p9 =>
(an p9 3).bind fun p10 =>
(av st.stk.length 3 p10 p8 st2).bind fun st11 =>
(bq [] [] []).bind fun p12 =>
(je Tryz.prog 108 p12).bind fun p13 =>
uh p13 fun t14 x15 =>
some (PV.pan t14 x15, st11.back st.stk.length st.tk.length st.lp.length)
theorem F7 (a0 a1 a2 : PV) (st : St) : E L (.func 74) [a0, a1, a2] st = S74 (E L) itE a0 a1 a2 st := (bN (by kernel_rfl) Tryz.func74 _ _).trans (by kernel_rfl)
noncomputable def S71 (call : bB) (it : bO) (a0 a1 : PV) (st : St) : Option (PV × St) :=
let q2 : PV := .ptr false st.stk.length 0
let st1 := st.push [.v (.int .i64 0), .v (.string ⟨#[]⟩), .v (.int .u64 0), .v (.int .i64 0), .v (.int .i64 0)]
(call (.func 67) [ai a0] st1).bind fun r3 =>
let q5 : PV := .ptr false r3.2.stk.length 0
let st4 := r3.2.push [.v (.int .i64 0), .v (.string ⟨#[]⟩), .v (.int .u64 0), .v (.int .i64 0), .v (.int .i64 0)]
(av st.stk.length 5 q5 r3.1 st4).bind fun st6 =>
(call (.func 68) [ai a0, ai a1] st6).bind fun r7 =>
(aUn Tryz.prog .not r7.1).bind fun p8 =>
aE p8 fun b9 => (bif b9 then
(ag true 5 q5 r7.2).bind fun p11 =>
(call (.func 74) [ai a0, ai (PV.v (.int .i64 4)), ai p11] r7.2).bind fun r12 =>
aV r12 (fun p13 st14 =>
some (Ex.normal, [q2, q5], st14)) (fun t15 x16 st17 =>
some ((Ex.pan t15 x16), [q2, q5], st17))
else
some (Ex.normal, [q2, q5], r7.2)).bind fun r10 =>
bW r10.1 ((ag true 5 (ae r10.2.1 1) r10.2.2).bind fun p19 =>
(av st.stk.length 5 (ae r10.2.1 0) p19 r10.2.2).bind fun st20 =>
(ag true 5 (ae r10.2.1 0) st20).bind fun p21 =>
fin st.stk.length st.tk.length st.lp.length [p21] st20) fun x18 =>
fW st.stk.length st.tk.length st.lp.length x18 r10.2.2 ((ag true 5 (ae r10.2.1 0) r10.2.2).bind fun p22 =>
fin st.stk.length st.tk.length st.lp.length [p22] r10.2.2)
theorem BA (a0 a1 : PV) (st : St) : E L (.func 71) [a0, a1] st = S71 (E L) itE a0 a1 st := (bN (by kernel_rfl) Tryz.func71 _ _).trans (by kernel_rfl)
noncomputable def FT (call : bB) (it : bO) (a0 : PV) (st : St) : Option (PV × St) :=
let q2 : PV := .ptr false st.stk.length 0
let st1 := st.push [.v (.int .i64 0), .v (.string ⟨#[]⟩), .v (.int .u64 0), .v (.int .i64 0), .v (.int .i64 0)]
(aI a0).bind fun p3 =>
(an p3 0).bind fun p4 =>
(ag false 1 p4 st1).bind fun p5 =>
aH (st1 = st1) <|
(aI a0).bind fun p6 =>
(an p6 1).bind fun p7 =>
(ag false 1 p7 st1).bind fun p8 =>
aH (st1 = st1) <|
(bL Tryz.prog 101 p5 p8).bind fun p9 =>
(ag true 5 p9 st1).bind fun p10 =>
aH (st1 = st1) <|
let q12 : PV := .ptr false st1.stk.length 0
let st11 := st1.push [.v (.int .i64 0), .v (.string ⟨#[]⟩), .v (.int .u64 0), .v (.int .i64 0), .v (.int .i64 0)]
aH (((ag true 5 p9 st11).bind fun p13 =>
some (Rs.ret p13, st11)) = some (Rs.ret p10, st11)) <|
aH (((ag false 1 p7 st11).bind fun p14 =>
some (Rs.ret p14, st11)) = some (Rs.ret p8, st11)) <|
aH (((ag false 1 p4 st11).bind fun p15 =>
some (Rs.ret p15, st11)) = some (Rs.ret p5, st11)) <|
(av st.stk.length 5 q12 p10 st11).bind fun st16 =>
(an q12 0).bind fun p17 =>
(ag false 1 p17 st16).bind fun p18 =>
(aW Tryz.prog true .neq 138 p18 (PV.v (.int .i64 0))).bind fun p19 =>
aE p19 fun b20 => (bif b20 then
(aI a0).bind fun p22 =>
(an p22 1).bind fun p23 =>
(ag false 1 p23 st16).bind fun p24 =>
(aW Tryz.prog true .add 3 p24 (PV.v (.int .i64 1))).bind fun p25 =>
(aI a0).bind fun p26 =>
(an p26 1).bind fun p27 =>
(av st.stk.length 1 p27 p25 st16).bind fun st28 =>
some (Ex.normal, [q2, q12], st28)
else
some (Ex.normal, [q2, q12], st16)).bind fun r21 =>
bW r21.1 ((ag true 5 (ae r21.2.1 1) r21.2.2).bind fun p30 =>
(av st.stk.length 5 (ae r21.2.1 0) p30 r21.2.2).bind fun st31 =>
(ag true 5 (ae r21.2.1 0) st31).bind fun p32 =>
fin st.stk.length st.tk.length st.lp.length [p32] st31) fun x29 =>
ef x29 ((ag true 5 (ae r21.2.1 0) r21.2.2).bind fun p33 =>
fin st.stk.length st.tk.length st.lp.length [p33] r21.2.2)
theorem D3 (a0 : PV) (st : St) : E L (.func 151) [a0] st = FT (E L) itE a0 st := (bN (by kernel_rfl) Tryz.func151 _ _).trans (by kernel_rfl)
noncomputable def FP (call : bB) (it : bO) (a0 a1 : PV) (st : St) : Option (PV × St) :=
let q2 : PV := .ptr false st.stk.length 0
let st1 := st.push [.v (.int .i64 0), .v (.string ⟨#[]⟩), .v (.int .u64 0), .v (.int .i64 0), .v (.int .i64 0)]
(call (.func 67) [ai a0] st1).bind fun r3 =>
let q5 : PV := .ptr false r3.2.stk.length 0
let st4 := r3.2.push [.v (.int .i64 0), .v (.string ⟨#[]⟩), .v (.int .u64 0), .v (.int .i64 0), .v (.int .i64 0)]
(av st.stk.length 5 q5 r3.1 st4).bind fun st6 =>
(an q5 0).bind fun p7 =>
(ag false 1 p7 st6).bind fun p8 =>
(aW Tryz.prog false .neq 138 p8 a1).bind fun p9 =>
aE p9 fun b10 => (bif b10 then
(ag true 5 q5 st6).bind fun p12 =>
(call (.func 74) [ai a0, ai (PV.v (.int .i64 4)), ai p12] st6).bind fun r13 =>
aV r13 (fun p14 st15 =>
some (Ex.normal, [a0, q2], st15)) (fun t16 x17 st18 =>
some ((Ex.pan t16 x17), [a0, q2], st18))
else
some (Ex.normal, [a0, q2], st6)).bind fun r11 =>
bW r11.1 ((call (.func 151) [ai (ae r11.2.1 0)] r11.2.2).bind fun r20 =>
(av st.stk.length 5 (ae r11.2.1 1) r20.1 r20.2).bind fun st21 =>
(ag true 5 (ae r11.2.1 1) st21).bind fun p22 =>
fin st.stk.length st.tk.length st.lp.length [p22] st21) fun x19 =>
fW st.stk.length st.tk.length st.lp.length x19 r11.2.2 ((ag true 5 (ae r11.2.1 1) r11.2.2).bind fun p23 =>
fin st.stk.length st.tk.length st.lp.length [p23] r11.2.2)
theorem yQ (a0 a1 : PV) (st : St) : E L (.func 121) [a0, a1] st = FP (E L) itE a0 a1 st := (bN (by kernel_rfl) Tryz.func121 _ _).trans (by kernel_rfl)
noncomputable def nh.b0 (call : bB) (it : bO) (base lb : Nat) (vs5 : List PV) (st6 : St) : Option (Ex × List PV × St) :=
(aW Tryz.prog true .lss 3 (ae vs5 3) (PV.v (.int .i64 4))).bind fun p7 =>
aE p7 fun b8 => (bif b8 then
some (Ex.normal, [(ae vs5 0), (ae vs5 1), (ae vs5 2), (ae vs5 3)], st6)
else
some ((Ex.exit 0), [(ae vs5 0), (ae vs5 1), (ae vs5 2), (ae vs5 3)], st6)).bind fun r9 =>
bW r9.1 ((dG Tryz.prog 199 (ae r9.2.1 2) (ae r9.2.1 3)).bind fun p11 =>
(aW Tryz.prog true .neq 9 p11 (PV.v (.string ⟨#[]⟩))).bind fun p12 =>
(onG p12 true (
some ((ae r9.2.1 0), r9.2.2)) r9.2.2).bind fun r14 =>
(onG p12 true (
some (p11, r14.2)) r14.2).bind fun r16 =>
(onG p12 true (
(call (.func 68) [ai r14.1, ai r16.1] r16.2).bind fun r19 =>
some (r19.1, r19.2)) r16.2).bind fun r18 =>
(bX p12 r18.1 (PV.v (.bool false))).bind fun p20 =>
aE p20 fun b21 => (bif b21 then
(bq [(0, 1), (1, 1)] [.v (.int .i64 0), .v (.string ⟨#[]⟩)] [(0, (ae r9.2.1 3))]).bind fun p23 =>
(av base 2 (ae r9.2.1 1) p23 r18.2).bind fun st24 =>
some (Ex.ret, [(ae r9.2.1 0), (ae r9.2.1 1), (ae r9.2.1 2), (ae r9.2.1 3)], st24)
else
some (Ex.normal, [(ae r9.2.1 0), (ae r9.2.1 1), (ae r9.2.1 2), (ae r9.2.1 3)], r18.2)).bind fun r22 =>
bW (Ex.bn 1 r22.1) ((aW Tryz.prog true .add 3 (ae r22.2.1 3) (PV.v (.int .i64 1))).bind fun p26 =>
some (Ex.normal, [(ae r22.2.1 0), (ae r22.2.1 1), (ae r22.2.1 2), p26], r22.2.2)) fun x25 =>
some (x25, [(ae r22.2.1 0), (ae r22.2.1 1), (ae r22.2.1 2), (ae r22.2.1 3)], r22.2.2)) fun x10 =>
some (x10, [(ae r9.2.1 0), (ae r9.2.1 1), (ae r9.2.1 2), (ae r9.2.1 3)], r9.2.2)
noncomputable def nh (call : bB) (it : bO) (a0 : PV) (st : St) : Option (PV × St) :=
let q2 : PV := .ptr false st.stk.length 0
let st1 := st.push [.v (.int .i64 0), .v (.string ⟨#[]⟩)]
(kA Tryz.prog 199 [(0, (PV.v (.string ⟨#[]⟩))), (1, (PV.v (.string ⟨#[105, 110, 116]⟩))), (2, (PV.v (.string ⟨#[114, 101, 97, 108]⟩))), (3, (PV.v (.string ⟨#[105, 110, 116, 115]⟩)))]).bind fun p3 =>
(it (nh.b0 call it st.stk.length st.lp.length) [a0, q2, p3, (PV.v (.int .i64 0))] st1).bind fun r4 =>
bW (Ex.bn 0 r4.1) ((call (.func 121) [ai (ae r4.2.1 0), ai (PV.v (.int .i64 1))] r4.2.2).bind fun r28 =>
aV r28 (fun p29 st30 =>
(gH Tryz.prog 140 p29 1).bind fun p34 =>
(bq [(0, 1), (1, 1)] [.v (.int .i64 0), .v (.string ⟨#[]⟩)] [(0, (PV.v (.int .i64 4))), (1, p34)]).bind fun p35 =>
(av st.stk.length 2 (ae r4.2.1 1) p35 st30).bind fun st36 =>
(ag true 2 (ae r4.2.1 1) st36).bind fun p37 =>
fin st.stk.length st.tk.length st.lp.length [p37] st36) (fun t31 x32 st33 =>
some (PV.pan t31 x32, st33.back st.stk.length st.tk.length st.lp.length))) fun x27 =>
fW st.stk.length st.tk.length st.lp.length x27 r4.2.2 ((ag true 2 (ae r4.2.1 1) r4.2.2).bind fun p38 =>
fin st.stk.length st.tk.length st.lp.length [p38] r4.2.2)
theorem o9 (a0 : PV) (st : St) : E L (.func 122) [a0] st = nh (E L) itE a0 st := (bN (by kernel_rfl) Tryz.func122 _ _).trans (by kernel_rfl)
noncomputable def S70 (call : bB) (it : bO) (a0 : PV) (st : St) : Option (PV × St) :=
let q2 : PV := .ptr false st.stk.length 0
let st1 := st.push [.v (.string ⟨#[]⟩), .v (.int .i64 0), .v (.string ⟨#[]⟩), .v (.int .i64 0), .v (.int .i64 0)]
(call (.func 121) [ai a0, ai (PV.v (.int .i64 1))] st1).bind fun r3 =>
aV r3 (fun p4 st5 =>
let q10 : PV := .ptr false st5.stk.length 0
let st9 := st5.push [.v (.int .i64 0), .v (.string ⟨#[]⟩), .v (.int .u64 0), .v (.int .i64 0), .v (.int .i64 0)]
(av st.stk.length 5 q10 p4 st9).bind fun st11 =>
(call (.func 71) [ai a0, ai (PV.v (.string ⟨#[58]⟩))] st11).bind fun r12 =>
aV r12 (fun p13 st14 =>
(an q10 1).bind fun p18 =>
(ag false 1 p18 st14).bind fun p19 =>
aH (st14 = st14) <|
(call (.func 122) [ai a0] st14).bind fun r20 =>
aV r20 (fun p21 st22 =>
aH (((ag false 1 p18 st22).bind fun p26 =>
some (Rs.ret p26, st22)) = some (Rs.ret p19, st22)) <|
(an q10 3).bind fun p27 =>
(ag false 1 p27 st22).bind fun p28 =>
aH (st22 = st22) <|
aH (((ag false 1 p27 st14).bind fun p29 =>
some (Rs.ret p29, st14)) = some (Rs.ret p28, st14)) <|
(an q10 4).bind fun p30 =>
(ag false 1 p30 st22).bind fun p31 =>
aH (st22 = st22) <|
aH (((ag false 1 p30 st14).bind fun p32 =>
some (Rs.ret p32, st14)) = some (Rs.ret p31, st14)) <|
(bq [(0, 1), (1, 2), (3, 1), (4, 1)] [.v (.string ⟨#[]⟩), .v (.int .i64 0), .v (.string ⟨#[]⟩), .v (.int .i64 0), .v (.int .i64 0)] [(0, p19), (1, p21), (2, p28), (3, p31)]).bind fun p33 =>
(av st.stk.length 5 q2 p33 st22).bind fun st34 =>
(ag true 5 q2 st34).bind fun p35 =>
fin st.stk.length st.tk.length st.lp.length [p35] st34) (fun t23 x24 st25 =>
(an q10 3).bind fun p36 =>
(ag false 1 p36 st14).bind fun p37 =>
aH (st14 = st14) <|
(an q10 4).bind fun p38 =>
(ag false 1 p38 st14).bind fun p39 =>
aH (st14 = st14) <|
some (PV.pan t23 x24, st25.back st.stk.length st.tk.length st.lp.length))) (fun t15 x16 st17 =>
some (PV.pan t15 x16, st17.back st.stk.length st.tk.length st.lp.length))) (fun t6 x7 st8 =>
some (PV.pan t6 x7, st8.back st.stk.length st.tk.length st.lp.length))
theorem uK (a0 : PV) (st : St) : E L (.func 70) [a0] st = S70 (E L) itE a0 st := (bN (by kernel_rfl) Tryz.func70 _ _).trans (by kernel_rfl)
noncomputable def S69.b0 (call : bB) (it : bO) (base lb : Nat) (vs29 : List PV) (st30 : St) : Option (Ex × List PV × St) :=
(call (.func 68) [ai (ae vs29 0), ai (PV.v (.string ⟨#[125]⟩))] st30).bind fun r31 =>
(aUn Tryz.prog .not r31.1).bind fun p32 =>
aE p32 fun b33 => (bif b33 then
some (Ex.normal, [(ae vs29 0), (ae vs29 1), (ae vs29 2)], r31.2)
else
some ((Ex.exit 0), [(ae vs29 0), (ae vs29 1), (ae vs29 2)], r31.2)).bind fun r34 =>
bW r34.1 ((an (ae r34.2.1 2) 1).bind fun p36 =>
(ag false 1 p36 r34.2.2).bind fun p37 =>
aH (r34.2.2 = r34.2.2) <|
(call (.func 70) [ai (ae r34.2.1 0)] r34.2.2).bind fun r38 =>
aV r38 (fun p39 st40 =>
aH (((ag false 1 p36 st40).bind fun p44 =>
some (Rs.ret p44, st40)) = some (Rs.ret p37, st40)) <|
(aF 5 [.v (.string ⟨#[]⟩), .v (.int .i64 0), .v (.string ⟨#[]⟩), .v (.int .i64 0), .v (.int .i64 0)] 1 [(0, p39)]).bind fun p45 =>
(aZ st40 p45).bind fun ys46 =>
(bA base [.v (.string ⟨#[]⟩), .v (.int .i64 0), .v (.string ⟨#[]⟩), .v (.int .i64 0), .v (.int .i64 0)] 5 56 p37 ys46 st40).bind fun r47 =>
(an (ae r34.2.1 2) 1).bind fun p48 =>
(av base 1 p48 r47.1 r47.2).bind fun st49 =>
(call (.func 71) [ai (ae r34.2.1 0), ai (PV.v (.string ⟨#[59]⟩))] st49).bind fun r50 =>
aV r50 (fun p51 st52 =>
some (Ex.normal, [(ae r34.2.1 0), (ae r34.2.1 1), (ae r34.2.1 2)], st52)) (fun t53 x54 st55 =>
some ((Ex.pan t53 x54), [(ae r34.2.1 0), (ae r34.2.1 1), (ae r34.2.1 2)], st55))) (fun t41 x42 st43 =>
some ((Ex.pan t41 x42), [(ae r34.2.1 0), (ae r34.2.1 1), (ae r34.2.1 2)], st43))) fun x35 =>
some (x35, [(ae r34.2.1 0), (ae r34.2.1 1), (ae r34.2.1 2)], r34.2.2)
noncomputable def S69 (call : bB) (it : bO) (a0 : PV) (st : St) : Option (PV × St) :=
let q2 : PV := .ptr false st.stk.length 0
let st1 := st.push [.v (.string ⟨#[]⟩), .sl [] .nil, .v (.int .i64 0), .v (.int .i64 0)]
(call (.func 121) [ai a0, ai (PV.v (.int .i64 1))] st1).bind fun r3 =>
aV r3 (fun p4 st5 =>
let q10 : PV := .ptr false st5.stk.length 0
let st9 := st5.push [.v (.int .i64 0), .v (.string ⟨#[]⟩), .v (.int .u64 0), .v (.int .i64 0), .v (.int .i64 0)]
(av st.stk.length 5 q10 p4 st9).bind fun st11 =>
(an q10 1).bind fun p12 =>
(ag false 1 p12 st11).bind fun p13 =>
(an q10 3).bind fun p14 =>
(ag false 1 p14 st11).bind fun p15 =>
(an q10 4).bind fun p16 =>
(ag false 1 p16 st11).bind fun p17 =>
(bq [(0, 1), (1, 1), (2, 1), (3, 1)] [.v (.string ⟨#[]⟩), .sl [] .nil, .v (.int .i64 0), .v (.int .i64 0)] [(0, p13), (2, p15), (3, p17)]).bind fun p18 =>
let q20 : PV := .ptr false st11.stk.length 0
let st19 := st11.push [.v (.string ⟨#[]⟩), .sl [] .nil, .v (.int .i64 0), .v (.int .i64 0)]
(av st.stk.length 4 q20 p18 st19).bind fun st21 =>
(call (.func 71) [ai a0, ai (PV.v (.string ⟨#[123]⟩))] st21).bind fun r22 =>
aV r22 (fun p23 st24 =>
(it (S69.b0 call it st.stk.length st.lp.length) [a0, q2, q20] st24).bind fun r28 =>
bW (Ex.bn 0 r28.1) ((ag true 4 (ae r28.2.1 2) r28.2.2).bind fun p57 =>
(av st.stk.length 4 (ae r28.2.1 1) p57 r28.2.2).bind fun st58 =>
(ag true 4 (ae r28.2.1 1) st58).bind fun p59 =>
fin st.stk.length st.tk.length st.lp.length [p59] st58) fun x56 =>
fW st.stk.length st.tk.length st.lp.length x56 r28.2.2 ((ag true 4 (ae r28.2.1 1) r28.2.2).bind fun p60 =>
fin st.stk.length st.tk.length st.lp.length [p60] r28.2.2)) (fun t25 x26 st27 =>
some (PV.pan t25 x26, st27.back st.stk.length st.tk.length st.lp.length))) (fun t6 x7 st8 =>
some (PV.pan t6 x7, st8.back st.stk.length st.tk.length st.lp.length))
theorem uJ (a0 : PV) (st : St) : E L (.func 69) [a0] st = S69 (E L) itE a0 st := (bN (by kernel_rfl) Tryz.func69 _ _).trans (by kernel_rfl)
noncomputable def FQ (call : bB) (it : bO) (a0 a1 : PV) (st : St) : Option (PV × St) :=
(cellsOf a1).bind fun b1 =>
let q3 : PV := .ptr false st.stk.length 0
let st2 := st.push b1
(aI a0).bind fun p4 =>
(an p4 2).bind fun p5 =>
(ag false 1 p5 st2).bind fun p6 =>
(aW Tryz.prog true .add 3 p6 (PV.v (.int .i64 1))).bind fun p7 =>
(aI a0).bind fun p8 =>
(an p8 2).bind fun p9 =>
(av st.stk.length 1 p9 p7 st2).bind fun st10 =>
(aI a0).bind fun p11 =>
(an p11 2).bind fun p12 =>
(ag false 1 p12 st10).bind fun p13 =>
(aW Tryz.prog true .gtr 3 p13 (PV.v (.int .i64 12))).bind fun p14 =>
aE p14 fun b15 => (bif b15 then
(ag true 5 q3 st10).bind fun p17 =>
(call (.func 74) [ai a0, ai (PV.v (.int .i64 10)), ai p17] st10).bind fun r18 =>
aV r18 (fun p19 st20 =>
some (Ex.normal, ([] : List PV), st20)) (fun t21 x22 st23 =>
some ((Ex.pan t21 x22), ([] : List PV), st23))
else
some (Ex.normal, ([] : List PV), st10)).bind fun r16 =>
fW st.stk.length st.tk.length st.lp.length r16.1 r16.2.2 (fin st.stk.length st.tk.length st.lp.length [] r16.2.2)
theorem yR (a0 a1 : PV) (st : St) : E L (.func 123) [a0, a1] st = FQ (E L) itE a0 a1 st := (bN (by kernel_rfl) Tryz.func123 _ _).trans (by kernel_rfl)
noncomputable def D4 (call : bB) (it : bO) (a0 a1 : PV) (st : St) : Option (PV × St) :=
(cellsOf a1).bind fun b1 =>
let q3 : PV := .ptr false st.stk.length 0
let st2 := st.push b1
let q5 : PV := .ptr false st2.stk.length 0
let st4 := st2.push [.v (.int .i64 0), .v (.string ⟨#[]⟩), .v (.int .i64 0), .v (.int .i64 0), .v (.int .i64 0), .v (.int .u64 0), .v (.int .i64 0), .v (.string ⟨#[]⟩), .v (.string ⟨#[]⟩), .sl [] .nil, .v (.int .i64 0), .v (.int .i64 0), .v (.int .i64 0), .v (.string ⟨#[]⟩), .v (.string ⟨#[]⟩), .v (.int .i64 0), .v (.int .i64 0), .v (.int .u64 0), .v (.int .i64 0), .v (.string ⟨#[]⟩), .v (.string ⟨#[]⟩), .sl [] .nil, .v (.int .i64 0), .v (.int .i64 0), .v (.int .i64 0), .v (.int .i64 0), .v (.string ⟨#[]⟩), .v (.int .i64 0), .v (.int .i64 0), .v (.int .i64 0), .v (.string ⟨#[]⟩), .v (.string ⟨#[]⟩), .v (.int .i64 0), .v (.int .i64 0), .v (.int .u64 0), .v (.int .i64 0), .v (.string ⟨#[]⟩), .v (.string ⟨#[]⟩), .sl [] .nil, .v (.int .i64 0), .v (.int .i64 0), .v (.int .i64 0), .v (.int .i64 0), .v (.int .i64 0), .v (.int .i64 0), .v (.int .u64 0), .v (.int .i64 0), .v (.string ⟨#[]⟩), .v (.string ⟨#[]⟩), .sl [] .nil, .v (.int .i64 0), .v (.int .i64 0), .v (.int .i64 0), .sl [] .nil, .sl [] .nil, .sl [] .nil, .v (.int .i64 0), .v (.int .i64 0)]
(an q3 0).bind fun p6 =>
(av st.stk.length 1 p6 (PV.v (.int .i64 7)) st4).bind fun st7 =>
(call (.func 121) [ai a0, ai (PV.v (.int .i64 3))] st7).bind fun r8 =>
aV r8 (fun p9 st10 =>
(gH Tryz.prog 140 p9 2).bind fun p14 =>
(fE Tryz.prog 34 3 p14).bind fun p15 =>
(an q3 52).bind fun p16 =>
(av st.stk.length 1 p16 p15 st10).bind fun st17 =>
(call (.func 73) [ai a0] st17).bind fun r18 =>
aV r18 (fun p19 st20 =>
(an q3 54).bind fun p24 =>
(av st.stk.length 1 p24 p19 st20).bind fun st25 =>
(ag true 58 q3 st25).bind fun p26 =>
(av st.stk.length 58 q5 p26 st25).bind fun st27 =>
(ag true 58 q5 st27).bind fun p28 =>
fin st.stk.length st.tk.length st.lp.length [p28] st27) (fun t21 x22 st23 =>
some (PV.pan t21 x22, st23.back st.stk.length st.tk.length st.lp.length))) (fun t11 x12 st13 =>
some (PV.pan t11 x12, st13.back st.stk.length st.tk.length st.lp.length))
theorem uI (a0 a1 : PV) (st : St) : E L (.func 153) [a0, a1] st = D4 (E L) itE a0 a1 st := (bN (by kernel_rfl) Tryz.func153 _ _).trans (by kernel_rfl)
noncomputable def By (call : bB) (it : bO) (a0 : PV) (st : St) : Option (PV × St) :=
(aW Tryz.prog true .eql 9 a0 (PV.v (.string ⟨#[45]⟩))).bind fun p1 =>
aE p1 fun b2 => (bif b2 then
some (Ex.ret, [(PV.v (.int .i64 6))], st)
else
(aW Tryz.prog true .eql 9 a0 (PV.v (.string ⟨#[114, 101, 97, 108]⟩))).bind fun p4 =>
aE p4 fun b5 => (bif b5 then
some (Ex.ret, [(PV.v (.int .i64 7))], st)
else
(aW Tryz.prog true .eql 9 a0 (PV.v (.string ⟨#[116, 114, 117, 110, 99]⟩))).bind fun p7 =>
aE p7 fun b8 => (bif b8 then
some (Ex.ret, [(PV.v (.int .i64 8))], st)
else
some (Ex.normal, [(PV.v (.int .i64 0))], st)).bind fun r9 =>
some (r9.1, [(ae r9.2.1 0)], r9.2.2)).bind fun r6 =>
some (r6.1, [(ae r6.2.1 0)], r6.2.2)).bind fun r3 =>
bW (Ex.bn 0 r3.1) (fin st.stk.length st.tk.length st.lp.length [(PV.v (.int .i64 0))] r3.2.2) fun x10 =>
ef x10 (fin st.stk.length st.tk.length st.lp.length [(ae r3.2.1 0)] r3.2.2)
theorem D9 (a0 : PV) (st : St) : E L (.func 197) [a0] st = By (E L) itE a0 st := (bN (by kernel_rfl) Tryz.func197 _ _).trans (by kernel_rfl)
noncomputable def ot (call : bB) (it : bO) (a0 : PV) (st : St) : Option (PV × St) :=
let q2 : PV := .ptr false st.stk.length 0
let st1 := st.push [.v (.int .i64 0), .v (.int .i64 0), .v (.int .u64 0), .v (.int .i64 0), .v (.string ⟨#[]⟩), .v (.string ⟨#[]⟩), .sl [] .nil, .v (.int .i64 0), .v (.int .i64 0)]
(call (.func 151) [ai a0] st1).bind fun r3 =>
let q5 : PV := .ptr false r3.2.stk.length 0
let st4 := r3.2.push [.v (.int .i64 0), .v (.string ⟨#[]⟩), .v (.int .u64 0), .v (.int .i64 0), .v (.int .i64 0)]
(av st.stk.length 5 q5 r3.1 st4).bind fun st6 =>
(an q5 3).bind fun p7 =>
(ag false 1 p7 st6).bind fun p8 =>
(an q5 4).bind fun p9 =>
(ag false 1 p9 st6).bind fun p10 =>
(bq [(0, 1), (1, 1), (2, 1), (3, 2), (5, 1), (6, 1), (7, 1), (8, 1)] [.v (.int .i64 0), .v (.int .i64 0), .v (.int .u64 0), .v (.int .i64 0), .v (.string ⟨#[]⟩), .v (.string ⟨#[]⟩), .sl [] .nil, .v (.int .i64 0), .v (.int .i64 0)] [(6, p8), (7, p10)]).bind fun p11 =>
let q13 : PV := .ptr false st6.stk.length 0
let st12 := st6.push [.v (.int .i64 0), .v (.int .i64 0), .v (.int .u64 0), .v (.int .i64 0), .v (.string ⟨#[]⟩), .v (.string ⟨#[]⟩), .sl [] .nil, .v (.int .i64 0), .v (.int .i64 0)]
(av st.stk.length 9 q13 p11 st12).bind fun st14 =>
(an q5 0).bind fun p15 =>
(ag false 1 p15 st14).bind fun p16 =>
(aW Tryz.prog true .eql 138 p16 (PV.v (.int .i64 3))).bind fun p17 =>
aE p17 fun b18 => (bif b18 then
(an q5 2).bind fun p20 =>
(ag false 1 p20 st14).bind fun p21 =>
aH (st14 = st14) <|
(an q13 0).bind fun p22 =>
(av st.stk.length 1 p22 (PV.v (.int .i64 1)) st14).bind fun st23 =>
aH (((ag false 1 p20 st23).bind fun p24 =>
some (Rs.ret p24, st23)) = some (Rs.ret p21, st23)) <|
(an q13 2).bind fun p25 =>
(av st.stk.length 1 p25 p21 st23).bind fun st26 =>
some (Ex.normal, [q2, q13], st26)
else
(an q5 0).bind fun p27 =>
(ag false 1 p27 st14).bind fun p28 =>
(aW Tryz.prog true .eql 138 p28 (PV.v (.int .i64 4))).bind fun p29 =>
aE p29 fun b30 => (bif b30 then
(an q5 2).bind fun p32 =>
(ag false 1 p32 st14).bind fun p33 =>
aH (st14 = st14) <|
(an q13 0).bind fun p34 =>
(av st.stk.length 1 p34 (PV.v (.int .i64 2)) st14).bind fun st35 =>
aH (((ag false 1 p32 st35).bind fun p36 =>
some (Rs.ret p36, st35)) = some (Rs.ret p33, st35)) <|
(an q13 2).bind fun p37 =>
(av st.stk.length 1 p37 p33 st35).bind fun st38 =>
some (Ex.normal, [q2, q13], st38)
else
(an q5 0).bind fun p39 =>
(ag false 1 p39 st14).bind fun p40 =>
(aW Tryz.prog true .eql 138 p40 (PV.v (.int .i64 1))).bind fun p41 =>
aE p41 fun b42 => (bif b42 then
(an q5 1).bind fun p44 =>
(ag false 1 p44 st14).bind fun p45 =>
aH (st14 = st14) <|
(an q13 0).bind fun p46 =>
(av st.stk.length 1 p46 (PV.v (.int .i64 5)) st14).bind fun st47 =>
aH (((ag false 1 p44 st47).bind fun p48 =>
some (Rs.ret p48, st47)) = some (Rs.ret p45, st47)) <|
(an q13 5).bind fun p49 =>
(av st.stk.length 1 p49 p45 st47).bind fun st50 =>
some (Ex.normal, [q2, q13], st50)
else
(an q5 0).bind fun p51 =>
(ag false 1 p51 st14).bind fun p52 =>
(aW Tryz.prog true .eql 138 p52 (PV.v (.int .i64 2))).bind fun p53 =>
(onG p53 true (
(an q5 1).bind fun p56 =>
some (p56, st14)) st14).bind fun r55 =>
(onG p53 true (
(ag false 1 r55.1 r55.2).bind fun p59 =>
some (p59, r55.2)) r55.2).bind fun r58 =>
(onG p53 true (
(aW Tryz.prog true .eql 9 r58.1 (PV.v (.string ⟨#[105, 110, 112, 117, 116]⟩))).bind fun p62 =>
some (p62, r58.2)) r58.2).bind fun r61 =>
(bX p53 r61.1 (PV.v (.bool false))).bind fun p63 =>
aE p63 fun b64 => (bif b64 then
(call (.func 121) [ai a0, ai (PV.v (.int .i64 3))] r61.2).bind fun r66 =>
aV r66 (fun p67 st68 =>
(gH Tryz.prog 140 p67 2).bind fun p72 =>
(an q13 0).bind fun p73 =>
(av st.stk.length 1 p73 (PV.v (.int .i64 4)) st68).bind fun st74 =>
(an q13 2).bind fun p75 =>
(av st.stk.length 1 p75 p72 st74).bind fun st76 =>
some (Ex.normal, [q2, q13], st76)) (fun t69 x70 st71 =>
some ((Ex.pan t69 x70), [q2, q13], st71))
else
(an q5 0).bind fun p77 =>
(ag false 1 p77 r61.2).bind fun p78 =>
(aW Tryz.prog true .eql 138 p78 (PV.v (.int .i64 2))).bind fun p79 =>
(onG p79 true (
(an q5 1).bind fun p82 =>
some (p82, r61.2)) r61.2).bind fun r81 =>
(onG p79 true (
(ag false 1 r81.1 r81.2).bind fun p85 =>
some (p85, r81.2)) r81.2).bind fun r84 =>
(onG p79 true (
(aW Tryz.prog true .eql 9 r84.1 (PV.v (.string ⟨#[110, 105, 108]⟩))).bind fun p88 =>
some (p88, r84.2)) r84.2).bind fun r87 =>
(bX p79 r87.1 (PV.v (.bool false))).bind fun p89 =>
aE p89 fun b90 => (bif b90 then
(bq [(0, 1), (1, 1)] [.v (.int .i64 0), .v (.string ⟨#[]⟩)] [(0, (PV.v (.int .i64 3)))]).bind fun p92 =>
(an q13 0).bind fun p93 =>
(av st.stk.length 1 p93 (PV.v (.int .i64 3)) r87.2).bind fun st94 =>
(an q13 3).bind fun p95 =>
(av st.stk.length 2 p95 p92 st94).bind fun st96 =>
(call (.func 68) [ai a0, ai (PV.v (.string ⟨#[105, 110, 116, 115]⟩))] st96).bind fun r97 =>
(aUn Tryz.prog .not r97.1).bind fun p98 =>
aE p98 fun b99 => (bif b99 then
(call (.func 121) [ai a0, ai (PV.v (.int .i64 1))] r97.2).bind fun r101 =>
aV r101 (fun p102 st103 =>
(gH Tryz.prog 140 p102 1).bind fun p107 =>
(bq [(0, 1), (1, 1)] [.v (.int .i64 0), .v (.string ⟨#[]⟩)] [(0, (PV.v (.int .i64 4))), (1, p107)]).bind fun p108 =>
(an q13 3).bind fun p109 =>
(av st.stk.length 2 p109 p108 st103).bind fun st110 =>
some (Ex.normal, [q2, q13], st110)) (fun t104 x105 st106 =>
some ((Ex.pan t104 x105), [q2, q13], st106))
else
some (Ex.normal, [q2, q13], r97.2)).bind fun r100 =>
some (r100.1, [(ae r100.2.1 0), (ae r100.2.1 1)], r100.2.2)
else
(an q5 0).bind fun p111 =>
(ag false 1 p111 r87.2).bind fun p112 =>
(aW Tryz.prog true .eql 138 p112 (PV.v (.int .i64 5))).bind fun p113 =>
(onG p113 true (
(an q5 1).bind fun p116 =>
some (p116, r87.2)) r87.2).bind fun r115 =>
(onG p113 true (
(ag false 1 r115.1 r115.2).bind fun p119 =>
some (p119, r115.2)) r115.2).bind fun r118 =>
(onG p113 true (
(aW Tryz.prog true .eql 9 r118.1 (PV.v (.string ⟨#[40]⟩))).bind fun p122 =>
some (p122, r118.2)) r118.2).bind fun r121 =>
(bX p113 r121.1 (PV.v (.bool false))).bind fun p123 =>
aE p123 fun b124 => (bif b124 then
(ag true 5 q5 r121.2).bind fun p126 =>
(call (.func 123) [ai a0, ai p126] r121.2).bind fun r127 =>
aV r127 (fun p128 st129 =>
(call (.func 157) [ai a0] st129).bind fun r133 =>
aV r133 (fun p134 st135 =>
(av st.stk.length 9 q13 p134 st135).bind fun st139 =>
(call (.func 71) [ai a0, ai (PV.v (.string ⟨#[41]⟩))] st139).bind fun r140 =>
aV r140 (fun p141 st142 =>
(aI a0).bind fun p146 =>
(an p146 2).bind fun p147 =>
(ag false 1 p147 st142).bind fun p148 =>
(aW Tryz.prog true .sub 3 p148 (PV.v (.int .i64 1))).bind fun p149 =>
(aI a0).bind fun p150 =>
(an p150 2).bind fun p151 =>
(av st.stk.length 1 p151 p149 st142).bind fun st152 =>
some (Ex.normal, [q2, q13], st152)) (fun t143 x144 st145 =>
some ((Ex.pan t143 x144), [q2, q13], st145))) (fun t136 x137 st138 =>
some ((Ex.pan t136 x137), [q2, q13], st138))) (fun t130 x131 st132 =>
some ((Ex.pan t130 x131), [q2, q13], st132))
else
(ag true 5 q5 r121.2).bind fun p153 =>
(call (.func 74) [ai a0, ai (PV.v (.int .i64 4)), ai p153] r121.2).bind fun r154 =>
aV r154 (fun p155 st156 =>
some (Ex.normal, [q2, q13], st156)) (fun t157 x158 st159 =>
some ((Ex.pan t157 x158), [q2, q13], st159))).bind fun r125 =>
some (r125.1, [(ae r125.2.1 0), (ae r125.2.1 1)], r125.2.2)).bind fun r91 =>
some (r91.1, [(ae r91.2.1 0), (ae r91.2.1 1)], r91.2.2)).bind fun r65 =>
some (r65.1, [(ae r65.2.1 0), (ae r65.2.1 1)], r65.2.2)).bind fun r43 =>
some (r43.1, [(ae r43.2.1 0), (ae r43.2.1 1)], r43.2.2)).bind fun r31 =>
some (r31.1, [(ae r31.2.1 0), (ae r31.2.1 1)], r31.2.2)).bind fun r19 =>
bW (Ex.bn 0 r19.1) ((ag true 9 (ae r19.2.1 1) r19.2.2).bind fun p161 =>
(av st.stk.length 9 (ae r19.2.1 0) p161 r19.2.2).bind fun st162 =>
(ag true 9 (ae r19.2.1 0) st162).bind fun p163 =>
fin st.stk.length st.tk.length st.lp.length [p163] st162) fun x160 =>
fW st.stk.length st.tk.length st.lp.length x160 r19.2.2 ((ag true 9 (ae r19.2.1 0) r19.2.2).bind fun p164 =>
fin st.stk.length st.tk.length st.lp.length [p164] r19.2.2)
theorem iE (a0 : PV) (st : St) : E L (.func 198) [a0] st = ot (E L) itE a0 st := (bN (by kernel_rfl) Tryz.func198 _ _).trans (by kernel_rfl)
noncomputable def qz (call : bB) (it : bO) (a0 : PV) (st : St) : Option (PV × St) :=
let q2 : PV := .ptr false st.stk.length 0
let st1 := st.push [.v (.int .i64 0), .v (.int .i64 0), .v (.int .u64 0), .v (.int .i64 0), .v (.string ⟨#[]⟩), .v (.string ⟨#[]⟩), .sl [] .nil, .v (.int .i64 0), .v (.int .i64 0)]
(call (.func 67) [ai a0] st1).bind fun r3 =>
let q5 : PV := .ptr false r3.2.stk.length 0
let st4 := r3.2.push [.v (.int .i64 0), .v (.string ⟨#[]⟩), .v (.int .u64 0), .v (.int .i64 0), .v (.int .i64 0)]
(av st.stk.length 5 q5 r3.1 st4).bind fun st6 =>
(an q5 0).bind fun p7 =>
(ag false 1 p7 st6).bind fun p8 =>
(aW Tryz.prog true .eql 138 p8 (PV.v (.int .i64 2))).bind fun p9 =>
(onG p9 false (
(an q5 0).bind fun p12 =>
some (p12, st6)) st6).bind fun r11 =>
(onG p9 false (
(ag false 1 r11.1 r11.2).bind fun p15 =>
some (p15, r11.2)) r11.2).bind fun r14 =>
(onG p9 false (
(aW Tryz.prog true .eql 138 r14.1 (PV.v (.int .i64 5))).bind fun p18 =>
some (p18, r14.2)) r14.2).bind fun r17 =>
(bX p9 (PV.v (.bool true)) r17.1).bind fun p19 =>
aE p19 fun b20 => (bif b20 then
(an q5 1).bind fun p22 =>
(ag false 1 p22 r17.2).bind fun p23 =>
(call (.func 197) [ai p23] r17.2).bind fun r24 =>
some (Ex.normal, [a0, q2, q5, r24.1], r24.2)
else
some (Ex.normal, [a0, q2, q5, (PV.v (.int .i64 0))], r17.2)).bind fun r21 =>
bW r21.1 ((aW Tryz.prog true .eql 3 (ae r21.2.1 3) (PV.v (.int .i64 0))).bind fun p26 =>
aE p26 fun b27 => (bif b27 then
(call (.func 198) [ai (ae r21.2.1 0)] r21.2.2).bind fun r29 =>
aV r29 (fun p30 st31 =>
(av st.stk.length 9 (ae r21.2.1 1) p30 st31).bind fun st35 =>
some (Ex.ret, [(ae r21.2.1 0), (ae r21.2.1 1), (ae r21.2.1 2), (ae r21.2.1 3)], st35)) (fun t32 x33 st34 =>
some ((Ex.pan t32 x33), [(ae r21.2.1 0), (ae r21.2.1 1), (ae r21.2.1 2), (ae r21.2.1 3)], st34))
else
some (Ex.normal, [(ae r21.2.1 0), (ae r21.2.1 1), (ae r21.2.1 2), (ae r21.2.1 3)], r21.2.2)).bind fun r28 =>
bW r28.1 ((call (.func 151) [ai (ae r28.2.1 0)] r28.2.2).bind fun r37 =>
(ag true 5 (ae r28.2.1 2) r37.2).bind fun p38 =>
(call (.func 123) [ai (ae r28.2.1 0), ai p38] r37.2).bind fun r39 =>
aV r39 (fun p40 st41 =>
(call (.func 187) [ai (ae r28.2.1 0)] st41).bind fun r45 =>
aV r45 (fun p46 st47 =>
aH (((call (.func 187) [ai (ae r28.2.1 0)] (St.push st41 [.v (.int .i64 0), .v (.int .i64 0), .v (.int .u64 0), .v (.int .i64 0), .v (.string ⟨#[]⟩), .v (.string ⟨#[]⟩), .sl [] .nil, .v (.int .i64 0), .v (.int .i64 0)])).bind fun r51 =>
aV r51 (fun p52 st53 =>
some (Rs.ret p52, st53)) (fun t54 x55 st56 =>
some (Rs.pan t54 x55, st56))) = some (Rs.ret p46, (St.push st47 [.v (.int .i64 0), .v (.int .i64 0), .v (.int .u64 0), .v (.int .i64 0), .v (.string ⟨#[]⟩), .v (.string ⟨#[]⟩), .sl [] .nil, .v (.int .i64 0), .v (.int .i64 0)]))) <|
aH (st47.stk.length = st41.stk.length) <|
(aF 9 [.v (.int .i64 0), .v (.int .i64 0), .v (.int .u64 0), .v (.int .i64 0), .v (.string ⟨#[]⟩), .v (.string ⟨#[]⟩), .sl [] .nil, .v (.int .i64 0), .v (.int .i64 0)] 1 [(0, p46)]).bind fun p57 =>
(an (ae r28.2.1 2) 3).bind fun p58 =>
(ag false 1 p58 st47).bind fun p59 =>
aH (st47 = st47) <|
aH (((ag false 1 p58 (St.push st47 [.v (.int .i64 0), .v (.int .i64 0), .v (.int .u64 0), .v (.int .i64 0), .v (.string ⟨#[]⟩), .v (.string ⟨#[]⟩), .sl [] .nil, .v (.int .i64 0), .v (.int .i64 0)])).bind fun p60 =>
some (Rs.ret p60, (St.push st47 [.v (.int .i64 0), .v (.int .i64 0), .v (.int .u64 0), .v (.int .i64 0), .v (.string ⟨#[]⟩), .v (.string ⟨#[]⟩), .sl [] .nil, .v (.int .i64 0), .v (.int .i64 0)]))) = some (Rs.ret p59, (St.push st47 [.v (.int .i64 0), .v (.int .i64 0), .v (.int .u64 0), .v (.int .i64 0), .v (.string ⟨#[]⟩), .v (.string ⟨#[]⟩), .sl [] .nil, .v (.int .i64 0), .v (.int .i64 0)]))) <|
aH (((ag false 1 p58 st41).bind fun p61 =>
some (Rs.ret p61, st41)) = some (Rs.ret p59, st41)) <|
aH (((ag false 1 p58 (St.push st41 [.v (.int .i64 0), .v (.int .i64 0), .v (.int .u64 0), .v (.int .i64 0), .v (.string ⟨#[]⟩), .v (.string ⟨#[]⟩), .sl [] .nil, .v (.int .i64 0), .v (.int .i64 0)])).bind fun p62 =>
some (Rs.ret p62, (St.push st41 [.v (.int .i64 0), .v (.int .i64 0), .v (.int .u64 0), .v (.int .i64 0), .v (.string ⟨#[]⟩), .v (.string ⟨#[]⟩), .sl [] .nil, .v (.int .i64 0), .v (.int .i64 0)]))) = some (Rs.ret p59, (St.push st41 [.v (.int .i64 0), .v (.int .i64 0), .v (.int .u64 0), .v (.int .i64 0), .v (.string ⟨#[]⟩), .v (.string ⟨#[]⟩), .sl [] .nil, .v (.int .i64 0), .v (.int .i64 0)]))) <|
(an (ae r28.2.1 2) 4).bind fun p63 =>
(ag false 1 p63 st47).bind fun p64 =>
aH (st47 = st47) <|
aH (((ag false 1 p63 (St.push st47 [.v (.int .i64 0), .v (.int .i64 0), .v (.int .u64 0), .v (.int .i64 0), .v (.string ⟨#[]⟩), .v (.string ⟨#[]⟩), .sl [] .nil, .v (.int .i64 0), .v (.int .i64 0)])).bind fun p65 =>
some (Rs.ret p65, (St.push st47 [.v (.int .i64 0), .v (.int .i64 0), .v (.int .u64 0), .v (.int .i64 0), .v (.string ⟨#[]⟩), .v (.string ⟨#[]⟩), .sl [] .nil, .v (.int .i64 0), .v (.int .i64 0)]))) = some (Rs.ret p64, (St.push st47 [.v (.int .i64 0), .v (.int .i64 0), .v (.int .u64 0), .v (.int .i64 0), .v (.string ⟨#[]⟩), .v (.string ⟨#[]⟩), .sl [] .nil, .v (.int .i64 0), .v (.int .i64 0)]))) <|
aH (((ag false 1 p63 st41).bind fun p66 =>
some (Rs.ret p66, st41)) = some (Rs.ret p64, st41)) <|
aH (((ag false 1 p63 (St.push st41 [.v (.int .i64 0), .v (.int .i64 0), .v (.int .u64 0), .v (.int .i64 0), .v (.string ⟨#[]⟩), .v (.string ⟨#[]⟩), .sl [] .nil, .v (.int .i64 0), .v (.int .i64 0)])).bind fun p67 =>
some (Rs.ret p67, (St.push st41 [.v (.int .i64 0), .v (.int .i64 0), .v (.int .u64 0), .v (.int .i64 0), .v (.string ⟨#[]⟩), .v (.string ⟨#[]⟩), .sl [] .nil, .v (.int .i64 0), .v (.int .i64 0)]))) = some (Rs.ret p64, (St.push st41 [.v (.int .i64 0), .v (.int .i64 0), .v (.int .u64 0), .v (.int .i64 0), .v (.string ⟨#[]⟩), .v (.string ⟨#[]⟩), .sl [] .nil, .v (.int .i64 0), .v (.int .i64 0)]))) <|
(bq [(0, 1), (1, 1), (2, 1), (3, 2), (5, 1), (6, 1), (7, 1), (8, 1)] [.v (.int .i64 0), .v (.int .i64 0), .v (.int .u64 0), .v (.int .i64 0), .v (.string ⟨#[]⟩), .v (.string ⟨#[]⟩), .sl [] .nil, .v (.int .i64 0), .v (.int .i64 0)] [(0, (ae r28.2.1 3)), (5, p57), (6, p59), (7, p64)]).bind fun p68 =>
(av st.stk.length 9 (PV.ptr false st41.stk.length 0) p68 (St.push st47 [.v (.int .i64 0), .v (.int .i64 0), .v (.int .u64 0), .v (.int .i64 0), .v (.string ⟨#[]⟩), .v (.string ⟨#[]⟩), .sl [] .nil, .v (.int .i64 0), .v (.int .i64 0)])).bind fun st69 =>
(aI (ae r28.2.1 0)).bind fun p70 =>
(an p70 2).bind fun p71 =>
(ag false 1 p71 st69).bind fun p72 =>
(aW Tryz.prog true .sub 3 p72 (PV.v (.int .i64 1))).bind fun p73 =>
(aI (ae r28.2.1 0)).bind fun p74 =>
(an p74 2).bind fun p75 =>
(av st.stk.length 1 p75 p73 st69).bind fun st76 =>
(ag true 9 (PV.ptr false st41.stk.length 0) st76).bind fun p77 =>
(av st.stk.length 9 (ae r28.2.1 1) p77 st76).bind fun st78 =>
(ag true 9 (ae r28.2.1 1) st78).bind fun p79 =>
fin st.stk.length st.tk.length st.lp.length [p79] st78) (fun t48 x49 st50 =>
aH (((call (.func 187) [ai (ae r28.2.1 0)] (St.push st41 [.v (.int .i64 0), .v (.int .i64 0), .v (.int .u64 0), .v (.int .i64 0), .v (.string ⟨#[]⟩), .v (.string ⟨#[]⟩), .sl [] .nil, .v (.int .i64 0), .v (.int .i64 0)])).bind fun r81 =>
aV r81 (fun p82 st83 =>
some (Rs.ret p82, st83)) (fun t84 x85 st86 =>
some (Rs.pan t84 x85, st86))) = some (Rs.pan t48 x49, (St.push st50 [.v (.int .i64 0), .v (.int .i64 0), .v (.int .u64 0), .v (.int .i64 0), .v (.string ⟨#[]⟩), .v (.string ⟨#[]⟩), .sl [] .nil, .v (.int .i64 0), .v (.int .i64 0)]))) <|
(some (PV.pan t48 x49, st50.back st.stk.length st.tk.length st.lp.length)).bind fun r80 =>
aH ((some (PV.pan t48 x49, (St.push st50 [.v (.int .i64 0), .v (.int .i64 0), .v (.int .u64 0), .v (.int .i64 0), .v (.string ⟨#[]⟩), .v (.string ⟨#[]⟩), .sl [] .nil, .v (.int .i64 0), .v (.int .i64 0)]).back st.stk.length st.tk.length st.lp.length)) = some r80) <|
(an (ae r28.2.1 2) 3).bind fun p87 =>
(ag false 1 p87 st41).bind fun p88 =>
aH (st41 = st41) <|
aH (((ag false 1 p87 (St.push st41 [.v (.int .i64 0), .v (.int .i64 0), .v (.int .u64 0), .v (.int .i64 0), .v (.string ⟨#[]⟩), .v (.string ⟨#[]⟩), .sl [] .nil, .v (.int .i64 0), .v (.int .i64 0)])).bind fun p89 =>
some (Rs.ret p89, (St.push st41 [.v (.int .i64 0), .v (.int .i64 0), .v (.int .u64 0), .v (.int .i64 0), .v (.string ⟨#[]⟩), .v (.string ⟨#[]⟩), .sl [] .nil, .v (.int .i64 0), .v (.int .i64 0)]))) = some (Rs.ret p88, (St.push st41 [.v (.int .i64 0), .v (.int .i64 0), .v (.int .u64 0), .v (.int .i64 0), .v (.string ⟨#[]⟩), .v (.string ⟨#[]⟩), .sl [] .nil, .v (.int .i64 0), .v (.int .i64 0)]))) <|
(an (ae r28.2.1 2) 4).bind fun p90 =>
(ag false 1 p90 st41).bind fun p91 =>
aH (st41 = st41) <|
aH (((ag false 1 p90 (St.push st41 [.v (.int .i64 0), .v (.int .i64 0), .v (.int .u64 0), .v (.int .i64 0), .v (.string ⟨#[]⟩), .v (.string ⟨#[]⟩), .sl [] .nil, .v (.int .i64 0), .v (.int .i64 0)])).bind fun p92 =>
some (Rs.ret p92, (St.push st41 [.v (.int .i64 0), .v (.int .i64 0), .v (.int .u64 0), .v (.int .i64 0), .v (.string ⟨#[]⟩), .v (.string ⟨#[]⟩), .sl [] .nil, .v (.int .i64 0), .v (.int .i64 0)]))) = some (Rs.ret p91, (St.push st41 [.v (.int .i64 0), .v (.int .i64 0), .v (.int .u64 0), .v (.int .i64 0), .v (.string ⟨#[]⟩), .v (.string ⟨#[]⟩), .sl [] .nil, .v (.int .i64 0), .v (.int .i64 0)]))) <|
some r80)) (fun t42 x43 st44 =>
some (PV.pan t42 x43, st44.back st.stk.length st.tk.length st.lp.length))) fun x36 =>
fW st.stk.length st.tk.length st.lp.length x36 r28.2.2 ((ag true 9 (ae r28.2.1 1) r28.2.2).bind fun p93 =>
fin st.stk.length st.tk.length st.lp.length [p93] r28.2.2)) fun x25 =>
fW st.stk.length st.tk.length st.lp.length x25 r21.2.2 ((ag true 9 (ae r21.2.1 1) r21.2.2).bind fun p94 =>
fin st.stk.length st.tk.length st.lp.length [p94] r21.2.2)
theorem mw (a0 : PV) (st : St) : E L (.func 187) [a0] st = qz (E L) itE a0 st := (bN (by kernel_rfl) Tryz.func187 _ _).trans (by kernel_rfl)
noncomputable def D6 (call : bB) (it : bO) (a0 : PV) (st : St) : Option (PV × St) :=
(kA Tryz.prog 198 [(0, (PV.v (.string ⟨#[32, 61, 61, 32, 33, 61, 32, 60, 32, 60, 61, 32]⟩))), (1, (PV.v (.string ⟨#[32, 43, 32, 45, 32]⟩))), (2, (PV.v (.string ⟨#[32, 42, 32, 47, 32, 37, 32]⟩)))]).bind fun p1 =>
(dG Tryz.prog 198 p1 a0).bind fun p2 =>
fin st.stk.length st.tk.length st.lp.length [p2] st
theorem D7 (a0 : PV) (st : St) : E L (.func 188) [a0] st = D6 (E L) itE a0 st := (bN (by kernel_rfl) Tryz.func188 _ _).trans (by kernel_rfl)
noncomputable def fc.b0 (call : bB) (it : bO) (base lb : Nat) (vs3 : List PV) (st4 : St) : Option (Ex × List PV × St) :=
(aW Tryz.prog true .lss 3 (ae vs3 3) (PV.v (.int .i64 9))).bind fun p5 =>
aE p5 fun b6 => (bif b6 then
some (Ex.normal, [(ae vs3 0), (ae vs3 1), (ae vs3 2), (ae vs3 3)], st4)
else
some ((Ex.exit 0), [(ae vs3 0), (ae vs3 1), (ae vs3 2), (ae vs3 3)], st4)).bind fun r7 =>
bW r7.1 ((dG Tryz.prog 126 (ae r7.2.1 2) (ae r7.2.1 3)).bind fun p9 =>
(aW Tryz.prog false .eql 9 p9 (ae r7.2.1 0)).bind fun p10 =>
aE p10 fun b11 => (bif b11 then
some (Ex.ret, [(ae r7.2.1 0), (ae r7.2.1 3), (ae r7.2.1 2), (ae r7.2.1 3)], r7.2.2)
else
some (Ex.normal, [(ae r7.2.1 0), (ae r7.2.1 1), (ae r7.2.1 2), (ae r7.2.1 3)], r7.2.2)).bind fun r12 =>
bW (Ex.bn 1 r12.1) ((aW Tryz.prog true .add 3 (ae r12.2.1 3) (PV.v (.int .i64 1))).bind fun p14 =>
some (Ex.normal, [(ae r12.2.1 0), (ae r12.2.1 1), (ae r12.2.1 2), p14], r12.2.2)) fun x13 =>
some (x13, [(ae r12.2.1 0), (ae r12.2.1 1), (ae r12.2.1 2), (ae r12.2.1 3)], r12.2.2)) fun x8 =>
some (x8, [(ae r7.2.1 0), (ae r7.2.1 1), (ae r7.2.1 2), (ae r7.2.1 3)], r7.2.2)
noncomputable def fc (call : bB) (it : bO) (a0 : PV) (st : St) : Option (PV × St) :=
(kA Tryz.prog 126 [(0, (PV.v (.string ⟨#[43]⟩))), (1, (PV.v (.string ⟨#[45]⟩))), (2, (PV.v (.string ⟨#[42]⟩))), (3, (PV.v (.string ⟨#[47]⟩))), (4, (PV.v (.string ⟨#[37]⟩))), (5, (PV.v (.string ⟨#[61, 61]⟩))), (6, (PV.v (.string ⟨#[33, 61]⟩))), (7, (PV.v (.string ⟨#[60]⟩))), (8, (PV.v (.string ⟨#[60, 61]⟩)))]).bind fun p1 =>
(it (fc.b0 call it st.stk.length st.lp.length) [a0, (PV.v (.int .i64 0)), p1, (PV.v (.int .i64 0))] st).bind fun r2 =>
bW (Ex.bn 0 r2.1) (fin st.stk.length st.tk.length st.lp.length [(PV.v (.int .i64 0))] r2.2.2) fun x15 =>
ef x15 (fin st.stk.length st.tk.length st.lp.length [(ae r2.2.1 1)] r2.2.2)
theorem D8 (a0 : PV) (st : St) : E L (.func 189) [a0] st = fc (E L) itE a0 st := (bN (by kernel_rfl) Tryz.func189 _ _).trans (by kernel_rfl)
noncomputable def oq.b0 (call : bB) (it : bO) (base lb : Nat) (vs25 : List PV) (st26 : St) : Option (Ex × List PV × St) :=
(call (.func 67) [ai (ae vs25 0)] st26).bind fun r27 =>
let q29 : PV := .ptr false r27.2.stk.length 0
let st28 := r27.2.push [.v (.int .i64 0), .v (.string ⟨#[]⟩), .v (.int .u64 0), .v (.int .i64 0), .v (.int .i64 0)]
(av base 5 q29 r27.1 st28).bind fun st30 =>
(an q29 0).bind fun p31 =>
(ag false 1 p31 st30).bind fun p32 =>
aH (st30 = st30) <|
(aW Tryz.prog true .neq 138 p32 (PV.v (.int .i64 5))).bind fun p33 =>
(onG p33 false (
some ((ae vs25 1), st30)) st30).bind fun r35 =>
(onG p33 false (
(call (.func 188) [ai r35.1] st30).bind fun r38 =>
some (r38.1, r38.2)) st30).bind fun r37 =>
aH (r37.2 = st30) <|
(onG p33 false (
(an q29 1).bind fun p41 =>
some (p41, st30)) st30).bind fun r40 =>
(onG p33 false (
(ag false 1 r40.1 st30).bind fun p44 =>
some (p44, st30)) st30).bind fun r43 =>
aH (r43.2 = st30) <|
(onG p33 false (
(aW Tryz.prog true .add 9 (PV.v (.string ⟨#[32]⟩)) r43.1).bind fun p47 =>
some (p47, st30)) st30).bind fun r46 =>
(onG p33 false (
(aW Tryz.prog true .add 9 r46.1 (PV.v (.string ⟨#[32]⟩))).bind fun p50 =>
some (p50, st30)) st30).bind fun r49 =>
(onG p33 false (
(call (.func 169) [ai r37.1, ai r49.1] st30).bind fun r53 =>
some (r53.1, r53.2)) st30).bind fun r52 =>
aH (r52.2 = st30) <|
(onG p33 false (
(aUn Tryz.prog .not r52.1).bind fun p56 =>
some (p56, st30)) st30).bind fun r55 =>
(bX p33 (PV.v (.bool true)) r55.1).bind fun p57 =>
aE p57 fun b58 => (bif b58 then
(ag true 9 (ae vs25 3) st30).bind fun p60 =>
(av base 9 (ae vs25 2) p60 st30).bind fun st61 =>
some (Ex.ret, [(ae vs25 0), (ae vs25 1), (ae vs25 2), (ae vs25 3), q29], st61)
else
some (Ex.normal, [(ae vs25 0), (ae vs25 1), (ae vs25 2), (ae vs25 3), q29], st30)).bind fun r59 =>
bW r59.1 ((call (.func 151) [ai (ae r59.2.1 0)] r59.2.2).bind fun r63 =>
(an (ae r59.2.1 4) 1).bind fun p64 =>
(ag false 1 p64 r63.2).bind fun p65 =>
aH (r63.2 = r63.2) <|
(call (.func 189) [ai p65] r63.2).bind fun r66 =>
aH (r66.2 = r63.2) <|
(ag true 9 (ae r59.2.1 3) r63.2).bind fun p67 =>
aH (r63.2 = r63.2) <|
(aW Tryz.prog true .add 3 (ae r59.2.1 1) (PV.v (.int .i64 1))).bind fun p68 =>
(call (.func 173) [ai (ae r59.2.1 0), ai p68] r63.2).bind fun r69 =>
aV r69 (fun p70 st71 =>
aH (((ag true 9 (ae r59.2.1 3) st71).bind fun p75 =>
some (Rs.ret p75, st71)) = some (Rs.ret p67, st71)) <|
(aF 9 [.v (.int .i64 0), .v (.int .i64 0), .v (.int .u64 0), .v (.int .i64 0), .v (.string ⟨#[]⟩), .v (.string ⟨#[]⟩), .sl [] .nil, .v (.int .i64 0), .v (.int .i64 0)] 2 [(0, p67), (1, p70)]).bind fun p76 =>
(an (ae r59.2.1 4) 3).bind fun p77 =>
(ag false 1 p77 st71).bind fun p78 =>
aH (st71 = st71) <|
aH (((ag false 1 p77 r63.2).bind fun p79 =>
some (Rs.ret p79, r63.2)) = some (Rs.ret p78, r63.2)) <|
(an (ae r59.2.1 4) 4).bind fun p80 =>
(ag false 1 p80 st71).bind fun p81 =>
aH (st71 = st71) <|
aH (((ag false 1 p80 r63.2).bind fun p82 =>
some (Rs.ret p82, r63.2)) = some (Rs.ret p81, r63.2)) <|
(bq [(0, 1), (1, 1), (2, 1), (3, 2), (5, 1), (6, 1), (7, 1), (8, 1)] [.v (.int .i64 0), .v (.int .i64 0), .v (.int .u64 0), .v (.int .i64 0), .v (.string ⟨#[]⟩), .v (.string ⟨#[]⟩), .sl [] .nil, .v (.int .i64 0), .v (.int .i64 0)] [(0, (PV.v (.int .i64 9))), (1, r66.1), (5, p76), (6, p78), (7, p81)]).bind fun p83 =>
(av base 9 (ae r59.2.1 3) p83 st71).bind fun st84 =>
(aW Tryz.prog true .eql 3 (ae r59.2.1 1) (PV.v (.int .i64 0))).bind fun p85 =>
aE p85 fun b86 => (bif b86 then
(ag true 9 (ae r59.2.1 3) st84).bind fun p88 =>
(av base 9 (ae r59.2.1 2) p88 st84).bind fun st89 =>
some (Ex.ret, [(ae r59.2.1 0), (ae r59.2.1 1), (ae r59.2.1 2), (ae r59.2.1 3)], st89)
else
some (Ex.normal, [(ae r59.2.1 0), (ae r59.2.1 1), (ae r59.2.1 2), (ae r59.2.1 3)], st84)).bind fun r87 =>
eC base lb st26.stk.length (Ex.bn 1 r87.1) [(ae r87.2.1 0), (ae r87.2.1 1), (ae r87.2.1 2), (ae r87.2.1 3)] r87.2.2) (fun t72 x73 st74 =>
(an (ae r59.2.1 4) 3).bind fun p90 =>
(ag false 1 p90 r63.2).bind fun p91 =>
aH (r63.2 = r63.2) <|
(an (ae r59.2.1 4) 4).bind fun p92 =>
(ag false 1 p92 r63.2).bind fun p93 =>
aH (r63.2 = r63.2) <|
eC base lb st26.stk.length (Ex.pan t72 x73) [(ae r59.2.1 0), (ae r59.2.1 1), (ae r59.2.1 2), (ae r59.2.1 3)] st74)) fun x62 =>
eC base lb st26.stk.length (Ex.bn 1 x62) [(ae r59.2.1 0), (ae r59.2.1 1), (ae r59.2.1 2), (ae r59.2.1 3)] r59.2.2
noncomputable def oq (call : bB) (it : bO) (a0 a1 : PV) (st : St) : Option (PV × St) :=
let q2 : PV := .ptr false st.stk.length 0
let st1 := st.push [.v (.int .i64 0), .v (.int .i64 0), .v (.int .u64 0), .v (.int .i64 0), .v (.string ⟨#[]⟩), .v (.string ⟨#[]⟩), .sl [] .nil, .v (.int .i64 0), .v (.int .i64 0)]
(aW Tryz.prog true .eql 3 a1 (PV.v (.int .i64 3))).bind fun p3 =>
aE p3 fun b4 => (bif b4 then
(call (.func 187) [ai a0] st1).bind fun r6 =>
aV r6 (fun p7 st8 =>
(av st.stk.length 9 q2 p7 st8).bind fun st12 =>
some (Ex.ret, [a0, a1, q2], st12)) (fun t9 x10 st11 =>
some ((Ex.pan t9 x10), [a0, a1, q2], st11))
else
some (Ex.normal, [a0, a1, q2], st1)).bind fun r5 =>
bW r5.1 ((aW Tryz.prog true .add 3 (ae r5.2.1 1) (PV.v (.int .i64 1))).bind fun p14 =>
(call (.func 173) [ai (ae r5.2.1 0), ai p14] r5.2.2).bind fun r15 =>
aV r15 (fun p16 st17 =>
let q22 : PV := .ptr false st17.stk.length 0
let st21 := st17.push [.v (.int .i64 0), .v (.int .i64 0), .v (.int .u64 0), .v (.int .i64 0), .v (.string ⟨#[]⟩), .v (.string ⟨#[]⟩), .sl [] .nil, .v (.int .i64 0), .v (.int .i64 0)]
(av st.stk.length 9 q22 p16 st21).bind fun st23 =>
(it (oq.b0 call it st.stk.length st.lp.length) [(ae r5.2.1 0), (ae r5.2.1 1), (ae r5.2.1 2), q22] st23).bind fun r24 =>
fW st.stk.length st.tk.length st.lp.length (Ex.bn 0 r24.1) r24.2.2 ((ag true 9 (ae r24.2.1 2) r24.2.2).bind fun p94 =>
fin st.stk.length st.tk.length st.lp.length [p94] r24.2.2)) (fun t18 x19 st20 =>
some (PV.pan t18 x19, st20.back st.stk.length st.tk.length st.lp.length))) fun x13 =>
fW st.stk.length st.tk.length st.lp.length x13 r5.2.2 ((ag true 9 (ae r5.2.1 2) r5.2.2).bind fun p95 =>
fin st.stk.length st.tk.length st.lp.length [p95] r5.2.2)
theorem ph (a0 a1 : PV) (st : St) : E L (.func 173) [a0, a1] st = oq (E L) itE a0 a1 st := (bN (by kernel_rfl) Tryz.func173 _ _).trans (by kernel_rfl)
noncomputable def FU (call : bB) (it : bO) (a0 : PV) (st : St) : Option (PV × St) :=
let q2 : PV := .ptr false st.stk.length 0
let st1 := st.push [.v (.int .i64 0), .v (.int .i64 0), .v (.int .u64 0), .v (.int .i64 0), .v (.string ⟨#[]⟩), .v (.string ⟨#[]⟩), .sl [] .nil, .v (.int .i64 0), .v (.int .i64 0)]
(call (.func 173) [ai a0, ai (PV.v (.int .i64 0))] st1).bind fun r3 =>
aV r3 (fun p4 st5 =>
(av st.stk.length 9 q2 p4 st5).bind fun st9 =>
(ag true 9 q2 st9).bind fun p10 =>
fin st.stk.length st.tk.length st.lp.length [p10] st9) (fun t6 x7 st8 =>
some (PV.pan t6 x7, st8.back st.stk.length st.tk.length st.lp.length))
theorem yT (a0 : PV) (st : St) : E L (.func 157) [a0] st = FU (E L) itE a0 st := (bN (by kernel_rfl) Tryz.func157 _ _).trans (by kernel_rfl)
noncomputable def vI (call : bB) (it : bO) (a0 : PV) (st : St) : Option (PV × St) :=
let q2 : PV := .ptr false st.stk.length 0
let st1 := st.push [.v (.int .i64 0), .v (.string ⟨#[]⟩), .v (.string ⟨#[]⟩), .v (.int .i64 0), .v (.int .i64 0), .v (.int .u64 0), .v (.int .i64 0), .v (.string ⟨#[]⟩), .v (.string ⟨#[]⟩), .sl [] .nil, .v (.int .i64 0), .v (.int .i64 0), .v (.int .i64 0), .v (.int .i64 0)]
(call (.func 121) [ai a0, ai (PV.v (.int .i64 1))] st1).bind fun r3 =>
aV r3 (fun p4 st5 =>
let q10 : PV := .ptr false st5.stk.length 0
let st9 := st5.push [.v (.int .i64 0), .v (.string ⟨#[]⟩), .v (.int .u64 0), .v (.int .i64 0), .v (.int .i64 0)]
(av st.stk.length 5 q10 p4 st9).bind fun st11 =>
(an q10 1).bind fun p12 =>
(ag false 1 p12 st11).bind fun p13 =>
(an q10 3).bind fun p14 =>
(ag false 1 p14 st11).bind fun p15 =>
(an q10 4).bind fun p16 =>
(ag false 1 p16 st11).bind fun p17 =>
(bq [(0, 1), (1, 1), (2, 1), (3, 9), (12, 1), (13, 1)] [.v (.int .i64 0), .v (.string ⟨#[]⟩), .v (.string ⟨#[]⟩), .v (.int .i64 0), .v (.int .i64 0), .v (.int .u64 0), .v (.int .i64 0), .v (.string ⟨#[]⟩), .v (.string ⟨#[]⟩), .sl [] .nil, .v (.int .i64 0), .v (.int .i64 0), .v (.int .i64 0), .v (.int .i64 0)] [(0, (PV.v (.int .i64 1))), (1, p13), (4, p15), (5, p17)]).bind fun p18 =>
let q20 : PV := .ptr false st11.stk.length 0
let st19 := st11.push [.v (.int .i64 0), .v (.string ⟨#[]⟩), .v (.string ⟨#[]⟩), .v (.int .i64 0), .v (.int .i64 0), .v (.int .u64 0), .v (.int .i64 0), .v (.string ⟨#[]⟩), .v (.string ⟨#[]⟩), .sl [] .nil, .v (.int .i64 0), .v (.int .i64 0), .v (.int .i64 0), .v (.int .i64 0)]
(av st.stk.length 14 q20 p18 st19).bind fun st21 =>
(call (.func 68) [ai a0, ai (PV.v (.string ⟨#[46]⟩))] st21).bind fun r22 =>
aE r22.1 fun b23 => (bif b23 then
(call (.func 121) [ai a0, ai (PV.v (.int .i64 1))] r22.2).bind fun r25 =>
aV r25 (fun p26 st27 =>
(gH Tryz.prog 140 p26 1).bind fun p31 =>
(an q20 0).bind fun p32 =>
(av st.stk.length 1 p32 (PV.v (.int .i64 2)) st27).bind fun st33 =>
(an q20 2).bind fun p34 =>
(av st.stk.length 1 p34 p31 st33).bind fun st35 =>
some (Ex.normal, [q2, q20], st35)) (fun t28 x29 st30 =>
some ((Ex.pan t28 x29), [q2, q20], st30))
else
(call (.func 68) [ai a0, ai (PV.v (.string ⟨#[91]⟩))] r22.2).bind fun r36 =>
aE r36.1 fun b37 => (bif b37 then
(call (.func 157) [ai a0] r36.2).bind fun r39 =>
aV r39 (fun p40 st41 =>
(an q20 0).bind fun p45 =>
(av st.stk.length 1 p45 (PV.v (.int .i64 3)) st41).bind fun st46 =>
(an q20 3).bind fun p47 =>
(av st.stk.length 9 p47 p40 st46).bind fun st48 =>
(call (.func 71) [ai a0, ai (PV.v (.string ⟨#[93]⟩))] st48).bind fun r49 =>
aV r49 (fun p50 st51 =>
some (Ex.normal, [q2, q20], st51)) (fun t52 x53 st54 =>
some ((Ex.pan t52 x53), [q2, q20], st54))) (fun t42 x43 st44 =>
some ((Ex.pan t42 x43), [q2, q20], st44))
else
some (Ex.normal, [q2, q20], r36.2)).bind fun r38 =>
some (r38.1, [(ae r38.2.1 0), (ae r38.2.1 1)], r38.2.2)).bind fun r24 =>
bW (Ex.bn 0 r24.1) ((ag true 14 (ae r24.2.1 1) r24.2.2).bind fun p56 =>
(av st.stk.length 14 (ae r24.2.1 0) p56 r24.2.2).bind fun st57 =>
(ag true 14 (ae r24.2.1 0) st57).bind fun p58 =>
fin st.stk.length st.tk.length st.lp.length [p58] st57) fun x55 =>
fW st.stk.length st.tk.length st.lp.length x55 r24.2.2 ((ag true 14 (ae r24.2.1 0) r24.2.2).bind fun p59 =>
fin st.stk.length st.tk.length st.lp.length [p59] r24.2.2)) (fun t6 x7 st8 =>
some (PV.pan t6 x7, st8.back st.stk.length st.tk.length st.lp.length))
theorem mr (a0 : PV) (st : St) : E L (.func 156) [a0] st = vI (E L) itE a0 st := (bN (by kernel_rfl) Tryz.func156 _ _).trans (by kernel_rfl)
noncomputable def sa (call : bB) (it : bO) (a0 : PV) (st : St) : Option (PV × St) :=
let q2 : PV := .ptr false st.stk.length 0
let st1 := st.push [.v (.int .i64 0), .v (.int .i64 0), .v (.int .i64 0), .v (.int .u64 0), .v (.int .i64 0), .v (.string ⟨#[]⟩), .v (.string ⟨#[]⟩), .sl [] .nil, .v (.int .i64 0), .v (.int .i64 0), .v (.int .i64 0), .v (.string ⟨#[]⟩), .v (.string ⟨#[]⟩), .v (.int .i64 0), .v (.int .i64 0), .v (.int .u64 0), .v (.int .i64 0), .v (.string ⟨#[]⟩), .v (.string ⟨#[]⟩), .sl [] .nil, .v (.int .i64 0), .v (.int .i64 0), .v (.int .i64 0), .v (.int .i64 0), .v (.string ⟨#[]⟩), .v (.int .i64 0), .v (.int .i64 0)]
(call (.func 67) [ai a0] st1).bind fun r3 =>
let q5 : PV := .ptr false r3.2.stk.length 0
let st4 := r3.2.push [.v (.int .i64 0), .v (.string ⟨#[]⟩), .v (.int .u64 0), .v (.int .i64 0), .v (.int .i64 0)]
(av st.stk.length 5 q5 r3.1 st4).bind fun st6 =>
(an q5 3).bind fun p7 =>
(ag false 1 p7 st6).bind fun p8 =>
(an q5 4).bind fun p9 =>
(ag false 1 p9 st6).bind fun p10 =>
(bq [(0, 1), (1, 9), (10, 14), (24, 1), (25, 1), (26, 1)] [.v (.int .i64 0), .v (.int .i64 0), .v (.int .i64 0), .v (.int .u64 0), .v (.int .i64 0), .v (.string ⟨#[]⟩), .v (.string ⟨#[]⟩), .sl [] .nil, .v (.int .i64 0), .v (.int .i64 0), .v (.int .i64 0), .v (.string ⟨#[]⟩), .v (.string ⟨#[]⟩), .v (.int .i64 0), .v (.int .i64 0), .v (.int .u64 0), .v (.int .i64 0), .v (.string ⟨#[]⟩), .v (.string ⟨#[]⟩), .sl [] .nil, .v (.int .i64 0), .v (.int .i64 0), .v (.int .i64 0), .v (.int .i64 0), .v (.string ⟨#[]⟩), .v (.int .i64 0), .v (.int .i64 0)] [(4, p8), (5, p10)]).bind fun p11 =>
let q13 : PV := .ptr false st6.stk.length 0
let st12 := st6.push [.v (.int .i64 0), .v (.int .i64 0), .v (.int .i64 0), .v (.int .u64 0), .v (.int .i64 0), .v (.string ⟨#[]⟩), .v (.string ⟨#[]⟩), .sl [] .nil, .v (.int .i64 0), .v (.int .i64 0), .v (.int .i64 0), .v (.string ⟨#[]⟩), .v (.string ⟨#[]⟩), .v (.int .i64 0), .v (.int .i64 0), .v (.int .u64 0), .v (.int .i64 0), .v (.string ⟨#[]⟩), .v (.string ⟨#[]⟩), .sl [] .nil, .v (.int .i64 0), .v (.int .i64 0), .v (.int .i64 0), .v (.int .i64 0), .v (.string ⟨#[]⟩), .v (.int .i64 0), .v (.int .i64 0)]
(av st.stk.length 27 q13 p11 st12).bind fun st14 =>
(call (.func 68) [ai a0, ai (PV.v (.string ⟨#[108, 111, 97, 100]⟩))] st14).bind fun r15 =>
aE r15.1 fun b16 => (bif b16 then
(call (.func 156) [ai a0] r15.2).bind fun r18 =>
aV r18 (fun p19 st20 =>
(an q13 0).bind fun p24 =>
(av st.stk.length 1 p24 (PV.v (.int .i64 2)) st20).bind fun st25 =>
(an q13 10).bind fun p26 =>
(av st.stk.length 14 p26 p19 st25).bind fun st27 =>
some (Ex.normal, [q2, q13], st27)) (fun t21 x22 st23 =>
some ((Ex.pan t21 x22), [q2, q13], st23))
else
(call (.func 68) [ai a0, ai (PV.v (.string ⟨#[115, 105, 122, 101]⟩))] r15.2).bind fun r28 =>
aE r28.1 fun b29 => (bif b29 then
(call (.func 121) [ai a0, ai (PV.v (.int .i64 1))] r28.2).bind fun r31 =>
aV r31 (fun p32 st33 =>
(gH Tryz.prog 140 p32 1).bind fun p37 =>
(an q13 0).bind fun p38 =>
(av st.stk.length 1 p38 (PV.v (.int .i64 5)) st33).bind fun st39 =>
(an q13 24).bind fun p40 =>
(av st.stk.length 1 p40 p37 st39).bind fun st41 =>
some (Ex.normal, [q2, q13], st41)) (fun t34 x35 st36 =>
some ((Ex.pan t34 x35), [q2, q13], st36))
else
(call (.func 68) [ai a0, ai (PV.v (.string ⟨#[110, 101, 119]⟩))] r28.2).bind fun r42 =>
aE r42.1 fun b43 => (bif b43 then
(call (.func 68) [ai a0, ai (PV.v (.string ⟨#[105, 110, 116, 115]⟩))] r42.2).bind fun r45 =>
aE r45.1 fun b46 => (bif b46 then
(call (.func 157) [ai a0] r45.2).bind fun r48 =>
aV r48 (fun p49 st50 =>
(an q13 0).bind fun p54 =>
(av st.stk.length 1 p54 (PV.v (.int .i64 4)) st50).bind fun st55 =>
(an q13 1).bind fun p56 =>
(av st.stk.length 9 p56 p49 st55).bind fun st57 =>
some (Ex.normal, [q2, q13], st57)) (fun t51 x52 st53 =>
some ((Ex.pan t51 x52), [q2, q13], st53))
else
(call (.func 121) [ai a0, ai (PV.v (.int .i64 1))] r45.2).bind fun r58 =>
aV r58 (fun p59 st60 =>
(gH Tryz.prog 140 p59 1).bind fun p64 =>
(an q13 0).bind fun p65 =>
(av st.stk.length 1 p65 (PV.v (.int .i64 3)) st60).bind fun st66 =>
(an q13 24).bind fun p67 =>
(av st.stk.length 1 p67 p64 st66).bind fun st68 =>
some (Ex.normal, [q2, q13], st68)) (fun t61 x62 st63 =>
some ((Ex.pan t61 x62), [q2, q13], st63))).bind fun r47 =>
some (r47.1, [(ae r47.2.1 0), (ae r47.2.1 1)], r47.2.2)
else
(call (.func 157) [ai a0] r42.2).bind fun r69 =>
aV r69 (fun p70 st71 =>
(an q13 0).bind fun p75 =>
(av st.stk.length 1 p75 (PV.v (.int .i64 1)) st71).bind fun st76 =>
(an q13 1).bind fun p77 =>
(av st.stk.length 9 p77 p70 st76).bind fun st78 =>
some (Ex.normal, [q2, q13], st78)) (fun t72 x73 st74 =>
some ((Ex.pan t72 x73), [q2, q13], st74))).bind fun r44 =>
some (r44.1, [(ae r44.2.1 0), (ae r44.2.1 1)], r44.2.2)).bind fun r30 =>
some (r30.1, [(ae r30.2.1 0), (ae r30.2.1 1)], r30.2.2)).bind fun r17 =>
bW (Ex.bn 0 r17.1) ((ag true 27 (ae r17.2.1 1) r17.2.2).bind fun p80 =>
(av st.stk.length 27 (ae r17.2.1 0) p80 r17.2.2).bind fun st81 =>
(ag true 27 (ae r17.2.1 0) st81).bind fun p82 =>
fin st.stk.length st.tk.length st.lp.length [p82] st81) fun x79 =>
fW st.stk.length st.tk.length st.lp.length x79 r17.2.2 ((ag true 27 (ae r17.2.1 0) r17.2.2).bind fun p83 =>
fin st.stk.length st.tk.length st.lp.length [p83] r17.2.2)
theorem jC (a0 : PV) (st : St) : E L (.func 155) [a0] st = sa (E L) itE a0 st := (bN (by kernel_rfl) Tryz.func155 _ _).trans (by kernel_rfl)
noncomputable def vH (call : bB) (it : bO) (a0 a1 : PV) (st : St) : Option (PV × St) :=
(cellsOf a1).bind fun b1 =>
let q3 : PV := .ptr false st.stk.length 0
let st2 := st.push b1
let q5 : PV := .ptr false st2.stk.length 0
let st4 := st2.push [.v (.int .i64 0), .v (.string ⟨#[]⟩), .v (.int .i64 0), .v (.int .i64 0), .v (.int .i64 0), .v (.int .u64 0), .v (.int .i64 0), .v (.string ⟨#[]⟩), .v (.string ⟨#[]⟩), .sl [] .nil, .v (.int .i64 0), .v (.int .i64 0), .v (.int .i64 0), .v (.string ⟨#[]⟩), .v (.string ⟨#[]⟩), .v (.int .i64 0), .v (.int .i64 0), .v (.int .u64 0), .v (.int .i64 0), .v (.string ⟨#[]⟩), .v (.string ⟨#[]⟩), .sl [] .nil, .v (.int .i64 0), .v (.int .i64 0), .v (.int .i64 0), .v (.int .i64 0), .v (.string ⟨#[]⟩), .v (.int .i64 0), .v (.int .i64 0), .v (.int .i64 0), .v (.string ⟨#[]⟩), .v (.string ⟨#[]⟩), .v (.int .i64 0), .v (.int .i64 0), .v (.int .u64 0), .v (.int .i64 0), .v (.string ⟨#[]⟩), .v (.string ⟨#[]⟩), .sl [] .nil, .v (.int .i64 0), .v (.int .i64 0), .v (.int .i64 0), .v (.int .i64 0), .v (.int .i64 0), .v (.int .i64 0), .v (.int .u64 0), .v (.int .i64 0), .v (.string ⟨#[]⟩), .v (.string ⟨#[]⟩), .sl [] .nil, .v (.int .i64 0), .v (.int .i64 0), .v (.int .i64 0), .sl [] .nil, .sl [] .nil, .sl [] .nil, .v (.int .i64 0), .v (.int .i64 0)]
(call (.func 151) [ai a0] st4).bind fun r6 =>
(gH Tryz.prog 140 r6.1 1).bind fun p7 =>
(an q3 1).bind fun p8 =>
(av st.stk.length 1 p8 p7 r6.2).bind fun st9 =>
(call (.func 68) [ai a0, ai (PV.v (.string ⟨#[58]⟩))] st9).bind fun r10 =>
aE r10.1 fun b11 => (bif b11 then
(call (.func 71) [ai a0, ai (PV.v (.string ⟨#[108, 111, 111, 112]⟩))] r10.2).bind fun r13 =>
aV r13 (fun p14 st15 =>
(ag true 58 q3 st15).bind fun p19 =>
(call (.func 153) [ai a0, ai p19] st15).bind fun r20 =>
aV r20 (fun p21 st22 =>
(av st.stk.length 58 q5 p21 st22).bind fun st26 =>
some (Ex.ret, [a0, q3, q5], st26)) (fun t23 x24 st25 =>
some ((Ex.pan t23 x24), [a0, q3, q5], st25))) (fun t16 x17 st18 =>
some ((Ex.pan t16 x17), [a0, q3, q5], st18))
else
some (Ex.normal, [a0, q3, q5], r10.2)).bind fun r12 =>
bW r12.1 ((an (ae r12.2.1 1) 0).bind fun p28 =>
(av st.stk.length 1 p28 (PV.v (.int .i64 3)) r12.2.2).bind fun st29 =>
(call (.func 71) [ai (ae r12.2.1 0), ai (PV.v (.string ⟨#[61]⟩))] st29).bind fun r30 =>
aV r30 (fun p31 st32 =>
(call (.func 155) [ai (ae r12.2.1 0)] st32).bind fun r36 =>
aV r36 (fun p37 st38 =>
(an (ae r12.2.1 1) 2).bind fun p42 =>
(av st.stk.length 27 p42 p37 st38).bind fun st43 =>
(call (.func 71) [ai (ae r12.2.1 0), ai (PV.v (.string ⟨#[59]⟩))] st43).bind fun r44 =>
aV r44 (fun p45 st46 =>
(ag true 58 (ae r12.2.1 1) st46).bind fun p50 =>
(av st.stk.length 58 (ae r12.2.1 2) p50 st46).bind fun st51 =>
(ag true 58 (ae r12.2.1 2) st51).bind fun p52 =>
fin st.stk.length st.tk.length st.lp.length [p52] st51) (fun t47 x48 st49 =>
some (PV.pan t47 x48, st49.back st.stk.length st.tk.length st.lp.length))) (fun t39 x40 st41 =>
some (PV.pan t39 x40, st41.back st.stk.length st.tk.length st.lp.length))) (fun t33 x34 st35 =>
some (PV.pan t33 x34, st35.back st.stk.length st.tk.length st.lp.length))) fun x27 =>
fW st.stk.length st.tk.length st.lp.length x27 r12.2.2 ((ag true 58 (ae r12.2.1 2) r12.2.2).bind fun p53 =>
fin st.stk.length st.tk.length st.lp.length [p53] r12.2.2)
theorem mq (a0 a1 : PV) (st : St) : E L (.func 152) [a0, a1] st = vH (E L) itE a0 a1 st := (bN (by kernel_rfl) Tryz.func152 _ _).trans (by kernel_rfl)
noncomputable def Af (call : bB) (it : bO) (a0 a1 : PV) (st : St) : Option (PV × St) :=
(cellsOf a1).bind fun b1 =>
let q3 : PV := .ptr false st.stk.length 0
let st2 := st.push b1
let q5 : PV := .ptr false st2.stk.length 0
let st4 := st2.push [.v (.int .i64 0), .v (.string ⟨#[]⟩), .v (.int .i64 0), .v (.int .i64 0), .v (.int .i64 0), .v (.int .u64 0), .v (.int .i64 0), .v (.string ⟨#[]⟩), .v (.string ⟨#[]⟩), .sl [] .nil, .v (.int .i64 0), .v (.int .i64 0), .v (.int .i64 0), .v (.string ⟨#[]⟩), .v (.string ⟨#[]⟩), .v (.int .i64 0), .v (.int .i64 0), .v (.int .u64 0), .v (.int .i64 0), .v (.string ⟨#[]⟩), .v (.string ⟨#[]⟩), .sl [] .nil, .v (.int .i64 0), .v (.int .i64 0), .v (.int .i64 0), .v (.int .i64 0), .v (.string ⟨#[]⟩), .v (.int .i64 0), .v (.int .i64 0), .v (.int .i64 0), .v (.string ⟨#[]⟩), .v (.string ⟨#[]⟩), .v (.int .i64 0), .v (.int .i64 0), .v (.int .u64 0), .v (.int .i64 0), .v (.string ⟨#[]⟩), .v (.string ⟨#[]⟩), .sl [] .nil, .v (.int .i64 0), .v (.int .i64 0), .v (.int .i64 0), .v (.int .i64 0), .v (.int .i64 0), .v (.int .i64 0), .v (.int .u64 0), .v (.int .i64 0), .v (.string ⟨#[]⟩), .v (.string ⟨#[]⟩), .sl [] .nil, .v (.int .i64 0), .v (.int .i64 0), .v (.int .i64 0), .sl [] .nil, .sl [] .nil, .sl [] .nil, .v (.int .i64 0), .v (.int .i64 0)]
(call (.func 157) [ai a0] st4).bind fun r6 =>
aV r6 (fun p7 st8 =>
(an q3 0).bind fun p12 =>
(av st.stk.length 1 p12 (PV.v (.int .i64 6)) st8).bind fun st13 =>
(an q3 43).bind fun p14 =>
(av st.stk.length 9 p14 p7 st13).bind fun st15 =>
(an q3 54).bind fun p16 =>
(av st.stk.length 1 p16 (PV.sl [] .nil) st15).bind fun st17 =>
(call (.func 73) [ai a0] st17).bind fun r18 =>
aV r18 (fun p19 st20 =>
(an q3 54).bind fun p24 =>
(av st.stk.length 1 p24 p19 st20).bind fun st25 =>
(call (.func 68) [ai a0, ai (PV.v (.string ⟨#[101, 108, 115, 101]⟩))] st25).bind fun r26 =>
aE r26.1 fun b27 => (bif b27 then
(call (.func 73) [ai a0] r26.2).bind fun r29 =>
aV r29 (fun p30 st31 =>
(an q3 55).bind fun p35 =>
(av st.stk.length 1 p35 p30 st31).bind fun st36 =>
some (Ex.normal, [q3, q5], st36)) (fun t32 x33 st34 =>
some ((Ex.pan t32 x33), [q3, q5], st34))
else
some (Ex.normal, [q3, q5], r26.2)).bind fun r28 =>
bW r28.1 ((ag true 58 (ae r28.2.1 0) r28.2.2).bind fun p38 =>
(av st.stk.length 58 (ae r28.2.1 1) p38 r28.2.2).bind fun st39 =>
(ag true 58 (ae r28.2.1 1) st39).bind fun p40 =>
fin st.stk.length st.tk.length st.lp.length [p40] st39) fun x37 =>
fW st.stk.length st.tk.length st.lp.length x37 r28.2.2 ((ag true 58 (ae r28.2.1 1) r28.2.2).bind fun p41 =>
fin st.stk.length st.tk.length st.lp.length [p41] r28.2.2)) (fun t21 x22 st23 =>
some (PV.pan t21 x22, st23.back st.stk.length st.tk.length st.lp.length))) (fun t9 x10 st11 =>
some (PV.pan t9 x10, st11.back st.stk.length st.tk.length st.lp.length))
theorem pf (a0 a1 : PV) (st : St) : E L (.func 154) [a0, a1] st = Af (E L) itE a0 a1 st := (bN (by kernel_rfl) Tryz.func154 _ _).trans (by kernel_rfl)
noncomputable def FV (call : bB) (it : bO) (a0 : PV) (st : St) : Option (PV × St) :=
(call (.func 67) [ai a0] st).bind fun r1 =>
(gH Tryz.prog 140 r1.1 0).bind fun p2 =>
(aW Tryz.prog true .eql 138 p2 (PV.v (.int .i64 1))).bind fun p3 =>
aE p3 fun b4 => (bif b4 then
(call (.func 151) [ai a0] r1.2).bind fun r6 =>
(gH Tryz.prog 140 r6.1 1).bind fun p7 =>
some (Ex.ret, [p7], r6.2)
else
some (Ex.normal, [(PV.v (.string ⟨#[]⟩))], r1.2)).bind fun r5 =>
bW r5.1 (fin st.stk.length st.tk.length st.lp.length [(PV.v (.string ⟨#[]⟩))] r5.2.2) fun x8 =>
ef x8 (fin st.stk.length st.tk.length st.lp.length [(ae r5.2.1 0)] r5.2.2)
theorem yU (a0 : PV) (st : St) : E L (.func 158) [a0] st = FV (E L) itE a0 st := (bN (by kernel_rfl) Tryz.func158 _ _).trans (by kernel_rfl)
noncomputable def pg.b0 (call : bB) (it : bO) (base lb : Nat) (vs12 : List PV) (st13 : St) : Option (Ex × List PV × St) :=
(call (.func 157) [ai (ae vs12 0)] st13).bind fun r14 =>
aV r14 (fun p15 st16 =>
(aF 9 [.v (.int .i64 0), .v (.int .i64 0), .v (.int .u64 0), .v (.int .i64 0), .v (.string ⟨#[]⟩), .v (.string ⟨#[]⟩), .sl [] .nil, .v (.int .i64 0), .v (.int .i64 0)] 1 [(0, p15)]).bind fun p20 =>
(aZ st16 p20).bind fun ys21 =>
(bA base [.v (.int .i64 0), .v (.int .i64 0), .v (.int .u64 0), .v (.int .i64 0), .v (.string ⟨#[]⟩), .v (.string ⟨#[]⟩), .sl [] .nil, .v (.int .i64 0), .v (.int .i64 0)] 9 104 (ae vs12 2) ys21 st16).bind fun r22 =>
(call (.func 68) [ai (ae vs12 0), ai (PV.v (.string ⟨#[41]⟩))] r22.2).bind fun r23 =>
aE r23.1 fun b24 => (bif b24 then
some (Ex.ret, [(ae vs12 0), r22.1, r22.1], r23.2)
else
some (Ex.normal, [(ae vs12 0), (ae vs12 1), r22.1], r23.2)).bind fun r25 =>
bW r25.1 ((call (.func 71) [ai (ae r25.2.1 0), ai (PV.v (.string ⟨#[44]⟩))] r25.2.2).bind fun r27 =>
aV r27 (fun p28 st29 =>
some (Ex.normal, [(ae r25.2.1 0), (ae r25.2.1 1), (ae r25.2.1 2)], st29)) (fun t30 x31 st32 =>
some ((Ex.pan t30 x31), [(ae r25.2.1 0), (ae r25.2.1 1), (ae r25.2.1 2)], st32))) fun x26 =>
some ((Ex.bn 1 x26), [(ae r25.2.1 0), (ae r25.2.1 1), (ae r25.2.1 2)], r25.2.2)) (fun t17 x18 st19 =>
some ((Ex.pan t17 x18), [(ae vs12 0), (ae vs12 1), (ae vs12 2)], st19))
noncomputable def pg (call : bB) (it : bO) (a0 : PV) (st : St) : Option (PV × St) :=
(call (.func 71) [ai a0, ai (PV.v (.string ⟨#[40]⟩))] st).bind fun r1 =>
aV r1 (fun p2 st3 =>
(call (.func 68) [ai a0, ai (PV.v (.string ⟨#[41]⟩))] st3).bind fun r7 =>
aE r7.1 fun b8 => (bif b8 then
some (Ex.ret, [a0, (PV.sl [] .nil), (PV.sl [] .nil)], r7.2)
else
some (Ex.normal, [a0, (PV.sl [] .nil), (PV.sl [] .nil)], r7.2)).bind fun r9 =>
bW r9.1 ((it (pg.b0 call it st.stk.length st.lp.length) [(ae r9.2.1 0), (ae r9.2.1 1), (ae r9.2.1 2)] r9.2.2).bind fun r11 =>
fW st.stk.length st.tk.length st.lp.length (Ex.bn 0 r11.1) r11.2.2 (fin st.stk.length st.tk.length st.lp.length [(ae r11.2.1 1)] r11.2.2)) fun x10 =>
fW st.stk.length st.tk.length st.lp.length x10 r9.2.2 (fin st.stk.length st.tk.length st.lp.length [(ae r9.2.1 1)] r9.2.2)) (fun t4 x5 st6 =>
some (PV.pan t4 x5, st6.back st.stk.length st.tk.length st.lp.length))
theorem rL (a0 : PV) (st : St) : E L (.func 159) [a0] st = pg (E L) itE a0 st := (bN (by kernel_rfl) Tryz.func159 _ _).trans (by kernel_rfl)
noncomputable def il (call : bB) (it : bO) (a0 : PV) (st : St) : Option (PV × St) :=
let q2 : PV := .ptr false st.stk.length 0
let st1 := st.push [.v (.int .i64 0), .v (.string ⟨#[]⟩), .v (.int .i64 0), .v (.int .i64 0), .v (.int .i64 0), .v (.int .u64 0), .v (.int .i64 0), .v (.string ⟨#[]⟩), .v (.string ⟨#[]⟩), .sl [] .nil, .v (.int .i64 0), .v (.int .i64 0), .v (.int .i64 0), .v (.string ⟨#[]⟩), .v (.string ⟨#[]⟩), .v (.int .i64 0), .v (.int .i64 0), .v (.int .u64 0), .v (.int .i64 0), .v (.string ⟨#[]⟩), .v (.string ⟨#[]⟩), .sl [] .nil, .v (.int .i64 0), .v (.int .i64 0), .v (.int .i64 0), .v (.int .i64 0), .v (.string ⟨#[]⟩), .v (.int .i64 0), .v (.int .i64 0), .v (.int .i64 0), .v (.string ⟨#[]⟩), .v (.string ⟨#[]⟩), .v (.int .i64 0), .v (.int .i64 0), .v (.int .u64 0), .v (.int .i64 0), .v (.string ⟨#[]⟩), .v (.string ⟨#[]⟩), .sl [] .nil, .v (.int .i64 0), .v (.int .i64 0), .v (.int .i64 0), .v (.int .i64 0), .v (.int .i64 0), .v (.int .i64 0), .v (.int .u64 0), .v (.int .i64 0), .v (.string ⟨#[]⟩), .v (.string ⟨#[]⟩), .sl [] .nil, .v (.int .i64 0), .v (.int .i64 0), .v (.int .i64 0), .sl [] .nil, .sl [] .nil, .sl [] .nil, .v (.int .i64 0), .v (.int .i64 0)]
(call (.func 67) [ai a0] st1).bind fun r3 =>
let q5 : PV := .ptr false r3.2.stk.length 0
let st4 := r3.2.push [.v (.int .i64 0), .v (.string ⟨#[]⟩), .v (.int .u64 0), .v (.int .i64 0), .v (.int .i64 0)]
(av st.stk.length 5 q5 r3.1 st4).bind fun st6 =>
(an q5 3).bind fun p7 =>
(ag false 1 p7 st6).bind fun p8 =>
(an q5 4).bind fun p9 =>
(ag false 1 p9 st6).bind fun p10 =>
(bq [(0, 1), (1, 1), (2, 27), (29, 14), (43, 9), (52, 1), (53, 1), (54, 1), (55, 1), (56, 1), (57, 1)] [.v (.int .i64 0), .v (.string ⟨#[]⟩), .v (.int .i64 0), .v (.int .i64 0), .v (.int .i64 0), .v (.int .u64 0), .v (.int .i64 0), .v (.string ⟨#[]⟩), .v (.string ⟨#[]⟩), .sl [] .nil, .v (.int .i64 0), .v (.int .i64 0), .v (.int .i64 0), .v (.string ⟨#[]⟩), .v (.string ⟨#[]⟩), .v (.int .i64 0), .v (.int .i64 0), .v (.int .u64 0), .v (.int .i64 0), .v (.string ⟨#[]⟩), .v (.string ⟨#[]⟩), .sl [] .nil, .v (.int .i64 0), .v (.int .i64 0), .v (.int .i64 0), .v (.int .i64 0), .v (.string ⟨#[]⟩), .v (.int .i64 0), .v (.int .i64 0), .v (.int .i64 0), .v (.string ⟨#[]⟩), .v (.string ⟨#[]⟩), .v (.int .i64 0), .v (.int .i64 0), .v (.int .u64 0), .v (.int .i64 0), .v (.string ⟨#[]⟩), .v (.string ⟨#[]⟩), .sl [] .nil, .v (.int .i64 0), .v (.int .i64 0), .v (.int .i64 0), .v (.int .i64 0), .v (.int .i64 0), .v (.int .i64 0), .v (.int .u64 0), .v (.int .i64 0), .v (.string ⟨#[]⟩), .v (.string ⟨#[]⟩), .sl [] .nil, .v (.int .i64 0), .v (.int .i64 0), .v (.int .i64 0), .sl [] .nil, .sl [] .nil, .sl [] .nil, .v (.int .i64 0), .v (.int .i64 0)] [(9, p8), (10, p10)]).bind fun p11 =>
let q13 : PV := .ptr false st6.stk.length 0
let st12 := st6.push [.v (.int .i64 0), .v (.string ⟨#[]⟩), .v (.int .i64 0), .v (.int .i64 0), .v (.int .i64 0), .v (.int .u64 0), .v (.int .i64 0), .v (.string ⟨#[]⟩), .v (.string ⟨#[]⟩), .sl [] .nil, .v (.int .i64 0), .v (.int .i64 0), .v (.int .i64 0), .v (.string ⟨#[]⟩), .v (.string ⟨#[]⟩), .v (.int .i64 0), .v (.int .i64 0), .v (.int .u64 0), .v (.int .i64 0), .v (.string ⟨#[]⟩), .v (.string ⟨#[]⟩), .sl [] .nil, .v (.int .i64 0), .v (.int .i64 0), .v (.int .i64 0), .v (.int .i64 0), .v (.string ⟨#[]⟩), .v (.int .i64 0), .v (.int .i64 0), .v (.int .i64 0), .v (.string ⟨#[]⟩), .v (.string ⟨#[]⟩), .v (.int .i64 0), .v (.int .i64 0), .v (.int .u64 0), .v (.int .i64 0), .v (.string ⟨#[]⟩), .v (.string ⟨#[]⟩), .sl [] .nil, .v (.int .i64 0), .v (.int .i64 0), .v (.int .i64 0), .v (.int .i64 0), .v (.int .i64 0), .v (.int .i64 0), .v (.int .u64 0), .v (.int .i64 0), .v (.string ⟨#[]⟩), .v (.string ⟨#[]⟩), .sl [] .nil, .v (.int .i64 0), .v (.int .i64 0), .v (.int .i64 0), .sl [] .nil, .sl [] .nil, .sl [] .nil, .v (.int .i64 0), .v (.int .i64 0)]
(av st.stk.length 58 q13 p11 st12).bind fun st14 =>
(an q5 0).bind fun p15 =>
(ag false 1 p15 st14).bind fun p16 =>
(aW Tryz.prog true .eql 138 p16 (PV.v (.int .i64 1))).bind fun p17 =>
aE p17 fun b18 => (bif b18 then
(ag true 58 q13 st14).bind fun p20 =>
(call (.func 152) [ai a0, ai p20] st14).bind fun r21 =>
aV r21 (fun p22 st23 =>
(av st.stk.length 58 q2 p22 st23).bind fun st27 =>
some (Ex.ret, [a0, q2, q5, q13], st27)) (fun t24 x25 st26 =>
some ((Ex.pan t24 x25), [a0, q2, q5, q13], st26))
else
some (Ex.normal, [a0, q2, q5, q13], st14)).bind fun r19 =>
bW r19.1 ((call (.func 68) [ai (ae r19.2.1 0), ai (PV.v (.string ⟨#[108, 111, 111, 112]⟩))] r19.2.2).bind fun r29 =>
aE r29.1 fun b30 => (bif b30 then
(ag true 58 (ae r19.2.1 3) r29.2).bind fun p32 =>
(call (.func 153) [ai (ae r19.2.1 0), ai p32] r29.2).bind fun r33 =>
aV r33 (fun p34 st35 =>
(av st.stk.length 58 (ae r19.2.1 1) p34 st35).bind fun st39 =>
some (Ex.ret, [(ae r19.2.1 0), (ae r19.2.1 1), (ae r19.2.1 3)], st39)) (fun t36 x37 st38 =>
some ((Ex.pan t36 x37), [(ae r19.2.1 0), (ae r19.2.1 1), (ae r19.2.1 3)], st38))
else
(call (.func 68) [ai (ae r19.2.1 0), ai (PV.v (.string ⟨#[105, 102]⟩))] r29.2).bind fun r40 =>
aE r40.1 fun b41 => (bif b41 then
(ag true 58 (ae r19.2.1 3) r40.2).bind fun p43 =>
(call (.func 154) [ai (ae r19.2.1 0), ai p43] r40.2).bind fun r44 =>
aV r44 (fun p45 st46 =>
(av st.stk.length 58 (ae r19.2.1 1) p45 st46).bind fun st50 =>
some (Ex.ret, [(ae r19.2.1 0), (ae r19.2.1 1), (ae r19.2.1 3)], st50)) (fun t47 x48 st49 =>
some ((Ex.pan t47 x48), [(ae r19.2.1 0), (ae r19.2.1 1), (ae r19.2.1 3)], st49))
else
(call (.func 68) [ai (ae r19.2.1 0), ai (PV.v (.string ⟨#[97, 116, 111, 109, 105, 99]⟩))] r40.2).bind fun r51 =>
aE r51.1 fun b52 => (bif b52 then
(call (.func 73) [ai (ae r19.2.1 0)] r51.2).bind fun r54 =>
aV r54 (fun p55 st56 =>
(an (ae r19.2.1 3) 0).bind fun p60 =>
(av st.stk.length 1 p60 (PV.v (.int .i64 10)) st56).bind fun st61 =>
(an (ae r19.2.1 3) 54).bind fun p62 =>
(av st.stk.length 1 p62 p55 st61).bind fun st63 =>
(ag true 58 (ae r19.2.1 3) st63).bind fun p64 =>
(av st.stk.length 58 (ae r19.2.1 1) p64 st63).bind fun st65 =>
some (Ex.ret, [(ae r19.2.1 0), (ae r19.2.1 1), (ae r19.2.1 3)], st65)) (fun t57 x58 st59 =>
some ((Ex.pan t57 x58), [(ae r19.2.1 0), (ae r19.2.1 1), (ae r19.2.1 3)], st59))
else
(call (.func 120) [ai (ae r19.2.1 0), ai (PV.v (.string ⟨#[108, 101, 116]⟩))] r51.2).bind fun r66 =>
(onG r66.1 false (
some ((ae r19.2.1 0), r66.2)) r66.2).bind fun r68 =>
(onG r66.1 false (
(call (.func 120) [ai r68.1, ai (PV.v (.string ⟨#[118, 97, 114]⟩))] r68.2).bind fun r71 =>
some (r71.1, r71.2)) r68.2).bind fun r70 =>
(bX r66.1 (PV.v (.bool true)) r70.1).bind fun p72 =>
aE p72 fun b73 => (bif b73 then
(an (ae r19.2.1 3) 0).bind fun p75 =>
(av st.stk.length 1 p75 (PV.v (.int .i64 1)) r70.2).bind fun st76 =>
(call (.func 151) [ai (ae r19.2.1 0)] st76).bind fun r77 =>
(gH Tryz.prog 140 r77.1 1).bind fun p78 =>
(aW Tryz.prog true .eql 9 p78 (PV.v (.string ⟨#[118, 97, 114]⟩))).bind fun p79 =>
aE p79 fun b80 => (bif b80 then
(an (ae r19.2.1 3) 0).bind fun p82 =>
(av st.stk.length 1 p82 (PV.v (.int .i64 2)) r77.2).bind fun st83 =>
some (Ex.normal, [(ae r19.2.1 0), (ae r19.2.1 1), (ae r19.2.1 3)], st83)
else
some (Ex.normal, [(ae r19.2.1 0), (ae r19.2.1 1), (ae r19.2.1 3)], r77.2)).bind fun r81 =>
bW r81.1 ((call (.func 121) [ai (ae r81.2.1 0), ai (PV.v (.int .i64 1))] r81.2.2).bind fun r85 =>
aV r85 (fun p86 st87 =>
(gH Tryz.prog 140 p86 1).bind fun p91 =>
(an (ae r81.2.1 2) 1).bind fun p92 =>
(av st.stk.length 1 p92 p91 st87).bind fun st93 =>
(call (.func 71) [ai (ae r81.2.1 0), ai (PV.v (.string ⟨#[61]⟩))] st93).bind fun r94 =>
aV r94 (fun p95 st96 =>
(call (.func 155) [ai (ae r81.2.1 0)] st96).bind fun r100 =>
aV r100 (fun p101 st102 =>
(an (ae r81.2.1 2) 2).bind fun p106 =>
(av st.stk.length 27 p106 p101 st102).bind fun st107 =>
some (Ex.normal, [(ae r81.2.1 0), (ae r81.2.1 1), (ae r81.2.1 2)], st107)) (fun t103 x104 st105 =>
some ((Ex.pan t103 x104), [(ae r81.2.1 0), (ae r81.2.1 1), (ae r81.2.1 2)], st105))) (fun t97 x98 st99 =>
some ((Ex.pan t97 x98), [(ae r81.2.1 0), (ae r81.2.1 1), (ae r81.2.1 2)], st99))) (fun t88 x89 st90 =>
some ((Ex.pan t88 x89), [(ae r81.2.1 0), (ae r81.2.1 1), (ae r81.2.1 2)], st90))) fun x84 =>
some (x84, [(ae r81.2.1 0), (ae r81.2.1 1), (ae r81.2.1 2)], r81.2.2)
else
(call (.func 68) [ai (ae r19.2.1 0), ai (PV.v (.string ⟨#[115, 101, 116]⟩))] r70.2).bind fun r108 =>
aE r108.1 fun b109 => (bif b109 then
(call (.func 156) [ai (ae r19.2.1 0)] r108.2).bind fun r111 =>
aV r111 (fun p112 st113 =>
(an (ae r19.2.1 3) 0).bind fun p117 =>
(av st.stk.length 1 p117 (PV.v (.int .i64 4)) st113).bind fun st118 =>
(an (ae r19.2.1 3) 29).bind fun p119 =>
(av st.stk.length 14 p119 p112 st118).bind fun st120 =>
(call (.func 71) [ai (ae r19.2.1 0), ai (PV.v (.string ⟨#[61]⟩))] st120).bind fun r121 =>
aV r121 (fun p122 st123 =>
(call (.func 157) [ai (ae r19.2.1 0)] st123).bind fun r127 =>
aV r127 (fun p128 st129 =>
(an (ae r19.2.1 3) 43).bind fun p133 =>
(av st.stk.length 9 p133 p128 st129).bind fun st134 =>
some (Ex.normal, [(ae r19.2.1 0), (ae r19.2.1 1), (ae r19.2.1 3)], st134)) (fun t130 x131 st132 =>
some ((Ex.pan t130 x131), [(ae r19.2.1 0), (ae r19.2.1 1), (ae r19.2.1 3)], st132))) (fun t124 x125 st126 =>
some ((Ex.pan t124 x125), [(ae r19.2.1 0), (ae r19.2.1 1), (ae r19.2.1 3)], st126))) (fun t114 x115 st116 =>
some ((Ex.pan t114 x115), [(ae r19.2.1 0), (ae r19.2.1 1), (ae r19.2.1 3)], st116))
else
(call (.func 68) [ai (ae r19.2.1 0), ai (PV.v (.string ⟨#[112, 114, 105, 110, 116]⟩))] r108.2).bind fun r135 =>
aE r135.1 fun b136 => (bif b136 then
(call (.func 157) [ai (ae r19.2.1 0)] r135.2).bind fun r138 =>
aV r138 (fun p139 st140 =>
(an (ae r19.2.1 3) 0).bind fun p144 =>
(av st.stk.length 1 p144 (PV.v (.int .i64 5)) st140).bind fun st145 =>
(an (ae r19.2.1 3) 43).bind fun p146 =>
(av st.stk.length 9 p146 p139 st145).bind fun st147 =>
some (Ex.normal, [(ae r19.2.1 0), (ae r19.2.1 1), (ae r19.2.1 3)], st147)) (fun t141 x142 st143 =>
some ((Ex.pan t141 x142), [(ae r19.2.1 0), (ae r19.2.1 1), (ae r19.2.1 3)], st143))
else
(call (.func 68) [ai (ae r19.2.1 0), ai (PV.v (.string ⟨#[98, 114, 101, 97, 107]⟩))] r135.2).bind fun r148 =>
aE r148.1 fun b149 => (bif b149 then
(call (.func 158) [ai (ae r19.2.1 0)] r148.2).bind fun r151 =>
(an (ae r19.2.1 3) 0).bind fun p152 =>
(av st.stk.length 1 p152 (PV.v (.int .i64 8)) r151.2).bind fun st153 =>
(an (ae r19.2.1 3) 1).bind fun p154 =>
(av st.stk.length 1 p154 r151.1 st153).bind fun st155 =>
some (Ex.normal, [(ae r19.2.1 0), (ae r19.2.1 1), (ae r19.2.1 3)], st155)
else
(call (.func 68) [ai (ae r19.2.1 0), ai (PV.v (.string ⟨#[99, 111, 110, 116, 105, 110, 117, 101]⟩))] r148.2).bind fun r156 =>
aE r156.1 fun b157 => (bif b157 then
(call (.func 158) [ai (ae r19.2.1 0)] r156.2).bind fun r159 =>
(an (ae r19.2.1 3) 0).bind fun p160 =>
(av st.stk.length 1 p160 (PV.v (.int .i64 9)) r159.2).bind fun st161 =>
(an (ae r19.2.1 3) 1).bind fun p162 =>
(av st.stk.length 1 p162 r159.1 st161).bind fun st163 =>
some (Ex.normal, [(ae r19.2.1 0), (ae r19.2.1 1), (ae r19.2.1 3)], st163)
else
(call (.func 68) [ai (ae r19.2.1 0), ai (PV.v (.string ⟨#[99, 97, 108, 108]⟩))] r156.2).bind fun r164 =>
aE r164.1 fun b165 => (bif b165 then
(call (.func 121) [ai (ae r19.2.1 0), ai (PV.v (.int .i64 1))] r164.2).bind fun r167 =>
aV r167 (fun p168 st169 =>
(gH Tryz.prog 140 p168 1).bind fun p173 =>
(an (ae r19.2.1 3) 0).bind fun p174 =>
(av st.stk.length 1 p174 (PV.v (.int .i64 11)) st169).bind fun st175 =>
(an (ae r19.2.1 3) 1).bind fun p176 =>
(av st.stk.length 1 p176 p173 st175).bind fun st177 =>
(call (.func 159) [ai (ae r19.2.1 0)] st177).bind fun r178 =>
aV r178 (fun p179 st180 =>
(an (ae r19.2.1 3) 53).bind fun p184 =>
(av st.stk.length 1 p184 p179 st180).bind fun st185 =>
some (Ex.normal, [(ae r19.2.1 0), (ae r19.2.1 1), (ae r19.2.1 3)], st185)) (fun t181 x182 st183 =>
some ((Ex.pan t181 x182), [(ae r19.2.1 0), (ae r19.2.1 1), (ae r19.2.1 3)], st183))) (fun t170 x171 st172 =>
some ((Ex.pan t170 x171), [(ae r19.2.1 0), (ae r19.2.1 1), (ae r19.2.1 3)], st172))
else
(ag true 5 (ae r19.2.1 2) r164.2).bind fun p186 =>
(call (.func 74) [ai (ae r19.2.1 0), ai (PV.v (.int .i64 4)), ai p186] r164.2).bind fun r187 =>
aV r187 (fun p188 st189 =>
some (Ex.normal, [(ae r19.2.1 0), (ae r19.2.1 1), (ae r19.2.1 3)], st189)) (fun t190 x191 st192 =>
some ((Ex.pan t190 x191), [(ae r19.2.1 0), (ae r19.2.1 1), (ae r19.2.1 3)], st192))).bind fun r166 =>
some (r166.1, [(ae r166.2.1 0), (ae r166.2.1 1), (ae r166.2.1 2)], r166.2.2)).bind fun r158 =>
some (r158.1, [(ae r158.2.1 0), (ae r158.2.1 1), (ae r158.2.1 2)], r158.2.2)).bind fun r150 =>
some (r150.1, [(ae r150.2.1 0), (ae r150.2.1 1), (ae r150.2.1 2)], r150.2.2)).bind fun r137 =>
some (r137.1, [(ae r137.2.1 0), (ae r137.2.1 1), (ae r137.2.1 2)], r137.2.2)).bind fun r110 =>
some (r110.1, [(ae r110.2.1 0), (ae r110.2.1 1), (ae r110.2.1 2)], r110.2.2)).bind fun r74 =>
some (r74.1, [(ae r74.2.1 0), (ae r74.2.1 1), (ae r74.2.1 2)], r74.2.2)).bind fun r53 =>
some (r53.1, [(ae r53.2.1 0), (ae r53.2.1 1), (ae r53.2.1 2)], r53.2.2)).bind fun r42 =>
some (r42.1, [(ae r42.2.1 0), (ae r42.2.1 1), (ae r42.2.1 2)], r42.2.2)).bind fun r31 =>
bW (Ex.bn 0 r31.1) ((call (.func 71) [ai (ae r31.2.1 0), ai (PV.v (.string ⟨#[59]⟩))] r31.2.2).bind fun r194 =>
aV r194 (fun p195 st196 =>
(ag true 58 (ae r31.2.1 2) st196).bind fun p200 =>
(av st.stk.length 58 (ae r31.2.1 1) p200 st196).bind fun st201 =>
(ag true 58 (ae r31.2.1 1) st201).bind fun p202 =>
fin st.stk.length st.tk.length st.lp.length [p202] st201) (fun t197 x198 st199 =>
some (PV.pan t197 x198, st199.back st.stk.length st.tk.length st.lp.length))) fun x193 =>
fW st.stk.length st.tk.length st.lp.length x193 r31.2.2 ((ag true 58 (ae r31.2.1 1) r31.2.2).bind fun p203 =>
fin st.stk.length st.tk.length st.lp.length [p203] r31.2.2)) fun x28 =>
fW st.stk.length st.tk.length st.lp.length x28 r19.2.2 ((ag true 58 (ae r19.2.1 1) r19.2.2).bind fun p204 =>
fin st.stk.length st.tk.length st.lp.length [p204] r19.2.2)
theorem dr (a0 : PV) (st : St) : E L (.func 124) [a0] st = il (E L) itE a0 st := (bN (by kernel_rfl) Tryz.func124 _ _).trans (by kernel_rfl)
noncomputable def S73.b0 (call : bB) (it : bO) (base lb : Nat) (vs14 : List PV) (st15 : St) : Option (Ex × List PV × St) :=
(call (.func 68) [ai (ae vs14 0), ai (PV.v (.string ⟨#[125]⟩))] st15).bind fun r16 =>
(aUn Tryz.prog .not r16.1).bind fun p17 =>
aE p17 fun b18 => (bif b18 then
some (Ex.normal, [(ae vs14 0), (ae vs14 1)], r16.2)
else
some ((Ex.exit 0), [(ae vs14 0), (ae vs14 1)], r16.2)).bind fun r19 =>
bW r19.1 ((call (.func 124) [ai (ae r19.2.1 0)] r19.2.2).bind fun r21 =>
aV r21 (fun p22 st23 =>
(aF 58 [.v (.int .i64 0), .v (.string ⟨#[]⟩), .v (.int .i64 0), .v (.int .i64 0), .v (.int .i64 0), .v (.int .u64 0), .v (.int .i64 0), .v (.string ⟨#[]⟩), .v (.string ⟨#[]⟩), .sl [] .nil, .v (.int .i64 0), .v (.int .i64 0), .v (.int .i64 0), .v (.string ⟨#[]⟩), .v (.string ⟨#[]⟩), .v (.int .i64 0), .v (.int .i64 0), .v (.int .u64 0), .v (.int .i64 0), .v (.string ⟨#[]⟩), .v (.string ⟨#[]⟩), .sl [] .nil, .v (.int .i64 0), .v (.int .i64 0), .v (.int .i64 0), .v (.int .i64 0), .v (.string ⟨#[]⟩), .v (.int .i64 0), .v (.int .i64 0), .v (.int .i64 0), .v (.string ⟨#[]⟩), .v (.string ⟨#[]⟩), .v (.int .i64 0), .v (.int .i64 0), .v (.int .u64 0), .v (.int .i64 0), .v (.string ⟨#[]⟩), .v (.string ⟨#[]⟩), .sl [] .nil, .v (.int .i64 0), .v (.int .i64 0), .v (.int .i64 0), .v (.int .i64 0), .v (.int .i64 0), .v (.int .i64 0), .v (.int .u64 0), .v (.int .i64 0), .v (.string ⟨#[]⟩), .v (.string ⟨#[]⟩), .sl [] .nil, .v (.int .i64 0), .v (.int .i64 0), .v (.int .i64 0), .sl [] .nil, .sl [] .nil, .sl [] .nil, .v (.int .i64 0), .v (.int .i64 0)] 1 [(0, p22)]).bind fun p27 =>
(aZ st23 p27).bind fun ys28 =>
(bA base [.v (.int .i64 0), .v (.string ⟨#[]⟩), .v (.int .i64 0), .v (.int .i64 0), .v (.int .i64 0), .v (.int .u64 0), .v (.int .i64 0), .v (.string ⟨#[]⟩), .v (.string ⟨#[]⟩), .sl [] .nil, .v (.int .i64 0), .v (.int .i64 0), .v (.int .i64 0), .v (.string ⟨#[]⟩), .v (.string ⟨#[]⟩), .v (.int .i64 0), .v (.int .i64 0), .v (.int .u64 0), .v (.int .i64 0), .v (.string ⟨#[]⟩), .v (.string ⟨#[]⟩), .sl [] .nil, .v (.int .i64 0), .v (.int .i64 0), .v (.int .i64 0), .v (.int .i64 0), .v (.string ⟨#[]⟩), .v (.int .i64 0), .v (.int .i64 0), .v (.int .i64 0), .v (.string ⟨#[]⟩), .v (.string ⟨#[]⟩), .v (.int .i64 0), .v (.int .i64 0), .v (.int .u64 0), .v (.int .i64 0), .v (.string ⟨#[]⟩), .v (.string ⟨#[]⟩), .sl [] .nil, .v (.int .i64 0), .v (.int .i64 0), .v (.int .i64 0), .v (.int .i64 0), .v (.int .i64 0), .v (.int .i64 0), .v (.int .u64 0), .v (.int .i64 0), .v (.string ⟨#[]⟩), .v (.string ⟨#[]⟩), .sl [] .nil, .v (.int .i64 0), .v (.int .i64 0), .v (.int .i64 0), .sl [] .nil, .sl [] .nil, .sl [] .nil, .v (.int .i64 0), .v (.int .i64 0)] 58 688 (ae r19.2.1 1) ys28 st23).bind fun r29 =>
some (Ex.normal, [(ae r19.2.1 0), r29.1], r29.2)) (fun t24 x25 st26 =>
some ((Ex.pan t24 x25), [(ae r19.2.1 0), (ae r19.2.1 1)], st26))) fun x20 =>
some (x20, [(ae r19.2.1 0), (ae r19.2.1 1)], r19.2.2)
noncomputable def S73 (call : bB) (it : bO) (a0 : PV) (st : St) : Option (PV × St) :=
(call (.func 71) [ai a0, ai (PV.v (.string ⟨#[123]⟩))] st).bind fun r1 =>
aV r1 (fun p2 st3 =>
(call (.func 123) [ai a0, ai p2] st3).bind fun r7 =>
aV r7 (fun p8 st9 =>
(it (S73.b0 call it st.stk.length st.lp.length) [a0, (PV.sl [] .nil)] st9).bind fun r13 =>
bW (Ex.bn 0 r13.1) ((aI (ae r13.2.1 0)).bind fun p31 =>
(an p31 2).bind fun p32 =>
(ag false 1 p32 r13.2.2).bind fun p33 =>
(aW Tryz.prog true .sub 3 p33 (PV.v (.int .i64 1))).bind fun p34 =>
(aI (ae r13.2.1 0)).bind fun p35 =>
(an p35 2).bind fun p36 =>
(av st.stk.length 1 p36 p34 r13.2.2).bind fun st37 =>
fin st.stk.length st.tk.length st.lp.length [(ae r13.2.1 1)] st37) fun x30 =>
fW st.stk.length st.tk.length st.lp.length x30 r13.2.2 (fin st.stk.length st.tk.length st.lp.length [PV.u] r13.2.2)) (fun t10 x11 st12 =>
some (PV.pan t10 x11, st12.back st.stk.length st.tk.length st.lp.length))) (fun t4 x5 st6 =>
some (PV.pan t4 x5, st6.back st.stk.length st.tk.length st.lp.length))
theorem uL (a0 : PV) (st : St) : E L (.func 73) [a0] st = S73 (E L) itE a0 st := (bN (by kernel_rfl) Tryz.func73 _ _).trans (by kernel_rfl)
noncomputable def S72.b0 (call : bB) (it : bO) (base lb : Nat) (vs33 : List PV) (st34 : St) : Option (Ex × List PV × St) :=
(an (ae vs33 2) 1).bind fun p35 =>
(ag false 1 p35 st34).bind fun p36 =>
aH (st34 = st34) <|
(call (.func 70) [ai (ae vs33 0)] st34).bind fun r37 =>
aV r37 (fun p38 st39 =>
aH (((ag false 1 p35 st39).bind fun p43 =>
some (Rs.ret p43, st39)) = some (Rs.ret p36, st39)) <|
(aF 5 [.v (.string ⟨#[]⟩), .v (.int .i64 0), .v (.string ⟨#[]⟩), .v (.int .i64 0), .v (.int .i64 0)] 1 [(0, p38)]).bind fun p44 =>
(aZ st39 p44).bind fun ys45 =>
(bA base [.v (.string ⟨#[]⟩), .v (.int .i64 0), .v (.string ⟨#[]⟩), .v (.int .i64 0), .v (.int .i64 0)] 5 56 p36 ys45 st39).bind fun r46 =>
(an (ae vs33 2) 1).bind fun p47 =>
(av base 1 p47 r46.1 r46.2).bind fun st48 =>
(call (.func 68) [ai (ae vs33 0), ai (PV.v (.string ⟨#[41]⟩))] st48).bind fun r49 =>
aE r49.1 fun b50 => (bif b50 then
some ((Ex.exit 0), [(ae vs33 0), (ae vs33 1), (ae vs33 2)], r49.2)
else
some (Ex.normal, [(ae vs33 0), (ae vs33 1), (ae vs33 2)], r49.2)).bind fun r51 =>
bW r51.1 ((call (.func 71) [ai (ae r51.2.1 0), ai (PV.v (.string ⟨#[44]⟩))] r51.2.2).bind fun r53 =>
aV r53 (fun p54 st55 =>
some (Ex.normal, [(ae r51.2.1 0), (ae r51.2.1 1), (ae r51.2.1 2)], st55)) (fun t56 x57 st58 =>
some ((Ex.pan t56 x57), [(ae r51.2.1 0), (ae r51.2.1 1), (ae r51.2.1 2)], st58))) fun x52 =>
some ((Ex.bn 1 x52), [(ae r51.2.1 0), (ae r51.2.1 1), (ae r51.2.1 2)], r51.2.2)) (fun t40 x41 st42 =>
some ((Ex.pan t40 x41), [(ae vs33 0), (ae vs33 1), (ae vs33 2)], st42))
noncomputable def S72 (call : bB) (it : bO) (a0 : PV) (st : St) : Option (PV × St) :=
let q2 : PV := .ptr false st.stk.length 0
let st1 := st.push [.v (.string ⟨#[]⟩), .sl [] .nil, .sl [] .nil, .v (.int .i64 0), .v (.int .i64 0)]
(call (.func 121) [ai a0, ai (PV.v (.int .i64 1))] st1).bind fun r3 =>
aV r3 (fun p4 st5 =>
let q10 : PV := .ptr false st5.stk.length 0
let st9 := st5.push [.v (.int .i64 0), .v (.string ⟨#[]⟩), .v (.int .u64 0), .v (.int .i64 0), .v (.int .i64 0)]
(av st.stk.length 5 q10 p4 st9).bind fun st11 =>
(an q10 1).bind fun p12 =>
(ag false 1 p12 st11).bind fun p13 =>
(an q10 3).bind fun p14 =>
(ag false 1 p14 st11).bind fun p15 =>
(an q10 4).bind fun p16 =>
(ag false 1 p16 st11).bind fun p17 =>
(bq [(0, 1), (1, 1), (2, 1), (3, 1), (4, 1)] [.v (.string ⟨#[]⟩), .sl [] .nil, .sl [] .nil, .v (.int .i64 0), .v (.int .i64 0)] [(0, p13), (3, p15), (4, p17)]).bind fun p18 =>
let q20 : PV := .ptr false st11.stk.length 0
let st19 := st11.push [.v (.string ⟨#[]⟩), .sl [] .nil, .sl [] .nil, .v (.int .i64 0), .v (.int .i64 0)]
(av st.stk.length 5 q20 p18 st19).bind fun st21 =>
(call (.func 71) [ai a0, ai (PV.v (.string ⟨#[40]⟩))] st21).bind fun r22 =>
aV r22 (fun p23 st24 =>
(call (.func 68) [ai a0, ai (PV.v (.string ⟨#[41]⟩))] st24).bind fun r28 =>
(aUn Tryz.prog .not r28.1).bind fun p29 =>
aE p29 fun b30 => (bif b30 then
(it (S72.b0 call it st.stk.length st.lp.length) [a0, q2, q20] r28.2).bind fun r32 =>
some ((Ex.bn 0 r32.1), [(ae r32.2.1 0), (ae r32.2.1 1), (ae r32.2.1 2)], r32.2.2)
else
some (Ex.normal, [a0, q2, q20], r28.2)).bind fun r31 =>
bW r31.1 ((call (.func 73) [ai (ae r31.2.1 0)] r31.2.2).bind fun r60 =>
aV r60 (fun p61 st62 =>
(an (ae r31.2.1 2) 2).bind fun p66 =>
(av st.stk.length 1 p66 p61 st62).bind fun st67 =>
(ag true 5 (ae r31.2.1 2) st67).bind fun p68 =>
(av st.stk.length 5 (ae r31.2.1 1) p68 st67).bind fun st69 =>
(ag true 5 (ae r31.2.1 1) st69).bind fun p70 =>
fin st.stk.length st.tk.length st.lp.length [p70] st69) (fun t63 x64 st65 =>
some (PV.pan t63 x64, st65.back st.stk.length st.tk.length st.lp.length))) fun x59 =>
fW st.stk.length st.tk.length st.lp.length x59 r31.2.2 ((ag true 5 (ae r31.2.1 1) r31.2.2).bind fun p71 =>
fin st.stk.length st.tk.length st.lp.length [p71] r31.2.2)) (fun t25 x26 st27 =>
some (PV.pan t25 x26, st27.back st.stk.length st.tk.length st.lp.length))) (fun t6 x7 st8 =>
some (PV.pan t6 x7, st8.back st.stk.length st.tk.length st.lp.length))
theorem oE (a0 : PV) (st : St) : E L (.func 72) [a0] st = S72 (E L) itE a0 st := (bN (by kernel_rfl) Tryz.func72 _ _).trans (by kernel_rfl)
noncomputable def S48.b0 (call : bB) (it : bO) (base lb : Nat) (vs6 : List PV) (st7 : St) : Option (Ex × List PV × St) :=
(call (.func 67) [ai (ae vs6 0)] st7).bind fun r8 =>
let q10 : PV := .ptr false r8.2.stk.length 0
let st9 := r8.2.push [.v (.int .i64 0), .v (.string ⟨#[]⟩), .v (.int .u64 0), .v (.int .i64 0), .v (.int .i64 0)]
(av base 5 q10 r8.1 st9).bind fun st11 =>
(an q10 0).bind fun p12 =>
(ag false 1 p12 st11).bind fun p13 =>
(aW Tryz.prog true .eql 138 p13 (PV.v (.int .i64 0))).bind fun p14 =>
aE p14 fun b15 => (bif b15 then
(ag true 4 (ae vs6 2) st11).bind fun p17 =>
(av base 4 (ae vs6 1) p17 st11).bind fun st18 =>
some (Ex.ret, [(ae vs6 0), (ae vs6 1), (ae vs6 2)], st18)
else
(call (.func 68) [ai (ae vs6 0), ai (PV.v (.string ⟨#[114, 101, 99, 111, 114, 100]⟩))] st11).bind fun r19 =>
aE r19.1 fun b20 => (bif b20 then
(an (ae vs6 2) 0).bind fun p22 =>
(ag false 1 p22 r19.2).bind fun p23 =>
aH (r19.2 = r19.2) <|
(call (.func 69) [ai (ae vs6 0)] r19.2).bind fun r24 =>
aV r24 (fun p25 st26 =>
aH (((ag false 1 p22 st26).bind fun p30 =>
some (Rs.ret p30, st26)) = some (Rs.ret p23, st26)) <|
(aF 4 [.v (.string ⟨#[]⟩), .sl [] .nil, .v (.int .i64 0), .v (.int .i64 0)] 1 [(0, p25)]).bind fun p31 =>
(aZ st26 p31).bind fun ys32 =>
(bA base [.v (.string ⟨#[]⟩), .sl [] .nil, .v (.int .i64 0), .v (.int .i64 0)] 4 56 p23 ys32 st26).bind fun r33 =>
(an (ae vs6 2) 0).bind fun p34 =>
(av base 1 p34 r33.1 r33.2).bind fun st35 =>
some (Ex.normal, [(ae vs6 0), (ae vs6 1), (ae vs6 2)], st35)) (fun t27 x28 st29 =>
some ((Ex.pan t27 x28), [(ae vs6 0), (ae vs6 1), (ae vs6 2)], st29))
else
(call (.func 68) [ai (ae vs6 0), ai (PV.v (.string ⟨#[103, 108, 111, 98, 97, 108]⟩))] r19.2).bind fun r36 =>
aE r36.1 fun b37 => (bif b37 then
(an (ae vs6 2) 1).bind fun p39 =>
(ag false 1 p39 r36.2).bind fun p40 =>
aH (r36.2 = r36.2) <|
(call (.func 70) [ai (ae vs6 0)] r36.2).bind fun r41 =>
aV r41 (fun p42 st43 =>
aH (((ag false 1 p39 st43).bind fun p47 =>
some (Rs.ret p47, st43)) = some (Rs.ret p40, st43)) <|
(aF 5 [.v (.string ⟨#[]⟩), .v (.int .i64 0), .v (.string ⟨#[]⟩), .v (.int .i64 0), .v (.int .i64 0)] 1 [(0, p42)]).bind fun p48 =>
(aZ st43 p48).bind fun ys49 =>
(bA base [.v (.string ⟨#[]⟩), .v (.int .i64 0), .v (.string ⟨#[]⟩), .v (.int .i64 0), .v (.int .i64 0)] 5 56 p40 ys49 st43).bind fun r50 =>
(an (ae vs6 2) 1).bind fun p51 =>
(av base 1 p51 r50.1 r50.2).bind fun st52 =>
(call (.func 71) [ai (ae vs6 0), ai (PV.v (.string ⟨#[59]⟩))] st52).bind fun r53 =>
aV r53 (fun p54 st55 =>
some (Ex.normal, [(ae vs6 0), (ae vs6 1), (ae vs6 2)], st55)) (fun t56 x57 st58 =>
some ((Ex.pan t56 x57), [(ae vs6 0), (ae vs6 1), (ae vs6 2)], st58))) (fun t44 x45 st46 =>
some ((Ex.pan t44 x45), [(ae vs6 0), (ae vs6 1), (ae vs6 2)], st46))
else
(call (.func 68) [ai (ae vs6 0), ai (PV.v (.string ⟨#[102, 117, 110]⟩))] r36.2).bind fun r59 =>
aE r59.1 fun b60 => (bif b60 then
(an (ae vs6 2) 2).bind fun p62 =>
(ag false 1 p62 r59.2).bind fun p63 =>
aH (r59.2 = r59.2) <|
(call (.func 72) [ai (ae vs6 0)] r59.2).bind fun r64 =>
aV r64 (fun p65 st66 =>
aH (((ag false 1 p62 st66).bind fun p70 =>
some (Rs.ret p70, st66)) = some (Rs.ret p63, st66)) <|
(aF 5 [.v (.string ⟨#[]⟩), .sl [] .nil, .sl [] .nil, .v (.int .i64 0), .v (.int .i64 0)] 1 [(0, p65)]).bind fun p71 =>
(aZ st66 p71).bind fun ys72 =>
(bA base [.v (.string ⟨#[]⟩), .sl [] .nil, .sl [] .nil, .v (.int .i64 0), .v (.int .i64 0)] 5 80 p63 ys72 st66).bind fun r73 =>
(an (ae vs6 2) 2).bind fun p74 =>
(av base 1 p74 r73.1 r73.2).bind fun st75 =>
some (Ex.normal, [(ae vs6 0), (ae vs6 1), (ae vs6 2)], st75)) (fun t67 x68 st69 =>
some ((Ex.pan t67 x68), [(ae vs6 0), (ae vs6 1), (ae vs6 2)], st69))
else
(call (.func 68) [ai (ae vs6 0), ai (PV.v (.string ⟨#[116, 104, 114, 101, 97, 100]⟩))] r59.2).bind fun r76 =>
aE r76.1 fun b77 => (bif b77 then
(an (ae vs6 2) 3).bind fun p79 =>
(ag false 1 p79 r76.2).bind fun p80 =>
aH (r76.2 = r76.2) <|
(call (.func 73) [ai (ae vs6 0)] r76.2).bind fun r81 =>
aV r81 (fun p82 st83 =>
aH (((ag false 1 p79 st83).bind fun p87 =>
some (Rs.ret p87, st83)) = some (Rs.ret p80, st83)) <|
(an q10 3).bind fun p88 =>
(ag false 1 p88 st83).bind fun p89 =>
aH (st83 = st83) <|
aH (((ag false 1 p88 r76.2).bind fun p90 =>
some (Rs.ret p90, r76.2)) = some (Rs.ret p89, r76.2)) <|
(an q10 4).bind fun p91 =>
(ag false 1 p91 st83).bind fun p92 =>
aH (st83 = st83) <|
aH (((ag false 1 p91 r76.2).bind fun p93 =>
some (Rs.ret p93, r76.2)) = some (Rs.ret p92, r76.2)) <|
(bq [(0, 1), (1, 1), (2, 1)] [.sl [] .nil, .v (.int .i64 0), .v (.int .i64 0)] [(0, p82), (1, p89), (2, p92)]).bind fun p94 =>
(aF 3 [.sl [] .nil, .v (.int .i64 0), .v (.int .i64 0)] 1 [(0, p94)]).bind fun p95 =>
(aZ st83 p95).bind fun ys96 =>
(bA base [.sl [] .nil, .v (.int .i64 0), .v (.int .i64 0)] 3 40 p80 ys96 st83).bind fun r97 =>
(an (ae vs6 2) 3).bind fun p98 =>
(av base 1 p98 r97.1 r97.2).bind fun st99 =>
some (Ex.normal, [(ae vs6 0), (ae vs6 1), (ae vs6 2)], st99)) (fun t84 x85 st86 =>
(an q10 3).bind fun p100 =>
(ag false 1 p100 r76.2).bind fun p101 =>
aH (r76.2 = r76.2) <|
(an q10 4).bind fun p102 =>
(ag false 1 p102 r76.2).bind fun p103 =>
aH (r76.2 = r76.2) <|
some ((Ex.pan t84 x85), [(ae vs6 0), (ae vs6 1), (ae vs6 2)], st86))
else
(ag true 5 q10 r76.2).bind fun p104 =>
(call (.func 74) [ai (ae vs6 0), ai (PV.v (.int .i64 4)), ai p104] r76.2).bind fun r105 =>
aV r105 (fun p106 st107 =>
some (Ex.normal, [(ae vs6 0), (ae vs6 1), (ae vs6 2)], st107)) (fun t108 x109 st110 =>
some ((Ex.pan t108 x109), [(ae vs6 0), (ae vs6 1), (ae vs6 2)], st110))).bind fun r78 =>
some (r78.1, [(ae r78.2.1 0), (ae r78.2.1 1), (ae r78.2.1 2)], r78.2.2)).bind fun r61 =>
some (r61.1, [(ae r61.2.1 0), (ae r61.2.1 1), (ae r61.2.1 2)], r61.2.2)).bind fun r38 =>
some (r38.1, [(ae r38.2.1 0), (ae r38.2.1 1), (ae r38.2.1 2)], r38.2.2)).bind fun r21 =>
some (r21.1, [(ae r21.2.1 0), (ae r21.2.1 1), (ae r21.2.1 2)], r21.2.2)).bind fun r16 =>
eC base lb st7.stk.length (Ex.bn 1 (Ex.bn 2 r16.1)) [(ae r16.2.1 0), (ae r16.2.1 1), (ae r16.2.1 2)] r16.2.2
noncomputable def S48 (call : bB) (it : bO) (a0 : PV) (st : St) : Option (PV × St) :=
let q2 : PV := .ptr false st.stk.length 0
let st1 := st.push [.sl [] .nil, .sl [] .nil, .sl [] .nil, .sl [] .nil]
let q4 : PV := .ptr false st1.stk.length 0
let st3 := st1.push [.sl [] .nil, .sl [] .nil, .sl [] .nil, .sl [] .nil]
(it (S48.b0 call it st.stk.length st.lp.length) [a0, q2, q4] st3).bind fun r5 =>
fW st.stk.length st.tk.length st.lp.length (Ex.bn 0 r5.1) r5.2.2 ((ag true 4 (ae r5.2.1 1) r5.2.2).bind fun p111 =>
fin st.stk.length st.tk.length st.lp.length [p111] r5.2.2)
theorem Bz (a0 : PV) (st : St) : E L (.func 48) [a0] st = S48 (E L) itE a0 st := (bN (by kernel_rfl) Tryz.func48 _ _).trans (by kernel_rfl)
noncomputable def S19 (call : bB) (it : bO) (st : St) : Option (PV × St) :=
(call (.func 20) [ai (PV.v (.string ⟨#[116, 104, 114, 101, 97, 100, 32, 123, 32, 112, 114, 105, 110, 116, 32, 49, 32, 43, 32, 50, 32, 42, 32, 51, 59, 32, 125]⟩))] st).bind fun r1 =>
(aY r1.1 0).bind fun p2 =>
(aY r1.1 1).bind fun p3 =>
let q5 : PV := .ptr false r1.2.stk.length 0
let st4 := r1.2.push [.sl [] .nil, .sl [] .nil, .sl [] .nil, .sl [] .nil]
let q7 : PV := .ptr false st4.stk.length 0
let st6 := st4.push [.v (.int .i64 0), .v (.int .i64 0), .v (.int .i64 0)]
(av st.stk.length 4 q5 p2 st6).bind fun st8 =>
(av st.stk.length 3 q7 p3 st8).bind fun st9 =>
(call (.func 20) [ai (PV.v (.string ⟨#[116, 104, 114, 101, 97, 100, 32, 123, 32, 112, 114, 105, 110, 116, 32, 59, 32, 125]⟩))] st9).bind fun r10 =>
(aY r10.1 0).bind fun p11 =>
(aY r10.1 1).bind fun p12 =>
let q14 : PV := .ptr false r10.2.stk.length 0
let st13 := r10.2.push [.sl [] .nil, .sl [] .nil, .sl [] .nil, .sl [] .nil]
let q16 : PV := .ptr false st13.stk.length 0
let st15 := st13.push [.v (.int .i64 0), .v (.int .i64 0), .v (.int .i64 0)]
(av st.stk.length 4 q14 p11 st15).bind fun st17 =>
(av st.stk.length 3 q16 p12 st17).bind fun st18 =>
(ag true 3 q7 st18).bind fun p19 =>
(bq [(0, 1), (1, 1), (2, 1)] [.v (.int .i64 0), .v (.int .i64 0), .v (.int .i64 0)] []).bind fun p20 =>
(aW Tryz.prog false .eql 54 p19 p20).bind fun p21 =>
(onG p21 true (
(an q5 3).bind fun p24 =>
some (p24, st18)) st18).bind fun r23 =>
(onG p21 true (
(ag false 1 r23.1 r23.2).bind fun p27 =>
some (p27, r23.2)) r23.2).bind fun r26 =>
(onG p21 true (
(fR Tryz.prog 27 r26.1).bind fun p30 =>
some (p30, r26.2)) r26.2).bind fun r29 =>
(onG p21 true (
(aW Tryz.prog true .eql 3 r29.1 (PV.v (.int .i64 1))).bind fun p33 =>
some (p33, r29.2)) r29.2).bind fun r32 =>
(bX p21 r32.1 (PV.v (.bool false))).bind fun p34 =>
(onG p34 true (
(an q5 3).bind fun p37 =>
some (p37, r32.2)) r32.2).bind fun r36 =>
(onG p34 true (
(ag false 1 r36.1 r36.2).bind fun p40 =>
some (p40, r36.2)) r36.2).bind fun r39 =>
(onG p34 true (
(bL Tryz.prog 27 r39.1 (PV.v (.int .i64 0))).bind fun p43 =>
some (p43, r39.2)) r39.2).bind fun r42 =>
(onG p34 true (
(an r42.1 0).bind fun p46 =>
some (p46, r42.2)) r42.2).bind fun r45 =>
(onG p34 true (
(ag false 1 r45.1 r45.2).bind fun p49 =>
some (p49, r45.2)) r45.2).bind fun r48 =>
(onG p34 true (
(fR Tryz.prog 31 r48.1).bind fun p52 =>
some (p52, r48.2)) r48.2).bind fun r51 =>
(onG p34 true (
(aW Tryz.prog true .eql 3 r51.1 (PV.v (.int .i64 1))).bind fun p55 =>
some (p55, r51.2)) r51.2).bind fun r54 =>
(bX p34 r54.1 (PV.v (.bool false))).bind fun p56 =>
(onG p56 true (
(an q5 3).bind fun p59 =>
some (p59, r54.2)) r54.2).bind fun r58 =>
(onG p56 true (
(ag false 1 r58.1 r58.2).bind fun p62 =>
some (p62, r58.2)) r58.2).bind fun r61 =>
(onG p56 true (
(bL Tryz.prog 27 r61.1 (PV.v (.int .i64 0))).bind fun p65 =>
some (p65, r61.2)) r61.2).bind fun r64 =>
(onG p56 true (
(an r64.1 0).bind fun p68 =>
some (p68, r64.2)) r64.2).bind fun r67 =>
(onG p56 true (
(ag false 1 r67.1 r67.2).bind fun p71 =>
some (p71, r67.2)) r67.2).bind fun r70 =>
(onG p56 true (
(bL Tryz.prog 31 r70.1 (PV.v (.int .i64 0))).bind fun p74 =>
some (p74, r70.2)) r70.2).bind fun r73 =>
(onG p56 true (
(an r73.1 0).bind fun p77 =>
some (p77, r73.2)) r73.2).bind fun r76 =>
(onG p56 true (
(ag false 1 r76.1 r76.2).bind fun p80 =>
some (p80, r76.2)) r76.2).bind fun r79 =>
(onG p56 true (
(aW Tryz.prog true .eql 3 r79.1 (PV.v (.int .i64 5))).bind fun p83 =>
some (p83, r79.2)) r79.2).bind fun r82 =>
(bX p56 r82.1 (PV.v (.bool false))).bind fun p84 =>
(onG p84 true (
(an q5 3).bind fun p87 =>
some (p87, r82.2)) r82.2).bind fun r86 =>
(onG p84 true (
(ag false 1 r86.1 r86.2).bind fun p90 =>
some (p90, r86.2)) r86.2).bind fun r89 =>
(onG p84 true (
(bL Tryz.prog 27 r89.1 (PV.v (.int .i64 0))).bind fun p93 =>
some (p93, r89.2)) r89.2).bind fun r92 =>
(onG p84 true (
(an r92.1 0).bind fun p96 =>
some (p96, r92.2)) r92.2).bind fun r95 =>
(onG p84 true (
(ag false 1 r95.1 r95.2).bind fun p99 =>
some (p99, r95.2)) r95.2).bind fun r98 =>
(onG p84 true (
(bL Tryz.prog 31 r98.1 (PV.v (.int .i64 0))).bind fun p102 =>
some (p102, r98.2)) r98.2).bind fun r101 =>
(onG p84 true (
(an r101.1 43).bind fun p105 =>
some (p105, r101.2)) r101.2).bind fun r104 =>
(onG p84 true (
(an r104.1 6).bind fun p108 =>
some (p108, r104.2)) r104.2).bind fun r107 =>
(onG p84 true (
(ag false 1 r107.1 r107.2).bind fun p111 =>
some (p111, r107.2)) r107.2).bind fun r110 =>
(onG p84 true (
(fR Tryz.prog 37 r110.1).bind fun p114 =>
some (p114, r110.2)) r110.2).bind fun r113 =>
(onG p84 true (
(aW Tryz.prog true .eql 3 r113.1 (PV.v (.int .i64 2))).bind fun p117 =>
some (p117, r113.2)) r113.2).bind fun r116 =>
(bX p84 r116.1 (PV.v (.bool false))).bind fun p118 =>
(onG p118 true (
(an q5 3).bind fun p121 =>
some (p121, r116.2)) r116.2).bind fun r120 =>
(onG p118 true (
(ag false 1 r120.1 r120.2).bind fun p124 =>
some (p124, r120.2)) r120.2).bind fun r123 =>
(onG p118 true (
(bL Tryz.prog 27 r123.1 (PV.v (.int .i64 0))).bind fun p127 =>
some (p127, r123.2)) r123.2).bind fun r126 =>
(onG p118 true (
(an r126.1 0).bind fun p130 =>
some (p130, r126.2)) r126.2).bind fun r129 =>
(onG p118 true (
(ag false 1 r129.1 r129.2).bind fun p133 =>
some (p133, r129.2)) r129.2).bind fun r132 =>
(onG p118 true (
(bL Tryz.prog 31 r132.1 (PV.v (.int .i64 0))).bind fun p136 =>
some (p136, r132.2)) r132.2).bind fun r135 =>
(onG p118 true (
(an r135.1 43).bind fun p139 =>
some (p139, r135.2)) r135.2).bind fun r138 =>
(onG p118 true (
(an r138.1 6).bind fun p142 =>
some (p142, r138.2)) r138.2).bind fun r141 =>
(onG p118 true (
(ag false 1 r141.1 r141.2).bind fun p145 =>
some (p145, r141.2)) r141.2).bind fun r144 =>
(onG p118 true (
(bL Tryz.prog 37 r144.1 (PV.v (.int .i64 1))).bind fun p148 =>
some (p148, r144.2)) r144.2).bind fun r147 =>
(onG p118 true (
(an r147.1 1).bind fun p151 =>
some (p151, r147.2)) r147.2).bind fun r150 =>
(onG p118 true (
(ag false 1 r150.1 r150.2).bind fun p154 =>
some (p154, r150.2)) r150.2).bind fun r153 =>
(onG p118 true (
(aW Tryz.prog true .eql 3 r153.1 (PV.v (.int .i64 2))).bind fun p157 =>
some (p157, r153.2)) r153.2).bind fun r156 =>
(bX p118 r156.1 (PV.v (.bool false))).bind fun p158 =>
(onG p158 true (
(ag true 3 q16 r156.2).bind fun p161 =>
some (p161, r156.2)) r156.2).bind fun r160 =>
(onG p158 true (
(bq [(0, 1), (1, 1), (2, 1)] [.v (.int .i64 0), .v (.int .i64 0), .v (.int .i64 0)] [(0, (PV.v (.int .i64 4))), (1, (PV.v (.int .i64 1))), (2, (PV.v (.int .i64 16)))]).bind fun p164 =>
some (p164, r160.2)) r160.2).bind fun r163 =>
(onG p158 true (
(aW Tryz.prog false .eql 54 r160.1 r163.1).bind fun p167 =>
some (p167, r163.2)) r163.2).bind fun r166 =>
(bX p158 r166.1 (PV.v (.bool false))).bind fun p168 =>
fin st.stk.length st.tk.length st.lp.length [p168] r166.2
theorem FW (st : St) : E L (.func 19) [] st = S19 (E L) itE st := (bN (by kernel_rfl) Tryz.func19 _ _).trans (by kernel_rfl)
noncomputable def S22.b0 (call : bB) (it : bO) (base lb : Nat) (vs9 : List PV) (st10 : St) : Option (Ex × List PV × St) :=
(aW Tryz.prog false .lss 3 (ae vs9 4) (ae vs9 3)).bind fun p11 =>
aE p11 fun b12 => (bif b12 then
some (Ex.normal, [(ae vs9 0), (ae vs9 1), (ae vs9 2), (ae vs9 3), (ae vs9 4)], st10)
else
some ((Ex.exit 0), [(ae vs9 0), (ae vs9 1), (ae vs9 2), (ae vs9 3), (ae vs9 4)], st10)).bind fun r13 =>
bW r13.1 ((bL Tryz.prog 60 (ae r13.2.1 0) (ae r13.2.1 4)).bind fun p15 =>
(ag false 1 p15 r13.2.2).bind fun p16 =>
aH (r13.2.2 = r13.2.2) <|
(bL Tryz.prog 60 (ae r13.2.1 1) (ae r13.2.1 4)).bind fun p17 =>
(ag false 1 p17 r13.2.2).bind fun p18 =>
aH (r13.2.2 = r13.2.2) <|
(aW Tryz.prog false .neq 9 p16 p18).bind fun p19 =>
aE p19 fun b20 => (bif b20 then
some (Ex.ret, [(ae r13.2.1 0), (ae r13.2.1 1), (PV.v (.bool false)), (ae r13.2.1 3), (ae r13.2.1 4)], r13.2.2)
else
some (Ex.normal, [(ae r13.2.1 0), (ae r13.2.1 1), (ae r13.2.1 2), (ae r13.2.1 3), (ae r13.2.1 4)], r13.2.2)).bind fun r21 =>
bW (Ex.bn 1 r21.1) ((aW Tryz.prog true .add 3 (ae r21.2.1 4) (PV.v (.int .i64 1))).bind fun p23 =>
some (Ex.normal, [(ae r21.2.1 0), (ae r21.2.1 1), (ae r21.2.1 2), (ae r21.2.1 3), p23], r21.2.2)) fun x22 =>
some (x22, [(ae r21.2.1 0), (ae r21.2.1 1), (ae r21.2.1 2), (ae r21.2.1 3), (ae r21.2.1 4)], r21.2.2)) fun x14 =>
some (x14, [(ae r13.2.1 0), (ae r13.2.1 1), (ae r13.2.1 2), (ae r13.2.1 3), (ae r13.2.1 4)], r13.2.2)
noncomputable def S22 (call : bB) (it : bO) (a0 a1 : PV) (st : St) : Option (PV × St) :=
(fR Tryz.prog 60 a0).bind fun p1 =>
(fR Tryz.prog 60 a1).bind fun p2 =>
(aW Tryz.prog false .neq 3 p1 p2).bind fun p3 =>
aE p3 fun b4 => (bif b4 then
some (Ex.ret, [a0, a1, (PV.v (.bool false))], st)
else
some (Ex.normal, [a0, a1, (PV.v (.bool false))], st)).bind fun r5 =>
bW r5.1 ((fR Tryz.prog 60 (ae r5.2.1 0)).bind fun p7 =>
(it (S22.b0 call it st.stk.length st.lp.length) [(ae r5.2.1 0), (ae r5.2.1 1), (ae r5.2.1 2), p7, (PV.v (.int .i64 0))] r5.2.2).bind fun r8 =>
bW (Ex.bn 0 r8.1) (fin st.stk.length st.tk.length st.lp.length [(PV.v (.bool true))] r8.2.2) fun x24 =>
ef x24 (fin st.stk.length st.tk.length st.lp.length [(ae r8.2.1 2)] r8.2.2)) fun x6 =>
ef x6 (fin st.stk.length st.tk.length st.lp.length [(ae r5.2.1 2)] r5.2.2)
theorem FX (a0 a1 : PV) (st : St) : E L (.func 22) [a0, a1] st = S22 (E L) itE a0 a1 st := (bN (by kernel_rfl) Tryz.func22 _ _).trans (by kernel_rfl)
noncomputable def S51 (call : bB) (it : bO) (a0 : PV) (st : St) : Option (PV × St) :=
(fE Tryz.prog 3 34 a0).bind fun p1 =>
(fE Tryz.prog 34 5 p1).bind fun p2 =>
(aW Tryz.prog true .shr 34 p1 (PV.v (.int .u64 8))).bind fun p3 =>
(fE Tryz.prog 34 5 p3).bind fun p4 =>
(aW Tryz.prog true .shr 34 p1 (PV.v (.int .u64 16))).bind fun p5 =>
(fE Tryz.prog 34 5 p5).bind fun p6 =>
(aW Tryz.prog true .shr 34 p1 (PV.v (.int .u64 24))).bind fun p7 =>
(fE Tryz.prog 34 5 p7).bind fun p8 =>
(aW Tryz.prog true .shr 34 p1 (PV.v (.int .u64 32))).bind fun p9 =>
(fE Tryz.prog 34 5 p9).bind fun p10 =>
(aW Tryz.prog true .shr 34 p1 (PV.v (.int .u64 40))).bind fun p11 =>
(fE Tryz.prog 34 5 p11).bind fun p12 =>
(aW Tryz.prog true .shr 34 p1 (PV.v (.int .u64 48))).bind fun p13 =>
(fE Tryz.prog 34 5 p13).bind fun p14 =>
(aW Tryz.prog true .shr 34 p1 (PV.v (.int .u64 56))).bind fun p15 =>
(fE Tryz.prog 34 5 p15).bind fun p16 =>
(aF 1 [.v (.int .u8 0)] 8 [(0, p2), (1, p4), (2, p6), (3, p8), (4, p10), (5, p12), (6, p14), (7, p16)]).bind fun p17 =>
(fE Tryz.prog 91 9 p17).bind fun p18 =>
fin st.stk.length st.tk.length st.lp.length [p18] st
theorem F0 (a0 : PV) (st : St) : E L (.func 51) [a0] st = S51 (E L) itE a0 st := (bN (by kernel_rfl) Tryz.func51 _ _).trans (by kernel_rfl)
noncomputable def S52.b0 (call : bB) (it : bO) (base lb : Nat) (vs6 : List PV) (st7 : St) : Option (Ex × List PV × St) :=
(aW Tryz.prog false .lss 3 (ae vs6 3) (ae vs6 2)).bind fun p8 =>
aE p8 fun b9 => (bif b9 then
some (Ex.normal, [(ae vs6 0), (ae vs6 1), (ae vs6 2), (ae vs6 3)], st7)
else
some ((Ex.exit 0), [(ae vs6 0), (ae vs6 1), (ae vs6 2), (ae vs6 3)], st7)).bind fun r10 =>
bW r10.1 ((bL Tryz.prog 25 (ae r10.2.1 1) (ae r10.2.1 3)).bind fun p12 =>
(ag true 5 p12 r10.2.2).bind fun p13 =>
let q15 : PV := .ptr false r10.2.2.stk.length 0
let st14 := r10.2.2.push [.v (.string ⟨#[]⟩), .v (.int .i64 0), .v (.string ⟨#[]⟩), .v (.int .i64 0), .v (.int .i64 0)]
(av base 5 q15 p13 st14).bind fun st16 =>
(an q15 0).bind fun p17 =>
(ag false 1 p17 st16).bind fun p18 =>
aH (st16 = st16) <|
(an q15 1).bind fun p19 =>
(an p19 0).bind fun p20 =>
(ag false 1 p20 st16).bind fun p21 =>
aH (st16 = st16) <|
(call (.func 51) [ai p21] st16).bind fun r22 =>
aH (r22.2 = st16) <|
(an q15 1).bind fun p23 =>
(an p23 1).bind fun p24 =>
(ag false 1 p24 st16).bind fun p25 =>
aH (st16 = st16) <|
(aF 1 [.v (.string ⟨#[]⟩)] 3 [(0, p18), (1, r22.1), (2, p25)]).bind fun p26 =>
(aZ st16 p26).bind fun ys27 =>
(bA base [.v (.string ⟨#[]⟩)] 1 16 (ae r10.2.1 0) ys27 st16).bind fun r28 =>
(aW Tryz.prog true .add 3 (ae r10.2.1 3) (PV.v (.int .i64 1))).bind fun p29 =>
eC base lb st7.stk.length Ex.normal [r28.1, (ae r10.2.1 1), (ae r10.2.1 2), p29] r28.2) fun x11 =>
eC base lb st7.stk.length x11 [(ae r10.2.1 0), (ae r10.2.1 1), (ae r10.2.1 2), (ae r10.2.1 3)] r10.2.2
noncomputable def S52 (call : bB) (it : bO) (a0 : PV) (st : St) : Option (PV × St) :=
(fR Tryz.prog 25 a0).bind fun p1 =>
(call (.func 51) [ai p1] st).bind fun r2 =>
(aF 1 [.v (.string ⟨#[]⟩)] 1 [(0, r2.1)]).bind fun p3 =>
(fR Tryz.prog 25 a0).bind fun p4 =>
(it (S52.b0 call it st.stk.length st.lp.length) [p3, a0, p4, (PV.v (.int .i64 0))] r2.2).bind fun r5 =>
bW (Ex.bn 0 r5.1) (fin st.stk.length st.tk.length st.lp.length [(ae r5.2.1 0)] r5.2.2) fun x30 =>
ef x30 (fin st.stk.length st.tk.length st.lp.length [PV.u] r5.2.2)
theorem F1 (a0 : PV) (st : St) : E L (.func 52) [a0] st = S52 (E L) itE a0 st := (bN (by kernel_rfl) Tryz.func52 _ _).trans (by kernel_rfl)
noncomputable def S81.b0 (call : bB) (it : bO) (base lb : Nat) (vs32 : List PV) (st33 : St) : Option (Ex × List PV × St) :=
(aW Tryz.prog false .lss 3 (ae vs32 3) (ae vs32 2)).bind fun p34 =>
aE p34 fun b35 => (bif b35 then
some (Ex.normal, [(ae vs32 0), (ae vs32 1), (ae vs32 2), (ae vs32 3)], st33)
else
some ((Ex.exit 0), [(ae vs32 0), (ae vs32 1), (ae vs32 2), (ae vs32 3)], st33)).bind fun r36 =>
bW r36.1 ((bL Tryz.prog 37 (ae r36.2.1 1) (ae r36.2.1 3)).bind fun p38 =>
(ag true 9 p38 r36.2.2).bind fun p39 =>
let q41 : PV := .ptr false r36.2.2.stk.length 0
let st40 := r36.2.2.push [.v (.int .i64 0), .v (.int .i64 0), .v (.int .u64 0), .v (.int .i64 0), .v (.string ⟨#[]⟩), .v (.string ⟨#[]⟩), .sl [] .nil, .v (.int .i64 0), .v (.int .i64 0)]
(av base 9 q41 p39 st40).bind fun st42 =>
(ag true 9 q41 st42).bind fun p43 =>
(call (.func 81) [ai p43] st42).bind fun r44 =>
(aZ r44.2 r44.1).bind fun ys45 =>
(bA base [.v (.string ⟨#[]⟩)] 1 16 (ae r36.2.1 0) ys45 r44.2).bind fun r46 =>
(aW Tryz.prog true .add 3 (ae r36.2.1 3) (PV.v (.int .i64 1))).bind fun p47 =>
eC base lb st33.stk.length Ex.normal [r46.1, (ae r36.2.1 1), (ae r36.2.1 2), p47] r46.2) fun x37 =>
eC base lb st33.stk.length x37 [(ae r36.2.1 0), (ae r36.2.1 1), (ae r36.2.1 2), (ae r36.2.1 3)] r36.2.2
noncomputable def S81 (call : bB) (it : bO) (a0 : PV) (st : St) : Option (PV × St) :=
(cellsOf a0).bind fun b1 =>
let q3 : PV := .ptr false st.stk.length 0
let st2 := st.push b1
(an q3 0).bind fun p4 =>
(ag false 1 p4 st2).bind fun p5 =>
aH (st2 = st2) <|
(call (.func 51) [ai p5] st2).bind fun r6 =>
aH (r6.2 = st2) <|
(an q3 1).bind fun p7 =>
(ag false 1 p7 st2).bind fun p8 =>
aH (st2 = st2) <|
(call (.func 51) [ai p8] st2).bind fun r9 =>
aH (r9.2 = st2) <|
(an q3 2).bind fun p10 =>
(ag false 1 p10 st2).bind fun p11 =>
aH (st2 = st2) <|
(fE Tryz.prog 34 3 p11).bind fun p12 =>
(call (.func 51) [ai p12] st2).bind fun r13 =>
aH (r13.2 = st2) <|
(an q3 3).bind fun p14 =>
(an p14 0).bind fun p15 =>
(ag false 1 p15 st2).bind fun p16 =>
aH (st2 = st2) <|
(call (.func 51) [ai p16] st2).bind fun r17 =>
aH (r17.2 = st2) <|
(an q3 3).bind fun p18 =>
(an p18 1).bind fun p19 =>
(ag false 1 p19 st2).bind fun p20 =>
aH (st2 = st2) <|
(an q3 5).bind fun p21 =>
(ag false 1 p21 st2).bind fun p22 =>
aH (st2 = st2) <|
(an q3 6).bind fun p23 =>
(ag false 1 p23 st2).bind fun p24 =>
aH (st2 = st2) <|
(fR Tryz.prog 37 p24).bind fun p25 =>
(call (.func 51) [ai p25] st2).bind fun r26 =>
aH (r26.2 = st2) <|
(aF 1 [.v (.string ⟨#[]⟩)] 8 [(0, (PV.v (.string ⟨#[101, 120, 112, 114]⟩))), (1, r6.1), (2, r9.1), (3, r13.1), (4, r17.1), (5, p20), (6, p22), (7, r26.1)]).bind fun p27 =>
(an q3 6).bind fun p28 =>
(ag false 1 p28 st2).bind fun p29 =>
(fR Tryz.prog 37 p29).bind fun p30 =>
(it (S81.b0 call it st.stk.length st.lp.length) [p27, p29, p30, (PV.v (.int .i64 0))] st2).bind fun r31 =>
bW (Ex.bn 0 r31.1) (fin st.stk.length st.tk.length st.lp.length [(ae r31.2.1 0)] r31.2.2) fun x48 =>
ef x48 (fin st.stk.length st.tk.length st.lp.length [PV.u] r31.2.2)
theorem F8 (a0 : PV) (st : St) : E L (.func 81) [a0] st = S81 (E L) itE a0 st := (bN (by kernel_rfl) Tryz.func81 _ _).trans (by kernel_rfl)
noncomputable def S82 (call : bB) (it : bO) (a0 : PV) (st : St) : Option (PV × St) :=
(cellsOf a0).bind fun b1 =>
let q3 : PV := .ptr false st.stk.length 0
let st2 := st.push b1
(an q3 0).bind fun p4 =>
(ag false 1 p4 st2).bind fun p5 =>
aH (st2 = st2) <|
(call (.func 51) [ai p5] st2).bind fun r6 =>
aH (r6.2 = st2) <|
(an q3 1).bind fun p7 =>
(ag false 1 p7 st2).bind fun p8 =>
aH (st2 = st2) <|
(an q3 2).bind fun p9 =>
(ag false 1 p9 st2).bind fun p10 =>
aH (st2 = st2) <|
(aF 1 [.v (.string ⟨#[]⟩)] 4 [(0, (PV.v (.string ⟨#[112, 108, 97, 99, 101]⟩))), (1, r6.1), (2, p8), (3, p10)]).bind fun p11 =>
(an q3 3).bind fun p12 =>
(ag true 9 p12 st2).bind fun p13 =>
aH (st2 = st2) <|
(call (.func 81) [ai p13] st2).bind fun r14 =>
aH (r14.2 = st2) <|
(aZ st2 r14.1).bind fun ys15 =>
(bA st.stk.length [.v (.string ⟨#[]⟩)] 1 16 p11 ys15 st2).bind fun r16 =>
fin st.stk.length st.tk.length st.lp.length [r16.1] r16.2
theorem F9 (a0 : PV) (st : St) : E L (.func 82) [a0] st = S82 (E L) itE a0 st := (bN (by kernel_rfl) Tryz.func82 _ _).trans (by kernel_rfl)
noncomputable def S53.b1 (call : bB) (it : bO) (base lb : Nat) (vs65 : List PV) (st66 : St) : Option (Ex × List PV × St) :=
(aW Tryz.prog false .lss 3 (ae vs65 7) (ae vs65 6)).bind fun p67 =>
aE p67 fun b68 => (bif b68 then
some (Ex.normal, [(ae vs65 0), (ae vs65 1), (ae vs65 2), (ae vs65 3), (ae vs65 4), (ae vs65 5), (ae vs65 6), (ae vs65 7)], st66)
else
some ((Ex.exit 2), [(ae vs65 0), (ae vs65 1), (ae vs65 2), (ae vs65 3), (ae vs65 4), (ae vs65 5), (ae vs65 6), (ae vs65 7)], st66)).bind fun r69 =>
bW r69.1 ((bL Tryz.prog 37 (ae r69.2.1 5) (ae r69.2.1 7)).bind fun p71 =>
(ag true 9 p71 r69.2.2).bind fun p72 =>
let q74 : PV := .ptr false r69.2.2.stk.length 0
let st73 := r69.2.2.push [.v (.int .i64 0), .v (.int .i64 0), .v (.int .u64 0), .v (.int .i64 0), .v (.string ⟨#[]⟩), .v (.string ⟨#[]⟩), .sl [] .nil, .v (.int .i64 0), .v (.int .i64 0)]
(av base 9 q74 p72 st73).bind fun st75 =>
(ag true 9 q74 st75).bind fun p76 =>
(call (.func 81) [ai p76] st75).bind fun r77 =>
(aZ r77.2 r77.1).bind fun ys78 =>
(bA base [.v (.string ⟨#[]⟩)] 1 16 (ae r69.2.1 0) ys78 r77.2).bind fun r79 =>
(aW Tryz.prog true .add 3 (ae r69.2.1 7) (PV.v (.int .i64 1))).bind fun p80 =>
eC base lb st66.stk.length Ex.normal [r79.1, (ae r69.2.1 1), (ae r69.2.1 2), (ae r69.2.1 3), (ae r69.2.1 4), (ae r69.2.1 5), (ae r69.2.1 6), p80] r79.2) fun x70 =>
eC base lb st66.stk.length x70 [(ae r69.2.1 0), (ae r69.2.1 1), (ae r69.2.1 2), (ae r69.2.1 3), (ae r69.2.1 4), (ae r69.2.1 5), (ae r69.2.1 6), (ae r69.2.1 7)] r69.2.2
noncomputable def S53.b0 (call : bB) (it : bO) (base lb : Nat) (vs6 : List PV) (st7 : St) : Option (Ex × List PV × St) :=
(aW Tryz.prog false .lss 3 (ae vs6 3) (ae vs6 2)).bind fun p8 =>
aE p8 fun b9 => (bif b9 then
some (Ex.normal, [(ae vs6 0), (ae vs6 1), (ae vs6 2), (ae vs6 3)], st7)
else
some ((Ex.exit 0), [(ae vs6 0), (ae vs6 1), (ae vs6 2), (ae vs6 3)], st7)).bind fun r10 =>
bW r10.1 ((bL Tryz.prog 31 (ae r10.2.1 1) (ae r10.2.1 3)).bind fun p12 =>
(ag true 58 p12 r10.2.2).bind fun p13 =>
let q15 : PV := .ptr false r10.2.2.stk.length 0
let st14 := r10.2.2.push [.v (.int .i64 0), .v (.string ⟨#[]⟩), .v (.int .i64 0), .v (.int .i64 0), .v (.int .i64 0), .v (.int .u64 0), .v (.int .i64 0), .v (.string ⟨#[]⟩), .v (.string ⟨#[]⟩), .sl [] .nil, .v (.int .i64 0), .v (.int .i64 0), .v (.int .i64 0), .v (.string ⟨#[]⟩), .v (.string ⟨#[]⟩), .v (.int .i64 0), .v (.int .i64 0), .v (.int .u64 0), .v (.int .i64 0), .v (.string ⟨#[]⟩), .v (.string ⟨#[]⟩), .sl [] .nil, .v (.int .i64 0), .v (.int .i64 0), .v (.int .i64 0), .v (.int .i64 0), .v (.string ⟨#[]⟩), .v (.int .i64 0), .v (.int .i64 0), .v (.int .i64 0), .v (.string ⟨#[]⟩), .v (.string ⟨#[]⟩), .v (.int .i64 0), .v (.int .i64 0), .v (.int .u64 0), .v (.int .i64 0), .v (.string ⟨#[]⟩), .v (.string ⟨#[]⟩), .sl [] .nil, .v (.int .i64 0), .v (.int .i64 0), .v (.int .i64 0), .v (.int .i64 0), .v (.int .i64 0), .v (.int .i64 0), .v (.int .u64 0), .v (.int .i64 0), .v (.string ⟨#[]⟩), .v (.string ⟨#[]⟩), .sl [] .nil, .v (.int .i64 0), .v (.int .i64 0), .v (.int .i64 0), .sl [] .nil, .sl [] .nil, .sl [] .nil, .v (.int .i64 0), .v (.int .i64 0)]
(av base 58 q15 p13 st14).bind fun st16 =>
(an q15 0).bind fun p17 =>
(ag false 1 p17 st16).bind fun p18 =>
aH (st16 = st16) <|
(call (.func 51) [ai p18] st16).bind fun r19 =>
aH (r19.2 = st16) <|
(an q15 1).bind fun p20 =>
(ag false 1 p20 st16).bind fun p21 =>
aH (st16 = st16) <|
(an q15 52).bind fun p22 =>
(ag false 1 p22 st16).bind fun p23 =>
aH (st16 = st16) <|
(call (.func 51) [ai p23] st16).bind fun r24 =>
aH (r24.2 = st16) <|
(an q15 2).bind fun p25 =>
(an p25 0).bind fun p26 =>
(ag false 1 p26 st16).bind fun p27 =>
aH (st16 = st16) <|
(call (.func 51) [ai p27] st16).bind fun r28 =>
aH (r28.2 = st16) <|
(an q15 2).bind fun p29 =>
(an p29 24).bind fun p30 =>
(ag false 1 p30 st16).bind fun p31 =>
aH (st16 = st16) <|
(an q15 53).bind fun p32 =>
(ag false 1 p32 st16).bind fun p33 =>
aH (st16 = st16) <|
(fR Tryz.prog 37 p33).bind fun p34 =>
(call (.func 51) [ai p34] st16).bind fun r35 =>
aH (r35.2 = st16) <|
(aF 1 [.v (.string ⟨#[]⟩)] 7 [(0, (PV.v (.string ⟨#[115, 116, 109, 116]⟩))), (1, r19.1), (2, p21), (3, r24.1), (4, r28.1), (5, p31), (6, r35.1)]).bind fun p36 =>
(aZ st16 p36).bind fun ys37 =>
(bA base [.v (.string ⟨#[]⟩)] 1 16 (ae r10.2.1 0) ys37 st16).bind fun r38 =>
(an q15 2).bind fun p39 =>
(an p39 1).bind fun p40 =>
(ag true 9 p40 r38.2).bind fun p41 =>
(call (.func 81) [ai p41] r38.2).bind fun r42 =>
(aZ r42.2 r42.1).bind fun ys43 =>
(bA base [.v (.string ⟨#[]⟩)] 1 16 r38.1 ys43 r42.2).bind fun r44 =>
(an q15 2).bind fun p45 =>
(an p45 10).bind fun p46 =>
(ag true 14 p46 r44.2).bind fun p47 =>
(call (.func 82) [ai p47] r44.2).bind fun r48 =>
(aZ r48.2 r48.1).bind fun ys49 =>
(bA base [.v (.string ⟨#[]⟩)] 1 16 r44.1 ys49 r48.2).bind fun r50 =>
(an q15 29).bind fun p51 =>
(ag true 14 p51 r50.2).bind fun p52 =>
(call (.func 82) [ai p52] r50.2).bind fun r53 =>
(aZ r53.2 r53.1).bind fun ys54 =>
(bA base [.v (.string ⟨#[]⟩)] 1 16 r50.1 ys54 r53.2).bind fun r55 =>
(an q15 43).bind fun p56 =>
(ag true 9 p56 r55.2).bind fun p57 =>
(call (.func 81) [ai p57] r55.2).bind fun r58 =>
(aZ r58.2 r58.1).bind fun ys59 =>
(bA base [.v (.string ⟨#[]⟩)] 1 16 r55.1 ys59 r58.2).bind fun r60 =>
(an q15 53).bind fun p61 =>
(ag false 1 p61 r60.2).bind fun p62 =>
(fR Tryz.prog 37 p62).bind fun p63 =>
(it (S53.b1 call it base lb) [r60.1, q15, (ae r10.2.1 1), (ae r10.2.1 2), (ae r10.2.1 3), p62, p63, (PV.v (.int .i64 0))] r60.2).bind fun r64 =>
bW (Ex.bn 2 r64.1) ((an (ae r64.2.1 1) 54).bind fun p82 =>
(ag false 1 p82 r64.2.2).bind fun p83 =>
(call (.func 53) [ai p83] r64.2.2).bind fun r84 =>
(aZ r84.2 r84.1).bind fun ys85 =>
(bA base [.v (.string ⟨#[]⟩)] 1 16 (ae r64.2.1 0) ys85 r84.2).bind fun r86 =>
(an (ae r64.2.1 1) 55).bind fun p87 =>
(ag false 1 p87 r86.2).bind fun p88 =>
(call (.func 53) [ai p88] r86.2).bind fun r89 =>
(aZ r89.2 r89.1).bind fun ys90 =>
(bA base [.v (.string ⟨#[]⟩)] 1 16 r86.1 ys90 r89.2).bind fun r91 =>
(aW Tryz.prog true .add 3 (ae r64.2.1 4) (PV.v (.int .i64 1))).bind fun p92 =>
eC base lb st7.stk.length Ex.normal [r91.1, (ae r64.2.1 2), (ae r64.2.1 3), p92] r91.2) fun x81 =>
bW (Ex.bn 1 x81) ((aW Tryz.prog true .add 3 (ae r64.2.1 4) (PV.v (.int .i64 1))).bind fun p94 =>
eC base lb st7.stk.length Ex.normal [(ae r64.2.1 0), (ae r64.2.1 2), (ae r64.2.1 3), p94] r64.2.2) fun x93 =>
eC base lb st7.stk.length x93 [(ae r64.2.1 0), (ae r64.2.1 2), (ae r64.2.1 3), (ae r64.2.1 4)] r64.2.2) fun x11 =>
eC base lb st7.stk.length x11 [(ae r10.2.1 0), (ae r10.2.1 1), (ae r10.2.1 2), (ae r10.2.1 3)] r10.2.2
noncomputable def S53 (call : bB) (it : bO) (a0 : PV) (st : St) : Option (PV × St) :=
(fR Tryz.prog 31 a0).bind fun p1 =>
(call (.func 51) [ai p1] st).bind fun r2 =>
(aF 1 [.v (.string ⟨#[]⟩)] 2 [(0, (PV.v (.string ⟨#[114, 111, 119]⟩))), (1, r2.1)]).bind fun p3 =>
(fR Tryz.prog 31 a0).bind fun p4 =>
(it (S53.b0 call it st.stk.length st.lp.length) [p3, a0, p4, (PV.v (.int .i64 0))] r2.2).bind fun r5 =>
bW (Ex.bn 0 r5.1) (fin st.stk.length st.tk.length st.lp.length [(ae r5.2.1 0)] r5.2.2) fun x95 =>
ef x95 (fin st.stk.length st.tk.length st.lp.length [PV.u] r5.2.2)
theorem F2 (a0 : PV) (st : St) : E L (.func 53) [a0] st = S53 (E L) itE a0 st := (bN (by kernel_rfl) Tryz.func53 _ _).trans (by kernel_rfl)
noncomputable def S23.b0 (call : bB) (it : bO) (base lb : Nat) (vs21 : List PV) (st22 : St) : Option (Ex × List PV × St) :=
(aW Tryz.prog false .lss 3 (ae vs21 4) (ae vs21 3)).bind fun p23 =>
aE p23 fun b24 => (bif b24 then
some (Ex.normal, [(ae vs21 0), (ae vs21 1), (ae vs21 2), (ae vs21 3), (ae vs21 4)], st22)
else
some ((Ex.exit 0), [(ae vs21 0), (ae vs21 1), (ae vs21 2), (ae vs21 3), (ae vs21 4)], st22)).bind fun r25 =>
bW r25.1 ((bL Tryz.prog 24 (ae r25.2.1 2) (ae r25.2.1 4)).bind fun p27 =>
(ag true 4 p27 r25.2.2).bind fun p28 =>
let q30 : PV := .ptr false r25.2.2.stk.length 0
let st29 := r25.2.2.push [.v (.string ⟨#[]⟩), .sl [] .nil, .v (.int .i64 0), .v (.int .i64 0)]
(av base 4 q30 p28 st29).bind fun st31 =>
(an q30 0).bind fun p32 =>
(ag false 1 p32 st31).bind fun p33 =>
aH (st31 = st31) <|
(aF 1 [.v (.string ⟨#[]⟩)] 1 [(0, p33)]).bind fun p34 =>
(aZ st31 p34).bind fun ys35 =>
(bA base [.v (.string ⟨#[]⟩)] 1 16 (ae r25.2.1 1) ys35 st31).bind fun r36 =>
(an q30 1).bind fun p37 =>
(ag false 1 p37 r36.2).bind fun p38 =>
aH (r36.2 = r36.2) <|
aH (((ag false 1 p37 st31).bind fun p39 =>
some (Rs.ret p39, st31)) = some (Rs.ret p38, st31)) <|
(call (.func 52) [ai p38] r36.2).bind fun r40 =>
aH (r40.2 = r36.2) <|
(aZ r36.2 r40.1).bind fun ys41 =>
(bA base [.v (.string ⟨#[]⟩)] 1 16 r36.1 ys41 r36.2).bind fun r42 =>
(aW Tryz.prog true .add 3 (ae r25.2.1 4) (PV.v (.int .i64 1))).bind fun p43 =>
eC base lb st22.stk.length Ex.normal [(ae r25.2.1 0), r42.1, (ae r25.2.1 2), (ae r25.2.1 3), p43] r42.2) fun x26 =>
eC base lb st22.stk.length x26 [(ae r25.2.1 0), (ae r25.2.1 1), (ae r25.2.1 2), (ae r25.2.1 3), (ae r25.2.1 4)] r25.2.2
noncomputable def S23.b1 (call : bB) (it : bO) (base lb : Nat) (vs54 : List PV) (st55 : St) : Option (Ex × List PV × St) :=
(aW Tryz.prog false .lss 3 (ae vs54 4) (ae vs54 3)).bind fun p56 =>
aE p56 fun b57 => (bif b57 then
some (Ex.normal, [(ae vs54 0), (ae vs54 1), (ae vs54 2), (ae vs54 3), (ae vs54 4)], st55)
else
some ((Ex.exit 2), [(ae vs54 0), (ae vs54 1), (ae vs54 2), (ae vs54 3), (ae vs54 4)], st55)).bind fun r58 =>
bW r58.1 ((bL Tryz.prog 26 (ae r58.2.1 2) (ae r58.2.1 4)).bind fun p60 =>
(ag true 5 p60 r58.2.2).bind fun p61 =>
let q63 : PV := .ptr false r58.2.2.stk.length 0
let st62 := r58.2.2.push [.v (.string ⟨#[]⟩), .sl [] .nil, .sl [] .nil, .v (.int .i64 0), .v (.int .i64 0)]
(av base 5 q63 p61 st62).bind fun st64 =>
(an q63 0).bind fun p65 =>
(ag false 1 p65 st64).bind fun p66 =>
aH (st64 = st64) <|
(aF 1 [.v (.string ⟨#[]⟩)] 1 [(0, p66)]).bind fun p67 =>
(aZ st64 p67).bind fun ys68 =>
(bA base [.v (.string ⟨#[]⟩)] 1 16 (ae r58.2.1 1) ys68 st64).bind fun r69 =>
(an q63 1).bind fun p70 =>
(ag false 1 p70 r69.2).bind fun p71 =>
aH (r69.2 = r69.2) <|
aH (((ag false 1 p70 st64).bind fun p72 =>
some (Rs.ret p72, st64)) = some (Rs.ret p71, st64)) <|
(call (.func 52) [ai p71] r69.2).bind fun r73 =>
aH (r73.2 = r69.2) <|
(aZ r69.2 r73.1).bind fun ys74 =>
(bA base [.v (.string ⟨#[]⟩)] 1 16 r69.1 ys74 r69.2).bind fun r75 =>
(an q63 2).bind fun p76 =>
(ag false 1 p76 r75.2).bind fun p77 =>
aH (r75.2 = r75.2) <|
aH (((ag false 1 p76 r69.2).bind fun p78 =>
some (Rs.ret p78, r69.2)) = some (Rs.ret p77, r69.2)) <|
aH (((ag false 1 p76 st64).bind fun p79 =>
some (Rs.ret p79, st64)) = some (Rs.ret p77, st64)) <|
(call (.func 53) [ai p77] r75.2).bind fun r80 =>
aH (r80.2 = r75.2) <|
(aZ r75.2 r80.1).bind fun ys81 =>
(bA base [.v (.string ⟨#[]⟩)] 1 16 r75.1 ys81 r75.2).bind fun r82 =>
(aW Tryz.prog true .add 3 (ae r58.2.1 4) (PV.v (.int .i64 1))).bind fun p83 =>
eC base lb st55.stk.length Ex.normal [(ae r58.2.1 0), r82.1, (ae r58.2.1 2), (ae r58.2.1 3), p83] r82.2) fun x59 =>
eC base lb st55.stk.length x59 [(ae r58.2.1 0), (ae r58.2.1 1), (ae r58.2.1 2), (ae r58.2.1 3), (ae r58.2.1 4)] r58.2.2
noncomputable def S23.b2 (call : bB) (it : bO) (base lb : Nat) (vs89 : List PV) (st90 : St) : Option (Ex × List PV × St) :=
(aW Tryz.prog false .lss 3 (ae vs89 3) (ae vs89 2)).bind fun p91 =>
aE p91 fun b92 => (bif b92 then
some (Ex.normal, [(ae vs89 0), (ae vs89 1), (ae vs89 2), (ae vs89 3)], st90)
else
some ((Ex.exit 4), [(ae vs89 0), (ae vs89 1), (ae vs89 2), (ae vs89 3)], st90)).bind fun r93 =>
bW r93.1 ((bL Tryz.prog 27 (ae r93.2.1 1) (ae r93.2.1 3)).bind fun p95 =>
(ag true 3 p95 r93.2.2).bind fun p96 =>
let q98 : PV := .ptr false r93.2.2.stk.length 0
let st97 := r93.2.2.push [.sl [] .nil, .v (.int .i64 0), .v (.int .i64 0)]
(av base 3 q98 p96 st97).bind fun st99 =>
(an q98 0).bind fun p100 =>
(ag false 1 p100 st99).bind fun p101 =>
(call (.func 53) [ai p101] st99).bind fun r102 =>
(aZ r102.2 r102.1).bind fun ys103 =>
(bA base [.v (.string ⟨#[]⟩)] 1 16 (ae r93.2.1 0) ys103 r102.2).bind fun r104 =>
(aW Tryz.prog true .add 3 (ae r93.2.1 3) (PV.v (.int .i64 1))).bind fun p105 =>
eC base lb st90.stk.length Ex.normal [r104.1, (ae r93.2.1 1), (ae r93.2.1 2), p105] r104.2) fun x94 =>
eC base lb st90.stk.length x94 [(ae r93.2.1 0), (ae r93.2.1 1), (ae r93.2.1 2), (ae r93.2.1 3)] r93.2.2
noncomputable def S23 (call : bB) (it : bO) (a0 : PV) (st : St) : Option (PV × St) :=
(cellsOf a0).bind fun b1 =>
let q3 : PV := .ptr false st.stk.length 0
let st2 := st.push b1
(an q3 0).bind fun p4 =>
(ag false 1 p4 st2).bind fun p5 =>
aH (st2 = st2) <|
(fR Tryz.prog 24 p5).bind fun p6 =>
(call (.func 51) [ai p6] st2).bind fun r7 =>
aH (r7.2 = st2) <|
(an q3 2).bind fun p8 =>
(ag false 1 p8 st2).bind fun p9 =>
aH (st2 = st2) <|
(fR Tryz.prog 26 p9).bind fun p10 =>
(call (.func 51) [ai p10] st2).bind fun r11 =>
aH (r11.2 = st2) <|
(an q3 3).bind fun p12 =>
(ag false 1 p12 st2).bind fun p13 =>
aH (st2 = st2) <|
(fR Tryz.prog 27 p13).bind fun p14 =>
(call (.func 51) [ai p14] st2).bind fun r15 =>
aH (r15.2 = st2) <|
(aF 1 [.v (.string ⟨#[]⟩)] 3 [(0, r7.1), (1, r11.1), (2, r15.1)]).bind fun p16 =>
(an q3 0).bind fun p17 =>
(ag false 1 p17 st2).bind fun p18 =>
(fR Tryz.prog 24 p18).bind fun p19 =>
(it (S23.b0 call it st.stk.length st.lp.length) [q3, p16, p18, p19, (PV.v (.int .i64 0))] st2).bind fun r20 =>
bW (Ex.bn 0 r20.1) ((an (ae r20.2.1 0) 1).bind fun p45 =>
(ag false 1 p45 r20.2.2).bind fun p46 =>
(call (.func 52) [ai p46] r20.2.2).bind fun r47 =>
(aZ r47.2 r47.1).bind fun ys48 =>
(bA st.stk.length [.v (.string ⟨#[]⟩)] 1 16 (ae r20.2.1 1) ys48 r47.2).bind fun r49 =>
(an (ae r20.2.1 0) 2).bind fun p50 =>
(ag false 1 p50 r49.2).bind fun p51 =>
(fR Tryz.prog 26 p51).bind fun p52 =>
(it (S23.b1 call it st.stk.length st.lp.length) [(ae r20.2.1 0), r49.1, p51, p52, (PV.v (.int .i64 0))] r49.2).bind fun r53 =>
bW (Ex.bn 2 r53.1) ((an (ae r53.2.1 0) 3).bind fun p85 =>
(ag false 1 p85 r53.2.2).bind fun p86 =>
(fR Tryz.prog 27 p86).bind fun p87 =>
(it (S23.b2 call it st.stk.length st.lp.length) [(ae r53.2.1 1), p86, p87, (PV.v (.int .i64 0))] r53.2.2).bind fun r88 =>
bW (Ex.bn 4 r88.1) (fin st.stk.length st.tk.length st.lp.length [(ae r88.2.1 0)] r88.2.2) fun x106 =>
ef x106 (fin st.stk.length st.tk.length st.lp.length [PV.u] r88.2.2)) fun x84 =>
ef x84 (fin st.stk.length st.tk.length st.lp.length [PV.u] r53.2.2)) fun x44 =>
ef x44 (fin st.stk.length st.tk.length st.lp.length [PV.u] r20.2.2)
theorem FY (a0 : PV) (st : St) : E L (.func 23) [a0] st = S23 (E L) itE a0 st := (bN (by kernel_rfl) Tryz.func23 _ _).trans (by kernel_rfl)
noncomputable def S25.b1 (call : bB) (it : bO) (base lb : Nat) (vs41 : List PV) (st42 : St) : Option (Ex × List PV × St) :=
(aW Tryz.prog false .lss 3 (ae vs41 4) (ae vs41 3)).bind fun p43 =>
aE p43 fun b44 => (bif b44 then
some (Ex.normal, [(ae vs41 0), (ae vs41 1), (ae vs41 2), (ae vs41 3), (ae vs41 4)], st42)
else
some ((Ex.exit 2), [(ae vs41 0), (ae vs41 1), (ae vs41 2), (ae vs41 3), (ae vs41 4)], st42)).bind fun r45 =>
bW r45.1 ((bL Tryz.prog 26 (ae r45.2.1 2) (ae r45.2.1 4)).bind fun p47 =>
(ag true 5 p47 r45.2.2).bind fun p48 =>
let q50 : PV := .ptr false r45.2.2.stk.length 0
let st49 := r45.2.2.push [.v (.string ⟨#[]⟩), .sl [] .nil, .sl [] .nil, .v (.int .i64 0), .v (.int .i64 0)]
(av base 5 q50 p48 st49).bind fun st51 =>
(an q50 3).bind fun p52 =>
(ag false 1 p52 st51).bind fun p53 =>
aH (st51 = st51) <|
(an q50 4).bind fun p54 =>
(ag false 1 p54 st51).bind fun p55 =>
aH (st51 = st51) <|
(aF 1 [.v (.int .i64 0)] 2 [(0, p53), (1, p55)]).bind fun p56 =>
(aZ st51 p56).bind fun ys57 =>
(bA base [.v (.int .i64 0)] 1 8 (ae r45.2.1 1) ys57 st51).bind fun r58 =>
(an q50 1).bind fun p59 =>
(ag false 1 p59 r58.2).bind fun p60 =>
aH (r58.2 = r58.2) <|
aH (((ag false 1 p59 st51).bind fun p61 =>
some (Rs.ret p61, st51)) = some (Rs.ret p60, st51)) <|
(call (.func 54) [ai p60] r58.2).bind fun r62 =>
aH (r62.2 = r58.2) <|
(aZ r58.2 r62.1).bind fun ys63 =>
(bA base [.v (.int .i64 0)] 1 8 r58.1 ys63 r58.2).bind fun r64 =>
(an q50 2).bind fun p65 =>
(ag false 1 p65 r64.2).bind fun p66 =>
aH (r64.2 = r64.2) <|
aH (((ag false 1 p65 r58.2).bind fun p67 =>
some (Rs.ret p67, r58.2)) = some (Rs.ret p66, r58.2)) <|
aH (((ag false 1 p65 st51).bind fun p68 =>
some (Rs.ret p68, st51)) = some (Rs.ret p66, st51)) <|
(call (.func 55) [ai p66] r64.2).bind fun r69 =>
aH (r69.2 = r64.2) <|
(aZ r64.2 r69.1).bind fun ys70 =>
(bA base [.v (.int .i64 0)] 1 8 r64.1 ys70 r64.2).bind fun r71 =>
(aW Tryz.prog true .add 3 (ae r45.2.1 4) (PV.v (.int .i64 1))).bind fun p72 =>
eC base lb st42.stk.length Ex.normal [(ae r45.2.1 0), r71.1, (ae r45.2.1 2), (ae r45.2.1 3), p72] r71.2) fun x46 =>
eC base lb st42.stk.length x46 [(ae r45.2.1 0), (ae r45.2.1 1), (ae r45.2.1 2), (ae r45.2.1 3), (ae r45.2.1 4)] r45.2.2
noncomputable def S25.b2 (call : bB) (it : bO) (base lb : Nat) (vs78 : List PV) (st79 : St) : Option (Ex × List PV × St) :=
(aW Tryz.prog false .lss 3 (ae vs78 3) (ae vs78 2)).bind fun p80 =>
aE p80 fun b81 => (bif b81 then
some (Ex.normal, [(ae vs78 0), (ae vs78 1), (ae vs78 2), (ae vs78 3)], st79)
else
some ((Ex.exit 4), [(ae vs78 0), (ae vs78 1), (ae vs78 2), (ae vs78 3)], st79)).bind fun r82 =>
bW r82.1 ((bL Tryz.prog 27 (ae r82.2.1 1) (ae r82.2.1 3)).bind fun p84 =>
(ag true 3 p84 r82.2.2).bind fun p85 =>
let q87 : PV := .ptr false r82.2.2.stk.length 0
let st86 := r82.2.2.push [.sl [] .nil, .v (.int .i64 0), .v (.int .i64 0)]
(av base 3 q87 p85 st86).bind fun st88 =>
(an q87 1).bind fun p89 =>
(ag false 1 p89 st88).bind fun p90 =>
aH (st88 = st88) <|
(an q87 2).bind fun p91 =>
(ag false 1 p91 st88).bind fun p92 =>
aH (st88 = st88) <|
(aF 1 [.v (.int .i64 0)] 2 [(0, p90), (1, p92)]).bind fun p93 =>
(aZ st88 p93).bind fun ys94 =>
(bA base [.v (.int .i64 0)] 1 8 (ae r82.2.1 0) ys94 st88).bind fun r95 =>
(an q87 0).bind fun p96 =>
(ag false 1 p96 r95.2).bind fun p97 =>
aH (r95.2 = r95.2) <|
aH (((ag false 1 p96 st88).bind fun p98 =>
some (Rs.ret p98, st88)) = some (Rs.ret p97, st88)) <|
(call (.func 55) [ai p97] r95.2).bind fun r99 =>
aH (r99.2 = r95.2) <|
(aZ r95.2 r99.1).bind fun ys100 =>
(bA base [.v (.int .i64 0)] 1 8 r95.1 ys100 r95.2).bind fun r101 =>
(aW Tryz.prog true .add 3 (ae r82.2.1 3) (PV.v (.int .i64 1))).bind fun p102 =>
eC base lb st79.stk.length Ex.normal [r101.1, (ae r82.2.1 1), (ae r82.2.1 2), p102] r101.2) fun x83 =>
eC base lb st79.stk.length x83 [(ae r82.2.1 0), (ae r82.2.1 1), (ae r82.2.1 2), (ae r82.2.1 3)] r82.2.2
noncomputable def S6 (call : bB) (it : bO) (a0 a1 : PV) (st : St) : Option (PV × St) :=
(call (.func 19) [] st).bind fun r1 =>
(aUn Tryz.prog .not r1.1).bind fun p2 =>
aE p2 fun b3 => (bif b3 then
some (Ex.ret, [a0, a1, (PV.v (.bool false))], r1.2)
else
some (Ex.normal, [a0, a1, (PV.v (.bool false))], r1.2)).bind fun r4 =>
bW r4.1 ((fR Tryz.prog 9 (ae r4.2.1 0)).bind fun p6 =>
(aW Tryz.prog true .gtr 3 p6 (PV.v (.int .i64 4096))).bind fun p7 =>
(onG p7 false (
some ((ae r4.2.1 1), r4.2.2)) r4.2.2).bind fun r9 =>
(onG p7 false (
(fR Tryz.prog 9 r9.1).bind fun p12 =>
some (p12, r9.2)) r9.2).bind fun r11 =>
(onG p7 false (
(aW Tryz.prog true .geq 3 r11.1 (PV.v (.int .i64 4096))).bind fun p15 =>
some (p15, r11.2)) r11.2).bind fun r14 =>
(bX p7 (PV.v (.bool true)) r14.1).bind fun p16 =>
aE p16 fun b17 => (bif b17 then
some (Ex.ret, [(ae r4.2.1 0), (ae r4.2.1 1), (PV.v (.bool true))], r14.2)
else
some (Ex.normal, [(ae r4.2.1 0), (ae r4.2.1 1), (ae r4.2.1 2)], r14.2)).bind fun r18 =>
bW r18.1 ((call (.func 20) [ai (ae r18.2.1 0)] r18.2.2).bind fun r20 =>
(aY r20.1 0).bind fun p21 =>
(aY r20.1 1).bind fun p22 =>
let q24 : PV := .ptr false r20.2.stk.length 0
let st23 := r20.2.push [.sl [] .nil, .sl [] .nil, .sl [] .nil, .sl [] .nil]
let q26 : PV := .ptr false st23.stk.length 0
let st25 := st23.push [.v (.int .i64 0), .v (.int .i64 0), .v (.int .i64 0)]
(av st.stk.length 4 q24 p21 st25).bind fun st27 =>
(av st.stk.length 3 q26 p22 st27).bind fun st28 =>
(call (.func 20) [ai (ae r18.2.1 1)] st28).bind fun r29 =>
(aY r29.1 0).bind fun p30 =>
(aY r29.1 1).bind fun p31 =>
let q33 : PV := .ptr false r29.2.stk.length 0
let st32 := r29.2.push [.sl [] .nil, .sl [] .nil, .sl [] .nil, .sl [] .nil]
let q35 : PV := .ptr false st32.stk.length 0
let st34 := st32.push [.v (.int .i64 0), .v (.int .i64 0), .v (.int .i64 0)]
(av st.stk.length 4 q33 p30 st34).bind fun st36 =>
(av st.stk.length 3 q35 p31 st36).bind fun st37 =>
(aW Tryz.prog true .add 9 (ae r18.2.1 0) (PV.v (.string ⟨#[10]⟩))).bind fun p38 =>
(aW Tryz.prog false .add 9 p38 (ae r18.2.1 1)).bind fun p39 =>
(call (.func 20) [ai p39] st37).bind fun r40 =>
(aY r40.1 0).bind fun p41 =>
(aY r40.1 1).bind fun p42 =>
let q44 : PV := .ptr false r40.2.stk.length 0
let st43 := r40.2.push [.sl [] .nil, .sl [] .nil, .sl [] .nil, .sl [] .nil]
let q46 : PV := .ptr false st43.stk.length 0
let st45 := st43.push [.v (.int .i64 0), .v (.int .i64 0), .v (.int .i64 0)]
(av st.stk.length 4 q44 p41 st45).bind fun st47 =>
(av st.stk.length 3 q46 p42 st47).bind fun st48 =>
(ag true 3 q26 st48).bind fun p49 =>
(bq [(0, 1), (1, 1), (2, 1)] [.v (.int .i64 0), .v (.int .i64 0), .v (.int .i64 0)] []).bind fun p50 =>
(aW Tryz.prog false .neq 54 p49 p50).bind fun p51 =>
(onG p51 false (
(ag true 3 q35 st48).bind fun p54 =>
some (p54, st48)) st48).bind fun r53 =>
(onG p51 false (
(bq [(0, 1), (1, 1), (2, 1)] [.v (.int .i64 0), .v (.int .i64 0), .v (.int .i64 0)] []).bind fun p57 =>
some (p57, r53.2)) r53.2).bind fun r56 =>
(onG p51 false (
(aW Tryz.prog false .neq 54 r53.1 r56.1).bind fun p60 =>
some (p60, r56.2)) r56.2).bind fun r59 =>
(bX p51 (PV.v (.bool true)) r59.1).bind fun p61 =>
aE p61 fun b62 => (bif b62 then
(ag true 3 q26 r59.2).bind fun p64 =>
(bq [(0, 1), (1, 1), (2, 1)] [.v (.int .i64 0), .v (.int .i64 0), .v (.int .i64 0)] []).bind fun p65 =>
(aW Tryz.prog false .eql 54 p64 p65).bind fun p66 =>
(onG p66 false (
(an q24 3).bind fun p69 =>
some (p69, r59.2)) r59.2).bind fun r68 =>
(onG p66 false (
(ag false 1 r68.1 r68.2).bind fun p72 =>
some (p72, r68.2)) r68.2).bind fun r71 =>
(onG p66 false (
(fR Tryz.prog 27 r71.1).bind fun p75 =>
some (p75, r71.2)) r71.2).bind fun r74 =>
(onG p66 false (
(an q24 2).bind fun p78 =>
some (p78, r74.2)) r74.2).bind fun r77 =>
(onG p66 false (
(ag false 1 r77.1 r77.2).bind fun p81 =>
some (p81, r77.2)) r77.2).bind fun r80 =>
(onG p66 false (
(fR Tryz.prog 26 r80.1).bind fun p84 =>
some (p84, r80.2)) r80.2).bind fun r83 =>
(onG p66 false (
(aW Tryz.prog false .add 3 r74.1 r83.1).bind fun p87 =>
some (p87, r83.2)) r83.2).bind fun r86 =>
(onG p66 false (
(an q24 0).bind fun p90 =>
some (p90, r86.2)) r86.2).bind fun r89 =>
(onG p66 false (
(ag false 1 r89.1 r89.2).bind fun p93 =>
some (p93, r89.2)) r89.2).bind fun r92 =>
(onG p66 false (
(fR Tryz.prog 24 r92.1).bind fun p96 =>
some (p96, r92.2)) r92.2).bind fun r95 =>
(onG p66 false (
(aW Tryz.prog false .add 3 r86.1 r95.1).bind fun p99 =>
some (p99, r95.2)) r95.2).bind fun r98 =>
(onG p66 false (
(an q24 1).bind fun p102 =>
some (p102, r98.2)) r98.2).bind fun r101 =>
(onG p66 false (
(ag false 1 r101.1 r101.2).bind fun p105 =>
some (p105, r101.2)) r101.2).bind fun r104 =>
(onG p66 false (
(fR Tryz.prog 25 r104.1).bind fun p108 =>
some (p108, r104.2)) r104.2).bind fun r107 =>
(onG p66 false (
(aW Tryz.prog false .add 3 r98.1 r107.1).bind fun p111 =>
some (p111, r107.2)) r107.2).bind fun r110 =>
(onG p66 false (
(aW Tryz.prog true .eql 3 r110.1 (PV.v (.int .i64 0))).bind fun p114 =>
some (p114, r110.2)) r110.2).bind fun r113 =>
(bX p66 (PV.v (.bool true)) r113.1).bind fun p115 =>
some (Ex.ret, [p115, q24, q33, q44, q46], r113.2)
else
some (Ex.normal, [(ae r18.2.1 2), q24, q33, q44, q46], r59.2)).bind fun r63 =>
bW r63.1 ((aF 4 [.v (.string ⟨#[]⟩), .sl [] .nil, .v (.int .i64 0), .v (.int .i64 0)] 0 []).bind fun p117 =>
(an (ae r63.2.1 1) 0).bind fun p118 =>
(ag false 1 p118 r63.2.2).bind fun p119 =>
aH (r63.2.2 = r63.2.2) <|
aH (((ag false 1 p118 (St.push r63.2.2 [.sl [] .nil, .sl [] .nil, .sl [] .nil, .sl [] .nil])).bind fun p120 =>
some (Rs.ret p120, (St.push r63.2.2 [.sl [] .nil, .sl [] .nil, .sl [] .nil, .sl [] .nil]))) = some (Rs.ret p119, (St.push r63.2.2 [.sl [] .nil, .sl [] .nil, .sl [] .nil, .sl [] .nil]))) <|
(aZ r63.2.2 p119).bind fun ys121 =>
(bA st.stk.length [.v (.string ⟨#[]⟩), .sl [] .nil, .v (.int .i64 0), .v (.int .i64 0)] 4 56 p117 ys121 r63.2.2).bind fun r122 =>
aH (((aZ (St.push r63.2.2 [.sl [] .nil, .sl [] .nil, .sl [] .nil, .sl [] .nil]) p119).bind fun ys123 =>
(bA st.stk.length [.v (.string ⟨#[]⟩), .sl [] .nil, .v (.int .i64 0), .v (.int .i64 0)] 4 56 p117 ys123 (St.push r63.2.2 [.sl [] .nil, .sl [] .nil, .sl [] .nil, .sl [] .nil])).bind fun r124 =>
some (Rs.ret r124.1, r124.2)) = some (Rs.ret r122.1, (St.push r122.2 [.sl [] .nil, .sl [] .nil, .sl [] .nil, .sl [] .nil]))) <|
aH (r122.2.stk.length = r63.2.2.stk.length) <|
(an (ae r63.2.1 2) 0).bind fun p125 =>
(ag false 1 p125 r122.2).bind fun p126 =>
aH (r122.2 = r122.2) <|
aH (((ag false 1 p125 (St.push r122.2 [.sl [] .nil, .sl [] .nil, .sl [] .nil, .sl [] .nil])).bind fun p127 =>
some (Rs.ret p127, (St.push r122.2 [.sl [] .nil, .sl [] .nil, .sl [] .nil, .sl [] .nil]))) = some (Rs.ret p126, (St.push r122.2 [.sl [] .nil, .sl [] .nil, .sl [] .nil, .sl [] .nil]))) <|
aH (((ag false 1 p125 r63.2.2).bind fun p128 =>
some (Rs.ret p128, r63.2.2)) = some (Rs.ret p126, r63.2.2)) <|
aH (((ag false 1 p125 (St.push r63.2.2 [.sl [] .nil, .sl [] .nil, .sl [] .nil, .sl [] .nil])).bind fun p129 =>
some (Rs.ret p129, (St.push r63.2.2 [.sl [] .nil, .sl [] .nil, .sl [] .nil, .sl [] .nil]))) = some (Rs.ret p126, (St.push r63.2.2 [.sl [] .nil, .sl [] .nil, .sl [] .nil, .sl [] .nil]))) <|
(aZ r122.2 p126).bind fun ys130 =>
(bA st.stk.length [.v (.string ⟨#[]⟩), .sl [] .nil, .v (.int .i64 0), .v (.int .i64 0)] 4 56 r122.1 ys130 r122.2).bind fun r131 =>
aH (((aZ (St.push r122.2 [.sl [] .nil, .sl [] .nil, .sl [] .nil, .sl [] .nil]) p126).bind fun ys132 =>
(bA st.stk.length [.v (.string ⟨#[]⟩), .sl [] .nil, .v (.int .i64 0), .v (.int .i64 0)] 4 56 r122.1 ys132 (St.push r122.2 [.sl [] .nil, .sl [] .nil, .sl [] .nil, .sl [] .nil])).bind fun r133 =>
some (Rs.ret r133.1, r133.2)) = some (Rs.ret r131.1, (St.push r131.2 [.sl [] .nil, .sl [] .nil, .sl [] .nil, .sl [] .nil]))) <|
aH (r131.2.stk.length = r63.2.2.stk.length) <|
(aF 5 [.v (.string ⟨#[]⟩), .v (.int .i64 0), .v (.string ⟨#[]⟩), .v (.int .i64 0), .v (.int .i64 0)] 0 []).bind fun p134 =>
(an (ae r63.2.1 1) 1).bind fun p135 =>
(ag false 1 p135 r131.2).bind fun p136 =>
aH (r131.2 = r131.2) <|
aH (((ag false 1 p135 (St.push r131.2 [.sl [] .nil, .sl [] .nil, .sl [] .nil, .sl [] .nil])).bind fun p137 =>
some (Rs.ret p137, (St.push r131.2 [.sl [] .nil, .sl [] .nil, .sl [] .nil, .sl [] .nil]))) = some (Rs.ret p136, (St.push r131.2 [.sl [] .nil, .sl [] .nil, .sl [] .nil, .sl [] .nil]))) <|
aH (((ag false 1 p135 r122.2).bind fun p138 =>
some (Rs.ret p138, r122.2)) = some (Rs.ret p136, r122.2)) <|
aH (((ag false 1 p135 r63.2.2).bind fun p139 =>
some (Rs.ret p139, r63.2.2)) = some (Rs.ret p136, r63.2.2)) <|
aH (((ag false 1 p135 (St.push r122.2 [.sl [] .nil, .sl [] .nil, .sl [] .nil, .sl [] .nil])).bind fun p140 =>
some (Rs.ret p140, (St.push r122.2 [.sl [] .nil, .sl [] .nil, .sl [] .nil, .sl [] .nil]))) = some (Rs.ret p136, (St.push r122.2 [.sl [] .nil, .sl [] .nil, .sl [] .nil, .sl [] .nil]))) <|
aH (((ag false 1 p135 (St.push r63.2.2 [.sl [] .nil, .sl [] .nil, .sl [] .nil, .sl [] .nil])).bind fun p141 =>
some (Rs.ret p141, (St.push r63.2.2 [.sl [] .nil, .sl [] .nil, .sl [] .nil, .sl [] .nil]))) = some (Rs.ret p136, (St.push r63.2.2 [.sl [] .nil, .sl [] .nil, .sl [] .nil, .sl [] .nil]))) <|
(aZ r131.2 p136).bind fun ys142 =>
(bA st.stk.length [.v (.string ⟨#[]⟩), .v (.int .i64 0), .v (.string ⟨#[]⟩), .v (.int .i64 0), .v (.int .i64 0)] 5 56 p134 ys142 r131.2).bind fun r143 =>
aH (((aZ (St.push r131.2 [.sl [] .nil, .sl [] .nil, .sl [] .nil, .sl [] .nil]) p136).bind fun ys144 =>
(bA st.stk.length [.v (.string ⟨#[]⟩), .v (.int .i64 0), .v (.string ⟨#[]⟩), .v (.int .i64 0), .v (.int .i64 0)] 5 56 p134 ys144 (St.push r131.2 [.sl [] .nil, .sl [] .nil, .sl [] .nil, .sl [] .nil])).bind fun r145 =>
some (Rs.ret r145.1, r145.2)) = some (Rs.ret r143.1, (St.push r143.2 [.sl [] .nil, .sl [] .nil, .sl [] .nil, .sl [] .nil]))) <|
aH (r143.2.stk.length = r63.2.2.stk.length) <|
(an (ae r63.2.1 2) 1).bind fun p146 =>
(ag false 1 p146 r143.2).bind fun p147 =>
aH (r143.2 = r143.2) <|
aH (((ag false 1 p146 (St.push r143.2 [.sl [] .nil, .sl [] .nil, .sl [] .nil, .sl [] .nil])).bind fun p148 =>
some (Rs.ret p148, (St.push r143.2 [.sl [] .nil, .sl [] .nil, .sl [] .nil, .sl [] .nil]))) = some (Rs.ret p147, (St.push r143.2 [.sl [] .nil, .sl [] .nil, .sl [] .nil, .sl [] .nil]))) <|
aH (((ag false 1 p146 r131.2).bind fun p149 =>
some (Rs.ret p149, r131.2)) = some (Rs.ret p147, r131.2)) <|
aH (((ag false 1 p146 r122.2).bind fun p150 =>
some (Rs.ret p150, r122.2)) = some (Rs.ret p147, r122.2)) <|
aH (((ag false 1 p146 r63.2.2).bind fun p151 =>
some (Rs.ret p151, r63.2.2)) = some (Rs.ret p147, r63.2.2)) <|
aH (((ag false 1 p146 (St.push r131.2 [.sl [] .nil, .sl [] .nil, .sl [] .nil, .sl [] .nil])).bind fun p152 =>
some (Rs.ret p152, (St.push r131.2 [.sl [] .nil, .sl [] .nil, .sl [] .nil, .sl [] .nil]))) = some (Rs.ret p147, (St.push r131.2 [.sl [] .nil, .sl [] .nil, .sl [] .nil, .sl [] .nil]))) <|
aH (((ag false 1 p146 (St.push r122.2 [.sl [] .nil, .sl [] .nil, .sl [] .nil, .sl [] .nil])).bind fun p153 =>
some (Rs.ret p153, (St.push r122.2 [.sl [] .nil, .sl [] .nil, .sl [] .nil, .sl [] .nil]))) = some (Rs.ret p147, (St.push r122.2 [.sl [] .nil, .sl [] .nil, .sl [] .nil, .sl [] .nil]))) <|
aH (((ag false 1 p146 (St.push r63.2.2 [.sl [] .nil, .sl [] .nil, .sl [] .nil, .sl [] .nil])).bind fun p154 =>
some (Rs.ret p154, (St.push r63.2.2 [.sl [] .nil, .sl [] .nil, .sl [] .nil, .sl [] .nil]))) = some (Rs.ret p147, (St.push r63.2.2 [.sl [] .nil, .sl [] .nil, .sl [] .nil, .sl [] .nil]))) <|
(aZ r143.2 p147).bind fun ys155 =>
(bA st.stk.length [.v (.string ⟨#[]⟩), .v (.int .i64 0), .v (.string ⟨#[]⟩), .v (.int .i64 0), .v (.int .i64 0)] 5 56 r143.1 ys155 r143.2).bind fun r156 =>
aH (((aZ (St.push r143.2 [.sl [] .nil, .sl [] .nil, .sl [] .nil, .sl [] .nil]) p147).bind fun ys157 =>
(bA st.stk.length [.v (.string ⟨#[]⟩), .v (.int .i64 0), .v (.string ⟨#[]⟩), .v (.int .i64 0), .v (.int .i64 0)] 5 56 r143.1 ys157 (St.push r143.2 [.sl [] .nil, .sl [] .nil, .sl [] .nil, .sl [] .nil])).bind fun r158 =>
some (Rs.ret r158.1, r158.2)) = some (Rs.ret r156.1, (St.push r156.2 [.sl [] .nil, .sl [] .nil, .sl [] .nil, .sl [] .nil]))) <|
aH (r156.2.stk.length = r63.2.2.stk.length) <|
(aF 5 [.v (.string ⟨#[]⟩), .sl [] .nil, .sl [] .nil, .v (.int .i64 0), .v (.int .i64 0)] 0 []).bind fun p159 =>
(an (ae r63.2.1 1) 2).bind fun p160 =>
(ag false 1 p160 r156.2).bind fun p161 =>
aH (r156.2 = r156.2) <|
aH (((ag false 1 p160 (St.push r156.2 [.sl [] .nil, .sl [] .nil, .sl [] .nil, .sl [] .nil])).bind fun p162 =>
some (Rs.ret p162, (St.push r156.2 [.sl [] .nil, .sl [] .nil, .sl [] .nil, .sl [] .nil]))) = some (Rs.ret p161, (St.push r156.2 [.sl [] .nil, .sl [] .nil, .sl [] .nil, .sl [] .nil]))) <|
aH (((ag false 1 p160 r143.2).bind fun p163 =>
some (Rs.ret p163, r143.2)) = some (Rs.ret p161, r143.2)) <|
aH (((ag false 1 p160 r131.2).bind fun p164 =>
some (Rs.ret p164, r131.2)) = some (Rs.ret p161, r131.2)) <|
aH (((ag false 1 p160 r122.2).bind fun p165 =>
some (Rs.ret p165, r122.2)) = some (Rs.ret p161, r122.2)) <|
aH (((ag false 1 p160 r63.2.2).bind fun p166 =>
some (Rs.ret p166, r63.2.2)) = some (Rs.ret p161, r63.2.2)) <|
aH (((ag false 1 p160 (St.push r143.2 [.sl [] .nil, .sl [] .nil, .sl [] .nil, .sl [] .nil])).bind fun p167 =>
some (Rs.ret p167, (St.push r143.2 [.sl [] .nil, .sl [] .nil, .sl [] .nil, .sl [] .nil]))) = some (Rs.ret p161, (St.push r143.2 [.sl [] .nil, .sl [] .nil, .sl [] .nil, .sl [] .nil]))) <|
aH (((ag false 1 p160 (St.push r131.2 [.sl [] .nil, .sl [] .nil, .sl [] .nil, .sl [] .nil])).bind fun p168 =>
some (Rs.ret p168, (St.push r131.2 [.sl [] .nil, .sl [] .nil, .sl [] .nil, .sl [] .nil]))) = some (Rs.ret p161, (St.push r131.2 [.sl [] .nil, .sl [] .nil, .sl [] .nil, .sl [] .nil]))) <|
aH (((ag false 1 p160 (St.push r122.2 [.sl [] .nil, .sl [] .nil, .sl [] .nil, .sl [] .nil])).bind fun p169 =>
some (Rs.ret p169, (St.push r122.2 [.sl [] .nil, .sl [] .nil, .sl [] .nil, .sl [] .nil]))) = some (Rs.ret p161, (St.push r122.2 [.sl [] .nil, .sl [] .nil, .sl [] .nil, .sl [] .nil]))) <|
aH (((ag false 1 p160 (St.push r63.2.2 [.sl [] .nil, .sl [] .nil, .sl [] .nil, .sl [] .nil])).bind fun p170 =>
some (Rs.ret p170, (St.push r63.2.2 [.sl [] .nil, .sl [] .nil, .sl [] .nil, .sl [] .nil]))) = some (Rs.ret p161, (St.push r63.2.2 [.sl [] .nil, .sl [] .nil, .sl [] .nil, .sl [] .nil]))) <|
(aZ r156.2 p161).bind fun ys171 =>
(bA st.stk.length [.v (.string ⟨#[]⟩), .sl [] .nil, .sl [] .nil, .v (.int .i64 0), .v (.int .i64 0)] 5 80 p159 ys171 r156.2).bind fun r172 =>
aH (((aZ (St.push r156.2 [.sl [] .nil, .sl [] .nil, .sl [] .nil, .sl [] .nil]) p161).bind fun ys173 =>
(bA st.stk.length [.v (.string ⟨#[]⟩), .sl [] .nil, .sl [] .nil, .v (.int .i64 0), .v (.int .i64 0)] 5 80 p159 ys173 (St.push r156.2 [.sl [] .nil, .sl [] .nil, .sl [] .nil, .sl [] .nil])).bind fun r174 =>
some (Rs.ret r174.1, r174.2)) = some (Rs.ret r172.1, (St.push r172.2 [.sl [] .nil, .sl [] .nil, .sl [] .nil, .sl [] .nil]))) <|
aH (r172.2.stk.length = r63.2.2.stk.length) <|
(an (ae r63.2.1 2) 2).bind fun p175 =>
(ag false 1 p175 r172.2).bind fun p176 =>
aH (r172.2 = r172.2) <|
aH (((ag false 1 p175 (St.push r172.2 [.sl [] .nil, .sl [] .nil, .sl [] .nil, .sl [] .nil])).bind fun p177 =>
some (Rs.ret p177, (St.push r172.2 [.sl [] .nil, .sl [] .nil, .sl [] .nil, .sl [] .nil]))) = some (Rs.ret p176, (St.push r172.2 [.sl [] .nil, .sl [] .nil, .sl [] .nil, .sl [] .nil]))) <|
aH (((ag false 1 p175 r156.2).bind fun p178 =>
some (Rs.ret p178, r156.2)) = some (Rs.ret p176, r156.2)) <|
aH (((ag false 1 p175 r143.2).bind fun p179 =>
some (Rs.ret p179, r143.2)) = some (Rs.ret p176, r143.2)) <|
aH (((ag false 1 p175 r131.2).bind fun p180 =>
some (Rs.ret p180, r131.2)) = some (Rs.ret p176, r131.2)) <|
aH (((ag false 1 p175 r122.2).bind fun p181 =>
some (Rs.ret p181, r122.2)) = some (Rs.ret p176, r122.2)) <|
aH (((ag false 1 p175 r63.2.2).bind fun p182 =>
some (Rs.ret p182, r63.2.2)) = some (Rs.ret p176, r63.2.2)) <|
aH (((ag false 1 p175 (St.push r156.2 [.sl [] .nil, .sl [] .nil, .sl [] .nil, .sl [] .nil])).bind fun p183 =>
some (Rs.ret p183, (St.push r156.2 [.sl [] .nil, .sl [] .nil, .sl [] .nil, .sl [] .nil]))) = some (Rs.ret p176, (St.push r156.2 [.sl [] .nil, .sl [] .nil, .sl [] .nil, .sl [] .nil]))) <|
aH (((ag false 1 p175 (St.push r143.2 [.sl [] .nil, .sl [] .nil, .sl [] .nil, .sl [] .nil])).bind fun p184 =>
some (Rs.ret p184, (St.push r143.2 [.sl [] .nil, .sl [] .nil, .sl [] .nil, .sl [] .nil]))) = some (Rs.ret p176, (St.push r143.2 [.sl [] .nil, .sl [] .nil, .sl [] .nil, .sl [] .nil]))) <|
aH (((ag false 1 p175 (St.push r131.2 [.sl [] .nil, .sl [] .nil, .sl [] .nil, .sl [] .nil])).bind fun p185 =>
some (Rs.ret p185, (St.push r131.2 [.sl [] .nil, .sl [] .nil, .sl [] .nil, .sl [] .nil]))) = some (Rs.ret p176, (St.push r131.2 [.sl [] .nil, .sl [] .nil, .sl [] .nil, .sl [] .nil]))) <|
aH (((ag false 1 p175 (St.push r122.2 [.sl [] .nil, .sl [] .nil, .sl [] .nil, .sl [] .nil])).bind fun p186 =>
some (Rs.ret p186, (St.push r122.2 [.sl [] .nil, .sl [] .nil, .sl [] .nil, .sl [] .nil]))) = some (Rs.ret p176, (St.push r122.2 [.sl [] .nil, .sl [] .nil, .sl [] .nil, .sl [] .nil]))) <|
aH (((ag false 1 p175 (St.push r63.2.2 [.sl [] .nil, .sl [] .nil, .sl [] .nil, .sl [] .nil])).bind fun p187 =>
some (Rs.ret p187, (St.push r63.2.2 [.sl [] .nil, .sl [] .nil, .sl [] .nil, .sl [] .nil]))) = some (Rs.ret p176, (St.push r63.2.2 [.sl [] .nil, .sl [] .nil, .sl [] .nil, .sl [] .nil]))) <|
(aZ r172.2 p176).bind fun ys188 =>
(bA st.stk.length [.v (.string ⟨#[]⟩), .sl [] .nil, .sl [] .nil, .v (.int .i64 0), .v (.int .i64 0)] 5 80 r172.1 ys188 r172.2).bind fun r189 =>
aH (((aZ (St.push r172.2 [.sl [] .nil, .sl [] .nil, .sl [] .nil, .sl [] .nil]) p176).bind fun ys190 =>
(bA st.stk.length [.v (.string ⟨#[]⟩), .sl [] .nil, .sl [] .nil, .v (.int .i64 0), .v (.int .i64 0)] 5 80 r172.1 ys190 (St.push r172.2 [.sl [] .nil, .sl [] .nil, .sl [] .nil, .sl [] .nil])).bind fun r191 =>
some (Rs.ret r191.1, r191.2)) = some (Rs.ret r189.1, (St.push r189.2 [.sl [] .nil, .sl [] .nil, .sl [] .nil, .sl [] .nil]))) <|
aH (r189.2.stk.length = r63.2.2.stk.length) <|
(aF 3 [.sl [] .nil, .v (.int .i64 0), .v (.int .i64 0)] 0 []).bind fun p192 =>
(an (ae r63.2.1 1) 3).bind fun p193 =>
(ag false 1 p193 r189.2).bind fun p194 =>
aH (r189.2 = r189.2) <|
aH (((ag false 1 p193 (St.push r189.2 [.sl [] .nil, .sl [] .nil, .sl [] .nil, .sl [] .nil])).bind fun p195 =>
some (Rs.ret p195, (St.push r189.2 [.sl [] .nil, .sl [] .nil, .sl [] .nil, .sl [] .nil]))) = some (Rs.ret p194, (St.push r189.2 [.sl [] .nil, .sl [] .nil, .sl [] .nil, .sl [] .nil]))) <|
aH (((ag false 1 p193 r172.2).bind fun p196 =>
some (Rs.ret p196, r172.2)) = some (Rs.ret p194, r172.2)) <|
aH (((ag false 1 p193 r156.2).bind fun p197 =>
some (Rs.ret p197, r156.2)) = some (Rs.ret p194, r156.2)) <|
aH (((ag false 1 p193 r143.2).bind fun p198 =>
some (Rs.ret p198, r143.2)) = some (Rs.ret p194, r143.2)) <|
aH (((ag false 1 p193 r131.2).bind fun p199 =>
some (Rs.ret p199, r131.2)) = some (Rs.ret p194, r131.2)) <|
aH (((ag false 1 p193 r122.2).bind fun p200 =>
some (Rs.ret p200, r122.2)) = some (Rs.ret p194, r122.2)) <|
aH (((ag false 1 p193 r63.2.2).bind fun p201 =>
some (Rs.ret p201, r63.2.2)) = some (Rs.ret p194, r63.2.2)) <|
aH (((ag false 1 p193 (St.push r172.2 [.sl [] .nil, .sl [] .nil, .sl [] .nil, .sl [] .nil])).bind fun p202 =>
some (Rs.ret p202, (St.push r172.2 [.sl [] .nil, .sl [] .nil, .sl [] .nil, .sl [] .nil]))) = some (Rs.ret p194, (St.push r172.2 [.sl [] .nil, .sl [] .nil, .sl [] .nil, .sl [] .nil]))) <|
aH (((ag false 1 p193 (St.push r156.2 [.sl [] .nil, .sl [] .nil, .sl [] .nil, .sl [] .nil])).bind fun p203 =>
some (Rs.ret p203, (St.push r156.2 [.sl [] .nil, .sl [] .nil, .sl [] .nil, .sl [] .nil]))) = some (Rs.ret p194, (St.push r156.2 [.sl [] .nil, .sl [] .nil, .sl [] .nil, .sl [] .nil]))) <|
aH (((ag false 1 p193 (St.push r143.2 [.sl [] .nil, .sl [] .nil, .sl [] .nil, .sl [] .nil])).bind fun p204 =>
some (Rs.ret p204, (St.push r143.2 [.sl [] .nil, .sl [] .nil, .sl [] .nil, .sl [] .nil]))) = some (Rs.ret p194, (St.push r143.2 [.sl [] .nil, .sl [] .nil, .sl [] .nil, .sl [] .nil]))) <|
aH (((ag false 1 p193 (St.push r131.2 [.sl [] .nil, .sl [] .nil, .sl [] .nil, .sl [] .nil])).bind fun p205 =>
some (Rs.ret p205, (St.push r131.2 [.sl [] .nil, .sl [] .nil, .sl [] .nil, .sl [] .nil]))) = some (Rs.ret p194, (St.push r131.2 [.sl [] .nil, .sl [] .nil, .sl [] .nil, .sl [] .nil]))) <|
aH (((ag false 1 p193 (St.push r122.2 [.sl [] .nil, .sl [] .nil, .sl [] .nil, .sl [] .nil])).bind fun p206 =>
some (Rs.ret p206, (St.push r122.2 [.sl [] .nil, .sl [] .nil, .sl [] .nil, .sl [] .nil]))) = some (Rs.ret p194, (St.push r122.2 [.sl [] .nil, .sl [] .nil, .sl [] .nil, .sl [] .nil]))) <|
aH (((ag false 1 p193 (St.push r63.2.2 [.sl [] .nil, .sl [] .nil, .sl [] .nil, .sl [] .nil])).bind fun p207 =>
some (Rs.ret p207, (St.push r63.2.2 [.sl [] .nil, .sl [] .nil, .sl [] .nil, .sl [] .nil]))) = some (Rs.ret p194, (St.push r63.2.2 [.sl [] .nil, .sl [] .nil, .sl [] .nil, .sl [] .nil]))) <|
(aZ r189.2 p194).bind fun ys208 =>
(bA st.stk.length [.sl [] .nil, .v (.int .i64 0), .v (.int .i64 0)] 3 40 p192 ys208 r189.2).bind fun r209 =>
aH (((aZ (St.push r189.2 [.sl [] .nil, .sl [] .nil, .sl [] .nil, .sl [] .nil]) p194).bind fun ys210 =>
(bA st.stk.length [.sl [] .nil, .v (.int .i64 0), .v (.int .i64 0)] 3 40 p192 ys210 (St.push r189.2 [.sl [] .nil, .sl [] .nil, .sl [] .nil, .sl [] .nil])).bind fun r211 =>
some (Rs.ret r211.1, r211.2)) = some (Rs.ret r209.1, (St.push r209.2 [.sl [] .nil, .sl [] .nil, .sl [] .nil, .sl [] .nil]))) <|
aH (r209.2.stk.length = r63.2.2.stk.length) <|
(an (ae r63.2.1 2) 3).bind fun p212 =>
(ag false 1 p212 r209.2).bind fun p213 =>
aH (r209.2 = r209.2) <|
aH (((ag false 1 p212 (St.push r209.2 [.sl [] .nil, .sl [] .nil, .sl [] .nil, .sl [] .nil])).bind fun p214 =>
some (Rs.ret p214, (St.push r209.2 [.sl [] .nil, .sl [] .nil, .sl [] .nil, .sl [] .nil]))) = some (Rs.ret p213, (St.push r209.2 [.sl [] .nil, .sl [] .nil, .sl [] .nil, .sl [] .nil]))) <|
aH (((ag false 1 p212 r189.2).bind fun p215 =>
some (Rs.ret p215, r189.2)) = some (Rs.ret p213, r189.2)) <|
aH (((ag false 1 p212 r172.2).bind fun p216 =>
some (Rs.ret p216, r172.2)) = some (Rs.ret p213, r172.2)) <|
aH (((ag false 1 p212 r156.2).bind fun p217 =>
some (Rs.ret p217, r156.2)) = some (Rs.ret p213, r156.2)) <|
aH (((ag false 1 p212 r143.2).bind fun p218 =>
some (Rs.ret p218, r143.2)) = some (Rs.ret p213, r143.2)) <|
aH (((ag false 1 p212 r131.2).bind fun p219 =>
some (Rs.ret p219, r131.2)) = some (Rs.ret p213, r131.2)) <|
aH (((ag false 1 p212 r122.2).bind fun p220 =>
some (Rs.ret p220, r122.2)) = some (Rs.ret p213, r122.2)) <|
aH (((ag false 1 p212 r63.2.2).bind fun p221 =>
some (Rs.ret p221, r63.2.2)) = some (Rs.ret p213, r63.2.2)) <|
aH (((ag false 1 p212 (St.push r189.2 [.sl [] .nil, .sl [] .nil, .sl [] .nil, .sl [] .nil])).bind fun p222 =>
some (Rs.ret p222, (St.push r189.2 [.sl [] .nil, .sl [] .nil, .sl [] .nil, .sl [] .nil]))) = some (Rs.ret p213, (St.push r189.2 [.sl [] .nil, .sl [] .nil, .sl [] .nil, .sl [] .nil]))) <|
aH (((ag false 1 p212 (St.push r172.2 [.sl [] .nil, .sl [] .nil, .sl [] .nil, .sl [] .nil])).bind fun p223 =>
some (Rs.ret p223, (St.push r172.2 [.sl [] .nil, .sl [] .nil, .sl [] .nil, .sl [] .nil]))) = some (Rs.ret p213, (St.push r172.2 [.sl [] .nil, .sl [] .nil, .sl [] .nil, .sl [] .nil]))) <|
aH (((ag false 1 p212 (St.push r156.2 [.sl [] .nil, .sl [] .nil, .sl [] .nil, .sl [] .nil])).bind fun p224 =>
some (Rs.ret p224, (St.push r156.2 [.sl [] .nil, .sl [] .nil, .sl [] .nil, .sl [] .nil]))) = some (Rs.ret p213, (St.push r156.2 [.sl [] .nil, .sl [] .nil, .sl [] .nil, .sl [] .nil]))) <|
aH (((ag false 1 p212 (St.push r143.2 [.sl [] .nil, .sl [] .nil, .sl [] .nil, .sl [] .nil])).bind fun p225 =>
some (Rs.ret p225, (St.push r143.2 [.sl [] .nil, .sl [] .nil, .sl [] .nil, .sl [] .nil]))) = some (Rs.ret p213, (St.push r143.2 [.sl [] .nil, .sl [] .nil, .sl [] .nil, .sl [] .nil]))) <|
aH (((ag false 1 p212 (St.push r131.2 [.sl [] .nil, .sl [] .nil, .sl [] .nil, .sl [] .nil])).bind fun p226 =>
some (Rs.ret p226, (St.push r131.2 [.sl [] .nil, .sl [] .nil, .sl [] .nil, .sl [] .nil]))) = some (Rs.ret p213, (St.push r131.2 [.sl [] .nil, .sl [] .nil, .sl [] .nil, .sl [] .nil]))) <|
aH (((ag false 1 p212 (St.push r122.2 [.sl [] .nil, .sl [] .nil, .sl [] .nil, .sl [] .nil])).bind fun p227 =>
some (Rs.ret p227, (St.push r122.2 [.sl [] .nil, .sl [] .nil, .sl [] .nil, .sl [] .nil]))) = some (Rs.ret p213, (St.push r122.2 [.sl [] .nil, .sl [] .nil, .sl [] .nil, .sl [] .nil]))) <|
aH (((ag false 1 p212 (St.push r63.2.2 [.sl [] .nil, .sl [] .nil, .sl [] .nil, .sl [] .nil])).bind fun p228 =>
some (Rs.ret p228, (St.push r63.2.2 [.sl [] .nil, .sl [] .nil, .sl [] .nil, .sl [] .nil]))) = some (Rs.ret p213, (St.push r63.2.2 [.sl [] .nil, .sl [] .nil, .sl [] .nil, .sl [] .nil]))) <|
(aZ r209.2 p213).bind fun ys229 =>
(bA st.stk.length [.sl [] .nil, .v (.int .i64 0), .v (.int .i64 0)] 3 40 r209.1 ys229 r209.2).bind fun r230 =>
aH (((aZ (St.push r209.2 [.sl [] .nil, .sl [] .nil, .sl [] .nil, .sl [] .nil]) p213).bind fun ys231 =>
(bA st.stk.length [.sl [] .nil, .v (.int .i64 0), .v (.int .i64 0)] 3 40 r209.1 ys231 (St.push r209.2 [.sl [] .nil, .sl [] .nil, .sl [] .nil, .sl [] .nil])).bind fun r232 =>
some (Rs.ret r232.1, r232.2)) = some (Rs.ret r230.1, (St.push r230.2 [.sl [] .nil, .sl [] .nil, .sl [] .nil, .sl [] .nil]))) <|
aH (r230.2.stk.length = r63.2.2.stk.length) <|
(bq [(0, 1), (1, 1), (2, 1), (3, 1)] [.sl [] .nil, .sl [] .nil, .sl [] .nil, .sl [] .nil] [(0, r131.1), (1, r156.1), (2, r189.1), (3, r230.1)]).bind fun p233 =>
(av st.stk.length 4 (PV.ptr false r63.2.2.stk.length 0) p233 (St.push r230.2 [.sl [] .nil, .sl [] .nil, .sl [] .nil, .sl [] .nil])).bind fun st234 =>
(ag true 3 (ae r63.2.1 4) st234).bind fun p235 =>
aH (st234 = st234) <|
(bq [(0, 1), (1, 1), (2, 1)] [.v (.int .i64 0), .v (.int .i64 0), .v (.int .i64 0)] []).bind fun p236 =>
(aW Tryz.prog false .eql 54 p235 p236).bind fun p237 =>
(onG p237 true (
(ag true 4 (ae r63.2.1 3) st234).bind fun p240 =>
some (p240, st234)) st234).bind fun r239 =>
aH (r239.2 = st234) <|
(onG p237 true (
(call (.func 23) [ai r239.1] st234).bind fun r243 =>
some (r243.1, r243.2)) st234).bind fun r242 =>
aH (r242.2 = st234) <|
(onG p237 true (
(ag true 4 (PV.ptr false r63.2.2.stk.length 0) st234).bind fun p246 =>
some (p246, st234)) st234).bind fun r245 =>
aH (r245.2 = st234) <|
(onG p237 true (
(call (.func 23) [ai r245.1] st234).bind fun r249 =>
some (r249.1, r249.2)) st234).bind fun r248 =>
aH (r248.2 = st234) <|
(onG p237 true (
(call (.func 22) [ai r242.1, ai r248.1] st234).bind fun r252 =>
some (r252.1, r252.2)) st234).bind fun r251 =>
aH (r251.2 = st234) <|
(bX p237 r251.1 (PV.v (.bool false))).bind fun p253 =>
fin st.stk.length st.tk.length st.lp.length [p253] st234) fun x116 =>
ef x116 (fin st.stk.length st.tk.length st.lp.length [(ae r63.2.1 0)] r63.2.2)) fun x19 =>
ef x19 (fin st.stk.length st.tk.length st.lp.length [(ae r18.2.1 2)] r18.2.2)) fun x5 =>
ef x5 (fin st.stk.length st.tk.length st.lp.length [(ae r4.2.1 2)] r4.2.2)
theorem GU (a0 a1 : PV) (st : St) : E L (.func 6) [a0, a1] st = S6 (E L) itE a0 a1 st := (bN (by kernel_rfl) Tryz.func6 _ _).trans (by kernel_rfl)
noncomputable def GM (call : bB) (it : bO) (a0 : PV) (st : St) : Option (PV × St) :=
(aW Tryz.prog true .neq 21 a0 (PV.v (.int .i32 10))).bind fun p1 =>
fin st.stk.length st.tk.length st.lp.length [p1] st
theorem DM (a0 : PV) (st : St) : E L (.func 113) [a0] st = GM (E L) itE a0 st := (bN (by kernel_rfl) Tryz.func113 _ _).trans (by kernel_rfl)
noncomputable def GP (call : bB) (it : bO) (a0 : PV) (st : St) : Option (PV × St) :=
(call (.func 115) [ai a0] st).bind fun r1 =>
(onG r1.1 false (
some (a0, r1.2)) r1.2).bind fun r3 =>
(onG r1.1 false (
(call (.func 116) [ai r3.1] r3.2).bind fun r6 =>
some (r6.1, r6.2)) r3.2).bind fun r5 =>
(bX r1.1 (PV.v (.bool true)) r5.1).bind fun p7 =>
fin st.stk.length st.tk.length st.lp.length [p7] r5.2
theorem DX (a0 : PV) (st : St) : E L (.func 145) [a0] st = GP (E L) itE a0 st := (bN (by kernel_rfl) Tryz.func145 _ _).trans (by kernel_rfl)
noncomputable def GR (call : bB) (it : bO) (a0 : PV) (st : St) : Option (PV × St) :=
(call (.func 115) [ai a0] st).bind fun r1 =>
(onG r1.1 false (
some (a0, r1.2)) r1.2).bind fun r3 =>
(onG r1.1 false (
(call (.func 116) [ai r3.1] r3.2).bind fun r6 =>
some (r6.1, r6.2)) r3.2).bind fun r5 =>
(bX r1.1 (PV.v (.bool true)) r5.1).bind fun p7 =>
fin st.stk.length st.tk.length st.lp.length [p7] r5.2
theorem D0 (a0 : PV) (st : St) : E L (.func 149) [a0] st = GR (E L) itE a0 st := (bN (by kernel_rfl) Tryz.func149 _ _).trans (by kernel_rfl)
theorem qN : aW Tryz.prog true .eql 128 (.v .nilIface) (.v .nilIface) = some (.v (.bool true)) := by kernel_rfl
theorem ue : aW Tryz.prog true .neq 128 (.v .nilIface) (.v .nilIface) = some (.v (.bool false)) := by kernel_rfl
theorem ua (c : Bool) : aW Tryz.prog c .eql 128 (.ni) (.v .nilIface) = some (.v (.bool false)) := by kernel_rfl
theorem tY (c : Bool) (a : TypeId) (x : Value) : aW Tryz.prog c .neq 128 (.ifc a x) (.v .nilIface) = some (.v (.bool true)) := by kernel_rfl
theorem mA (n : Int) : fE Tryz.prog 3 122 (.v (.int .i64 n)) = some (.v (.int .u64 (IntKind.u64.wrap n))) := by kernel_rfl
theorem gI (n : Int) : fE Tryz.prog 3 34 (.v (.int .i64 n)) = some (.v (.int .u64 (IntKind.u64.wrap n))) := by kernel_rfl
theorem iK (n : Int) : fE Tryz.prog 3 5 (.v (.int .i64 n)) = some (.v (.int .u8 (IntKind.u8.wrap n))) := by kernel_rfl
theorem An (n : Int) : fE Tryz.prog 34 3 (.v (.int .u64 n)) = some (.v (.int .i64 (IntKind.i64.wrap n))) := by kernel_rfl
theorem Ao (n : Int) : fE Tryz.prog 34 5 (.v (.int .u64 n)) = some (.v (.int .u8 (IntKind.u8.wrap n))) := by kernel_rfl
theorem n9 (n : Int) : fE Tryz.prog 5 21 (.v (.int .u8 n)) = some (.v (.int .i32 (IntKind.i32.wrap n))) := by kernel_rfl
theorem hU (n : Int) : fE Tryz.prog 5 34 (.v (.int .u8 n)) = some (.v (.int .u64 (IntKind.u64.wrap n))) := by kernel_rfl
theorem lP (s : ByteArray) : fE Tryz.prog 9 91 (.v (.string s)) = some (.sl (jE s) .dead) := by kernel_rfl
theorem Ap (es : List (List PV)) (c : Cap) : fE Tryz.prog 91 9 (.sl es c) = (bytesOf es).bind fun bs => some (.v (.string ⟨bs.toArray⟩)) := by kernel_rfl
theorem tX (cs : List PV) : gH Tryz.prog 140 (.agg cs) 0 = AM.part false 1 0 cs := by kernel_rfl
theorem od (cs : List PV) : gH Tryz.prog 140 (.agg cs) 1 = AM.part false 1 1 cs := by kernel_rfl
theorem qG (cs : List PV) : gH Tryz.prog 140 (.agg cs) 2 = AM.part false 1 2 cs := by kernel_rfl
theorem Gl (es : List (List PV)) (c : Cap) (k : IntKind) (n : Int) : bL Tryz.prog 101 (.sl es c) (.v (.int k n)) = bif dD n es.length then (es[n.toNat]?).bind fun e => bif ak e.length 5 && true then some (.fp e 0) else none else none := by kernel_rfl
theorem G7 (es : List (List PV)) (c : Cap) (k : IntKind) (n : Int) : bL Tryz.prog 24 (.sl es c) (.v (.int k n)) = bif dD n es.length then (es[n.toNat]?).bind fun e => bif ak e.length 4 && true then some (.fp e 0) else none else none := by kernel_rfl
theorem G8 (es : List (List PV)) (c : Cap) (k : IntKind) (n : Int) : bL Tryz.prog 25 (.sl es c) (.v (.int k n)) = bif dD n es.length then (es[n.toNat]?).bind fun e => bif ak e.length 5 && true then some (.fp e 0) else none else none := by kernel_rfl
theorem G9 (es : List (List PV)) (c : Cap) (k : IntKind) (n : Int) : bL Tryz.prog 26 (.sl es c) (.v (.int k n)) = bif dD n es.length then (es[n.toNat]?).bind fun e => bif ak e.length 5 && true then some (.fp e 0) else none else none := by kernel_rfl
theorem Fl (es : List (List PV)) (c : Cap) (k : IntKind) (n : Int) : bL Tryz.prog 27 (.sl es c) (.v (.int k n)) = bif dD n es.length then (es[n.toNat]?).bind fun e => bif ak e.length 3 && true then some (.fp e 0) else none else none := by kernel_rfl
theorem Fm (es : List (List PV)) (c : Cap) (k : IntKind) (n : Int) : bL Tryz.prog 31 (.sl es c) (.v (.int k n)) = bif dD n es.length then (es[n.toNat]?).bind fun e => bif ak e.length 58 && true then some (.fp e 0) else none else none := by kernel_rfl
theorem Cg (es : List (List PV)) (c : Cap) (k : IntKind) (n : Int) : bL Tryz.prog 37 (.sl es c) (.v (.int k n)) = bif dD n es.length then (es[n.toNat]?).bind fun e => bif ak e.length 9 && true then some (.fp e 0) else none else none := by kernel_rfl
theorem Fo (es : List (List PV)) (c : Cap) (k : IntKind) (n : Int) : bL Tryz.prog 60 (.sl es c) (.v (.int k n)) = bif dD n es.length then (es[n.toNat]?).bind fun e => bif ak e.length 1 && true then some (.fp e 0) else none else none := by kernel_rfl
theorem Ha (es : List (List PV)) (c : Cap) (k : IntKind) (n : Int) : bL Tryz.prog 91 (.sl es c) (.v (.int k n)) = bif dD n es.length then (es[n.toNat]?).bind fun e => bif ak e.length 1 && true then some (.fp e 0) else none else none := by kernel_rfl
theorem fB (x : Value) : je Tryz.prog 212 (.v x) = some (.ifc 212 x) := by kernel_rfl
theorem zr (x0 x1 x2 : PV) (k : IntKind) : dG Tryz.prog 198 (.agg [x0, x1, x2]) (.v (.int k 0)) = some x0 := by kernel_rfl
theorem zt (x0 x1 x2 : PV) (k : IntKind) : dG Tryz.prog 198 (.agg [x0, x1, x2]) (.v (.int k 1)) = some x1 := by kernel_rfl
theorem zx (x0 x1 x2 : PV) (k : IntKind) : dG Tryz.prog 198 (.agg [x0, x1, x2]) (.v (.int k 2)) = some x2 := by kernel_rfl
theorem EF (x0 x1 x2 x3 : PV) (k : IntKind) : dG Tryz.prog 199 (.agg [x0, x1, x2, x3]) (.v (.int k 0)) = some x0 := by kernel_rfl
theorem zu (x0 x1 x2 x3 : PV) (k : IntKind) : dG Tryz.prog 199 (.agg [x0, x1, x2, x3]) (.v (.int k 1)) = some x1 := by kernel_rfl
theorem zy (x0 x1 x2 x3 : PV) (k : IntKind) : dG Tryz.prog 199 (.agg [x0, x1, x2, x3]) (.v (.int k 2)) = some x2 := by kernel_rfl
theorem zB (x0 x1 x2 x3 : PV) (k : IntKind) : dG Tryz.prog 199 (.agg [x0, x1, x2, x3]) (.v (.int k 3)) = some x3 := by kernel_rfl
theorem HD {l : List UInt8} {i : Nat} (k : IntKind) (h : i < l.length) : dG Tryz.prog 9 (str l) (.v (.int k (i : Int))) = some (.v (.int .u8 (l[i].toNat : Int))) := EA (by kernel_rfl) k h
theorem rn (c : UInt8) (l : List UInt8) (k : IntKind) : dG Tryz.prog 9 (str (c :: l)) (.v (.int k 0)) = some (.v (.int .u8 (c.toNat : Int))) := HD (l := c :: l) (i := 0) k (by simp)
theorem Co (es : List (List PV)) (c : Cap) : fR Tryz.prog 24 (.sl es c) = some (.v (.int .i64 es.length)) := by kernel_rfl
theorem Cp (es : List (List PV)) (c : Cap) : fR Tryz.prog 25 (.sl es c) = some (.v (.int .i64 es.length)) := by kernel_rfl
theorem Cr (es : List (List PV)) (c : Cap) : fR Tryz.prog 26 (.sl es c) = some (.v (.int .i64 es.length)) := by kernel_rfl
theorem ya (es : List (List PV)) (c : Cap) : fR Tryz.prog 27 (.sl es c) = some (.v (.int .i64 es.length)) := by kernel_rfl
theorem Cs (es : List (List PV)) (c : Cap) : fR Tryz.prog 31 (.sl es c) = some (.v (.int .i64 es.length)) := by kernel_rfl
theorem yb (es : List (List PV)) (c : Cap) : fR Tryz.prog 37 (.sl es c) = some (.v (.int .i64 es.length)) := by kernel_rfl
theorem Ct (es : List (List PV)) (c : Cap) : fR Tryz.prog 60 (.sl es c) = some (.v (.int .i64 es.length)) := by kernel_rfl
theorem lV (s : ByteArray) : fR Tryz.prog 9 (.v (.string s)) = some (.v (.int .i64 s.size)) := by kernel_rfl
theorem sF (es : List (List PV)) (c : Cap) : fR Tryz.prog 91 (.sl es c) = some (.v (.int .i64 es.length)) := by kernel_rfl
theorem C9 {l : List UInt8} {lo : Nat} (k : IntKind) (h : lo ≤ l.length) : ib Tryz.prog 9 (str l) (some (.v (.int k (lo : Int)))) none none = some (str (l.drop lo)) := Da (by kernel_rfl) k h
theorem C7 {l : List UInt8} {hi : Nat} (k' : IntKind) (h' : hi ≤ l.length) : ib Tryz.prog 9 (str l) none (some (.v (.int k' (hi : Int)))) none = some (str (l.take hi)) := C8 (by kernel_rfl) k' h'
end Go.Proofs.YtlhlijaondmccaaGreatDoor.S
namespace Go.Proofs
open Go.Shelf
def Tryz.wD : Go.Shelf.Ren := ⟨fun | 283 => 94 | n => n, fun | 3 => 3 | 9 => 9 | 4 => 4 | n => n, fun | n => n⟩
theorem Tryz.EJ : Go.Proofs.Lays.n283 Tryz.prog Tryz.wD := {
 mixed := by kernel_rfl
 f283 := Tryz.func94.trans (congrArg some (by kernel_rfl))
 t3 := Tryz.underlying3
 a3 := Tryz.isAgg3
 z3 := Tryz.sizeOf3
 v3 := Tryz.zeroValue3
 t4 := Tryz.underlying4
 a4 := Tryz.isAgg4
 z4 := Tryz.sizeOf4
 v4 := Tryz.zeroValue4
 t9 := Tryz.underlying9
 a9 := Tryz.isAgg9
 z9 := Tryz.sizeOf9
 v9 := Tryz.zeroValue9 }
open Go.Lib in
theorem Tryz.internal_strconv_small (i : Nat) (h : i < 100) (w : World) :
 Calls Tryz.prog 94 #[.int .i64 i] w fun e w' => e = .returned (.string ⟨(Lib.decDigits i).toArray⟩) ∧ w' = w := Any.internal_strconv_small Tryz.EJ i h w
def Tryz.vf : Go.Shelf.Ren := ⟨fun | 284 => 95 | 129 => 134 | 317 => 133 | 318 => 135 | n => n, fun | 53 => 34 | 3 => 3 | 212 => 185 | 0 => 0 | 4 => 4 | 46 => 122 | 5 => 5 | 9 => 9 | n => n, fun | 17 => 0 | n => n⟩
theorem Tryz.Cm : Go.Proofs.LaysM.n284 Tryz.prog Tryz.vf := {
 mixed := by kernel_rfl
 f129 := Tryz.func134.trans (congrArg some (by kernel_rfl))
 f284 := Tryz.func95.trans (congrArg some (by kernel_rfl))
 f317 := Tryz.func133.trans (congrArg some (by kernel_rfl))
 f318 := Tryz.func135.trans (congrArg some (by kernel_rfl))
 t0 := Tryz.underlying0
 a0 := Tryz.isAgg0
 z0 := Tryz.sizeOf0
 v0 := Tryz.zeroValue0
 t3 := Tryz.underlying3
 a3 := Tryz.isAgg3
 z3 := Tryz.sizeOf3
 v3 := Tryz.zeroValue3
 t4 := Tryz.underlying4
 a4 := Tryz.isAgg4
 z4 := Tryz.sizeOf4
 v4 := Tryz.zeroValue4
 t5 := Tryz.underlying5
 a5 := Tryz.isAgg5
 z5 := Tryz.sizeOf5
 v5 := Tryz.zeroValue5
 t9 := Tryz.underlying9
 a9 := Tryz.isAgg9
 z9 := Tryz.sizeOf9
 v9 := Tryz.zeroValue9
 t46 := Tryz.underlying122
 a46 := Tryz.isAgg122
 z46 := Tryz.sizeOf122
 v46 := Tryz.zeroValue122
 t53 := Tryz.underlying34
 a53 := Tryz.isAgg34
 z53 := Tryz.sizeOf34
 v53 := Tryz.zeroValue34
 t212 := Tryz.underlying185
 a212 := Tryz.isAgg185
 z212 := Tryz.sizeOf185
 v212 := Tryz.zeroValue185
 g17 := by kernel_rfl
 i0 := by kernel_rfl
 i3 := by kernel_rfl
 i4 := by kernel_rfl
 i5 := by kernel_rfl
 i9 := by kernel_rfl
 i46 := by kernel_rfl
 i53 := by kernel_rfl
 i212 := by kernel_rfl
 m17 := by kernel_rfl }
open Go.Lib in
theorem Tryz.internal_strconv_numDigits (u : Nat) (h1 : 1 ≤ u) (h2 : u < 18446744073709551616) (w : World) (htab : Lib.TabIs Tryz.prog w "internal/strconv.uint64pow10" .u64 Lib.pow10Tab) :
 Calls Tryz.prog 95 #[.int .u64 u] w fun e w' => e = .returned (.int .i64 (Lib.nDigits u)) ∧ w' = w := Any.internal_strconv_numDigits Tryz.Cm u h1 h2 w htab
def Tryz.wE : Go.Shelf.Ren := ⟨fun | 285 => 96 | n => n, fun | 37 => 91 | 53 => 34 | 3 => 3 | 4 => 4 | 51 => 186 | 9 => 9 | 5 => 5 | 0 => 0 | n => n, fun | n => n⟩
theorem Tryz.EK : Go.Proofs.Lays.n285 Tryz.prog Tryz.wE := {
 mixed := by kernel_rfl
 f285 := Tryz.func96.trans (congrArg some (by kernel_rfl))
 t0 := Tryz.underlying0
 a0 := Tryz.isAgg0
 z0 := Tryz.sizeOf0
 v0 := Tryz.zeroValue0
 t3 := Tryz.underlying3
 a3 := Tryz.isAgg3
 z3 := Tryz.sizeOf3
 v3 := Tryz.zeroValue3
 t4 := Tryz.underlying4
 a4 := Tryz.isAgg4
 z4 := Tryz.sizeOf4
 v4 := Tryz.zeroValue4
 t5 := Tryz.underlying5
 a5 := Tryz.isAgg5
 z5 := Tryz.sizeOf5
 v5 := Tryz.zeroValue5
 t9 := Tryz.underlying9
 a9 := Tryz.isAgg9
 z9 := Tryz.sizeOf9
 v9 := Tryz.zeroValue9
 t37 := Tryz.underlying91
 a37 := Tryz.isAgg91
 z37 := Tryz.sizeOf91
 v37 := Tryz.zeroValue91
 t51 := Tryz.underlying186
 a51 := Tryz.isAgg186
 z51 := Tryz.sizeOf186
 v51 := Tryz.zeroValue186
 t53 := Tryz.underlying34
 a53 := Tryz.isAgg34
 z53 := Tryz.sizeOf34
 v53 := Tryz.zeroValue34 }
open Go.RowKit Go.Sort Go.Lib in
theorem Tryz.internal_strconv_formatBase10 (blk off cap : Nat) (u : Nat) (d : Array UInt8) (w : World) (hH : Holds (fun (b : UInt8) => Value.int .u8 (b.toNat : Int)) w blk off d) (hu : u < 10 ^ d.size) (hu64 : u < 18446744073709551616) (hsz : d.size < 4611686018427387904) :
 Calls Tryz.prog 96 #[.slice (some ⟨blk, off, none⟩) d.size cap, .int .u64 u] w fun e w' =>
  e = .returned (.tuple #[]) ∧ ∃ (n v' : Nat) (dk : Array UInt8), w' = (putRow (fun (b : UInt8) => Value.int .u8 (b.toNat : Int)) w blk off dk).drewN n ∧ FmtInv d.size u 0 v' dk := Any.internal_strconv_formatBase10 Tryz.EK blk off cap u d w hH hu hu64 hsz
def Tryz.ve : Go.Shelf.Ren := ⟨fun | 245 => 171 | 279 => 179 | 280 => 180 | 281 => 181 | 282 => 182 | 316 => 192 | 171 => 106 | 205 => 193 | 243 => 143 | 246 => 167 | 283 => 94 | 284 => 95 | 285 => 96 | 286 => 97 | 129 => 134 | 317 => 133 | 318 => 135 | 319 => 136 | 320 => 137 | 337 => 164 | 338 => 165 | n => n, fun | 9 => 9 | 3 => 3 | 75 => 128 | 167 => 212 | 4 => 4 | 168 => 214 | 210 => 226 | 37 => 91 | 0 => 0 | 127 => 133 | 145 => 232 | 143 => 230 | 2 => 2 | 171 => 161 | 53 => 34 | 5 => 5 | 173 => 164 | 212 => 185 | 51 => 186 | 20 => 20 | 213 => 187 | 46 => 122 | 232 => 210 | 233 => 211 | 80 => 76 | n => n, fun | 15 => 4 | 16 => 5 | 17 => 0 | 18 => 1 | 19 => 2 | n => n⟩
theorem Tryz.wF : Go.Proofs.LaysC.n245 Tryz.prog Tryz.ve := {
 mixed := by kernel_rfl
 f129 := Tryz.func134.trans (congrArg some (by kernel_rfl))
 f171 := Tryz.func106.trans (congrArg some (by kernel_rfl))
 f205 := Tryz.func193.trans (congrArg some (by kernel_rfl))
 f243 := Tryz.func143.trans (congrArg some (by kernel_rfl))
 f245 := Tryz.func171.trans (congrArg some (by kernel_rfl))
 f246 := Tryz.func167.trans (congrArg some (by kernel_rfl))
 f279 := Tryz.func179.trans (congrArg some (by kernel_rfl))
 f280 := Tryz.func180.trans (congrArg some (by kernel_rfl))
 f281 := Tryz.func181.trans (congrArg some (by kernel_rfl))
 f282 := Tryz.func182.trans (congrArg some (by kernel_rfl))
 f283 := Tryz.func94.trans (congrArg some (by kernel_rfl))
 f284 := Tryz.func95.trans (congrArg some (by kernel_rfl))
 f285 := Tryz.func96.trans (congrArg some (by kernel_rfl))
 f286 := Tryz.func97.trans (congrArg some (by kernel_rfl))
 f316 := Tryz.func192.trans (congrArg some (by kernel_rfl))
 f317 := Tryz.func133.trans (congrArg some (by kernel_rfl))
 f318 := Tryz.func135.trans (congrArg some (by kernel_rfl))
 f319 := Tryz.func136.trans (congrArg some (by kernel_rfl))
 f320 := Tryz.func137.trans (congrArg some (by kernel_rfl))
 f337 := Tryz.func164.trans (congrArg some (by kernel_rfl))
 f338 := Tryz.func165.trans (congrArg some (by kernel_rfl))
 t0 := Tryz.underlying0
 a0 := Tryz.isAgg0
 z0 := Tryz.sizeOf0
 v0 := Tryz.zeroValue0
 t2 := Tryz.underlying2
 a2 := Tryz.isAgg2
 z2 := Tryz.sizeOf2
 v2 := Tryz.zeroValue2
 t3 := Tryz.underlying3
 a3 := Tryz.isAgg3
 z3 := Tryz.sizeOf3
 v3 := Tryz.zeroValue3
 t4 := Tryz.underlying4
 a4 := Tryz.isAgg4
 z4 := Tryz.sizeOf4
 v4 := Tryz.zeroValue4
 t5 := Tryz.underlying5
 a5 := Tryz.isAgg5
 z5 := Tryz.sizeOf5
 v5 := Tryz.zeroValue5
 t9 := Tryz.underlying9
 a9 := Tryz.isAgg9
 z9 := Tryz.sizeOf9
 v9 := Tryz.zeroValue9
 t20 := Tryz.underlying20
 a20 := Tryz.isAgg20
 z20 := Tryz.sizeOf20
 v20 := Tryz.zeroValue20
 t37 := Tryz.underlying91
 a37 := Tryz.isAgg91
 z37 := Tryz.sizeOf91
 v37 := Tryz.zeroValue91
 t46 := Tryz.underlying122
 a46 := Tryz.isAgg122
 z46 := Tryz.sizeOf122
 v46 := Tryz.zeroValue122
 t51 := Tryz.underlying186
 a51 := Tryz.isAgg186
 z51 := Tryz.sizeOf186
 v51 := Tryz.zeroValue186
 t53 := Tryz.underlying34
 a53 := Tryz.isAgg34
 z53 := Tryz.sizeOf34
 v53 := Tryz.zeroValue34
 t75 := Tryz.underlying128
 a75 := Tryz.isAgg128
 z75 := Tryz.sizeOf128
 v75 := Tryz.zeroValue128
 t127 := Tryz.underlying133
 a127 := Tryz.isAgg133
 z127 := Tryz.sizeOf133
 v127 := Tryz.zeroValue133
 t143 := Tryz.underlying230
 a143 := Tryz.isAgg230
 z143 := Tryz.sizeOf230
 v143 := Tryz.zeroValue230
 t145 := Tryz.underlying232
 a145 := Tryz.isAgg232
 z145 := Tryz.sizeOf232
 v145 := Tryz.zeroValue232
 t167 := Tryz.underlying212
 a167 := Tryz.isAgg212
 z167 := Tryz.sizeOf212
 v167 := Tryz.zeroValue212
 t168 := Tryz.underlying214
 a168 := Tryz.isAgg214
 z168 := Tryz.sizeOf214
 v168 := Tryz.zeroValue214
 t171 := Tryz.underlying161
 a171 := Tryz.isAgg161
 z171 := Tryz.sizeOf161
 v171 := Tryz.zeroValue161
 t173 := Tryz.underlying164
 a173 := Tryz.isAgg164
 z173 := Tryz.sizeOf164
 v173 := Tryz.zeroValue164
 t210 := Tryz.underlying226
 a210 := Tryz.isAgg226
 z210 := Tryz.sizeOf226
 v210 := Tryz.zeroValue226
 t212 := Tryz.underlying185
 a212 := Tryz.isAgg185
 z212 := Tryz.sizeOf185
 v212 := Tryz.zeroValue185
 t213 := Tryz.underlying187
 a213 := Tryz.isAgg187
 z213 := Tryz.sizeOf187
 t232 := Tryz.underlying210
 a232 := Tryz.isAgg210
 z232 := Tryz.sizeOf210
 v232 := Tryz.zeroValue210
 t233 := Tryz.underlying211
 a233 := Tryz.isAgg211
 z233 := Tryz.sizeOf211
 v233 := Tryz.zeroValue211
 g15 := by kernel_rfl
 g16 := by kernel_rfl
 g17 := by kernel_rfl
 g18 := by kernel_rfl
 g19 := by kernel_rfl
 t80 := Tryz.underlying76
 a80 := Tryz.isAgg76
 z80 := Tryz.sizeOf76
 v80 := Tryz.zeroValue76
 i0 := by kernel_rfl
 i2 := by kernel_rfl
 i3 := by kernel_rfl
 i4 := by kernel_rfl
 i5 := by kernel_rfl
 i9 := by kernel_rfl
 i20 := by kernel_rfl
 i37 := by kernel_rfl
 i46 := by kernel_rfl
 i51 := by kernel_rfl
 i53 := by kernel_rfl
 i75 := by kernel_rfl
 i80 := by kernel_rfl
 i127 := by kernel_rfl
 i143 := by kernel_rfl
 i145 := by kernel_rfl
 i167 := by kernel_rfl
 i168 := by kernel_rfl
 i171 := by kernel_rfl
 i173 := by kernel_rfl
 i210 := by kernel_rfl
 i212 := by kernel_rfl
 i232 := by kernel_rfl
 i233 := by kernel_rfl
 m15 := by kernel_rfl
 m16 := by kernel_rfl
 m17 := by kernel_rfl
 m18 := by kernel_rfl
 m19 := by kernel_rfl
 c0 := by kernel_rfl
 c2 := by kernel_rfl
 c3 := by kernel_rfl
 c4 := by kernel_rfl
 c5 := by kernel_rfl
 c9 := by kernel_rfl
 c20 := by kernel_rfl
 c37 := by kernel_rfl
 c46 := by kernel_rfl
 c51 := by kernel_rfl
 c53 := by kernel_rfl
 c75 := by kernel_rfl
 c80 := by kernel_rfl
 c127 := by kernel_rfl
 c143 := by kernel_rfl
 c145 := by kernel_rfl
 c167 := by kernel_rfl
 c168 := by kernel_rfl
 c171 := by kernel_rfl
 c173 := by kernel_rfl
 c210 := by kernel_rfl
 c212 := by kernel_rfl
 c213 := by kernel_rfl
 c232 := by kernel_rfl
 c233 := by kernel_rfl }
open Go.RowKit in
theorem Tryz.strconv_toError_syntax (fn s : ByteArray) (base bits : Int) (ev : Value) (w : World) (hlim : s.size ≤ 281474976710656) (hv : w.cell? ⟨4, 0, none⟩ = some ev) (hev : ev = .nilIface ∨ ∃ te pe, ev = .iface te pe) :
 Calls Tryz.prog 171 #[.string fn, .string s, .int .i64 base, .int .i64 bits, .iface 212 (.int .i64 2)] w fun e w' => ∃ N, e = .returned (.iface 214 (.pointer (some ⟨N, 0, none⟩))) ∧ w.heap.size ≤ N ∧ w'.heap[N]? = some (.cells #[.string fn, .string s, ev] 226 (0, 0)) ∧ Below w.heap.size w w' := Any.strconv_toError_syntax Tryz.wF fn s base bits ev w hlim hv hev
open Go.RowKit in
theorem Tryz.strconv_toError_range (fn s : ByteArray) (base bits : Int) (ev : Value) (w : World) (hlim : s.size ≤ 281474976710656) (hv : w.cell? ⟨5, 0, none⟩ = some ev) (hev : ev = .nilIface ∨ ∃ te pe, ev = .iface te pe) :
 Calls Tryz.prog 171 #[.string fn, .string s, .int .i64 base, .int .i64 bits, .iface 212 (.int .i64 1)] w fun e w' => ∃ N, e = .returned (.iface 214 (.pointer (some ⟨N, 0, none⟩))) ∧ w.heap.size ≤ N ∧ w'.heap[N]? = some (.cells #[.string fn, .string s, ev] 226 (0, 0)) ∧ Below w.heap.size w w' := Any.strconv_toError_range Tryz.wF fn s base bits ev w hlim hv hev
def Tryz.wC : Go.Shelf.Ren := ⟨fun | 217 => 144 | 266 => 168 | n => n, fun | 9 => 9 | 5 => 5 | 3 => 3 | n => n, fun | n => n⟩
theorem Tryz.EI : Go.Proofs.Lays.n217 Tryz.prog Tryz.wC := {
 mixed := by kernel_rfl
 f217 := Tryz.func144.trans (congrArg some (by kernel_rfl))
 f266 := Tryz.func168.trans (congrArg some (by kernel_rfl))
 t3 := Tryz.underlying3
 a3 := Tryz.isAgg3
 z3 := Tryz.sizeOf3
 v3 := Tryz.zeroValue3
 t5 := Tryz.underlying5
 a5 := Tryz.isAgg5
 z5 := Tryz.sizeOf5
 v5 := Tryz.zeroValue5
 t9 := Tryz.underlying9
 a9 := Tryz.isAgg9
 z9 := Tryz.sizeOf9
 v9 := Tryz.zeroValue9 }
open Go.RowKit Go.Lib in
theorem Tryz.stringslite_IndexByte (s : ByteArray) (c : Int) (w : World) :
 Calls Tryz.prog 144 #[.string s, .int .u8 c] w fun e w' => e = .returned (.int .i64 (Lib.indexByte s.data.toList c.toNat.toUInt8)) ∧ w' = w := Any.stringslite_IndexByte Tryz.EI s c w
def Tryz.wA : Go.Shelf.Ren := ⟨fun | 144 => 169 | 143 => 176 | 219 => 191 | 217 => 144 | 225 => 196 | 224 => 195 | 267 => 200 | 266 => 168 | 314 => 202 | n => n, fun | 9 => 9 | 4 => 4 | 3 => 3 | 5 => 5 | 46 => 122 | 146 => 190 | 51 => 186 | n => n, fun | 1 => 3 | n => n⟩
theorem Tryz.EG : Go.Proofs.Lays.n144 Tryz.prog Tryz.wA := {
 mixed := by kernel_rfl
 f143 := Tryz.func176.trans (congrArg some (by kernel_rfl))
 f144 := Tryz.func169.trans (congrArg some (by kernel_rfl))
 f217 := Tryz.func144.trans (congrArg some (by kernel_rfl))
 f219 := Tryz.func191.trans (congrArg some (by kernel_rfl))
 f224 := Tryz.func195.trans (congrArg some (by kernel_rfl))
 f225 := Tryz.func196.trans (congrArg some (by kernel_rfl))
 f266 := Tryz.func168.trans (congrArg some (by kernel_rfl))
 f267 := Tryz.func200.trans (congrArg some (by kernel_rfl))
 f314 := Tryz.func202.trans (congrArg some (by kernel_rfl))
 t3 := Tryz.underlying3
 a3 := Tryz.isAgg3
 z3 := Tryz.sizeOf3
 v3 := Tryz.zeroValue3
 t4 := Tryz.underlying4
 a4 := Tryz.isAgg4
 z4 := Tryz.sizeOf4
 v4 := Tryz.zeroValue4
 t5 := Tryz.underlying5
 a5 := Tryz.isAgg5
 z5 := Tryz.sizeOf5
 v5 := Tryz.zeroValue5
 t9 := Tryz.underlying9
 a9 := Tryz.isAgg9
 z9 := Tryz.sizeOf9
 v9 := Tryz.zeroValue9
 t46 := Tryz.underlying122
 a46 := Tryz.isAgg122
 z46 := Tryz.sizeOf122
 v46 := Tryz.zeroValue122
 t51 := Tryz.underlying186
 a51 := Tryz.isAgg186
 z51 := Tryz.sizeOf186
 v51 := Tryz.zeroValue186
 t146 := Tryz.underlying190
 a146 := Tryz.isAgg190
 z146 := Tryz.sizeOf190
 v146 := Tryz.zeroValue190
 g1 := by kernel_rfl }
open Go.RowKit Go.Lib in
theorem Tryz.strings_Contains (s sub : ByteArray) (m : Int) (w : World) (hs : s.size < 4294967281) (hm : w.cell? ⟨3, 0, none⟩ = some (.int .i64 m)) :
 Calls Tryz.prog 169 #[.string s, .string sub] w fun e w' => e = .returned (.bool (Lib.contains s.data.toList sub.data.toList)) ∧ w' = w := Any.strings_Contains Tryz.EG s sub m w hs hm
def Tryz.wB : Go.Shelf.Ren := ⟨fun | 150 => 150 | 153 => 172 | 152 => 183 | 226 => 184 | 227 => 185 | 228 => 186 | 137 => 114 | 119 => 194 | 224 => 195 | 225 => 196 | 217 => 144 | 266 => 168 | n => n, fun | 9 => 9 | 4 => 4 | 3 => 3 | 5 => 5 | 21 => 21 | 117 => 220 | 116 => 219 | 0 => 0 | 46 => 122 | 124 => 228 | n => n, fun | n => n⟩
theorem Tryz.EH : Go.Proofs.Lays.n150 Tryz.prog Tryz.wB := {
 mixed := by kernel_rfl
 f119 := Tryz.func194.trans (congrArg some (by kernel_rfl))
 f137 := Tryz.func114.trans (congrArg some (by kernel_rfl))
 f150 := Tryz.func150.trans (congrArg some (by kernel_rfl))
 f152 := Tryz.func183.trans (congrArg some (by kernel_rfl))
 f153 := Tryz.func172.trans (congrArg some (by kernel_rfl))
 f217 := Tryz.func144.trans (congrArg some (by kernel_rfl))
 f224 := Tryz.func195.trans (congrArg some (by kernel_rfl))
 f225 := Tryz.func196.trans (congrArg some (by kernel_rfl))
 f226 := Tryz.func184.trans (congrArg some (by kernel_rfl))
 f227 := Tryz.func185.trans (congrArg some (by kernel_rfl))
 f228 := Tryz.func186.trans (congrArg some (by kernel_rfl))
 f266 := Tryz.func168.trans (congrArg some (by kernel_rfl))
 t0 := Tryz.underlying0
 a0 := Tryz.isAgg0
 z0 := Tryz.sizeOf0
 v0 := Tryz.zeroValue0
 t3 := Tryz.underlying3
 a3 := Tryz.isAgg3
 z3 := Tryz.sizeOf3
 v3 := Tryz.zeroValue3
 t4 := Tryz.underlying4
 a4 := Tryz.isAgg4
 z4 := Tryz.sizeOf4
 v4 := Tryz.zeroValue4
 t5 := Tryz.underlying5
 a5 := Tryz.isAgg5
 z5 := Tryz.sizeOf5
 v5 := Tryz.zeroValue5
 t9 := Tryz.underlying9
 a9 := Tryz.isAgg9
 z9 := Tryz.sizeOf9
 v9 := Tryz.zeroValue9
 t21 := Tryz.underlying21
 a21 := Tryz.isAgg21
 z21 := Tryz.sizeOf21
 v21 := Tryz.zeroValue21
 t46 := Tryz.underlying122
 a46 := Tryz.isAgg122
 z46 := Tryz.sizeOf122
 v46 := Tryz.zeroValue122
 t116 := Tryz.underlying219
 a116 := Tryz.isAgg219
 z116 := Tryz.sizeOf219
 t117 := Tryz.underlying220
 a117 := Tryz.isAgg220
 z117 := Tryz.sizeOf220
 v117 := Tryz.zeroValue220
 t124 := Tryz.underlying228
 a124 := Tryz.isAgg228
 z124 := Tryz.sizeOf228
 v124 := Tryz.zeroValue228 }
open Go.RowKit Go.Lib in
theorem Tryz.strings_ContainsAny_laid (s chars : ByteArray) (w : World) (hs : s.size < 4294967281) (hcs : chars.size < 4294967281) (has : ∀ (j : Nat) b, s.data.toList[j]? = some b → b.toNat < 128) (hac : ∀ (j : Nat) b, chars.data.toList[j]? = some b → b.toNat < 128) :
 Calls Tryz.prog 150 #[.string s, .string chars] w fun e w' => e = .returned (.bool (Lib.containsAny s.data.toList chars.data.toList)) ∧ Below w.heap.size w w' := Any.strings_ContainsAny_laid Tryz.EH (by kernel_rfl) s chars w hs hcs has hac
open Go.Shelf Go.RowKit Go.Sort Go.Lib
theorem Tryz.qH (i : Nat) (hi : i < 100) (w : World) :
 Calls Tryz.prog 59 #[.int .u64 i, .int .i64 10] w fun e w' => e = .returned (.string ⟨(Lib.decDigits i).toArray⟩) ∧ w' = w := by
 go_enter Tryz.func59, Tryz.ntmps59
 go_wp2_with (go_at_call 94; refine (Tryz.internal_strconv_small i hi _).mono ?_; rintro e w' ⟨rfl, rfl⟩)
 go_ret
 exact ⟨rfl, rfl⟩
theorem Tryz.wu (w : World) (T : TypeId) (nd : Nat) (hs : nd ≤ 24) : Holds (fun (b : UInt8) => Value.int .u8 (b.toNat : Int)) (w.alloc (.cells zeros24 T)) w.heap.size 0 (Array.replicate nd (0 : UInt8)) := fun j hj => by
 simp only [Array.size_replicate] at hj; rw [show (⟨w.heap.size, 0 + j, none⟩ : Addr) = ⟨w.heap.size, j, none⟩ from by simp]; rw [World.cell?_alloc_new, zeros24_at _ (by omega), getElem!_pos _ j (by simpa using hj)]; simp
theorem uQ {B : Nat} {a w : World} (h : Below B a w) (k : Nat) : Below B a (w.drewN k) := ⟨h.os, h.tape, h.output, h.size, h.block⟩
theorem Tryz.sy (u : Nat) (hu : 100 ≤ u) (hu64 : u < 18446744073709551616) (w : World) (htab : Lib.TabIs Tryz.prog w "internal/strconv.uint64pow10" .u64 Lib.pow10Tab) :
 Calls Tryz.prog 59 #[.int .u64 u, .int .i64 10] w fun e w' => e = .returned (.string ⟨(Lib.decDigits u).toArray⟩) ∧ Below w.heap.size w w' := by
 have hu1 : 1 ≤ u := by omega
 have hnd20 : Lib.nDigits u ≤ 20 := by have := Lib.numDigits_eq u hu1 hu64; split at this <;> omega
 have hal : Tryz.prog.arrayLen 161 = 24 := by simp [Program.arrayLen, Tryz.underlying161]
 have hsl1 : ∀ W, (Instr.sliceAt 161 (.pointer (some ⟨w.heap.size, 0, none⟩)) none (some (.int .i64 (Lib.nDigits u : Int))) none).run Tryz.prog W = .ok (.slice (some ⟨w.heap.size, 0, none⟩) (Lib.nDigits u) 24) W := fun W => by
  rw [run_sliceAt_array_h W 161 ⟨w.heap.size, 0, none⟩ (by simp [Program.arrayLen, Program.elem, Tryz.underlying161]) .i64 (Lib.nDigits u : Int) (by omega) (by rw [hal]; omega)]
  go_simp
 have hH0 := Tryz.wu w 161 (Lib.nDigits u) (by omega); have hfmt := Tryz.internal_strconv_formatBase10 w.heap.size 0 24 u (Array.replicate (Lib.nDigits u) 0) (w.alloc (.cells Lib.zeros24 161)) hH0 (by rw [Array.size_replicate]; exact Lib.lt_pow_nDigits u) hu64 (by rw [Array.size_replicate]; omega); rw [Array.size_replicate] at hfmt; have HH0 := Lib.hid hH0; have Hal := Lib.hid hal; clear hH0 hal
 go_enter Tryz.func59, Tryz.ntmps59
 go_wp2_with (first
  | (go_at_call 95; refine (Tryz.internal_strconv_numDigits u hu1 hu64 _ (Lib.tabIs_alloc htab _)).mono ?_; rintro e w' ⟨rfl, rfl⟩))
 go_at_call 96
 refine hfmt.mono ?_
 rintro e w' ⟨rfl, k, v', dk, rfl, hF⟩
 have hcv : (convert 91 9 (.slice (some ⟨w.heap.size, 0, none⟩) (Lib.nDigits u) 24)).run Tryz.prog ((putRow (fun (b : UInt8) => Value.int .u8 (b.toNat : Int)) (w.alloc (.cells Lib.zeros24 161)) w.heap.size 0 dk).drewN k) = .ok (.string ⟨(Lib.decDigits u).toArray⟩) ((putRow (fun (b : UInt8) => Value.int .u8 (b.toNat : Int)) (w.alloc (.cells Lib.zeros24 161)) w.heap.size 0 dk).drewN k) := by
  have h := run_convert_bytes_back (P := Tryz.prog) ((putRow (fun (b : UInt8) => Value.int .u8 (b.toNat : Int)) (w.alloc (.cells Lib.zeros24 161)) w.heap.size 0 dk).drewN k) 91 9 5 ⟨w.heap.size, 0, none⟩ 24 (Lib.decDigits u) Tryz.underlying91 Tryz.underlying5 Tryz.underlying9 (fun j hj => by
   rw [Lib.row_is_numeral hF j hj, Lib.add_plain, World.cell?_drewN]
   exact cell?_putRow (fun (b : UInt8) => Value.int .u8 (b.toNat : Int)) _ w.heap.size 0 _ dk HH0.out (by rw [hF.size, Array.size_replicate]) j (by rw [hF.size]; rw [Lib.decDigits_length] at hj; exact hj))
  rw [Lib.decDigits_length] at h; exact h
 go_wp2
 go_ret
 refine ⟨rfl, ?_⟩; have e0 := alloc_eq_grow w (.cells Lib.zeros24 161); obtain ⟨os', _, e⟩ := putRow_grow_new (fun (b : UInt8) => Value.int .u8 (b.toNat : Int)) w #[.cells Lib.zeros24 161] w.heap.size 0 dk (aq _); rw [e0, e]; have hb : Below w.heap.size w (grow w os') := ⟨rfl, rfl, rfl, by simp [grow], fun k hk => by simp [grow, Array.getElem?_append, hk]⟩; exact uQ hb k
theorem Tryz.xQ (u : Nat) (hu64 : u < 18446744073709551616) (w : World) (htab : Lib.TabIs Tryz.prog w "internal/strconv.uint64pow10" .u64 Lib.pow10Tab) :
 Calls Tryz.prog 31 #[.int .u64 u, .int .i64 10] w fun e w' => e = .returned (.string ⟨(Lib.decDigits u).toArray⟩) ∧ Below w.heap.size w w' := by
 have h : Calls Tryz.prog 59 #[.int .u64 u, .int .i64 10] w fun e w' => e = .returned (.string ⟨(Lib.decDigits u).toArray⟩) ∧ Below w.heap.size w w' := by
  by_cases hu : u < 100
  · refine (Tryz.qH u hu w).mono ?_
    rintro e w' ⟨rfl, rfl⟩
    exact ⟨rfl, Below.refl _ _⟩
  · exact Tryz.sy u (by omega) hu64 w htab
 go_enter Tryz.func31, Tryz.ntmps31
 go_wp2_with (go_at_call 59; refine h.mono ?_; rintro e w' ⟨rfl, hb⟩)
 go_ret
 exact ⟨rfl, hb⟩
end Go.Proofs
namespace Go.Proofs.YtlhlijaondmccaaGreatDoor.S
open Go Go.AM Go.Proofs Go.RowKit
structure Gvs (gv : GV) : Prop where
 len : ∃ m, gv.cell 3 0 = some (.int .i64 m)
 syn : ∃ ev, gv.cell 4 0 = some ev ∧ (ev = .nilIface ∨ ∃ te pe, ev = .iface te pe)
 rng : ∃ ev, gv.cell 5 0 = some ev ∧ (ev = .nilIface ∨ ∃ te pe, ev = .iface te pe)
 tab : Lib.TabIs Tryz.prog gv.w0 "internal/strconv.uint64pow10" .u64 Lib.pow10Tab
 six : 6 ≤ gv.w0.heap.size
theorem G5 : Tryz.prog.globalNamed "internal/strconv.uint64pow10" = some 0 := by kernel_rfl
theorem Gvs.Hn {gv : GV} (h : Gvs gv) {w : World} (hw : gv.at w) : Lib.TabIs Tryz.prog w "internal/strconv.uint64pow10" .u64 Lib.pow10Tab :=
 var?_below hw.2 G5 (by have := h.six; omega) h.tab
theorem HI {gv : GV} (hg : Gvs gv) (w : World) (vs : List Value) (p : PV) (hw : gv.at w) (h : lX vs = some p) : Calls Tryz.prog 169 vs.toArray w fun e w' => (∃ v, e = .returned v ∧ vE v p) ∧ Below w.heap.size w w' := by
 unfold lX at h; split at h
 · rename_i s t
   split at h
   · rename_i hs
     obtain rfl := Option.some.inj h; obtain ⟨m, hm⟩ := hg.len; refine (Tryz.strings_Contains s t m w hs (hw.1 _ _ _ hm)).mono ?_
     rintro e w' ⟨rfl, rfl⟩
     exact ⟨⟨_, rfl, .v⟩, Below.refl _ _⟩
   · cases h
 · cases h
theorem HJ (w : World) (vs : List Value) (p : PV) (h : kT vs = some p) : Calls Tryz.prog 144 vs.toArray w fun e w' => (∃ v, e = .returned v ∧ vE v p) ∧ Below w.heap.size w w' := by
 unfold kT at h; split at h
 · rename_i s c
   obtain rfl := Option.some.inj h; refine (Tryz.stringslite_IndexByte s c w).mono ?_
   rintro e w' ⟨rfl, rfl⟩
   exact ⟨⟨_, rfl, .v⟩, Below.refl _ _⟩
 · cases h
theorem tK {s : ByteArray} (h : oL s = true) (j : Nat) (b : UInt8) (hb : s.data.toList[j]? = some b) : b.toNat < 128 := by
 have := dM.1 h b (eu hb); simpa using this
theorem HL (w : World) (vs : List Value) (p : PV) (h : jn vs = some p) : Calls Tryz.prog 150 vs.toArray w fun e w' => (∃ v, e = .returned v ∧ vE v p) ∧ Below w.heap.size w w' := by
 unfold jn at h; split at h
 · rename_i s t
   split at h
   · rename_i hs
     obtain rfl := Option.some.inj h; refine (Tryz.strings_ContainsAny_laid s t w hs.1 hs.2.1 (tK hs.2.2.1) (tK hs.2.2.2)).mono ?_
     rintro e w' ⟨rfl, hb⟩
     exact ⟨⟨_, rfl, .v⟩, hb⟩
   · cases h
 · cases h
theorem HM {gv : GV} (hg : Gvs gv) (w : World) (vs : List Value) (p : PV) (hw : gv.at w) (h : sO 212 vs = some p) : Calls Tryz.prog 171 vs.toArray w fun e w' => (∃ v, e = .returned v ∧ vE v p) ∧ Below w.heap.size w w' := by
 unfold sO at h; split at h
 · rename_i f s b z t n
   split at h
   · rename_i hs
     obtain ⟨h1, rfl, h2⟩ := hs; obtain rfl := Option.some.inj h
     rcases h2 with rfl | rfl
     · obtain ⟨ev, he, hi⟩ := hg.rng
       refine (Tryz.strconv_toError_range f s b z ev w h1 (hw.1 _ _ _ he) hi).mono ?_
       rintro e w' ⟨N, rfl, _, _, hb⟩
       exact ⟨⟨_, rfl, .ni⟩, hb⟩
     · obtain ⟨ev, he, hi⟩ := hg.syn
       refine (Tryz.strconv_toError_syntax f s b z ev w h1 (hw.1 _ _ _ he) hi).mono ?_
       rintro e w' ⟨N, rfl, _, _, hb⟩
       exact ⟨⟨_, rfl, .ni⟩, hb⟩
   · cases h
 · cases h
theorem HK {gv : GV} (hg : Gvs gv) (w : World) (vs : List Value) (p : PV) (hw : gv.at w) (h : AI vs = some p) : Calls Tryz.prog 31 vs.toArray w fun e w' => (∃ v, e = .returned v ∧ vE v p) ∧ Below w.heap.size w w' := by
 unfold AI at h; split at h
 · rename_i n b
   split at h
   · rename_i hs
     obtain ⟨rfl, h1, h2⟩ := hs; obtain rfl := Option.some.inj h
     obtain ⟨u, rfl⟩ : ∃ u : Nat, n = u := ⟨n.toNat, by omega⟩
     refine (Tryz.xQ u (by omega) w (hg.Hn hw)).mono ?_
     rintro e w' ⟨rfl, hb⟩
     exact ⟨⟨_, rfl, .v⟩, hb⟩
   · cases h
 · cases h
theorem CC : (Tryz.prog.funcs.toList.all fun fn => !(fn.name == "runtime.NumGoroutine")) = true := by kernel_rfl
theorem oi (f : Nat) (fn : Func) (h : Tryz.prog.funcs[f]? = some fn) : (fn.name == "runtime.NumGoroutine") = false := by
 have h1 := dM.1 CC fn (by
  rw [← gR] at h
  exact eu h)
 simpa using h1
theorem ok {gv : GV} (hg : Gvs gv) : vD gv L where
 gl w C _ i := .u
 name := oi
 mixed := by
  have h : Tryz.prog.follows .mixedOrders = true := by kernel_rfl
  exact h
 mL f g h := by
  have hl : zI CO f = some g := h; simp only [CO, zI] at hl
  cases e22 : ak 169 f with
  | true =>
   rw [e22, cond_true] at hl; obtain rfl := Option.some.inj hl; obtain rfl := ax e22
   intro call _; exact ma ⟨_, Tryz.func169, oi _ _ Tryz.func169, rfl⟩ fun w vs p hw h => HI hg w vs p hw h
  | false =>
   rw [e22, cond_false] at hl
   cases e40 : ak 144 f with
   | true =>
    rw [e40, cond_true] at hl; obtain rfl := Option.some.inj hl; obtain rfl := ax e40
    intro call _; exact ma ⟨_, Tryz.func144, oi _ _ Tryz.func144, rfl⟩ fun w vs p hw h => HJ w vs p h
   | false =>
    rw [e40, cond_false] at hl
    cases e45 : ak 150 f with
    | true =>
     rw [e45, cond_true] at hl; obtain rfl := Option.some.inj hl; obtain rfl := ax e45
     intro call _; exact ma ⟨_, Tryz.func150, oi _ _ Tryz.func150, rfl⟩ fun w vs p hw h => HL w vs p h
    | false =>
     rw [e45, cond_false] at hl
     cases e43 : ak 31 f with
     | true =>
      rw [e43, cond_true] at hl; obtain rfl := Option.some.inj hl; obtain rfl := ax e43
      intro call _; exact ma ⟨_, Tryz.func31, oi _ _ Tryz.func31, rfl⟩ fun w vs p hw h => HK hg w vs p hw h
     | false =>
      rw [e43, cond_false] at hl
      cases e49 : ak 171 f with
      | true =>
       rw [e49, cond_true] at hl; obtain rfl := Option.some.inj hl; obtain rfl := ax e49
       intro call _; exact ma ⟨_, Tryz.func171, oi _ _ Tryz.func171, rfl⟩ fun w vs p hw h => HM hg w vs p hw h
      | false =>
       rw [e49, cond_false] at hl
       cases e20 : ak 20 f with
       | true =>
        rw [e20, cond_true] at hl; obtain rfl := Option.some.inj hl; obtain rfl := ax e20
        intro call G; exact AS (AR fun w C _ i => .u) G
       | false =>
        rw [e20, cond_false] at hl; cases hl
end Go.Proofs.YtlhlijaondmccaaGreatDoor.S
namespace Go.Proofs.YtlhlijaondmccaaGreatDoor.S
open Go Go.AM Go.Proofs
attribute [local simp] cX cx bY bZ cy fq fv ec de dY db dZ dc fu cc im dS iq ic hO AM.ae aR aS aj bf aN aE AM.onG gb bW ef Ex.bn cond_true cond_false cT cS cR cQ cP cV cO cW cU ed dh di cw cY AM.du AM.cellsOf AM.an bX beq_true cM ah ay bj bz bT decide_true decide_false bF bE bu bD bg aB az aU al cZ da ft aA bI ba bR cC dR dX cJ eE eD set_set eI dy fT dz cI bK dx dw cH dv eH eJ fM fN bM cu eB fL dW aV aX aI AM.aY ai dt bU bc bh aP aO AM.part br aQ cf cm cj cn cn.eS AM.dN bG cg
def qJ (n : Int) : Bool := decide (n = 95) || (decide (97 ≤ n) && decide (n ≤ 122)) || (decide (65 ≤ n) && decide (n ≤ 90))
def vZ (n : Int) : Bool := decide (48 ≤ n) && decide (n ≤ 57)
theorem iQ (n : Int) (st : St) : E L (.func 115) [.v (.int .i32 n)] st = some (.v (.bool (qJ n)), st) := by
 rw [DO]; obtain ⟨N, T, Lb, hN, hT, hL⟩ := lens3 st
 conv => lhs; rw [← ao (st)]
 by_cases h1 : n = 95
 · simp [FO, hN, hT, hL, qJ, h1]
 by_cases h2 : 97 ≤ n <;> by_cases h3 : n ≤ 122 <;> by_cases h4 : 65 ≤ n <;> by_cases h5 : n ≤ 90 <;> simp [FO, hN, hT, hL, qJ, h1, h2, h3, h4, h5]
theorem iR (n : Int) (st : St) : E L (.func 116) [.v (.int .i32 n)] st = some (.v (.bool (vZ n)), st) := by
 rw [DP]; obtain ⟨N, T, Lb, hN, hT, hL⟩ := lens3 st
 conv => lhs; rw [← ao (st)]
 by_cases h2 : 48 ≤ n <;> by_cases h3 : n ≤ 57 <;> simp [GO, hN, hT, hL, vZ, h2, h3]
theorem yK (n : Int) (st : St) : E L (.func 113) [.v (.int .i32 n)] st = some (.v (.bool (!decide (n = 10))), st) := by
 rw [DM]; obtain ⟨N, T, Lb, hN, hT, hL⟩ := lens3 st
 conv => lhs; rw [← ao (st)]
 simp [GM, hN, hT, hL]
theorem yL (n : Int) (st : St) : E L (.func 145) [.v (.int .i32 n)] st = some (.v (.bool (qJ n || vZ n)), st) := by
 rw [DX]; obtain ⟨N, T, Lb, hN, hT, hL⟩ := lens3 st
 conv => lhs; rw [← ao (st)]
 cases h : qJ n <;> simp [GP, hN, hT, hL, iQ, iR, h]
theorem yN (n : Int) (st : St) : E L (.func 149) [.v (.int .i32 n)] st = some (.v (.bool (qJ n || vZ n)), st) := by
 rw [D0]; obtain ⟨N, T, Lb, hN, hT, hL⟩ := lens3 st
 conv => lhs; rw [← ao (st)]
 cases h : qJ n <;> simp [GR, hN, hT, hL, iQ, iR, h]
def cL (q : UInt8 → Bool) (l : List UInt8) : Nat := (l.takeWhile q).length
theorem kX (q : UInt8 → Bool) (l : List UInt8) : cL q l ≤ l.length := (List.takeWhile_sublist q).length_le
theorem gC (q : UInt8 → Bool) (c : UInt8) (l : List UInt8) : cL q (c :: l) = if q c then cL q l + 1 else 0 := by
 unfold cL; rw [List.takeWhile_cons]
 split <;> simp
theorem qi {q : UInt8 → Bool} : ∀ {l : List UInt8} {n : Nat}, n ≤ l.length → (∀ j (hj : j < l.length), j < n → q l[j] = true) → (∀ h : n < l.length, q l[n] = false) → cL q l = n
 | [], n, hn, _, _ => by
  have : n = 0 := by simpa using hn
  subst this; rfl
 | c :: l, 0, hn, _, h => by
  have := h (by simp); rw [gC, if_neg]; simpa using this
 | c :: l, n + 1, hn, h1, h => by
  have h0 := h1 0 (by simp) (by omega); rw [gC, if_pos (by simpa using h0), qi (n := n) (by simpa using hn) (fun j hj hn' => by have := h1 (j + 1) (by simpa using hj) (by omega); rwa [List.getElem_cons_succ] at this) (fun hh => by have := h (by simpa using hh); rwa [List.getElem_cons_succ] at this)]
structure Ag (g : Nat) (q : UInt8 → Bool) : Prop where
 lo : ∀ (c : UInt8) (st : St), c.toNat < 128 → E L (.func g) [.v (.int .i32 (c.toNat : Int))] st = some (.v (.bool (q c)), st)
 hi : ∃ b, (∀ c : UInt8, 128 ≤ c.toNat → q c = b) ∧ ∀ (n : Nat) (st : St), 128 ≤ n → E L (.func g) [.v (.int .i32 (n : Int))] st = some (.v (.bool b), st)
theorem CZ {g : Nat} {q : UInt8 → Bool} (ht : Ag g q) {rest : List UInt8} (hlen : rest.length < 4611686018427387904) {X : St} {N T Lb : Nat} (hN : X.stk.length = N) (hT : X.tk.length = T) (hL : X.lp.length = Lb) (ptr : PV) : ∀ (k pos : Nat), rest.length - pos = k → pos ≤ rest.length → (∀ j (hj : j < rest.length), j < pos → q rest[j] = true) → ∀ x : PV,
 ∃ pos' e y, itE (rZ.b0 (E L) itE N Lb) [ptr, .clo (.func g) [], x, .it Lb] (X.app [] [] [.iter (bs rest) pos]) = some (e, [ptr, .clo (.func g) [], y, .it Lb], X.app [] [] [.iter (bs rest) pos']) ∧
  ((e = .ret ∧ cL q rest < rest.length ∧ y = .v (.int .i64 (cL q rest))) ∨ (e = .exit 0 ∧ cL q rest = rest.length)) := by
 intro k
 induction k using Nat.strongRecOn with
 | ind k ih =>
 intro pos hk hp hall x
 by_cases hlt : pos < rest.length
 · by_cases hb : rest[pos].toNat < 128
   · by_cases hq : q rest[pos] = true
     · obtain ⟨pos', e, y, h1, h2⟩ := ih (rest.length - (pos + 1)) (by omega) (pos + 1) rfl (by omega) (fun j hj hj' => by
        by_cases hjp : j = pos
        · subst hjp; exact hq
        · exact hall j hj (by omega)) x
       refine ⟨pos', e, y, ?_, h2⟩; rw [cd (vs' := [ptr, .clo (.func g) [], x, .it Lb]) (st' := X.app [] [] [.iter (bs rest) (pos + 1)])]
       · exact h1
       · have hd := AM.decode_ascii hlt hb
         simp [rZ.b0, hN, hT, hL, hlt, hd, ht.lo rest[pos] _ hb, hq]
     · have hs : cL q rest = pos := qi hp hall fun _ => by simpa using hq
       refine ⟨pos + 1, .ret, .v (.int .i64 pos), ?_, .inl ⟨rfl, by omega, by rw [hs]⟩⟩; apply eZ; have hd := AM.decode_ascii hlt hb; simp [rZ.b0, hN, hT, hL, hlt, hd, ht.lo rest[pos] _ hb, hq]
   · obtain ⟨hh1, hh2, hh3, hh4, hh5⟩ := AM.decode_high hlt (by omega : 128 ≤ rest[pos].toNat)
     obtain ⟨b, hb1, hb2⟩ := ht.hi
     cases b with
     | true =>
      obtain ⟨pos', e, y, h1, h2⟩ := ih (rest.length - (pos + (Utf8.decode (bs rest) pos).2)) (by omega) (pos + (Utf8.decode (bs rest) pos).2) rfl (by omega) (fun j hj hj' => by
       by_cases hjp : j < pos
       · exact hall j hj hjp
       · exact hb1 _ (hh5 j hj (by omega) hj')) x
      refine ⟨pos', e, y, ?_, h2⟩; rw [cd (vs' := [ptr, .clo (.func g) [], x, .it Lb]) (st' := X.app [] [] [.iter (bs rest) (pos + (Utf8.decode (bs rest) pos).2)])]
      · exact h1
      · simp [rZ.b0, hN, hT, hL, hlt, hb2 _ _ hh1]
     | false =>
      have hs : cL q rest = pos := qi hp hall fun _ => hb1 _ (by omega)
      refine ⟨pos + (Utf8.decode (bs rest) pos).2, .ret, .v (.int .i64 pos), ?_, .inl ⟨rfl, by omega, by rw [hs]⟩⟩; apply eZ; simp [rZ.b0, hN, hT, hL, hlt, hb2 _ _ hh1]
 · have hs : cL q rest = pos := qi hp hall fun h => absurd h hlt
   refine ⟨pos, .exit 0, x, ?_, .inr ⟨rfl, by omega⟩⟩; apply iS; simp [rZ.b0, hN, hT, hL, hlt]
theorem Dw {g : Nat} {q : UInt8 → Bool} (ht : Ag g q) {s : St} {b : Nat} {rest : List UInt8} {x y : PV} (hb : b < s.stk.length) (hlen : rest.length < 4611686018427387904) :
 E L (.func 112) [.ptr false b 0, .clo (.func g) []] (s.af false b [str rest, x, y]) = some (.v (.int .i64 (cL q rest)), s.af false b [str rest, x, y]) := by
 rw [DL]; obtain ⟨N, T, Lb, hN, hT, hL⟩ := lens3 s; rw [hN] at hb
 conv => lhs; rw [← ao (s.af false b [str rest, x, y])]
 have hr : ∀ X : St, X.lp.length = Lb → nk Tryz.prog 9 (str rest) (X.app [] [] []) = some (.it Lb, X.app [] [] [.iter (bs rest) 0]) := fun X h => zJ [] [] [] (by kernel_rfl) (bs rest) h
 obtain ⟨pos', e, z, h1, h2⟩ := CZ ht hlen (X := s.af false b [str rest, x, y]) (N := N) (T := T) (Lb := Lb) (by rw [cJ, hN]) (by rw [eE, hT]) (by rw [eD, hL]) (.ptr false b 0) rest.length 0 rfl (by omega) (fun j hj h => absurd h (by omega)) (.v (.int .i64 0))
 rcases h2 with ⟨rfl, h3, rfl⟩ | ⟨rfl, h3⟩
 · simp [rZ, hN, hT, hL, hb, hr, h1]
 · simp [rZ, hN, hT, hL, hb, hr, h1, lV, h3]
def adv : List UInt8 → Nat × Nat → Nat × Nat
 | [], p => p
 | c :: l, p => adv l (if c = 10 then (p.1 + 1, 1) else (p.1, p.2 + 1))
theorem iV (a b : List UInt8) (p : Nat × Nat) : adv (a ++ b) p = adv b (adv a p) := by
 induction a generalizing p with
 | nil => rfl
 | cons c a ih => exact ih _
theorem nZ : ∀ (l : List UInt8) (p : Nat × Nat), 1 ≤ p.2 → p.1 ≤ (adv l p).1 ∧ (adv l p).1 ≤ p.1 + l.length ∧ 1 ≤ (adv l p).2 ∧ (adv l p).2 ≤ p.2 + l.length
 | [], p, h => by simp [adv, h]
 | c :: l, p, h => by
  simp only [adv, ah]; split
  · have := nZ l (p.1 + 1, 1) (by simp)
    simp only at this; omega
  · have := nZ l (p.1, p.2 + 1) (by simp)
    simp only at this; omega
abbrev rdc (rest : List UInt8) (p : Nat × Nat) : List PV := [str rest, .v (.int .i64 (p.1 : Int)), .v (.int .i64 (p.2 : Int))]
def gS (c : UInt8) : List PV := [.v (.int .u8 (c.toNat : Int))]
theorem kC (l : List UInt8) : jE (bs l) = l.map gS := rfl
theorem Ey {l : List UInt8} {i : Nat} {c : Cap} (k : IntKind) (h : i < l.length) : bL Tryz.prog 91 (.sl (l.map gS) c) (.v (.int k (i : Int))) = some (.fp (gS l[i]) 0) := by
 rw [Ha]
 have h1 : dD (i : Int) (l.map gS).length = true := by simp [dD, h]
 rw [h1, cond_true, Int.toNat_natCast, List.getElem?_map, dL h]
 rfl
theorem A9 {X : St} {N T Lb b : Nat} (hN : X.stk.length = N) (hT : X.tk.length = T) (hL : X.lp.length = Lb) (hb : b < N) {rest t : List UInt8} {p : Nat × Nat} (hp : 1 ≤ p.2) (h1 : p.1 + t.length < 4611686018427387904) (h2 : p.2 + t.length < 4611686018427387904) :
 ∀ (suf pre : List UInt8), t = pre ++ suf →
  itE (vG.b0 (E L) itE N Lb) [.ptr false b 0, str t, .sl (t.map gS) .dead, .v (.int .i64 (t.length : Int)), .v (.int .i64 (pre.length : Int))] ((X.af false b (rdc rest (adv pre p))).app [] [] []) =
   some (.exit 0, [.ptr false b 0, str t, .sl (t.map gS) .dead, .v (.int .i64 (t.length : Int)), .v (.int .i64 (t.length : Int))], (X.af false b (rdc rest (adv t p))).app [] [] []) := by
 intro suf
 induction suf with
 | nil =>
  intro pre ht
  have ht : t = pre := by simpa using ht
  subst ht; apply iS; simp [vG.b0, hN, hT, hL]
 | cons c suf ih =>
  intro pre ht
  have ht' : t = (pre ++ [c]) ++ suf := by simp [ht]
  have hl : pre.length < t.length := by rw [ht]; simp
  have hg : t[pre.length] = c := by simp [ht]
  have hb1 := nZ pre p hp; have w0 : IntKind.i64.wrap ((pre.length : Int) + 1) = (pre.length : Int) + 1 := IntWalk.i64_in _ (by omega); have w1 : IntKind.i64.wrap (((adv pre p).1 : Int) + 1) = ((adv pre p).1 : Int) + 1 := IntWalk.i64_in _ (by omega); have w2 : IntKind.i64.wrap (((adv pre p).2 : Int) + 1) = ((adv pre p).2 : Int) + 1 := IntWalk.i64_in _ (by omega); have hi := Ey (l := t) (c := .dead) .i64 hl; rw [hg] at hi
  have ha : adv (pre ++ [c]) p = if c = 10 then ((adv pre p).1 + 1, 1) else ((adv pre p).1, (adv pre p).2 + 1) := by rw [iV]; rfl
  have ih := ih (pre ++ [c]) ht'; rw [ha] at ih
  have hlt : (pre.length : Int) < (t.length : Int) := by omega
  by_cases hc : c = 10
  · subst hc
    rw [cd (vs' := [.ptr false b 0, str t, .sl (t.map gS) .dead, .v (.int .i64 (t.length : Int)), .v (.int .i64 ((pre ++ [(10 : UInt8)]).length : Int))]) (st' := (X.af false b (rdc rest ((adv pre p).1 + 1, 1))).app [] [] [])]
    · simpa using ih
    · simp [vG.b0, hN, hT, hL, hb, hlt, hi, gS, rdc, w0, w1, w2]
  · have hc' : ¬ ((c.toNat : Int) = 10) := fun h => hc (UInt8.toNat_inj.1 (by simpa using Int.ofNat_inj.1 h))
    rw [cd (vs' := [.ptr false b 0, str t, .sl (t.map gS) .dead, .v (.int .i64 (t.length : Int)), .v (.int .i64 ((pre ++ [c]).length : Int))]) (st' := (X.af false b (rdc rest ((adv pre p).1, (adv pre p).2 + 1))).app [] [] [])]
    · rw [if_neg hc] at ih
      exact ih
    · simp [vG.b0, hN, hT, hL, hb, hlt, hi, gS, rdc, w0, w1, w2, hc']
theorem Dv {s : St} {b n : Nat} {rest : List UInt8} {p : Nat × Nat} (hb : b < s.stk.length) (hn : n ≤ rest.length) (hp : 1 ≤ p.2) (h1 : p.1 + rest.length < 4611686018427387904) (h2 : p.2 + rest.length < 4611686018427387904) :
 E L (.func 111) [.ptr false b 0, .v (.int .i64 (n : Int))] (s.af false b (rdc rest p)) = some (str (rest.take n), s.af false b (rdc (rest.drop n) (adv (rest.take n) p))) := by
 rw [DK]; obtain ⟨N, T, Lb, hN, hT, hL⟩ := lens3 s; rw [hN] at hb
 conv => lhs; rw [← ao (s.af false b (rdc rest p))]
 have hl : (rest.take n).length ≤ rest.length := by simp; omega
 have h := A9 hN hT hL hb (rest := rest.drop n) (t := rest.take n) hp (by omega) (by omega) (rest.take n) [] rfl; simp only [adv, ay] at h; have e1 := C7 (l := rest) .i64 hn; have e2 := C9 (l := rest) .i64 hn; generalize rest.take n = t at h e1 ⊢; generalize rest.drop n = r at h e2 ⊢; simp only [rdc, Int.natCast_zero] at h; simp [vG, hN, hT, hL, hb, rdc, e1, e2, lP, kC, sF, h]
end Go.Proofs.YtlhlijaondmccaaGreatDoor.S
