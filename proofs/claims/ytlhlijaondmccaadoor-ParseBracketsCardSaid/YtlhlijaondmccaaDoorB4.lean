/- Part 4 of the proof of a law of the parser, its names made short by a program. No condition. -/
import Derived.Test.YtlhlijaondmccaaDoorB3
import Derived.KernelRfl
import Derived.Test.YtlhlijaondmccaaDoorProg
import Derived.Shelf.Small.Utf8
import Derived.Shelf.Small.Strs
import Derived.Shelf.Strconv.Itoa0
import Derived.Shelf.Strconv.Itoa1
import Derived.Shelf.LaysM
import Derived.Shelf.Strconv.Itoa2
import Derived.Shelf.Strconv.Itoa3
import Derived.Shelf.Strconv.Clone
import Derived.Shelf.Strconv.SyntaxError
import Derived.Shelf.LaysC
import Derived.Shelf.Strconv.ToError
import Derived.Shelf.Strconv.RangeError
import Derived.Shelf.Strconv.ToErrorRange
import Derived.Shelf.Strings.Search1
import Derived.Shelf.Strings.Search2
import Derived.Shelf.Strings.Search3
import Derived.Shelf.Strings.Shaped
import Derived.Shelf.Strings.Runes
import Derived.Shelf.Strings.IndexAny
import Derived.Shelf.Strings.AsciiSet
import Derived.Shelf.Strings.IndexAnyAll
import Derived.Test.YtlhlijaondmccaaDoorChecked
import Derived.Lib.Walk
import Derived.Lib.ItoaMem
import Derived.Lib.QuietBelow
import Derived.WalkKit
import Derived.ProofKit
import Derived.BigCall
import Derived.BigGuard
import Derived.Below
import Derived.WalkSmall
set_option linter.all false
set_option maxRecDepth 100000
set_option maxHeartbeats 4000000
open _root_.Array renaming getElem?_toList → gn
open _root_.Bool renaming and_eq_true → ao, and_self → bq, and_true → bL, false_eq_true → ab, not_false → ba, not_true → bA, true_and → bB
open _root_.Int renaming cast_ofNat_Int → aa, natCast_zero → ic
open _root_.List renaming all_cons → bC, all_eq_true → dG, all_nil → cr, cons_append → aw, drop_nil → cf, drop_succ_cons → aM, drop_zero → bm, getD_cons_succ → aQ, getD_cons_zero → aR, getElem?_cons_succ → az, getElem?_cons_zero → aC, getElem?_eq_getElem → dF, isPrefixOf → ij, length_append → bM, length_cons → al, length_drop → fY, length_nil → aF, length_singleton → bG, map_cons → aX, map_nil → aS, mem_of_getElem? → dT, modify_succ_cons → aN, modify_zero_cons → aO, nil_append → aZ, take_left → bK, take_nil → bR, take_succ_cons → aA, take_zero → bu, toList_toArray → aU
open _root_.Nat renaming add_zero → bz, beq → ai, eq_of_beq_eq_true → au, le_refl → aq, reduceAdd → bS, zero_add → bf, zero_le → dq
open _root_.Option renaming bind_none → bg, bind_some → ag, map_some → aP
namespace Go.Proofs.YtlhlijaondmccaaDoor.S
open Go Go.AM Go.Proofs
noncomputable def S46 (call : bF) (it : bP) (a0 a1 a2 : PV) (st : St) : Option (PV × St) :=
(cellsOf a2).bind fun b1 =>
let q3 : PV := .ptr false st.stk.length 0
let st2 := st.push b1
(an q3 3).bind fun p4 =>
(aj false 1 p4 st2).bind fun p5 =>
(an q3 4).bind fun p6 =>
(aj false 1 p6 st2).bind fun p7 =>
(bc [(0, 1), (1, 1), (2, 1)] [.v (.int .i64 0), .v (.int .i64 0), .v (.int .i64 0)] [(0, a1), (1, p5), (2, p7)]).bind fun p8 =>
(aE a0).bind fun p9 =>
(an p9 3).bind fun p10 =>
(av st.stk.length 3 p10 p8 st2).bind fun st11 =>
(bc [] [] []).bind fun p12 =>
(iz Tryd.prog 92 p12).bind fun p13 =>
sN p13 fun t14 x15 =>
some (PV.pan t14 x15, st11.back st.stk.length st.tk.length st.lp.length)
theorem D8 (a0 a1 a2 : PV) (st : St) : E L (.func 46) [a0, a1, a2] st = S46 (E L) itE a0 a1 a2 st := (bI (by kernel_rfl) Tryd.func46 _ _).trans (by kernel_rfl)
noncomputable def S43 (call : bF) (it : bP) (a0 a1 : PV) (st : St) : Option (PV × St) :=
let q2 : PV := .ptr false st.stk.length 0
let st1 := st.push [.v (.int .i64 0), .v (.string ⟨#[]⟩), .v (.int .u64 0), .v (.int .i64 0), .v (.int .i64 0)]
(call (.func 39) [ah a0] st1).bind fun r3 =>
let q5 : PV := .ptr false r3.2.stk.length 0
let st4 := r3.2.push [.v (.int .i64 0), .v (.string ⟨#[]⟩), .v (.int .u64 0), .v (.int .i64 0), .v (.int .i64 0)]
(av st.stk.length 5 q5 r3.1 st4).bind fun st6 =>
(call (.func 40) [ah a0, ah a1] st6).bind fun r7 =>
(aUn Tryd.prog .not r7.1).bind fun p8 =>
aD p8 fun b9 => (bif b9 then
(aj true 5 q5 r7.2).bind fun p11 =>
(call (.func 46) [ah a0, ah (PV.v (.int .i64 4)), ah p11] r7.2).bind fun r12 =>
aL r12 (fun p13 st14 =>
some (Ex.normal, [q2, q5], st14)) (fun t15 x16 st17 =>
some ((Ex.pan t15 x16), [q2, q5], st17))
else
some (Ex.normal, [q2, q5], r7.2)).bind fun r10 =>
cc r10.1 ((aj true 5 (ae r10.2.1 1) r10.2.2).bind fun p19 =>
(av st.stk.length 5 (ae r10.2.1 0) p19 r10.2.2).bind fun st20 =>
(aj true 5 (ae r10.2.1 0) st20).bind fun p21 =>
fin st.stk.length st.tk.length st.lp.length [p21] st20) fun x18 =>
fE st.stk.length st.tk.length st.lp.length x18 r10.2.2 ((aj true 5 (ae r10.2.1 0) r10.2.2).bind fun p22 =>
fin st.stk.length st.tk.length st.lp.length [p22] r10.2.2)
theorem zZ (a0 a1 : PV) (st : St) : E L (.func 43) [a0, a1] st = S43 (E L) itE a0 a1 st := (bI (by kernel_rfl) Tryd.func43 _ _).trans (by kernel_rfl)
noncomputable def DV (call : bF) (it : bP) (a0 : PV) (st : St) : Option (PV × St) :=
let q2 : PV := .ptr false st.stk.length 0
let st1 := st.push [.v (.int .i64 0), .v (.string ⟨#[]⟩), .v (.int .u64 0), .v (.int .i64 0), .v (.int .i64 0)]
(aE a0).bind fun p3 =>
(an p3 0).bind fun p4 =>
(aj false 1 p4 st1).bind fun p5 =>
bw (st1 = st1) <|
(aE a0).bind fun p6 =>
(an p6 1).bind fun p7 =>
(aj false 1 p7 st1).bind fun p8 =>
bw (st1 = st1) <|
(bN Tryd.prog 85 p5 p8).bind fun p9 =>
(aj true 5 p9 st1).bind fun p10 =>
bw (st1 = st1) <|
let q12 : PV := .ptr false st1.stk.length 0
let st11 := st1.push [.v (.int .i64 0), .v (.string ⟨#[]⟩), .v (.int .u64 0), .v (.int .i64 0), .v (.int .i64 0)]
bw (((aj true 5 p9 st11).bind fun p13 =>
some (Rs.ret p13, st11)) = some (Rs.ret p10, st11)) <|
bw (((aj false 1 p7 st11).bind fun p14 =>
some (Rs.ret p14, st11)) = some (Rs.ret p8, st11)) <|
bw (((aj false 1 p4 st11).bind fun p15 =>
some (Rs.ret p15, st11)) = some (Rs.ret p5, st11)) <|
(av st.stk.length 5 q12 p10 st11).bind fun st16 =>
(an q12 0).bind fun p17 =>
(aj false 1 p17 st16).bind fun p18 =>
(aW Tryd.prog true .neq 120 p18 (PV.v (.int .i64 0))).bind fun p19 =>
aD p19 fun b20 => (bif b20 then
(aE a0).bind fun p22 =>
(an p22 1).bind fun p23 =>
(aj false 1 p23 st16).bind fun p24 =>
(aW Tryd.prog true .add 3 p24 (PV.v (.int .i64 1))).bind fun p25 =>
(aE a0).bind fun p26 =>
(an p26 1).bind fun p27 =>
(av st.stk.length 1 p27 p25 st16).bind fun st28 =>
some (Ex.normal, [q2, q12], st28)
else
some (Ex.normal, [q2, q12], st16)).bind fun r21 =>
cc r21.1 ((aj true 5 (ae r21.2.1 1) r21.2.2).bind fun p30 =>
(av st.stk.length 5 (ae r21.2.1 0) p30 r21.2.2).bind fun st31 =>
(aj true 5 (ae r21.2.1 0) st31).bind fun p32 =>
fin st.stk.length st.tk.length st.lp.length [p32] st31) fun x29 =>
eB x29 ((aj true 5 (ae r21.2.1 0) r21.2.2).bind fun p33 =>
fin st.stk.length st.tk.length st.lp.length [p33] r21.2.2)
theorem Ca (a0 : PV) (st : St) : E L (.func 113) [a0] st = DV (E L) itE a0 st := (bI (by kernel_rfl) Tryd.func113 _ _).trans (by kernel_rfl)
noncomputable def S79 (call : bF) (it : bP) (a0 a1 : PV) (st : St) : Option (PV × St) :=
let q2 : PV := .ptr false st.stk.length 0
let st1 := st.push [.v (.int .i64 0), .v (.string ⟨#[]⟩), .v (.int .u64 0), .v (.int .i64 0), .v (.int .i64 0)]
(call (.func 39) [ah a0] st1).bind fun r3 =>
let q5 : PV := .ptr false r3.2.stk.length 0
let st4 := r3.2.push [.v (.int .i64 0), .v (.string ⟨#[]⟩), .v (.int .u64 0), .v (.int .i64 0), .v (.int .i64 0)]
(av st.stk.length 5 q5 r3.1 st4).bind fun st6 =>
(an q5 0).bind fun p7 =>
(aj false 1 p7 st6).bind fun p8 =>
(aW Tryd.prog false .neq 120 p8 a1).bind fun p9 =>
aD p9 fun b10 => (bif b10 then
(aj true 5 q5 st6).bind fun p12 =>
(call (.func 46) [ah a0, ah (PV.v (.int .i64 4)), ah p12] st6).bind fun r13 =>
aL r13 (fun p14 st15 =>
some (Ex.normal, [a0, q2], st15)) (fun t16 x17 st18 =>
some ((Ex.pan t16 x17), [a0, q2], st18))
else
some (Ex.normal, [a0, q2], st6)).bind fun r11 =>
cc r11.1 ((call (.func 113) [ah (ae r11.2.1 0)] r11.2.2).bind fun r20 =>
(av st.stk.length 5 (ae r11.2.1 1) r20.1 r20.2).bind fun st21 =>
(aj true 5 (ae r11.2.1 1) st21).bind fun p22 =>
fin st.stk.length st.tk.length st.lp.length [p22] st21) fun x19 =>
fE st.stk.length st.tk.length st.lp.length x19 r11.2.2 ((aj true 5 (ae r11.2.1 1) r11.2.2).bind fun p23 =>
fin st.stk.length st.tk.length st.lp.length [p23] r11.2.2)
theorem z6 (a0 a1 : PV) (st : St) : E L (.func 79) [a0, a1] st = S79 (E L) itE a0 a1 st := (bI (by kernel_rfl) Tryd.func79 _ _).trans (by kernel_rfl)
noncomputable def S80.b0 (call : bF) (it : bP) (base lb : Nat) (vs5 : List PV) (st6 : St) : Option (Ex × List PV × St) :=
(aW Tryd.prog true .lss 3 (ae vs5 3) (PV.v (.int .i64 4))).bind fun p7 =>
aD p7 fun b8 => (bif b8 then
some (Ex.normal, [(ae vs5 0), (ae vs5 1), (ae vs5 2), (ae vs5 3)], st6)
else
some ((Ex.exit 0), [(ae vs5 0), (ae vs5 1), (ae vs5 2), (ae vs5 3)], st6)).bind fun r9 =>
cc r9.1 ((dy Tryd.prog 174 (ae r9.2.1 2) (ae r9.2.1 3)).bind fun p11 =>
(aW Tryd.prog true .neq 9 p11 (PV.v (.string ⟨#[]⟩))).bind fun p12 =>
(onG p12 true (
some ((ae r9.2.1 0), r9.2.2)) r9.2.2).bind fun r14 =>
(onG p12 true (
some (p11, r14.2)) r14.2).bind fun r16 =>
(onG p12 true (
(call (.func 40) [ah r14.1, ah r16.1] r16.2).bind fun r19 =>
some (r19.1, r19.2)) r16.2).bind fun r18 =>
(bQ p12 r18.1 (PV.v (.bool false))).bind fun p20 =>
aD p20 fun b21 => (bif b21 then
(bc [(0, 1), (1, 1)] [.v (.int .i64 0), .v (.string ⟨#[]⟩)] [(0, (ae r9.2.1 3))]).bind fun p23 =>
(av base 2 (ae r9.2.1 1) p23 r18.2).bind fun st24 =>
some (Ex.ret, [(ae r9.2.1 0), (ae r9.2.1 1), (ae r9.2.1 2), (ae r9.2.1 3)], st24)
else
some (Ex.normal, [(ae r9.2.1 0), (ae r9.2.1 1), (ae r9.2.1 2), (ae r9.2.1 3)], r18.2)).bind fun r22 =>
cc (Ex.bh 1 r22.1) ((aW Tryd.prog true .add 3 (ae r22.2.1 3) (PV.v (.int .i64 1))).bind fun p26 =>
some (Ex.normal, [(ae r22.2.1 0), (ae r22.2.1 1), (ae r22.2.1 2), p26], r22.2.2)) fun x25 =>
some (x25, [(ae r22.2.1 0), (ae r22.2.1 1), (ae r22.2.1 2), (ae r22.2.1 3)], r22.2.2)) fun x10 =>
some (x10, [(ae r9.2.1 0), (ae r9.2.1 1), (ae r9.2.1 2), (ae r9.2.1 3)], r9.2.2)
noncomputable def S80 (call : bF) (it : bP) (a0 : PV) (st : St) : Option (PV × St) :=
let q2 : PV := .ptr false st.stk.length 0
let st1 := st.push [.v (.int .i64 0), .v (.string ⟨#[]⟩)]
(jJ Tryd.prog 174 [(0, (PV.v (.string ⟨#[]⟩))), (1, (PV.v (.string ⟨#[105, 110, 116]⟩))), (2, (PV.v (.string ⟨#[114, 101, 97, 108]⟩))), (3, (PV.v (.string ⟨#[105, 110, 116, 115]⟩)))]).bind fun p3 =>
(it (S80.b0 call it st.stk.length st.lp.length) [a0, q2, p3, (PV.v (.int .i64 0))] st1).bind fun r4 =>
cc (Ex.bh 0 r4.1) ((call (.func 79) [ah (ae r4.2.1 0), ah (PV.v (.int .i64 1))] r4.2.2).bind fun r28 =>
aL r28 (fun p29 st30 =>
(gd Tryd.prog 122 p29 1).bind fun p34 =>
(bc [(0, 1), (1, 1)] [.v (.int .i64 0), .v (.string ⟨#[]⟩)] [(0, (PV.v (.int .i64 4))), (1, p34)]).bind fun p35 =>
(av st.stk.length 2 (ae r4.2.1 1) p35 st30).bind fun st36 =>
(aj true 2 (ae r4.2.1 1) st36).bind fun p37 =>
fin st.stk.length st.tk.length st.lp.length [p37] st36) (fun t31 x32 st33 =>
some (PV.pan t31 x32, st33.back st.stk.length st.tk.length st.lp.length))) fun x27 =>
fE st.stk.length st.tk.length st.lp.length x27 r4.2.2 ((aj true 2 (ae r4.2.1 1) r4.2.2).bind fun p38 =>
fin st.stk.length st.tk.length st.lp.length [p38] r4.2.2)
theorem qN (a0 : PV) (st : St) : E L (.func 80) [a0] st = S80 (E L) itE a0 st := (bI (by kernel_rfl) Tryd.func80 _ _).trans (by kernel_rfl)
noncomputable def S42 (call : bF) (it : bP) (a0 : PV) (st : St) : Option (PV × St) :=
let q2 : PV := .ptr false st.stk.length 0
let st1 := st.push [.v (.string ⟨#[]⟩), .v (.int .i64 0), .v (.string ⟨#[]⟩), .v (.int .i64 0), .v (.int .i64 0)]
(call (.func 79) [ah a0, ah (PV.v (.int .i64 1))] st1).bind fun r3 =>
aL r3 (fun p4 st5 =>
let q10 : PV := .ptr false st5.stk.length 0
let st9 := st5.push [.v (.int .i64 0), .v (.string ⟨#[]⟩), .v (.int .u64 0), .v (.int .i64 0), .v (.int .i64 0)]
(av st.stk.length 5 q10 p4 st9).bind fun st11 =>
(call (.func 43) [ah a0, ah (PV.v (.string ⟨#[58]⟩))] st11).bind fun r12 =>
aL r12 (fun p13 st14 =>
(an q10 1).bind fun p18 =>
(aj false 1 p18 st14).bind fun p19 =>
bw (st14 = st14) <|
(call (.func 80) [ah a0] st14).bind fun r20 =>
aL r20 (fun p21 st22 =>
bw (((aj false 1 p18 st22).bind fun p26 =>
some (Rs.ret p26, st22)) = some (Rs.ret p19, st22)) <|
(an q10 3).bind fun p27 =>
(aj false 1 p27 st22).bind fun p28 =>
bw (st22 = st22) <|
bw (((aj false 1 p27 st14).bind fun p29 =>
some (Rs.ret p29, st14)) = some (Rs.ret p28, st14)) <|
(an q10 4).bind fun p30 =>
(aj false 1 p30 st22).bind fun p31 =>
bw (st22 = st22) <|
bw (((aj false 1 p30 st14).bind fun p32 =>
some (Rs.ret p32, st14)) = some (Rs.ret p31, st14)) <|
(bc [(0, 1), (1, 2), (3, 1), (4, 1)] [.v (.string ⟨#[]⟩), .v (.int .i64 0), .v (.string ⟨#[]⟩), .v (.int .i64 0), .v (.int .i64 0)] [(0, p19), (1, p21), (2, p28), (3, p31)]).bind fun p33 =>
(av st.stk.length 5 q2 p33 st22).bind fun st34 =>
(aj true 5 q2 st34).bind fun p35 =>
fin st.stk.length st.tk.length st.lp.length [p35] st34) (fun t23 x24 st25 =>
(an q10 3).bind fun p36 =>
(aj false 1 p36 st14).bind fun p37 =>
bw (st14 = st14) <|
(an q10 4).bind fun p38 =>
(aj false 1 p38 st14).bind fun p39 =>
bw (st14 = st14) <|
some (PV.pan t23 x24, st25.back st.stk.length st.tk.length st.lp.length))) (fun t15 x16 st17 =>
some (PV.pan t15 x16, st17.back st.stk.length st.tk.length st.lp.length))) (fun t6 x7 st8 =>
some (PV.pan t6 x7, st8.back st.stk.length st.tk.length st.lp.length))
theorem tn (a0 : PV) (st : St) : E L (.func 42) [a0] st = S42 (E L) itE a0 st := (bI (by kernel_rfl) Tryd.func42 _ _).trans (by kernel_rfl)
noncomputable def S41.b0 (call : bF) (it : bP) (base lb : Nat) (vs29 : List PV) (st30 : St) : Option (Ex × List PV × St) :=
(call (.func 40) [ah (ae vs29 0), ah (PV.v (.string ⟨#[125]⟩))] st30).bind fun r31 =>
(aUn Tryd.prog .not r31.1).bind fun p32 =>
aD p32 fun b33 => (bif b33 then
some (Ex.normal, [(ae vs29 0), (ae vs29 1), (ae vs29 2)], r31.2)
else
some ((Ex.exit 0), [(ae vs29 0), (ae vs29 1), (ae vs29 2)], r31.2)).bind fun r34 =>
cc r34.1 ((an (ae r34.2.1 2) 1).bind fun p36 =>
(aj false 1 p36 r34.2.2).bind fun p37 =>
bw (r34.2.2 = r34.2.2) <|
(call (.func 42) [ah (ae r34.2.1 0)] r34.2.2).bind fun r38 =>
aL r38 (fun p39 st40 =>
bw (((aj false 1 p36 st40).bind fun p44 =>
some (Rs.ret p44, st40)) = some (Rs.ret p37, st40)) <|
(aY 5 [.v (.string ⟨#[]⟩), .v (.int .i64 0), .v (.string ⟨#[]⟩), .v (.int .i64 0), .v (.int .i64 0)] 1 [(0, p39)]).bind fun p45 =>
(cu st40 p45).bind fun ys46 =>
(dX base [.v (.string ⟨#[]⟩), .v (.int .i64 0), .v (.string ⟨#[]⟩), .v (.int .i64 0), .v (.int .i64 0)] 5 56 p37 ys46 st40).bind fun r47 =>
(an (ae r34.2.1 2) 1).bind fun p48 =>
(av base 1 p48 r47.1 r47.2).bind fun st49 =>
(call (.func 43) [ah (ae r34.2.1 0), ah (PV.v (.string ⟨#[59]⟩))] st49).bind fun r50 =>
aL r50 (fun p51 st52 =>
some (Ex.normal, [(ae r34.2.1 0), (ae r34.2.1 1), (ae r34.2.1 2)], st52)) (fun t53 x54 st55 =>
some ((Ex.pan t53 x54), [(ae r34.2.1 0), (ae r34.2.1 1), (ae r34.2.1 2)], st55))) (fun t41 x42 st43 =>
some ((Ex.pan t41 x42), [(ae r34.2.1 0), (ae r34.2.1 1), (ae r34.2.1 2)], st43))) fun x35 =>
some (x35, [(ae r34.2.1 0), (ae r34.2.1 1), (ae r34.2.1 2)], r34.2.2)
noncomputable def S41 (call : bF) (it : bP) (a0 : PV) (st : St) : Option (PV × St) :=
let q2 : PV := .ptr false st.stk.length 0
let st1 := st.push [.v (.string ⟨#[]⟩), .sl [] .nil, .v (.int .i64 0), .v (.int .i64 0)]
(call (.func 79) [ah a0, ah (PV.v (.int .i64 1))] st1).bind fun r3 =>
aL r3 (fun p4 st5 =>
let q10 : PV := .ptr false st5.stk.length 0
let st9 := st5.push [.v (.int .i64 0), .v (.string ⟨#[]⟩), .v (.int .u64 0), .v (.int .i64 0), .v (.int .i64 0)]
(av st.stk.length 5 q10 p4 st9).bind fun st11 =>
(an q10 1).bind fun p12 =>
(aj false 1 p12 st11).bind fun p13 =>
(an q10 3).bind fun p14 =>
(aj false 1 p14 st11).bind fun p15 =>
(an q10 4).bind fun p16 =>
(aj false 1 p16 st11).bind fun p17 =>
(bc [(0, 1), (1, 1), (2, 1), (3, 1)] [.v (.string ⟨#[]⟩), .sl [] .nil, .v (.int .i64 0), .v (.int .i64 0)] [(0, p13), (2, p15), (3, p17)]).bind fun p18 =>
let q20 : PV := .ptr false st11.stk.length 0
let st19 := st11.push [.v (.string ⟨#[]⟩), .sl [] .nil, .v (.int .i64 0), .v (.int .i64 0)]
(av st.stk.length 4 q20 p18 st19).bind fun st21 =>
(call (.func 43) [ah a0, ah (PV.v (.string ⟨#[123]⟩))] st21).bind fun r22 =>
aL r22 (fun p23 st24 =>
(it (S41.b0 call it st.stk.length st.lp.length) [a0, q2, q20] st24).bind fun r28 =>
cc (Ex.bh 0 r28.1) ((aj true 4 (ae r28.2.1 2) r28.2.2).bind fun p57 =>
(av st.stk.length 4 (ae r28.2.1 1) p57 r28.2.2).bind fun st58 =>
(aj true 4 (ae r28.2.1 1) st58).bind fun p59 =>
fin st.stk.length st.tk.length st.lp.length [p59] st58) fun x56 =>
fE st.stk.length st.tk.length st.lp.length x56 r28.2.2 ((aj true 4 (ae r28.2.1 1) r28.2.2).bind fun p60 =>
fin st.stk.length st.tk.length st.lp.length [p60] r28.2.2)) (fun t25 x26 st27 =>
some (PV.pan t25 x26, st27.back st.stk.length st.tk.length st.lp.length))) (fun t6 x7 st8 =>
some (PV.pan t6 x7, st8.back st.stk.length st.tk.length st.lp.length))
theorem tm (a0 : PV) (st : St) : E L (.func 41) [a0] st = S41 (E L) itE a0 st := (bI (by kernel_rfl) Tryd.func41 _ _).trans (by kernel_rfl)
noncomputable def S81 (call : bF) (it : bP) (a0 a1 : PV) (st : St) : Option (PV × St) :=
(cellsOf a1).bind fun b1 =>
let q3 : PV := .ptr false st.stk.length 0
let st2 := st.push b1
(aE a0).bind fun p4 =>
(an p4 2).bind fun p5 =>
(aj false 1 p5 st2).bind fun p6 =>
(aW Tryd.prog true .add 3 p6 (PV.v (.int .i64 1))).bind fun p7 =>
(aE a0).bind fun p8 =>
(an p8 2).bind fun p9 =>
(av st.stk.length 1 p9 p7 st2).bind fun st10 =>
(aE a0).bind fun p11 =>
(an p11 2).bind fun p12 =>
(aj false 1 p12 st10).bind fun p13 =>
(aW Tryd.prog true .gtr 3 p13 (PV.v (.int .i64 12))).bind fun p14 =>
aD p14 fun b15 => (bif b15 then
(aj true 5 q3 st10).bind fun p17 =>
(call (.func 46) [ah a0, ah (PV.v (.int .i64 10)), ah p17] st10).bind fun r18 =>
aL r18 (fun p19 st20 =>
some (Ex.normal, ([] : List PV), st20)) (fun t21 x22 st23 =>
some ((Ex.pan t21 x22), ([] : List PV), st23))
else
some (Ex.normal, ([] : List PV), st10)).bind fun r16 =>
fE st.stk.length st.tk.length st.lp.length r16.1 r16.2.2 (fin st.stk.length st.tk.length st.lp.length [] r16.2.2)
theorem z7 (a0 a1 : PV) (st : St) : E L (.func 81) [a0, a1] st = S81 (E L) itE a0 a1 st := (bI (by kernel_rfl) Tryd.func81 _ _).trans (by kernel_rfl)
noncomputable def Cb (call : bF) (it : bP) (a0 a1 : PV) (st : St) : Option (PV × St) :=
(cellsOf a1).bind fun b1 =>
let q3 : PV := .ptr false st.stk.length 0
let st2 := st.push b1
let q5 : PV := .ptr false st2.stk.length 0
let st4 := st2.push [.v (.int .i64 0), .v (.string ⟨#[]⟩), .v (.int .i64 0), .v (.int .i64 0), .v (.int .i64 0), .v (.int .u64 0), .v (.int .i64 0), .v (.string ⟨#[]⟩), .v (.string ⟨#[]⟩), .sl [] .nil, .v (.int .i64 0), .v (.int .i64 0), .v (.int .i64 0), .v (.string ⟨#[]⟩), .v (.string ⟨#[]⟩), .v (.int .i64 0), .v (.int .i64 0), .v (.int .u64 0), .v (.int .i64 0), .v (.string ⟨#[]⟩), .v (.string ⟨#[]⟩), .sl [] .nil, .v (.int .i64 0), .v (.int .i64 0), .v (.int .i64 0), .v (.int .i64 0), .v (.string ⟨#[]⟩), .v (.int .i64 0), .v (.int .i64 0), .v (.int .i64 0), .v (.string ⟨#[]⟩), .v (.string ⟨#[]⟩), .v (.int .i64 0), .v (.int .i64 0), .v (.int .u64 0), .v (.int .i64 0), .v (.string ⟨#[]⟩), .v (.string ⟨#[]⟩), .sl [] .nil, .v (.int .i64 0), .v (.int .i64 0), .v (.int .i64 0), .v (.int .i64 0), .v (.int .i64 0), .v (.int .i64 0), .v (.int .u64 0), .v (.int .i64 0), .v (.string ⟨#[]⟩), .v (.string ⟨#[]⟩), .sl [] .nil, .v (.int .i64 0), .v (.int .i64 0), .v (.int .i64 0), .sl [] .nil, .sl [] .nil, .sl [] .nil, .v (.int .i64 0), .v (.int .i64 0)]
(an q3 0).bind fun p6 =>
(av st.stk.length 1 p6 (PV.v (.int .i64 7)) st4).bind fun st7 =>
(call (.func 79) [ah a0, ah (PV.v (.int .i64 3))] st7).bind fun r8 =>
aL r8 (fun p9 st10 =>
(gd Tryd.prog 122 p9 2).bind fun p14 =>
(eZ Tryd.prog 45 3 p14).bind fun p15 =>
(an q3 52).bind fun p16 =>
(av st.stk.length 1 p16 p15 st10).bind fun st17 =>
(call (.func 45) [ah a0] st17).bind fun r18 =>
aL r18 (fun p19 st20 =>
(an q3 54).bind fun p24 =>
(av st.stk.length 1 p24 p19 st20).bind fun st25 =>
(aj true 58 q3 st25).bind fun p26 =>
(av st.stk.length 58 q5 p26 st25).bind fun st27 =>
(aj true 58 q5 st27).bind fun p28 =>
fin st.stk.length st.tk.length st.lp.length [p28] st27) (fun t21 x22 st23 =>
some (PV.pan t21 x22, st23.back st.stk.length st.tk.length st.lp.length))) (fun t11 x12 st13 =>
some (PV.pan t11 x12, st13.back st.stk.length st.tk.length st.lp.length))
theorem tj (a0 a1 : PV) (st : St) : E L (.func 115) [a0, a1] st = Cb (E L) itE a0 a1 st := (bI (by kernel_rfl) Tryd.func115 _ _).trans (by kernel_rfl)
noncomputable def zX (call : bF) (it : bP) (a0 : PV) (st : St) : Option (PV × St) :=
(aW Tryd.prog true .eql 9 a0 (PV.v (.string ⟨#[45]⟩))).bind fun p1 =>
aD p1 fun b2 => (bif b2 then
some (Ex.ret, [(PV.v (.int .i64 6))], st)
else
(aW Tryd.prog true .eql 9 a0 (PV.v (.string ⟨#[114, 101, 97, 108]⟩))).bind fun p4 =>
aD p4 fun b5 => (bif b5 then
some (Ex.ret, [(PV.v (.int .i64 7))], st)
else
(aW Tryd.prog true .eql 9 a0 (PV.v (.string ⟨#[116, 114, 117, 110, 99]⟩))).bind fun p7 =>
aD p7 fun b8 => (bif b8 then
some (Ex.ret, [(PV.v (.int .i64 8))], st)
else
some (Ex.normal, [(PV.v (.int .i64 0))], st)).bind fun r9 =>
some (r9.1, [(ae r9.2.1 0)], r9.2.2)).bind fun r6 =>
some (r6.1, [(ae r6.2.1 0)], r6.2.2)).bind fun r3 =>
cc (Ex.bh 0 r3.1) (fin st.stk.length st.tk.length st.lp.length [(PV.v (.int .i64 0))] r3.2.2) fun x10 =>
eB x10 (fin st.stk.length st.tk.length st.lp.length [(ae r3.2.1 0)] r3.2.2)
theorem Ch (a0 : PV) (st : St) : E L (.func 170) [a0] st = zX (E L) itE a0 st := (bI (by kernel_rfl) Tryd.func170 _ _).trans (by kernel_rfl)
noncomputable def nu (call : bF) (it : bP) (a0 : PV) (st : St) : Option (PV × St) :=
let q2 : PV := .ptr false st.stk.length 0
let st1 := st.push [.v (.int .i64 0), .v (.int .i64 0), .v (.int .u64 0), .v (.int .i64 0), .v (.string ⟨#[]⟩), .v (.string ⟨#[]⟩), .sl [] .nil, .v (.int .i64 0), .v (.int .i64 0)]
(call (.func 113) [ah a0] st1).bind fun r3 =>
let q5 : PV := .ptr false r3.2.stk.length 0
let st4 := r3.2.push [.v (.int .i64 0), .v (.string ⟨#[]⟩), .v (.int .u64 0), .v (.int .i64 0), .v (.int .i64 0)]
(av st.stk.length 5 q5 r3.1 st4).bind fun st6 =>
(an q5 3).bind fun p7 =>
(aj false 1 p7 st6).bind fun p8 =>
(an q5 4).bind fun p9 =>
(aj false 1 p9 st6).bind fun p10 =>
(bc [(0, 1), (1, 1), (2, 1), (3, 2), (5, 1), (6, 1), (7, 1), (8, 1)] [.v (.int .i64 0), .v (.int .i64 0), .v (.int .u64 0), .v (.int .i64 0), .v (.string ⟨#[]⟩), .v (.string ⟨#[]⟩), .sl [] .nil, .v (.int .i64 0), .v (.int .i64 0)] [(6, p8), (7, p10)]).bind fun p11 =>
let q13 : PV := .ptr false st6.stk.length 0
let st12 := st6.push [.v (.int .i64 0), .v (.int .i64 0), .v (.int .u64 0), .v (.int .i64 0), .v (.string ⟨#[]⟩), .v (.string ⟨#[]⟩), .sl [] .nil, .v (.int .i64 0), .v (.int .i64 0)]
(av st.stk.length 9 q13 p11 st12).bind fun st14 =>
(an q5 0).bind fun p15 =>
(aj false 1 p15 st14).bind fun p16 =>
(aW Tryd.prog true .eql 120 p16 (PV.v (.int .i64 3))).bind fun p17 =>
aD p17 fun b18 => (bif b18 then
(an q5 2).bind fun p20 =>
(aj false 1 p20 st14).bind fun p21 =>
bw (st14 = st14) <|
(an q13 0).bind fun p22 =>
(av st.stk.length 1 p22 (PV.v (.int .i64 1)) st14).bind fun st23 =>
bw (((aj false 1 p20 st23).bind fun p24 =>
some (Rs.ret p24, st23)) = some (Rs.ret p21, st23)) <|
(an q13 2).bind fun p25 =>
(av st.stk.length 1 p25 p21 st23).bind fun st26 =>
some (Ex.normal, [q2, q13], st26)
else
(an q5 0).bind fun p27 =>
(aj false 1 p27 st14).bind fun p28 =>
(aW Tryd.prog true .eql 120 p28 (PV.v (.int .i64 4))).bind fun p29 =>
aD p29 fun b30 => (bif b30 then
(an q5 2).bind fun p32 =>
(aj false 1 p32 st14).bind fun p33 =>
bw (st14 = st14) <|
(an q13 0).bind fun p34 =>
(av st.stk.length 1 p34 (PV.v (.int .i64 2)) st14).bind fun st35 =>
bw (((aj false 1 p32 st35).bind fun p36 =>
some (Rs.ret p36, st35)) = some (Rs.ret p33, st35)) <|
(an q13 2).bind fun p37 =>
(av st.stk.length 1 p37 p33 st35).bind fun st38 =>
some (Ex.normal, [q2, q13], st38)
else
(an q5 0).bind fun p39 =>
(aj false 1 p39 st14).bind fun p40 =>
(aW Tryd.prog true .eql 120 p40 (PV.v (.int .i64 1))).bind fun p41 =>
aD p41 fun b42 => (bif b42 then
(an q5 1).bind fun p44 =>
(aj false 1 p44 st14).bind fun p45 =>
bw (st14 = st14) <|
(an q13 0).bind fun p46 =>
(av st.stk.length 1 p46 (PV.v (.int .i64 5)) st14).bind fun st47 =>
bw (((aj false 1 p44 st47).bind fun p48 =>
some (Rs.ret p48, st47)) = some (Rs.ret p45, st47)) <|
(an q13 5).bind fun p49 =>
(av st.stk.length 1 p49 p45 st47).bind fun st50 =>
some (Ex.normal, [q2, q13], st50)
else
(an q5 0).bind fun p51 =>
(aj false 1 p51 st14).bind fun p52 =>
(aW Tryd.prog true .eql 120 p52 (PV.v (.int .i64 2))).bind fun p53 =>
(onG p53 true (
(an q5 1).bind fun p56 =>
some (p56, st14)) st14).bind fun r55 =>
(onG p53 true (
(aj false 1 r55.1 r55.2).bind fun p59 =>
some (p59, r55.2)) r55.2).bind fun r58 =>
(onG p53 true (
(aW Tryd.prog true .eql 9 r58.1 (PV.v (.string ⟨#[105, 110, 112, 117, 116]⟩))).bind fun p62 =>
some (p62, r58.2)) r58.2).bind fun r61 =>
(bQ p53 r61.1 (PV.v (.bool false))).bind fun p63 =>
aD p63 fun b64 => (bif b64 then
(call (.func 79) [ah a0, ah (PV.v (.int .i64 3))] r61.2).bind fun r66 =>
aL r66 (fun p67 st68 =>
(gd Tryd.prog 122 p67 2).bind fun p72 =>
(an q13 0).bind fun p73 =>
(av st.stk.length 1 p73 (PV.v (.int .i64 4)) st68).bind fun st74 =>
(an q13 2).bind fun p75 =>
(av st.stk.length 1 p75 p72 st74).bind fun st76 =>
some (Ex.normal, [q2, q13], st76)) (fun t69 x70 st71 =>
some ((Ex.pan t69 x70), [q2, q13], st71))
else
(an q5 0).bind fun p77 =>
(aj false 1 p77 r61.2).bind fun p78 =>
(aW Tryd.prog true .eql 120 p78 (PV.v (.int .i64 2))).bind fun p79 =>
(onG p79 true (
(an q5 1).bind fun p82 =>
some (p82, r61.2)) r61.2).bind fun r81 =>
(onG p79 true (
(aj false 1 r81.1 r81.2).bind fun p85 =>
some (p85, r81.2)) r81.2).bind fun r84 =>
(onG p79 true (
(aW Tryd.prog true .eql 9 r84.1 (PV.v (.string ⟨#[110, 105, 108]⟩))).bind fun p88 =>
some (p88, r84.2)) r84.2).bind fun r87 =>
(bQ p79 r87.1 (PV.v (.bool false))).bind fun p89 =>
aD p89 fun b90 => (bif b90 then
(bc [(0, 1), (1, 1)] [.v (.int .i64 0), .v (.string ⟨#[]⟩)] [(0, (PV.v (.int .i64 3)))]).bind fun p92 =>
(an q13 0).bind fun p93 =>
(av st.stk.length 1 p93 (PV.v (.int .i64 3)) r87.2).bind fun st94 =>
(an q13 3).bind fun p95 =>
(av st.stk.length 2 p95 p92 st94).bind fun st96 =>
(call (.func 40) [ah a0, ah (PV.v (.string ⟨#[105, 110, 116, 115]⟩))] st96).bind fun r97 =>
(aUn Tryd.prog .not r97.1).bind fun p98 =>
aD p98 fun b99 => (bif b99 then
(call (.func 79) [ah a0, ah (PV.v (.int .i64 1))] r97.2).bind fun r101 =>
aL r101 (fun p102 st103 =>
(gd Tryd.prog 122 p102 1).bind fun p107 =>
(bc [(0, 1), (1, 1)] [.v (.int .i64 0), .v (.string ⟨#[]⟩)] [(0, (PV.v (.int .i64 4))), (1, p107)]).bind fun p108 =>
(an q13 3).bind fun p109 =>
(av st.stk.length 2 p109 p108 st103).bind fun st110 =>
some (Ex.normal, [q2, q13], st110)) (fun t104 x105 st106 =>
some ((Ex.pan t104 x105), [q2, q13], st106))
else
some (Ex.normal, [q2, q13], r97.2)).bind fun r100 =>
some (r100.1, [(ae r100.2.1 0), (ae r100.2.1 1)], r100.2.2)
else
(an q5 0).bind fun p111 =>
(aj false 1 p111 r87.2).bind fun p112 =>
(aW Tryd.prog true .eql 120 p112 (PV.v (.int .i64 5))).bind fun p113 =>
(onG p113 true (
(an q5 1).bind fun p116 =>
some (p116, r87.2)) r87.2).bind fun r115 =>
(onG p113 true (
(aj false 1 r115.1 r115.2).bind fun p119 =>
some (p119, r115.2)) r115.2).bind fun r118 =>
(onG p113 true (
(aW Tryd.prog true .eql 9 r118.1 (PV.v (.string ⟨#[40]⟩))).bind fun p122 =>
some (p122, r118.2)) r118.2).bind fun r121 =>
(bQ p113 r121.1 (PV.v (.bool false))).bind fun p123 =>
aD p123 fun b124 => (bif b124 then
(aj true 5 q5 r121.2).bind fun p126 =>
(call (.func 81) [ah a0, ah p126] r121.2).bind fun r127 =>
aL r127 (fun p128 st129 =>
(call (.func 119) [ah a0] st129).bind fun r133 =>
aL r133 (fun p134 st135 =>
(av st.stk.length 9 q13 p134 st135).bind fun st139 =>
(call (.func 43) [ah a0, ah (PV.v (.string ⟨#[41]⟩))] st139).bind fun r140 =>
aL r140 (fun p141 st142 =>
(aE a0).bind fun p146 =>
(an p146 2).bind fun p147 =>
(aj false 1 p147 st142).bind fun p148 =>
(aW Tryd.prog true .sub 3 p148 (PV.v (.int .i64 1))).bind fun p149 =>
(aE a0).bind fun p150 =>
(an p150 2).bind fun p151 =>
(av st.stk.length 1 p151 p149 st142).bind fun st152 =>
some (Ex.normal, [q2, q13], st152)) (fun t143 x144 st145 =>
some ((Ex.pan t143 x144), [q2, q13], st145))) (fun t136 x137 st138 =>
some ((Ex.pan t136 x137), [q2, q13], st138))) (fun t130 x131 st132 =>
some ((Ex.pan t130 x131), [q2, q13], st132))
else
(aj true 5 q5 r121.2).bind fun p153 =>
(call (.func 46) [ah a0, ah (PV.v (.int .i64 4)), ah p153] r121.2).bind fun r154 =>
aL r154 (fun p155 st156 =>
some (Ex.normal, [q2, q13], st156)) (fun t157 x158 st159 =>
some ((Ex.pan t157 x158), [q2, q13], st159))).bind fun r125 =>
some (r125.1, [(ae r125.2.1 0), (ae r125.2.1 1)], r125.2.2)).bind fun r91 =>
some (r91.1, [(ae r91.2.1 0), (ae r91.2.1 1)], r91.2.2)).bind fun r65 =>
some (r65.1, [(ae r65.2.1 0), (ae r65.2.1 1)], r65.2.2)).bind fun r43 =>
some (r43.1, [(ae r43.2.1 0), (ae r43.2.1 1)], r43.2.2)).bind fun r31 =>
some (r31.1, [(ae r31.2.1 0), (ae r31.2.1 1)], r31.2.2)).bind fun r19 =>
cc (Ex.bh 0 r19.1) ((aj true 9 (ae r19.2.1 1) r19.2.2).bind fun p161 =>
(av st.stk.length 9 (ae r19.2.1 0) p161 r19.2.2).bind fun st162 =>
(aj true 9 (ae r19.2.1 0) st162).bind fun p163 =>
fin st.stk.length st.tk.length st.lp.length [p163] st162) fun x160 =>
fE st.stk.length st.tk.length st.lp.length x160 r19.2.2 ((aj true 9 (ae r19.2.1 0) r19.2.2).bind fun p164 =>
fin st.stk.length st.tk.length st.lp.length [p164] r19.2.2)
theorem gU (a0 : PV) (st : St) : E L (.func 171) [a0] st = nu (E L) itE a0 st := (bI (by kernel_rfl) Tryd.func171 _ _).trans (by kernel_rfl)
noncomputable def ph (call : bF) (it : bP) (a0 : PV) (st : St) : Option (PV × St) :=
let q2 : PV := .ptr false st.stk.length 0
let st1 := st.push [.v (.int .i64 0), .v (.int .i64 0), .v (.int .u64 0), .v (.int .i64 0), .v (.string ⟨#[]⟩), .v (.string ⟨#[]⟩), .sl [] .nil, .v (.int .i64 0), .v (.int .i64 0)]
(call (.func 39) [ah a0] st1).bind fun r3 =>
let q5 : PV := .ptr false r3.2.stk.length 0
let st4 := r3.2.push [.v (.int .i64 0), .v (.string ⟨#[]⟩), .v (.int .u64 0), .v (.int .i64 0), .v (.int .i64 0)]
(av st.stk.length 5 q5 r3.1 st4).bind fun st6 =>
(an q5 0).bind fun p7 =>
(aj false 1 p7 st6).bind fun p8 =>
(aW Tryd.prog true .eql 120 p8 (PV.v (.int .i64 2))).bind fun p9 =>
(onG p9 false (
(an q5 0).bind fun p12 =>
some (p12, st6)) st6).bind fun r11 =>
(onG p9 false (
(aj false 1 r11.1 r11.2).bind fun p15 =>
some (p15, r11.2)) r11.2).bind fun r14 =>
(onG p9 false (
(aW Tryd.prog true .eql 120 r14.1 (PV.v (.int .i64 5))).bind fun p18 =>
some (p18, r14.2)) r14.2).bind fun r17 =>
(bQ p9 (PV.v (.bool true)) r17.1).bind fun p19 =>
aD p19 fun b20 => (bif b20 then
(an q5 1).bind fun p22 =>
(aj false 1 p22 r17.2).bind fun p23 =>
(call (.func 170) [ah p23] r17.2).bind fun r24 =>
some (Ex.normal, [a0, q2, q5, r24.1], r24.2)
else
some (Ex.normal, [a0, q2, q5, (PV.v (.int .i64 0))], r17.2)).bind fun r21 =>
cc r21.1 ((aW Tryd.prog true .eql 3 (ae r21.2.1 3) (PV.v (.int .i64 0))).bind fun p26 =>
aD p26 fun b27 => (bif b27 then
(call (.func 171) [ah (ae r21.2.1 0)] r21.2.2).bind fun r29 =>
aL r29 (fun p30 st31 =>
(av st.stk.length 9 (ae r21.2.1 1) p30 st31).bind fun st35 =>
some (Ex.ret, [(ae r21.2.1 0), (ae r21.2.1 1), (ae r21.2.1 2), (ae r21.2.1 3)], st35)) (fun t32 x33 st34 =>
some ((Ex.pan t32 x33), [(ae r21.2.1 0), (ae r21.2.1 1), (ae r21.2.1 2), (ae r21.2.1 3)], st34))
else
some (Ex.normal, [(ae r21.2.1 0), (ae r21.2.1 1), (ae r21.2.1 2), (ae r21.2.1 3)], r21.2.2)).bind fun r28 =>
cc r28.1 ((call (.func 113) [ah (ae r28.2.1 0)] r28.2.2).bind fun r37 =>
(aj true 5 (ae r28.2.1 2) r37.2).bind fun p38 =>
(call (.func 81) [ah (ae r28.2.1 0), ah p38] r37.2).bind fun r39 =>
aL r39 (fun p40 st41 =>
(call (.func 155) [ah (ae r28.2.1 0)] st41).bind fun r45 =>
aL r45 (fun p46 st47 =>
bw (((call (.func 155) [ah (ae r28.2.1 0)] (St.push st41 [.v (.int .i64 0), .v (.int .i64 0), .v (.int .u64 0), .v (.int .i64 0), .v (.string ⟨#[]⟩), .v (.string ⟨#[]⟩), .sl [] .nil, .v (.int .i64 0), .v (.int .i64 0)])).bind fun r51 =>
aL r51 (fun p52 st53 =>
some (Rs.ret p52, st53)) (fun t54 x55 st56 =>
some (Rs.pan t54 x55, st56))) = some (Rs.ret p46, (St.push st47 [.v (.int .i64 0), .v (.int .i64 0), .v (.int .u64 0), .v (.int .i64 0), .v (.string ⟨#[]⟩), .v (.string ⟨#[]⟩), .sl [] .nil, .v (.int .i64 0), .v (.int .i64 0)]))) <|
bw (st47.stk.length = st41.stk.length) <|
(aY 9 [.v (.int .i64 0), .v (.int .i64 0), .v (.int .u64 0), .v (.int .i64 0), .v (.string ⟨#[]⟩), .v (.string ⟨#[]⟩), .sl [] .nil, .v (.int .i64 0), .v (.int .i64 0)] 1 [(0, p46)]).bind fun p57 =>
(an (ae r28.2.1 2) 3).bind fun p58 =>
(aj false 1 p58 st47).bind fun p59 =>
bw (st47 = st47) <|
bw (((aj false 1 p58 (St.push st47 [.v (.int .i64 0), .v (.int .i64 0), .v (.int .u64 0), .v (.int .i64 0), .v (.string ⟨#[]⟩), .v (.string ⟨#[]⟩), .sl [] .nil, .v (.int .i64 0), .v (.int .i64 0)])).bind fun p60 =>
some (Rs.ret p60, (St.push st47 [.v (.int .i64 0), .v (.int .i64 0), .v (.int .u64 0), .v (.int .i64 0), .v (.string ⟨#[]⟩), .v (.string ⟨#[]⟩), .sl [] .nil, .v (.int .i64 0), .v (.int .i64 0)]))) = some (Rs.ret p59, (St.push st47 [.v (.int .i64 0), .v (.int .i64 0), .v (.int .u64 0), .v (.int .i64 0), .v (.string ⟨#[]⟩), .v (.string ⟨#[]⟩), .sl [] .nil, .v (.int .i64 0), .v (.int .i64 0)]))) <|
bw (((aj false 1 p58 st41).bind fun p61 =>
some (Rs.ret p61, st41)) = some (Rs.ret p59, st41)) <|
bw (((aj false 1 p58 (St.push st41 [.v (.int .i64 0), .v (.int .i64 0), .v (.int .u64 0), .v (.int .i64 0), .v (.string ⟨#[]⟩), .v (.string ⟨#[]⟩), .sl [] .nil, .v (.int .i64 0), .v (.int .i64 0)])).bind fun p62 =>
some (Rs.ret p62, (St.push st41 [.v (.int .i64 0), .v (.int .i64 0), .v (.int .u64 0), .v (.int .i64 0), .v (.string ⟨#[]⟩), .v (.string ⟨#[]⟩), .sl [] .nil, .v (.int .i64 0), .v (.int .i64 0)]))) = some (Rs.ret p59, (St.push st41 [.v (.int .i64 0), .v (.int .i64 0), .v (.int .u64 0), .v (.int .i64 0), .v (.string ⟨#[]⟩), .v (.string ⟨#[]⟩), .sl [] .nil, .v (.int .i64 0), .v (.int .i64 0)]))) <|
(an (ae r28.2.1 2) 4).bind fun p63 =>
(aj false 1 p63 st47).bind fun p64 =>
bw (st47 = st47) <|
bw (((aj false 1 p63 (St.push st47 [.v (.int .i64 0), .v (.int .i64 0), .v (.int .u64 0), .v (.int .i64 0), .v (.string ⟨#[]⟩), .v (.string ⟨#[]⟩), .sl [] .nil, .v (.int .i64 0), .v (.int .i64 0)])).bind fun p65 =>
some (Rs.ret p65, (St.push st47 [.v (.int .i64 0), .v (.int .i64 0), .v (.int .u64 0), .v (.int .i64 0), .v (.string ⟨#[]⟩), .v (.string ⟨#[]⟩), .sl [] .nil, .v (.int .i64 0), .v (.int .i64 0)]))) = some (Rs.ret p64, (St.push st47 [.v (.int .i64 0), .v (.int .i64 0), .v (.int .u64 0), .v (.int .i64 0), .v (.string ⟨#[]⟩), .v (.string ⟨#[]⟩), .sl [] .nil, .v (.int .i64 0), .v (.int .i64 0)]))) <|
bw (((aj false 1 p63 st41).bind fun p66 =>
some (Rs.ret p66, st41)) = some (Rs.ret p64, st41)) <|
bw (((aj false 1 p63 (St.push st41 [.v (.int .i64 0), .v (.int .i64 0), .v (.int .u64 0), .v (.int .i64 0), .v (.string ⟨#[]⟩), .v (.string ⟨#[]⟩), .sl [] .nil, .v (.int .i64 0), .v (.int .i64 0)])).bind fun p67 =>
some (Rs.ret p67, (St.push st41 [.v (.int .i64 0), .v (.int .i64 0), .v (.int .u64 0), .v (.int .i64 0), .v (.string ⟨#[]⟩), .v (.string ⟨#[]⟩), .sl [] .nil, .v (.int .i64 0), .v (.int .i64 0)]))) = some (Rs.ret p64, (St.push st41 [.v (.int .i64 0), .v (.int .i64 0), .v (.int .u64 0), .v (.int .i64 0), .v (.string ⟨#[]⟩), .v (.string ⟨#[]⟩), .sl [] .nil, .v (.int .i64 0), .v (.int .i64 0)]))) <|
(bc [(0, 1), (1, 1), (2, 1), (3, 2), (5, 1), (6, 1), (7, 1), (8, 1)] [.v (.int .i64 0), .v (.int .i64 0), .v (.int .u64 0), .v (.int .i64 0), .v (.string ⟨#[]⟩), .v (.string ⟨#[]⟩), .sl [] .nil, .v (.int .i64 0), .v (.int .i64 0)] [(0, (ae r28.2.1 3)), (5, p57), (6, p59), (7, p64)]).bind fun p68 =>
(av st.stk.length 9 (PV.ptr false st41.stk.length 0) p68 (St.push st47 [.v (.int .i64 0), .v (.int .i64 0), .v (.int .u64 0), .v (.int .i64 0), .v (.string ⟨#[]⟩), .v (.string ⟨#[]⟩), .sl [] .nil, .v (.int .i64 0), .v (.int .i64 0)])).bind fun st69 =>
(aE (ae r28.2.1 0)).bind fun p70 =>
(an p70 2).bind fun p71 =>
(aj false 1 p71 st69).bind fun p72 =>
(aW Tryd.prog true .sub 3 p72 (PV.v (.int .i64 1))).bind fun p73 =>
(aE (ae r28.2.1 0)).bind fun p74 =>
(an p74 2).bind fun p75 =>
(av st.stk.length 1 p75 p73 st69).bind fun st76 =>
(aj true 9 (PV.ptr false st41.stk.length 0) st76).bind fun p77 =>
(av st.stk.length 9 (ae r28.2.1 1) p77 st76).bind fun st78 =>
(aj true 9 (ae r28.2.1 1) st78).bind fun p79 =>
fin st.stk.length st.tk.length st.lp.length [p79] st78) (fun t48 x49 st50 =>
bw (((call (.func 155) [ah (ae r28.2.1 0)] (St.push st41 [.v (.int .i64 0), .v (.int .i64 0), .v (.int .u64 0), .v (.int .i64 0), .v (.string ⟨#[]⟩), .v (.string ⟨#[]⟩), .sl [] .nil, .v (.int .i64 0), .v (.int .i64 0)])).bind fun r81 =>
aL r81 (fun p82 st83 =>
some (Rs.ret p82, st83)) (fun t84 x85 st86 =>
some (Rs.pan t84 x85, st86))) = some (Rs.pan t48 x49, (St.push st50 [.v (.int .i64 0), .v (.int .i64 0), .v (.int .u64 0), .v (.int .i64 0), .v (.string ⟨#[]⟩), .v (.string ⟨#[]⟩), .sl [] .nil, .v (.int .i64 0), .v (.int .i64 0)]))) <|
(some (PV.pan t48 x49, st50.back st.stk.length st.tk.length st.lp.length)).bind fun r80 =>
bw ((some (PV.pan t48 x49, (St.push st50 [.v (.int .i64 0), .v (.int .i64 0), .v (.int .u64 0), .v (.int .i64 0), .v (.string ⟨#[]⟩), .v (.string ⟨#[]⟩), .sl [] .nil, .v (.int .i64 0), .v (.int .i64 0)]).back st.stk.length st.tk.length st.lp.length)) = some r80) <|
(an (ae r28.2.1 2) 3).bind fun p87 =>
(aj false 1 p87 st41).bind fun p88 =>
bw (st41 = st41) <|
bw (((aj false 1 p87 (St.push st41 [.v (.int .i64 0), .v (.int .i64 0), .v (.int .u64 0), .v (.int .i64 0), .v (.string ⟨#[]⟩), .v (.string ⟨#[]⟩), .sl [] .nil, .v (.int .i64 0), .v (.int .i64 0)])).bind fun p89 =>
some (Rs.ret p89, (St.push st41 [.v (.int .i64 0), .v (.int .i64 0), .v (.int .u64 0), .v (.int .i64 0), .v (.string ⟨#[]⟩), .v (.string ⟨#[]⟩), .sl [] .nil, .v (.int .i64 0), .v (.int .i64 0)]))) = some (Rs.ret p88, (St.push st41 [.v (.int .i64 0), .v (.int .i64 0), .v (.int .u64 0), .v (.int .i64 0), .v (.string ⟨#[]⟩), .v (.string ⟨#[]⟩), .sl [] .nil, .v (.int .i64 0), .v (.int .i64 0)]))) <|
(an (ae r28.2.1 2) 4).bind fun p90 =>
(aj false 1 p90 st41).bind fun p91 =>
bw (st41 = st41) <|
bw (((aj false 1 p90 (St.push st41 [.v (.int .i64 0), .v (.int .i64 0), .v (.int .u64 0), .v (.int .i64 0), .v (.string ⟨#[]⟩), .v (.string ⟨#[]⟩), .sl [] .nil, .v (.int .i64 0), .v (.int .i64 0)])).bind fun p92 =>
some (Rs.ret p92, (St.push st41 [.v (.int .i64 0), .v (.int .i64 0), .v (.int .u64 0), .v (.int .i64 0), .v (.string ⟨#[]⟩), .v (.string ⟨#[]⟩), .sl [] .nil, .v (.int .i64 0), .v (.int .i64 0)]))) = some (Rs.ret p91, (St.push st41 [.v (.int .i64 0), .v (.int .i64 0), .v (.int .u64 0), .v (.int .i64 0), .v (.string ⟨#[]⟩), .v (.string ⟨#[]⟩), .sl [] .nil, .v (.int .i64 0), .v (.int .i64 0)]))) <|
some r80)) (fun t42 x43 st44 =>
some (PV.pan t42 x43, st44.back st.stk.length st.tk.length st.lp.length))) fun x36 =>
fE st.stk.length st.tk.length st.lp.length x36 r28.2.2 ((aj true 9 (ae r28.2.1 1) r28.2.2).bind fun p93 =>
fin st.stk.length st.tk.length st.lp.length [p93] r28.2.2)) fun x25 =>
fE st.stk.length st.tk.length st.lp.length x25 r21.2.2 ((aj true 9 (ae r21.2.1 1) r21.2.2).bind fun p94 =>
fin st.stk.length st.tk.length st.lp.length [p94] r21.2.2)
theorem lB (a0 : PV) (st : St) : E L (.func 155) [a0] st = ph (E L) itE a0 st := (bI (by kernel_rfl) Tryd.func155 _ _).trans (by kernel_rfl)
noncomputable def Cd (call : bF) (it : bP) (a0 : PV) (st : St) : Option (PV × St) :=
(jJ Tryd.prog 173 [(0, (PV.v (.string ⟨#[32, 61, 61, 32, 33, 61, 32, 60, 32, 60, 61, 32]⟩))), (1, (PV.v (.string ⟨#[32, 43, 32, 45, 32]⟩))), (2, (PV.v (.string ⟨#[32, 42, 32, 47, 32, 37, 32]⟩)))]).bind fun p1 =>
(dy Tryd.prog 173 p1 a0).bind fun p2 =>
fin st.stk.length st.tk.length st.lp.length [p2] st
theorem Ce (a0 : PV) (st : St) : E L (.func 156) [a0] st = Cd (E L) itE a0 st := (bI (by kernel_rfl) Tryd.func156 _ _).trans (by kernel_rfl)
noncomputable def eN.b0 (call : bF) (it : bP) (base lb : Nat) (vs3 : List PV) (st4 : St) : Option (Ex × List PV × St) :=
(aW Tryd.prog true .lss 3 (ae vs3 3) (PV.v (.int .i64 9))).bind fun p5 =>
aD p5 fun b6 => (bif b6 then
some (Ex.normal, [(ae vs3 0), (ae vs3 1), (ae vs3 2), (ae vs3 3)], st4)
else
some ((Ex.exit 0), [(ae vs3 0), (ae vs3 1), (ae vs3 2), (ae vs3 3)], st4)).bind fun r7 =>
cc r7.1 ((dy Tryd.prog 182 (ae r7.2.1 2) (ae r7.2.1 3)).bind fun p9 =>
(aW Tryd.prog false .eql 9 p9 (ae r7.2.1 0)).bind fun p10 =>
aD p10 fun b11 => (bif b11 then
some (Ex.ret, [(ae r7.2.1 0), (ae r7.2.1 3), (ae r7.2.1 2), (ae r7.2.1 3)], r7.2.2)
else
some (Ex.normal, [(ae r7.2.1 0), (ae r7.2.1 1), (ae r7.2.1 2), (ae r7.2.1 3)], r7.2.2)).bind fun r12 =>
cc (Ex.bh 1 r12.1) ((aW Tryd.prog true .add 3 (ae r12.2.1 3) (PV.v (.int .i64 1))).bind fun p14 =>
some (Ex.normal, [(ae r12.2.1 0), (ae r12.2.1 1), (ae r12.2.1 2), p14], r12.2.2)) fun x13 =>
some (x13, [(ae r12.2.1 0), (ae r12.2.1 1), (ae r12.2.1 2), (ae r12.2.1 3)], r12.2.2)) fun x8 =>
some (x8, [(ae r7.2.1 0), (ae r7.2.1 1), (ae r7.2.1 2), (ae r7.2.1 3)], r7.2.2)
noncomputable def eN (call : bF) (it : bP) (a0 : PV) (st : St) : Option (PV × St) :=
(jJ Tryd.prog 182 [(0, (PV.v (.string ⟨#[43]⟩))), (1, (PV.v (.string ⟨#[45]⟩))), (2, (PV.v (.string ⟨#[42]⟩))), (3, (PV.v (.string ⟨#[47]⟩))), (4, (PV.v (.string ⟨#[37]⟩))), (5, (PV.v (.string ⟨#[61, 61]⟩))), (6, (PV.v (.string ⟨#[33, 61]⟩))), (7, (PV.v (.string ⟨#[60]⟩))), (8, (PV.v (.string ⟨#[60, 61]⟩)))]).bind fun p1 =>
(it (eN.b0 call it st.stk.length st.lp.length) [a0, (PV.v (.int .i64 0)), p1, (PV.v (.int .i64 0))] st).bind fun r2 =>
cc (Ex.bh 0 r2.1) (fin st.stk.length st.tk.length st.lp.length [(PV.v (.int .i64 0))] r2.2.2) fun x15 =>
eB x15 (fin st.stk.length st.tk.length st.lp.length [(ae r2.2.1 1)] r2.2.2)
theorem Cg (a0 : PV) (st : St) : E L (.func 157) [a0] st = eN (E L) itE a0 st := (bI (by kernel_rfl) Tryd.func157 _ _).trans (by kernel_rfl)
noncomputable def nt.b0 (call : bF) (it : bP) (base lb : Nat) (vs25 : List PV) (st26 : St) : Option (Ex × List PV × St) :=
(call (.func 39) [ah (ae vs25 0)] st26).bind fun r27 =>
let q29 : PV := .ptr false r27.2.stk.length 0
let st28 := r27.2.push [.v (.int .i64 0), .v (.string ⟨#[]⟩), .v (.int .u64 0), .v (.int .i64 0), .v (.int .i64 0)]
(av base 5 q29 r27.1 st28).bind fun st30 =>
(an q29 0).bind fun p31 =>
(aj false 1 p31 st30).bind fun p32 =>
bw (st30 = st30) <|
(aW Tryd.prog true .neq 120 p32 (PV.v (.int .i64 5))).bind fun p33 =>
(onG p33 false (
some ((ae vs25 1), st30)) st30).bind fun r35 =>
(onG p33 false (
(call (.func 156) [ah r35.1] st30).bind fun r38 =>
some (r38.1, r38.2)) st30).bind fun r37 =>
bw (r37.2 = st30) <|
(onG p33 false (
(an q29 1).bind fun p41 =>
some (p41, st30)) st30).bind fun r40 =>
(onG p33 false (
(aj false 1 r40.1 st30).bind fun p44 =>
some (p44, st30)) st30).bind fun r43 =>
bw (r43.2 = st30) <|
(onG p33 false (
(aW Tryd.prog true .add 9 (PV.v (.string ⟨#[32]⟩)) r43.1).bind fun p47 =>
some (p47, st30)) st30).bind fun r46 =>
(onG p33 false (
(aW Tryd.prog true .add 9 r46.1 (PV.v (.string ⟨#[32]⟩))).bind fun p50 =>
some (p50, st30)) st30).bind fun r49 =>
(onG p33 false (
(call (.func 133) [ah r37.1, ah r49.1] st30).bind fun r53 =>
some (r53.1, r53.2)) st30).bind fun r52 =>
bw (r52.2 = st30) <|
(onG p33 false (
(aUn Tryd.prog .not r52.1).bind fun p56 =>
some (p56, st30)) st30).bind fun r55 =>
(bQ p33 (PV.v (.bool true)) r55.1).bind fun p57 =>
aD p57 fun b58 => (bif b58 then
(aj true 9 (ae vs25 3) st30).bind fun p60 =>
(av base 9 (ae vs25 2) p60 st30).bind fun st61 =>
some (Ex.ret, [(ae vs25 0), (ae vs25 1), (ae vs25 2), (ae vs25 3), q29], st61)
else
some (Ex.normal, [(ae vs25 0), (ae vs25 1), (ae vs25 2), (ae vs25 3), q29], st30)).bind fun r59 =>
cc r59.1 ((call (.func 113) [ah (ae r59.2.1 0)] r59.2.2).bind fun r63 =>
(an (ae r59.2.1 4) 1).bind fun p64 =>
(aj false 1 p64 r63.2).bind fun p65 =>
bw (r63.2 = r63.2) <|
(call (.func 157) [ah p65] r63.2).bind fun r66 =>
bw (r66.2 = r63.2) <|
(aj true 9 (ae r59.2.1 3) r63.2).bind fun p67 =>
bw (r63.2 = r63.2) <|
(aW Tryd.prog true .add 3 (ae r59.2.1 1) (PV.v (.int .i64 1))).bind fun p68 =>
(call (.func 137) [ah (ae r59.2.1 0), ah p68] r63.2).bind fun r69 =>
aL r69 (fun p70 st71 =>
bw (((aj true 9 (ae r59.2.1 3) st71).bind fun p75 =>
some (Rs.ret p75, st71)) = some (Rs.ret p67, st71)) <|
(aY 9 [.v (.int .i64 0), .v (.int .i64 0), .v (.int .u64 0), .v (.int .i64 0), .v (.string ⟨#[]⟩), .v (.string ⟨#[]⟩), .sl [] .nil, .v (.int .i64 0), .v (.int .i64 0)] 2 [(0, p67), (1, p70)]).bind fun p76 =>
(an (ae r59.2.1 4) 3).bind fun p77 =>
(aj false 1 p77 st71).bind fun p78 =>
bw (st71 = st71) <|
bw (((aj false 1 p77 r63.2).bind fun p79 =>
some (Rs.ret p79, r63.2)) = some (Rs.ret p78, r63.2)) <|
(an (ae r59.2.1 4) 4).bind fun p80 =>
(aj false 1 p80 st71).bind fun p81 =>
bw (st71 = st71) <|
bw (((aj false 1 p80 r63.2).bind fun p82 =>
some (Rs.ret p82, r63.2)) = some (Rs.ret p81, r63.2)) <|
(bc [(0, 1), (1, 1), (2, 1), (3, 2), (5, 1), (6, 1), (7, 1), (8, 1)] [.v (.int .i64 0), .v (.int .i64 0), .v (.int .u64 0), .v (.int .i64 0), .v (.string ⟨#[]⟩), .v (.string ⟨#[]⟩), .sl [] .nil, .v (.int .i64 0), .v (.int .i64 0)] [(0, (PV.v (.int .i64 9))), (1, r66.1), (5, p76), (6, p78), (7, p81)]).bind fun p83 =>
(av base 9 (ae r59.2.1 3) p83 st71).bind fun st84 =>
(aW Tryd.prog true .eql 3 (ae r59.2.1 1) (PV.v (.int .i64 0))).bind fun p85 =>
aD p85 fun b86 => (bif b86 then
(aj true 9 (ae r59.2.1 3) st84).bind fun p88 =>
(av base 9 (ae r59.2.1 2) p88 st84).bind fun st89 =>
some (Ex.ret, [(ae r59.2.1 0), (ae r59.2.1 1), (ae r59.2.1 2), (ae r59.2.1 3)], st89)
else
some (Ex.normal, [(ae r59.2.1 0), (ae r59.2.1 1), (ae r59.2.1 2), (ae r59.2.1 3)], st84)).bind fun r87 =>
il base lb st26.stk.length (Ex.bh 1 r87.1) [(ae r87.2.1 0), (ae r87.2.1 1), (ae r87.2.1 2), (ae r87.2.1 3)] r87.2.2) (fun t72 x73 st74 =>
(an (ae r59.2.1 4) 3).bind fun p90 =>
(aj false 1 p90 r63.2).bind fun p91 =>
bw (r63.2 = r63.2) <|
(an (ae r59.2.1 4) 4).bind fun p92 =>
(aj false 1 p92 r63.2).bind fun p93 =>
bw (r63.2 = r63.2) <|
il base lb st26.stk.length (Ex.pan t72 x73) [(ae r59.2.1 0), (ae r59.2.1 1), (ae r59.2.1 2), (ae r59.2.1 3)] st74)) fun x62 =>
il base lb st26.stk.length (Ex.bh 1 x62) [(ae r59.2.1 0), (ae r59.2.1 1), (ae r59.2.1 2), (ae r59.2.1 3)] r59.2.2
noncomputable def nt (call : bF) (it : bP) (a0 a1 : PV) (st : St) : Option (PV × St) :=
let q2 : PV := .ptr false st.stk.length 0
let st1 := st.push [.v (.int .i64 0), .v (.int .i64 0), .v (.int .u64 0), .v (.int .i64 0), .v (.string ⟨#[]⟩), .v (.string ⟨#[]⟩), .sl [] .nil, .v (.int .i64 0), .v (.int .i64 0)]
(aW Tryd.prog true .eql 3 a1 (PV.v (.int .i64 3))).bind fun p3 =>
aD p3 fun b4 => (bif b4 then
(call (.func 155) [ah a0] st1).bind fun r6 =>
aL r6 (fun p7 st8 =>
(av st.stk.length 9 q2 p7 st8).bind fun st12 =>
some (Ex.ret, [a0, a1, q2], st12)) (fun t9 x10 st11 =>
some ((Ex.pan t9 x10), [a0, a1, q2], st11))
else
some (Ex.normal, [a0, a1, q2], st1)).bind fun r5 =>
cc r5.1 ((aW Tryd.prog true .add 3 (ae r5.2.1 1) (PV.v (.int .i64 1))).bind fun p14 =>
(call (.func 137) [ah (ae r5.2.1 0), ah p14] r5.2.2).bind fun r15 =>
aL r15 (fun p16 st17 =>
let q22 : PV := .ptr false st17.stk.length 0
let st21 := st17.push [.v (.int .i64 0), .v (.int .i64 0), .v (.int .u64 0), .v (.int .i64 0), .v (.string ⟨#[]⟩), .v (.string ⟨#[]⟩), .sl [] .nil, .v (.int .i64 0), .v (.int .i64 0)]
(av st.stk.length 9 q22 p16 st21).bind fun st23 =>
(it (nt.b0 call it st.stk.length st.lp.length) [(ae r5.2.1 0), (ae r5.2.1 1), (ae r5.2.1 2), q22] st23).bind fun r24 =>
fE st.stk.length st.tk.length st.lp.length (Ex.bh 0 r24.1) r24.2.2 ((aj true 9 (ae r24.2.1 2) r24.2.2).bind fun p94 =>
fin st.stk.length st.tk.length st.lp.length [p94] r24.2.2)) (fun t18 x19 st20 =>
some (PV.pan t18 x19, st20.back st.stk.length st.tk.length st.lp.length))) fun x13 =>
fE st.stk.length st.tk.length st.lp.length x13 r5.2.2 ((aj true 9 (ae r5.2.1 2) r5.2.2).bind fun p95 =>
fin st.stk.length st.tk.length st.lp.length [p95] r5.2.2)
theorem og (a0 a1 : PV) (st : St) : E L (.func 137) [a0, a1] st = nt (E L) itE a0 a1 st := (bI (by kernel_rfl) Tryd.func137 _ _).trans (by kernel_rfl)
noncomputable def DW (call : bF) (it : bP) (a0 : PV) (st : St) : Option (PV × St) :=
let q2 : PV := .ptr false st.stk.length 0
let st1 := st.push [.v (.int .i64 0), .v (.int .i64 0), .v (.int .u64 0), .v (.int .i64 0), .v (.string ⟨#[]⟩), .v (.string ⟨#[]⟩), .sl [] .nil, .v (.int .i64 0), .v (.int .i64 0)]
(call (.func 137) [ah a0, ah (PV.v (.int .i64 0))] st1).bind fun r3 =>
aL r3 (fun p4 st5 =>
(av st.stk.length 9 q2 p4 st5).bind fun st9 =>
(aj true 9 q2 st9).bind fun p10 =>
fin st.stk.length st.tk.length st.lp.length [p10] st9) (fun t6 x7 st8 =>
some (PV.pan t6 x7, st8.back st.stk.length st.tk.length st.lp.length))
theorem xi (a0 : PV) (st : St) : E L (.func 119) [a0] st = DW (E L) itE a0 st := (bI (by kernel_rfl) Tryd.func119 _ _).trans (by kernel_rfl)
noncomputable def uj (call : bF) (it : bP) (a0 : PV) (st : St) : Option (PV × St) :=
let q2 : PV := .ptr false st.stk.length 0
let st1 := st.push [.v (.int .i64 0), .v (.string ⟨#[]⟩), .v (.string ⟨#[]⟩), .v (.int .i64 0), .v (.int .i64 0), .v (.int .u64 0), .v (.int .i64 0), .v (.string ⟨#[]⟩), .v (.string ⟨#[]⟩), .sl [] .nil, .v (.int .i64 0), .v (.int .i64 0), .v (.int .i64 0), .v (.int .i64 0)]
(call (.func 79) [ah a0, ah (PV.v (.int .i64 1))] st1).bind fun r3 =>
aL r3 (fun p4 st5 =>
let q10 : PV := .ptr false st5.stk.length 0
let st9 := st5.push [.v (.int .i64 0), .v (.string ⟨#[]⟩), .v (.int .u64 0), .v (.int .i64 0), .v (.int .i64 0)]
(av st.stk.length 5 q10 p4 st9).bind fun st11 =>
(an q10 1).bind fun p12 =>
(aj false 1 p12 st11).bind fun p13 =>
(an q10 3).bind fun p14 =>
(aj false 1 p14 st11).bind fun p15 =>
(an q10 4).bind fun p16 =>
(aj false 1 p16 st11).bind fun p17 =>
(bc [(0, 1), (1, 1), (2, 1), (3, 9), (12, 1), (13, 1)] [.v (.int .i64 0), .v (.string ⟨#[]⟩), .v (.string ⟨#[]⟩), .v (.int .i64 0), .v (.int .i64 0), .v (.int .u64 0), .v (.int .i64 0), .v (.string ⟨#[]⟩), .v (.string ⟨#[]⟩), .sl [] .nil, .v (.int .i64 0), .v (.int .i64 0), .v (.int .i64 0), .v (.int .i64 0)] [(0, (PV.v (.int .i64 1))), (1, p13), (4, p15), (5, p17)]).bind fun p18 =>
let q20 : PV := .ptr false st11.stk.length 0
let st19 := st11.push [.v (.int .i64 0), .v (.string ⟨#[]⟩), .v (.string ⟨#[]⟩), .v (.int .i64 0), .v (.int .i64 0), .v (.int .u64 0), .v (.int .i64 0), .v (.string ⟨#[]⟩), .v (.string ⟨#[]⟩), .sl [] .nil, .v (.int .i64 0), .v (.int .i64 0), .v (.int .i64 0), .v (.int .i64 0)]
(av st.stk.length 14 q20 p18 st19).bind fun st21 =>
(call (.func 40) [ah a0, ah (PV.v (.string ⟨#[46]⟩))] st21).bind fun r22 =>
aD r22.1 fun b23 => (bif b23 then
(call (.func 79) [ah a0, ah (PV.v (.int .i64 1))] r22.2).bind fun r25 =>
aL r25 (fun p26 st27 =>
(gd Tryd.prog 122 p26 1).bind fun p31 =>
(an q20 0).bind fun p32 =>
(av st.stk.length 1 p32 (PV.v (.int .i64 2)) st27).bind fun st33 =>
(an q20 2).bind fun p34 =>
(av st.stk.length 1 p34 p31 st33).bind fun st35 =>
some (Ex.normal, [q2, q20], st35)) (fun t28 x29 st30 =>
some ((Ex.pan t28 x29), [q2, q20], st30))
else
(call (.func 40) [ah a0, ah (PV.v (.string ⟨#[91]⟩))] r22.2).bind fun r36 =>
aD r36.1 fun b37 => (bif b37 then
(call (.func 119) [ah a0] r36.2).bind fun r39 =>
aL r39 (fun p40 st41 =>
(an q20 0).bind fun p45 =>
(av st.stk.length 1 p45 (PV.v (.int .i64 3)) st41).bind fun st46 =>
(an q20 3).bind fun p47 =>
(av st.stk.length 9 p47 p40 st46).bind fun st48 =>
(call (.func 43) [ah a0, ah (PV.v (.string ⟨#[93]⟩))] st48).bind fun r49 =>
aL r49 (fun p50 st51 =>
some (Ex.normal, [q2, q20], st51)) (fun t52 x53 st54 =>
some ((Ex.pan t52 x53), [q2, q20], st54))) (fun t42 x43 st44 =>
some ((Ex.pan t42 x43), [q2, q20], st44))
else
some (Ex.normal, [q2, q20], r36.2)).bind fun r38 =>
some (r38.1, [(ae r38.2.1 0), (ae r38.2.1 1)], r38.2.2)).bind fun r24 =>
cc (Ex.bh 0 r24.1) ((aj true 14 (ae r24.2.1 1) r24.2.2).bind fun p56 =>
(av st.stk.length 14 (ae r24.2.1 0) p56 r24.2.2).bind fun st57 =>
(aj true 14 (ae r24.2.1 0) st57).bind fun p58 =>
fin st.stk.length st.tk.length st.lp.length [p58] st57) fun x55 =>
fE st.stk.length st.tk.length st.lp.length x55 r24.2.2 ((aj true 14 (ae r24.2.1 0) r24.2.2).bind fun p59 =>
fin st.stk.length st.tk.length st.lp.length [p59] r24.2.2)) (fun t6 x7 st8 =>
some (PV.pan t6 x7, st8.back st.stk.length st.tk.length st.lp.length))
theorem lA (a0 : PV) (st : St) : E L (.func 118) [a0] st = uj (E L) itE a0 st := (bI (by kernel_rfl) Tryd.func118 _ _).trans (by kernel_rfl)
noncomputable def qM (call : bF) (it : bP) (a0 : PV) (st : St) : Option (PV × St) :=
let q2 : PV := .ptr false st.stk.length 0
let st1 := st.push [.v (.int .i64 0), .v (.int .i64 0), .v (.int .i64 0), .v (.int .u64 0), .v (.int .i64 0), .v (.string ⟨#[]⟩), .v (.string ⟨#[]⟩), .sl [] .nil, .v (.int .i64 0), .v (.int .i64 0), .v (.int .i64 0), .v (.string ⟨#[]⟩), .v (.string ⟨#[]⟩), .v (.int .i64 0), .v (.int .i64 0), .v (.int .u64 0), .v (.int .i64 0), .v (.string ⟨#[]⟩), .v (.string ⟨#[]⟩), .sl [] .nil, .v (.int .i64 0), .v (.int .i64 0), .v (.int .i64 0), .v (.int .i64 0), .v (.string ⟨#[]⟩), .v (.int .i64 0), .v (.int .i64 0)]
(call (.func 39) [ah a0] st1).bind fun r3 =>
let q5 : PV := .ptr false r3.2.stk.length 0
let st4 := r3.2.push [.v (.int .i64 0), .v (.string ⟨#[]⟩), .v (.int .u64 0), .v (.int .i64 0), .v (.int .i64 0)]
(av st.stk.length 5 q5 r3.1 st4).bind fun st6 =>
(an q5 3).bind fun p7 =>
(aj false 1 p7 st6).bind fun p8 =>
(an q5 4).bind fun p9 =>
(aj false 1 p9 st6).bind fun p10 =>
(bc [(0, 1), (1, 9), (10, 14), (24, 1), (25, 1), (26, 1)] [.v (.int .i64 0), .v (.int .i64 0), .v (.int .i64 0), .v (.int .u64 0), .v (.int .i64 0), .v (.string ⟨#[]⟩), .v (.string ⟨#[]⟩), .sl [] .nil, .v (.int .i64 0), .v (.int .i64 0), .v (.int .i64 0), .v (.string ⟨#[]⟩), .v (.string ⟨#[]⟩), .v (.int .i64 0), .v (.int .i64 0), .v (.int .u64 0), .v (.int .i64 0), .v (.string ⟨#[]⟩), .v (.string ⟨#[]⟩), .sl [] .nil, .v (.int .i64 0), .v (.int .i64 0), .v (.int .i64 0), .v (.int .i64 0), .v (.string ⟨#[]⟩), .v (.int .i64 0), .v (.int .i64 0)] [(4, p8), (5, p10)]).bind fun p11 =>
let q13 : PV := .ptr false st6.stk.length 0
let st12 := st6.push [.v (.int .i64 0), .v (.int .i64 0), .v (.int .i64 0), .v (.int .u64 0), .v (.int .i64 0), .v (.string ⟨#[]⟩), .v (.string ⟨#[]⟩), .sl [] .nil, .v (.int .i64 0), .v (.int .i64 0), .v (.int .i64 0), .v (.string ⟨#[]⟩), .v (.string ⟨#[]⟩), .v (.int .i64 0), .v (.int .i64 0), .v (.int .u64 0), .v (.int .i64 0), .v (.string ⟨#[]⟩), .v (.string ⟨#[]⟩), .sl [] .nil, .v (.int .i64 0), .v (.int .i64 0), .v (.int .i64 0), .v (.int .i64 0), .v (.string ⟨#[]⟩), .v (.int .i64 0), .v (.int .i64 0)]
(av st.stk.length 27 q13 p11 st12).bind fun st14 =>
(call (.func 40) [ah a0, ah (PV.v (.string ⟨#[108, 111, 97, 100]⟩))] st14).bind fun r15 =>
aD r15.1 fun b16 => (bif b16 then
(call (.func 118) [ah a0] r15.2).bind fun r18 =>
aL r18 (fun p19 st20 =>
(an q13 0).bind fun p24 =>
(av st.stk.length 1 p24 (PV.v (.int .i64 2)) st20).bind fun st25 =>
(an q13 10).bind fun p26 =>
(av st.stk.length 14 p26 p19 st25).bind fun st27 =>
some (Ex.normal, [q2, q13], st27)) (fun t21 x22 st23 =>
some ((Ex.pan t21 x22), [q2, q13], st23))
else
(call (.func 40) [ah a0, ah (PV.v (.string ⟨#[115, 105, 122, 101]⟩))] r15.2).bind fun r28 =>
aD r28.1 fun b29 => (bif b29 then
(call (.func 79) [ah a0, ah (PV.v (.int .i64 1))] r28.2).bind fun r31 =>
aL r31 (fun p32 st33 =>
(gd Tryd.prog 122 p32 1).bind fun p37 =>
(an q13 0).bind fun p38 =>
(av st.stk.length 1 p38 (PV.v (.int .i64 5)) st33).bind fun st39 =>
(an q13 24).bind fun p40 =>
(av st.stk.length 1 p40 p37 st39).bind fun st41 =>
some (Ex.normal, [q2, q13], st41)) (fun t34 x35 st36 =>
some ((Ex.pan t34 x35), [q2, q13], st36))
else
(call (.func 40) [ah a0, ah (PV.v (.string ⟨#[110, 101, 119]⟩))] r28.2).bind fun r42 =>
aD r42.1 fun b43 => (bif b43 then
(call (.func 40) [ah a0, ah (PV.v (.string ⟨#[105, 110, 116, 115]⟩))] r42.2).bind fun r45 =>
aD r45.1 fun b46 => (bif b46 then
(call (.func 119) [ah a0] r45.2).bind fun r48 =>
aL r48 (fun p49 st50 =>
(an q13 0).bind fun p54 =>
(av st.stk.length 1 p54 (PV.v (.int .i64 4)) st50).bind fun st55 =>
(an q13 1).bind fun p56 =>
(av st.stk.length 9 p56 p49 st55).bind fun st57 =>
some (Ex.normal, [q2, q13], st57)) (fun t51 x52 st53 =>
some ((Ex.pan t51 x52), [q2, q13], st53))
else
(call (.func 79) [ah a0, ah (PV.v (.int .i64 1))] r45.2).bind fun r58 =>
aL r58 (fun p59 st60 =>
(gd Tryd.prog 122 p59 1).bind fun p64 =>
(an q13 0).bind fun p65 =>
(av st.stk.length 1 p65 (PV.v (.int .i64 3)) st60).bind fun st66 =>
(an q13 24).bind fun p67 =>
(av st.stk.length 1 p67 p64 st66).bind fun st68 =>
some (Ex.normal, [q2, q13], st68)) (fun t61 x62 st63 =>
some ((Ex.pan t61 x62), [q2, q13], st63))).bind fun r47 =>
some (r47.1, [(ae r47.2.1 0), (ae r47.2.1 1)], r47.2.2)
else
(call (.func 119) [ah a0] r42.2).bind fun r69 =>
aL r69 (fun p70 st71 =>
(an q13 0).bind fun p75 =>
(av st.stk.length 1 p75 (PV.v (.int .i64 1)) st71).bind fun st76 =>
(an q13 1).bind fun p77 =>
(av st.stk.length 9 p77 p70 st76).bind fun st78 =>
some (Ex.normal, [q2, q13], st78)) (fun t72 x73 st74 =>
some ((Ex.pan t72 x73), [q2, q13], st74))).bind fun r44 =>
some (r44.1, [(ae r44.2.1 0), (ae r44.2.1 1)], r44.2.2)).bind fun r30 =>
some (r30.1, [(ae r30.2.1 0), (ae r30.2.1 1)], r30.2.2)).bind fun r17 =>
cc (Ex.bh 0 r17.1) ((aj true 27 (ae r17.2.1 1) r17.2.2).bind fun p80 =>
(av st.stk.length 27 (ae r17.2.1 0) p80 r17.2.2).bind fun st81 =>
(aj true 27 (ae r17.2.1 0) st81).bind fun p82 =>
fin st.stk.length st.tk.length st.lp.length [p82] st81) fun x79 =>
fE st.stk.length st.tk.length st.lp.length x79 r17.2.2 ((aj true 27 (ae r17.2.1 0) r17.2.2).bind fun p83 =>
fin st.stk.length st.tk.length st.lp.length [p83] r17.2.2)
theorem iR (a0 : PV) (st : St) : E L (.func 117) [a0] st = qM (E L) itE a0 st := (bI (by kernel_rfl) Tryd.func117 _ _).trans (by kernel_rfl)
noncomputable def ui (call : bF) (it : bP) (a0 a1 : PV) (st : St) : Option (PV × St) :=
(cellsOf a1).bind fun b1 =>
let q3 : PV := .ptr false st.stk.length 0
let st2 := st.push b1
let q5 : PV := .ptr false st2.stk.length 0
let st4 := st2.push [.v (.int .i64 0), .v (.string ⟨#[]⟩), .v (.int .i64 0), .v (.int .i64 0), .v (.int .i64 0), .v (.int .u64 0), .v (.int .i64 0), .v (.string ⟨#[]⟩), .v (.string ⟨#[]⟩), .sl [] .nil, .v (.int .i64 0), .v (.int .i64 0), .v (.int .i64 0), .v (.string ⟨#[]⟩), .v (.string ⟨#[]⟩), .v (.int .i64 0), .v (.int .i64 0), .v (.int .u64 0), .v (.int .i64 0), .v (.string ⟨#[]⟩), .v (.string ⟨#[]⟩), .sl [] .nil, .v (.int .i64 0), .v (.int .i64 0), .v (.int .i64 0), .v (.int .i64 0), .v (.string ⟨#[]⟩), .v (.int .i64 0), .v (.int .i64 0), .v (.int .i64 0), .v (.string ⟨#[]⟩), .v (.string ⟨#[]⟩), .v (.int .i64 0), .v (.int .i64 0), .v (.int .u64 0), .v (.int .i64 0), .v (.string ⟨#[]⟩), .v (.string ⟨#[]⟩), .sl [] .nil, .v (.int .i64 0), .v (.int .i64 0), .v (.int .i64 0), .v (.int .i64 0), .v (.int .i64 0), .v (.int .i64 0), .v (.int .u64 0), .v (.int .i64 0), .v (.string ⟨#[]⟩), .v (.string ⟨#[]⟩), .sl [] .nil, .v (.int .i64 0), .v (.int .i64 0), .v (.int .i64 0), .sl [] .nil, .sl [] .nil, .sl [] .nil, .v (.int .i64 0), .v (.int .i64 0)]
(call (.func 113) [ah a0] st4).bind fun r6 =>
(gd Tryd.prog 122 r6.1 1).bind fun p7 =>
(an q3 1).bind fun p8 =>
(av st.stk.length 1 p8 p7 r6.2).bind fun st9 =>
(call (.func 40) [ah a0, ah (PV.v (.string ⟨#[58]⟩))] st9).bind fun r10 =>
aD r10.1 fun b11 => (bif b11 then
(call (.func 43) [ah a0, ah (PV.v (.string ⟨#[108, 111, 111, 112]⟩))] r10.2).bind fun r13 =>
aL r13 (fun p14 st15 =>
(aj true 58 q3 st15).bind fun p19 =>
(call (.func 115) [ah a0, ah p19] st15).bind fun r20 =>
aL r20 (fun p21 st22 =>
(av st.stk.length 58 q5 p21 st22).bind fun st26 =>
some (Ex.ret, [a0, q3, q5], st26)) (fun t23 x24 st25 =>
some ((Ex.pan t23 x24), [a0, q3, q5], st25))) (fun t16 x17 st18 =>
some ((Ex.pan t16 x17), [a0, q3, q5], st18))
else
some (Ex.normal, [a0, q3, q5], r10.2)).bind fun r12 =>
cc r12.1 ((an (ae r12.2.1 1) 0).bind fun p28 =>
(av st.stk.length 1 p28 (PV.v (.int .i64 3)) r12.2.2).bind fun st29 =>
(call (.func 43) [ah (ae r12.2.1 0), ah (PV.v (.string ⟨#[61]⟩))] st29).bind fun r30 =>
aL r30 (fun p31 st32 =>
(call (.func 117) [ah (ae r12.2.1 0)] st32).bind fun r36 =>
aL r36 (fun p37 st38 =>
(an (ae r12.2.1 1) 2).bind fun p42 =>
(av st.stk.length 27 p42 p37 st38).bind fun st43 =>
(call (.func 43) [ah (ae r12.2.1 0), ah (PV.v (.string ⟨#[59]⟩))] st43).bind fun r44 =>
aL r44 (fun p45 st46 =>
(aj true 58 (ae r12.2.1 1) st46).bind fun p50 =>
(av st.stk.length 58 (ae r12.2.1 2) p50 st46).bind fun st51 =>
(aj true 58 (ae r12.2.1 2) st51).bind fun p52 =>
fin st.stk.length st.tk.length st.lp.length [p52] st51) (fun t47 x48 st49 =>
some (PV.pan t47 x48, st49.back st.stk.length st.tk.length st.lp.length))) (fun t39 x40 st41 =>
some (PV.pan t39 x40, st41.back st.stk.length st.tk.length st.lp.length))) (fun t33 x34 st35 =>
some (PV.pan t33 x34, st35.back st.stk.length st.tk.length st.lp.length))) fun x27 =>
fE st.stk.length st.tk.length st.lp.length x27 r12.2.2 ((aj true 58 (ae r12.2.1 2) r12.2.2).bind fun p53 =>
fin st.stk.length st.tk.length st.lp.length [p53] r12.2.2)
theorem lz (a0 a1 : PV) (st : St) : E L (.func 114) [a0, a1] st = ui (E L) itE a0 a1 st := (bI (by kernel_rfl) Tryd.func114 _ _).trans (by kernel_rfl)
noncomputable def yG (call : bF) (it : bP) (a0 a1 : PV) (st : St) : Option (PV × St) :=
(cellsOf a1).bind fun b1 =>
let q3 : PV := .ptr false st.stk.length 0
let st2 := st.push b1
let q5 : PV := .ptr false st2.stk.length 0
let st4 := st2.push [.v (.int .i64 0), .v (.string ⟨#[]⟩), .v (.int .i64 0), .v (.int .i64 0), .v (.int .i64 0), .v (.int .u64 0), .v (.int .i64 0), .v (.string ⟨#[]⟩), .v (.string ⟨#[]⟩), .sl [] .nil, .v (.int .i64 0), .v (.int .i64 0), .v (.int .i64 0), .v (.string ⟨#[]⟩), .v (.string ⟨#[]⟩), .v (.int .i64 0), .v (.int .i64 0), .v (.int .u64 0), .v (.int .i64 0), .v (.string ⟨#[]⟩), .v (.string ⟨#[]⟩), .sl [] .nil, .v (.int .i64 0), .v (.int .i64 0), .v (.int .i64 0), .v (.int .i64 0), .v (.string ⟨#[]⟩), .v (.int .i64 0), .v (.int .i64 0), .v (.int .i64 0), .v (.string ⟨#[]⟩), .v (.string ⟨#[]⟩), .v (.int .i64 0), .v (.int .i64 0), .v (.int .u64 0), .v (.int .i64 0), .v (.string ⟨#[]⟩), .v (.string ⟨#[]⟩), .sl [] .nil, .v (.int .i64 0), .v (.int .i64 0), .v (.int .i64 0), .v (.int .i64 0), .v (.int .i64 0), .v (.int .i64 0), .v (.int .u64 0), .v (.int .i64 0), .v (.string ⟨#[]⟩), .v (.string ⟨#[]⟩), .sl [] .nil, .v (.int .i64 0), .v (.int .i64 0), .v (.int .i64 0), .sl [] .nil, .sl [] .nil, .sl [] .nil, .v (.int .i64 0), .v (.int .i64 0)]
(call (.func 119) [ah a0] st4).bind fun r6 =>
aL r6 (fun p7 st8 =>
(an q3 0).bind fun p12 =>
(av st.stk.length 1 p12 (PV.v (.int .i64 6)) st8).bind fun st13 =>
(an q3 43).bind fun p14 =>
(av st.stk.length 9 p14 p7 st13).bind fun st15 =>
(an q3 54).bind fun p16 =>
(av st.stk.length 1 p16 (PV.sl [] .nil) st15).bind fun st17 =>
(call (.func 45) [ah a0] st17).bind fun r18 =>
aL r18 (fun p19 st20 =>
(an q3 54).bind fun p24 =>
(av st.stk.length 1 p24 p19 st20).bind fun st25 =>
(call (.func 40) [ah a0, ah (PV.v (.string ⟨#[101, 108, 115, 101]⟩))] st25).bind fun r26 =>
aD r26.1 fun b27 => (bif b27 then
(call (.func 45) [ah a0] r26.2).bind fun r29 =>
aL r29 (fun p30 st31 =>
(an q3 55).bind fun p35 =>
(av st.stk.length 1 p35 p30 st31).bind fun st36 =>
some (Ex.normal, [q3, q5], st36)) (fun t32 x33 st34 =>
some ((Ex.pan t32 x33), [q3, q5], st34))
else
some (Ex.normal, [q3, q5], r26.2)).bind fun r28 =>
cc r28.1 ((aj true 58 (ae r28.2.1 0) r28.2.2).bind fun p38 =>
(av st.stk.length 58 (ae r28.2.1 1) p38 r28.2.2).bind fun st39 =>
(aj true 58 (ae r28.2.1 1) st39).bind fun p40 =>
fin st.stk.length st.tk.length st.lp.length [p40] st39) fun x37 =>
fE st.stk.length st.tk.length st.lp.length x37 r28.2.2 ((aj true 58 (ae r28.2.1 1) r28.2.2).bind fun p41 =>
fin st.stk.length st.tk.length st.lp.length [p41] r28.2.2)) (fun t21 x22 st23 =>
some (PV.pan t21 x22, st23.back st.stk.length st.tk.length st.lp.length))) (fun t9 x10 st11 =>
some (PV.pan t9 x10, st11.back st.stk.length st.tk.length st.lp.length))
theorem od (a0 a1 : PV) (st : St) : E L (.func 116) [a0, a1] st = yG (E L) itE a0 a1 st := (bI (by kernel_rfl) Tryd.func116 _ _).trans (by kernel_rfl)
noncomputable def DY (call : bF) (it : bP) (a0 : PV) (st : St) : Option (PV × St) :=
(call (.func 39) [ah a0] st).bind fun r1 =>
(gd Tryd.prog 122 r1.1 0).bind fun p2 =>
(aW Tryd.prog true .eql 120 p2 (PV.v (.int .i64 1))).bind fun p3 =>
aD p3 fun b4 => (bif b4 then
(call (.func 113) [ah a0] r1.2).bind fun r6 =>
(gd Tryd.prog 122 r6.1 1).bind fun p7 =>
some (Ex.ret, [p7], r6.2)
else
some (Ex.normal, [(PV.v (.string ⟨#[]⟩))], r1.2)).bind fun r5 =>
cc r5.1 (fin st.stk.length st.tk.length st.lp.length [(PV.v (.string ⟨#[]⟩))] r5.2.2) fun x8 =>
eB x8 (fin st.stk.length st.tk.length st.lp.length [(ae r5.2.1 0)] r5.2.2)
theorem xj (a0 : PV) (st : St) : E L (.func 120) [a0] st = DY (E L) itE a0 st := (bI (by kernel_rfl) Tryd.func120 _ _).trans (by kernel_rfl)
noncomputable def oe.b0 (call : bF) (it : bP) (base lb : Nat) (vs12 : List PV) (st13 : St) : Option (Ex × List PV × St) :=
(call (.func 119) [ah (ae vs12 0)] st13).bind fun r14 =>
aL r14 (fun p15 st16 =>
(aY 9 [.v (.int .i64 0), .v (.int .i64 0), .v (.int .u64 0), .v (.int .i64 0), .v (.string ⟨#[]⟩), .v (.string ⟨#[]⟩), .sl [] .nil, .v (.int .i64 0), .v (.int .i64 0)] 1 [(0, p15)]).bind fun p20 =>
(cu st16 p20).bind fun ys21 =>
(dX base [.v (.int .i64 0), .v (.int .i64 0), .v (.int .u64 0), .v (.int .i64 0), .v (.string ⟨#[]⟩), .v (.string ⟨#[]⟩), .sl [] .nil, .v (.int .i64 0), .v (.int .i64 0)] 9 104 (ae vs12 2) ys21 st16).bind fun r22 =>
(call (.func 40) [ah (ae vs12 0), ah (PV.v (.string ⟨#[41]⟩))] r22.2).bind fun r23 =>
aD r23.1 fun b24 => (bif b24 then
some (Ex.ret, [(ae vs12 0), r22.1, r22.1], r23.2)
else
some (Ex.normal, [(ae vs12 0), (ae vs12 1), r22.1], r23.2)).bind fun r25 =>
cc r25.1 ((call (.func 43) [ah (ae r25.2.1 0), ah (PV.v (.string ⟨#[44]⟩))] r25.2.2).bind fun r27 =>
aL r27 (fun p28 st29 =>
some (Ex.normal, [(ae r25.2.1 0), (ae r25.2.1 1), (ae r25.2.1 2)], st29)) (fun t30 x31 st32 =>
some ((Ex.pan t30 x31), [(ae r25.2.1 0), (ae r25.2.1 1), (ae r25.2.1 2)], st32))) fun x26 =>
some ((Ex.bh 1 x26), [(ae r25.2.1 0), (ae r25.2.1 1), (ae r25.2.1 2)], r25.2.2)) (fun t17 x18 st19 =>
some ((Ex.pan t17 x18), [(ae vs12 0), (ae vs12 1), (ae vs12 2)], st19))
noncomputable def oe (call : bF) (it : bP) (a0 : PV) (st : St) : Option (PV × St) :=
(call (.func 43) [ah a0, ah (PV.v (.string ⟨#[40]⟩))] st).bind fun r1 =>
aL r1 (fun p2 st3 =>
(call (.func 40) [ah a0, ah (PV.v (.string ⟨#[41]⟩))] st3).bind fun r7 =>
aD r7.1 fun b8 => (bif b8 then
some (Ex.ret, [a0, (PV.sl [] .nil), (PV.sl [] .nil)], r7.2)
else
some (Ex.normal, [a0, (PV.sl [] .nil), (PV.sl [] .nil)], r7.2)).bind fun r9 =>
cc r9.1 ((it (oe.b0 call it st.stk.length st.lp.length) [(ae r9.2.1 0), (ae r9.2.1 1), (ae r9.2.1 2)] r9.2.2).bind fun r11 =>
fE st.stk.length st.tk.length st.lp.length (Ex.bh 0 r11.1) r11.2.2 (fin st.stk.length st.tk.length st.lp.length [(ae r11.2.1 1)] r11.2.2)) fun x10 =>
fE st.stk.length st.tk.length st.lp.length x10 r9.2.2 (fin st.stk.length st.tk.length st.lp.length [(ae r9.2.1 1)] r9.2.2)) (fun t4 x5 st6 =>
some (PV.pan t4 x5, st6.back st.stk.length st.tk.length st.lp.length))
theorem qA (a0 : PV) (st : St) : E L (.func 121) [a0] st = oe (E L) itE a0 st := (bI (by kernel_rfl) Tryd.func121 _ _).trans (by kernel_rfl)
noncomputable def S82 (call : bF) (it : bP) (a0 : PV) (st : St) : Option (PV × St) :=
let q2 : PV := .ptr false st.stk.length 0
let st1 := st.push [.v (.int .i64 0), .v (.string ⟨#[]⟩), .v (.int .i64 0), .v (.int .i64 0), .v (.int .i64 0), .v (.int .u64 0), .v (.int .i64 0), .v (.string ⟨#[]⟩), .v (.string ⟨#[]⟩), .sl [] .nil, .v (.int .i64 0), .v (.int .i64 0), .v (.int .i64 0), .v (.string ⟨#[]⟩), .v (.string ⟨#[]⟩), .v (.int .i64 0), .v (.int .i64 0), .v (.int .u64 0), .v (.int .i64 0), .v (.string ⟨#[]⟩), .v (.string ⟨#[]⟩), .sl [] .nil, .v (.int .i64 0), .v (.int .i64 0), .v (.int .i64 0), .v (.int .i64 0), .v (.string ⟨#[]⟩), .v (.int .i64 0), .v (.int .i64 0), .v (.int .i64 0), .v (.string ⟨#[]⟩), .v (.string ⟨#[]⟩), .v (.int .i64 0), .v (.int .i64 0), .v (.int .u64 0), .v (.int .i64 0), .v (.string ⟨#[]⟩), .v (.string ⟨#[]⟩), .sl [] .nil, .v (.int .i64 0), .v (.int .i64 0), .v (.int .i64 0), .v (.int .i64 0), .v (.int .i64 0), .v (.int .i64 0), .v (.int .u64 0), .v (.int .i64 0), .v (.string ⟨#[]⟩), .v (.string ⟨#[]⟩), .sl [] .nil, .v (.int .i64 0), .v (.int .i64 0), .v (.int .i64 0), .sl [] .nil, .sl [] .nil, .sl [] .nil, .v (.int .i64 0), .v (.int .i64 0)]
(call (.func 39) [ah a0] st1).bind fun r3 =>
let q5 : PV := .ptr false r3.2.stk.length 0
let st4 := r3.2.push [.v (.int .i64 0), .v (.string ⟨#[]⟩), .v (.int .u64 0), .v (.int .i64 0), .v (.int .i64 0)]
(av st.stk.length 5 q5 r3.1 st4).bind fun st6 =>
(an q5 3).bind fun p7 =>
(aj false 1 p7 st6).bind fun p8 =>
(an q5 4).bind fun p9 =>
(aj false 1 p9 st6).bind fun p10 =>
(bc [(0, 1), (1, 1), (2, 27), (29, 14), (43, 9), (52, 1), (53, 1), (54, 1), (55, 1), (56, 1), (57, 1)] [.v (.int .i64 0), .v (.string ⟨#[]⟩), .v (.int .i64 0), .v (.int .i64 0), .v (.int .i64 0), .v (.int .u64 0), .v (.int .i64 0), .v (.string ⟨#[]⟩), .v (.string ⟨#[]⟩), .sl [] .nil, .v (.int .i64 0), .v (.int .i64 0), .v (.int .i64 0), .v (.string ⟨#[]⟩), .v (.string ⟨#[]⟩), .v (.int .i64 0), .v (.int .i64 0), .v (.int .u64 0), .v (.int .i64 0), .v (.string ⟨#[]⟩), .v (.string ⟨#[]⟩), .sl [] .nil, .v (.int .i64 0), .v (.int .i64 0), .v (.int .i64 0), .v (.int .i64 0), .v (.string ⟨#[]⟩), .v (.int .i64 0), .v (.int .i64 0), .v (.int .i64 0), .v (.string ⟨#[]⟩), .v (.string ⟨#[]⟩), .v (.int .i64 0), .v (.int .i64 0), .v (.int .u64 0), .v (.int .i64 0), .v (.string ⟨#[]⟩), .v (.string ⟨#[]⟩), .sl [] .nil, .v (.int .i64 0), .v (.int .i64 0), .v (.int .i64 0), .v (.int .i64 0), .v (.int .i64 0), .v (.int .i64 0), .v (.int .u64 0), .v (.int .i64 0), .v (.string ⟨#[]⟩), .v (.string ⟨#[]⟩), .sl [] .nil, .v (.int .i64 0), .v (.int .i64 0), .v (.int .i64 0), .sl [] .nil, .sl [] .nil, .sl [] .nil, .v (.int .i64 0), .v (.int .i64 0)] [(9, p8), (10, p10)]).bind fun p11 =>
let q13 : PV := .ptr false st6.stk.length 0
let st12 := st6.push [.v (.int .i64 0), .v (.string ⟨#[]⟩), .v (.int .i64 0), .v (.int .i64 0), .v (.int .i64 0), .v (.int .u64 0), .v (.int .i64 0), .v (.string ⟨#[]⟩), .v (.string ⟨#[]⟩), .sl [] .nil, .v (.int .i64 0), .v (.int .i64 0), .v (.int .i64 0), .v (.string ⟨#[]⟩), .v (.string ⟨#[]⟩), .v (.int .i64 0), .v (.int .i64 0), .v (.int .u64 0), .v (.int .i64 0), .v (.string ⟨#[]⟩), .v (.string ⟨#[]⟩), .sl [] .nil, .v (.int .i64 0), .v (.int .i64 0), .v (.int .i64 0), .v (.int .i64 0), .v (.string ⟨#[]⟩), .v (.int .i64 0), .v (.int .i64 0), .v (.int .i64 0), .v (.string ⟨#[]⟩), .v (.string ⟨#[]⟩), .v (.int .i64 0), .v (.int .i64 0), .v (.int .u64 0), .v (.int .i64 0), .v (.string ⟨#[]⟩), .v (.string ⟨#[]⟩), .sl [] .nil, .v (.int .i64 0), .v (.int .i64 0), .v (.int .i64 0), .v (.int .i64 0), .v (.int .i64 0), .v (.int .i64 0), .v (.int .u64 0), .v (.int .i64 0), .v (.string ⟨#[]⟩), .v (.string ⟨#[]⟩), .sl [] .nil, .v (.int .i64 0), .v (.int .i64 0), .v (.int .i64 0), .sl [] .nil, .sl [] .nil, .sl [] .nil, .v (.int .i64 0), .v (.int .i64 0)]
(av st.stk.length 58 q13 p11 st12).bind fun st14 =>
(an q5 0).bind fun p15 =>
(aj false 1 p15 st14).bind fun p16 =>
(aW Tryd.prog true .eql 120 p16 (PV.v (.int .i64 1))).bind fun p17 =>
aD p17 fun b18 => (bif b18 then
(aj true 58 q13 st14).bind fun p20 =>
(call (.func 114) [ah a0, ah p20] st14).bind fun r21 =>
aL r21 (fun p22 st23 =>
(av st.stk.length 58 q2 p22 st23).bind fun st27 =>
some (Ex.ret, [a0, q2, q5, q13], st27)) (fun t24 x25 st26 =>
some ((Ex.pan t24 x25), [a0, q2, q5, q13], st26))
else
some (Ex.normal, [a0, q2, q5, q13], st14)).bind fun r19 =>
cc r19.1 ((call (.func 40) [ah (ae r19.2.1 0), ah (PV.v (.string ⟨#[108, 111, 111, 112]⟩))] r19.2.2).bind fun r29 =>
aD r29.1 fun b30 => (bif b30 then
(aj true 58 (ae r19.2.1 3) r29.2).bind fun p32 =>
(call (.func 115) [ah (ae r19.2.1 0), ah p32] r29.2).bind fun r33 =>
aL r33 (fun p34 st35 =>
(av st.stk.length 58 (ae r19.2.1 1) p34 st35).bind fun st39 =>
some (Ex.ret, [(ae r19.2.1 0), (ae r19.2.1 1), (ae r19.2.1 3)], st39)) (fun t36 x37 st38 =>
some ((Ex.pan t36 x37), [(ae r19.2.1 0), (ae r19.2.1 1), (ae r19.2.1 3)], st38))
else
(call (.func 40) [ah (ae r19.2.1 0), ah (PV.v (.string ⟨#[105, 102]⟩))] r29.2).bind fun r40 =>
aD r40.1 fun b41 => (bif b41 then
(aj true 58 (ae r19.2.1 3) r40.2).bind fun p43 =>
(call (.func 116) [ah (ae r19.2.1 0), ah p43] r40.2).bind fun r44 =>
aL r44 (fun p45 st46 =>
(av st.stk.length 58 (ae r19.2.1 1) p45 st46).bind fun st50 =>
some (Ex.ret, [(ae r19.2.1 0), (ae r19.2.1 1), (ae r19.2.1 3)], st50)) (fun t47 x48 st49 =>
some ((Ex.pan t47 x48), [(ae r19.2.1 0), (ae r19.2.1 1), (ae r19.2.1 3)], st49))
else
(call (.func 40) [ah (ae r19.2.1 0), ah (PV.v (.string ⟨#[97, 116, 111, 109, 105, 99]⟩))] r40.2).bind fun r51 =>
aD r51.1 fun b52 => (bif b52 then
(call (.func 45) [ah (ae r19.2.1 0)] r51.2).bind fun r54 =>
aL r54 (fun p55 st56 =>
(an (ae r19.2.1 3) 0).bind fun p60 =>
(av st.stk.length 1 p60 (PV.v (.int .i64 10)) st56).bind fun st61 =>
(an (ae r19.2.1 3) 54).bind fun p62 =>
(av st.stk.length 1 p62 p55 st61).bind fun st63 =>
(aj true 58 (ae r19.2.1 3) st63).bind fun p64 =>
(av st.stk.length 58 (ae r19.2.1 1) p64 st63).bind fun st65 =>
some (Ex.ret, [(ae r19.2.1 0), (ae r19.2.1 1), (ae r19.2.1 3)], st65)) (fun t57 x58 st59 =>
some ((Ex.pan t57 x58), [(ae r19.2.1 0), (ae r19.2.1 1), (ae r19.2.1 3)], st59))
else
(call (.func 78) [ah (ae r19.2.1 0), ah (PV.v (.string ⟨#[108, 101, 116]⟩))] r51.2).bind fun r66 =>
(onG r66.1 false (
some ((ae r19.2.1 0), r66.2)) r66.2).bind fun r68 =>
(onG r66.1 false (
(call (.func 78) [ah r68.1, ah (PV.v (.string ⟨#[118, 97, 114]⟩))] r68.2).bind fun r71 =>
some (r71.1, r71.2)) r68.2).bind fun r70 =>
(bQ r66.1 (PV.v (.bool true)) r70.1).bind fun p72 =>
aD p72 fun b73 => (bif b73 then
(an (ae r19.2.1 3) 0).bind fun p75 =>
(av st.stk.length 1 p75 (PV.v (.int .i64 1)) r70.2).bind fun st76 =>
(call (.func 113) [ah (ae r19.2.1 0)] st76).bind fun r77 =>
(gd Tryd.prog 122 r77.1 1).bind fun p78 =>
(aW Tryd.prog true .eql 9 p78 (PV.v (.string ⟨#[118, 97, 114]⟩))).bind fun p79 =>
aD p79 fun b80 => (bif b80 then
(an (ae r19.2.1 3) 0).bind fun p82 =>
(av st.stk.length 1 p82 (PV.v (.int .i64 2)) r77.2).bind fun st83 =>
some (Ex.normal, [(ae r19.2.1 0), (ae r19.2.1 1), (ae r19.2.1 3)], st83)
else
some (Ex.normal, [(ae r19.2.1 0), (ae r19.2.1 1), (ae r19.2.1 3)], r77.2)).bind fun r81 =>
cc r81.1 ((call (.func 79) [ah (ae r81.2.1 0), ah (PV.v (.int .i64 1))] r81.2.2).bind fun r85 =>
aL r85 (fun p86 st87 =>
(gd Tryd.prog 122 p86 1).bind fun p91 =>
(an (ae r81.2.1 2) 1).bind fun p92 =>
(av st.stk.length 1 p92 p91 st87).bind fun st93 =>
(call (.func 43) [ah (ae r81.2.1 0), ah (PV.v (.string ⟨#[61]⟩))] st93).bind fun r94 =>
aL r94 (fun p95 st96 =>
(call (.func 117) [ah (ae r81.2.1 0)] st96).bind fun r100 =>
aL r100 (fun p101 st102 =>
(an (ae r81.2.1 2) 2).bind fun p106 =>
(av st.stk.length 27 p106 p101 st102).bind fun st107 =>
some (Ex.normal, [(ae r81.2.1 0), (ae r81.2.1 1), (ae r81.2.1 2)], st107)) (fun t103 x104 st105 =>
some ((Ex.pan t103 x104), [(ae r81.2.1 0), (ae r81.2.1 1), (ae r81.2.1 2)], st105))) (fun t97 x98 st99 =>
some ((Ex.pan t97 x98), [(ae r81.2.1 0), (ae r81.2.1 1), (ae r81.2.1 2)], st99))) (fun t88 x89 st90 =>
some ((Ex.pan t88 x89), [(ae r81.2.1 0), (ae r81.2.1 1), (ae r81.2.1 2)], st90))) fun x84 =>
some (x84, [(ae r81.2.1 0), (ae r81.2.1 1), (ae r81.2.1 2)], r81.2.2)
else
(call (.func 40) [ah (ae r19.2.1 0), ah (PV.v (.string ⟨#[115, 101, 116]⟩))] r70.2).bind fun r108 =>
aD r108.1 fun b109 => (bif b109 then
(call (.func 118) [ah (ae r19.2.1 0)] r108.2).bind fun r111 =>
aL r111 (fun p112 st113 =>
(an (ae r19.2.1 3) 0).bind fun p117 =>
(av st.stk.length 1 p117 (PV.v (.int .i64 4)) st113).bind fun st118 =>
(an (ae r19.2.1 3) 29).bind fun p119 =>
(av st.stk.length 14 p119 p112 st118).bind fun st120 =>
(call (.func 43) [ah (ae r19.2.1 0), ah (PV.v (.string ⟨#[61]⟩))] st120).bind fun r121 =>
aL r121 (fun p122 st123 =>
(call (.func 119) [ah (ae r19.2.1 0)] st123).bind fun r127 =>
aL r127 (fun p128 st129 =>
(an (ae r19.2.1 3) 43).bind fun p133 =>
(av st.stk.length 9 p133 p128 st129).bind fun st134 =>
some (Ex.normal, [(ae r19.2.1 0), (ae r19.2.1 1), (ae r19.2.1 3)], st134)) (fun t130 x131 st132 =>
some ((Ex.pan t130 x131), [(ae r19.2.1 0), (ae r19.2.1 1), (ae r19.2.1 3)], st132))) (fun t124 x125 st126 =>
some ((Ex.pan t124 x125), [(ae r19.2.1 0), (ae r19.2.1 1), (ae r19.2.1 3)], st126))) (fun t114 x115 st116 =>
some ((Ex.pan t114 x115), [(ae r19.2.1 0), (ae r19.2.1 1), (ae r19.2.1 3)], st116))
else
(call (.func 40) [ah (ae r19.2.1 0), ah (PV.v (.string ⟨#[112, 114, 105, 110, 116]⟩))] r108.2).bind fun r135 =>
aD r135.1 fun b136 => (bif b136 then
(call (.func 119) [ah (ae r19.2.1 0)] r135.2).bind fun r138 =>
aL r138 (fun p139 st140 =>
(an (ae r19.2.1 3) 0).bind fun p144 =>
(av st.stk.length 1 p144 (PV.v (.int .i64 5)) st140).bind fun st145 =>
(an (ae r19.2.1 3) 43).bind fun p146 =>
(av st.stk.length 9 p146 p139 st145).bind fun st147 =>
some (Ex.normal, [(ae r19.2.1 0), (ae r19.2.1 1), (ae r19.2.1 3)], st147)) (fun t141 x142 st143 =>
some ((Ex.pan t141 x142), [(ae r19.2.1 0), (ae r19.2.1 1), (ae r19.2.1 3)], st143))
else
(call (.func 40) [ah (ae r19.2.1 0), ah (PV.v (.string ⟨#[98, 114, 101, 97, 107]⟩))] r135.2).bind fun r148 =>
aD r148.1 fun b149 => (bif b149 then
(call (.func 120) [ah (ae r19.2.1 0)] r148.2).bind fun r151 =>
(an (ae r19.2.1 3) 0).bind fun p152 =>
(av st.stk.length 1 p152 (PV.v (.int .i64 8)) r151.2).bind fun st153 =>
(an (ae r19.2.1 3) 1).bind fun p154 =>
(av st.stk.length 1 p154 r151.1 st153).bind fun st155 =>
some (Ex.normal, [(ae r19.2.1 0), (ae r19.2.1 1), (ae r19.2.1 3)], st155)
else
(call (.func 40) [ah (ae r19.2.1 0), ah (PV.v (.string ⟨#[99, 111, 110, 116, 105, 110, 117, 101]⟩))] r148.2).bind fun r156 =>
aD r156.1 fun b157 => (bif b157 then
(call (.func 120) [ah (ae r19.2.1 0)] r156.2).bind fun r159 =>
(an (ae r19.2.1 3) 0).bind fun p160 =>
(av st.stk.length 1 p160 (PV.v (.int .i64 9)) r159.2).bind fun st161 =>
(an (ae r19.2.1 3) 1).bind fun p162 =>
(av st.stk.length 1 p162 r159.1 st161).bind fun st163 =>
some (Ex.normal, [(ae r19.2.1 0), (ae r19.2.1 1), (ae r19.2.1 3)], st163)
else
(call (.func 40) [ah (ae r19.2.1 0), ah (PV.v (.string ⟨#[99, 97, 108, 108]⟩))] r156.2).bind fun r164 =>
aD r164.1 fun b165 => (bif b165 then
(call (.func 79) [ah (ae r19.2.1 0), ah (PV.v (.int .i64 1))] r164.2).bind fun r167 =>
aL r167 (fun p168 st169 =>
(gd Tryd.prog 122 p168 1).bind fun p173 =>
(an (ae r19.2.1 3) 0).bind fun p174 =>
(av st.stk.length 1 p174 (PV.v (.int .i64 11)) st169).bind fun st175 =>
(an (ae r19.2.1 3) 1).bind fun p176 =>
(av st.stk.length 1 p176 p173 st175).bind fun st177 =>
(call (.func 121) [ah (ae r19.2.1 0)] st177).bind fun r178 =>
aL r178 (fun p179 st180 =>
(an (ae r19.2.1 3) 53).bind fun p184 =>
(av st.stk.length 1 p184 p179 st180).bind fun st185 =>
some (Ex.normal, [(ae r19.2.1 0), (ae r19.2.1 1), (ae r19.2.1 3)], st185)) (fun t181 x182 st183 =>
some ((Ex.pan t181 x182), [(ae r19.2.1 0), (ae r19.2.1 1), (ae r19.2.1 3)], st183))) (fun t170 x171 st172 =>
some ((Ex.pan t170 x171), [(ae r19.2.1 0), (ae r19.2.1 1), (ae r19.2.1 3)], st172))
else
(aj true 5 (ae r19.2.1 2) r164.2).bind fun p186 =>
(call (.func 46) [ah (ae r19.2.1 0), ah (PV.v (.int .i64 4)), ah p186] r164.2).bind fun r187 =>
aL r187 (fun p188 st189 =>
some (Ex.normal, [(ae r19.2.1 0), (ae r19.2.1 1), (ae r19.2.1 3)], st189)) (fun t190 x191 st192 =>
some ((Ex.pan t190 x191), [(ae r19.2.1 0), (ae r19.2.1 1), (ae r19.2.1 3)], st192))).bind fun r166 =>
some (r166.1, [(ae r166.2.1 0), (ae r166.2.1 1), (ae r166.2.1 2)], r166.2.2)).bind fun r158 =>
some (r158.1, [(ae r158.2.1 0), (ae r158.2.1 1), (ae r158.2.1 2)], r158.2.2)).bind fun r150 =>
some (r150.1, [(ae r150.2.1 0), (ae r150.2.1 1), (ae r150.2.1 2)], r150.2.2)).bind fun r137 =>
some (r137.1, [(ae r137.2.1 0), (ae r137.2.1 1), (ae r137.2.1 2)], r137.2.2)).bind fun r110 =>
some (r110.1, [(ae r110.2.1 0), (ae r110.2.1 1), (ae r110.2.1 2)], r110.2.2)).bind fun r74 =>
some (r74.1, [(ae r74.2.1 0), (ae r74.2.1 1), (ae r74.2.1 2)], r74.2.2)).bind fun r53 =>
some (r53.1, [(ae r53.2.1 0), (ae r53.2.1 1), (ae r53.2.1 2)], r53.2.2)).bind fun r42 =>
some (r42.1, [(ae r42.2.1 0), (ae r42.2.1 1), (ae r42.2.1 2)], r42.2.2)).bind fun r31 =>
cc (Ex.bh 0 r31.1) ((call (.func 43) [ah (ae r31.2.1 0), ah (PV.v (.string ⟨#[59]⟩))] r31.2.2).bind fun r194 =>
aL r194 (fun p195 st196 =>
(aj true 58 (ae r31.2.1 2) st196).bind fun p200 =>
(av st.stk.length 58 (ae r31.2.1 1) p200 st196).bind fun st201 =>
(aj true 58 (ae r31.2.1 1) st201).bind fun p202 =>
fin st.stk.length st.tk.length st.lp.length [p202] st201) (fun t197 x198 st199 =>
some (PV.pan t197 x198, st199.back st.stk.length st.tk.length st.lp.length))) fun x193 =>
fE st.stk.length st.tk.length st.lp.length x193 r31.2.2 ((aj true 58 (ae r31.2.1 1) r31.2.2).bind fun p203 =>
fin st.stk.length st.tk.length st.lp.length [p203] r31.2.2)) fun x28 =>
fE st.stk.length st.tk.length st.lp.length x28 r19.2.2 ((aj true 58 (ae r19.2.1 1) r19.2.2).bind fun p204 =>
fin st.stk.length st.tk.length st.lp.length [p204] r19.2.2)
theorem dO (a0 : PV) (st : St) : E L (.func 82) [a0] st = S82 (E L) itE a0 st := (bI (by kernel_rfl) Tryd.func82 _ _).trans (by kernel_rfl)
noncomputable def S45.b0 (call : bF) (it : bP) (base lb : Nat) (vs14 : List PV) (st15 : St) : Option (Ex × List PV × St) :=
(call (.func 40) [ah (ae vs14 0), ah (PV.v (.string ⟨#[125]⟩))] st15).bind fun r16 =>
(aUn Tryd.prog .not r16.1).bind fun p17 =>
aD p17 fun b18 => (bif b18 then
some (Ex.normal, [(ae vs14 0), (ae vs14 1)], r16.2)
else
some ((Ex.exit 0), [(ae vs14 0), (ae vs14 1)], r16.2)).bind fun r19 =>
cc r19.1 ((call (.func 82) [ah (ae r19.2.1 0)] r19.2.2).bind fun r21 =>
aL r21 (fun p22 st23 =>
(aY 58 [.v (.int .i64 0), .v (.string ⟨#[]⟩), .v (.int .i64 0), .v (.int .i64 0), .v (.int .i64 0), .v (.int .u64 0), .v (.int .i64 0), .v (.string ⟨#[]⟩), .v (.string ⟨#[]⟩), .sl [] .nil, .v (.int .i64 0), .v (.int .i64 0), .v (.int .i64 0), .v (.string ⟨#[]⟩), .v (.string ⟨#[]⟩), .v (.int .i64 0), .v (.int .i64 0), .v (.int .u64 0), .v (.int .i64 0), .v (.string ⟨#[]⟩), .v (.string ⟨#[]⟩), .sl [] .nil, .v (.int .i64 0), .v (.int .i64 0), .v (.int .i64 0), .v (.int .i64 0), .v (.string ⟨#[]⟩), .v (.int .i64 0), .v (.int .i64 0), .v (.int .i64 0), .v (.string ⟨#[]⟩), .v (.string ⟨#[]⟩), .v (.int .i64 0), .v (.int .i64 0), .v (.int .u64 0), .v (.int .i64 0), .v (.string ⟨#[]⟩), .v (.string ⟨#[]⟩), .sl [] .nil, .v (.int .i64 0), .v (.int .i64 0), .v (.int .i64 0), .v (.int .i64 0), .v (.int .i64 0), .v (.int .i64 0), .v (.int .u64 0), .v (.int .i64 0), .v (.string ⟨#[]⟩), .v (.string ⟨#[]⟩), .sl [] .nil, .v (.int .i64 0), .v (.int .i64 0), .v (.int .i64 0), .sl [] .nil, .sl [] .nil, .sl [] .nil, .v (.int .i64 0), .v (.int .i64 0)] 1 [(0, p22)]).bind fun p27 =>
(cu st23 p27).bind fun ys28 =>
(dX base [.v (.int .i64 0), .v (.string ⟨#[]⟩), .v (.int .i64 0), .v (.int .i64 0), .v (.int .i64 0), .v (.int .u64 0), .v (.int .i64 0), .v (.string ⟨#[]⟩), .v (.string ⟨#[]⟩), .sl [] .nil, .v (.int .i64 0), .v (.int .i64 0), .v (.int .i64 0), .v (.string ⟨#[]⟩), .v (.string ⟨#[]⟩), .v (.int .i64 0), .v (.int .i64 0), .v (.int .u64 0), .v (.int .i64 0), .v (.string ⟨#[]⟩), .v (.string ⟨#[]⟩), .sl [] .nil, .v (.int .i64 0), .v (.int .i64 0), .v (.int .i64 0), .v (.int .i64 0), .v (.string ⟨#[]⟩), .v (.int .i64 0), .v (.int .i64 0), .v (.int .i64 0), .v (.string ⟨#[]⟩), .v (.string ⟨#[]⟩), .v (.int .i64 0), .v (.int .i64 0), .v (.int .u64 0), .v (.int .i64 0), .v (.string ⟨#[]⟩), .v (.string ⟨#[]⟩), .sl [] .nil, .v (.int .i64 0), .v (.int .i64 0), .v (.int .i64 0), .v (.int .i64 0), .v (.int .i64 0), .v (.int .i64 0), .v (.int .u64 0), .v (.int .i64 0), .v (.string ⟨#[]⟩), .v (.string ⟨#[]⟩), .sl [] .nil, .v (.int .i64 0), .v (.int .i64 0), .v (.int .i64 0), .sl [] .nil, .sl [] .nil, .sl [] .nil, .v (.int .i64 0), .v (.int .i64 0)] 58 688 (ae r19.2.1 1) ys28 st23).bind fun r29 =>
some (Ex.normal, [(ae r19.2.1 0), r29.1], r29.2)) (fun t24 x25 st26 =>
some ((Ex.pan t24 x25), [(ae r19.2.1 0), (ae r19.2.1 1)], st26))) fun x20 =>
some (x20, [(ae r19.2.1 0), (ae r19.2.1 1)], r19.2.2)
noncomputable def S45 (call : bF) (it : bP) (a0 : PV) (st : St) : Option (PV × St) :=
(call (.func 43) [ah a0, ah (PV.v (.string ⟨#[123]⟩))] st).bind fun r1 =>
aL r1 (fun p2 st3 =>
(call (.func 81) [ah a0, ah p2] st3).bind fun r7 =>
aL r7 (fun p8 st9 =>
(it (S45.b0 call it st.stk.length st.lp.length) [a0, (PV.sl [] .nil)] st9).bind fun r13 =>
cc (Ex.bh 0 r13.1) ((aE (ae r13.2.1 0)).bind fun p31 =>
(an p31 2).bind fun p32 =>
(aj false 1 p32 r13.2.2).bind fun p33 =>
(aW Tryd.prog true .sub 3 p33 (PV.v (.int .i64 1))).bind fun p34 =>
(aE (ae r13.2.1 0)).bind fun p35 =>
(an p35 2).bind fun p36 =>
(av st.stk.length 1 p36 p34 r13.2.2).bind fun st37 =>
fin st.stk.length st.tk.length st.lp.length [(ae r13.2.1 1)] st37) fun x30 =>
fE st.stk.length st.tk.length st.lp.length x30 r13.2.2 (fin st.stk.length st.tk.length st.lp.length [PV.u] r13.2.2)) (fun t10 x11 st12 =>
some (PV.pan t10 x11, st12.back st.stk.length st.tk.length st.lp.length))) (fun t4 x5 st6 =>
some (PV.pan t4 x5, st6.back st.stk.length st.tk.length st.lp.length))
theorem tp (a0 : PV) (st : St) : E L (.func 45) [a0] st = S45 (E L) itE a0 st := (bI (by kernel_rfl) Tryd.func45 _ _).trans (by kernel_rfl)
noncomputable def S44.b0 (call : bF) (it : bP) (base lb : Nat) (vs33 : List PV) (st34 : St) : Option (Ex × List PV × St) :=
(an (ae vs33 2) 1).bind fun p35 =>
(aj false 1 p35 st34).bind fun p36 =>
bw (st34 = st34) <|
(call (.func 42) [ah (ae vs33 0)] st34).bind fun r37 =>
aL r37 (fun p38 st39 =>
bw (((aj false 1 p35 st39).bind fun p43 =>
some (Rs.ret p43, st39)) = some (Rs.ret p36, st39)) <|
(aY 5 [.v (.string ⟨#[]⟩), .v (.int .i64 0), .v (.string ⟨#[]⟩), .v (.int .i64 0), .v (.int .i64 0)] 1 [(0, p38)]).bind fun p44 =>
(cu st39 p44).bind fun ys45 =>
(dX base [.v (.string ⟨#[]⟩), .v (.int .i64 0), .v (.string ⟨#[]⟩), .v (.int .i64 0), .v (.int .i64 0)] 5 56 p36 ys45 st39).bind fun r46 =>
(an (ae vs33 2) 1).bind fun p47 =>
(av base 1 p47 r46.1 r46.2).bind fun st48 =>
(call (.func 40) [ah (ae vs33 0), ah (PV.v (.string ⟨#[41]⟩))] st48).bind fun r49 =>
aD r49.1 fun b50 => (bif b50 then
some ((Ex.exit 0), [(ae vs33 0), (ae vs33 1), (ae vs33 2)], r49.2)
else
some (Ex.normal, [(ae vs33 0), (ae vs33 1), (ae vs33 2)], r49.2)).bind fun r51 =>
cc r51.1 ((call (.func 43) [ah (ae r51.2.1 0), ah (PV.v (.string ⟨#[44]⟩))] r51.2.2).bind fun r53 =>
aL r53 (fun p54 st55 =>
some (Ex.normal, [(ae r51.2.1 0), (ae r51.2.1 1), (ae r51.2.1 2)], st55)) (fun t56 x57 st58 =>
some ((Ex.pan t56 x57), [(ae r51.2.1 0), (ae r51.2.1 1), (ae r51.2.1 2)], st58))) fun x52 =>
some ((Ex.bh 1 x52), [(ae r51.2.1 0), (ae r51.2.1 1), (ae r51.2.1 2)], r51.2.2)) (fun t40 x41 st42 =>
some ((Ex.pan t40 x41), [(ae vs33 0), (ae vs33 1), (ae vs33 2)], st42))
noncomputable def S44 (call : bF) (it : bP) (a0 : PV) (st : St) : Option (PV × St) :=
let q2 : PV := .ptr false st.stk.length 0
let st1 := st.push [.v (.string ⟨#[]⟩), .sl [] .nil, .sl [] .nil, .v (.int .i64 0), .v (.int .i64 0)]
(call (.func 79) [ah a0, ah (PV.v (.int .i64 1))] st1).bind fun r3 =>
aL r3 (fun p4 st5 =>
let q10 : PV := .ptr false st5.stk.length 0
let st9 := st5.push [.v (.int .i64 0), .v (.string ⟨#[]⟩), .v (.int .u64 0), .v (.int .i64 0), .v (.int .i64 0)]
(av st.stk.length 5 q10 p4 st9).bind fun st11 =>
(an q10 1).bind fun p12 =>
(aj false 1 p12 st11).bind fun p13 =>
(an q10 3).bind fun p14 =>
(aj false 1 p14 st11).bind fun p15 =>
(an q10 4).bind fun p16 =>
(aj false 1 p16 st11).bind fun p17 =>
(bc [(0, 1), (1, 1), (2, 1), (3, 1), (4, 1)] [.v (.string ⟨#[]⟩), .sl [] .nil, .sl [] .nil, .v (.int .i64 0), .v (.int .i64 0)] [(0, p13), (3, p15), (4, p17)]).bind fun p18 =>
let q20 : PV := .ptr false st11.stk.length 0
let st19 := st11.push [.v (.string ⟨#[]⟩), .sl [] .nil, .sl [] .nil, .v (.int .i64 0), .v (.int .i64 0)]
(av st.stk.length 5 q20 p18 st19).bind fun st21 =>
(call (.func 43) [ah a0, ah (PV.v (.string ⟨#[40]⟩))] st21).bind fun r22 =>
aL r22 (fun p23 st24 =>
(call (.func 40) [ah a0, ah (PV.v (.string ⟨#[41]⟩))] st24).bind fun r28 =>
(aUn Tryd.prog .not r28.1).bind fun p29 =>
aD p29 fun b30 => (bif b30 then
(it (S44.b0 call it st.stk.length st.lp.length) [a0, q2, q20] r28.2).bind fun r32 =>
some ((Ex.bh 0 r32.1), [(ae r32.2.1 0), (ae r32.2.1 1), (ae r32.2.1 2)], r32.2.2)
else
some (Ex.normal, [a0, q2, q20], r28.2)).bind fun r31 =>
cc r31.1 ((call (.func 45) [ah (ae r31.2.1 0)] r31.2.2).bind fun r60 =>
aL r60 (fun p61 st62 =>
(an (ae r31.2.1 2) 2).bind fun p66 =>
(av st.stk.length 1 p66 p61 st62).bind fun st67 =>
(aj true 5 (ae r31.2.1 2) st67).bind fun p68 =>
(av st.stk.length 5 (ae r31.2.1 1) p68 st67).bind fun st69 =>
(aj true 5 (ae r31.2.1 1) st69).bind fun p70 =>
fin st.stk.length st.tk.length st.lp.length [p70] st69) (fun t63 x64 st65 =>
some (PV.pan t63 x64, st65.back st.stk.length st.tk.length st.lp.length))) fun x59 =>
fE st.stk.length st.tk.length st.lp.length x59 r31.2.2 ((aj true 5 (ae r31.2.1 1) r31.2.2).bind fun p71 =>
fin st.stk.length st.tk.length st.lp.length [p71] r31.2.2)) (fun t25 x26 st27 =>
some (PV.pan t25 x26, st27.back st.stk.length st.tk.length st.lp.length))) (fun t6 x7 st8 =>
some (PV.pan t6 x7, st8.back st.stk.length st.tk.length st.lp.length))
theorem nH (a0 : PV) (st : St) : E L (.func 44) [a0] st = S44 (E L) itE a0 st := (bI (by kernel_rfl) Tryd.func44 _ _).trans (by kernel_rfl)
noncomputable def S26.b0 (call : bF) (it : bP) (base lb : Nat) (vs6 : List PV) (st7 : St) : Option (Ex × List PV × St) :=
(call (.func 39) [ah (ae vs6 0)] st7).bind fun r8 =>
let q10 : PV := .ptr false r8.2.stk.length 0
let st9 := r8.2.push [.v (.int .i64 0), .v (.string ⟨#[]⟩), .v (.int .u64 0), .v (.int .i64 0), .v (.int .i64 0)]
(av base 5 q10 r8.1 st9).bind fun st11 =>
(an q10 0).bind fun p12 =>
(aj false 1 p12 st11).bind fun p13 =>
(aW Tryd.prog true .eql 120 p13 (PV.v (.int .i64 0))).bind fun p14 =>
aD p14 fun b15 => (bif b15 then
(aj true 4 (ae vs6 2) st11).bind fun p17 =>
(av base 4 (ae vs6 1) p17 st11).bind fun st18 =>
some (Ex.ret, [(ae vs6 0), (ae vs6 1), (ae vs6 2)], st18)
else
(call (.func 40) [ah (ae vs6 0), ah (PV.v (.string ⟨#[114, 101, 99, 111, 114, 100]⟩))] st11).bind fun r19 =>
aD r19.1 fun b20 => (bif b20 then
(an (ae vs6 2) 0).bind fun p22 =>
(aj false 1 p22 r19.2).bind fun p23 =>
bw (r19.2 = r19.2) <|
(call (.func 41) [ah (ae vs6 0)] r19.2).bind fun r24 =>
aL r24 (fun p25 st26 =>
bw (((aj false 1 p22 st26).bind fun p30 =>
some (Rs.ret p30, st26)) = some (Rs.ret p23, st26)) <|
(aY 4 [.v (.string ⟨#[]⟩), .sl [] .nil, .v (.int .i64 0), .v (.int .i64 0)] 1 [(0, p25)]).bind fun p31 =>
(cu st26 p31).bind fun ys32 =>
(dX base [.v (.string ⟨#[]⟩), .sl [] .nil, .v (.int .i64 0), .v (.int .i64 0)] 4 56 p23 ys32 st26).bind fun r33 =>
(an (ae vs6 2) 0).bind fun p34 =>
(av base 1 p34 r33.1 r33.2).bind fun st35 =>
some (Ex.normal, [(ae vs6 0), (ae vs6 1), (ae vs6 2)], st35)) (fun t27 x28 st29 =>
some ((Ex.pan t27 x28), [(ae vs6 0), (ae vs6 1), (ae vs6 2)], st29))
else
(call (.func 40) [ah (ae vs6 0), ah (PV.v (.string ⟨#[103, 108, 111, 98, 97, 108]⟩))] r19.2).bind fun r36 =>
aD r36.1 fun b37 => (bif b37 then
(an (ae vs6 2) 1).bind fun p39 =>
(aj false 1 p39 r36.2).bind fun p40 =>
bw (r36.2 = r36.2) <|
(call (.func 42) [ah (ae vs6 0)] r36.2).bind fun r41 =>
aL r41 (fun p42 st43 =>
bw (((aj false 1 p39 st43).bind fun p47 =>
some (Rs.ret p47, st43)) = some (Rs.ret p40, st43)) <|
(aY 5 [.v (.string ⟨#[]⟩), .v (.int .i64 0), .v (.string ⟨#[]⟩), .v (.int .i64 0), .v (.int .i64 0)] 1 [(0, p42)]).bind fun p48 =>
(cu st43 p48).bind fun ys49 =>
(dX base [.v (.string ⟨#[]⟩), .v (.int .i64 0), .v (.string ⟨#[]⟩), .v (.int .i64 0), .v (.int .i64 0)] 5 56 p40 ys49 st43).bind fun r50 =>
(an (ae vs6 2) 1).bind fun p51 =>
(av base 1 p51 r50.1 r50.2).bind fun st52 =>
(call (.func 43) [ah (ae vs6 0), ah (PV.v (.string ⟨#[59]⟩))] st52).bind fun r53 =>
aL r53 (fun p54 st55 =>
some (Ex.normal, [(ae vs6 0), (ae vs6 1), (ae vs6 2)], st55)) (fun t56 x57 st58 =>
some ((Ex.pan t56 x57), [(ae vs6 0), (ae vs6 1), (ae vs6 2)], st58))) (fun t44 x45 st46 =>
some ((Ex.pan t44 x45), [(ae vs6 0), (ae vs6 1), (ae vs6 2)], st46))
else
(call (.func 40) [ah (ae vs6 0), ah (PV.v (.string ⟨#[102, 117, 110]⟩))] r36.2).bind fun r59 =>
aD r59.1 fun b60 => (bif b60 then
(an (ae vs6 2) 2).bind fun p62 =>
(aj false 1 p62 r59.2).bind fun p63 =>
bw (r59.2 = r59.2) <|
(call (.func 44) [ah (ae vs6 0)] r59.2).bind fun r64 =>
aL r64 (fun p65 st66 =>
bw (((aj false 1 p62 st66).bind fun p70 =>
some (Rs.ret p70, st66)) = some (Rs.ret p63, st66)) <|
(aY 5 [.v (.string ⟨#[]⟩), .sl [] .nil, .sl [] .nil, .v (.int .i64 0), .v (.int .i64 0)] 1 [(0, p65)]).bind fun p71 =>
(cu st66 p71).bind fun ys72 =>
(dX base [.v (.string ⟨#[]⟩), .sl [] .nil, .sl [] .nil, .v (.int .i64 0), .v (.int .i64 0)] 5 80 p63 ys72 st66).bind fun r73 =>
(an (ae vs6 2) 2).bind fun p74 =>
(av base 1 p74 r73.1 r73.2).bind fun st75 =>
some (Ex.normal, [(ae vs6 0), (ae vs6 1), (ae vs6 2)], st75)) (fun t67 x68 st69 =>
some ((Ex.pan t67 x68), [(ae vs6 0), (ae vs6 1), (ae vs6 2)], st69))
else
(call (.func 40) [ah (ae vs6 0), ah (PV.v (.string ⟨#[116, 104, 114, 101, 97, 100]⟩))] r59.2).bind fun r76 =>
aD r76.1 fun b77 => (bif b77 then
(an (ae vs6 2) 3).bind fun p79 =>
(aj false 1 p79 r76.2).bind fun p80 =>
bw (r76.2 = r76.2) <|
(call (.func 45) [ah (ae vs6 0)] r76.2).bind fun r81 =>
aL r81 (fun p82 st83 =>
bw (((aj false 1 p79 st83).bind fun p87 =>
some (Rs.ret p87, st83)) = some (Rs.ret p80, st83)) <|
(an q10 3).bind fun p88 =>
(aj false 1 p88 st83).bind fun p89 =>
bw (st83 = st83) <|
bw (((aj false 1 p88 r76.2).bind fun p90 =>
some (Rs.ret p90, r76.2)) = some (Rs.ret p89, r76.2)) <|
(an q10 4).bind fun p91 =>
(aj false 1 p91 st83).bind fun p92 =>
bw (st83 = st83) <|
bw (((aj false 1 p91 r76.2).bind fun p93 =>
some (Rs.ret p93, r76.2)) = some (Rs.ret p92, r76.2)) <|
(bc [(0, 1), (1, 1), (2, 1)] [.sl [] .nil, .v (.int .i64 0), .v (.int .i64 0)] [(0, p82), (1, p89), (2, p92)]).bind fun p94 =>
(aY 3 [.sl [] .nil, .v (.int .i64 0), .v (.int .i64 0)] 1 [(0, p94)]).bind fun p95 =>
(cu st83 p95).bind fun ys96 =>
(dX base [.sl [] .nil, .v (.int .i64 0), .v (.int .i64 0)] 3 40 p80 ys96 st83).bind fun r97 =>
(an (ae vs6 2) 3).bind fun p98 =>
(av base 1 p98 r97.1 r97.2).bind fun st99 =>
some (Ex.normal, [(ae vs6 0), (ae vs6 1), (ae vs6 2)], st99)) (fun t84 x85 st86 =>
(an q10 3).bind fun p100 =>
(aj false 1 p100 r76.2).bind fun p101 =>
bw (r76.2 = r76.2) <|
(an q10 4).bind fun p102 =>
(aj false 1 p102 r76.2).bind fun p103 =>
bw (r76.2 = r76.2) <|
some ((Ex.pan t84 x85), [(ae vs6 0), (ae vs6 1), (ae vs6 2)], st86))
else
(aj true 5 q10 r76.2).bind fun p104 =>
(call (.func 46) [ah (ae vs6 0), ah (PV.v (.int .i64 4)), ah p104] r76.2).bind fun r105 =>
aL r105 (fun p106 st107 =>
some (Ex.normal, [(ae vs6 0), (ae vs6 1), (ae vs6 2)], st107)) (fun t108 x109 st110 =>
some ((Ex.pan t108 x109), [(ae vs6 0), (ae vs6 1), (ae vs6 2)], st110))).bind fun r78 =>
some (r78.1, [(ae r78.2.1 0), (ae r78.2.1 1), (ae r78.2.1 2)], r78.2.2)).bind fun r61 =>
some (r61.1, [(ae r61.2.1 0), (ae r61.2.1 1), (ae r61.2.1 2)], r61.2.2)).bind fun r38 =>
some (r38.1, [(ae r38.2.1 0), (ae r38.2.1 1), (ae r38.2.1 2)], r38.2.2)).bind fun r21 =>
some (r21.1, [(ae r21.2.1 0), (ae r21.2.1 1), (ae r21.2.1 2)], r21.2.2)).bind fun r16 =>
il base lb st7.stk.length (Ex.bh 1 (Ex.bh 2 r16.1)) [(ae r16.2.1 0), (ae r16.2.1 1), (ae r16.2.1 2)] r16.2.2
noncomputable def S26 (call : bF) (it : bP) (a0 : PV) (st : St) : Option (PV × St) :=
let q2 : PV := .ptr false st.stk.length 0
let st1 := st.push [.sl [] .nil, .sl [] .nil, .sl [] .nil, .sl [] .nil]
let q4 : PV := .ptr false st1.stk.length 0
let st3 := st1.push [.sl [] .nil, .sl [] .nil, .sl [] .nil, .sl [] .nil]
(it (S26.b0 call it st.stk.length st.lp.length) [a0, q2, q4] st3).bind fun r5 =>
fE st.stk.length st.tk.length st.lp.length (Ex.bh 0 r5.1) r5.2.2 ((aj true 4 (ae r5.2.1 1) r5.2.2).bind fun p111 =>
fin st.stk.length st.tk.length st.lp.length [p111] r5.2.2)
theorem zY (a0 : PV) (st : St) : E L (.func 26) [a0] st = S26 (E L) itE a0 st := (bI (by kernel_rfl) Tryd.func26 _ _).trans (by kernel_rfl)
noncomputable def S9 (call : bF) (it : bP) (st : St) : Option (PV × St) :=
(call (.func 10) [ah (PV.v (.string ⟨#[116, 104, 114, 101, 97, 100, 32, 123, 32, 112, 114, 105, 110, 116, 32, 49, 32, 43, 32, 50, 32, 42, 32, 51, 59, 32, 125]⟩))] st).bind fun r1 =>
(aT r1.1 0).bind fun p2 =>
(aT r1.1 1).bind fun p3 =>
let q5 : PV := .ptr false r1.2.stk.length 0
let st4 := r1.2.push [.sl [] .nil, .sl [] .nil, .sl [] .nil, .sl [] .nil]
let q7 : PV := .ptr false st4.stk.length 0
let st6 := st4.push [.v (.int .i64 0), .v (.int .i64 0), .v (.int .i64 0)]
(av st.stk.length 4 q5 p2 st6).bind fun st8 =>
(av st.stk.length 3 q7 p3 st8).bind fun st9 =>
(call (.func 10) [ah (PV.v (.string ⟨#[116, 104, 114, 101, 97, 100, 32, 123, 32, 112, 114, 105, 110, 116, 32, 59, 32, 125]⟩))] st9).bind fun r10 =>
(aT r10.1 0).bind fun p11 =>
(aT r10.1 1).bind fun p12 =>
let q14 : PV := .ptr false r10.2.stk.length 0
let st13 := r10.2.push [.sl [] .nil, .sl [] .nil, .sl [] .nil, .sl [] .nil]
let q16 : PV := .ptr false st13.stk.length 0
let st15 := st13.push [.v (.int .i64 0), .v (.int .i64 0), .v (.int .i64 0)]
(av st.stk.length 4 q14 p11 st15).bind fun st17 =>
(av st.stk.length 3 q16 p12 st17).bind fun st18 =>
(aj true 3 q7 st18).bind fun p19 =>
(bc [(0, 1), (1, 1), (2, 1)] [.v (.int .i64 0), .v (.int .i64 0), .v (.int .i64 0)] []).bind fun p20 =>
(aW Tryd.prog false .eql 38 p19 p20).bind fun p21 =>
(onG p21 true (
(an q5 3).bind fun p24 =>
some (p24, st18)) st18).bind fun r23 =>
(onG p21 true (
(aj false 1 r23.1 r23.2).bind fun p27 =>
some (p27, r23.2)) r23.2).bind fun r26 =>
(onG p21 true (
(gW Tryd.prog 27 r26.1).bind fun p30 =>
some (p30, r26.2)) r26.2).bind fun r29 =>
(onG p21 true (
(aW Tryd.prog true .eql 3 r29.1 (PV.v (.int .i64 1))).bind fun p33 =>
some (p33, r29.2)) r29.2).bind fun r32 =>
(bQ p21 r32.1 (PV.v (.bool false))).bind fun p34 =>
(onG p34 true (
(an q5 3).bind fun p37 =>
some (p37, r32.2)) r32.2).bind fun r36 =>
(onG p34 true (
(aj false 1 r36.1 r36.2).bind fun p40 =>
some (p40, r36.2)) r36.2).bind fun r39 =>
(onG p34 true (
(bN Tryd.prog 27 r39.1 (PV.v (.int .i64 0))).bind fun p43 =>
some (p43, r39.2)) r39.2).bind fun r42 =>
(onG p34 true (
(an r42.1 0).bind fun p46 =>
some (p46, r42.2)) r42.2).bind fun r45 =>
(onG p34 true (
(aj false 1 r45.1 r45.2).bind fun p49 =>
some (p49, r45.2)) r45.2).bind fun r48 =>
(onG p34 true (
(gW Tryd.prog 32 r48.1).bind fun p52 =>
some (p52, r48.2)) r48.2).bind fun r51 =>
(onG p34 true (
(aW Tryd.prog true .eql 3 r51.1 (PV.v (.int .i64 1))).bind fun p55 =>
some (p55, r51.2)) r51.2).bind fun r54 =>
(bQ p34 r54.1 (PV.v (.bool false))).bind fun p56 =>
(onG p56 true (
(an q5 3).bind fun p59 =>
some (p59, r54.2)) r54.2).bind fun r58 =>
(onG p56 true (
(aj false 1 r58.1 r58.2).bind fun p62 =>
some (p62, r58.2)) r58.2).bind fun r61 =>
(onG p56 true (
(bN Tryd.prog 27 r61.1 (PV.v (.int .i64 0))).bind fun p65 =>
some (p65, r61.2)) r61.2).bind fun r64 =>
(onG p56 true (
(an r64.1 0).bind fun p68 =>
some (p68, r64.2)) r64.2).bind fun r67 =>
(onG p56 true (
(aj false 1 r67.1 r67.2).bind fun p71 =>
some (p71, r67.2)) r67.2).bind fun r70 =>
(onG p56 true (
(bN Tryd.prog 32 r70.1 (PV.v (.int .i64 0))).bind fun p74 =>
some (p74, r70.2)) r70.2).bind fun r73 =>
(onG p56 true (
(an r73.1 0).bind fun p77 =>
some (p77, r73.2)) r73.2).bind fun r76 =>
(onG p56 true (
(aj false 1 r76.1 r76.2).bind fun p80 =>
some (p80, r76.2)) r76.2).bind fun r79 =>
(onG p56 true (
(aW Tryd.prog true .eql 3 r79.1 (PV.v (.int .i64 5))).bind fun p83 =>
some (p83, r79.2)) r79.2).bind fun r82 =>
(bQ p56 r82.1 (PV.v (.bool false))).bind fun p84 =>
(onG p84 true (
(an q5 3).bind fun p87 =>
some (p87, r82.2)) r82.2).bind fun r86 =>
(onG p84 true (
(aj false 1 r86.1 r86.2).bind fun p90 =>
some (p90, r86.2)) r86.2).bind fun r89 =>
(onG p84 true (
(bN Tryd.prog 27 r89.1 (PV.v (.int .i64 0))).bind fun p93 =>
some (p93, r89.2)) r89.2).bind fun r92 =>
(onG p84 true (
(an r92.1 0).bind fun p96 =>
some (p96, r92.2)) r92.2).bind fun r95 =>
(onG p84 true (
(aj false 1 r95.1 r95.2).bind fun p99 =>
some (p99, r95.2)) r95.2).bind fun r98 =>
(onG p84 true (
(bN Tryd.prog 32 r98.1 (PV.v (.int .i64 0))).bind fun p102 =>
some (p102, r98.2)) r98.2).bind fun r101 =>
(onG p84 true (
(an r101.1 43).bind fun p105 =>
some (p105, r101.2)) r101.2).bind fun r104 =>
(onG p84 true (
(an r104.1 6).bind fun p108 =>
some (p108, r104.2)) r104.2).bind fun r107 =>
(onG p84 true (
(aj false 1 r107.1 r107.2).bind fun p111 =>
some (p111, r107.2)) r107.2).bind fun r110 =>
(onG p84 true (
(gW Tryd.prog 48 r110.1).bind fun p114 =>
some (p114, r110.2)) r110.2).bind fun r113 =>
(onG p84 true (
(aW Tryd.prog true .eql 3 r113.1 (PV.v (.int .i64 2))).bind fun p117 =>
some (p117, r113.2)) r113.2).bind fun r116 =>
(bQ p84 r116.1 (PV.v (.bool false))).bind fun p118 =>
(onG p118 true (
(an q5 3).bind fun p121 =>
some (p121, r116.2)) r116.2).bind fun r120 =>
(onG p118 true (
(aj false 1 r120.1 r120.2).bind fun p124 =>
some (p124, r120.2)) r120.2).bind fun r123 =>
(onG p118 true (
(bN Tryd.prog 27 r123.1 (PV.v (.int .i64 0))).bind fun p127 =>
some (p127, r123.2)) r123.2).bind fun r126 =>
(onG p118 true (
(an r126.1 0).bind fun p130 =>
some (p130, r126.2)) r126.2).bind fun r129 =>
(onG p118 true (
(aj false 1 r129.1 r129.2).bind fun p133 =>
some (p133, r129.2)) r129.2).bind fun r132 =>
(onG p118 true (
(bN Tryd.prog 32 r132.1 (PV.v (.int .i64 0))).bind fun p136 =>
some (p136, r132.2)) r132.2).bind fun r135 =>
(onG p118 true (
(an r135.1 43).bind fun p139 =>
some (p139, r135.2)) r135.2).bind fun r138 =>
(onG p118 true (
(an r138.1 6).bind fun p142 =>
some (p142, r138.2)) r138.2).bind fun r141 =>
(onG p118 true (
(aj false 1 r141.1 r141.2).bind fun p145 =>
some (p145, r141.2)) r141.2).bind fun r144 =>
(onG p118 true (
(bN Tryd.prog 48 r144.1 (PV.v (.int .i64 1))).bind fun p148 =>
some (p148, r144.2)) r144.2).bind fun r147 =>
(onG p118 true (
(an r147.1 1).bind fun p151 =>
some (p151, r147.2)) r147.2).bind fun r150 =>
(onG p118 true (
(aj false 1 r150.1 r150.2).bind fun p154 =>
some (p154, r150.2)) r150.2).bind fun r153 =>
(onG p118 true (
(aW Tryd.prog true .eql 3 r153.1 (PV.v (.int .i64 2))).bind fun p157 =>
some (p157, r153.2)) r153.2).bind fun r156 =>
(bQ p118 r156.1 (PV.v (.bool false))).bind fun p158 =>
(onG p158 true (
(aj true 3 q16 r156.2).bind fun p161 =>
some (p161, r156.2)) r156.2).bind fun r160 =>
(onG p158 true (
(bc [(0, 1), (1, 1), (2, 1)] [.v (.int .i64 0), .v (.int .i64 0), .v (.int .i64 0)] [(0, (PV.v (.int .i64 4))), (1, (PV.v (.int .i64 1))), (2, (PV.v (.int .i64 16)))]).bind fun p164 =>
some (p164, r160.2)) r160.2).bind fun r163 =>
(onG p158 true (
(aW Tryd.prog false .eql 38 r160.1 r163.1).bind fun p167 =>
some (p167, r163.2)) r163.2).bind fun r166 =>
(bQ p158 r166.1 (PV.v (.bool false))).bind fun p168 =>
fin st.stk.length st.tk.length st.lp.length [p168] r166.2
theorem EY (st : St) : E L (.func 9) [] st = S9 (E L) itE st := (bI (by kernel_rfl) Tryd.func9 _ _).trans (by kernel_rfl)
noncomputable def S11.b0 (call : bF) (it : bP) (base lb : Nat) (vs9 : List PV) (st10 : St) : Option (Ex × List PV × St) :=
(aW Tryd.prog false .lss 3 (ae vs9 4) (ae vs9 3)).bind fun p11 =>
aD p11 fun b12 => (bif b12 then
some (Ex.normal, [(ae vs9 0), (ae vs9 1), (ae vs9 2), (ae vs9 3), (ae vs9 4)], st10)
else
some ((Ex.exit 0), [(ae vs9 0), (ae vs9 1), (ae vs9 2), (ae vs9 3), (ae vs9 4)], st10)).bind fun r13 =>
cc r13.1 ((bN Tryd.prog 43 (ae r13.2.1 0) (ae r13.2.1 4)).bind fun p15 =>
(aj false 1 p15 r13.2.2).bind fun p16 =>
bw (r13.2.2 = r13.2.2) <|
(bN Tryd.prog 43 (ae r13.2.1 1) (ae r13.2.1 4)).bind fun p17 =>
(aj false 1 p17 r13.2.2).bind fun p18 =>
bw (r13.2.2 = r13.2.2) <|
(aW Tryd.prog false .neq 9 p16 p18).bind fun p19 =>
aD p19 fun b20 => (bif b20 then
some (Ex.ret, [(ae r13.2.1 0), (ae r13.2.1 1), (PV.v (.bool false)), (ae r13.2.1 3), (ae r13.2.1 4)], r13.2.2)
else
some (Ex.normal, [(ae r13.2.1 0), (ae r13.2.1 1), (ae r13.2.1 2), (ae r13.2.1 3), (ae r13.2.1 4)], r13.2.2)).bind fun r21 =>
cc (Ex.bh 1 r21.1) ((aW Tryd.prog true .add 3 (ae r21.2.1 4) (PV.v (.int .i64 1))).bind fun p23 =>
some (Ex.normal, [(ae r21.2.1 0), (ae r21.2.1 1), (ae r21.2.1 2), (ae r21.2.1 3), p23], r21.2.2)) fun x22 =>
some (x22, [(ae r21.2.1 0), (ae r21.2.1 1), (ae r21.2.1 2), (ae r21.2.1 3), (ae r21.2.1 4)], r21.2.2)) fun x14 =>
some (x14, [(ae r13.2.1 0), (ae r13.2.1 1), (ae r13.2.1 2), (ae r13.2.1 3), (ae r13.2.1 4)], r13.2.2)
noncomputable def S11 (call : bF) (it : bP) (a0 a1 : PV) (st : St) : Option (PV × St) :=
(gW Tryd.prog 43 a0).bind fun p1 =>
(gW Tryd.prog 43 a1).bind fun p2 =>
(aW Tryd.prog false .neq 3 p1 p2).bind fun p3 =>
aD p3 fun b4 => (bif b4 then
some (Ex.ret, [a0, a1, (PV.v (.bool false))], st)
else
some (Ex.normal, [a0, a1, (PV.v (.bool false))], st)).bind fun r5 =>
cc r5.1 ((gW Tryd.prog 43 (ae r5.2.1 0)).bind fun p7 =>
(it (S11.b0 call it st.stk.length st.lp.length) [(ae r5.2.1 0), (ae r5.2.1 1), (ae r5.2.1 2), p7, (PV.v (.int .i64 0))] r5.2.2).bind fun r8 =>
cc (Ex.bh 0 r8.1) (fin st.stk.length st.tk.length st.lp.length [(PV.v (.bool true))] r8.2.2) fun x24 =>
eB x24 (fin st.stk.length st.tk.length st.lp.length [(ae r8.2.1 2)] r8.2.2)) fun x6 =>
eB x6 (fin st.stk.length st.tk.length st.lp.length [(ae r5.2.1 2)] r5.2.2)
theorem DX (a0 a1 : PV) (st : St) : E L (.func 11) [a0, a1] st = S11 (E L) itE a0 a1 st := (bI (by kernel_rfl) Tryd.func11 _ _).trans (by kernel_rfl)
noncomputable def S27 (call : bF) (it : bP) (a0 : PV) (st : St) : Option (PV × St) :=
(eZ Tryd.prog 3 45 a0).bind fun p1 =>
(eZ Tryd.prog 45 5 p1).bind fun p2 =>
(aW Tryd.prog true .shr 45 p1 (PV.v (.int .u64 8))).bind fun p3 =>
(eZ Tryd.prog 45 5 p3).bind fun p4 =>
(aW Tryd.prog true .shr 45 p1 (PV.v (.int .u64 16))).bind fun p5 =>
(eZ Tryd.prog 45 5 p5).bind fun p6 =>
(aW Tryd.prog true .shr 45 p1 (PV.v (.int .u64 24))).bind fun p7 =>
(eZ Tryd.prog 45 5 p7).bind fun p8 =>
(aW Tryd.prog true .shr 45 p1 (PV.v (.int .u64 32))).bind fun p9 =>
(eZ Tryd.prog 45 5 p9).bind fun p10 =>
(aW Tryd.prog true .shr 45 p1 (PV.v (.int .u64 40))).bind fun p11 =>
(eZ Tryd.prog 45 5 p11).bind fun p12 =>
(aW Tryd.prog true .shr 45 p1 (PV.v (.int .u64 48))).bind fun p13 =>
(eZ Tryd.prog 45 5 p13).bind fun p14 =>
(aW Tryd.prog true .shr 45 p1 (PV.v (.int .u64 56))).bind fun p15 =>
(eZ Tryd.prog 45 5 p15).bind fun p16 =>
(aY 1 [.v (.int .u8 0)] 8 [(0, p2), (1, p4), (2, p6), (3, p8), (4, p10), (5, p12), (6, p14), (7, p16)]).bind fun p17 =>
(eZ Tryd.prog 74 9 p17).bind fun p18 =>
fin st.stk.length st.tk.length st.lp.length [p18] st
theorem D3 (a0 : PV) (st : St) : E L (.func 27) [a0] st = S27 (E L) itE a0 st := (bI (by kernel_rfl) Tryd.func27 _ _).trans (by kernel_rfl)
noncomputable def S12.b0 (call : bF) (it : bP) (base lb : Nat) (vs32 : List PV) (st33 : St) : Option (Ex × List PV × St) :=
(aW Tryd.prog false .lss 3 (ae vs32 3) (ae vs32 2)).bind fun p34 =>
aD p34 fun b35 => (bif b35 then
some (Ex.normal, [(ae vs32 0), (ae vs32 1), (ae vs32 2), (ae vs32 3)], st33)
else
some ((Ex.exit 0), [(ae vs32 0), (ae vs32 1), (ae vs32 2), (ae vs32 3)], st33)).bind fun r36 =>
cc r36.1 ((bN Tryd.prog 48 (ae r36.2.1 1) (ae r36.2.1 3)).bind fun p38 =>
(aj true 9 p38 r36.2.2).bind fun p39 =>
let q41 : PV := .ptr false r36.2.2.stk.length 0
let st40 := r36.2.2.push [.v (.int .i64 0), .v (.int .i64 0), .v (.int .u64 0), .v (.int .i64 0), .v (.string ⟨#[]⟩), .v (.string ⟨#[]⟩), .sl [] .nil, .v (.int .i64 0), .v (.int .i64 0)]
(av base 9 q41 p39 st40).bind fun st42 =>
(aj true 9 q41 st42).bind fun p43 =>
(call (.func 12) [ah p43] st42).bind fun r44 =>
(cu r44.2 r44.1).bind fun ys45 =>
(dX base [.v (.string ⟨#[]⟩)] 1 16 (ae r36.2.1 0) ys45 r44.2).bind fun r46 =>
(aW Tryd.prog true .add 3 (ae r36.2.1 3) (PV.v (.int .i64 1))).bind fun p47 =>
il base lb st33.stk.length Ex.normal [r46.1, (ae r36.2.1 1), (ae r36.2.1 2), p47] r46.2) fun x37 =>
il base lb st33.stk.length x37 [(ae r36.2.1 0), (ae r36.2.1 1), (ae r36.2.1 2), (ae r36.2.1 3)] r36.2.2
noncomputable def S12 (call : bF) (it : bP) (a0 : PV) (st : St) : Option (PV × St) :=
(cellsOf a0).bind fun b1 =>
let q3 : PV := .ptr false st.stk.length 0
let st2 := st.push b1
(an q3 0).bind fun p4 =>
(aj false 1 p4 st2).bind fun p5 =>
bw (st2 = st2) <|
(call (.func 27) [ah p5] st2).bind fun r6 =>
bw (r6.2 = st2) <|
(an q3 1).bind fun p7 =>
(aj false 1 p7 st2).bind fun p8 =>
bw (st2 = st2) <|
(call (.func 27) [ah p8] st2).bind fun r9 =>
bw (r9.2 = st2) <|
(an q3 2).bind fun p10 =>
(aj false 1 p10 st2).bind fun p11 =>
bw (st2 = st2) <|
(eZ Tryd.prog 45 3 p11).bind fun p12 =>
(call (.func 27) [ah p12] st2).bind fun r13 =>
bw (r13.2 = st2) <|
(an q3 3).bind fun p14 =>
(an p14 0).bind fun p15 =>
(aj false 1 p15 st2).bind fun p16 =>
bw (st2 = st2) <|
(call (.func 27) [ah p16] st2).bind fun r17 =>
bw (r17.2 = st2) <|
(an q3 3).bind fun p18 =>
(an p18 1).bind fun p19 =>
(aj false 1 p19 st2).bind fun p20 =>
bw (st2 = st2) <|
(an q3 5).bind fun p21 =>
(aj false 1 p21 st2).bind fun p22 =>
bw (st2 = st2) <|
(an q3 6).bind fun p23 =>
(aj false 1 p23 st2).bind fun p24 =>
bw (st2 = st2) <|
(gW Tryd.prog 48 p24).bind fun p25 =>
(call (.func 27) [ah p25] st2).bind fun r26 =>
bw (r26.2 = st2) <|
(aY 1 [.v (.string ⟨#[]⟩)] 8 [(0, (PV.v (.string ⟨#[101, 120, 112, 114]⟩))), (1, r6.1), (2, r9.1), (3, r13.1), (4, r17.1), (5, p20), (6, p22), (7, r26.1)]).bind fun p27 =>
(an q3 6).bind fun p28 =>
(aj false 1 p28 st2).bind fun p29 =>
(gW Tryd.prog 48 p29).bind fun p30 =>
(it (S12.b0 call it st.stk.length st.lp.length) [p27, p29, p30, (PV.v (.int .i64 0))] st2).bind fun r31 =>
cc (Ex.bh 0 r31.1) (fin st.stk.length st.tk.length st.lp.length [(ae r31.2.1 0)] r31.2.2) fun x48 =>
eB x48 (fin st.stk.length st.tk.length st.lp.length [PV.u] r31.2.2)
theorem DZ (a0 : PV) (st : St) : E L (.func 12) [a0] st = S12 (E L) itE a0 st := (bI (by kernel_rfl) Tryd.func12 _ _).trans (by kernel_rfl)
noncomputable def S5 (call : bF) (it : bP) (a0 : PV) (st : St) : Option (PV × St) :=
(call (.func 9) [] st).bind fun r1 =>
(aUn Tryd.prog .not r1.1).bind fun p2 =>
aD p2 fun b3 => (bif b3 then
some (Ex.ret, [a0, (PV.v (.bool false))], r1.2)
else
some (Ex.normal, [a0, (PV.v (.bool false))], r1.2)).bind fun r4 =>
cc r4.1 ((gW Tryd.prog 9 (ae r4.2.1 0)).bind fun p6 =>
(aW Tryd.prog true .gtr 3 p6 (PV.v (.int .i64 4096))).bind fun p7 =>
aD p7 fun b8 => (bif b8 then
some (Ex.ret, [(ae r4.2.1 0), (PV.v (.bool true))], r4.2.2)
else
some (Ex.normal, [(ae r4.2.1 0), (ae r4.2.1 1)], r4.2.2)).bind fun r9 =>
cc r9.1 ((aW Tryd.prog true .add 9 (PV.v (.string ⟨#[116, 104, 114, 101, 97, 100, 32, 123, 32, 112, 114, 105, 110, 116, 10]⟩)) (ae r9.2.1 0)).bind fun p11 =>
(aW Tryd.prog true .add 9 p11 (PV.v (.string ⟨#[10, 59, 32, 125]⟩))).bind fun p12 =>
(call (.func 10) [ah p12] r9.2.2).bind fun r13 =>
(aT r13.1 0).bind fun p14 =>
(aT r13.1 1).bind fun p15 =>
let q17 : PV := .ptr false r13.2.stk.length 0
let st16 := r13.2.push [.sl [] .nil, .sl [] .nil, .sl [] .nil, .sl [] .nil]
let q19 : PV := .ptr false st16.stk.length 0
let st18 := st16.push [.v (.int .i64 0), .v (.int .i64 0), .v (.int .i64 0)]
(av st.stk.length 4 q17 p14 st18).bind fun st20 =>
(av st.stk.length 3 q19 p15 st20).bind fun st21 =>
(aW Tryd.prog true .add 9 (PV.v (.string ⟨#[116, 104, 114, 101, 97, 100, 32, 123, 32, 112, 114, 105, 110, 116, 32, 40, 10]⟩)) (ae r9.2.1 0)).bind fun p22 =>
(aW Tryd.prog true .add 9 p22 (PV.v (.string ⟨#[10, 41, 59, 32, 125]⟩))).bind fun p23 =>
(call (.func 10) [ah p23] st21).bind fun r24 =>
(aT r24.1 0).bind fun p25 =>
(aT r24.1 1).bind fun p26 =>
let q28 : PV := .ptr false r24.2.stk.length 0
let st27 := r24.2.push [.sl [] .nil, .sl [] .nil, .sl [] .nil, .sl [] .nil]
let q30 : PV := .ptr false st27.stk.length 0
let st29 := st27.push [.v (.int .i64 0), .v (.int .i64 0), .v (.int .i64 0)]
(av st.stk.length 4 q28 p25 st29).bind fun st31 =>
(av st.stk.length 3 q30 p26 st31).bind fun st32 =>
(aj true 3 q19 st32).bind fun p33 =>
(bc [(0, 1), (1, 1), (2, 1)] [.v (.int .i64 0), .v (.int .i64 0), .v (.int .i64 0)] []).bind fun p34 =>
(aW Tryd.prog false .neq 38 p33 p34).bind fun p35 =>
(onG p35 false (
(aj true 3 q30 st32).bind fun p38 =>
some (p38, st32)) st32).bind fun r37 =>
(onG p35 false (
(bc [(0, 1), (1, 1), (2, 1)] [.v (.int .i64 0), .v (.int .i64 0), .v (.int .i64 0)] []).bind fun p41 =>
some (p41, r37.2)) r37.2).bind fun r40 =>
(onG p35 false (
(aW Tryd.prog false .neq 38 r37.1 r40.1).bind fun p44 =>
some (p44, r40.2)) r40.2).bind fun r43 =>
(bQ p35 (PV.v (.bool true)) r43.1).bind fun p45 =>
(onG p45 false (
(an q17 3).bind fun p48 =>
some (p48, r43.2)) r43.2).bind fun r47 =>
(onG p45 false (
(aj false 1 r47.1 r47.2).bind fun p51 =>
some (p51, r47.2)) r47.2).bind fun r50 =>
(onG p45 false (
(gW Tryd.prog 27 r50.1).bind fun p54 =>
some (p54, r50.2)) r50.2).bind fun r53 =>
(onG p45 false (
(aW Tryd.prog true .neq 3 r53.1 (PV.v (.int .i64 1))).bind fun p57 =>
some (p57, r53.2)) r53.2).bind fun r56 =>
(bQ p45 (PV.v (.bool true)) r56.1).bind fun p58 =>
(onG p58 false (
(an q17 3).bind fun p61 =>
some (p61, r56.2)) r56.2).bind fun r60 =>
(onG p58 false (
(aj false 1 r60.1 r60.2).bind fun p64 =>
some (p64, r60.2)) r60.2).bind fun r63 =>
(onG p58 false (
(bN Tryd.prog 27 r63.1 (PV.v (.int .i64 0))).bind fun p67 =>
some (p67, r63.2)) r63.2).bind fun r66 =>
(onG p58 false (
(an r66.1 0).bind fun p70 =>
some (p70, r66.2)) r66.2).bind fun r69 =>
(onG p58 false (
(aj false 1 r69.1 r69.2).bind fun p73 =>
some (p73, r69.2)) r69.2).bind fun r72 =>
(onG p58 false (
(gW Tryd.prog 32 r72.1).bind fun p76 =>
some (p76, r72.2)) r72.2).bind fun r75 =>
(onG p58 false (
(aW Tryd.prog true .neq 3 r75.1 (PV.v (.int .i64 1))).bind fun p79 =>
some (p79, r75.2)) r75.2).bind fun r78 =>
(bQ p58 (PV.v (.bool true)) r78.1).bind fun p80 =>
aD p80 fun b81 => (bif b81 then
some (Ex.ret, [(PV.v (.bool true)), q17, q28], r78.2)
else
some (Ex.normal, [(ae r9.2.1 1), q17, q28], r78.2)).bind fun r82 =>
cc r82.1 ((an (ae r82.2.1 2) 3).bind fun p84 =>
(aj false 1 p84 r82.2.2).bind fun p85 =>
bw (r82.2.2 = r82.2.2) <|
(gW Tryd.prog 27 p85).bind fun p86 =>
(aW Tryd.prog true .eql 3 p86 (PV.v (.int .i64 1))).bind fun p87 =>
(onG p87 true (
(an (ae r82.2.1 2) 3).bind fun p90 =>
some (p90, r82.2.2)) r82.2.2).bind fun r89 =>
(onG p87 true (
(aj false 1 r89.1 r82.2.2).bind fun p93 =>
some (p93, r82.2.2)) r82.2.2).bind fun r92 =>
bw (r92.2 = r82.2.2) <|
(onG p87 true (
(bN Tryd.prog 27 r92.1 (PV.v (.int .i64 0))).bind fun p96 =>
some (p96, r82.2.2)) r82.2.2).bind fun r95 =>
(onG p87 true (
(an r95.1 0).bind fun p99 =>
some (p99, r82.2.2)) r82.2.2).bind fun r98 =>
(onG p87 true (
(aj false 1 r98.1 r82.2.2).bind fun p102 =>
some (p102, r82.2.2)) r82.2.2).bind fun r101 =>
bw (r101.2 = r82.2.2) <|
(onG p87 true (
(gW Tryd.prog 32 r101.1).bind fun p105 =>
some (p105, r82.2.2)) r82.2.2).bind fun r104 =>
(onG p87 true (
(aW Tryd.prog true .eql 3 r104.1 (PV.v (.int .i64 1))).bind fun p108 =>
some (p108, r82.2.2)) r82.2.2).bind fun r107 =>
(bQ p87 r107.1 (PV.v (.bool false))).bind fun p109 =>
(onG p109 true (
(an (ae r82.2.1 1) 3).bind fun p112 =>
some (p112, r82.2.2)) r82.2.2).bind fun r111 =>
(onG p109 true (
(aj false 1 r111.1 r82.2.2).bind fun p115 =>
some (p115, r82.2.2)) r82.2.2).bind fun r114 =>
bw (r114.2 = r82.2.2) <|
(onG p109 true (
(bN Tryd.prog 27 r114.1 (PV.v (.int .i64 0))).bind fun p118 =>
some (p118, r82.2.2)) r82.2.2).bind fun r117 =>
(onG p109 true (
(an r117.1 0).bind fun p121 =>
some (p121, r82.2.2)) r82.2.2).bind fun r120 =>
(onG p109 true (
(aj false 1 r120.1 r82.2.2).bind fun p124 =>
some (p124, r82.2.2)) r82.2.2).bind fun r123 =>
bw (r123.2 = r82.2.2) <|
(onG p109 true (
(bN Tryd.prog 32 r123.1 (PV.v (.int .i64 0))).bind fun p127 =>
some (p127, r82.2.2)) r82.2.2).bind fun r126 =>
(onG p109 true (
(an r126.1 43).bind fun p130 =>
some (p130, r82.2.2)) r82.2.2).bind fun r129 =>
(onG p109 true (
(aj true 9 r129.1 r82.2.2).bind fun p133 =>
some (p133, r82.2.2)) r82.2.2).bind fun r132 =>
bw (r132.2 = r82.2.2) <|
(onG p109 true (
(call (.func 12) [ah r132.1] r82.2.2).bind fun r136 =>
some (r136.1, r136.2)) r82.2.2).bind fun r135 =>
bw (r135.2 = r82.2.2) <|
(onG p109 true (
(an (ae r82.2.1 2) 3).bind fun p139 =>
some (p139, r82.2.2)) r82.2.2).bind fun r138 =>
(onG p109 true (
(aj false 1 r138.1 r82.2.2).bind fun p142 =>
some (p142, r82.2.2)) r82.2.2).bind fun r141 =>
bw (r141.2 = r82.2.2) <|
(onG p109 true (
(bN Tryd.prog 27 r141.1 (PV.v (.int .i64 0))).bind fun p145 =>
some (p145, r82.2.2)) r82.2.2).bind fun r144 =>
(onG p109 true (
(an r144.1 0).bind fun p148 =>
some (p148, r82.2.2)) r82.2.2).bind fun r147 =>
(onG p109 true (
(aj false 1 r147.1 r82.2.2).bind fun p151 =>
some (p151, r82.2.2)) r82.2.2).bind fun r150 =>
bw (r150.2 = r82.2.2) <|
(onG p109 true (
(bN Tryd.prog 32 r150.1 (PV.v (.int .i64 0))).bind fun p154 =>
some (p154, r82.2.2)) r82.2.2).bind fun r153 =>
(onG p109 true (
(an r153.1 43).bind fun p157 =>
some (p157, r82.2.2)) r82.2.2).bind fun r156 =>
(onG p109 true (
(aj true 9 r156.1 r82.2.2).bind fun p160 =>
some (p160, r82.2.2)) r82.2.2).bind fun r159 =>
bw (r159.2 = r82.2.2) <|
(onG p109 true (
(call (.func 12) [ah r159.1] r82.2.2).bind fun r163 =>
some (r163.1, r163.2)) r82.2.2).bind fun r162 =>
bw (r162.2 = r82.2.2) <|
(onG p109 true (
(call (.func 11) [ah r135.1, ah r162.1] r82.2.2).bind fun r166 =>
some (r166.1, r166.2)) r82.2.2).bind fun r165 =>
bw (r165.2 = r82.2.2) <|
(bQ p109 r165.1 (PV.v (.bool false))).bind fun p167 =>
fin st.stk.length st.tk.length st.lp.length [p167] r82.2.2) fun x83 =>
eB x83 (fin st.stk.length st.tk.length st.lp.length [(ae r82.2.1 0)] r82.2.2)) fun x10 =>
eB x10 (fin st.stk.length st.tk.length st.lp.length [(ae r9.2.1 1)] r9.2.2)) fun x5 =>
eB x5 (fin st.stk.length st.tk.length st.lp.length [(ae r4.2.1 1)] r4.2.2)
theorem EX (a0 : PV) (st : St) : E L (.func 5) [a0] st = S5 (E L) itE a0 st := (bI (by kernel_rfl) Tryd.func5 _ _).trans (by kernel_rfl)
noncomputable def S71 (call : bF) (it : bP) (a0 : PV) (st : St) : Option (PV × St) :=
(aW Tryd.prog true .neq 21 a0 (PV.v (.int .i32 10))).bind fun p1 =>
fin st.stk.length st.tk.length st.lp.length [p1] st
theorem Ec (a0 : PV) (st : St) : E L (.func 71) [a0] st = S71 (E L) itE a0 st := (bI (by kernel_rfl) Tryd.func71 _ _).trans (by kernel_rfl)
noncomputable def ET (call : bF) (it : bP) (a0 : PV) (st : St) : Option (PV × St) :=
(call (.func 73) [ah a0] st).bind fun r1 =>
(onG r1.1 false (
some (a0, r1.2)) r1.2).bind fun r3 =>
(onG r1.1 false (
(call (.func 74) [ah r3.1] r3.2).bind fun r6 =>
some (r6.1, r6.2)) r3.2).bind fun r5 =>
(bQ r1.1 (PV.v (.bool true)) r5.1).bind fun p7 =>
fin st.stk.length st.tk.length st.lp.length [p7] r5.2
theorem B6 (a0 : PV) (st : St) : E L (.func 107) [a0] st = ET (E L) itE a0 st := (bI (by kernel_rfl) Tryd.func107 _ _).trans (by kernel_rfl)
noncomputable def EV (call : bF) (it : bP) (a0 : PV) (st : St) : Option (PV × St) :=
(call (.func 73) [ah a0] st).bind fun r1 =>
(onG r1.1 false (
some (a0, r1.2)) r1.2).bind fun r3 =>
(onG r1.1 false (
(call (.func 74) [ah r3.1] r3.2).bind fun r6 =>
some (r6.1, r6.2)) r3.2).bind fun r5 =>
(bQ r1.1 (PV.v (.bool true)) r5.1).bind fun p7 =>
fin st.stk.length st.tk.length st.lp.length [p7] r5.2
theorem B9 (a0 : PV) (st : St) : E L (.func 111) [a0] st = EV (E L) itE a0 st := (bI (by kernel_rfl) Tryd.func111 _ _).trans (by kernel_rfl)
theorem pJ : aW Tryd.prog true .eql 110 (.v .nilIface) (.v .nilIface) = some (.v (.bool true)) := by kernel_rfl
theorem sK : aW Tryd.prog true .neq 110 (.v .nilIface) (.v .nilIface) = some (.v (.bool false)) := by kernel_rfl
theorem sG (c : Bool) : aW Tryd.prog c .eql 110 (.ni) (.v .nilIface) = some (.v (.bool false)) := by kernel_rfl
theorem sE (c : Bool) (a : TypeId) (x : Value) : aW Tryd.prog c .neq 110 (.ifc a x) (.v .nilIface) = some (.v (.bool true)) := by kernel_rfl
theorem lD (n : Int) : eZ Tryd.prog 3 106 (.v (.int .i64 n)) = some (.v (.int .u64 (IntKind.u64.wrap n))) := by kernel_rfl
theorem gf (n : Int) : eZ Tryd.prog 3 45 (.v (.int .i64 n)) = some (.v (.int .u64 (IntKind.u64.wrap n))) := by kernel_rfl
theorem hO (n : Int) : eZ Tryd.prog 3 5 (.v (.int .i64 n)) = some (.v (.int .u8 (IntKind.u8.wrap n))) := by kernel_rfl
theorem yQ (n : Int) : eZ Tryd.prog 45 3 (.v (.int .u64 n)) = some (.v (.int .i64 (IntKind.i64.wrap n))) := by kernel_rfl
theorem yR (n : Int) : eZ Tryd.prog 45 5 (.v (.int .u64 n)) = some (.v (.int .u8 (IntKind.u8.wrap n))) := by kernel_rfl
theorem mZ (n : Int) : eZ Tryd.prog 5 21 (.v (.int .u8 n)) = some (.v (.int .i32 (IntKind.i32.wrap n))) := by kernel_rfl
theorem gE (n : Int) : eZ Tryd.prog 5 45 (.v (.int .u8 n)) = some (.v (.int .u64 (IntKind.u64.wrap n))) := by kernel_rfl
theorem yS (es : List (List PV)) (c : Cap) : eZ Tryd.prog 74 9 (.sl es c) = (bytesOf es).bind fun bs => some (.v (.string ⟨bs.toArray⟩)) := by kernel_rfl
theorem kV (s : ByteArray) : eZ Tryd.prog 9 74 (.v (.string s)) = some (.sl (iT s) .dead) := by kernel_rfl
theorem sD (cs : List PV) : gd Tryd.prog 122 (.agg cs) 0 = AM.part false 1 0 cs := by kernel_rfl
theorem nc (cs : List PV) : gd Tryd.prog 122 (.agg cs) 1 = AM.part false 1 1 cs := by kernel_rfl
theorem pw (cs : List PV) : gd Tryd.prog 122 (.agg cs) 2 = AM.part false 1 2 cs := by kernel_rfl
theorem Dn (es : List (List PV)) (c : Cap) (k : IntKind) (n : Int) : bN Tryd.prog 27 (.sl es c) (.v (.int k n)) = bif ej n es.length then (es[n.toNat]?).bind fun e => bif ai e.length 3 && true then some (.fp e 0) else none else none := by kernel_rfl
theorem Dp (es : List (List PV)) (c : Cap) (k : IntKind) (n : Int) : bN Tryd.prog 32 (.sl es c) (.v (.int k n)) = bif ej n es.length then (es[n.toNat]?).bind fun e => bif ai e.length 58 && true then some (.fp e 0) else none else none := by kernel_rfl
theorem Dq (es : List (List PV)) (c : Cap) (k : IntKind) (n : Int) : bN Tryd.prog 43 (.sl es c) (.v (.int k n)) = bif ej n es.length then (es[n.toNat]?).bind fun e => bif ai e.length 1 && true then some (.fp e 0) else none else none := by kernel_rfl
theorem Dr (es : List (List PV)) (c : Cap) (k : IntKind) (n : Int) : bN Tryd.prog 48 (.sl es c) (.v (.int k n)) = bif ej n es.length then (es[n.toNat]?).bind fun e => bif ai e.length 9 && true then some (.fp e 0) else none else none := by kernel_rfl
theorem E7 (es : List (List PV)) (c : Cap) (k : IntKind) (n : Int) : bN Tryd.prog 74 (.sl es c) (.v (.int k n)) = bif ej n es.length then (es[n.toNat]?).bind fun e => bif ai e.length 1 && true then some (.fp e 0) else none else none := by kernel_rfl
theorem E8 (es : List (List PV)) (c : Cap) (k : IntKind) (n : Int) : bN Tryd.prog 85 (.sl es c) (.v (.int k n)) = bif ej n es.length then (es[n.toNat]?).bind fun e => bif ai e.length 5 && true then some (.fp e 0) else none else none := by kernel_rfl
theorem eX (x : Value) : iz Tryd.prog 192 (.v x) = some (.ifc 192 x) := by kernel_rfl
theorem xK (x0 x1 x2 : PV) (k : IntKind) : dy Tryd.prog 173 (.agg [x0, x1, x2]) (.v (.int k 0)) = some x0 := by kernel_rfl
theorem xM (x0 x1 x2 : PV) (k : IntKind) : dy Tryd.prog 173 (.agg [x0, x1, x2]) (.v (.int k 1)) = some x1 := by kernel_rfl
theorem xP (x0 x1 x2 : PV) (k : IntKind) : dy Tryd.prog 173 (.agg [x0, x1, x2]) (.v (.int k 2)) = some x2 := by kernel_rfl
theorem CJ (x0 x1 x2 x3 : PV) (k : IntKind) : dy Tryd.prog 174 (.agg [x0, x1, x2, x3]) (.v (.int k 0)) = some x0 := by kernel_rfl
theorem xN (x0 x1 x2 x3 : PV) (k : IntKind) : dy Tryd.prog 174 (.agg [x0, x1, x2, x3]) (.v (.int k 1)) = some x1 := by kernel_rfl
theorem xQ (x0 x1 x2 x3 : PV) (k : IntKind) : dy Tryd.prog 174 (.agg [x0, x1, x2, x3]) (.v (.int k 2)) = some x2 := by kernel_rfl
theorem xS (x0 x1 x2 x3 : PV) (k : IntKind) : dy Tryd.prog 174 (.agg [x0, x1, x2, x3]) (.v (.int k 3)) = some x3 := by kernel_rfl
theorem FG {l : List UInt8} {i : Nat} (k : IntKind) (h : i < l.length) : dy Tryd.prog 9 (str l) (.v (.int k (i : Int))) = some (.v (.int .u8 (l[i].toNat : Int))) := CG (by kernel_rfl) k h
theorem qf (c : UInt8) (l : List UInt8) (k : IntKind) : dy Tryd.prog 9 (str (c :: l)) (.v (.int k 0)) = some (.v (.int .u8 (c.toNat : Int))) := FG (l := c :: l) (i := 0) k (by simp)
theorem AV (es : List (List PV)) (c : Cap) : gW Tryd.prog 27 (.sl es c) = some (.v (.int .i64 es.length)) := by kernel_rfl
theorem AW (es : List (List PV)) (c : Cap) : gW Tryd.prog 32 (.sl es c) = some (.v (.int .i64 es.length)) := by kernel_rfl
theorem AX (es : List (List PV)) (c : Cap) : gW Tryd.prog 43 (.sl es c) = some (.v (.int .i64 es.length)) := by kernel_rfl
theorem AY (es : List (List PV)) (c : Cap) : gW Tryd.prog 48 (.sl es c) = some (.v (.int .i64 es.length)) := by kernel_rfl
theorem rm (es : List (List PV)) (c : Cap) : gW Tryd.prog 74 (.sl es c) = some (.v (.int .i64 es.length)) := by kernel_rfl
theorem lW (s : ByteArray) : gW Tryd.prog 9 (.v (.string s)) = some (.v (.int .i64 s.size)) := by kernel_rfl
theorem Bx {l : List UInt8} {lo : Nat} (k : IntKind) (h : lo ≤ l.length) : gH Tryd.prog 9 (str l) (some (.v (.int k (lo : Int)))) none none = some (str (l.drop lo)) := By (by kernel_rfl) k h
theorem Bv {l : List UInt8} {hi : Nat} (k' : IntKind) (h' : hi ≤ l.length) : gH Tryd.prog 9 (str l) none (some (.v (.int k' (hi : Int)))) none = some (str (l.take hi)) := Bw (by kernel_rfl) k' h'
end Go.Proofs.YtlhlijaondmccaaDoor.S
namespace Go.Proofs
open Go.Shelf
def Tryd.uU : Go.Shelf.Ren := ⟨fun | 283 => 140 | n => n, fun | 3 => 3 | 9 => 9 | 4 => 4 | n => n, fun | n => n⟩
theorem Tryd.CN : Go.Proofs.Lays.n283 Tryd.prog Tryd.uU := {
 mixed := by kernel_rfl
 f283 := Tryd.func140.trans (congrArg some (by kernel_rfl))
 t3 := Tryd.underlying3
 a3 := Tryd.isAgg3
 z3 := Tryd.sizeOf3
 v3 := Tryd.zeroValue3
 t4 := Tryd.underlying4
 a4 := Tryd.isAgg4
 z4 := Tryd.sizeOf4
 v4 := Tryd.zeroValue4
 t9 := Tryd.underlying9
 a9 := Tryd.isAgg9
 z9 := Tryd.sizeOf9
 v9 := Tryd.zeroValue9 }
open Go.Lib in
theorem Tryd.internal_strconv_small (i : Nat) (h : i < 100) (w : World) :
 Calls Tryd.prog 140 #[.int .i64 i] w fun e w' => e = .returned (.string ⟨(Lib.decDigits i).toArray⟩) ∧ w' = w := Any.internal_strconv_small Tryd.CN i h w
def Tryd.tM : Go.Shelf.Ren := ⟨fun | 284 => 141 | 129 => 160 | 317 => 159 | 318 => 161 | n => n, fun | 53 => 45 | 3 => 3 | 212 => 206 | 0 => 0 | 4 => 4 | 46 => 106 | 5 => 5 | 9 => 9 | n => n, fun | 17 => 1 | n => n⟩
theorem Tryd.AT : Go.Proofs.LaysM.n284 Tryd.prog Tryd.tM := {
 mixed := by kernel_rfl
 f129 := Tryd.func160.trans (congrArg some (by kernel_rfl))
 f284 := Tryd.func141.trans (congrArg some (by kernel_rfl))
 f317 := Tryd.func159.trans (congrArg some (by kernel_rfl))
 f318 := Tryd.func161.trans (congrArg some (by kernel_rfl))
 t0 := Tryd.underlying0
 a0 := Tryd.isAgg0
 z0 := Tryd.sizeOf0
 v0 := Tryd.zeroValue0
 t3 := Tryd.underlying3
 a3 := Tryd.isAgg3
 z3 := Tryd.sizeOf3
 v3 := Tryd.zeroValue3
 t4 := Tryd.underlying4
 a4 := Tryd.isAgg4
 z4 := Tryd.sizeOf4
 v4 := Tryd.zeroValue4
 t5 := Tryd.underlying5
 a5 := Tryd.isAgg5
 z5 := Tryd.sizeOf5
 v5 := Tryd.zeroValue5
 t9 := Tryd.underlying9
 a9 := Tryd.isAgg9
 z9 := Tryd.sizeOf9
 v9 := Tryd.zeroValue9
 t46 := Tryd.underlying106
 a46 := Tryd.isAgg106
 z46 := Tryd.sizeOf106
 v46 := Tryd.zeroValue106
 t53 := Tryd.underlying45
 a53 := Tryd.isAgg45
 z53 := Tryd.sizeOf45
 v53 := Tryd.zeroValue45
 t212 := Tryd.underlying206
 a212 := Tryd.isAgg206
 z212 := Tryd.sizeOf206
 v212 := Tryd.zeroValue206
 g17 := by kernel_rfl
 i0 := by kernel_rfl
 i3 := by kernel_rfl
 i4 := by kernel_rfl
 i5 := by kernel_rfl
 i9 := by kernel_rfl
 i46 := by kernel_rfl
 i53 := by kernel_rfl
 i212 := by kernel_rfl
 m17 := by kernel_rfl }
open Go.Lib in
theorem Tryd.internal_strconv_numDigits (u : Nat) (h1 : 1 ≤ u) (h2 : u < 18446744073709551616) (w : World) (htab : Lib.TabIs Tryd.prog w "internal/strconv.uint64pow10" .u64 Lib.pow10Tab) :
 Calls Tryd.prog 141 #[.int .u64 u] w fun e w' => e = .returned (.int .i64 (Lib.nDigits u)) ∧ w' = w := Any.internal_strconv_numDigits Tryd.AT u h1 h2 w htab
def Tryd.uV : Go.Shelf.Ren := ⟨fun | 285 => 142 | n => n, fun | 37 => 74 | 53 => 45 | 3 => 3 | 4 => 4 | 51 => 161 | 9 => 9 | 5 => 5 | 0 => 0 | n => n, fun | n => n⟩
theorem Tryd.CO : Go.Proofs.Lays.n285 Tryd.prog Tryd.uV := {
 mixed := by kernel_rfl
 f285 := Tryd.func142.trans (congrArg some (by kernel_rfl))
 t0 := Tryd.underlying0
 a0 := Tryd.isAgg0
 z0 := Tryd.sizeOf0
 v0 := Tryd.zeroValue0
 t3 := Tryd.underlying3
 a3 := Tryd.isAgg3
 z3 := Tryd.sizeOf3
 v3 := Tryd.zeroValue3
 t4 := Tryd.underlying4
 a4 := Tryd.isAgg4
 z4 := Tryd.sizeOf4
 v4 := Tryd.zeroValue4
 t5 := Tryd.underlying5
 a5 := Tryd.isAgg5
 z5 := Tryd.sizeOf5
 v5 := Tryd.zeroValue5
 t9 := Tryd.underlying9
 a9 := Tryd.isAgg9
 z9 := Tryd.sizeOf9
 v9 := Tryd.zeroValue9
 t37 := Tryd.underlying74
 a37 := Tryd.isAgg74
 z37 := Tryd.sizeOf74
 v37 := Tryd.zeroValue74
 t51 := Tryd.underlying161
 a51 := Tryd.isAgg161
 z51 := Tryd.sizeOf161
 v51 := Tryd.zeroValue161
 t53 := Tryd.underlying45
 a53 := Tryd.isAgg45
 z53 := Tryd.sizeOf45
 v53 := Tryd.zeroValue45 }
open Go.RowKit Go.Sort Go.Lib in
theorem Tryd.internal_strconv_formatBase10 (blk off cap : Nat) (u : Nat) (d : Array UInt8) (w : World) (hH : Holds (fun (b : UInt8) => Value.int .u8 (b.toNat : Int)) w blk off d) (hu : u < 10 ^ d.size) (hu64 : u < 18446744073709551616) (hsz : d.size < 4611686018427387904) :
 Calls Tryd.prog 142 #[.slice (some ⟨blk, off, none⟩) d.size cap, .int .u64 u] w fun e w' =>
  e = .returned (.tuple #[]) ∧ ∃ (n v' : Nat) (dk : Array UInt8), w' = (putRow (fun (b : UInt8) => Value.int .u8 (b.toNat : Int)) w blk off dk).drewN n ∧ FmtInv d.size u 0 v' dk := Any.internal_strconv_formatBase10 Tryd.CO blk off cap u d w hH hu hu64 hsz
def Tryd.tL : Go.Shelf.Ren := ⟨fun | 245 => 135 | 279 => 147 | 280 => 148 | 281 => 149 | 282 => 150 | 316 => 165 | 171 => 66 | 205 => 166 | 243 => 105 | 246 => 131 | 283 => 140 | 284 => 141 | 285 => 142 | 286 => 143 | 129 => 160 | 317 => 159 | 318 => 161 | 319 => 162 | 320 => 163 | 337 => 173 | 338 => 174 | n => n, fun | 9 => 9 | 3 => 3 | 75 => 110 | 167 => 192 | 4 => 4 | 168 => 194 | 210 => 211 | 37 => 74 | 0 => 0 | 127 => 116 | 145 => 218 | 143 => 216 | 2 => 2 | 171 => 187 | 53 => 45 | 5 => 5 | 173 => 190 | 212 => 206 | 51 => 161 | 20 => 20 | 213 => 207 | 46 => 106 | 232 => 219 | 233 => 220 | 80 => 65 | n => n, fun | 15 => 2 | 16 => 3 | 17 => 1 | 18 => 4 | 19 => 5 | n => n⟩
theorem Tryd.uW : Go.Proofs.LaysC.n245 Tryd.prog Tryd.tL := {
 mixed := by kernel_rfl
 f129 := Tryd.func160.trans (congrArg some (by kernel_rfl))
 f171 := Tryd.func66.trans (congrArg some (by kernel_rfl))
 f205 := Tryd.func166.trans (congrArg some (by kernel_rfl))
 f243 := Tryd.func105.trans (congrArg some (by kernel_rfl))
 f245 := Tryd.func135.trans (congrArg some (by kernel_rfl))
 f246 := Tryd.func131.trans (congrArg some (by kernel_rfl))
 f279 := Tryd.func147.trans (congrArg some (by kernel_rfl))
 f280 := Tryd.func148.trans (congrArg some (by kernel_rfl))
 f281 := Tryd.func149.trans (congrArg some (by kernel_rfl))
 f282 := Tryd.func150.trans (congrArg some (by kernel_rfl))
 f283 := Tryd.func140.trans (congrArg some (by kernel_rfl))
 f284 := Tryd.func141.trans (congrArg some (by kernel_rfl))
 f285 := Tryd.func142.trans (congrArg some (by kernel_rfl))
 f286 := Tryd.func143.trans (congrArg some (by kernel_rfl))
 f316 := Tryd.func165.trans (congrArg some (by kernel_rfl))
 f317 := Tryd.func159.trans (congrArg some (by kernel_rfl))
 f318 := Tryd.func161.trans (congrArg some (by kernel_rfl))
 f319 := Tryd.func162.trans (congrArg some (by kernel_rfl))
 f320 := Tryd.func163.trans (congrArg some (by kernel_rfl))
 f337 := Tryd.func173.trans (congrArg some (by kernel_rfl))
 f338 := Tryd.func174.trans (congrArg some (by kernel_rfl))
 t0 := Tryd.underlying0
 a0 := Tryd.isAgg0
 z0 := Tryd.sizeOf0
 v0 := Tryd.zeroValue0
 t2 := Tryd.underlying2
 a2 := Tryd.isAgg2
 z2 := Tryd.sizeOf2
 v2 := Tryd.zeroValue2
 t3 := Tryd.underlying3
 a3 := Tryd.isAgg3
 z3 := Tryd.sizeOf3
 v3 := Tryd.zeroValue3
 t4 := Tryd.underlying4
 a4 := Tryd.isAgg4
 z4 := Tryd.sizeOf4
 v4 := Tryd.zeroValue4
 t5 := Tryd.underlying5
 a5 := Tryd.isAgg5
 z5 := Tryd.sizeOf5
 v5 := Tryd.zeroValue5
 t9 := Tryd.underlying9
 a9 := Tryd.isAgg9
 z9 := Tryd.sizeOf9
 v9 := Tryd.zeroValue9
 t20 := Tryd.underlying20
 a20 := Tryd.isAgg20
 z20 := Tryd.sizeOf20
 v20 := Tryd.zeroValue20
 t37 := Tryd.underlying74
 a37 := Tryd.isAgg74
 z37 := Tryd.sizeOf74
 v37 := Tryd.zeroValue74
 t46 := Tryd.underlying106
 a46 := Tryd.isAgg106
 z46 := Tryd.sizeOf106
 v46 := Tryd.zeroValue106
 t51 := Tryd.underlying161
 a51 := Tryd.isAgg161
 z51 := Tryd.sizeOf161
 v51 := Tryd.zeroValue161
 t53 := Tryd.underlying45
 a53 := Tryd.isAgg45
 z53 := Tryd.sizeOf45
 v53 := Tryd.zeroValue45
 t75 := Tryd.underlying110
 a75 := Tryd.isAgg110
 z75 := Tryd.sizeOf110
 v75 := Tryd.zeroValue110
 t127 := Tryd.underlying116
 a127 := Tryd.isAgg116
 z127 := Tryd.sizeOf116
 v127 := Tryd.zeroValue116
 t143 := Tryd.underlying216
 a143 := Tryd.isAgg216
 z143 := Tryd.sizeOf216
 v143 := Tryd.zeroValue216
 t145 := Tryd.underlying218
 a145 := Tryd.isAgg218
 z145 := Tryd.sizeOf218
 v145 := Tryd.zeroValue218
 t167 := Tryd.underlying192
 a167 := Tryd.isAgg192
 z167 := Tryd.sizeOf192
 v167 := Tryd.zeroValue192
 t168 := Tryd.underlying194
 a168 := Tryd.isAgg194
 z168 := Tryd.sizeOf194
 v168 := Tryd.zeroValue194
 t171 := Tryd.underlying187
 a171 := Tryd.isAgg187
 z171 := Tryd.sizeOf187
 v171 := Tryd.zeroValue187
 t173 := Tryd.underlying190
 a173 := Tryd.isAgg190
 z173 := Tryd.sizeOf190
 v173 := Tryd.zeroValue190
 t210 := Tryd.underlying211
 a210 := Tryd.isAgg211
 z210 := Tryd.sizeOf211
 v210 := Tryd.zeroValue211
 t212 := Tryd.underlying206
 a212 := Tryd.isAgg206
 z212 := Tryd.sizeOf206
 v212 := Tryd.zeroValue206
 t213 := Tryd.underlying207
 a213 := Tryd.isAgg207
 z213 := Tryd.sizeOf207
 t232 := Tryd.underlying219
 a232 := Tryd.isAgg219
 z232 := Tryd.sizeOf219
 v232 := Tryd.zeroValue219
 t233 := Tryd.underlying220
 a233 := Tryd.isAgg220
 z233 := Tryd.sizeOf220
 v233 := Tryd.zeroValue220
 g15 := by kernel_rfl
 g16 := by kernel_rfl
 g17 := by kernel_rfl
 g18 := by kernel_rfl
 g19 := by kernel_rfl
 t80 := Tryd.underlying65
 a80 := Tryd.isAgg65
 z80 := Tryd.sizeOf65
 v80 := Tryd.zeroValue65
 i0 := by kernel_rfl
 i2 := by kernel_rfl
 i3 := by kernel_rfl
 i4 := by kernel_rfl
 i5 := by kernel_rfl
 i9 := by kernel_rfl
 i20 := by kernel_rfl
 i37 := by kernel_rfl
 i46 := by kernel_rfl
 i51 := by kernel_rfl
 i53 := by kernel_rfl
 i75 := by kernel_rfl
 i80 := by kernel_rfl
 i127 := by kernel_rfl
 i143 := by kernel_rfl
 i145 := by kernel_rfl
 i167 := by kernel_rfl
 i168 := by kernel_rfl
 i171 := by kernel_rfl
 i173 := by kernel_rfl
 i210 := by kernel_rfl
 i212 := by kernel_rfl
 i232 := by kernel_rfl
 i233 := by kernel_rfl
 m15 := by kernel_rfl
 m16 := by kernel_rfl
 m17 := by kernel_rfl
 m18 := by kernel_rfl
 m19 := by kernel_rfl
 c0 := by kernel_rfl
 c2 := by kernel_rfl
 c3 := by kernel_rfl
 c4 := by kernel_rfl
 c5 := by kernel_rfl
 c9 := by kernel_rfl
 c20 := by kernel_rfl
 c37 := by kernel_rfl
 c46 := by kernel_rfl
 c51 := by kernel_rfl
 c53 := by kernel_rfl
 c75 := by kernel_rfl
 c80 := by kernel_rfl
 c127 := by kernel_rfl
 c143 := by kernel_rfl
 c145 := by kernel_rfl
 c167 := by kernel_rfl
 c168 := by kernel_rfl
 c171 := by kernel_rfl
 c173 := by kernel_rfl
 c210 := by kernel_rfl
 c212 := by kernel_rfl
 c213 := by kernel_rfl
 c232 := by kernel_rfl
 c233 := by kernel_rfl }
open Go.RowKit in
theorem Tryd.strconv_toError_syntax (fn s : ByteArray) (base bits : Int) (ev : Value) (w : World) (hlim : s.size ≤ 281474976710656) (hv : w.cell? ⟨2, 0, none⟩ = some ev) (hev : ev = .nilIface ∨ ∃ te pe, ev = .iface te pe) :
 Calls Tryd.prog 135 #[.string fn, .string s, .int .i64 base, .int .i64 bits, .iface 192 (.int .i64 2)] w fun e w' => ∃ N, e = .returned (.iface 194 (.pointer (some ⟨N, 0, none⟩))) ∧ w.heap.size ≤ N ∧ w'.heap[N]? = some (.cells #[.string fn, .string s, ev] 211 (0, 0)) ∧ Below w.heap.size w w' := Any.strconv_toError_syntax Tryd.uW fn s base bits ev w hlim hv hev
open Go.RowKit in
theorem Tryd.strconv_toError_range (fn s : ByteArray) (base bits : Int) (ev : Value) (w : World) (hlim : s.size ≤ 281474976710656) (hv : w.cell? ⟨3, 0, none⟩ = some ev) (hev : ev = .nilIface ∨ ∃ te pe, ev = .iface te pe) :
 Calls Tryd.prog 135 #[.string fn, .string s, .int .i64 base, .int .i64 bits, .iface 192 (.int .i64 1)] w fun e w' => ∃ N, e = .returned (.iface 194 (.pointer (some ⟨N, 0, none⟩))) ∧ w.heap.size ≤ N ∧ w'.heap[N]? = some (.cells #[.string fn, .string s, ev] 211 (0, 0)) ∧ Below w.heap.size w w' := Any.strconv_toError_range Tryd.uW fn s base bits ev w hlim hv hev
def Tryd.uT : Go.Shelf.Ren := ⟨fun | 217 => 106 | 266 => 132 | n => n, fun | 9 => 9 | 5 => 5 | 3 => 3 | n => n, fun | n => n⟩
theorem Tryd.CM : Go.Proofs.Lays.n217 Tryd.prog Tryd.uT := {
 mixed := by kernel_rfl
 f217 := Tryd.func106.trans (congrArg some (by kernel_rfl))
 f266 := Tryd.func132.trans (congrArg some (by kernel_rfl))
 t3 := Tryd.underlying3
 a3 := Tryd.isAgg3
 z3 := Tryd.sizeOf3
 v3 := Tryd.zeroValue3
 t5 := Tryd.underlying5
 a5 := Tryd.isAgg5
 z5 := Tryd.sizeOf5
 v5 := Tryd.zeroValue5
 t9 := Tryd.underlying9
 a9 := Tryd.isAgg9
 z9 := Tryd.sizeOf9
 v9 := Tryd.zeroValue9 }
open Go.RowKit Go.Lib in
theorem Tryd.stringslite_IndexByte (s : ByteArray) (c : Int) (w : World) :
 Calls Tryd.prog 106 #[.string s, .int .u8 c] w fun e w' => e = .returned (.int .i64 (Lib.indexByte s.data.toList c.toNat.toUInt8)) ∧ w' = w := Any.stringslite_IndexByte Tryd.CM s c w
def Tryd.uR : Go.Shelf.Ren := ⟨fun | 144 => 133 | 143 => 144 | 219 => 164 | 217 => 106 | 225 => 169 | 224 => 168 | 267 => 175 | 266 => 132 | 314 => 177 | n => n, fun | 9 => 9 | 4 => 4 | 3 => 3 | 5 => 5 | 46 => 106 | 146 => 162 | 51 => 161 | n => n, fun | 1 => 0 | n => n⟩
theorem Tryd.CK : Go.Proofs.Lays.n144 Tryd.prog Tryd.uR := {
 mixed := by kernel_rfl
 f143 := Tryd.func144.trans (congrArg some (by kernel_rfl))
 f144 := Tryd.func133.trans (congrArg some (by kernel_rfl))
 f217 := Tryd.func106.trans (congrArg some (by kernel_rfl))
 f219 := Tryd.func164.trans (congrArg some (by kernel_rfl))
 f224 := Tryd.func168.trans (congrArg some (by kernel_rfl))
 f225 := Tryd.func169.trans (congrArg some (by kernel_rfl))
 f266 := Tryd.func132.trans (congrArg some (by kernel_rfl))
 f267 := Tryd.func175.trans (congrArg some (by kernel_rfl))
 f314 := Tryd.func177.trans (congrArg some (by kernel_rfl))
 t3 := Tryd.underlying3
 a3 := Tryd.isAgg3
 z3 := Tryd.sizeOf3
 v3 := Tryd.zeroValue3
 t4 := Tryd.underlying4
 a4 := Tryd.isAgg4
 z4 := Tryd.sizeOf4
 v4 := Tryd.zeroValue4
 t5 := Tryd.underlying5
 a5 := Tryd.isAgg5
 z5 := Tryd.sizeOf5
 v5 := Tryd.zeroValue5
 t9 := Tryd.underlying9
 a9 := Tryd.isAgg9
 z9 := Tryd.sizeOf9
 v9 := Tryd.zeroValue9
 t46 := Tryd.underlying106
 a46 := Tryd.isAgg106
 z46 := Tryd.sizeOf106
 v46 := Tryd.zeroValue106
 t51 := Tryd.underlying161
 a51 := Tryd.isAgg161
 z51 := Tryd.sizeOf161
 v51 := Tryd.zeroValue161
 t146 := Tryd.underlying162
 a146 := Tryd.isAgg162
 z146 := Tryd.sizeOf162
 v146 := Tryd.zeroValue162
 g1 := by kernel_rfl }
open Go.RowKit Go.Lib in
theorem Tryd.strings_Contains (s sub : ByteArray) (m : Int) (w : World) (hs : s.size < 4294967281) (hm : w.cell? ⟨0, 0, none⟩ = some (.int .i64 m)) :
 Calls Tryd.prog 133 #[.string s, .string sub] w fun e w' => e = .returned (.bool (Lib.contains s.data.toList sub.data.toList)) ∧ w' = w := Any.strings_Contains Tryd.CK s sub m w hs hm
def Tryd.uS : Go.Shelf.Ren := ⟨fun | 150 => 112 | 153 => 136 | 152 => 151 | 226 => 152 | 227 => 153 | 228 => 154 | 137 => 72 | 119 => 167 | 224 => 168 | 225 => 169 | 217 => 106 | 266 => 132 | n => n, fun | 9 => 9 | 4 => 4 | 3 => 3 | 5 => 5 | 21 => 21 | 117 => 201 | 116 => 200 | 0 => 0 | 46 => 106 | 124 => 213 | n => n, fun | n => n⟩
theorem Tryd.CL : Go.Proofs.Lays.n150 Tryd.prog Tryd.uS := {
 mixed := by kernel_rfl
 f119 := Tryd.func167.trans (congrArg some (by kernel_rfl))
 f137 := Tryd.func72.trans (congrArg some (by kernel_rfl))
 f150 := Tryd.func112.trans (congrArg some (by kernel_rfl))
 f152 := Tryd.func151.trans (congrArg some (by kernel_rfl))
 f153 := Tryd.func136.trans (congrArg some (by kernel_rfl))
 f217 := Tryd.func106.trans (congrArg some (by kernel_rfl))
 f224 := Tryd.func168.trans (congrArg some (by kernel_rfl))
 f225 := Tryd.func169.trans (congrArg some (by kernel_rfl))
 f226 := Tryd.func152.trans (congrArg some (by kernel_rfl))
 f227 := Tryd.func153.trans (congrArg some (by kernel_rfl))
 f228 := Tryd.func154.trans (congrArg some (by kernel_rfl))
 f266 := Tryd.func132.trans (congrArg some (by kernel_rfl))
 t0 := Tryd.underlying0
 a0 := Tryd.isAgg0
 z0 := Tryd.sizeOf0
 v0 := Tryd.zeroValue0
 t3 := Tryd.underlying3
 a3 := Tryd.isAgg3
 z3 := Tryd.sizeOf3
 v3 := Tryd.zeroValue3
 t4 := Tryd.underlying4
 a4 := Tryd.isAgg4
 z4 := Tryd.sizeOf4
 v4 := Tryd.zeroValue4
 t5 := Tryd.underlying5
 a5 := Tryd.isAgg5
 z5 := Tryd.sizeOf5
 v5 := Tryd.zeroValue5
 t9 := Tryd.underlying9
 a9 := Tryd.isAgg9
 z9 := Tryd.sizeOf9
 v9 := Tryd.zeroValue9
 t21 := Tryd.underlying21
 a21 := Tryd.isAgg21
 z21 := Tryd.sizeOf21
 v21 := Tryd.zeroValue21
 t46 := Tryd.underlying106
 a46 := Tryd.isAgg106
 z46 := Tryd.sizeOf106
 v46 := Tryd.zeroValue106
 t116 := Tryd.underlying200
 a116 := Tryd.isAgg200
 z116 := Tryd.sizeOf200
 t117 := Tryd.underlying201
 a117 := Tryd.isAgg201
 z117 := Tryd.sizeOf201
 v117 := Tryd.zeroValue201
 t124 := Tryd.underlying213
 a124 := Tryd.isAgg213
 z124 := Tryd.sizeOf213
 v124 := Tryd.zeroValue213 }
open Go.RowKit Go.Lib in
theorem Tryd.strings_ContainsAny_laid (s chars : ByteArray) (w : World) (hs : s.size < 4294967281) (hcs : chars.size < 4294967281) (has : ∀ (j : Nat) b, s.data.toList[j]? = some b → b.toNat < 128) (hac : ∀ (j : Nat) b, chars.data.toList[j]? = some b → b.toNat < 128) :
 Calls Tryd.prog 112 #[.string s, .string chars] w fun e w' => e = .returned (.bool (Lib.containsAny s.data.toList chars.data.toList)) ∧ Below w.heap.size w w' := Any.strings_ContainsAny_laid Tryd.CL (by kernel_rfl) s chars w hs hcs has hac
open Go.Shelf Go.RowKit Go.Sort Go.Lib
theorem Tryd.px (i : Nat) (hi : i < 100) (w : World) :
 Calls Tryd.prog 130 #[.int .u64 i, .int .i64 10] w fun e w' => e = .returned (.string ⟨(Lib.decDigits i).toArray⟩) ∧ w' = w := by
 go_enter Tryd.func130, Tryd.ntmps130
 go_wp2_with (go_at_call 140; refine (Tryd.internal_strconv_small i hi _).mono ?_; rintro e w' ⟨rfl, rfl⟩)
 go_ret
 exact ⟨rfl, rfl⟩
theorem Tryd.uM (w : World) (T : TypeId) (nd : Nat) (hs : nd ≤ 24) : Holds (fun (b : UInt8) => Value.int .u8 (b.toNat : Int)) (w.alloc (.cells zeros24 T)) w.heap.size 0 (Array.replicate nd (0 : UInt8)) := fun j hj => by
 simp only [Array.size_replicate] at hj; rw [show (⟨w.heap.size, 0 + j, none⟩ : Addr) = ⟨w.heap.size, j, none⟩ from by simp]; rw [World.cell?_alloc_new, zeros24_at _ (by omega), getElem!_pos _ j (by simpa using hj)]; simp
theorem tx {B : Nat} {a w : World} (h : Below B a w) (k : Nat) : Below B a (w.drewN k) := ⟨h.os, h.tape, h.output, h.size, h.block⟩
theorem Tryd.rf (u : Nat) (hu : 100 ≤ u) (hu64 : u < 18446744073709551616) (w : World) (htab : Lib.TabIs Tryd.prog w "internal/strconv.uint64pow10" .u64 Lib.pow10Tab) :
 Calls Tryd.prog 130 #[.int .u64 u, .int .i64 10] w fun e w' => e = .returned (.string ⟨(Lib.decDigits u).toArray⟩) ∧ Below w.heap.size w w' := by
 have hu1 : 1 ≤ u := by omega
 have hnd20 : Lib.nDigits u ≤ 20 := by have := Lib.numDigits_eq u hu1 hu64; split at this <;> omega
 have hal : Tryd.prog.arrayLen 187 = 24 := by simp [Program.arrayLen, Tryd.underlying187]
 have hsl1 : ∀ W, (Instr.sliceAt 187 (.pointer (some ⟨w.heap.size, 0, none⟩)) none (some (.int .i64 (Lib.nDigits u : Int))) none).run Tryd.prog W = .ok (.slice (some ⟨w.heap.size, 0, none⟩) (Lib.nDigits u) 24) W := fun W => by
  rw [run_sliceAt_array_h W 187 ⟨w.heap.size, 0, none⟩ (by simp [Program.arrayLen, Program.elem, Tryd.underlying187]) .i64 (Lib.nDigits u : Int) (by omega) (by rw [hal]; omega)]
  go_simp
 have hH0 := Tryd.uM w 187 (Lib.nDigits u) (by omega); have hfmt := Tryd.internal_strconv_formatBase10 w.heap.size 0 24 u (Array.replicate (Lib.nDigits u) 0) (w.alloc (.cells Lib.zeros24 187)) hH0 (by rw [Array.size_replicate]; exact Lib.lt_pow_nDigits u) hu64 (by rw [Array.size_replicate]; omega); rw [Array.size_replicate] at hfmt; have HH0 := Lib.hid hH0; have Hal := Lib.hid hal; clear hH0 hal
 go_enter Tryd.func130, Tryd.ntmps130
 go_wp2_with (first
  | (go_at_call 141; refine (Tryd.internal_strconv_numDigits u hu1 hu64 _ (Lib.tabIs_alloc htab _)).mono ?_; rintro e w' ⟨rfl, rfl⟩))
 go_at_call 142
 refine hfmt.mono ?_
 rintro e w' ⟨rfl, k, v', dk, rfl, hF⟩
 have hcv : (convert 74 9 (.slice (some ⟨w.heap.size, 0, none⟩) (Lib.nDigits u) 24)).run Tryd.prog ((putRow (fun (b : UInt8) => Value.int .u8 (b.toNat : Int)) (w.alloc (.cells Lib.zeros24 187)) w.heap.size 0 dk).drewN k) = .ok (.string ⟨(Lib.decDigits u).toArray⟩) ((putRow (fun (b : UInt8) => Value.int .u8 (b.toNat : Int)) (w.alloc (.cells Lib.zeros24 187)) w.heap.size 0 dk).drewN k) := by
  have h := run_convert_bytes_back (P := Tryd.prog) ((putRow (fun (b : UInt8) => Value.int .u8 (b.toNat : Int)) (w.alloc (.cells Lib.zeros24 187)) w.heap.size 0 dk).drewN k) 74 9 5 ⟨w.heap.size, 0, none⟩ 24 (Lib.decDigits u) Tryd.underlying74 Tryd.underlying5 Tryd.underlying9 (fun j hj => by
   rw [Lib.row_is_numeral hF j hj, Lib.add_plain, World.cell?_drewN]
   exact cell?_putRow (fun (b : UInt8) => Value.int .u8 (b.toNat : Int)) _ w.heap.size 0 _ dk HH0.out (by rw [hF.size, Array.size_replicate]) j (by rw [hF.size]; rw [Lib.decDigits_length] at hj; exact hj))
  rw [Lib.decDigits_length] at h; exact h
 go_wp2
 go_ret
 refine ⟨rfl, ?_⟩; have e0 := alloc_eq_grow w (.cells Lib.zeros24 187); obtain ⟨os', _, e⟩ := putRow_grow_new (fun (b : UInt8) => Value.int .u8 (b.toNat : Int)) w #[.cells Lib.zeros24 187] w.heap.size 0 dk (aq _); rw [e0, e]; have hb : Below w.heap.size w (grow w os') := ⟨rfl, rfl, rfl, by simp [grow], fun k hk => by simp [grow, Array.getElem?_append, hk]⟩; exact tx hb k
theorem Tryd.wq (u : Nat) (hu64 : u < 18446744073709551616) (w : World) (htab : Lib.TabIs Tryd.prog w "internal/strconv.uint64pow10" .u64 Lib.pow10Tab) :
 Calls Tryd.prog 99 #[.int .u64 u, .int .i64 10] w fun e w' => e = .returned (.string ⟨(Lib.decDigits u).toArray⟩) ∧ Below w.heap.size w w' := by
 have h : Calls Tryd.prog 130 #[.int .u64 u, .int .i64 10] w fun e w' => e = .returned (.string ⟨(Lib.decDigits u).toArray⟩) ∧ Below w.heap.size w w' := by
  by_cases hu : u < 100
  · refine (Tryd.px u hu w).mono ?_
    rintro e w' ⟨rfl, rfl⟩
    exact ⟨rfl, Below.refl _ _⟩
  · exact Tryd.rf u (by omega) hu64 w htab
 go_enter Tryd.func99, Tryd.ntmps99
 go_wp2_with (go_at_call 130; refine h.mono ?_; rintro e w' ⟨rfl, hb⟩)
 go_ret
 exact ⟨rfl, hb⟩
end Go.Proofs
namespace Go.Proofs.YtlhlijaondmccaaDoor.S
open Go Go.AM Go.Proofs Go.RowKit
structure Gvs (gv : GV) : Prop where
 len : ∃ m, gv.cell 0 0 = some (.int .i64 m)
 syn : ∃ ev, gv.cell 2 0 = some ev ∧ (ev = .nilIface ∨ ∃ te pe, ev = .iface te pe)
 rng : ∃ ev, gv.cell 3 0 = some ev ∧ (ev = .nilIface ∨ ∃ te pe, ev = .iface te pe)
 tab : Lib.TabIs Tryd.prog gv.w0 "internal/strconv.uint64pow10" .u64 Lib.pow10Tab
 six : 4 ≤ gv.w0.heap.size
theorem E5 : Tryd.prog.globalNamed "internal/strconv.uint64pow10" = some 1 := by kernel_rfl
theorem Gvs.Fm {gv : GV} (h : Gvs gv) {w : World} (hw : gv.at w) : Lib.TabIs Tryd.prog w "internal/strconv.uint64pow10" .u64 Lib.pow10Tab :=
 var?_below hw.2 E5 (by have := h.six; omega) h.tab
theorem FO {gv : GV} (hg : Gvs gv) (w : World) (vs : List Value) (p : PV) (hw : gv.at w) (h : la vs = some p) : Calls Tryd.prog 133 vs.toArray w fun e w' => (∃ v, e = .returned v ∧ ug v p) ∧ Below w.heap.size w w' := by
 unfold la at h; split at h
 · rename_i s t
   split at h
   · rename_i hs
     obtain rfl := Option.some.inj h; obtain ⟨m, hm⟩ := hg.len; refine (Tryd.strings_Contains s t m w hs (hw.1 _ _ _ hm)).mono ?_
     rintro e w' ⟨rfl, rfl⟩
     exact ⟨⟨_, rfl, .v⟩, Below.refl _ _⟩
   · cases h
 · cases h
theorem FP (w : World) (vs : List Value) (p : PV) (h : j0 vs = some p) : Calls Tryd.prog 106 vs.toArray w fun e w' => (∃ v, e = .returned v ∧ ug v p) ∧ Below w.heap.size w w' := by
 unfold j0 at h; split at h
 · rename_i s c
   obtain rfl := Option.some.inj h; refine (Tryd.stringslite_IndexByte s c w).mono ?_
   rintro e w' ⟨rfl, rfl⟩
   exact ⟨⟨_, rfl, .v⟩, Below.refl _ _⟩
 · cases h
theorem so {s : ByteArray} (h : nO s = true) (j : Nat) (b : UInt8) (hb : s.data.toList[j]? = some b) : b.toNat < 128 := by
 have := dG.1 h b (dT hb); simpa using this
theorem FR (w : World) (vs : List Value) (p : PV) (h : iG vs = some p) : Calls Tryd.prog 112 vs.toArray w fun e w' => (∃ v, e = .returned v ∧ ug v p) ∧ Below w.heap.size w w' := by
 unfold iG at h; split at h
 · rename_i s t
   split at h
   · rename_i hs
     obtain rfl := Option.some.inj h; refine (Tryd.strings_ContainsAny_laid s t w hs.1 hs.2.1 (so hs.2.2.1) (so hs.2.2.2)).mono ?_
     rintro e w' ⟨rfl, hb⟩
     exact ⟨⟨_, rfl, .v⟩, hb⟩
   · cases h
 · cases h
theorem FT {gv : GV} (hg : Gvs gv) (w : World) (vs : List Value) (p : PV) (hw : gv.at w) (h : rB 192 vs = some p) : Calls Tryd.prog 135 vs.toArray w fun e w' => (∃ v, e = .returned v ∧ ug v p) ∧ Below w.heap.size w w' := by
 unfold rB at h; split at h
 · rename_i f s b z t n
   split at h
   · rename_i hs
     obtain ⟨h1, rfl, h2⟩ := hs; obtain rfl := Option.some.inj h
     rcases h2 with rfl | rfl
     · obtain ⟨ev, he, hi⟩ := hg.rng
       refine (Tryd.strconv_toError_range f s b z ev w h1 (hw.1 _ _ _ he) hi).mono ?_
       rintro e w' ⟨N, rfl, _, _, hb⟩
       exact ⟨⟨_, rfl, .ni⟩, hb⟩
     · obtain ⟨ev, he, hi⟩ := hg.syn
       refine (Tryd.strconv_toError_syntax f s b z ev w h1 (hw.1 _ _ _ he) hi).mono ?_
       rintro e w' ⟨N, rfl, _, _, hb⟩
       exact ⟨⟨_, rfl, .ni⟩, hb⟩
   · cases h
 · cases h
theorem FQ {gv : GV} (hg : Gvs gv) (w : World) (vs : List Value) (p : PV) (hw : gv.at w) (h : zd vs = some p) : Calls Tryd.prog 99 vs.toArray w fun e w' => (∃ v, e = .returned v ∧ ug v p) ∧ Below w.heap.size w w' := by
 unfold zd at h; split at h
 · rename_i n b
   split at h
   · rename_i hs
     obtain ⟨rfl, h1, h2⟩ := hs; obtain rfl := Option.some.inj h
     obtain ⟨u, rfl⟩ : ∃ u : Nat, n = u := ⟨n.toNat, by omega⟩
     refine (Tryd.wq u (by omega) w (hg.Fm hw)).mono ?_
     rintro e w' ⟨rfl, hb⟩
     exact ⟨⟨_, rfl, .v⟩, hb⟩
   · cases h
 · cases h
theorem A7 : (Tryd.prog.funcs.toList.all fun fn => !(fn.name == "runtime.NumGoroutine")) = true := by kernel_rfl
theorem nj (f : Nat) (fn : Func) (h : Tryd.prog.funcs[f]? = some fn) : (fn.name == "runtime.NumGoroutine") = false := by
 have h1 := dG.1 A7 fn (by
  rw [← gn] at h
  exact dT h)
 simpa using h1
theorem ok {gv : GV} (hg : Gvs gv) : uf gv L where
 gl w C _ i := .u
 name := nj
 mixed := by
  have h : Tryd.prog.follows .mixedOrders = true := by kernel_rfl
  exact h
 lL f g h := by
  have hl : ya Bg f = some g := h; simp only [Bg, ya] at hl
  cases e22 : ai 133 f with
  | true =>
   rw [e22, cond_true] at hl; obtain rfl := Option.some.inj hl; obtain rfl := au e22
   intro call _; exact lf ⟨_, Tryd.func133, nj _ _ Tryd.func133, rfl⟩ fun w vs p hw h => FO hg w vs p hw h
  | false =>
   rw [e22, cond_false] at hl
   cases e40 : ai 106 f with
   | true =>
    rw [e40, cond_true] at hl; obtain rfl := Option.some.inj hl; obtain rfl := au e40
    intro call _; exact lf ⟨_, Tryd.func106, nj _ _ Tryd.func106, rfl⟩ fun w vs p hw h => FP w vs p h
   | false =>
    rw [e40, cond_false] at hl
    cases e45 : ai 112 f with
    | true =>
     rw [e45, cond_true] at hl; obtain rfl := Option.some.inj hl; obtain rfl := au e45
     intro call _; exact lf ⟨_, Tryd.func112, nj _ _ Tryd.func112, rfl⟩ fun w vs p hw h => FR w vs p h
    | false =>
     rw [e45, cond_false] at hl
     cases e43 : ai 99 f with
     | true =>
      rw [e43, cond_true] at hl; obtain rfl := Option.some.inj hl; obtain rfl := au e43
      intro call _; exact lf ⟨_, Tryd.func99, nj _ _ Tryd.func99, rfl⟩ fun w vs p hw h => FQ hg w vs p hw h
     | false =>
      rw [e43, cond_false] at hl
      cases e49 : ai 135 f with
      | true =>
       rw [e49, cond_true] at hl; obtain rfl := Option.some.inj hl; obtain rfl := au e49
       intro call _; exact lf ⟨_, Tryd.func135, nj _ _ Tryd.func135, rfl⟩ fun w vs p hw h => FT hg w vs p hw h
      | false =>
       rw [e49, cond_false] at hl
       cases e20 : ai 10 f with
       | true =>
        rw [e20, cond_true] at hl; obtain rfl := Option.some.inj hl; obtain rfl := au e20
        intro call G; exact zp (zo fun w C _ i => .u) G
       | false =>
        rw [e20, cond_false] at hl; cases hl
end Go.Proofs.YtlhlijaondmccaaDoor.S
namespace Go.Proofs.YtlhlijaondmccaaDoor.S
open Go Go.AM Go.Proofs
attribute [local simp] da cD bT bU cE fc fw ef dj ec dh ed di fv bV gZ dW hI gV gO AM.ae aQ aR ag bg aP aD AM.onG fP cc eB Ex.bh cond_true cond_false cW cV cU cT cS cY cR cZ cX eg dm dp cC db AM.dt AM.cellsOf AM.an bQ beq_true cM al aF bf bz bS decide_true decide_false bL bB bq bA ba aC az aZ aw dc de ft aA bK bu bR cz dV dZ cK eA ew set_set eD dD fM dE cI bD dC dB cH dA eC eE fG fH bE cm ep fF dP aL aU aE AM.aT ah cQ bO aX aS aO aN AM.part bm aM cf cj cg cd cd.eO AM.dM bC cr
def pC (n : Int) : Bool := decide (n = 95) || (decide (97 ≤ n) && decide (n ≤ 122)) || (decide (65 ≤ n) && decide (n ≤ 90))
def uG (n : Int) : Bool := decide (48 ≤ n) && decide (n ≤ 57)
theorem jk (n : Int) (st : St) : E L (.func 73) [.v (.int .i32 n)] st = some (.v (.bool (pC n)), st) := by
 rw [Ee]; obtain ⟨N, T, Lb, hN, hT, hL⟩ := lens3 st
 conv => lhs; rw [← ak (st)]
 by_cases h1 : n = 95
 · simp [S73, hN, hT, hL, pC, h1]
 by_cases h2 : 97 ≤ n <;> by_cases h3 : n ≤ 122 <;> by_cases h4 : 65 ≤ n <;> by_cases h5 : n ≤ 90 <;> simp [S73, hN, hT, hL, pC, h1, h2, h3, h4, h5]
theorem jl (n : Int) (st : St) : E L (.func 74) [.v (.int .i32 n)] st = some (.v (.bool (uG n)), st) := by
 rw [Ef]; obtain ⟨N, T, Lb, hN, hT, hL⟩ := lens3 st
 conv => lhs; rw [← ak (st)]
 by_cases h2 : 48 ≤ n <;> by_cases h3 : n ≤ 57 <;> simp [S74, hN, hT, hL, uG, h2, h3]
theorem zS (n : Int) (st : St) : E L (.func 71) [.v (.int .i32 n)] st = some (.v (.bool (!decide (n = 10))), st) := by
 rw [Ec]; obtain ⟨N, T, Lb, hN, hT, hL⟩ := lens3 st
 conv => lhs; rw [← ak (st)]
 simp [S71, hN, hT, hL]
theorem xb (n : Int) (st : St) : E L (.func 107) [.v (.int .i32 n)] st = some (.v (.bool (pC n || uG n)), st) := by
 rw [B6]; obtain ⟨N, T, Lb, hN, hT, hL⟩ := lens3 st
 conv => lhs; rw [← ak (st)]
 cases h : pC n <;> simp [ET, hN, hT, hL, jk, jl, h]
theorem xd (n : Int) (st : St) : E L (.func 111) [.v (.int .i32 n)] st = some (.v (.bool (pC n || uG n)), st) := by
 rw [B9]; obtain ⟨N, T, Lb, hN, hT, hL⟩ := lens3 st
 conv => lhs; rw [← ak (st)]
 cases h : pC n <;> simp [EV, hN, hT, hL, jk, jl, h]
def cJ (q : UInt8 → Bool) (l : List UInt8) : Nat := (l.takeWhile q).length
theorem kc (q : UInt8 → Bool) (l : List UInt8) : cJ q l ≤ l.length := (List.takeWhile_sublist q).length_le
theorem fW (q : UInt8 → Bool) (c : UInt8) (l : List UInt8) : cJ q (c :: l) = if q c then cJ q l + 1 else 0 := by
 unfold cJ; rw [List.takeWhile_cons]
 split <;> simp
theorem oX {q : UInt8 → Bool} : ∀ {l : List UInt8} {n : Nat}, n ≤ l.length → (∀ j (hj : j < l.length), j < n → q l[j] = true) → (∀ h : n < l.length, q l[n] = false) → cJ q l = n
 | [], n, hn, _, _ => by
  have : n = 0 := by simpa using hn
  subst this; rfl
 | c :: l, 0, hn, _, h => by
  have := h (by simp); rw [fW, if_neg]; simpa using this
 | c :: l, n + 1, hn, h1, h => by
  have h0 := h1 0 (by simp) (by omega); rw [fW, if_pos (by simpa using h0), oX (n := n) (by simpa using hn) (fun j hj hn' => by have := h1 (j + 1) (by simpa using hj) (by omega); rwa [List.getElem_cons_succ] at this) (fun hh => by have := h (by simpa using hh); rwa [List.getElem_cons_succ] at this)]
structure yH (g : Nat) (q : UInt8 → Bool) : Prop where
 lo : ∀ (c : UInt8) (st : St), c.toNat < 128 → E L (.func g) [.v (.int .i32 (c.toNat : Int))] st = some (.v (.bool (q c)), st)
 hi : ∃ b, (∀ c : UInt8, 128 ≤ c.toNat → q c = b) ∧ ∀ (n : Nat) (st : St), 128 ≤ n → E L (.func g) [.v (.int .i32 (n : Int))] st = some (.v (.bool b), st)
theorem Bp {g : Nat} {q : UInt8 → Bool} (ht : yH g q) {rest : List UInt8} (hlen : rest.length < 4611686018427387904) {X : St} {N T Lb : Nat} (hN : X.stk.length = N) (hT : X.tk.length = T) (hL : X.lp.length = Lb) (ptr : PV) : ∀ (k pos : Nat), rest.length - pos = k → pos ≤ rest.length → (∀ j (hj : j < rest.length), j < pos → q rest[j] = true) → ∀ x : PV,
 ∃ pos' e y, itE (S70.b0 (E L) itE N Lb) [ptr, .clo (.func g) [], x, .it Lb] (X.app [] [] [.iter (bs rest) pos]) = some (e, [ptr, .clo (.func g) [], y, .it Lb], X.app [] [] [.iter (bs rest) pos']) ∧
  ((e = .ret ∧ cJ q rest < rest.length ∧ y = .v (.int .i64 (cJ q rest))) ∨ (e = .exit 0 ∧ cJ q rest = rest.length)) := by
 intro k
 induction k using Nat.strongRecOn with
 | ind k ih =>
 intro pos hk hp hall x
 by_cases hlt : pos < rest.length
 · by_cases hb : rest[pos].toNat < 128
   · by_cases hq : q rest[pos] = true
     · obtain ⟨pos', e, y, h1, h2⟩ := ih (rest.length - (pos + 1)) (by omega) (pos + 1) rfl (by omega) (fun j hj hj' => by
        by_cases hjp : j = pos
        · subst hjp; exact hq
        · exact hall j hj (by omega)) x
       refine ⟨pos', e, y, ?_, h2⟩; rw [bW (vs' := [ptr, .clo (.func g) [], x, .it Lb]) (st' := X.app [] [] [.iter (bs rest) (pos + 1)])]
       · exact h1
       · have hd := AM.decode_ascii hlt hb
         simp [S70.b0, hN, hT, hL, hlt, hd, ht.lo rest[pos] _ hb, hq]
     · have hs : cJ q rest = pos := oX hp hall fun _ => by simpa using hq
       refine ⟨pos + 1, .ret, .v (.int .i64 pos), ?_, .inl ⟨rfl, by omega, by rw [hs]⟩⟩; apply eK; have hd := AM.decode_ascii hlt hb; simp [S70.b0, hN, hT, hL, hlt, hd, ht.lo rest[pos] _ hb, hq]
   · obtain ⟨hh1, hh2, hh3, hh4, hh5⟩ := AM.decode_high hlt (by omega : 128 ≤ rest[pos].toNat)
     obtain ⟨b, hb1, hb2⟩ := ht.hi
     cases b with
     | true =>
      obtain ⟨pos', e, y, h1, h2⟩ := ih (rest.length - (pos + (Utf8.decode (bs rest) pos).2)) (by omega) (pos + (Utf8.decode (bs rest) pos).2) rfl (by omega) (fun j hj hj' => by
       by_cases hjp : j < pos
       · exact hall j hj hjp
       · exact hb1 _ (hh5 j hj (by omega) hj')) x
      refine ⟨pos', e, y, ?_, h2⟩; rw [bW (vs' := [ptr, .clo (.func g) [], x, .it Lb]) (st' := X.app [] [] [.iter (bs rest) (pos + (Utf8.decode (bs rest) pos).2)])]
      · exact h1
      · simp [S70.b0, hN, hT, hL, hlt, hb2 _ _ hh1]
     | false =>
      have hs : cJ q rest = pos := oX hp hall fun _ => hb1 _ (by omega)
      refine ⟨pos + (Utf8.decode (bs rest) pos).2, .ret, .v (.int .i64 pos), ?_, .inl ⟨rfl, by omega, by rw [hs]⟩⟩; apply eK; simp [S70.b0, hN, hT, hL, hlt, hb2 _ _ hh1]
 · have hs : cJ q rest = pos := oX hp hall fun h => absurd h hlt
   refine ⟨pos, .exit 0, x, ?_, .inr ⟨rfl, by omega⟩⟩; apply iD; simp [S70.b0, hN, hT, hL, hlt]
theorem DK {g : Nat} {q : UInt8 → Bool} (ht : yH g q) {s : St} {b : Nat} {rest : List UInt8} {x y : PV} (hb : b < s.stk.length) (hlen : rest.length < 4611686018427387904) :
 E L (.func 70) [.ptr false b 0, .clo (.func g) []] (s.af false b [str rest, x, y]) = some (.v (.int .i64 (cJ q rest)), s.af false b [str rest, x, y]) := by
 rw [Eb]; obtain ⟨N, T, Lb, hN, hT, hL⟩ := lens3 s; rw [hN] at hb
 conv => lhs; rw [← ak (s.af false b [str rest, x, y])]
 have hr : ∀ X : St, X.lp.length = Lb → mh Tryd.prog 9 (str rest) (X.app [] [] []) = some (.it Lb, X.app [] [] [.iter (bs rest) 0]) := fun X h => yb [] [] [] (by kernel_rfl) (bs rest) h
 obtain ⟨pos', e, z, h1, h2⟩ := Bp ht hlen (X := s.af false b [str rest, x, y]) (N := N) (T := T) (Lb := Lb) (by rw [cK, hN]) (by rw [eA, hT]) (by rw [ew, hL]) (.ptr false b 0) rest.length 0 rfl (by omega) (fun j hj h => absurd h (by omega)) (.v (.int .i64 0))
 rcases h2 with ⟨rfl, h3, rfl⟩ | ⟨rfl, h3⟩
 · simp [S70, hN, hT, hL, hb, hr, h1]
 · simp [S70, hN, hT, hL, hb, hr, h1, lW, h3]
def adv : List UInt8 → Nat × Nat → Nat × Nat
 | [], p => p
 | c :: l, p => adv l (if c = 10 then (p.1 + 1, 1) else (p.1, p.2 + 1))
theorem iK (a b : List UInt8) (p : Nat × Nat) : adv (a ++ b) p = adv b (adv a p) := by
 induction a generalizing p with
 | nil => rfl
 | cons c a ih => exact ih _
theorem qC : ∀ (l : List UInt8) (p : Nat × Nat), 1 ≤ p.2 → p.1 ≤ (adv l p).1 ∧ (adv l p).1 ≤ p.1 + l.length ∧ 1 ≤ (adv l p).2 ∧ (adv l p).2 ≤ p.2 + l.length
 | [], p, h => by simp [adv, h]
 | c :: l, p, h => by
  simp only [adv, al]; split
  · have := qC l (p.1 + 1, 1) (by simp)
    simp only at this; omega
  · have := qC l (p.1, p.2 + 1) (by simp)
    simp only at this; omega
abbrev rdc (rest : List UInt8) (p : Nat × Nat) : List PV := [str rest, .v (.int .i64 (p.1 : Int)), .v (.int .i64 (p.2 : Int))]
def gq (c : UInt8) : List PV := [.v (.int .u8 (c.toNat : Int))]
theorem jL (l : List UInt8) : iT (bs l) = l.map gq := rfl
theorem CE {l : List UInt8} {i : Nat} {c : Cap} (k : IntKind) (h : i < l.length) : bN Tryd.prog 74 (.sl (l.map gq) c) (.v (.int k (i : Int))) = some (.fp (gq l[i]) 0) := by
 rw [E7]
 have h1 : ej (i : Int) (l.map gq).length = true := by simp [ej, h]
 rw [h1, cond_true, Int.toNat_natCast, List.getElem?_map, dF h]
 rfl
theorem zy {X : St} {N T Lb b : Nat} (hN : X.stk.length = N) (hT : X.tk.length = T) (hL : X.lp.length = Lb) (hb : b < N) {rest t : List UInt8} {p : Nat × Nat} (hp : 1 ≤ p.2) (h1 : p.1 + t.length < 4611686018427387904) (h2 : p.2 + t.length < 4611686018427387904) :
 ∀ (suf pre : List UInt8), t = pre ++ suf →
  itE (S69.b0 (E L) itE N Lb) [.ptr false b 0, str t, .sl (t.map gq) .dead, .v (.int .i64 (t.length : Int)), .v (.int .i64 (pre.length : Int))] ((X.af false b (rdc rest (adv pre p))).app [] [] []) =
   some (.exit 0, [.ptr false b 0, str t, .sl (t.map gq) .dead, .v (.int .i64 (t.length : Int)), .v (.int .i64 (t.length : Int))], (X.af false b (rdc rest (adv t p))).app [] [] []) := by
 intro suf
 induction suf with
 | nil =>
  intro pre ht
  have ht : t = pre := by simpa using ht
  subst ht; apply iD; simp [S69.b0, hN, hT, hL]
 | cons c suf ih =>
  intro pre ht
  have ht' : t = (pre ++ [c]) ++ suf := by simp [ht]
  have hl : pre.length < t.length := by rw [ht]; simp
  have hg : t[pre.length] = c := by simp [ht]
  have hb1 := qC pre p hp; have w0 : IntKind.i64.wrap ((pre.length : Int) + 1) = (pre.length : Int) + 1 := IntWalk.i64_in _ (by omega); have w1 : IntKind.i64.wrap (((adv pre p).1 : Int) + 1) = ((adv pre p).1 : Int) + 1 := IntWalk.i64_in _ (by omega); have w2 : IntKind.i64.wrap (((adv pre p).2 : Int) + 1) = ((adv pre p).2 : Int) + 1 := IntWalk.i64_in _ (by omega); have hi := CE (l := t) (c := .dead) .i64 hl; rw [hg] at hi
  have ha : adv (pre ++ [c]) p = if c = 10 then ((adv pre p).1 + 1, 1) else ((adv pre p).1, (adv pre p).2 + 1) := by rw [iK]; rfl
  have ih := ih (pre ++ [c]) ht'; rw [ha] at ih
  have hlt : (pre.length : Int) < (t.length : Int) := by omega
  by_cases hc : c = 10
  · subst hc
    rw [bW (vs' := [.ptr false b 0, str t, .sl (t.map gq) .dead, .v (.int .i64 (t.length : Int)), .v (.int .i64 ((pre ++ [(10 : UInt8)]).length : Int))]) (st' := (X.af false b (rdc rest ((adv pre p).1 + 1, 1))).app [] [] [])]
    · simpa using ih
    · simp [S69.b0, hN, hT, hL, hb, hlt, hi, gq, rdc, w0, w1, w2]
  · have hc' : ¬ ((c.toNat : Int) = 10) := fun h => hc (UInt8.toNat_inj.1 (by simpa using Int.ofNat_inj.1 h))
    rw [bW (vs' := [.ptr false b 0, str t, .sl (t.map gq) .dead, .v (.int .i64 (t.length : Int)), .v (.int .i64 ((pre ++ [c]).length : Int))]) (st' := (X.af false b (rdc rest ((adv pre p).1, (adv pre p).2 + 1))).app [] [] [])]
    · rw [if_neg hc] at ih
      exact ih
    · simp [S69.b0, hN, hT, hL, hb, hlt, hi, gq, rdc, w0, w1, w2, hc']
theorem DJ {s : St} {b n : Nat} {rest : List UInt8} {p : Nat × Nat} (hb : b < s.stk.length) (hn : n ≤ rest.length) (hp : 1 ≤ p.2) (h1 : p.1 + rest.length < 4611686018427387904) (h2 : p.2 + rest.length < 4611686018427387904) :
 E L (.func 69) [.ptr false b 0, .v (.int .i64 (n : Int))] (s.af false b (rdc rest p)) = some (str (rest.take n), s.af false b (rdc (rest.drop n) (adv (rest.take n) p))) := by
 rw [Ea]; obtain ⟨N, T, Lb, hN, hT, hL⟩ := lens3 s; rw [hN] at hb
 conv => lhs; rw [← ak (s.af false b (rdc rest p))]
 have hl : (rest.take n).length ≤ rest.length := by simp; omega
 have h := zy hN hT hL hb (rest := rest.drop n) (t := rest.take n) hp (by omega) (by omega) (rest.take n) [] rfl; simp only [adv, aF] at h; have e1 := Bv (l := rest) .i64 hn; have e2 := Bx (l := rest) .i64 hn; generalize rest.take n = t at h e1 ⊢; generalize rest.drop n = r at h e2 ⊢; simp only [rdc, ic] at h; simp [S69, hN, hT, hL, hb, rdc, e1, e2, kV, jL, rm, h]
theorem contains_nil (sub : List UInt8) : Lib.contains [] sub = sub.isEmpty := by
 cases sub <;> simp [Lib.contains, Lib.index]
theorem index_ge (sub : List UInt8) : ∀ l : List UInt8, -1 ≤ Lib.index l sub
 | [] => by simp only [Lib.index]; split <;> omega
 | b :: l => by
  have ih := index_ge sub l; simp only [Lib.index]; split
  · omega
  · split
    · omega
    · omega
theorem contains_cons (b : UInt8) (l sub : List UInt8) : Lib.contains (b :: l) sub = (sub.isPrefixOf (b :: l) || Lib.contains l sub) := by
 have h := index_ge sub l; simp only [Lib.contains, Lib.index]
 by_cases h1 : sub.isPrefixOf (b :: l) = true
 · simp [h1]
 · simp only [h1, ab, if_false, Bool.false_or]
   by_cases h2 : Lib.index l sub = -1
   · simp [h2]
   · have : (Lib.index l sub == -1) = false := by simpa using h2
     rw [this]; simp only [ab, if_false, decide_eq_decide]; omega
def ir : List (List UInt8) → List UInt8
 | [] => []
 | w :: ws => w ++ 32 :: ir ws
theorem Bf {s w : List UInt8} {R : List UInt8} (hs : ∀ c ∈ s, c ≠ 32) (hw : ∀ c ∈ w, c ≠ 32) : (s ++ [32]).isPrefixOf (w ++ 32 :: R) = decide (s = w) := by
 induction s generalizing w with
 | nil =>
  cases w with
  | nil => simp
  | cons c w =>
   have : c ≠ 32 := hw c (by simp); simp [ij, Ne.symm this]
 | cons a s ih =>
  have ha : a ≠ 32 := hs a (by simp)
  cases w with
  | nil => simp [ij, ha]
  | cons c w =>
   have := ih (w := w) (fun c h => hs c (by simp [h])) (fun c h => hw c (by simp [h])); simp only [aw, ij, this, List.cons.injEq]
   by_cases hac : a = c <;> simp [hac]
theorem sa {s w R : List UInt8} (hw : ∀ c ∈ w, c ≠ 32) : Lib.contains (w ++ 32 :: R) (32 :: s) = Lib.contains (32 :: R) (32 :: s) := by
 induction w with
 | nil => rfl
 | cons c w ih =>
  have hc : c ≠ 32 := hw c (by simp); rw [aw, contains_cons, ih fun c h => hw c (by simp [h])]; simp [ij, Ne.symm hc]
theorem jM {s : List UInt8} (hs : ∀ c ∈ s, c ≠ 32) : ∀ ws : List (List UInt8), (∀ w ∈ ws, ∀ c ∈ w, c ≠ 32) → Lib.contains (32 :: ir ws) (32 :: (s ++ [32])) = ws.contains s
 | [], _ => by
  rw [contains_cons, ir, contains_nil]
  cases s <;> simp [ij]
 | w :: ws, h => by
  have hw := h w (by simp); rw [contains_cons, ir, sa hw, jM hs ws fun w hw => h w (by simp [hw])]; simp only [ij, beq_self_eq_true, bB, Bf hs hw, List.contains_cons, Bool.beq_eq_decide_eq]
theorem tE (l : List UInt8) (c : UInt8) : Lib.contains l [c] = l.contains c := by
 induction l with
 | nil => rfl
 | cons b l ih =>
  rw [contains_cons, ih, List.contains_cons]; simp [ij]
theorem td {a b : List UInt8} (h : a.length < 4294967281) (st : St) : E L (.func 133) [str a, str b] st = some (.v (.bool (Lib.contains a b)), st) := by
 rw [qL (L := L) (f := 133) (g := jg la) (by kernel_rfl)]; simp [AM.jg, AM.kR, AM.valOf, la, cm, h, mI, jd, ll]
def kS : List (List UInt8) := [[114, 101, 99, 111, 114, 100], [103, 108, 111, 98, 97, 108], [102, 117, 110], [116, 104, 114, 101, 97, 100], [108, 101, 116], [118, 97, 114], [115, 101, 116], [112, 114, 105, 110, 116], [105, 102], [101, 108, 115, 101], [108, 111, 111, 112], [98, 114, 101, 97, 107], [99, 111, 110, 116, 105, 110, 117, 101], [97, 116, 111, 109, 105, 99], [99, 97, 108, 108], [108, 111, 97, 100], [110, 101, 119], [115, 105, 122, 101], [105, 110, 116], [114, 101, 97, 108], [105, 110, 116, 115], [110, 105, 108], [105, 110, 112, 117, 116], [116, 114, 117, 110, 99]]
def kg (l : List UInt8) : Bool := kS.contains l
theorem ta : ∀ w ∈ kS, (∀ c ∈ w, c ≠ 32) ∧ w ≠ [] := by decide
theorem wY : ([32, 114, 101, 99, 111, 114, 100, 32, 103, 108, 111, 98, 97, 108, 32, 102, 117, 110, 32, 116, 104, 114, 101, 97, 100, 32, 108, 101, 116, 32, 118, 97, 114, 32, 115, 101, 116, 32, 112, 114, 105, 110, 116, 32, 105, 102, 32, 101, 108, 115, 101, 32, 108, 111, 111, 112, 32, 98, 114, 101, 97, 107, 32, 99, 111, 110, 116, 105, 110, 117, 101, 32, 97, 116, 111, 109, 105, 99, 32, 99, 97, 108, 108, 32, 108, 111, 97, 100, 32, 110, 101, 119, 32, 115, 105, 122, 101, 32, 105, 110, 116, 32, 114, 101, 97, 108, 32, 105, 110, 116, 115, 32, 110, 105, 108, 32, 105, 110, 112, 117, 116, 32, 116, 114, 117, 110, 99, 32] : List UInt8) = 32 :: ir kS := by decide
theorem zQ : (32 :: ir kS).length = 128 := by decide
theorem zP (l : List UInt8) : kg l = (!decide (l = []) && !l.contains 32 && Lib.contains (32 :: ir kS) (32 :: (l ++ [32]))) := by
 by_cases h0 : l = []
 · subst h0; simp [kg]; decide
 by_cases h1 : l.contains 32 = true
 · have : kg l = false := by
    cases h : kg l with
    | false => rfl
    | true =>
     have hm : l ∈ kS := by simpa [kg] using h
     have hc : (32 : UInt8) ∈ l := by simpa using h1
     exact absurd rfl ((ta l hm).1 32 hc)
   have hm1 : (32 : UInt8) ∈ l := by simpa using h1
   simp [this, hm1]
 · have h2 : ∀ c ∈ l, c ≠ 32 := fun c hc e => h1 (by subst e; simpa using hc)
   rw [jM h2 kS fun w hw => (ta w hw).1]
   have hm1 : (32 : UInt8) ∉ l := by simpa using h1
   simp [kg, h0, hm1]
theorem xc {l : List UInt8} (h : l.length < 2147483648) (st : St) : E L (.func 108) [str l] st = some (.v (.bool (kg l)), st) := by
 rw [B7]; obtain ⟨N, T, Lb, hN, hT, hL⟩ := lens3 st
 conv => lhs; rw [← ak (st)]
 have e1 : ∀ X : St, E L (.func 133) [str l, str [32]] X = some (.v (.bool (l.contains 32)), X) := fun X => by rw [td (by omega), tE]
 have e2 : ∀ X : St, E L (.func 133) [str (32 :: ir kS), str (32 :: (l ++ [32]))] X = some (.v (.bool (Lib.contains (32 :: ir kS) (32 :: (l ++ [32])))), X) := fun X => by rw [td (by rw [zQ]; omega)]
 have e3 : aW Tryd.prog true .add 9 (str [32]) (str l) = some (str (32 :: l)) := by rw [qI _ _ _ _ _ (by simp [cm]; omega), mY]; rfl
 have e4 : aW Tryd.prog true .add 9 (str (32 :: l)) (str [32]) = some (str (32 :: (l ++ [32]))) := by rw [qI _ _ _ _ _ (by simp [cm]; omega), mY]; rfl
 have e5 : (bs l = bs []) = (l = []) := propext ep; rw [zP]
 by_cases h0 : l = [] <;> cases h1 : l.contains 32 <;> simp only [EU, fF, aU, wY, da, cD, bT, bU, cE, fc, fw, ef, dj, ec, dh, ed, di, fv, bV, gZ, dW, hI, gV, gO, AM.ae, aQ, aR, ag, bg, aP, aD, AM.onG, fP, cc, eB, Ex.bh, cond_true, cond_false, cW, cV, cU, cT, cS, cY, cR, cZ, cX, eg, dm, dp, cC, db, AM.dt, AM.cellsOf, AM.an, bQ, beq_true, cM, al, aF, bf, bz, bS, decide_true, decide_false, bL, bB, bq, bA, ba, aC, az, aZ, aw, dc, de, ft, aA, bK, bu, bR, cz, dV, dZ, cK, eA, ew, set_set, eD, dD, fM, dE, cI, bD, dC, dB, cH, dA, eC, eE, fG, fH, bE, cm, ep, fF, dP, aL, hN, hT, hL, aU, aE, AM.aT, ah, cQ, bO, aX, aS, aO, aN, AM.part, bm, aM, cf, cj, cg, cd, cd.eO, AM.dM, bC, cr, e1, e2, e3, e4, h0, h1]
 all_goals rfl
def tO (c : UInt8) : Bool := pC (c.toNat : Int)
def uF (c : UInt8) : Bool := uG (c.toNat : Int)
def eo (c : UInt8) : Bool := tO c || uF c
def se (i : Nat) (c : UInt8) : Bool := tO c || (!decide (i = 0) && uF c)
def mG : List UInt8 → Bool
 | [] => true
 | c :: r => tO c && r.all eo
def qg (l : List UInt8) : Bool := !decide (l = []) && mG l && !kg l
theorem pH (l : List UInt8) : mG l = true ↔ ∀ i (h : i < l.length), se i l[i] = true := by
 cases l with
 | nil => simp [mG]
 | cons c r =>
  simp only [mG, ao, dG]
  constructor
  · rintro ⟨h1, h2⟩ i hi
    cases i with
    | zero => simp [se, h1]
    | succ i =>
     have := h2 (r[i]'(by simpa using hi)) (List.getElem_mem _); simpa [se, eo] using this
  · intro h
    refine ⟨by have := h 0 (by simp); rw [List.getElem_cons_zero] at this; simpa [se] using this, fun x hx => ?_⟩; obtain ⟨i, hi, rfl⟩ := List.mem_iff_getElem.1 hx; have := h (i + 1) (by simpa using hi); rw [List.getElem_cons_succ] at this; simpa [se, eo] using this
theorem jX {n : Int} (h : 128 ≤ n) : pC n = false := by simp [pC]; omega
theorem jO {n : Int} (h : 128 ≤ n) : uG n = false := by simp [uG]; omega
theorem y8 {l : List UInt8} (hlen : l.length < 4611686018427387904) {X : St} {N T Lb : Nat} (hN : X.stk.length = N) (hT : X.tk.length = T) (hL : X.lp.length = Lb) : ∀ (k pos : Nat), l.length - pos = k → pos ≤ l.length → (∀ j (hj : j < l.length), j < pos → se j l[j] = true) →
 ∃ pos', itE (oc.b0 (E L) itE N Lb) [str l, .v (.bool false), .it Lb] (X.app [] [] [.iter (bs l) pos]) = some (bif mG l then .exit 0 else .ret, [str l, .v (.bool false), .it Lb], X.app [] [] [.iter (bs l) pos']) := by
 intro k
 induction k using Nat.strongRecOn with
 | ind k ih =>
 intro pos hk hp hall
 by_cases hlt : pos < l.length
 · by_cases hb : l[pos].toNat < 128
   · have hd := AM.decode_ascii hlt hb
     have h0 : ((pos : Int) = 0) = (pos = 0) := propext (by omega)
     by_cases hq : se pos l[pos] = true
     · obtain ⟨pos', h1⟩ := ih (l.length - (pos + 1)) (by omega) (pos + 1) rfl (by omega) (fun j hj hj' => by
        by_cases hjp : j = pos
        · subst hjp; exact hq
        · exact hall j hj (by omega))
       refine ⟨pos', ?_⟩; rw [bW (vs' := [str l, .v (.bool false), .it Lb]) (st' := X.app [] [] [.iter (bs l) (pos + 1)])]
       · exact h1
       · simp only [se, tO, uF] at hq
         cases hl : pC (l[pos].toNat : Int) with
         | true => simp [oc.b0, hN, hT, hL, hlt, hd, jk, jl, hl]
         | false =>
          rw [hl] at hq; simp only [Bool.false_or, ao, Bool.not_eq_true', decide_eq_false_iff_not] at hq; simp [oc.b0, hN, hT, hL, hlt, hd, jk, jl, hl, h0, hq.1, hq.2]
     · have hn : mG l = false := by
        cases h : mG l with
        | false => rfl
        | true => exact absurd ((pH l).1 h pos hlt) hq
       refine ⟨pos + 1, ?_⟩; rw [hn, cond_false]; apply eK; simp only [se, tO, uF, Bool.or_eq_true, not_or, Bool.not_eq_true] at hq
       by_cases hz : pos = 0
       · subst hz
         simp [oc.b0, hN, hT, hL, hlt, hd, jk, jl, hq.1]
       · have hq2 := hq.2
         simp only [hz, decide_false, ba, bB] at hq2; simp [oc.b0, hN, hT, hL, hlt, hd, jk, jl, hq.1, h0, hz, hq2]
   · have hb' : 128 ≤ l[pos].toNat := by omega
     obtain ⟨hh1, hh2, hh3, hh4, hh5⟩ := AM.decode_high hlt hb'
     have hn : mG l = false := by
      cases h : mG l with
      | false => rfl
      | true =>
       have := (pH l).1 h pos hlt; simp [se, tO, uF, jX (show (128 : Int) ≤ (l[pos].toNat : Int) by omega), jO (show (128 : Int) ≤ (l[pos].toNat : Int) by omega)] at this
     refine ⟨pos + (Utf8.decode (bs l) pos).2, ?_⟩; rw [hn, cond_false]; apply eK; have e1 := jX (show (128 : Int) ≤ ((Utf8.decode (bs l) pos).1 : Int) by omega); have e2 := jO (show (128 : Int) ≤ ((Utf8.decode (bs l) pos).1 : Int) by omega); have h0 : ((pos : Int) = 0) = (pos = 0) := propext (by omega)
     by_cases hz : pos = 0
     · subst hz
       simp [oc.b0, hN, hT, hL, hlt, jk, jl, e1, e2]
     · simp [oc.b0, hN, hT, hL, hlt, jk, jl, e1, e2, h0, hz]
 · have hn : mG l = true := (pH l).2 fun i hi => hall i hi (by omega)
   refine ⟨pos, ?_⟩; rw [hn, cond_true]; apply iD; simp [oc.b0, hN, hT, hL, hlt]
theorem BV {l : List UInt8} (h : l.length < 2147483648) (st : St) : E L (.func 109) [str l] st = some (.v (.bool (qg l)), st) := by
 rw [B8]; obtain ⟨N, T, Lb, hN, hT, hL⟩ := lens3 st
 conv => lhs; rw [← ak (st)]
 have hr : ∀ X : St, X.lp.length = Lb → mh Tryd.prog 9 (str l) (X.app [] [] []) = some (.it Lb, X.app [] [] [.iter (bs l) 0]) := fun X h => yb [] [] [] (by kernel_rfl) (bs l) h
 obtain ⟨pos', h1⟩ := y8 (l := l) (by omega) hN hT hL l.length 0 rfl (by omega) (fun j hj h => absurd h (by omega))
 have hw : ∀ X : St, E L (.func 108) [str l] X = some (.v (.bool (kg l)), X) := xc h
 cases hn : mG l with
 | true =>
  rw [hn, cond_true] at h1
  by_cases h0 : l = []
  · subst h0
    simp [oc, hN, hT, hL, hr, h1, qg]
  · simp [oc, hN, hT, hL, hr, h1, qg, h0, hn, hw]
 | false =>
  rw [hn, cond_false] at h1; simp [oc, hN, hT, hL, hr, h1, qg, hn]
theorem Co (P : Program) (cst : Bool) (t : TypeId) (a b : UInt8) : aW P cst .or t (.v (.int .u8 (a.toNat : Int))) (.v (.int .u8 (b.toNat : Int))) = some (.v (.int .u8 ((a ||| b).toNat : Int))) := by
 have h : binOp .or t (.int .u8 (a.toNat : Int)) (.int .u8 (b.toNat : Int)) = pure (.int .u8 ((a ||| b).toNat : Int)) := by
  have e : ∀ x : UInt8, BitVec.ofInt 8 (x.toNat : Int) = x.toBitVec := fun x => by
   rw [BitVec.ofInt_natCast]; exact BitVec.eq_of_toNat_eq (by simp)
  have e2 : (BitVec.ofInt IntKind.u8.bits (a.toNat : Int) ||| BitVec.ofInt IntKind.u8.bits (b.toNat : Int)).toNat = (a ||| b).toNat := by
   show (BitVec.ofInt 8 (a.toNat : Int) ||| BitVec.ofInt 8 (b.toNat : Int)).toNat = _
   rw [e, e]; rfl
  have e3 : IntKind.u8.wrap ((a ||| b).toNat : Int) = ((a ||| b).toNat : Int) := IntWalk.u8_in _ (by have := (a ||| b).toNat_lt; omega)
  show (pure (.int .u8 (IntKind.u8.wrap ((BitVec.ofInt IntKind.u8.bits (a.toNat : Int) ||| BitVec.ofInt IntKind.u8.bits (b.toNat : Int)).toNat : Int))) : Sem Value) = _
  rw [e2, e3]
 rw [om, h]; exact fe P _ rfl
theorem tf (c : UInt8) (st : St) : E L (.func 145) [.v (.int .u8 (c.toNat : Int))] st = some (.v (.int .u8 ((c ||| 32).toNat : Int)), st) := by
 rw [Cc]; obtain ⟨N, T, Lb, hN, hT, hL⟩ := lens3 st
 conv => lhs; rw [← ak (st)]
 have h := Co Tryd.prog true 5 c 32; simp only [show ((32 : UInt8).toNat : Int) = 32 from rfl] at h; simp [EW, hN, hT, hL, h]
def qY (c : UInt8) : Nat := if 48 ≤ c.toNat ∧ c.toNat ≤ 57 then c.toNat - 48 else if 97 ≤ (c ||| 32).toNat ∧ (c ||| 32).toNat ≤ 122 then (c ||| 32).toNat - 87 else 255
def pu (B cut mx : Nat) : List UInt8 → Nat → Nat × Option Nat
 | [], n => (n, none)
 | c :: t, n => if B ≤ qY c then (0, some 2) else if cut ≤ n then (mx, some 1) else if mx < n * B + qY c then (mx, some 1) else pu B cut mx t (n * B + qY c)
theorem ue (n : Int) : IntKind.u64.wrap n = n % 18446744073709551616 := by
 simp [IntKind.wrap, IntKind.bits, IntKind.signed]
abbrev pV (B cut mx : Nat) (t s0 : List UInt8) (n i : Nat) : List PV := [PV.v (.int .i64 (B : Int)), .v (.int .u64 0), .v .nilIface, .v (.bool false), str s0, .v (.int .u64 (cut : Int)), .v (.int .u64 (mx : Int)), .v (.bool false), .v (.int .u64 (n : Int)), .sl (t.map gq) .dead, .v (.int .i64 (t.length : Int)), .v (.int .i64 (i : Int))]
theorem vb {t s0 : List UInt8} {B cut mx n i d : Nat} (hB : 2 ≤ B ∧ B ≤ 36) (hcut : ∀ n, n < cut → n * B < 18446744073709551616) (hmx : mx < 18446744073709551616) (hc64 : cut < 18446744073709551616) {X : St} {N T Lb : Nat} (hN : X.stk.length = N) (hT : X.tk.length = T) (hL : X.lp.length = Lb) (hi : i < t.length) (hlen : t.length < 4611686018427387904) (ht : 48 ≤ t[i].toNat ∧ t[i].toNat ≤ 57) (hd : d = t[i].toNat - 48) :
 ∃ vs, iy.b0 (E L) itE N Lb (pV B cut mx t s0 n i) (X.app [] [] []) = some (if B ≤ d ∨ cut ≤ n ∨ mx < n * B + d then .ret else .normal, vs, X.app [] [] []) ∧
  (if B ≤ d then AM.ae vs 1 = .v (.int .u64 0) ∧ AM.ae vs 2 = .ifc 192 (.int .i64 2) else if cut ≤ n ∨ mx < n * B + d then AM.ae vs 1 = .v (.int .u64 (mx : Int)) ∧ AM.ae vs 2 = .ifc 192 (.int .i64 1) else vs = pV B cut mx t s0 (n * B + d) (i + 1)) := by
 have hx := CE (l := t) (c := .dead) .i64 hi
 generalize t[i] = c at *
 have clt := c.toNat_lt
 have hlt : (i : Int) < (t.length : Int) := by omega
 have wi : IntKind.i64.wrap ((i : Int) + 1) = (i : Int) + 1 := IntWalk.i64_in _ (by omega); have wB8 : IntKind.u8.wrap (B : Int) = B := IntWalk.u8_in _ (by omega); have wB64 : IntKind.u64.wrap (B : Int) = B := IntWalk.u64_in _ (by omega)
 have i95 : ¬ ((c.toNat : Int) = 95) := by omega
 have i1 : (48 : Int) ≤ (c.toNat : Int) := by omega
 have i2 : (c.toNat : Int) ≤ 57 := by omega
 have wd : IntKind.u8.wrap ((c.toNat : Int) - 48) = (d : Int) := by rw [IntWalk.u8_in _ (by omega)]; omega
 have wd64 : IntKind.u64.wrap (d : Int) = d := IntWalk.u64_in _ (by omega)
 by_cases g1 : B ≤ d
 · have j1 : (B : Int) ≤ (d : Int) := by omega
   simp [iy.b0, hN, hT, hL, hlt, hx, gq, i95, i1, i2, wd, eX, hO, gf, gE, wB8, wB64, wd64, wi, g1, j1]
 have j1 : ¬ ((B : Int) ≤ (d : Int)) := by omega
 by_cases g2 : cut ≤ n
 · have j2 : (cut : Int) ≤ (n : Int) := by omega
   simp [iy.b0, hN, hT, hL, hlt, hx, gq, i95, i1, i2, wd, eX, hO, gf, gE, wB8, wB64, wd64, wi, g1, j1, g2, j2]
 have j2 : ¬ ((cut : Int) ≤ (n : Int)) := by omega
 have hm := hcut n (by omega)
 have wm : IntKind.u64.wrap ((n : Int) * (B : Int)) = ((n * B : Nat) : Int) := by rw [← Int.natCast_mul]; exact IntWalk.u64_in _ (by omega)
 generalize n * B = m at *
 by_cases g3 : mx < m + d
 · by_cases g4 : m + d < 18446744073709551616
   · have wa : IntKind.u64.wrap ((m : Int) + (d : Int)) = (m : Int) + (d : Int) := IntWalk.u64_in _ (by omega)
     have j3 : ¬ ((m : Int) + (d : Int) < (m : Int)) := by omega
     have j4 : (mx : Int) < (m : Int) + (d : Int) := by omega
     simp [iy.b0, hN, hT, hL, hlt, hx, gq, i95, i1, i2, wd, eX, hO, gf, gE, wB8, wB64, wd64, wi, g1, j1, g2, j2, wm, wa, g3, j3, j4]
   · have wa : IntKind.u64.wrap ((m : Int) + (d : Int)) = (m : Int) + (d : Int) - 18446744073709551616 := by rw [ue]; omega
     have j3 : (m : Int) + (d : Int) - 18446744073709551616 < (m : Int) := by omega
     simp [iy.b0, hN, hT, hL, hlt, hx, gq, i95, i1, i2, wd, eX, hO, gf, gE, wB8, wB64, wd64, wi, g1, j1, g2, j2, wm, wa, g3, j3]
 · have wa : IntKind.u64.wrap ((m : Int) + (d : Int)) = (m : Int) + (d : Int) := IntWalk.u64_in _ (by omega)
   have j3 : ¬ ((m : Int) + (d : Int) < (m : Int)) := by omega
   have j4 : ¬ ((mx : Int) < (m : Int) + (d : Int)) := by omega
   simp [iy.b0, hN, hT, hL, hlt, hx, gq, i95, i1, i2, wd, eX, hO, gf, gE, wB8, wB64, wd64, wi, g1, j1, g2, j2, wm, wa, g3, j3, j4]
theorem tW {t s0 : List UInt8} {B cut mx n i d : Nat} (hB : 2 ≤ B ∧ B ≤ 36) (hcut : ∀ n, n < cut → n * B < 18446744073709551616) (hmx : mx < 18446744073709551616) (hc64 : cut < 18446744073709551616) {X : St} {N T Lb : Nat} (hN : X.stk.length = N) (hT : X.tk.length = T) (hL : X.lp.length = Lb) (hi : i < t.length) (hlen : t.length < 4611686018427387904) (h57 : 57 < t[i].toNat) (h95 : t[i].toNat ≠ 95) (ht : 97 ≤ (t[i] ||| 32).toNat ∧ (t[i] ||| 32).toNat ≤ 122) (hd : d = (t[i] ||| 32).toNat - 87) :
 ∃ vs, iy.b0 (E L) itE N Lb (pV B cut mx t s0 n i) (X.app [] [] []) = some (if B ≤ d ∨ cut ≤ n ∨ mx < n * B + d then .ret else .normal, vs, X.app [] [] []) ∧
  (if B ≤ d then AM.ae vs 1 = .v (.int .u64 0) ∧ AM.ae vs 2 = .ifc 192 (.int .i64 2) else if cut ≤ n ∨ mx < n * B + d then AM.ae vs 1 = .v (.int .u64 (mx : Int)) ∧ AM.ae vs 2 = .ifc 192 (.int .i64 1) else vs = pV B cut mx t s0 (n * B + d) (i + 1)) := by
 have hx := CE (l := t) (c := .dead) .i64 hi
 generalize t[i] = c at *
 have clt := c.toNat_lt
 have hlt : (i : Int) < (t.length : Int) := by omega
 have wi : IntKind.i64.wrap ((i : Int) + 1) = (i : Int) + 1 := IntWalk.i64_in _ (by omega); have wB8 : IntKind.u8.wrap (B : Int) = B := IntWalk.u8_in _ (by omega); have wB64 : IntKind.u64.wrap (B : Int) = B := IntWalk.u64_in _ (by omega)
 have i95 : ¬ ((c.toNat : Int) = 95) := by omega
 have i1 : (48 : Int) ≤ (c.toNat : Int) := by omega
 have i2 : ¬ ((c.toNat : Int) ≤ 57) := by omega
 have hl := tf c
 generalize (c ||| 32).toNat = lo at *
 have i3 : (97 : Int) ≤ (lo : Int) := by omega
 have i4 : (lo : Int) ≤ 122 := by omega
 have wd0 : IntKind.u8.wrap ((lo : Int) - 97) = (lo : Int) - 97 := IntWalk.u8_in _ (by omega)
 have wd : IntKind.u8.wrap ((lo : Int) - 97 + 10) = (d : Int) := by rw [IntWalk.u8_in _ (by omega)]; omega
 have wd64 : IntKind.u64.wrap (d : Int) = d := IntWalk.u64_in _ (by omega)
 by_cases g1 : B ≤ d
 · have j1 : (B : Int) ≤ (d : Int) := by omega
   simp [iy.b0, hN, hT, hL, hlt, hx, gq, i95, i1, i2, hl, i3, i4, wd0, wd, eX, hO, gf, gE, wB8, wB64, wd64, wi, g1, j1]
 have j1 : ¬ ((B : Int) ≤ (d : Int)) := by omega
 by_cases g2 : cut ≤ n
 · have j2 : (cut : Int) ≤ (n : Int) := by omega
   simp [iy.b0, hN, hT, hL, hlt, hx, gq, i95, i1, i2, hl, i3, i4, wd0, wd, eX, hO, gf, gE, wB8, wB64, wd64, wi, g1, j1, g2, j2]
 have j2 : ¬ ((cut : Int) ≤ (n : Int)) := by omega
 have hm := hcut n (by omega)
 have wm : IntKind.u64.wrap ((n : Int) * (B : Int)) = ((n * B : Nat) : Int) := by rw [← Int.natCast_mul]; exact IntWalk.u64_in _ (by omega)
 generalize n * B = m at *
 by_cases g3 : mx < m + d
 · by_cases g4 : m + d < 18446744073709551616
   · have wa : IntKind.u64.wrap ((m : Int) + (d : Int)) = (m : Int) + (d : Int) := IntWalk.u64_in _ (by omega)
     have j3 : ¬ ((m : Int) + (d : Int) < (m : Int)) := by omega
     have j4 : (mx : Int) < (m : Int) + (d : Int) := by omega
     simp [iy.b0, hN, hT, hL, hlt, hx, gq, i95, i1, i2, hl, i3, i4, wd0, wd, eX, hO, gf, gE, wB8, wB64, wd64, wi, g1, j1, g2, j2, wm, wa, g3, j3, j4]
   · have wa : IntKind.u64.wrap ((m : Int) + (d : Int)) = (m : Int) + (d : Int) - 18446744073709551616 := by rw [ue]; omega
     have j3 : (m : Int) + (d : Int) - 18446744073709551616 < (m : Int) := by omega
     simp [iy.b0, hN, hT, hL, hlt, hx, gq, i95, i1, i2, hl, i3, i4, wd0, wd, eX, hO, gf, gE, wB8, wB64, wd64, wi, g1, j1, g2, j2, wm, wa, g3, j3]
 · have wa : IntKind.u64.wrap ((m : Int) + (d : Int)) = (m : Int) + (d : Int) := IntWalk.u64_in _ (by omega)
   have j3 : ¬ ((m : Int) + (d : Int) < (m : Int)) := by omega
   have j4 : ¬ ((mx : Int) < (m : Int) + (d : Int)) := by omega
   simp [iy.b0, hN, hT, hL, hlt, hx, gq, i95, i1, i2, hl, i3, i4, wd0, wd, eX, hO, gf, gE, wB8, wB64, wd64, wi, g1, j1, g2, j2, wm, wa, g3, j3, j4]
theorem wG {t s0 : List UInt8} {B cut mx n i : Nat} (hB : 2 ≤ B ∧ B ≤ 36) (hcut : ∀ n, n < cut → n * B < 18446744073709551616) (hmx : mx < 18446744073709551616) (hc64 : cut < 18446744073709551616) {X : St} {N T Lb : Nat} (hN : X.stk.length = N) (hT : X.tk.length = T) (hL : X.lp.length = Lb) (hi : i < t.length) (hlen : t.length < 4611686018427387904) (ht : ¬ (48 ≤ t[i].toNat ∧ t[i].toNat ≤ 57)) (ht' : ¬ (97 ≤ (t[i] ||| 32).toNat ∧ (t[i] ||| 32).toNat ≤ 122)) :
 ∃ vs, iy.b0 (E L) itE N Lb (pV B cut mx t s0 n i) (X.app [] [] []) = some (.ret, vs, X.app [] [] []) ∧ AM.ae vs 1 = .v (.int .u64 0) ∧ AM.ae vs 2 = .ifc 192 (.int .i64 2) := by
 have hx := CE (l := t) (c := .dead) .i64 hi
 generalize t[i] = c at *
 have clt := c.toNat_lt
 have hlt : (i : Int) < (t.length : Int) := by omega
 have wi : IntKind.i64.wrap ((i : Int) + 1) = (i : Int) + 1 := IntWalk.i64_in _ (by omega); have wB8 : IntKind.u8.wrap (B : Int) = B := IntWalk.u8_in _ (by omega); have wB64 : IntKind.u64.wrap (B : Int) = B := IntWalk.u64_in _ (by omega)
 by_cases h95 : c = 95
 · subst h95
   have hl : ∀ st, E L (.func 145) [.v (.int .u8 95)] st = some (.v (.int .u8 127), st) := fun st => tf 95 st
   simp [iy.b0, hN, hT, hL, hlt, hx, gq, eX, hl]
 have i95 : ¬ ((c.toNat : Int) = 95) := fun h => h95 (UInt8.toNat_inj.1 (by simpa using Int.ofNat_inj.1 h))
 have hl := tf c
 generalize (c ||| 32).toNat = lo at *
 by_cases i1 : (48 : Int) ≤ (c.toNat : Int)
 · have i2 : ¬ ((c.toNat : Int) ≤ 57) := by omega
   by_cases i3 : (97 : Int) ≤ (lo : Int)
   · have i4 : ¬ ((lo : Int) ≤ 122) := by omega
     simp [iy.b0, hN, hT, hL, hlt, hx, gq, eX, hl, i95, i1, i2, i3, i4]
   · simp [iy.b0, hN, hT, hL, hlt, hx, gq, eX, hl, i95, i1, i2, i3]
 · by_cases i3 : (97 : Int) ≤ (lo : Int)
   · have i4 : ¬ ((lo : Int) ≤ 122) := by omega
     simp [iy.b0, hN, hT, hL, hlt, hx, gq, eX, hl, i95, i1, i3, i4]
   · simp [iy.b0, hN, hT, hL, hlt, hx, gq, eX, hl, i95, i1, i3]
theorem sI (c : UInt8) (h : 97 ≤ (c ||| 32).toNat ∧ (c ||| 32).toNat ≤ 122) : 57 < c.toNat ∧ c.toNat ≠ 95 := by
 have key : ∀ n, n < 256 → 97 ≤ (UInt8.ofNat n ||| 32).toNat ∧ (UInt8.ofNat n ||| 32).toNat ≤ 122 → 57 < (UInt8.ofNat n).toNat ∧ (UInt8.ofNat n).toNat ≠ 95 := by decide +kernel
 have := key c.toNat c.toNat_lt; rw [UInt8.ofNat_toNat] at this; exact this h
def PLo (t s0 : List UInt8) (B cut mx : Nat) (X : St) (N Lb : Nat) (suf : List UInt8) (n i : Nat) : Prop :=
 ∃ x vs, itE (iy.b0 (E L) itE N Lb) (pV B cut mx t s0 n i) (X.app [] [] []) = some (x, vs, X.app [] [] []) ∧
  (match (pu B cut mx suf n).2 with
   | none => x = .exit 3 ∧ vs = pV B cut mx t s0 (pu B cut mx suf n).1 t.length
   | some k => x = .ret ∧ AM.ae vs 1 = .v (.int .u64 ((pu B cut mx suf n).1 : Int)) ∧ AM.ae vs 2 = .ifc 192 (.int .i64 (k : Int)))
theorem rD {t s0 : List UInt8} {B cut mx : Nat} (hB : 2 ≤ B ∧ B ≤ 36) (hcut : ∀ n, n < cut → n * B < 18446744073709551616) (hmx : mx < 18446744073709551616) (hc64 : cut < 18446744073709551616) {X : St} {N T Lb : Nat} (hN : X.stk.length = N) (hT : X.tk.length = T) (hL : X.lp.length = Lb) (hlen : t.length < 4611686018427387904) :
 ∀ (suf pre : List UInt8) (n : Nat), t = pre ++ suf →
 PLo t s0 B cut mx X N Lb suf n pre.length := by
 intro suf
 induction suf with
 | nil =>
  intro pre n ht
  have ht : t = pre := by simpa using ht
  subst ht; refine ⟨.exit 3, pV B cut mx t s0 n t.length, ?_, rfl, rfl⟩; apply iD; simp [iy.b0, hN, hT, hL]
 | cons c suf ih =>
  intro pre n ht
  have ht' : t = (pre ++ [c]) ++ suf := by simp [ht]
  have hl : pre.length < t.length := by rw [ht]; simp
  have hg : t[pre.length] = c := by simp [ht]
  have fin : ∀ d, d = qY c → (∃ vs, iy.b0 (E L) itE N Lb (pV B cut mx t s0 n pre.length) (X.app [] [] []) = some (if B ≤ d ∨ cut ≤ n ∨ mx < n * B + d then .ret else .normal, vs, X.app [] [] []) ∧
   (if B ≤ d then AM.ae vs 1 = .v (.int .u64 0) ∧ AM.ae vs 2 = .ifc 192 (.int .i64 2) else if cut ≤ n ∨ mx < n * B + d then AM.ae vs 1 = .v (.int .u64 (mx : Int)) ∧ AM.ae vs 2 = .ifc 192 (.int .i64 1) else vs = pV B cut mx t s0 (n * B + d) (pre.length + 1))) → PLo t s0 B cut mx X N Lb (c :: suf) n pre.length := by
   intro d hd h; obtain ⟨vs, h1, h2⟩ := h; subst hd; simp only [PLo, pu]
   by_cases g1 : B ≤ qY c
   · rw [if_pos (.inl g1)] at h1
     rw [if_pos g1] at h2; rw [if_pos g1]; exact ⟨.ret, vs, eK h1, rfl, h2.1, h2.2⟩
   · rw [if_neg g1] at h2
     rw [if_neg g1]
     by_cases g2 : cut ≤ n ∨ mx < n * B + qY c
     · rw [if_pos (.inr g2)] at h1
       rw [if_pos g2] at h2; refine ⟨.ret, vs, eK h1, ?_⟩
       by_cases g3 : cut ≤ n
       · rw [if_pos g3]; exact ⟨rfl, h2.1, h2.2⟩
       · rw [if_neg g3, if_pos (g2.resolve_left g3)]; exact ⟨rfl, h2.1, h2.2⟩
     · rw [if_neg (by rw [not_or]; exact ⟨g1, g2⟩)] at h1
       rw [if_neg g2] at h2; subst h2; rw [if_neg (fun h => g2 (.inl h)), if_neg (fun h => g2 (.inr h)), bW h1]; have := ih (pre ++ [c]) (n * B + qY c) ht'; rw [bM, bG] at this; simp only [PLo] at this; exact this
  by_cases h1 : 48 ≤ c.toNat ∧ c.toNat ≤ 57
  · exact fin (c.toNat - 48) (by rw [qY, if_pos h1]) (vb hB hcut hmx hc64 hN hT hL hl hlen (by rw [hg]; exact h1) (by rw [hg]))
  · by_cases h2 : 97 ≤ (c ||| 32).toNat ∧ (c ||| 32).toNat ≤ 122
    · exact fin ((c ||| 32).toNat - 87) (by rw [qY, if_neg h1, if_pos h2]) (tW hB hcut hmx hc64 hN hT hL hl hlen (by rw [hg]; exact (sI c h2).1) (by rw [hg]; exact (sI c h2).2) (by rw [hg]; exact h2) (by rw [hg]))
    · have hd : qY c = 255 := by rw [qY, if_neg h1, if_neg h2]
      obtain ⟨vs, e1, e2, e3⟩ := wG (s0 := s0) (n := n) hB hcut hmx hc64 hN hT hL hl hlen (by rw [hg]; exact h1) (by rw [hg]; exact h2); simp only [PLo, pu, hd]; rw [if_pos (by omega)]; exact ⟨.ret, vs, eK e1, rfl, e2, e3⟩
def puR (B cut mx : Nat) (t : List UInt8) : Nat × Option Nat := if t = [] then (0, some 2) else pu B cut mx t 0
def ku : Option Nat → PV
 | none => .v .nilIface
 | some k => .ifc 192 (.int .i64 (k : Int))
theorem DC : aW Tryd.prog true .shl 45 (.v (.int .u64 1)) (.v (.int .u64 63)) = some (.v (.int .u64 9223372036854775808)) := by kernel_rfl
theorem BZ {t : List UInt8} (h : t.length < 2147483648) (st : St) : E L (.func 134) [str t, .v (.int .i64 10), .v (.int .i64 63)] st = some (.tup [.v (.int .u64 ((puR 10 1844674407370955162 9223372036854775807 t).1 : Int)), ku (puR 10 1844674407370955162 9223372036854775807 t).2], st) := by
 rw [xl]; obtain ⟨N, T, Lb, hN, hT, hL⟩ := lens3 st
 conv => lhs; rw [← ak (st)]
 by_cases h0 : t = []
 · subst h0
   simp [iy, hN, hT, hL, eX, puR, ku]
 have wb : IntKind.u64.wrap 63 = 63 := IntWalk.u64_in _ (by omega)
 have wm : IntKind.u64.wrap 9223372036854775807 = 9223372036854775807 := by exact IntWalk.u64_in _ (by omega)
 obtain ⟨x, vs, h1, h2⟩ := rD (t := t) (s0 := t) (B := 10) (cut := 1844674407370955162) (mx := 9223372036854775807) (by omega) (fun n h => by omega) (by omega) (by omega) hN hT hL (by omega) t [] 0 rfl
 have e0 : puR 10 1844674407370955162 9223372036854775807 t = pu 10 1844674407370955162 9223372036854775807 t 0 := by rw [puR, if_neg h0]
 rw [e0]; generalize pu 10 1844674407370955162 9223372036854775807 t 0 = q at h2 ⊢; obtain ⟨r, k⟩ := q; simp only [aF, pV, ic, aa] at h1 h2
 cases k with
 | none =>
  obtain ⟨rfl, rfl⟩ := h2; simp [iy, hN, hT, hL, eX, h0, lD, kV, jL, rm, DC, wb, wm, h1, ku]
 | some k =>
  obtain ⟨rfl, h3, h4⟩ := h2; simp [AM.ae] at h3 h4; simp [iy, hN, hT, hL, eX, h0, lD, kV, jL, rm, DC, wb, wm, h1, ku, h3, h4]
theorem DD : aW Tryd.prog true .shl 45 (.v (.int .u64 1)) (.v (.int .u64 64)) = some (.v (.int .u64 0)) := by kernel_rfl
theorem B3 {t : List UInt8} (h : t.length < 2147483648) (st : St) : E L (.func 134) [str t, .v (.int .i64 16), .v (.int .i64 64)] st = some (.tup [.v (.int .u64 ((puR 16 1152921504606846976 18446744073709551615 t).1 : Int)), ku (puR 16 1152921504606846976 18446744073709551615 t).2], st) := by
 rw [xl]; obtain ⟨N, T, Lb, hN, hT, hL⟩ := lens3 st
 conv => lhs; rw [← ak (st)]
 by_cases h0 : t = []
 · subst h0
   simp [iy, hN, hT, hL, eX, puR, ku]
 have wb : IntKind.u64.wrap 64 = 64 := IntWalk.u64_in _ (by omega)
 have wm : IntKind.u64.wrap (-1) = 18446744073709551615 := by rw [ue]; omega
 obtain ⟨x, vs, h1, h2⟩ := rD (t := t) (s0 := t) (B := 16) (cut := 1152921504606846976) (mx := 18446744073709551615) (by omega) (fun n h => by omega) (by omega) (by omega) hN hT hL (by omega) t [] 0 rfl
 have e0 : puR 16 1152921504606846976 18446744073709551615 t = pu 16 1152921504606846976 18446744073709551615 t 0 := by rw [puR, if_neg h0]
 rw [e0]; generalize pu 16 1152921504606846976 18446744073709551615 t 0 = q at h2 ⊢; obtain ⟨r, k⟩ := q; simp only [aF, pV, ic, aa] at h1 h2
 cases k with
 | none =>
  obtain ⟨rfl, rfl⟩ := h2; simp [iy, hN, hT, hL, eX, h0, lD, kV, jL, rm, DD, wb, wm, h1, ku]
 | some k =>
  obtain ⟨rfl, h3, h4⟩ := h2; simp [AM.ae] at h3 h4; simp [iy, hN, hT, hL, eX, h0, lD, kV, jL, rm, DD, wb, wm, h1, ku, h3, h4]
theorem Bj {g : List Value → Option PV} {args : List PV} {vs : List Value} {p : PV} (h1 : kR args = some vs) (h2 : g vs = some p) (h3 : mI p = true) (st : St) : jg g args st = some (p, st) := by
 simp only [AM.jg, h1, h2, ag, h3, cond_true]
theorem xe {f t : List UInt8} {b z : Int} {k : Nat} (h : t.length < 2147483648) (hk : k = 1 ∨ k = 2) (st : St) : E L (.func 135) [str f, str t, .v (.int .i64 b), .v (.int .i64 z), .ifc 192 (.int .i64 (k : Int))] st = some (.ni, st) := by
 rw [qL (L := L) (f := 135) (g := jg (rB 192)) (by kernel_rfl)]
 have h1 : t.length ≤ 281474976710656 := by omega
 have h2 : (k : Int) = 1 ∨ (k : Int) = 2 := by omega
 simp [AM.jg, AM.kR, AM.valOf, rB, cm, h1, h2, mI]
theorem DP {n : Nat} (h : n < 18446744073709551616) (st : St) : E L (.func 99) [.v (.int .u64 (n : Int)), .v (.int .i64 10)] st = some (str (Lib.decDigits n), st) := by
 rw [qL (L := L) (f := 99) (g := jg zd) (by kernel_rfl)]
 have h1 : (n : Int) < 18446744073709551616 := by omega
 have h0 : (0 : Int) ≤ (n : Int) := by omega
 have e : zd [.int .u64 (n : Int), .int .i64 10] = some (str (Lib.decDigits n)) := by
  unfold zd
  show (if (10 : Int) = 10 ∧ 0 ≤ (n : Int) ∧ (n : Int) < 18446744073709551616 then some (PV.v (.string ⟨(Lib.decDigits (n : Int).toNat).toArray⟩)) else none) = _
  rw [if_pos ⟨rfl, h0, h1⟩, Int.toNat_natCast]
  rfl
 exact Bj rfl e rfl st
theorem BU (l : List UInt8) (c : UInt8) (st : St) : E L (.func 106) [str l, .v (.int .u8 (c.toNat : Int))] st = some (.v (.int .i64 (Lib.indexByte l c)), st) := by
 rw [qL (L := L) (f := 106) (g := jg j0) (by kernel_rfl)]; simp [AM.jg, AM.kR, AM.valOf, j0, mI, jd, ll]
theorem BY {a b : List UInt8} (h : a.length < 4294967281) (hb : b.length < 4294967281) (h1 : ∀ c ∈ a, c.toNat < 128) (h2 : ∀ c ∈ b, c.toNat < 128) (st : St) : E L (.func 112) [str a, str b] st = some (.v (.bool (Lib.containsAny a b)), st) := by
 rw [qL (L := L) (f := 112) (g := jg iG) (by kernel_rfl)]
 have e1 : nO (bs a) = true := by simpa [nO, ll] using h1
 have e2 : nO (bs b) = true := by simpa [nO, ll] using h2
 simp [AM.jg, AM.kR, AM.valOf, iG, cm, h, hb, e1, e2, mI, jd, ll]
theorem vR (l : List UInt8) (c : UInt8) (st : St) : E L (.func 72) [str l, .v (.int .u8 (c.toNat : Int))] st = some (.v (.int .i64 (Lib.indexByte l c)), st) := by
 rw [Ed]; obtain ⟨N, T, Lb, hN, hT, hL⟩ := lens3 st
 conv => lhs; rw [← ak (st)]
 simp [S72, hN, hT, hL, BU]
theorem indexByte_ge (c : UInt8) : ∀ l : List UInt8, -1 ≤ Lib.indexByte l c ∧ (0 ≤ Lib.indexByte l c ↔ c ∈ l)
 | [] => by simp [Lib.indexByte]
 | b :: l => by
  have ih := indexByte_ge c l; simp only [Lib.indexByte]
  by_cases hb : b = c
  · simp [hb]
  · have hb' : (b == c) = false := by simpa using hb
    have hb2 : ¬ c = b := fun h => hb h.symm
    rw [hb']; simp only [ab, if_false, List.mem_cons, hb2, false_or]
    by_cases h1 : Lib.indexByte l c = -1
    · have : (Lib.indexByte l c == -1) = true := by simpa using h1
      rw [if_pos this]; rw [h1] at ih; exact ⟨by omega, by rw [← ih.2]⟩
    · have : (Lib.indexByte l c == -1) = false := by simpa using h1
      rw [this]; simp only [ab, if_false]; exact ⟨by omega, by rw [← ih.2]; omega⟩
def iM : Option Nat → PV
 | none => .v .nilIface
 | some _ => .ni
theorem Bi {B cut mx : Nat} : ∀ (t : List UInt8) (n : Nat) (k : Nat), (pu B cut mx t n).2 = some k → k = 1 ∨ k = 2
 | [], n, k, h => by cases h
 | c :: t, n, k, h => by
  simp only [pu] at h; split at h
  · right; exact (Option.some.inj h).symm
  · split at h
    · left; exact (Option.some.inj h).symm
    · split at h
      · left; exact (Option.some.inj h).symm
      · exact Bi t _ k h
theorem yi {B cut mx : Nat} {t : List UInt8} {k : Nat} (h : (puR B cut mx t).2 = some k) : k = 1 ∨ k = 2 := by
 rw [puR] at h; split at h
 · right; exact (Option.some.inj h).symm
 · exact Bi t 0 k h
theorem BW {t : List UInt8} (h : t.length < 2147483648) (st : St) : E L (.func 110) [str t, .v (.int .i64 10), .v (.int .i64 63)] st = some (.tup [.v (.int .u64 ((puR 10 1844674407370955162 9223372036854775807 t).1 : Int)), iM (puR 10 1844674407370955162 9223372036854775807 t).2], st) := by
 rw [xh]; obtain ⟨N, T, Lb, hN, hT, hL⟩ := lens3 st
 conv => lhs; rw [← ak (st)]
 have h1 : ∀ X, E L (.func 134) [str t, .v (.int .i64 10), .v (.int .i64 63)] X = some (.tup [.v (.int .u64 ((puR 10 1844674407370955162 9223372036854775807 t).1 : Int)), ku (puR 10 1844674407370955162 9223372036854775807 t).2], X) := BZ h
 have hk : ∀ k, (puR 10 1844674407370955162 9223372036854775807 t).2 = some k → k = 1 ∨ k = 2 := fun k h => yi h
 generalize puR 10 1844674407370955162 9223372036854775807 t = q at h1 hk ⊢; obtain ⟨r, k⟩ := q
 cases k with
 | none => simp [zW, hN, hT, hL, h1, ku, iM, sK]
 | some k =>
  have h49 : ∀ X, E L (.func 135) [str [80, 97, 114, 115, 101, 85, 105, 110, 116], str t, .v (.int .i64 10), .v (.int .i64 63), .ifc 192 (.int .i64 (k : Int))] X = some (.ni, X) := xe h (hk k rfl)
  simp [zW, hN, hT, hL, h1, ku, iM, sE, h49]
theorem BX {t : List UInt8} (h : t.length < 2147483648) (st : St) : E L (.func 110) [str t, .v (.int .i64 16), .v (.int .i64 64)] st = some (.tup [.v (.int .u64 ((puR 16 1152921504606846976 18446744073709551615 t).1 : Int)), iM (puR 16 1152921504606846976 18446744073709551615 t).2], st) := by
 rw [xh]; obtain ⟨N, T, Lb, hN, hT, hL⟩ := lens3 st
 conv => lhs; rw [← ak (st)]
 have h1 : ∀ X, E L (.func 134) [str t, .v (.int .i64 16), .v (.int .i64 64)] X = some (.tup [.v (.int .u64 ((puR 16 1152921504606846976 18446744073709551615 t).1 : Int)), ku (puR 16 1152921504606846976 18446744073709551615 t).2], X) := B3 h
 have hk : ∀ k, (puR 16 1152921504606846976 18446744073709551615 t).2 = some k → k = 1 ∨ k = 2 := fun k h => yi h
 generalize puR 16 1152921504606846976 18446744073709551615 t = q at h1 hk ⊢; obtain ⟨r, k⟩ := q
 cases k with
 | none => simp [zW, hN, hT, hL, h1, ku, iM, sK]
 | some k =>
  have h49 : ∀ X, E L (.func 135) [str [80, 97, 114, 115, 101, 85, 105, 110, 116], str t, .v (.int .i64 16), .v (.int .i64 64), .ifc 192 (.int .i64 (k : Int))] X = some (.ni, X) := xe h (hk k rfl)
  simp [zW, hN, hT, hL, h1, ku, iM, sE, h49]
theorem EJ : yH 107 eo := ⟨fun c st h => xb _ st, false, fun c h => by simp [eo, tO, uF, jX (show (128 : Int) ≤ (c.toNat : Int) by omega), jO (show (128 : Int) ≤ (c.toNat : Int) by omega)], fun n st h => by rw [xb, jX (by omega), jO (by omega)]; rfl⟩
theorem EK : yH 111 eo := ⟨fun c st h => xd _ st, false, fun c h => by simp [eo, tO, uF, jX (show (128 : Int) ≤ (c.toNat : Int) by omega), jO (show (128 : Int) ≤ (c.toNat : Int) by omega)], fun n st h => by rw [xd, jX (by omega), jO (by omega)]; rfl⟩
def nlB (c : UInt8) : Bool := !decide (c = 10)
theorem Fv (c : UInt8) (n : Nat) (h : n < 256) : ((c.toNat : Int) = (n : Int)) = (c = UInt8.ofNat n) := by
 apply propext
 constructor
 · intro e
   have : c.toNat = n := by omega
   rw [← this, UInt8.ofNat_toNat]
 · rintro rfl
   simp [UInt8.toNat_ofNat', Nat.mod_eq_of_lt h]
theorem EI : yH 71 nlB := ⟨fun c st h => by rw [zS]; have e : ((c.toNat : Int) = 10) = (c = 10) := Fv c 10 (by omega); simp [nlB, e], true, fun c h => by simp [nlB]; rintro rfl; simp at h, fun n st h => by rw [zS]; simp; omega⟩
theorem DO {a b : List UInt8} (ha : a.length < 4611686018427387904) (hb : b.length < 4611686018427387904) (st : St) : E L (.func 97) [str a, str b] st = some (.v (.bool (b.isPrefixOf a)), st) := by
 rw [Ek]; obtain ⟨N, T, Lb, hN, hT, hL⟩ := lens3 st
 conv => lhs; rw [← ak (st)]
 by_cases h : b.length ≤ a.length
 · have h1 : (b.length : Int) ≤ (a.length : Int) := by omega
   have e : b.isPrefixOf a = decide (a.take b.length = b) := by
    rw [Bool.eq_iff_iff, List.isPrefixOf_iff_prefix, decide_eq_true_eq, List.prefix_iff_eq_take]; exact eq_comm
   simp [S97, hN, hT, hL, lW, h1, Bv _ h, e]
 · have h1 : ¬ ((b.length : Int) ≤ (a.length : Int)) := by omega
   have e : b.isPrefixOf a = false := by
    rw [Bool.eq_false_iff]; intro hp; exact h ((List.isPrefixOf_iff_prefix.1 hp).length_le)
   simp [S97, hN, hT, hL, lW, h1, e]
theorem tg {a b : List UInt8} (ha : a.length < 4611686018427387904) (hb : b.length < 4611686018427387904) (st : St) : E L (.func 59) [str a, str b] st = some (.v (.bool (b.isPrefixOf a)), st) := by
 rw [D9]; obtain ⟨N, T, Lb, hN, hT, hL⟩ := lens3 st
 conv => lhs; rw [← ak (st)]
 simp [S59, hN, hT, hL, DO ha hb]
def qu (c : UInt8) : Bool := [32, 9, 13, 10].contains c
def eV : List UInt8 → Nat
 | [] => 0
 | c :: l => if ([47, 47] : List UInt8).isPrefixOf (c :: l) then cJ nlB (c :: l) else if qu c then 1 else 0
theorem mX : ∀ l : List UInt8, eV l ≤ l.length
 | [] => aq _
 | c :: l => by
  simp only [eV]; split
  · exact kc _ _
  · split <;> simp
theorem u7 {l : List UInt8} (h : ([47, 47] : List UInt8).isPrefixOf l = true) : 0 < cJ nlB l := by
 cases l with
 | nil => simp [ij] at h
 | cons c l =>
  have : c = 47 := by
   simp only [ij, ao, beq_iff_eq] at h; exact h.1.symm
  subst this; rw [fW, if_pos (by decide)]; omega
def fa (rest : List UInt8) (p : Nat × Nat) : List UInt8 × (Nat × Nat) :=
 if h : eV rest = 0 then (rest, p) else fa (rest.drop (eV rest)) (adv (rest.take (eV rest)) p)
termination_by rest.length
decreasing_by
 have := mX rest; simp only [fY]; omega
theorem jz {rest : List UInt8} {n : Nat} (hn : n ≤ rest.length) {p : Nat × Nat} (hp : 1 ≤ p.2) {M : Nat} (h1 : p.1 + rest.length < M) (h2 : p.2 + rest.length < M) :
 1 ≤ (adv (rest.take n) p).2 ∧ (adv (rest.take n) p).1 + (rest.drop n).length < M ∧ (adv (rest.take n) p).2 + (rest.drop n).length < M := by
 have := qC (rest.take n) p hp; simp only [List.length_take, fY] at this ⊢; omega
theorem we (rest : List UInt8) (p : Nat × Nat) {M : Nat} (hp : 1 ≤ p.2) (h1 : p.1 + rest.length < M) (h2 : p.2 + rest.length < M) :
 1 ≤ (fa rest p).2.2 ∧ (fa rest p).2.1 + (fa rest p).1.length < M ∧ (fa rest p).2.2 + (fa rest p).1.length < M ∧ eV (fa rest p).1 = 0 ∧ (fa rest p).1.length ≤ rest.length := by
 induction rest, p using fa.induct with
 | case1 rest p h => rw [fa, dif_pos h]; exact ⟨hp, h1, h2, h, aq _⟩
 | case2 rest p h ih =>
  rw [fa, dif_neg h]; have := jz (mX rest) hp h1 h2; have := ih this.1 this.2.1 this.2.2; simp only [fY] at this ⊢; exact ⟨this.1, this.2.1, this.2.2.1, this.2.2.2.1, by omega⟩
theorem vQ {g : Nat} {q : UInt8 → Bool} (ht : yH g q) {X : St} {b : Nat} {rest : List UInt8} {x y : PV} (hb : b < X.stk.length) (hlen : rest.length < 4611686018427387904) (bl : List Blk) (tk : List (Nat × Nat)) (lp : List Aux) :
 E L (.func 70) [.ptr false b 0, .clo (.func g) []] ((X.af false b [str rest, x, y]).app bl tk lp) = some (.v (.int .i64 (cJ q rest)), (X.af false b [str rest, x, y]).app bl tk lp) := by
 rw [← bE bl tk lp hb]; exact DK ht (by rw [cz]; omega) hlen
theorem pf {X : St} {b n : Nat} {rest : List UInt8} {p : Nat × Nat} (hb : b < X.stk.length) (hn : n ≤ rest.length) (hp : 1 ≤ p.2) (h1 : p.1 + rest.length < 4611686018427387904) (h2 : p.2 + rest.length < 4611686018427387904) (bl : List Blk) (tk : List (Nat × Nat)) (lp : List Aux) :
 E L (.func 69) [.ptr false b 0, .v (.int .i64 (n : Int))] ((X.af false b (rdc rest p)).app bl tk lp) = some (str (rest.take n), (X.af false b (rdc (rest.drop n) (adv (rest.take n) p))).app bl tk lp) := by
 rw [← bE bl tk lp hb, ← bE bl tk lp hb]; exact DJ (by rw [cz]; omega) hn hp h1 h2
theorem v8 {X : St} {N T Lb b : Nat} (hN : X.stk.length = N) (hT : X.tk.length = T) (hL : X.lp.length = Lb) (hb : b < N) : ∀ (rest : List UInt8) (p : Nat × Nat), 1 ≤ p.2 → p.1 + rest.length < 4611686018427387904 → p.2 + rest.length < 4611686018427387904 →
 itE (S37.b0 (E L) itE N Lb) [.ptr false b 0] ((X.af false b (rdc rest p)).app [] [] []) = some (.exit 0, [.ptr false b 0], (X.af false b (rdc (fa rest p).1 (fa rest p).2)).app [] [] []) := by
 intro rest p
 induction rest, p using fa.induct with
 | case1 rest p h =>
  intro hp h1 h2; rw [fa, dif_pos h]; apply iD
  cases rest with
  | nil => simp [S37.b0, hN, hT, hL, rdc, hb]
  | cons c l =>
   have hpre : ([47, 47] : List UInt8).isPrefixOf (c :: l) = false := by
    cases hq : ([47, 47] : List UInt8).isPrefixOf (c :: l) with
    | false => rfl
    | true =>
     have := u7 hq; rw [eV, if_pos hq] at h; omega
   have hbl : qu c = false := by
    cases hq : qu c with
    | false => rfl
    | true => rw [eV, if_neg (by rw [hpre]; simp), if_pos hq] at h; cases h
   have e26 : ∀ X, E L (.func 59) [str (c :: l), str [47, 47]] X = some (.v (.bool false), X) := fun X => by rw [tg (by omega) (by simp), hpre]
   have e30 : ∀ X, E L (.func 72) [str [32, 9, 13, 10], .v (.int .u8 (c.toNat : Int))] X = _ := vR [32, 9, 13, 10] c
   have hi : ¬ (0 ≤ Lib.indexByte [32, 9, 13, 10] c) := by
    rw [(indexByte_ge c _).2]; simpa [qu] using hbl
   simp [S37.b0, hN, hT, hL, rdc, hb, e26, qf, e30, hi]
 | case2 rest p h ih =>
  intro hp h1 h2; rw [fa, dif_neg h]; have ad := jz (mX rest) hp h1 h2; rw [bW (vs' := [.ptr false b 0]) (st' := (X.af false b (rdc (rest.drop (eV rest)) (adv (rest.take (eV rest)) p))).app [] [] [])]
  · exact ih ad.1 ad.2.1 ad.2.2
  cases rest with
  | nil => simp [eV] at h
  | cons c l =>
   have e26 : ∀ X, E L (.func 59) [str (c :: l), str [47, 47]] X = some (.v (.bool (([47, 47] : List UInt8).isPrefixOf (c :: l))), X) := fun X => by rw [tg (by omega) (by simp)]
   have e27 := pf (X := X) (hN ▸ hb) (mX (c :: l)) hp h1 h2 [] [] []
   cases hpre : ([47, 47] : List UInt8).isPrefixOf (c :: l) with
   | true =>
    have hn : eV (c :: l) = cJ nlB (c :: l) := by rw [eV, if_pos hpre]
    rw [hpre] at e26; have e28 := vQ EI (X := X) (b := b) (rest := c :: l) (x := .v (.int .i64 (p.1 : Int))) (y := .v (.int .i64 (p.2 : Int))) (hN ▸ hb) (by omega) [] [] []; rw [← hn] at e28
    generalize eV (c :: l) = n at *
    generalize (c :: l).drop n = r at *
    generalize (c :: l).take n = t at *
    simp only [rdc] at e27; simp [S37.b0, hN, hT, hL, rdc, hb, e26, e28, e27]
   | false =>
    rw [hpre] at e26
    have hbl : qu c = true := by
     cases hq : qu c with
     | true => rfl
     | false => rw [eV, if_neg (by rw [hpre]; simp), if_neg (by rw [hq]; simp)] at h; exact absurd rfl h
    have hn : eV (c :: l) = 1 := by rw [eV, if_neg (by rw [hpre]; simp), if_pos hbl]
    have e30 : ∀ X, E L (.func 72) [str [32, 9, 13, 10], .v (.int .u8 (c.toNat : Int))] X = _ := vR [32, 9, 13, 10] c
    have hi : 0 ≤ Lib.indexByte [32, 9, 13, 10] c := by
     rw [(indexByte_ge c _).2]; simpa [qu] using hbl
    rw [hn] at e27 ⊢; simp only [rdc, aa] at e27
    generalize (c :: l).drop 1 = r at *
    generalize (c :: l).take 1 = t at *
    simp [S37.b0, hN, hT, hL, rdc, hb, e26, qf, e30, hi, e27]
theorem DH {s : St} {b : Nat} {rest : List UInt8} {p : Nat × Nat} (hb : b < s.stk.length) (hp : 1 ≤ p.2) (h1 : p.1 + rest.length < 4611686018427387904) (h2 : p.2 + rest.length < 4611686018427387904) :
 E L (.func 37) [.ptr false b 0] (s.af false b (rdc rest p)) = some (.tup [], s.af false b (rdc (fa rest p).1 (fa rest p).2)) := by
 rw [D4]; obtain ⟨N, T, Lb, hN, hT, hL⟩ := lens3 s; rw [hN] at hb
 conv => lhs; rw [← ak (s.af false b (rdc rest p))]
 have h := v8 hN hT hL hb rest p hp h1 h2; simp only [rdc] at h; simp [S37, hN, hT, hL, rdc, h]
abbrev bj (k : Nat) (t : List UInt8) (v : Nat) (p : Nat × Nat) : List PV := [.v (.int .i64 (k : Int)), str t, .v (.int .u64 (v : Int)), .v (.int .i64 (p.1 : Int)), .v (.int .i64 (p.2 : Int))]
abbrev sh (t : List UInt8) : Nat × Option Nat := puR 10 1844674407370955162 9223372036854775807 t
abbrev vd (t : List UInt8) : Nat × Option Nat := puR 16 1152921504606846976 18446744073709551615 t
def kH (t : List UInt8) : Nat × Nat × Bool :=
 if kg t then (2, 0, true) else if qg t then (1, 0, true) else (3, (sh t).1, (sh t).2.isNone && decide (Lib.decDigits (sh t).1 = t))
theorem DA {B cut mx : Nat} : ∀ (t : List UInt8) (n : Nat), n ≤ mx → (pu B cut mx t n).1 ≤ mx
 | [], n, h => h
 | c :: t, n, h => by
  simp only [pu]; split
  · exact dq _
  · split
    · exact aq _
    · split
      · exact aq _
      · exact DA t _ (by omega)
theorem ye (t : List UInt8) : (sh t).1 ≤ 9223372036854775807 := by
 unfold sh puR; split
 · simp
 · exact DA t 0 (dq _)
theorem DL {s : St} {b : Nat} {rest : List UInt8} {p : Nat × Nat} (hb : b < s.stk.length) (hp : 1 ≤ p.2) (h1 : p.1 + rest.length < 2147483648) (h2 : p.2 + rest.length < 2147483648) :
 E L (.func 75) [.ptr false b 0] (s.af false b (rdc rest p)) = some (.tup [.agg (bj (kH (rest.take (cJ eo rest))).1 (rest.take (cJ eo rest)) (kH (rest.take (cJ eo rest))).2.1 p), .v (.bool (kH (rest.take (cJ eo rest))).2.2)],
  s.af false b (rdc (rest.drop (cJ eo rest)) (adv (rest.take (cJ eo rest)) p))) := by
 rw [Eg]; obtain ⟨N, T, Lb, hN, hT, hL⟩ := lens3 s; rw [hN] at hb
 conv => lhs; rw [← ak (s.af false b (rdc rest p))]
 have hlt : (rest.take (cJ eo rest)).length < 2147483648 := by simp; omega
 have e28 := fun bl => vQ EJ (X := s) (b := b) (rest := rest) (x := .v (.int .i64 (p.1 : Int))) (y := .v (.int .i64 (p.2 : Int))) (hN ▸ hb) (by omega) bl [] []
 have e27 := fun bl => pf (X := s) (hN ▸ hb) (kc eo rest) hp (by omega) (by omega) bl [] []
 generalize cJ eo rest = n at *
 generalize rest.take n = t at *
 generalize rest.drop n = r at *
 simp only [rdc] at e27
 have e14 : ∀ X, E L (.func 108) [str t] X = some (.v (.bool (kg t)), X) := xc hlt
 have e13 : ∀ X, E L (.func 109) [str t] X = some (.v (.bool (qg t)), X) := BV hlt
 have e42 : ∀ X, E L (.func 110) [str t, .v (.int .i64 10), .v (.int .i64 63)] X = some (.tup [.v (.int .u64 ((sh t).1 : Int)), iM (sh t).2], X) := BW hlt
 have e43 : ∀ X, E L (.func 99) [.v (.int .u64 ((sh t).1 : Int)), .v (.int .i64 10)] X = some (str (Lib.decDigits (sh t).1), X) := DP (by have := ye t; omega)
 unfold kH
 cases hw : kg t with
 | true => simp [S75, hN, hT, hL, rdc, hb, e28, e27, e14, hw, bc, cv, laid, aH, bj]
 | false =>
 cases hm : qg t with
 | true => simp [S75, hN, hT, hL, rdc, hb, e28, e27, e14, hw, e13, hm, bc, cv, laid, aH, bj]
 | false =>
  generalize sh t = q at *
  obtain ⟨v, k⟩ := q
  cases k with
  | none => simp [S75, hN, hT, hL, rdc, hb, e28, e27, e14, hw, e13, hm, e42, e43, iM, pJ, bc, cv, laid, aH, bj]
  | some k => simp [S75, hN, hT, hL, rdc, hb, e28, e27, e14, hw, e13, hm, e42, e43, iM, sG, bc, cv, laid, aH, bj]
theorem Ci {c : UInt8} (h : eo c = true) : c.toNat < 128 := by
 have := c.toNat_lt
 by_cases hc : c.toNat < 128
 · exact hc
 · simp [eo, tO, uF, jX (show (128 : Int) ≤ (c.toNat : Int) by omega), jO (show (128 : Int) ≤ (c.toNat : Int) by omega)] at h
theorem Bz (q : UInt8 → Bool) (l : List UInt8) : ∀ c ∈ l.take (cJ q l), q c = true := by
 induction l with
 | nil => simp [cJ]
 | cons a l ih =>
  rw [fW]
  by_cases ha : q a = true
  · rw [if_pos ha, aA]
    intro c hc
    rcases List.mem_cons.1 hc with rfl | hc
    · exact ha
    · exact ih c hc
  · rw [if_neg ha]; simp
def rG (t : List UInt8) : Bool := (vd t).2.isNone && decide (t.length = 16) && !Lib.containsAny (35 :: t) [65, 66, 67, 68, 69, 70]
theorem DM {s : St} {b : Nat} {l : List UInt8} {p : Nat × Nat} (hb : b < s.stk.length) (hp : 1 ≤ p.2) (h1 : p.1 + (35 :: l).length < 2147483648) (h2 : p.2 + (35 :: l).length < 2147483648) :
 E L (.func 76) [.ptr false b 0] (s.af false b (rdc (35 :: l) p)) = some (.tup [.agg (bj 4 (35 :: l.take (cJ eo l)) (vd (l.take (cJ eo l))).1 p), .v (.bool (rG (l.take (cJ eo l))))],
  s.af false b (rdc (l.drop (cJ eo l)) (adv (35 :: l.take (cJ eo l)) p))) := by
 rw [Eh]; obtain ⟨N, T, Lb, hN, hT, hL⟩ := lens3 s; rw [hN] at hb
 conv => lhs; rw [← ak (s.af false b (rdc (35 :: l) p))]
 simp only [al] at h1 h2
 have hlt : (l.take (cJ eo l)).length < 2147483647 := by simp; omega
 have hal := Bz eo l; have ad := jz (rest := 35 :: l) (n := 1) (by simp) hp (M := 2147483648) (by simpa using h1) (by simpa using h2); simp only [aA, bu, aM, bm] at ad
 have e27 := fun bl => pf (X := s) (b := b) (n := 1) (rest := 35 :: l) (hN ▸ hb) (by simp) hp (by simp; omega) (by simp; omega) bl [] []
 simp only [aA, bu, aM, bm, rdc, aa] at e27
 have e28 := fun bl => vQ EK (X := s) (b := b) (rest := l) (x := .v (.int .i64 ((adv [35] p).1 : Int))) (y := .v (.int .i64 ((adv [35] p).2 : Int))) (hN ▸ hb) (by omega) bl [] []
 have e27' := fun bl => pf (X := s) (b := b) (rest := l) (p := adv [35] p) (hN ▸ hb) (kc eo l) ad.1 (by omega) (by omega) bl [] []
 have ea : adv (35 :: l.take (cJ eo l)) p = adv (l.take (cJ eo l)) (adv [35] p) := iK [35] _ p; rw [ea]
 generalize adv [35] p = p1 at *
 generalize cJ eo l = n at *
 generalize l.take n = t at *
 generalize l.drop n = r at *
 simp only [rdc] at e27'
 have es : aW Tryd.prog true .add 9 (str [35]) (str t) = some (str (35 :: t)) := by rw [qI _ _ _ _ _ (by simp [cm]; omega), mY]; rfl
 have esl : gH Tryd.prog 9 (str (35 :: t)) (some (.v (.int .i64 1))) none none = some (str t) := Bx (l := 35 :: t) (lo := 1) .i64 (by simp)
 have e42 : ∀ X, E L (.func 110) [str t, .v (.int .i64 16), .v (.int .i64 64)] X = some (.tup [.v (.int .u64 ((vd t).1 : Int)), iM (vd t).2], X) := BX (by omega)
 have e45 : ∀ X, E L (.func 112) [str (35 :: t), str [65, 66, 67, 68, 69, 70]] X = some (.v (.bool (Lib.containsAny (35 :: t) [65, 66, 67, 68, 69, 70])), X) := BY (by simp; omega) (by simp) (fun c hc => by
  rcases List.mem_cons.1 hc with rfl | hc
  · decide
  · exact Ci (hal c hc)) (by decide)
 unfold rG
 generalize Lib.containsAny (35 :: t) [65, 66, 67, 68, 69, 70] = ca at *
 generalize vd t = q at *
 obtain ⟨v, k⟩ := q
 cases k with
 | none =>
  by_cases hlen : t.length = 16
  · have hl' : ((t.length : Int) + 1 = 17) := by omega
    simp [S76, hN, hT, hL, rdc, hb, e27, e28, e27', es, esl, e42, iM, pJ, lW, hlen, hl', e45, bc, cv, laid, aH, bj]
  · have hl' : ¬ ((t.length : Int) + 1 = 17) := by omega
    simp [S76, hN, hT, hL, rdc, hb, e27, e28, e27', es, esl, e42, iM, pJ, lW, hlen, hl', bc, cv, laid, aH, bj]
 | some k => simp [S76, hN, hT, hL, rdc, hb, e27, e28, e27', es, esl, e42, iM, sG, bc, cv, laid, aH, bj]
def jv : List UInt8 := [123, 125, 40, 41, 91, 93, 59, 58, 44, 46, 61, 60, 43, 45, 42, 47, 37]
def eU (l : List UInt8) : Nat :=
 if ([61, 61] : List UInt8).isPrefixOf l || ([33, 61] : List UInt8).isPrefixOf l || ([60, 61] : List UInt8).isPrefixOf l then 2 else
 match l with
 | [] => 0
 | c :: _ => if jv.contains c then 1 else 0
theorem DN {s : St} {b : Nat} {c : UInt8} {l : List UInt8} {p : Nat × Nat} (hb : b < s.stk.length) (hp : 1 ≤ p.2) (h1 : p.1 + (c :: l).length < 2147483648) (h2 : p.2 + (c :: l).length < 2147483648) :
 E L (.func 77) [.ptr false b 0] (s.af false b (rdc (c :: l) p)) = some (.tup [.agg (bj 5 ((c :: l).take (eU (c :: l))) 0 p), .v (.bool (!decide (eU (c :: l) = 0)))],
  s.af false b (rdc ((c :: l).drop (eU (c :: l))) (adv ((c :: l).take (eU (c :: l))) p))) := by
 rw [Ei]; obtain ⟨N, T, Lb, hN, hT, hL⟩ := lens3 s; rw [hN] at hb
 conv => lhs; rw [← ak (s.af false b (rdc (c :: l) p))]
 have hlen : (c :: l).length < 2147483648 := by omega
 have eb : jJ Tryd.prog 173 [(0, str [61, 61]), (1, str [33, 61]), (2, str [60, 61])] = some (.agg [str [61, 61], str [33, 61], str [60, 61]]) := by kernel_rfl
 let V := fun (i : Int) => [PV.ptr false b 0, .ptr false N 0, .v (.bool false), .ptr false (N + 1) 0, .agg [str [61, 61], str [33, 61], str [60, 61]], .v (.int .i64 i)]
 have miss : ∀ (i : Int) (x : List UInt8), 0 ≤ i → i < 3 → dy Tryd.prog 173 (.agg [str [61, 61], str [33, 61], str [60, 61]]) (.v (.int .i64 i)) = some (str x) → x.length ≤ 2 → x.isPrefixOf (c :: l) = false → ∀ bl,
  S77.b0 (E L) itE N Lb (V i) ((s.af false b (rdc (c :: l) p)).app bl [] []) = some (.normal, V (i + 1), (s.af false b (rdc (c :: l) p)).app bl [] []) := by
  intro i x h0 h3 hx hxl hpre bl
  have e26 : ∀ X, E L (.func 59) [str (c :: l), str x] X = some (.v (.bool false), X) := fun X => by rw [tg (by omega) (by omega), hpre]
  have wi : IntKind.i64.wrap (i + 1) = i + 1 := IntWalk.i64_in _ (by omega); simp [S77.b0, V, hN, hT, hL, rdc, hb, h3, hx, e26, wi]
 have hit : ∀ (i : Int) (x : List UInt8), 0 ≤ i → i < 3 → dy Tryd.prog 173 (.agg [str [61, 61], str [33, 61], str [60, 61]]) (.v (.int .i64 i)) = some (str x) → x.length = 2 → x.isPrefixOf (c :: l) = true → ∃ y,
  S77.b0 (E L) itE N Lb (V i) ((s.af false b (rdc (c :: l) p)).app [⟨[.v (.int .i64 0), str [], .v (.int .u64 0), .v (.int .i64 0), .v (.int .i64 0)], []⟩, ⟨bj 5 [] 0 p, []⟩] [] []) =
   some (.ret, [PV.ptr false b 0, .ptr false N 0, .v (.bool true), .ptr false (N + 1) 0, .agg [str [61, 61], str [33, 61], str [60, 61]], y], (s.af false b (rdc ((c :: l).drop 2) (adv ((c :: l).take 2) p))).app [⟨bj 5 ((c :: l).take 2) 0 p, []⟩, ⟨bj 5 ((c :: l).take 2) 0 p, []⟩] [] []) := by
  intro i x h0 h3 hx hxl hpre
  have e26 : ∀ X, E L (.func 59) [str (c :: l), str x] X = some (.v (.bool true), X) := fun X => by rw [tg (by omega) (by omega), hpre]
  have hn : 2 ≤ (c :: l).length := by
   have := (List.isPrefixOf_iff_prefix.1 hpre).length_le; omega
  have e27 := fun bl => pf (X := s) (n := 2) (hN ▸ hb) hn hp (by omega) (by omega) bl [] []
  simp only [rdc, aa] at e27
  generalize (c :: l).drop 2 = r at *
  generalize (c :: l).take 2 = t at *
  refine ⟨.v (.int .i64 i), ?_⟩; simp [S77.b0, V, hN, hT, hL, rdc, hb, h3, hx, e26, e27, laid, aH, bj]
 have i0 : dy Tryd.prog 173 (.agg [str [61, 61], str [33, 61], str [60, 61]]) (.v (.int .i64 0)) = some (str [61, 61]) := xK _ _ _ _; have i1 : dy Tryd.prog 173 (.agg [str [61, 61], str [33, 61], str [60, 61]]) (.v (.int .i64 1)) = some (str [33, 61]) := xM _ _ _ _; have i2 : dy Tryd.prog 173 (.agg [str [61, 61], str [33, 61], str [60, 61]]) (.v (.int .i64 2)) = some (str [60, 61]) := xP _ _ _ _
 by_cases htwo : ([61, 61] : List UInt8).isPrefixOf (c :: l) || ([33, 61] : List UInt8).isPrefixOf (c :: l) || ([60, 61] : List UInt8).isPrefixOf (c :: l)
 · have hs : eU (c :: l) = 2 := by rw [eU, if_pos htwo]
   rw [hs]
   have run : ∃ y, itE (S77.b0 (E L) itE N Lb) (V 0) ((s.af false b (rdc (c :: l) p)).app [⟨[.v (.int .i64 0), str [], .v (.int .u64 0), .v (.int .i64 0), .v (.int .i64 0)], []⟩, ⟨bj 5 [] 0 p, []⟩] [] []) =
    some (.ret, [PV.ptr false b 0, .ptr false N 0, .v (.bool true), .ptr false (N + 1) 0, .agg [str [61, 61], str [33, 61], str [60, 61]], y], (s.af false b (rdc ((c :: l).drop 2) (adv ((c :: l).take 2) p))).app [⟨bj 5 ((c :: l).take 2) 0 p, []⟩, ⟨bj 5 ((c :: l).take 2) 0 p, []⟩] [] []) := by
    cases h0 : ([61, 61] : List UInt8).isPrefixOf (c :: l) with
    | true =>
     obtain ⟨y, h⟩ := hit 0 _ (by omega) (by omega) i0 rfl h0; exact ⟨y, eK h⟩
    | false =>
     rw [bW (miss 0 _ (by omega) (by omega) i0 (by simp) h0 _)]
     cases h1 : ([33, 61] : List UInt8).isPrefixOf (c :: l) with
     | true =>
      obtain ⟨y, h⟩ := hit 1 _ (by omega) (by omega) i1 rfl h1; exact ⟨y, eK h⟩
     | false =>
      rw [show (0 : Int) + 1 = 1 from rfl, bW (miss 1 _ (by omega) (by omega) i1 (by simp) h1 _)]; obtain ⟨y, h⟩ := hit 2 _ (by omega) (by omega) i2 rfl (by rw [h0, h1] at htwo; simpa using htwo); exact ⟨y, eK h⟩
   obtain ⟨y, run⟩ := run; simp only [V, bj, rdc, aa, ic] at run
   generalize (c :: l).drop 2 = r at *
   generalize (c :: l).take 2 = t at *
   simp [S77, hN, hT, hL, rdc, hb, eb, run, bc, cv, laid, aH, bj]
 · have h012 : ([61, 61] : List UInt8).isPrefixOf (c :: l) = false ∧ ([33, 61] : List UInt8).isPrefixOf (c :: l) = false ∧ ([60, 61] : List UInt8).isPrefixOf (c :: l) = false := by
    simp only [Bool.or_eq_true, not_or, Bool.not_eq_true] at htwo; exact ⟨htwo.1.1, htwo.1.2, htwo.2⟩
   have run : ∀ bl, itE (S77.b0 (E L) itE N Lb) (V 0) ((s.af false b (rdc (c :: l) p)).app bl [] []) = some (.exit 0, V 3, (s.af false b (rdc (c :: l) p)).app bl [] []) := by
    intro bl; rw [bW (miss 0 _ (by omega) (by omega) i0 (by simp) h012.1 _), show (0 : Int) + 1 = 1 from rfl, bW (miss 1 _ (by omega) (by omega) i1 (by simp) h012.2.1 _), show (1 : Int) + 1 = 2 from rfl, bW (miss 2 _ (by omega) (by omega) i2 (by simp) h012.2.2 _)]; apply iD; simp [S77.b0, V, hN, hT, hL]
   simp only [V, rdc] at run
   have e30 : ∀ X, E L (.func 72) [str jv, .v (.int .u8 (c.toNat : Int))] X = _ := vR jv c
   have hin := (indexByte_ge c jv)
   by_cases hc : c ∈ jv
   · have hs : eU (c :: l) = 1 := by rw [eU, if_neg htwo]; simp [hc]
     have hneg : ¬ (Lib.indexByte jv c < 0) := by have := hin.2.2 hc; omega
     rw [hs]
     have e27 := fun bl => pf (X := s) (b := b) (n := 1) (rest := c :: l) (hN ▸ hb) (by simp) hp (by omega) (by omega) bl [] []
     simp only [rdc, aa] at e27
     generalize (c :: l).drop 1 = r at *
     generalize (c :: l).take 1 = t at *
     unfold jv at e30 hneg; simp [S77, hN, hT, hL, rdc, hb, eb, run, qf, e30, hneg, e27, bc, cv, laid, aH, bj]
   · have hs : eU (c :: l) = 0 := by rw [eU, if_neg htwo]; simp [hc]
     have hneg : Lib.indexByte jv c < 0 := by
      have h' : ¬ (0 ≤ Lib.indexByte jv c) := fun h => hc (hin.2.1 h)
      omega
     rw [hs]; unfold jv at e30 hneg; simp [S77, hN, hT, hL, rdc, hb, eb, run, qf, e30, hneg, bc, cv, laid, aH, bj, adv]
def dN : List UInt8 → Nat × Nat × Nat × Bool
 | [] => (0, 0, 0, false)
 | c :: l =>
  if eo c then ((kH ((c :: l).take (cJ eo (c :: l)))).1, cJ eo (c :: l), (kH ((c :: l).take (cJ eo (c :: l)))).2.1, (kH ((c :: l).take (cJ eo (c :: l)))).2.2)
  else if c = 35 then (4, cJ eo l + 1, (vd (l.take (cJ eo l))).1, rG (l.take (cJ eo l)))
  else (5, eU (c :: l), 0, !decide (eU (c :: l) = 0))
theorem ib {c : UInt8} {l : List UInt8} (h : eo c = true) : dN (c :: l) = ((kH ((c :: l).take (cJ eo (c :: l)))).1, cJ eo (c :: l), (kH ((c :: l).take (cJ eo (c :: l)))).2.1, (kH ((c :: l).take (cJ eo (c :: l)))).2.2) := by rw [dN, if_pos h]
theorem gG (l : List UInt8) : dN (35 :: l) = (4, cJ eo l + 1, (vd (l.take (cJ eo l))).1, rG (l.take (cJ eo l))) := by rw [dN, if_neg (by decide), if_pos rfl]
theorem gk {c : UInt8} {l : List UInt8} (h : eo c = false) (hc : c ≠ 35) : dN (c :: l) = (5, eU (c :: l), 0, !decide (eU (c :: l) = 0)) := by rw [dN, if_neg (by rw [h]; simp), if_neg hc]
theorem DI {s : St} {b : Nat} {c : UInt8} {l : List UInt8} {p : Nat × Nat} (hb : b < s.stk.length) (hp : 1 ≤ p.2) (h1 : p.1 + (c :: l).length < 2147483648) (h2 : p.2 + (c :: l).length < 2147483648) :
 E L (.func 38) [.ptr false b 0] (s.af false b (rdc (c :: l) p)) = some (.tup [.agg (bj (dN (c :: l)).1 ((c :: l).take (dN (c :: l)).2.1) (dN (c :: l)).2.2.1 p), .v (.bool (dN (c :: l)).2.2.2)],
  s.af false b (rdc ((c :: l).drop (dN (c :: l)).2.1) (adv ((c :: l).take (dN (c :: l)).2.1) p))) := by
 rw [D5]; obtain ⟨N, T, Lb, hN, hT, hL⟩ := lens3 s; rw [hN] at hb
 conv => lhs; rw [← ak (s.af false b (rdc (c :: l) p))]
 have at_ : ∀ (f : Nat) (x : PV) (R : List PV), (∀ X : St, b < X.stk.length → E L (.func f) [.ptr false b 0] (X.af false b (rdc (c :: l) p)) = some (x, X.af false b R)) → ∀ bl, E L (.func f) [.ptr false b 0] ((s.af false b (rdc (c :: l) p)).app bl [] []) = some (x, (s.af false b R).app bl [] []) := by
  intro f x R h bl; rw [← bE bl [] [] (hN ▸ hb), ← bE bl [] [] (hN ▸ hb)]; exact h _ (by rw [cz, hN]; omega)
 have wc : IntKind.i32.wrap (c.toNat : Int) = (c.toNat : Int) := IntWalk.i32_in _ (by have := c.toNat_lt; omega); have hal : eo c = (pC (c.toNat : Int) || uG (c.toNat : Int)) := rfl
 cases ha : eo c with
 | true =>
  rw [ib ha]; dsimp only
  have e31 := at_ 75 _ _ fun X hX => DL hX hp h1 h2
  generalize cJ eo (c :: l) = n at *
  generalize (c :: l).drop n = r at *
  generalize (c :: l).take n = t at *
  generalize kH t = q at *
  obtain ⟨q1, q2, q3⟩ := q; simp only [rdc, bj] at e31; rw [hal] at ha
  cases hl : pC (c.toNat : Int) with
  | true => simp [S38, hN, hT, hL, rdc, hb, qf, mZ, wc, jk, jl, hl, e31, laid, aH, bj]
  | false =>
   rw [hl, Bool.false_or] at ha; simp [S38, hN, hT, hL, rdc, hb, qf, mZ, wc, jk, jl, hl, ha, e31, laid, aH, bj]
 | false =>
  have ha0 := ha; rw [hal] at ha; simp only [Bool.or_eq_false_iff] at ha
  by_cases hc : c = 35
  · subst hc
    have e32 := at_ 76 _ _ fun X hX => DM hX hp h1 h2
    rw [gG]; simp only [aA, aM]
    generalize cJ eo l = n at *
    generalize l.drop n = r at *
    generalize l.take n = t at *
    generalize vd t = q at *
    generalize rG t = ok at *
    obtain ⟨v, k⟩ := q; simp only [rdc, bj, aa] at e32; have h35 : ((35 : UInt8).toNat : Int) = 35 := rfl; rw [h35] at ha wc; simp [S38, hN, hT, hL, rdc, hb, qf, mZ, wc, jk, jl, ha.1, ha.2, e32, laid, aH, bj]
  · have e33 := at_ 77 _ _ fun X hX => DN hX hp h1 h2
    have h35 : ¬ ((c.toNat : Int) = 35) := fun h => hc (UInt8.toNat_inj.1 (by simpa using Int.ofNat_inj.1 h))
    rw [gk ha0 hc]; dsimp only
    generalize eU (c :: l) = n at *
    generalize (c :: l).drop n = r at *
    generalize (c :: l).take n = t at *
    simp only [rdc, bj, aa, ic] at e33; simp [S38, hN, hT, hL, rdc, hb, qf, mZ, wc, jk, jl, ha.1, ha.2, h35, e33, laid, aH, bj]
structure Tok where
 kind : Nat
 text : List UInt8
 n : Nat
 p : Nat × Nat
abbrev Tok.c (t : Tok) : List PV := bj t.kind t.text t.n t.p
inductive LR where
 | ok (ts : List Tok)
 | err (p : Nat × Nat)
def LR.cons (t : Tok) : LR → LR
 | .ok ts => .ok (t :: ts)
 | .err p => .err p
theorem vu {q : UInt8 → Bool} {c : UInt8} {l : List UInt8} (h : q c = true) : 0 < cJ q (c :: l) := by rw [fW, if_pos h]; omega
theorem Bt (c : UInt8) (l : List UInt8) : eU (c :: l) ≤ (c :: l).length := by
 rw [eU]; split
 · rename_i h
   have len : ∀ x y : UInt8, ([x, y] : List UInt8).isPrefixOf (c :: l) = true → 2 ≤ (c :: l).length := fun x y h => (List.isPrefixOf_iff_prefix.1 h).length_le
   simp only [Bool.or_eq_true] at h
   rcases h with (h | h) | h
   · exact len _ _ h
   · exact len _ _ h
   · exact len _ _ h
 · simp only [al]
   split <;> omega
theorem ke {c : UInt8} {l : List UInt8} (h : (dN (c :: l)).2.2.2 = true) : 0 < (dN (c :: l)).2.1 := by
 cases ha : eo c with
 | true => rw [ib ha]; exact vu ha
 | false =>
  by_cases hc : c = 35
  · subst hc; rw [gG]; exact Nat.succ_pos _
  · rw [gk ha hc] at h ⊢
    simpa [Nat.pos_iff_ne_zero] using h
theorem nr (c : UInt8) (l : List UInt8) : (dN (c :: l)).2.1 ≤ (c :: l).length := by
 cases ha : eo c with
 | true => rw [ib ha]; exact kc _ _
 | false =>
  by_cases hc : c = 35
  · subst hc; rw [gG]
    have := kc eo l
    simp only [al]; omega
  · rw [gk ha hc]; exact Bt c l
def kF (rest : List UInt8) (p : Nat × Nat) : Tok := ⟨(dN rest).1, rest.take (dN rest).2.1, (dN rest).2.2.1, p⟩
def eP : List UInt8 → Nat × Nat → LR
 | [], p => .ok [⟨0, [], 0, p⟩]
 | c :: l, p =>
  if hb : eV (c :: l) = 0 then
   if ht : (dN (c :: l)).2.2.2 = true then (eP ((c :: l).drop (dN (c :: l)).2.1) (adv ((c :: l).take (dN (c :: l)).2.1) p)).cons (kF (c :: l) p)
   else .err p
  else eP ((c :: l).drop (eV (c :: l))) (adv ((c :: l).take (eV (c :: l))) p)
termination_by rest => rest.length
decreasing_by
 · have := ke ht
   simp only [fY, al]; omega
 · simp only [fY, al]; omega
theorem mE (p : Nat × Nat) : eP [] p = .ok [⟨0, [], 0, p⟩] := by rw [eP]
theorem im {rest : List UInt8} (h : eV rest ≠ 0) (p : Nat × Nat) : eP rest p = eP (rest.drop (eV rest)) (adv (rest.take (eV rest)) p) := by
 cases rest with
 | nil => exact absurd rfl h
 | cons c l => rw [eP, dif_neg h]
theorem kZ {c : UInt8} {l : List UInt8} (h : eV (c :: l) = 0) (ht : (dN (c :: l)).2.2.2 = true) (p : Nat × Nat) : eP (c :: l) p = (eP ((c :: l).drop (dN (c :: l)).2.1) (adv ((c :: l).take (dN (c :: l)).2.1) p)).cons (kF (c :: l) p) := by
 rw [eP, dif_pos h, dif_pos ht]
theorem kY {c : UInt8} {l : List UInt8} (h : eV (c :: l) = 0) (ht : (dN (c :: l)).2.2.2 = false) (p : Nat × Nat) : eP (c :: l) p = .err p := by
 rw [eP, dif_pos h, dif_neg (by rw [ht]; simp)]
theorem uX (rest : List UInt8) (p : Nat × Nat) : eP rest p = eP (fa rest p).1 (fa rest p).2 := by
 induction rest, p using fa.induct with
 | case1 rest p h => rw [fa, dif_pos h]
 | case2 rest p h ih =>
  have e : fa rest p = fa (rest.drop (eV rest)) (adv (rest.take (eV rest)) p) := by
   conv => lhs; rw [fa, dif_neg h]
  rw [im h, ih, e]
theorem Bc {st : St} {N : Nat} (hN : st.stk.length = N) {f : Nat} {cells R : List PV} {x : PV} (h : ∀ X : St, N + 1 < X.stk.length → E L (.func f) [.ptr false (N + 1) 0] (X.af false (N + 1) cells) = some (x, X.af false (N + 1) R)) (b0 : Blk) (t : List (Nat × Nat)) (bl : List Blk) (tk : List (Nat × Nat)) (lp : List Aux) :
 E L (.func f) [.ptr false (N + 1) 0] (st.app (b0 :: ⟨cells, t⟩ :: bl) tk lp) = some (x, st.app (b0 :: ⟨R, t⟩ :: bl) tk lp) := by
 have hb : (st.app (b0 :: ⟨cells, t⟩ :: bl) tk lp).blk false (N + 1) = some cells := by rw [fG _ _ _ hN]; rfl
 have := h _ (Cq hb); rw [Bs hb, fH _ _ _ hN] at this; exact this
def ax (ts : List Tok) : List (List PV) := ts.map Tok.c
theorem jI (ts : List Tok) : (ax ts).length = ts.length := List.length_map ..
theorem o8 (ts : List Tok) : cM 5 (ax ts) = true := jf Tok.c (fun _ => rfl) ts
theorem pS (a b : List Tok) : ax (a ++ b) = ax a ++ ax b := List.map_append ..
def zT (st : St) (N T Lb : Nat) (rest : List UInt8) (p : Nat × Nat) (acc : List Tok) (c : Cap) (tk : List (Nat × Nat)) : Prop :=
 ∃ r y2 F R tk', itE (S24.b0 (E L) itE N Lb) [.sl [] .nil, .ptr false N 0, .sl (ax acc) c, .ptr false (N + 1) 0] (st.app [⟨[.v (.int .i64 0), .v (.int .i64 0), .v (.int .i64 0)], []⟩, ⟨rdc rest p, []⟩] tk []) =
  some (.ret, [r, .ptr false N 0, y2, .ptr false (N + 1) 0], st.app [⟨F, []⟩, ⟨R, []⟩] tk' []) ∧
  (match eP rest p with
   | .ok ts => (∃ c', r = .sl (ax (acc ++ ts)) c') ∧ F = [.v (.int .i64 0), .v (.int .i64 0), .v (.int .i64 0)]
   | .err q => r = .sl [] .nil ∧ F = [.v (.int .i64 3), .v (.int .i64 (q.1 : Int)), .v (.int .i64 (q.2 : Int))])
theorem A2 {st : St} {N T Lb : Nat} (hN : st.stk.length = N) (hT : st.tk.length = T) (hL : st.lp.length = Lb) : ∀ (k : Nat) (rest : List UInt8) (p : Nat × Nat) (acc : List Tok) (c : Cap) (tk : List (Nat × Nat)), rest.length = k → 1 ≤ p.2 → p.1 + rest.length < 2147483648 → p.2 + rest.length < 2147483648 → acc.length + rest.length < 1000000 → Own st tk c acc.length 5 →
 zT st N T Lb rest p acc c tk := by
 intro k
 induction k using Nat.strongRecOn with
 | ind k ih =>
  intro rest p acc c tk hk hp h1 h2 hac ho; have bb := we rest p (M := 2147483648) hp h1 h2; have e17 := Bc (x := .tup []) hN (fun X hX => DH (rest := rest) (p := p) hX hp (by omega) (by omega)) ⟨[.v (.int .i64 0), .v (.int .i64 0), .v (.int .i64 0)], []⟩ [] [] tk []; unfold zT; rw [uX]
  generalize fa rest p = q at *
  obtain ⟨rest', p'⟩ := q; obtain ⟨bp, b1, b2, bk, bl⟩ := bb; dsimp only at bp b1 b2 bk bl e17 ⊢
  cases rest' with
  | nil =>
   rw [mE]
   have hsf : ∀ m, c.sf true m = true := fun m => ho.sfc m
   obtain ⟨c', tk', ea, ho'⟩ := qE (ys := ax [⟨0, [], 0, p'⟩]) (bytes := 48) (es := ax acc) (by rw [jI]; exact ho) (by simp only [jI, dz, al, aF]; omega) (o8 _) (o8 _) (by decide) (by decide); have ey : ax [⟨0, [], 0, p'⟩] = [[.v (.int .i64 0), str [], .v (.int .u64 0), .v (.int .i64 (p'.1 : Int)), .v (.int .i64 (p'.2 : Int))]] := rfl; rw [ey] at ea; refine ⟨.sl (ax (acc ++ [⟨0, [], 0, p'⟩])) c', .sl (ax acc) c, _, rdc [] p', tk', ?_, ⟨⟨_, rfl⟩, rfl⟩⟩; apply eK; simp only [rdc] at e17; have hsf2 := ho'.sfc (s := st); simp [S24.b0, hN, hT, hL, rdc, e17, bc, cv, laid, aH, aY, jt, fT, AM.cy, AM.eL, chunks, ea, pS, ey, hsf, hsf2, fc, fm]
  | cons a l =>
   have hsf : ∀ m, c.sf true m = true := fun m => ho.sfc m
   have e18 := Bc hN (fun X hX => DI (c := a) (l := l) (p := p') hX bp (by omega) (by omega)) ⟨[.v (.int .i64 0), .v (.int .i64 0), .v (.int .i64 0)], []⟩ [] [] tk []; have hta : kF (a :: l) p' = ⟨(dN (a :: l)).1, (a :: l).take (dN (a :: l)).2.1, (dN (a :: l)).2.2.1, p'⟩ := rfl; have ad := jz (nr a l) bp b1 b2; have hpos := ke (c := a) (l := l); have hdl : ((a :: l).drop (dN (a :: l)).2.1).length = (a :: l).length - (dN (a :: l)).2.1 := fY ..; have hle := nr a l
   cases hok : (dN (a :: l)).2.2.2 with
   | false =>
    rw [kY bk hok]; rw [hok] at e18
    generalize dN (a :: l) = q at *
    generalize (a :: l).drop q.2.1 = r at *
    generalize (a :: l).take q.2.1 = t at *
    simp only [rdc, bj] at e17 e18; refine ⟨.sl [] .nil, .sl (ax acc) c, [.v (.int .i64 3), .v (.int .i64 (p'.1 : Int)), .v (.int .i64 (p'.2 : Int))], rdc r (adv t p'), tk, ?_, ⟨rfl, rfl⟩⟩; apply eK; simp [S24.b0, hN, hT, hL, rdc, e17, e18, bc, cv, laid, aH, hsf, fc, fm]
   | true =>
    rw [kZ bk hok]; rw [hok] at e18; have hpos := hpos hok
    generalize dN (a :: l) = q at *
    generalize (a :: l).drop q.2.1 = r at *
    generalize (a :: l).take q.2.1 = t at *
    obtain ⟨c', tk', ea, ho'⟩ := qE (ys := ax [kF (a :: l) p']) (bytes := 48) (es := ax acc) (by rw [jI]; exact ho) (by simp only [jI, dz, al, aF]; omega) (o8 _) (o8 _) (by decide) (by decide)
    have ey : ax [kF (a :: l) p'] = [[.v (.int .i64 (q.1 : Int)), str t, .v (.int .u64 (q.2.2.1 : Int)), .v (.int .i64 (p'.1 : Int)), .v (.int .i64 (p'.2 : Int))]] := by rw [hta]; rfl
    have hsf2 := ho'.sfc (s := st); have ihh := ih r.length (by omega) r (adv t p') (acc ++ [kF (a :: l) p']) c' tk' rfl ad.1 ad.2.1 ad.2.2 (by simp only [bM, bG]; omega) (by rw [← pS, jI] at ho'; exact ho'); unfold zT at ihh; rw [pS] at ihh; rw [ey] at ihh ea; obtain ⟨r0, y2, F, R, tk2, hit, hres⟩ := ihh; refine ⟨r0, y2, F, R, tk2, ?_, ?_⟩
    · simp only [rdc, bj] at e17 e18
      rw [bW (vs' := [.sl [] .nil, .ptr false N 0, .sl (ax acc ++ [[.v (.int .i64 (q.1 : Int)), str t, .v (.int .u64 (q.2.2.1 : Int)), .v (.int .i64 (p'.1 : Int)), .v (.int .i64 (p'.2 : Int))]]) c', .ptr false (N + 1) 0]) (st' := st.app [⟨[.v (.int .i64 0), .v (.int .i64 0), .v (.int .i64 0)], []⟩, ⟨rdc r (adv t p'), []⟩] tk' [])]
      · exact hit
      · simp [S24.b0, hN, hT, hL, rdc, e17, e18, bc, cv, laid, aH, aY, jt, fT, AM.cy, AM.eL, chunks, ea, hsf, hsf2, fc, fm]
    · cases hl : eP r (adv t p') with
      | ok ts =>
       rw [hl] at hres; simp only [LR.cons]; refine ⟨?_, hres.2⟩; obtain ⟨c2, h2⟩ := hres.1; exact ⟨c2, by rw [h2]; simp⟩
      | err q =>
       rw [hl] at hres; simp only [LR.cons]; exact hres
def uY (l : List UInt8) : List Tok := if 8192 < l.length then [] else match eP l (1, 1) with | .ok ts => ts | .err _ => []
def pD (l : List UInt8) : Nat × Nat × Nat := if 8192 < l.length then (10, 1, 1) else match eP l (1, 1) with | .ok _ => (0, 0, 0) | .err q => (3, q.1, q.2)
abbrev uK (f : Nat × Nat × Nat) : List PV := [.v (.int .i64 (f.1 : Int)), .v (.int .i64 (f.2.1 : Int)), .v (.int .i64 (f.2.2 : Int))]
theorem DG {l : List UInt8} (h : l.length < 1000000) (st : St) : E L (.func 24) [str l] st = some (.tup [.sl (ax (uY l)) .dead, .agg (uK (pD l))], st) := by
 rw [D0]; obtain ⟨N, T, Lb, hN, hT, hL⟩ := lens3 st
 conv => lhs; rw [← ak (st)]
 by_cases hl : 8192 < l.length
 · have hl' : (8192 : Int) < (l.length : Int) := by omega
   simp [S24, hN, hT, hL, lW, hl', uY, pD, hl, bc, cv, laid, aH, ax]
 · have hl' : ¬ ((8192 : Int) < (l.length : Int)) := by omega
   obtain ⟨r, y2, F, R, tk', hit, hres⟩ := A2 hN hT hL l.length l (1, 1) [] .nil [] rfl (by simp) (by simp; omega) (by simp; omega) (by simp; omega) (Own.nil _ _ _ _); simp only [ax, aS, rdc, aa] at hit; unfold uY pD; rw [if_neg hl, if_neg hl]
   cases hx : eP l (1, 1) with
   | ok ts =>
    rw [hx] at hres; obtain ⟨⟨c', rfl⟩, rfl⟩ := hres; simp [S24, hN, hT, hL, lW, hl', hit, bc, cv, laid, aH, uK]
   | err q =>
    rw [hx] at hres; obtain ⟨rfl, rfl⟩ := hres; simp [S24, hN, hT, hL, lW, hl', hit, bc, cv, laid, aH, uK, ax]
end Go.Proofs.YtlhlijaondmccaaDoor.S
