/- Part 4 of the proof of a law of the parser, its names made short by a program. No condition. -/
import Derived.Test.YtlhlijaondmccaaDoorD3
import Derived.KernelRfl
import Derived.Test.YtlhlijaondmccaaDoorProg
import Derived.Shelf.Small.Utf8
import Derived.Shelf.Small.Strs
import Derived.Shelf.Strconv.Itoa0
import Derived.Shelf.Strconv.Itoa1
import Derived.Shelf.LaysM
import Derived.Shelf.Strconv.Itoa2
import Derived.Shelf.Strconv.Itoa3
import Derived.Shelf.Strconv.Clone
import Derived.Shelf.Strconv.SyntaxError
import Derived.Shelf.LaysC
import Derived.Shelf.Strconv.ToError
import Derived.Shelf.Strconv.RangeError
import Derived.Shelf.Strconv.ToErrorRange
import Derived.Shelf.Strings.Search1
import Derived.Shelf.Strings.Search2
import Derived.Shelf.Strings.Search3
import Derived.Shelf.Strings.Shaped
import Derived.Shelf.Strings.Runes
import Derived.Shelf.Strings.IndexAny
import Derived.Shelf.Strings.AsciiSet
import Derived.Shelf.Strings.IndexAnyAll
import Derived.Test.YtlhlijaondmccaaDoorChecked
import Derived.Lib.Walk
import Derived.Lib.ItoaMem
import Derived.Lib.QuietBelow
import Derived.WalkKit
import Derived.ProofKit
import Derived.BigCall
import Derived.BigGuard
import Derived.Below
import Derived.WalkSmall
set_option linter.all false
set_option maxRecDepth 100000
set_option maxHeartbeats 4000000
open _root_.Array renaming getElem?_toList → ga
open _root_.Bool renaming and_eq_true → an, and_self → bn, and_true → bI, false_eq_true → ab, not_false → aY, not_true → bz, true_and → bA
open _root_.Int renaming cast_ofNat_Int → aa, natCast_zero → gZ
open _root_.List renaming all_cons → bB, all_eq_true → dD, all_nil → cq, cons_append → aR, drop_nil → bY, drop_succ_cons → aL, drop_zero → bg, getD_cons_succ → aP, getD_cons_zero → aQ, getElem?_cons_succ → ay, getElem?_cons_zero → aC, getElem?_eq_getElem → dC, length_append → bh, length_cons → ak, length_nil → aA, length_singleton → bE, map_cons → bq, map_nil → aW, mem_of_getElem? → dS, modify_succ_cons → aM, modify_zero_cons → aN, nil_append → bu, take_left → bH, take_nil → bN, take_succ_cons → az, take_zero → bw, toList_toArray → aS
open _root_.Nat renaming add_zero → bx, beq → ai, eq_of_beq_eq_true → ao, le_refl → aq, reduceAdd → bQ, zero_add → aZ, zero_le → dh
open _root_.Option renaming bind_none → ba, bind_some → ag, map_some → aO
namespace Go.Proofs.YtlhlijaondmccaaDoor.S
open Go Go.AM Go.Proofs
noncomputable def S46 (call : bG) (it : bO) (a0 a1 a2 : PV) (st : St) : Option (PV × St) :=
(cellsOf a2).bind fun b1 =>
let q3 : PV := .ptr false st.stk.length 0
let st2 := st.push b1
(av q3 3).bind fun p4 =>
(al false 1 p4 st2).bind fun p5 =>
(av q3 4).bind fun p6 =>
(al false 1 p6 st2).bind fun p7 =>
(aX [(0, 1), (1, 1), (2, 1)] [.v (.int .i64 0), .v (.int .i64 0), .v (.int .i64 0)] [(0, a1), (1, p5), (2, p7)]).bind fun p8 =>
(aE a0).bind fun p9 =>
(av p9 3).bind fun p10 =>
(au st.stk.length 3 p10 p8 st2).bind fun st11 =>
(aX [] [] []).bind fun p12 =>
(ij Tryd.prog 92 p12).bind fun p13 =>
sc p13 fun t14 x15 =>
some (PV.pan t14 x15, st11.back st.stk.length st.tk.length st.lp.length)
theorem CW (a0 a1 a2 : PV) (st : St) : E L (.func 46) [a0, a1, a2] st = S46 (E L) itE a0 a1 a2 st := (bJ (by kernel_rfl) Tryd.func46 _ _).trans (by kernel_rfl)
noncomputable def S43 (call : bG) (it : bO) (a0 a1 : PV) (st : St) : Option (PV × St) :=
let q2 : PV := .ptr false st.stk.length 0
let st1 := st.push [.v (.int .i64 0), .v (.string ⟨#[]⟩), .v (.int .u64 0), .v (.int .i64 0), .v (.int .i64 0)]
(call (.func 39) [ah a0] st1).bind fun r3 =>
let q5 : PV := .ptr false r3.2.stk.length 0
let st4 := r3.2.push [.v (.int .i64 0), .v (.string ⟨#[]⟩), .v (.int .u64 0), .v (.int .i64 0), .v (.int .i64 0)]
(au st.stk.length 5 q5 r3.1 st4).bind fun st6 =>
(call (.func 40) [ah a0, ah a1] st6).bind fun r7 =>
(aUn Tryd.prog .not r7.1).bind fun p8 =>
aD p8 fun b9 => (bif b9 then
(al true 5 q5 r7.2).bind fun p11 =>
(call (.func 46) [ah a0, ah (PV.v (.int .i64 4)), ah p11] r7.2).bind fun r12 =>
aK r12 (fun p13 st14 =>
some (Ex.normal, [q2, q5], st14)) (fun t15 x16 st17 =>
some ((Ex.pan t15 x16), [q2, q5], st17))
else
some (Ex.normal, [q2, q5], r7.2)).bind fun r10 =>
cd r10.1 ((al true 5 (ae r10.2.1 1) r10.2.2).bind fun p19 =>
(au st.stk.length 5 (ae r10.2.1 0) p19 r10.2.2).bind fun st20 =>
(al true 5 (ae r10.2.1 0) st20).bind fun p21 =>
fin st.stk.length st.tk.length st.lp.length [p21] st20) fun x18 =>
fv st.stk.length st.tk.length st.lp.length x18 r10.2.2 ((al true 5 (ae r10.2.1 0) r10.2.2).bind fun p22 =>
fin st.stk.length st.tk.length st.lp.length [p22] r10.2.2)
theorem y6 (a0 a1 : PV) (st : St) : E L (.func 43) [a0, a1] st = S43 (E L) itE a0 a1 st := (bJ (by kernel_rfl) Tryd.func43 _ _).trans (by kernel_rfl)
noncomputable def CO (call : bG) (it : bO) (a0 : PV) (st : St) : Option (PV × St) :=
let q2 : PV := .ptr false st.stk.length 0
let st1 := st.push [.v (.int .i64 0), .v (.string ⟨#[]⟩), .v (.int .u64 0), .v (.int .i64 0), .v (.int .i64 0)]
(aE a0).bind fun p3 =>
(av p3 0).bind fun p4 =>
(al false 1 p4 st1).bind fun p5 =>
bM (st1 = st1) <|
(aE a0).bind fun p6 =>
(av p6 1).bind fun p7 =>
(al false 1 p7 st1).bind fun p8 =>
bM (st1 = st1) <|
(cJ Tryd.prog 85 p5 p8).bind fun p9 =>
(al true 5 p9 st1).bind fun p10 =>
bM (st1 = st1) <|
let q12 : PV := .ptr false st1.stk.length 0
let st11 := st1.push [.v (.int .i64 0), .v (.string ⟨#[]⟩), .v (.int .u64 0), .v (.int .i64 0), .v (.int .i64 0)]
bM (((al true 5 p9 st11).bind fun p13 =>
some (Rs.ret p13, st11)) = some (Rs.ret p10, st11)) <|
bM (((al false 1 p7 st11).bind fun p14 =>
some (Rs.ret p14, st11)) = some (Rs.ret p8, st11)) <|
bM (((al false 1 p4 st11).bind fun p15 =>
some (Rs.ret p15, st11)) = some (Rs.ret p5, st11)) <|
(au st.stk.length 5 q12 p10 st11).bind fun st16 =>
(av q12 0).bind fun p17 =>
(al false 1 p17 st16).bind fun p18 =>
(aT Tryd.prog true .neq 120 p18 (PV.v (.int .i64 0))).bind fun p19 =>
aD p19 fun b20 => (bif b20 then
(aE a0).bind fun p22 =>
(av p22 1).bind fun p23 =>
(al false 1 p23 st16).bind fun p24 =>
(aT Tryd.prog true .add 3 p24 (PV.v (.int .i64 1))).bind fun p25 =>
(aE a0).bind fun p26 =>
(av p26 1).bind fun p27 =>
(au st.stk.length 1 p27 p25 st16).bind fun st28 =>
some (Ex.normal, [q2, q12], st28)
else
some (Ex.normal, [q2, q12], st16)).bind fun r21 =>
cd r21.1 ((al true 5 (ae r21.2.1 1) r21.2.2).bind fun p30 =>
(au st.stk.length 5 (ae r21.2.1 0) p30 r21.2.2).bind fun st31 =>
(al true 5 (ae r21.2.1 0) st31).bind fun p32 =>
fin st.stk.length st.tk.length st.lp.length [p32] st31) fun x29 =>
ep x29 ((al true 5 (ae r21.2.1 0) r21.2.2).bind fun p33 =>
fin st.stk.length st.tk.length st.lp.length [p33] r21.2.2)
theorem A2 (a0 : PV) (st : St) : E L (.func 113) [a0] st = CO (E L) itE a0 st := (bJ (by kernel_rfl) Tryd.func113 _ _).trans (by kernel_rfl)
noncomputable def S79 (call : bG) (it : bO) (a0 a1 : PV) (st : St) : Option (PV × St) :=
let q2 : PV := .ptr false st.stk.length 0
let st1 := st.push [.v (.int .i64 0), .v (.string ⟨#[]⟩), .v (.int .u64 0), .v (.int .i64 0), .v (.int .i64 0)]
(call (.func 39) [ah a0] st1).bind fun r3 =>
let q5 : PV := .ptr false r3.2.stk.length 0
let st4 := r3.2.push [.v (.int .i64 0), .v (.string ⟨#[]⟩), .v (.int .u64 0), .v (.int .i64 0), .v (.int .i64 0)]
(au st.stk.length 5 q5 r3.1 st4).bind fun st6 =>
(av q5 0).bind fun p7 =>
(al false 1 p7 st6).bind fun p8 =>
(aT Tryd.prog false .neq 120 p8 a1).bind fun p9 =>
aD p9 fun b10 => (bif b10 then
(al true 5 q5 st6).bind fun p12 =>
(call (.func 46) [ah a0, ah (PV.v (.int .i64 4)), ah p12] st6).bind fun r13 =>
aK r13 (fun p14 st15 =>
some (Ex.normal, [a0, q2], st15)) (fun t16 x17 st18 =>
some ((Ex.pan t16 x17), [a0, q2], st18))
else
some (Ex.normal, [a0, q2], st6)).bind fun r11 =>
cd r11.1 ((call (.func 113) [ah (ae r11.2.1 0)] r11.2.2).bind fun r20 =>
(au st.stk.length 5 (ae r11.2.1 1) r20.1 r20.2).bind fun st21 =>
(al true 5 (ae r11.2.1 1) st21).bind fun p22 =>
fin st.stk.length st.tk.length st.lp.length [p22] st21) fun x19 =>
fv st.stk.length st.tk.length st.lp.length x19 r11.2.2 ((al true 5 (ae r11.2.1 1) r11.2.2).bind fun p23 =>
fin st.stk.length st.tk.length st.lp.length [p23] r11.2.2)
theorem y8 (a0 a1 : PV) (st : St) : E L (.func 79) [a0, a1] st = S79 (E L) itE a0 a1 st := (bJ (by kernel_rfl) Tryd.func79 _ _).trans (by kernel_rfl)
noncomputable def S80.b0 (call : bG) (it : bO) (base lb : Nat) (vs5 : List PV) (st6 : St) : Option (Ex × List PV × St) :=
(aT Tryd.prog true .lss 3 (ae vs5 3) (PV.v (.int .i64 4))).bind fun p7 =>
aD p7 fun b8 => (bif b8 then
some (Ex.normal, [(ae vs5 0), (ae vs5 1), (ae vs5 2), (ae vs5 3)], st6)
else
some ((Ex.exit 0), [(ae vs5 0), (ae vs5 1), (ae vs5 2), (ae vs5 3)], st6)).bind fun r9 =>
cd r9.1 ((du Tryd.prog 174 (ae r9.2.1 2) (ae r9.2.1 3)).bind fun p11 =>
(aT Tryd.prog true .neq 9 p11 (PV.v (.string ⟨#[]⟩))).bind fun p12 =>
(onG p12 true (
some ((ae r9.2.1 0), r9.2.2)) r9.2.2).bind fun r14 =>
(onG p12 true (
some (p11, r14.2)) r14.2).bind fun r16 =>
(onG p12 true (
(call (.func 40) [ah r14.1, ah r16.1] r16.2).bind fun r19 =>
some (r19.1, r19.2)) r16.2).bind fun r18 =>
(bP p12 r18.1 (PV.v (.bool false))).bind fun p20 =>
aD p20 fun b21 => (bif b21 then
(aX [(0, 1), (1, 1)] [.v (.int .i64 0), .v (.string ⟨#[]⟩)] [(0, (ae r9.2.1 3))]).bind fun p23 =>
(au base 2 (ae r9.2.1 1) p23 r18.2).bind fun st24 =>
some (Ex.ret, [(ae r9.2.1 0), (ae r9.2.1 1), (ae r9.2.1 2), (ae r9.2.1 3)], st24)
else
some (Ex.normal, [(ae r9.2.1 0), (ae r9.2.1 1), (ae r9.2.1 2), (ae r9.2.1 3)], r18.2)).bind fun r22 =>
cd (Ex.bf 1 r22.1) ((aT Tryd.prog true .add 3 (ae r22.2.1 3) (PV.v (.int .i64 1))).bind fun p26 =>
some (Ex.normal, [(ae r22.2.1 0), (ae r22.2.1 1), (ae r22.2.1 2), p26], r22.2.2)) fun x25 =>
some (x25, [(ae r22.2.1 0), (ae r22.2.1 1), (ae r22.2.1 2), (ae r22.2.1 3)], r22.2.2)) fun x10 =>
some (x10, [(ae r9.2.1 0), (ae r9.2.1 1), (ae r9.2.1 2), (ae r9.2.1 3)], r9.2.2)
noncomputable def S80 (call : bG) (it : bO) (a0 : PV) (st : St) : Option (PV × St) :=
let q2 : PV := .ptr false st.stk.length 0
let st1 := st.push [.v (.int .i64 0), .v (.string ⟨#[]⟩)]
(jo Tryd.prog 174 [(0, (PV.v (.string ⟨#[]⟩))), (1, (PV.v (.string ⟨#[105, 110, 116]⟩))), (2, (PV.v (.string ⟨#[114, 101, 97, 108]⟩))), (3, (PV.v (.string ⟨#[105, 110, 116, 115]⟩)))]).bind fun p3 =>
(it (S80.b0 call it st.stk.length st.lp.length) [a0, q2, p3, (PV.v (.int .i64 0))] st1).bind fun r4 =>
cd (Ex.bf 0 r4.1) ((call (.func 79) [ah (ae r4.2.1 0), ah (PV.v (.int .i64 1))] r4.2.2).bind fun r28 =>
aK r28 (fun p29 st30 =>
(fS Tryd.prog 122 p29 1).bind fun p34 =>
(aX [(0, 1), (1, 1)] [.v (.int .i64 0), .v (.string ⟨#[]⟩)] [(0, (PV.v (.int .i64 4))), (1, p34)]).bind fun p35 =>
(au st.stk.length 2 (ae r4.2.1 1) p35 st30).bind fun st36 =>
(al true 2 (ae r4.2.1 1) st36).bind fun p37 =>
fin st.stk.length st.tk.length st.lp.length [p37] st36) (fun t31 x32 st33 =>
some (PV.pan t31 x32, st33.back st.stk.length st.tk.length st.lp.length))) fun x27 =>
fv st.stk.length st.tk.length st.lp.length x27 r4.2.2 ((al true 2 (ae r4.2.1 1) r4.2.2).bind fun p38 =>
fin st.stk.length st.tk.length st.lp.length [p38] r4.2.2)
theorem qb (a0 : PV) (st : St) : E L (.func 80) [a0] st = S80 (E L) itE a0 st := (bJ (by kernel_rfl) Tryd.func80 _ _).trans (by kernel_rfl)
noncomputable def S42 (call : bG) (it : bO) (a0 : PV) (st : St) : Option (PV × St) :=
let q2 : PV := .ptr false st.stk.length 0
let st1 := st.push [.v (.string ⟨#[]⟩), .v (.int .i64 0), .v (.string ⟨#[]⟩), .v (.int .i64 0), .v (.int .i64 0)]
(call (.func 79) [ah a0, ah (PV.v (.int .i64 1))] st1).bind fun r3 =>
aK r3 (fun p4 st5 =>
let q10 : PV := .ptr false st5.stk.length 0
let st9 := st5.push [.v (.int .i64 0), .v (.string ⟨#[]⟩), .v (.int .u64 0), .v (.int .i64 0), .v (.int .i64 0)]
(au st.stk.length 5 q10 p4 st9).bind fun st11 =>
(call (.func 43) [ah a0, ah (PV.v (.string ⟨#[58]⟩))] st11).bind fun r12 =>
aK r12 (fun p13 st14 =>
(av q10 1).bind fun p18 =>
(al false 1 p18 st14).bind fun p19 =>
bM (st14 = st14) <|
(call (.func 80) [ah a0] st14).bind fun r20 =>
aK r20 (fun p21 st22 =>
bM (((al false 1 p18 st22).bind fun p26 =>
some (Rs.ret p26, st22)) = some (Rs.ret p19, st22)) <|
(av q10 3).bind fun p27 =>
(al false 1 p27 st22).bind fun p28 =>
bM (st22 = st22) <|
bM (((al false 1 p27 st14).bind fun p29 =>
some (Rs.ret p29, st14)) = some (Rs.ret p28, st14)) <|
(av q10 4).bind fun p30 =>
(al false 1 p30 st22).bind fun p31 =>
bM (st22 = st22) <|
bM (((al false 1 p30 st14).bind fun p32 =>
some (Rs.ret p32, st14)) = some (Rs.ret p31, st14)) <|
(aX [(0, 1), (1, 2), (3, 1), (4, 1)] [.v (.string ⟨#[]⟩), .v (.int .i64 0), .v (.string ⟨#[]⟩), .v (.int .i64 0), .v (.int .i64 0)] [(0, p19), (1, p21), (2, p28), (3, p31)]).bind fun p33 =>
(au st.stk.length 5 q2 p33 st22).bind fun st34 =>
(al true 5 q2 st34).bind fun p35 =>
fin st.stk.length st.tk.length st.lp.length [p35] st34) (fun t23 x24 st25 =>
(av q10 3).bind fun p36 =>
(al false 1 p36 st14).bind fun p37 =>
bM (st14 = st14) <|
(av q10 4).bind fun p38 =>
(al false 1 p38 st14).bind fun p39 =>
bM (st14 = st14) <|
some (PV.pan t23 x24, st25.back st.stk.length st.tk.length st.lp.length))) (fun t15 x16 st17 =>
some (PV.pan t15 x16, st17.back st.stk.length st.tk.length st.lp.length))) (fun t6 x7 st8 =>
some (PV.pan t6 x7, st8.back st.stk.length st.tk.length st.lp.length))
theorem sG (a0 : PV) (st : St) : E L (.func 42) [a0] st = S42 (E L) itE a0 st := (bJ (by kernel_rfl) Tryd.func42 _ _).trans (by kernel_rfl)
noncomputable def S41.b0 (call : bG) (it : bO) (base lb : Nat) (vs29 : List PV) (st30 : St) : Option (Ex × List PV × St) :=
(call (.func 40) [ah (ae vs29 0), ah (PV.v (.string ⟨#[125]⟩))] st30).bind fun r31 =>
(aUn Tryd.prog .not r31.1).bind fun p32 =>
aD p32 fun b33 => (bif b33 then
some (Ex.normal, [(ae vs29 0), (ae vs29 1), (ae vs29 2)], r31.2)
else
some ((Ex.exit 0), [(ae vs29 0), (ae vs29 1), (ae vs29 2)], r31.2)).bind fun r34 =>
cd r34.1 ((av (ae r34.2.1 2) 1).bind fun p36 =>
(al false 1 p36 r34.2.2).bind fun p37 =>
bM (r34.2.2 = r34.2.2) <|
(call (.func 42) [ah (ae r34.2.1 0)] r34.2.2).bind fun r38 =>
aK r38 (fun p39 st40 =>
bM (((al false 1 p36 st40).bind fun p44 =>
some (Rs.ret p44, st40)) = some (Rs.ret p37, st40)) <|
(bj 5 [.v (.string ⟨#[]⟩), .v (.int .i64 0), .v (.string ⟨#[]⟩), .v (.int .i64 0), .v (.int .i64 0)] 1 [(0, p39)]).bind fun p45 =>
(cw st40 p45).bind fun ys46 =>
(ej base [.v (.string ⟨#[]⟩), .v (.int .i64 0), .v (.string ⟨#[]⟩), .v (.int .i64 0), .v (.int .i64 0)] 5 56 p37 ys46 st40).bind fun r47 =>
(av (ae r34.2.1 2) 1).bind fun p48 =>
(au base 1 p48 r47.1 r47.2).bind fun st49 =>
(call (.func 43) [ah (ae r34.2.1 0), ah (PV.v (.string ⟨#[59]⟩))] st49).bind fun r50 =>
aK r50 (fun p51 st52 =>
some (Ex.normal, [(ae r34.2.1 0), (ae r34.2.1 1), (ae r34.2.1 2)], st52)) (fun t53 x54 st55 =>
some ((Ex.pan t53 x54), [(ae r34.2.1 0), (ae r34.2.1 1), (ae r34.2.1 2)], st55))) (fun t41 x42 st43 =>
some ((Ex.pan t41 x42), [(ae r34.2.1 0), (ae r34.2.1 1), (ae r34.2.1 2)], st43))) fun x35 =>
some (x35, [(ae r34.2.1 0), (ae r34.2.1 1), (ae r34.2.1 2)], r34.2.2)
noncomputable def S41 (call : bG) (it : bO) (a0 : PV) (st : St) : Option (PV × St) :=
let q2 : PV := .ptr false st.stk.length 0
let st1 := st.push [.v (.string ⟨#[]⟩), .sl [] .nil, .v (.int .i64 0), .v (.int .i64 0)]
(call (.func 79) [ah a0, ah (PV.v (.int .i64 1))] st1).bind fun r3 =>
aK r3 (fun p4 st5 =>
let q10 : PV := .ptr false st5.stk.length 0
let st9 := st5.push [.v (.int .i64 0), .v (.string ⟨#[]⟩), .v (.int .u64 0), .v (.int .i64 0), .v (.int .i64 0)]
(au st.stk.length 5 q10 p4 st9).bind fun st11 =>
(av q10 1).bind fun p12 =>
(al false 1 p12 st11).bind fun p13 =>
(av q10 3).bind fun p14 =>
(al false 1 p14 st11).bind fun p15 =>
(av q10 4).bind fun p16 =>
(al false 1 p16 st11).bind fun p17 =>
(aX [(0, 1), (1, 1), (2, 1), (3, 1)] [.v (.string ⟨#[]⟩), .sl [] .nil, .v (.int .i64 0), .v (.int .i64 0)] [(0, p13), (2, p15), (3, p17)]).bind fun p18 =>
let q20 : PV := .ptr false st11.stk.length 0
let st19 := st11.push [.v (.string ⟨#[]⟩), .sl [] .nil, .v (.int .i64 0), .v (.int .i64 0)]
(au st.stk.length 4 q20 p18 st19).bind fun st21 =>
(call (.func 43) [ah a0, ah (PV.v (.string ⟨#[123]⟩))] st21).bind fun r22 =>
aK r22 (fun p23 st24 =>
(it (S41.b0 call it st.stk.length st.lp.length) [a0, q2, q20] st24).bind fun r28 =>
cd (Ex.bf 0 r28.1) ((al true 4 (ae r28.2.1 2) r28.2.2).bind fun p57 =>
(au st.stk.length 4 (ae r28.2.1 1) p57 r28.2.2).bind fun st58 =>
(al true 4 (ae r28.2.1 1) st58).bind fun p59 =>
fin st.stk.length st.tk.length st.lp.length [p59] st58) fun x56 =>
fv st.stk.length st.tk.length st.lp.length x56 r28.2.2 ((al true 4 (ae r28.2.1 1) r28.2.2).bind fun p60 =>
fin st.stk.length st.tk.length st.lp.length [p60] r28.2.2)) (fun t25 x26 st27 =>
some (PV.pan t25 x26, st27.back st.stk.length st.tk.length st.lp.length))) (fun t6 x7 st8 =>
some (PV.pan t6 x7, st8.back st.stk.length st.tk.length st.lp.length))
theorem sF (a0 : PV) (st : St) : E L (.func 41) [a0] st = S41 (E L) itE a0 st := (bJ (by kernel_rfl) Tryd.func41 _ _).trans (by kernel_rfl)
noncomputable def S81 (call : bG) (it : bO) (a0 a1 : PV) (st : St) : Option (PV × St) :=
(cellsOf a1).bind fun b1 =>
let q3 : PV := .ptr false st.stk.length 0
let st2 := st.push b1
(aE a0).bind fun p4 =>
(av p4 2).bind fun p5 =>
(al false 1 p5 st2).bind fun p6 =>
(aT Tryd.prog true .add 3 p6 (PV.v (.int .i64 1))).bind fun p7 =>
(aE a0).bind fun p8 =>
(av p8 2).bind fun p9 =>
(au st.stk.length 1 p9 p7 st2).bind fun st10 =>
(aE a0).bind fun p11 =>
(av p11 2).bind fun p12 =>
(al false 1 p12 st10).bind fun p13 =>
(aT Tryd.prog true .gtr 3 p13 (PV.v (.int .i64 12))).bind fun p14 =>
aD p14 fun b15 => (bif b15 then
(al true 5 q3 st10).bind fun p17 =>
(call (.func 46) [ah a0, ah (PV.v (.int .i64 10)), ah p17] st10).bind fun r18 =>
aK r18 (fun p19 st20 =>
some (Ex.normal, ([] : List PV), st20)) (fun t21 x22 st23 =>
some ((Ex.pan t21 x22), ([] : List PV), st23))
else
some (Ex.normal, ([] : List PV), st10)).bind fun r16 =>
fv st.stk.length st.tk.length st.lp.length r16.1 r16.2.2 (fin st.stk.length st.tk.length st.lp.length [] r16.2.2)
theorem za (a0 a1 : PV) (st : St) : E L (.func 81) [a0, a1] st = S81 (E L) itE a0 a1 st := (bJ (by kernel_rfl) Tryd.func81 _ _).trans (by kernel_rfl)
noncomputable def A3 (call : bG) (it : bO) (a0 a1 : PV) (st : St) : Option (PV × St) :=
(cellsOf a1).bind fun b1 =>
let q3 : PV := .ptr false st.stk.length 0
let st2 := st.push b1
let q5 : PV := .ptr false st2.stk.length 0
let st4 := st2.push [.v (.int .i64 0), .v (.string ⟨#[]⟩), .v (.int .i64 0), .v (.int .i64 0), .v (.int .i64 0), .v (.int .u64 0), .v (.int .i64 0), .v (.string ⟨#[]⟩), .v (.string ⟨#[]⟩), .sl [] .nil, .v (.int .i64 0), .v (.int .i64 0), .v (.int .i64 0), .v (.string ⟨#[]⟩), .v (.string ⟨#[]⟩), .v (.int .i64 0), .v (.int .i64 0), .v (.int .u64 0), .v (.int .i64 0), .v (.string ⟨#[]⟩), .v (.string ⟨#[]⟩), .sl [] .nil, .v (.int .i64 0), .v (.int .i64 0), .v (.int .i64 0), .v (.int .i64 0), .v (.string ⟨#[]⟩), .v (.int .i64 0), .v (.int .i64 0), .v (.int .i64 0), .v (.string ⟨#[]⟩), .v (.string ⟨#[]⟩), .v (.int .i64 0), .v (.int .i64 0), .v (.int .u64 0), .v (.int .i64 0), .v (.string ⟨#[]⟩), .v (.string ⟨#[]⟩), .sl [] .nil, .v (.int .i64 0), .v (.int .i64 0), .v (.int .i64 0), .v (.int .i64 0), .v (.int .i64 0), .v (.int .i64 0), .v (.int .u64 0), .v (.int .i64 0), .v (.string ⟨#[]⟩), .v (.string ⟨#[]⟩), .sl [] .nil, .v (.int .i64 0), .v (.int .i64 0), .v (.int .i64 0), .sl [] .nil, .sl [] .nil, .sl [] .nil, .v (.int .i64 0), .v (.int .i64 0)]
(av q3 0).bind fun p6 =>
(au st.stk.length 1 p6 (PV.v (.int .i64 7)) st4).bind fun st7 =>
(call (.func 79) [ah a0, ah (PV.v (.int .i64 3))] st7).bind fun r8 =>
aK r8 (fun p9 st10 =>
(fS Tryd.prog 122 p9 2).bind fun p14 =>
(gU Tryd.prog 45 3 p14).bind fun p15 =>
(av q3 52).bind fun p16 =>
(au st.stk.length 1 p16 p15 st10).bind fun st17 =>
(call (.func 45) [ah a0] st17).bind fun r18 =>
aK r18 (fun p19 st20 =>
(av q3 54).bind fun p24 =>
(au st.stk.length 1 p24 p19 st20).bind fun st25 =>
(al true 58 q3 st25).bind fun p26 =>
(au st.stk.length 58 q5 p26 st25).bind fun st27 =>
(al true 58 q5 st27).bind fun p28 =>
fin st.stk.length st.tk.length st.lp.length [p28] st27) (fun t21 x22 st23 =>
some (PV.pan t21 x22, st23.back st.stk.length st.tk.length st.lp.length))) (fun t11 x12 st13 =>
some (PV.pan t11 x12, st13.back st.stk.length st.tk.length st.lp.length))
theorem sE (a0 a1 : PV) (st : St) : E L (.func 115) [a0, a1] st = A3 (E L) itE a0 a1 st := (bJ (by kernel_rfl) Tryd.func115 _ _).trans (by kernel_rfl)
noncomputable def yZ (call : bG) (it : bO) (a0 : PV) (st : St) : Option (PV × St) :=
(aT Tryd.prog true .eql 9 a0 (PV.v (.string ⟨#[45]⟩))).bind fun p1 =>
aD p1 fun b2 => (bif b2 then
some (Ex.ret, [(PV.v (.int .i64 6))], st)
else
(aT Tryd.prog true .eql 9 a0 (PV.v (.string ⟨#[114, 101, 97, 108]⟩))).bind fun p4 =>
aD p4 fun b5 => (bif b5 then
some (Ex.ret, [(PV.v (.int .i64 7))], st)
else
(aT Tryd.prog true .eql 9 a0 (PV.v (.string ⟨#[116, 114, 117, 110, 99]⟩))).bind fun p7 =>
aD p7 fun b8 => (bif b8 then
some (Ex.ret, [(PV.v (.int .i64 8))], st)
else
some (Ex.normal, [(PV.v (.int .i64 0))], st)).bind fun r9 =>
some (r9.1, [(ae r9.2.1 0)], r9.2.2)).bind fun r6 =>
some (r6.1, [(ae r6.2.1 0)], r6.2.2)).bind fun r3 =>
cd (Ex.bf 0 r3.1) (fin st.stk.length st.tk.length st.lp.length [(PV.v (.int .i64 0))] r3.2.2) fun x10 =>
ep x10 (fin st.stk.length st.tk.length st.lp.length [(ae r3.2.1 0)] r3.2.2)
theorem A8 (a0 : PV) (st : St) : E L (.func 170) [a0] st = yZ (E L) itE a0 st := (bJ (by kernel_rfl) Tryd.func170 _ _).trans (by kernel_rfl)
noncomputable def mL (call : bG) (it : bO) (a0 : PV) (st : St) : Option (PV × St) :=
let q2 : PV := .ptr false st.stk.length 0
let st1 := st.push [.v (.int .i64 0), .v (.int .i64 0), .v (.int .u64 0), .v (.int .i64 0), .v (.string ⟨#[]⟩), .v (.string ⟨#[]⟩), .sl [] .nil, .v (.int .i64 0), .v (.int .i64 0)]
(call (.func 113) [ah a0] st1).bind fun r3 =>
let q5 : PV := .ptr false r3.2.stk.length 0
let st4 := r3.2.push [.v (.int .i64 0), .v (.string ⟨#[]⟩), .v (.int .u64 0), .v (.int .i64 0), .v (.int .i64 0)]
(au st.stk.length 5 q5 r3.1 st4).bind fun st6 =>
(av q5 3).bind fun p7 =>
(al false 1 p7 st6).bind fun p8 =>
(av q5 4).bind fun p9 =>
(al false 1 p9 st6).bind fun p10 =>
(aX [(0, 1), (1, 1), (2, 1), (3, 2), (5, 1), (6, 1), (7, 1), (8, 1)] [.v (.int .i64 0), .v (.int .i64 0), .v (.int .u64 0), .v (.int .i64 0), .v (.string ⟨#[]⟩), .v (.string ⟨#[]⟩), .sl [] .nil, .v (.int .i64 0), .v (.int .i64 0)] [(6, p8), (7, p10)]).bind fun p11 =>
let q13 : PV := .ptr false st6.stk.length 0
let st12 := st6.push [.v (.int .i64 0), .v (.int .i64 0), .v (.int .u64 0), .v (.int .i64 0), .v (.string ⟨#[]⟩), .v (.string ⟨#[]⟩), .sl [] .nil, .v (.int .i64 0), .v (.int .i64 0)]
(au st.stk.length 9 q13 p11 st12).bind fun st14 =>
(av q5 0).bind fun p15 =>
(al false 1 p15 st14).bind fun p16 =>
(aT Tryd.prog true .eql 120 p16 (PV.v (.int .i64 3))).bind fun p17 =>
aD p17 fun b18 => (bif b18 then
(av q5 2).bind fun p20 =>
(al false 1 p20 st14).bind fun p21 =>
bM (st14 = st14) <|
(av q13 0).bind fun p22 =>
(au st.stk.length 1 p22 (PV.v (.int .i64 1)) st14).bind fun st23 =>
bM (((al false 1 p20 st23).bind fun p24 =>
some (Rs.ret p24, st23)) = some (Rs.ret p21, st23)) <|
(av q13 2).bind fun p25 =>
(au st.stk.length 1 p25 p21 st23).bind fun st26 =>
some (Ex.normal, [q2, q13], st26)
else
(av q5 0).bind fun p27 =>
(al false 1 p27 st14).bind fun p28 =>
(aT Tryd.prog true .eql 120 p28 (PV.v (.int .i64 4))).bind fun p29 =>
aD p29 fun b30 => (bif b30 then
(av q5 2).bind fun p32 =>
(al false 1 p32 st14).bind fun p33 =>
bM (st14 = st14) <|
(av q13 0).bind fun p34 =>
(au st.stk.length 1 p34 (PV.v (.int .i64 2)) st14).bind fun st35 =>
bM (((al false 1 p32 st35).bind fun p36 =>
some (Rs.ret p36, st35)) = some (Rs.ret p33, st35)) <|
(av q13 2).bind fun p37 =>
(au st.stk.length 1 p37 p33 st35).bind fun st38 =>
some (Ex.normal, [q2, q13], st38)
else
(av q5 0).bind fun p39 =>
(al false 1 p39 st14).bind fun p40 =>
(aT Tryd.prog true .eql 120 p40 (PV.v (.int .i64 1))).bind fun p41 =>
aD p41 fun b42 => (bif b42 then
(av q5 1).bind fun p44 =>
(al false 1 p44 st14).bind fun p45 =>
bM (st14 = st14) <|
(av q13 0).bind fun p46 =>
(au st.stk.length 1 p46 (PV.v (.int .i64 5)) st14).bind fun st47 =>
bM (((al false 1 p44 st47).bind fun p48 =>
some (Rs.ret p48, st47)) = some (Rs.ret p45, st47)) <|
(av q13 5).bind fun p49 =>
(au st.stk.length 1 p49 p45 st47).bind fun st50 =>
some (Ex.normal, [q2, q13], st50)
else
(av q5 0).bind fun p51 =>
(al false 1 p51 st14).bind fun p52 =>
(aT Tryd.prog true .eql 120 p52 (PV.v (.int .i64 2))).bind fun p53 =>
(onG p53 true (
(av q5 1).bind fun p56 =>
some (p56, st14)) st14).bind fun r55 =>
(onG p53 true (
(al false 1 r55.1 r55.2).bind fun p59 =>
some (p59, r55.2)) r55.2).bind fun r58 =>
(onG p53 true (
(aT Tryd.prog true .eql 9 r58.1 (PV.v (.string ⟨#[105, 110, 112, 117, 116]⟩))).bind fun p62 =>
some (p62, r58.2)) r58.2).bind fun r61 =>
(bP p53 r61.1 (PV.v (.bool false))).bind fun p63 =>
aD p63 fun b64 => (bif b64 then
(call (.func 79) [ah a0, ah (PV.v (.int .i64 3))] r61.2).bind fun r66 =>
aK r66 (fun p67 st68 =>
(fS Tryd.prog 122 p67 2).bind fun p72 =>
(av q13 0).bind fun p73 =>
(au st.stk.length 1 p73 (PV.v (.int .i64 4)) st68).bind fun st74 =>
(av q13 2).bind fun p75 =>
(au st.stk.length 1 p75 p72 st74).bind fun st76 =>
some (Ex.normal, [q2, q13], st76)) (fun t69 x70 st71 =>
some ((Ex.pan t69 x70), [q2, q13], st71))
else
(av q5 0).bind fun p77 =>
(al false 1 p77 r61.2).bind fun p78 =>
(aT Tryd.prog true .eql 120 p78 (PV.v (.int .i64 2))).bind fun p79 =>
(onG p79 true (
(av q5 1).bind fun p82 =>
some (p82, r61.2)) r61.2).bind fun r81 =>
(onG p79 true (
(al false 1 r81.1 r81.2).bind fun p85 =>
some (p85, r81.2)) r81.2).bind fun r84 =>
(onG p79 true (
(aT Tryd.prog true .eql 9 r84.1 (PV.v (.string ⟨#[110, 105, 108]⟩))).bind fun p88 =>
some (p88, r84.2)) r84.2).bind fun r87 =>
(bP p79 r87.1 (PV.v (.bool false))).bind fun p89 =>
aD p89 fun b90 => (bif b90 then
(aX [(0, 1), (1, 1)] [.v (.int .i64 0), .v (.string ⟨#[]⟩)] [(0, (PV.v (.int .i64 3)))]).bind fun p92 =>
(av q13 0).bind fun p93 =>
(au st.stk.length 1 p93 (PV.v (.int .i64 3)) r87.2).bind fun st94 =>
(av q13 3).bind fun p95 =>
(au st.stk.length 2 p95 p92 st94).bind fun st96 =>
(call (.func 40) [ah a0, ah (PV.v (.string ⟨#[105, 110, 116, 115]⟩))] st96).bind fun r97 =>
(aUn Tryd.prog .not r97.1).bind fun p98 =>
aD p98 fun b99 => (bif b99 then
(call (.func 79) [ah a0, ah (PV.v (.int .i64 1))] r97.2).bind fun r101 =>
aK r101 (fun p102 st103 =>
(fS Tryd.prog 122 p102 1).bind fun p107 =>
(aX [(0, 1), (1, 1)] [.v (.int .i64 0), .v (.string ⟨#[]⟩)] [(0, (PV.v (.int .i64 4))), (1, p107)]).bind fun p108 =>
(av q13 3).bind fun p109 =>
(au st.stk.length 2 p109 p108 st103).bind fun st110 =>
some (Ex.normal, [q2, q13], st110)) (fun t104 x105 st106 =>
some ((Ex.pan t104 x105), [q2, q13], st106))
else
some (Ex.normal, [q2, q13], r97.2)).bind fun r100 =>
some (r100.1, [(ae r100.2.1 0), (ae r100.2.1 1)], r100.2.2)
else
(av q5 0).bind fun p111 =>
(al false 1 p111 r87.2).bind fun p112 =>
(aT Tryd.prog true .eql 120 p112 (PV.v (.int .i64 5))).bind fun p113 =>
(onG p113 true (
(av q5 1).bind fun p116 =>
some (p116, r87.2)) r87.2).bind fun r115 =>
(onG p113 true (
(al false 1 r115.1 r115.2).bind fun p119 =>
some (p119, r115.2)) r115.2).bind fun r118 =>
(onG p113 true (
(aT Tryd.prog true .eql 9 r118.1 (PV.v (.string ⟨#[40]⟩))).bind fun p122 =>
some (p122, r118.2)) r118.2).bind fun r121 =>
(bP p113 r121.1 (PV.v (.bool false))).bind fun p123 =>
aD p123 fun b124 => (bif b124 then
(al true 5 q5 r121.2).bind fun p126 =>
(call (.func 81) [ah a0, ah p126] r121.2).bind fun r127 =>
aK r127 (fun p128 st129 =>
(call (.func 119) [ah a0] st129).bind fun r133 =>
aK r133 (fun p134 st135 =>
(au st.stk.length 9 q13 p134 st135).bind fun st139 =>
(call (.func 43) [ah a0, ah (PV.v (.string ⟨#[41]⟩))] st139).bind fun r140 =>
aK r140 (fun p141 st142 =>
(aE a0).bind fun p146 =>
(av p146 2).bind fun p147 =>
(al false 1 p147 st142).bind fun p148 =>
(aT Tryd.prog true .sub 3 p148 (PV.v (.int .i64 1))).bind fun p149 =>
(aE a0).bind fun p150 =>
(av p150 2).bind fun p151 =>
(au st.stk.length 1 p151 p149 st142).bind fun st152 =>
some (Ex.normal, [q2, q13], st152)) (fun t143 x144 st145 =>
some ((Ex.pan t143 x144), [q2, q13], st145))) (fun t136 x137 st138 =>
some ((Ex.pan t136 x137), [q2, q13], st138))) (fun t130 x131 st132 =>
some ((Ex.pan t130 x131), [q2, q13], st132))
else
(al true 5 q5 r121.2).bind fun p153 =>
(call (.func 46) [ah a0, ah (PV.v (.int .i64 4)), ah p153] r121.2).bind fun r154 =>
aK r154 (fun p155 st156 =>
some (Ex.normal, [q2, q13], st156)) (fun t157 x158 st159 =>
some ((Ex.pan t157 x158), [q2, q13], st159))).bind fun r125 =>
some (r125.1, [(ae r125.2.1 0), (ae r125.2.1 1)], r125.2.2)).bind fun r91 =>
some (r91.1, [(ae r91.2.1 0), (ae r91.2.1 1)], r91.2.2)).bind fun r65 =>
some (r65.1, [(ae r65.2.1 0), (ae r65.2.1 1)], r65.2.2)).bind fun r43 =>
some (r43.1, [(ae r43.2.1 0), (ae r43.2.1 1)], r43.2.2)).bind fun r31 =>
some (r31.1, [(ae r31.2.1 0), (ae r31.2.1 1)], r31.2.2)).bind fun r19 =>
cd (Ex.bf 0 r19.1) ((al true 9 (ae r19.2.1 1) r19.2.2).bind fun p161 =>
(au st.stk.length 9 (ae r19.2.1 0) p161 r19.2.2).bind fun st162 =>
(al true 9 (ae r19.2.1 0) st162).bind fun p163 =>
fin st.stk.length st.tk.length st.lp.length [p163] st162) fun x160 =>
fv st.stk.length st.tk.length st.lp.length x160 r19.2.2 ((al true 9 (ae r19.2.1 0) r19.2.2).bind fun p164 =>
fin st.stk.length st.tk.length st.lp.length [p164] r19.2.2)
theorem gK (a0 : PV) (st : St) : E L (.func 171) [a0] st = mL (E L) itE a0 st := (bJ (by kernel_rfl) Tryd.func171 _ _).trans (by kernel_rfl)
noncomputable def oD (call : bG) (it : bO) (a0 : PV) (st : St) : Option (PV × St) :=
let q2 : PV := .ptr false st.stk.length 0
let st1 := st.push [.v (.int .i64 0), .v (.int .i64 0), .v (.int .u64 0), .v (.int .i64 0), .v (.string ⟨#[]⟩), .v (.string ⟨#[]⟩), .sl [] .nil, .v (.int .i64 0), .v (.int .i64 0)]
(call (.func 39) [ah a0] st1).bind fun r3 =>
let q5 : PV := .ptr false r3.2.stk.length 0
let st4 := r3.2.push [.v (.int .i64 0), .v (.string ⟨#[]⟩), .v (.int .u64 0), .v (.int .i64 0), .v (.int .i64 0)]
(au st.stk.length 5 q5 r3.1 st4).bind fun st6 =>
(av q5 0).bind fun p7 =>
(al false 1 p7 st6).bind fun p8 =>
(aT Tryd.prog true .eql 120 p8 (PV.v (.int .i64 2))).bind fun p9 =>
(onG p9 false (
(av q5 0).bind fun p12 =>
some (p12, st6)) st6).bind fun r11 =>
(onG p9 false (
(al false 1 r11.1 r11.2).bind fun p15 =>
some (p15, r11.2)) r11.2).bind fun r14 =>
(onG p9 false (
(aT Tryd.prog true .eql 120 r14.1 (PV.v (.int .i64 5))).bind fun p18 =>
some (p18, r14.2)) r14.2).bind fun r17 =>
(bP p9 (PV.v (.bool true)) r17.1).bind fun p19 =>
aD p19 fun b20 => (bif b20 then
(av q5 1).bind fun p22 =>
(al false 1 p22 r17.2).bind fun p23 =>
(call (.func 170) [ah p23] r17.2).bind fun r24 =>
some (Ex.normal, [a0, q2, q5, r24.1], r24.2)
else
some (Ex.normal, [a0, q2, q5, (PV.v (.int .i64 0))], r17.2)).bind fun r21 =>
cd r21.1 ((aT Tryd.prog true .eql 3 (ae r21.2.1 3) (PV.v (.int .i64 0))).bind fun p26 =>
aD p26 fun b27 => (bif b27 then
(call (.func 171) [ah (ae r21.2.1 0)] r21.2.2).bind fun r29 =>
aK r29 (fun p30 st31 =>
(au st.stk.length 9 (ae r21.2.1 1) p30 st31).bind fun st35 =>
some (Ex.ret, [(ae r21.2.1 0), (ae r21.2.1 1), (ae r21.2.1 2), (ae r21.2.1 3)], st35)) (fun t32 x33 st34 =>
some ((Ex.pan t32 x33), [(ae r21.2.1 0), (ae r21.2.1 1), (ae r21.2.1 2), (ae r21.2.1 3)], st34))
else
some (Ex.normal, [(ae r21.2.1 0), (ae r21.2.1 1), (ae r21.2.1 2), (ae r21.2.1 3)], r21.2.2)).bind fun r28 =>
cd r28.1 ((call (.func 113) [ah (ae r28.2.1 0)] r28.2.2).bind fun r37 =>
(al true 5 (ae r28.2.1 2) r37.2).bind fun p38 =>
(call (.func 81) [ah (ae r28.2.1 0), ah p38] r37.2).bind fun r39 =>
aK r39 (fun p40 st41 =>
(call (.func 155) [ah (ae r28.2.1 0)] st41).bind fun r45 =>
aK r45 (fun p46 st47 =>
bM (((call (.func 155) [ah (ae r28.2.1 0)] (St.push st41 [.v (.int .i64 0), .v (.int .i64 0), .v (.int .u64 0), .v (.int .i64 0), .v (.string ⟨#[]⟩), .v (.string ⟨#[]⟩), .sl [] .nil, .v (.int .i64 0), .v (.int .i64 0)])).bind fun r51 =>
aK r51 (fun p52 st53 =>
some (Rs.ret p52, st53)) (fun t54 x55 st56 =>
some (Rs.pan t54 x55, st56))) = some (Rs.ret p46, (St.push st47 [.v (.int .i64 0), .v (.int .i64 0), .v (.int .u64 0), .v (.int .i64 0), .v (.string ⟨#[]⟩), .v (.string ⟨#[]⟩), .sl [] .nil, .v (.int .i64 0), .v (.int .i64 0)]))) <|
bM (st47.stk.length = st41.stk.length) <|
(bj 9 [.v (.int .i64 0), .v (.int .i64 0), .v (.int .u64 0), .v (.int .i64 0), .v (.string ⟨#[]⟩), .v (.string ⟨#[]⟩), .sl [] .nil, .v (.int .i64 0), .v (.int .i64 0)] 1 [(0, p46)]).bind fun p57 =>
(av (ae r28.2.1 2) 3).bind fun p58 =>
(al false 1 p58 st47).bind fun p59 =>
bM (st47 = st47) <|
bM (((al false 1 p58 (St.push st47 [.v (.int .i64 0), .v (.int .i64 0), .v (.int .u64 0), .v (.int .i64 0), .v (.string ⟨#[]⟩), .v (.string ⟨#[]⟩), .sl [] .nil, .v (.int .i64 0), .v (.int .i64 0)])).bind fun p60 =>
some (Rs.ret p60, (St.push st47 [.v (.int .i64 0), .v (.int .i64 0), .v (.int .u64 0), .v (.int .i64 0), .v (.string ⟨#[]⟩), .v (.string ⟨#[]⟩), .sl [] .nil, .v (.int .i64 0), .v (.int .i64 0)]))) = some (Rs.ret p59, (St.push st47 [.v (.int .i64 0), .v (.int .i64 0), .v (.int .u64 0), .v (.int .i64 0), .v (.string ⟨#[]⟩), .v (.string ⟨#[]⟩), .sl [] .nil, .v (.int .i64 0), .v (.int .i64 0)]))) <|
bM (((al false 1 p58 st41).bind fun p61 =>
some (Rs.ret p61, st41)) = some (Rs.ret p59, st41)) <|
bM (((al false 1 p58 (St.push st41 [.v (.int .i64 0), .v (.int .i64 0), .v (.int .u64 0), .v (.int .i64 0), .v (.string ⟨#[]⟩), .v (.string ⟨#[]⟩), .sl [] .nil, .v (.int .i64 0), .v (.int .i64 0)])).bind fun p62 =>
some (Rs.ret p62, (St.push st41 [.v (.int .i64 0), .v (.int .i64 0), .v (.int .u64 0), .v (.int .i64 0), .v (.string ⟨#[]⟩), .v (.string ⟨#[]⟩), .sl [] .nil, .v (.int .i64 0), .v (.int .i64 0)]))) = some (Rs.ret p59, (St.push st41 [.v (.int .i64 0), .v (.int .i64 0), .v (.int .u64 0), .v (.int .i64 0), .v (.string ⟨#[]⟩), .v (.string ⟨#[]⟩), .sl [] .nil, .v (.int .i64 0), .v (.int .i64 0)]))) <|
(av (ae r28.2.1 2) 4).bind fun p63 =>
(al false 1 p63 st47).bind fun p64 =>
bM (st47 = st47) <|
bM (((al false 1 p63 (St.push st47 [.v (.int .i64 0), .v (.int .i64 0), .v (.int .u64 0), .v (.int .i64 0), .v (.string ⟨#[]⟩), .v (.string ⟨#[]⟩), .sl [] .nil, .v (.int .i64 0), .v (.int .i64 0)])).bind fun p65 =>
some (Rs.ret p65, (St.push st47 [.v (.int .i64 0), .v (.int .i64 0), .v (.int .u64 0), .v (.int .i64 0), .v (.string ⟨#[]⟩), .v (.string ⟨#[]⟩), .sl [] .nil, .v (.int .i64 0), .v (.int .i64 0)]))) = some (Rs.ret p64, (St.push st47 [.v (.int .i64 0), .v (.int .i64 0), .v (.int .u64 0), .v (.int .i64 0), .v (.string ⟨#[]⟩), .v (.string ⟨#[]⟩), .sl [] .nil, .v (.int .i64 0), .v (.int .i64 0)]))) <|
bM (((al false 1 p63 st41).bind fun p66 =>
some (Rs.ret p66, st41)) = some (Rs.ret p64, st41)) <|
bM (((al false 1 p63 (St.push st41 [.v (.int .i64 0), .v (.int .i64 0), .v (.int .u64 0), .v (.int .i64 0), .v (.string ⟨#[]⟩), .v (.string ⟨#[]⟩), .sl [] .nil, .v (.int .i64 0), .v (.int .i64 0)])).bind fun p67 =>
some (Rs.ret p67, (St.push st41 [.v (.int .i64 0), .v (.int .i64 0), .v (.int .u64 0), .v (.int .i64 0), .v (.string ⟨#[]⟩), .v (.string ⟨#[]⟩), .sl [] .nil, .v (.int .i64 0), .v (.int .i64 0)]))) = some (Rs.ret p64, (St.push st41 [.v (.int .i64 0), .v (.int .i64 0), .v (.int .u64 0), .v (.int .i64 0), .v (.string ⟨#[]⟩), .v (.string ⟨#[]⟩), .sl [] .nil, .v (.int .i64 0), .v (.int .i64 0)]))) <|
(aX [(0, 1), (1, 1), (2, 1), (3, 2), (5, 1), (6, 1), (7, 1), (8, 1)] [.v (.int .i64 0), .v (.int .i64 0), .v (.int .u64 0), .v (.int .i64 0), .v (.string ⟨#[]⟩), .v (.string ⟨#[]⟩), .sl [] .nil, .v (.int .i64 0), .v (.int .i64 0)] [(0, (ae r28.2.1 3)), (5, p57), (6, p59), (7, p64)]).bind fun p68 =>
(au st.stk.length 9 (PV.ptr false st41.stk.length 0) p68 (St.push st47 [.v (.int .i64 0), .v (.int .i64 0), .v (.int .u64 0), .v (.int .i64 0), .v (.string ⟨#[]⟩), .v (.string ⟨#[]⟩), .sl [] .nil, .v (.int .i64 0), .v (.int .i64 0)])).bind fun st69 =>
(aE (ae r28.2.1 0)).bind fun p70 =>
(av p70 2).bind fun p71 =>
(al false 1 p71 st69).bind fun p72 =>
(aT Tryd.prog true .sub 3 p72 (PV.v (.int .i64 1))).bind fun p73 =>
(aE (ae r28.2.1 0)).bind fun p74 =>
(av p74 2).bind fun p75 =>
(au st.stk.length 1 p75 p73 st69).bind fun st76 =>
(al true 9 (PV.ptr false st41.stk.length 0) st76).bind fun p77 =>
(au st.stk.length 9 (ae r28.2.1 1) p77 st76).bind fun st78 =>
(al true 9 (ae r28.2.1 1) st78).bind fun p79 =>
fin st.stk.length st.tk.length st.lp.length [p79] st78) (fun t48 x49 st50 =>
bM (((call (.func 155) [ah (ae r28.2.1 0)] (St.push st41 [.v (.int .i64 0), .v (.int .i64 0), .v (.int .u64 0), .v (.int .i64 0), .v (.string ⟨#[]⟩), .v (.string ⟨#[]⟩), .sl [] .nil, .v (.int .i64 0), .v (.int .i64 0)])).bind fun r81 =>
aK r81 (fun p82 st83 =>
some (Rs.ret p82, st83)) (fun t84 x85 st86 =>
some (Rs.pan t84 x85, st86))) = some (Rs.pan t48 x49, (St.push st50 [.v (.int .i64 0), .v (.int .i64 0), .v (.int .u64 0), .v (.int .i64 0), .v (.string ⟨#[]⟩), .v (.string ⟨#[]⟩), .sl [] .nil, .v (.int .i64 0), .v (.int .i64 0)]))) <|
(some (PV.pan t48 x49, st50.back st.stk.length st.tk.length st.lp.length)).bind fun r80 =>
bM ((some (PV.pan t48 x49, (St.push st50 [.v (.int .i64 0), .v (.int .i64 0), .v (.int .u64 0), .v (.int .i64 0), .v (.string ⟨#[]⟩), .v (.string ⟨#[]⟩), .sl [] .nil, .v (.int .i64 0), .v (.int .i64 0)]).back st.stk.length st.tk.length st.lp.length)) = some r80) <|
(av (ae r28.2.1 2) 3).bind fun p87 =>
(al false 1 p87 st41).bind fun p88 =>
bM (st41 = st41) <|
bM (((al false 1 p87 (St.push st41 [.v (.int .i64 0), .v (.int .i64 0), .v (.int .u64 0), .v (.int .i64 0), .v (.string ⟨#[]⟩), .v (.string ⟨#[]⟩), .sl [] .nil, .v (.int .i64 0), .v (.int .i64 0)])).bind fun p89 =>
some (Rs.ret p89, (St.push st41 [.v (.int .i64 0), .v (.int .i64 0), .v (.int .u64 0), .v (.int .i64 0), .v (.string ⟨#[]⟩), .v (.string ⟨#[]⟩), .sl [] .nil, .v (.int .i64 0), .v (.int .i64 0)]))) = some (Rs.ret p88, (St.push st41 [.v (.int .i64 0), .v (.int .i64 0), .v (.int .u64 0), .v (.int .i64 0), .v (.string ⟨#[]⟩), .v (.string ⟨#[]⟩), .sl [] .nil, .v (.int .i64 0), .v (.int .i64 0)]))) <|
(av (ae r28.2.1 2) 4).bind fun p90 =>
(al false 1 p90 st41).bind fun p91 =>
bM (st41 = st41) <|
bM (((al false 1 p90 (St.push st41 [.v (.int .i64 0), .v (.int .i64 0), .v (.int .u64 0), .v (.int .i64 0), .v (.string ⟨#[]⟩), .v (.string ⟨#[]⟩), .sl [] .nil, .v (.int .i64 0), .v (.int .i64 0)])).bind fun p92 =>
some (Rs.ret p92, (St.push st41 [.v (.int .i64 0), .v (.int .i64 0), .v (.int .u64 0), .v (.int .i64 0), .v (.string ⟨#[]⟩), .v (.string ⟨#[]⟩), .sl [] .nil, .v (.int .i64 0), .v (.int .i64 0)]))) = some (Rs.ret p91, (St.push st41 [.v (.int .i64 0), .v (.int .i64 0), .v (.int .u64 0), .v (.int .i64 0), .v (.string ⟨#[]⟩), .v (.string ⟨#[]⟩), .sl [] .nil, .v (.int .i64 0), .v (.int .i64 0)]))) <|
some r80)) (fun t42 x43 st44 =>
some (PV.pan t42 x43, st44.back st.stk.length st.tk.length st.lp.length))) fun x36 =>
fv st.stk.length st.tk.length st.lp.length x36 r28.2.2 ((al true 9 (ae r28.2.1 1) r28.2.2).bind fun p93 =>
fin st.stk.length st.tk.length st.lp.length [p93] r28.2.2)) fun x25 =>
fv st.stk.length st.tk.length st.lp.length x25 r21.2.2 ((al true 9 (ae r21.2.1 1) r21.2.2).bind fun p94 =>
fin st.stk.length st.tk.length st.lp.length [p94] r21.2.2)
theorem kT (a0 : PV) (st : St) : E L (.func 155) [a0] st = oD (E L) itE a0 st := (bJ (by kernel_rfl) Tryd.func155 _ _).trans (by kernel_rfl)
noncomputable def A5 (call : bG) (it : bO) (a0 : PV) (st : St) : Option (PV × St) :=
(jo Tryd.prog 173 [(0, (PV.v (.string ⟨#[32, 61, 61, 32, 33, 61, 32, 60, 32, 60, 61, 32]⟩))), (1, (PV.v (.string ⟨#[32, 43, 32, 45, 32]⟩))), (2, (PV.v (.string ⟨#[32, 42, 32, 47, 32, 37, 32]⟩)))]).bind fun p1 =>
(du Tryd.prog 173 p1 a0).bind fun p2 =>
fin st.stk.length st.tk.length st.lp.length [p2] st
theorem A6 (a0 : PV) (st : St) : E L (.func 156) [a0] st = A5 (E L) itE a0 st := (bJ (by kernel_rfl) Tryd.func156 _ _).trans (by kernel_rfl)
noncomputable def eI.b0 (call : bG) (it : bO) (base lb : Nat) (vs3 : List PV) (st4 : St) : Option (Ex × List PV × St) :=
(aT Tryd.prog true .lss 3 (ae vs3 3) (PV.v (.int .i64 9))).bind fun p5 =>
aD p5 fun b6 => (bif b6 then
some (Ex.normal, [(ae vs3 0), (ae vs3 1), (ae vs3 2), (ae vs3 3)], st4)
else
some ((Ex.exit 0), [(ae vs3 0), (ae vs3 1), (ae vs3 2), (ae vs3 3)], st4)).bind fun r7 =>
cd r7.1 ((du Tryd.prog 182 (ae r7.2.1 2) (ae r7.2.1 3)).bind fun p9 =>
(aT Tryd.prog false .eql 9 p9 (ae r7.2.1 0)).bind fun p10 =>
aD p10 fun b11 => (bif b11 then
some (Ex.ret, [(ae r7.2.1 0), (ae r7.2.1 3), (ae r7.2.1 2), (ae r7.2.1 3)], r7.2.2)
else
some (Ex.normal, [(ae r7.2.1 0), (ae r7.2.1 1), (ae r7.2.1 2), (ae r7.2.1 3)], r7.2.2)).bind fun r12 =>
cd (Ex.bf 1 r12.1) ((aT Tryd.prog true .add 3 (ae r12.2.1 3) (PV.v (.int .i64 1))).bind fun p14 =>
some (Ex.normal, [(ae r12.2.1 0), (ae r12.2.1 1), (ae r12.2.1 2), p14], r12.2.2)) fun x13 =>
some (x13, [(ae r12.2.1 0), (ae r12.2.1 1), (ae r12.2.1 2), (ae r12.2.1 3)], r12.2.2)) fun x8 =>
some (x8, [(ae r7.2.1 0), (ae r7.2.1 1), (ae r7.2.1 2), (ae r7.2.1 3)], r7.2.2)
noncomputable def eI (call : bG) (it : bO) (a0 : PV) (st : St) : Option (PV × St) :=
(jo Tryd.prog 182 [(0, (PV.v (.string ⟨#[43]⟩))), (1, (PV.v (.string ⟨#[45]⟩))), (2, (PV.v (.string ⟨#[42]⟩))), (3, (PV.v (.string ⟨#[47]⟩))), (4, (PV.v (.string ⟨#[37]⟩))), (5, (PV.v (.string ⟨#[61, 61]⟩))), (6, (PV.v (.string ⟨#[33, 61]⟩))), (7, (PV.v (.string ⟨#[60]⟩))), (8, (PV.v (.string ⟨#[60, 61]⟩)))]).bind fun p1 =>
(it (eI.b0 call it st.stk.length st.lp.length) [a0, (PV.v (.int .i64 0)), p1, (PV.v (.int .i64 0))] st).bind fun r2 =>
cd (Ex.bf 0 r2.1) (fin st.stk.length st.tk.length st.lp.length [(PV.v (.int .i64 0))] r2.2.2) fun x15 =>
ep x15 (fin st.stk.length st.tk.length st.lp.length [(ae r2.2.1 1)] r2.2.2)
theorem A7 (a0 : PV) (st : St) : E L (.func 157) [a0] st = eI (E L) itE a0 st := (bJ (by kernel_rfl) Tryd.func157 _ _).trans (by kernel_rfl)
noncomputable def mK.b0 (call : bG) (it : bO) (base lb : Nat) (vs25 : List PV) (st26 : St) : Option (Ex × List PV × St) :=
(call (.func 39) [ah (ae vs25 0)] st26).bind fun r27 =>
let q29 : PV := .ptr false r27.2.stk.length 0
let st28 := r27.2.push [.v (.int .i64 0), .v (.string ⟨#[]⟩), .v (.int .u64 0), .v (.int .i64 0), .v (.int .i64 0)]
(au base 5 q29 r27.1 st28).bind fun st30 =>
(av q29 0).bind fun p31 =>
(al false 1 p31 st30).bind fun p32 =>
bM (st30 = st30) <|
(aT Tryd.prog true .neq 120 p32 (PV.v (.int .i64 5))).bind fun p33 =>
(onG p33 false (
some ((ae vs25 1), st30)) st30).bind fun r35 =>
(onG p33 false (
(call (.func 156) [ah r35.1] st30).bind fun r38 =>
some (r38.1, r38.2)) st30).bind fun r37 =>
bM (r37.2 = st30) <|
(onG p33 false (
(av q29 1).bind fun p41 =>
some (p41, st30)) st30).bind fun r40 =>
(onG p33 false (
(al false 1 r40.1 st30).bind fun p44 =>
some (p44, st30)) st30).bind fun r43 =>
bM (r43.2 = st30) <|
(onG p33 false (
(aT Tryd.prog true .add 9 (PV.v (.string ⟨#[32]⟩)) r43.1).bind fun p47 =>
some (p47, st30)) st30).bind fun r46 =>
(onG p33 false (
(aT Tryd.prog true .add 9 r46.1 (PV.v (.string ⟨#[32]⟩))).bind fun p50 =>
some (p50, st30)) st30).bind fun r49 =>
(onG p33 false (
(call (.func 133) [ah r37.1, ah r49.1] st30).bind fun r53 =>
some (r53.1, r53.2)) st30).bind fun r52 =>
bM (r52.2 = st30) <|
(onG p33 false (
(aUn Tryd.prog .not r52.1).bind fun p56 =>
some (p56, st30)) st30).bind fun r55 =>
(bP p33 (PV.v (.bool true)) r55.1).bind fun p57 =>
aD p57 fun b58 => (bif b58 then
(al true 9 (ae vs25 3) st30).bind fun p60 =>
(au base 9 (ae vs25 2) p60 st30).bind fun st61 =>
some (Ex.ret, [(ae vs25 0), (ae vs25 1), (ae vs25 2), (ae vs25 3), q29], st61)
else
some (Ex.normal, [(ae vs25 0), (ae vs25 1), (ae vs25 2), (ae vs25 3), q29], st30)).bind fun r59 =>
cd r59.1 ((call (.func 113) [ah (ae r59.2.1 0)] r59.2.2).bind fun r63 =>
(av (ae r59.2.1 4) 1).bind fun p64 =>
(al false 1 p64 r63.2).bind fun p65 =>
bM (r63.2 = r63.2) <|
(call (.func 157) [ah p65] r63.2).bind fun r66 =>
bM (r66.2 = r63.2) <|
(al true 9 (ae r59.2.1 3) r63.2).bind fun p67 =>
bM (r63.2 = r63.2) <|
(aT Tryd.prog true .add 3 (ae r59.2.1 1) (PV.v (.int .i64 1))).bind fun p68 =>
(call (.func 137) [ah (ae r59.2.1 0), ah p68] r63.2).bind fun r69 =>
aK r69 (fun p70 st71 =>
bM (((al true 9 (ae r59.2.1 3) st71).bind fun p75 =>
some (Rs.ret p75, st71)) = some (Rs.ret p67, st71)) <|
(bj 9 [.v (.int .i64 0), .v (.int .i64 0), .v (.int .u64 0), .v (.int .i64 0), .v (.string ⟨#[]⟩), .v (.string ⟨#[]⟩), .sl [] .nil, .v (.int .i64 0), .v (.int .i64 0)] 2 [(0, p67), (1, p70)]).bind fun p76 =>
(av (ae r59.2.1 4) 3).bind fun p77 =>
(al false 1 p77 st71).bind fun p78 =>
bM (st71 = st71) <|
bM (((al false 1 p77 r63.2).bind fun p79 =>
some (Rs.ret p79, r63.2)) = some (Rs.ret p78, r63.2)) <|
(av (ae r59.2.1 4) 4).bind fun p80 =>
(al false 1 p80 st71).bind fun p81 =>
bM (st71 = st71) <|
bM (((al false 1 p80 r63.2).bind fun p82 =>
some (Rs.ret p82, r63.2)) = some (Rs.ret p81, r63.2)) <|
(aX [(0, 1), (1, 1), (2, 1), (3, 2), (5, 1), (6, 1), (7, 1), (8, 1)] [.v (.int .i64 0), .v (.int .i64 0), .v (.int .u64 0), .v (.int .i64 0), .v (.string ⟨#[]⟩), .v (.string ⟨#[]⟩), .sl [] .nil, .v (.int .i64 0), .v (.int .i64 0)] [(0, (PV.v (.int .i64 9))), (1, r66.1), (5, p76), (6, p78), (7, p81)]).bind fun p83 =>
(au base 9 (ae r59.2.1 3) p83 st71).bind fun st84 =>
(aT Tryd.prog true .eql 3 (ae r59.2.1 1) (PV.v (.int .i64 0))).bind fun p85 =>
aD p85 fun b86 => (bif b86 then
(al true 9 (ae r59.2.1 3) st84).bind fun p88 =>
(au base 9 (ae r59.2.1 2) p88 st84).bind fun st89 =>
some (Ex.ret, [(ae r59.2.1 0), (ae r59.2.1 1), (ae r59.2.1 2), (ae r59.2.1 3)], st89)
else
some (Ex.normal, [(ae r59.2.1 0), (ae r59.2.1 1), (ae r59.2.1 2), (ae r59.2.1 3)], st84)).bind fun r87 =>
iy base lb st26.stk.length (Ex.bf 1 r87.1) [(ae r87.2.1 0), (ae r87.2.1 1), (ae r87.2.1 2), (ae r87.2.1 3)] r87.2.2) (fun t72 x73 st74 =>
(av (ae r59.2.1 4) 3).bind fun p90 =>
(al false 1 p90 r63.2).bind fun p91 =>
bM (r63.2 = r63.2) <|
(av (ae r59.2.1 4) 4).bind fun p92 =>
(al false 1 p92 r63.2).bind fun p93 =>
bM (r63.2 = r63.2) <|
iy base lb st26.stk.length (Ex.pan t72 x73) [(ae r59.2.1 0), (ae r59.2.1 1), (ae r59.2.1 2), (ae r59.2.1 3)] st74)) fun x62 =>
iy base lb st26.stk.length (Ex.bf 1 x62) [(ae r59.2.1 0), (ae r59.2.1 1), (ae r59.2.1 2), (ae r59.2.1 3)] r59.2.2
noncomputable def mK (call : bG) (it : bO) (a0 a1 : PV) (st : St) : Option (PV × St) :=
let q2 : PV := .ptr false st.stk.length 0
let st1 := st.push [.v (.int .i64 0), .v (.int .i64 0), .v (.int .u64 0), .v (.int .i64 0), .v (.string ⟨#[]⟩), .v (.string ⟨#[]⟩), .sl [] .nil, .v (.int .i64 0), .v (.int .i64 0)]
(aT Tryd.prog true .eql 3 a1 (PV.v (.int .i64 3))).bind fun p3 =>
aD p3 fun b4 => (bif b4 then
(call (.func 155) [ah a0] st1).bind fun r6 =>
aK r6 (fun p7 st8 =>
(au st.stk.length 9 q2 p7 st8).bind fun st12 =>
some (Ex.ret, [a0, a1, q2], st12)) (fun t9 x10 st11 =>
some ((Ex.pan t9 x10), [a0, a1, q2], st11))
else
some (Ex.normal, [a0, a1, q2], st1)).bind fun r5 =>
cd r5.1 ((aT Tryd.prog true .add 3 (ae r5.2.1 1) (PV.v (.int .i64 1))).bind fun p14 =>
(call (.func 137) [ah (ae r5.2.1 0), ah p14] r5.2.2).bind fun r15 =>
aK r15 (fun p16 st17 =>
let q22 : PV := .ptr false st17.stk.length 0
let st21 := st17.push [.v (.int .i64 0), .v (.int .i64 0), .v (.int .u64 0), .v (.int .i64 0), .v (.string ⟨#[]⟩), .v (.string ⟨#[]⟩), .sl [] .nil, .v (.int .i64 0), .v (.int .i64 0)]
(au st.stk.length 9 q22 p16 st21).bind fun st23 =>
(it (mK.b0 call it st.stk.length st.lp.length) [(ae r5.2.1 0), (ae r5.2.1 1), (ae r5.2.1 2), q22] st23).bind fun r24 =>
fv st.stk.length st.tk.length st.lp.length (Ex.bf 0 r24.1) r24.2.2 ((al true 9 (ae r24.2.1 2) r24.2.2).bind fun p94 =>
fin st.stk.length st.tk.length st.lp.length [p94] r24.2.2)) (fun t18 x19 st20 =>
some (PV.pan t18 x19, st20.back st.stk.length st.tk.length st.lp.length))) fun x13 =>
fv st.stk.length st.tk.length st.lp.length x13 r5.2.2 ((al true 9 (ae r5.2.1 2) r5.2.2).bind fun p95 =>
fin st.stk.length st.tk.length st.lp.length [p95] r5.2.2)
theorem nD (a0 a1 : PV) (st : St) : E L (.func 137) [a0, a1] st = mK (E L) itE a0 a1 st := (bJ (by kernel_rfl) Tryd.func137 _ _).trans (by kernel_rfl)
noncomputable def CP (call : bG) (it : bO) (a0 : PV) (st : St) : Option (PV × St) :=
let q2 : PV := .ptr false st.stk.length 0
let st1 := st.push [.v (.int .i64 0), .v (.int .i64 0), .v (.int .u64 0), .v (.int .i64 0), .v (.string ⟨#[]⟩), .v (.string ⟨#[]⟩), .sl [] .nil, .v (.int .i64 0), .v (.int .i64 0)]
(call (.func 137) [ah a0, ah (PV.v (.int .i64 0))] st1).bind fun r3 =>
aK r3 (fun p4 st5 =>
(au st.stk.length 9 q2 p4 st5).bind fun st9 =>
(al true 9 q2 st9).bind fun p10 =>
fin st.stk.length st.tk.length st.lp.length [p10] st9) (fun t6 x7 st8 =>
some (PV.pan t6 x7, st8.back st.stk.length st.tk.length st.lp.length))
theorem wE (a0 : PV) (st : St) : E L (.func 119) [a0] st = CP (E L) itE a0 st := (bJ (by kernel_rfl) Tryd.func119 _ _).trans (by kernel_rfl)
noncomputable def tH (call : bG) (it : bO) (a0 : PV) (st : St) : Option (PV × St) :=
let q2 : PV := .ptr false st.stk.length 0
let st1 := st.push [.v (.int .i64 0), .v (.string ⟨#[]⟩), .v (.string ⟨#[]⟩), .v (.int .i64 0), .v (.int .i64 0), .v (.int .u64 0), .v (.int .i64 0), .v (.string ⟨#[]⟩), .v (.string ⟨#[]⟩), .sl [] .nil, .v (.int .i64 0), .v (.int .i64 0), .v (.int .i64 0), .v (.int .i64 0)]
(call (.func 79) [ah a0, ah (PV.v (.int .i64 1))] st1).bind fun r3 =>
aK r3 (fun p4 st5 =>
let q10 : PV := .ptr false st5.stk.length 0
let st9 := st5.push [.v (.int .i64 0), .v (.string ⟨#[]⟩), .v (.int .u64 0), .v (.int .i64 0), .v (.int .i64 0)]
(au st.stk.length 5 q10 p4 st9).bind fun st11 =>
(av q10 1).bind fun p12 =>
(al false 1 p12 st11).bind fun p13 =>
(av q10 3).bind fun p14 =>
(al false 1 p14 st11).bind fun p15 =>
(av q10 4).bind fun p16 =>
(al false 1 p16 st11).bind fun p17 =>
(aX [(0, 1), (1, 1), (2, 1), (3, 9), (12, 1), (13, 1)] [.v (.int .i64 0), .v (.string ⟨#[]⟩), .v (.string ⟨#[]⟩), .v (.int .i64 0), .v (.int .i64 0), .v (.int .u64 0), .v (.int .i64 0), .v (.string ⟨#[]⟩), .v (.string ⟨#[]⟩), .sl [] .nil, .v (.int .i64 0), .v (.int .i64 0), .v (.int .i64 0), .v (.int .i64 0)] [(0, (PV.v (.int .i64 1))), (1, p13), (4, p15), (5, p17)]).bind fun p18 =>
let q20 : PV := .ptr false st11.stk.length 0
let st19 := st11.push [.v (.int .i64 0), .v (.string ⟨#[]⟩), .v (.string ⟨#[]⟩), .v (.int .i64 0), .v (.int .i64 0), .v (.int .u64 0), .v (.int .i64 0), .v (.string ⟨#[]⟩), .v (.string ⟨#[]⟩), .sl [] .nil, .v (.int .i64 0), .v (.int .i64 0), .v (.int .i64 0), .v (.int .i64 0)]
(au st.stk.length 14 q20 p18 st19).bind fun st21 =>
(call (.func 40) [ah a0, ah (PV.v (.string ⟨#[46]⟩))] st21).bind fun r22 =>
aD r22.1 fun b23 => (bif b23 then
(call (.func 79) [ah a0, ah (PV.v (.int .i64 1))] r22.2).bind fun r25 =>
aK r25 (fun p26 st27 =>
(fS Tryd.prog 122 p26 1).bind fun p31 =>
(av q20 0).bind fun p32 =>
(au st.stk.length 1 p32 (PV.v (.int .i64 2)) st27).bind fun st33 =>
(av q20 2).bind fun p34 =>
(au st.stk.length 1 p34 p31 st33).bind fun st35 =>
some (Ex.normal, [q2, q20], st35)) (fun t28 x29 st30 =>
some ((Ex.pan t28 x29), [q2, q20], st30))
else
(call (.func 40) [ah a0, ah (PV.v (.string ⟨#[91]⟩))] r22.2).bind fun r36 =>
aD r36.1 fun b37 => (bif b37 then
(call (.func 119) [ah a0] r36.2).bind fun r39 =>
aK r39 (fun p40 st41 =>
(av q20 0).bind fun p45 =>
(au st.stk.length 1 p45 (PV.v (.int .i64 3)) st41).bind fun st46 =>
(av q20 3).bind fun p47 =>
(au st.stk.length 9 p47 p40 st46).bind fun st48 =>
(call (.func 43) [ah a0, ah (PV.v (.string ⟨#[93]⟩))] st48).bind fun r49 =>
aK r49 (fun p50 st51 =>
some (Ex.normal, [q2, q20], st51)) (fun t52 x53 st54 =>
some ((Ex.pan t52 x53), [q2, q20], st54))) (fun t42 x43 st44 =>
some ((Ex.pan t42 x43), [q2, q20], st44))
else
some (Ex.normal, [q2, q20], r36.2)).bind fun r38 =>
some (r38.1, [(ae r38.2.1 0), (ae r38.2.1 1)], r38.2.2)).bind fun r24 =>
cd (Ex.bf 0 r24.1) ((al true 14 (ae r24.2.1 1) r24.2.2).bind fun p56 =>
(au st.stk.length 14 (ae r24.2.1 0) p56 r24.2.2).bind fun st57 =>
(al true 14 (ae r24.2.1 0) st57).bind fun p58 =>
fin st.stk.length st.tk.length st.lp.length [p58] st57) fun x55 =>
fv st.stk.length st.tk.length st.lp.length x55 r24.2.2 ((al true 14 (ae r24.2.1 0) r24.2.2).bind fun p59 =>
fin st.stk.length st.tk.length st.lp.length [p59] r24.2.2)) (fun t6 x7 st8 =>
some (PV.pan t6 x7, st8.back st.stk.length st.tk.length st.lp.length))
theorem kS (a0 : PV) (st : St) : E L (.func 118) [a0] st = tH (E L) itE a0 st := (bJ (by kernel_rfl) Tryd.func118 _ _).trans (by kernel_rfl)
noncomputable def qa (call : bG) (it : bO) (a0 : PV) (st : St) : Option (PV × St) :=
let q2 : PV := .ptr false st.stk.length 0
let st1 := st.push [.v (.int .i64 0), .v (.int .i64 0), .v (.int .i64 0), .v (.int .u64 0), .v (.int .i64 0), .v (.string ⟨#[]⟩), .v (.string ⟨#[]⟩), .sl [] .nil, .v (.int .i64 0), .v (.int .i64 0), .v (.int .i64 0), .v (.string ⟨#[]⟩), .v (.string ⟨#[]⟩), .v (.int .i64 0), .v (.int .i64 0), .v (.int .u64 0), .v (.int .i64 0), .v (.string ⟨#[]⟩), .v (.string ⟨#[]⟩), .sl [] .nil, .v (.int .i64 0), .v (.int .i64 0), .v (.int .i64 0), .v (.int .i64 0), .v (.string ⟨#[]⟩), .v (.int .i64 0), .v (.int .i64 0)]
(call (.func 39) [ah a0] st1).bind fun r3 =>
let q5 : PV := .ptr false r3.2.stk.length 0
let st4 := r3.2.push [.v (.int .i64 0), .v (.string ⟨#[]⟩), .v (.int .u64 0), .v (.int .i64 0), .v (.int .i64 0)]
(au st.stk.length 5 q5 r3.1 st4).bind fun st6 =>
(av q5 3).bind fun p7 =>
(al false 1 p7 st6).bind fun p8 =>
(av q5 4).bind fun p9 =>
(al false 1 p9 st6).bind fun p10 =>
(aX [(0, 1), (1, 9), (10, 14), (24, 1), (25, 1), (26, 1)] [.v (.int .i64 0), .v (.int .i64 0), .v (.int .i64 0), .v (.int .u64 0), .v (.int .i64 0), .v (.string ⟨#[]⟩), .v (.string ⟨#[]⟩), .sl [] .nil, .v (.int .i64 0), .v (.int .i64 0), .v (.int .i64 0), .v (.string ⟨#[]⟩), .v (.string ⟨#[]⟩), .v (.int .i64 0), .v (.int .i64 0), .v (.int .u64 0), .v (.int .i64 0), .v (.string ⟨#[]⟩), .v (.string ⟨#[]⟩), .sl [] .nil, .v (.int .i64 0), .v (.int .i64 0), .v (.int .i64 0), .v (.int .i64 0), .v (.string ⟨#[]⟩), .v (.int .i64 0), .v (.int .i64 0)] [(4, p8), (5, p10)]).bind fun p11 =>
let q13 : PV := .ptr false st6.stk.length 0
let st12 := st6.push [.v (.int .i64 0), .v (.int .i64 0), .v (.int .i64 0), .v (.int .u64 0), .v (.int .i64 0), .v (.string ⟨#[]⟩), .v (.string ⟨#[]⟩), .sl [] .nil, .v (.int .i64 0), .v (.int .i64 0), .v (.int .i64 0), .v (.string ⟨#[]⟩), .v (.string ⟨#[]⟩), .v (.int .i64 0), .v (.int .i64 0), .v (.int .u64 0), .v (.int .i64 0), .v (.string ⟨#[]⟩), .v (.string ⟨#[]⟩), .sl [] .nil, .v (.int .i64 0), .v (.int .i64 0), .v (.int .i64 0), .v (.int .i64 0), .v (.string ⟨#[]⟩), .v (.int .i64 0), .v (.int .i64 0)]
(au st.stk.length 27 q13 p11 st12).bind fun st14 =>
(call (.func 40) [ah a0, ah (PV.v (.string ⟨#[108, 111, 97, 100]⟩))] st14).bind fun r15 =>
aD r15.1 fun b16 => (bif b16 then
(call (.func 118) [ah a0] r15.2).bind fun r18 =>
aK r18 (fun p19 st20 =>
(av q13 0).bind fun p24 =>
(au st.stk.length 1 p24 (PV.v (.int .i64 2)) st20).bind fun st25 =>
(av q13 10).bind fun p26 =>
(au st.stk.length 14 p26 p19 st25).bind fun st27 =>
some (Ex.normal, [q2, q13], st27)) (fun t21 x22 st23 =>
some ((Ex.pan t21 x22), [q2, q13], st23))
else
(call (.func 40) [ah a0, ah (PV.v (.string ⟨#[115, 105, 122, 101]⟩))] r15.2).bind fun r28 =>
aD r28.1 fun b29 => (bif b29 then
(call (.func 79) [ah a0, ah (PV.v (.int .i64 1))] r28.2).bind fun r31 =>
aK r31 (fun p32 st33 =>
(fS Tryd.prog 122 p32 1).bind fun p37 =>
(av q13 0).bind fun p38 =>
(au st.stk.length 1 p38 (PV.v (.int .i64 5)) st33).bind fun st39 =>
(av q13 24).bind fun p40 =>
(au st.stk.length 1 p40 p37 st39).bind fun st41 =>
some (Ex.normal, [q2, q13], st41)) (fun t34 x35 st36 =>
some ((Ex.pan t34 x35), [q2, q13], st36))
else
(call (.func 40) [ah a0, ah (PV.v (.string ⟨#[110, 101, 119]⟩))] r28.2).bind fun r42 =>
aD r42.1 fun b43 => (bif b43 then
(call (.func 40) [ah a0, ah (PV.v (.string ⟨#[105, 110, 116, 115]⟩))] r42.2).bind fun r45 =>
aD r45.1 fun b46 => (bif b46 then
(call (.func 119) [ah a0] r45.2).bind fun r48 =>
aK r48 (fun p49 st50 =>
(av q13 0).bind fun p54 =>
(au st.stk.length 1 p54 (PV.v (.int .i64 4)) st50).bind fun st55 =>
(av q13 1).bind fun p56 =>
(au st.stk.length 9 p56 p49 st55).bind fun st57 =>
some (Ex.normal, [q2, q13], st57)) (fun t51 x52 st53 =>
some ((Ex.pan t51 x52), [q2, q13], st53))
else
(call (.func 79) [ah a0, ah (PV.v (.int .i64 1))] r45.2).bind fun r58 =>
aK r58 (fun p59 st60 =>
(fS Tryd.prog 122 p59 1).bind fun p64 =>
(av q13 0).bind fun p65 =>
(au st.stk.length 1 p65 (PV.v (.int .i64 3)) st60).bind fun st66 =>
(av q13 24).bind fun p67 =>
(au st.stk.length 1 p67 p64 st66).bind fun st68 =>
some (Ex.normal, [q2, q13], st68)) (fun t61 x62 st63 =>
some ((Ex.pan t61 x62), [q2, q13], st63))).bind fun r47 =>
some (r47.1, [(ae r47.2.1 0), (ae r47.2.1 1)], r47.2.2)
else
(call (.func 119) [ah a0] r42.2).bind fun r69 =>
aK r69 (fun p70 st71 =>
(av q13 0).bind fun p75 =>
(au st.stk.length 1 p75 (PV.v (.int .i64 1)) st71).bind fun st76 =>
(av q13 1).bind fun p77 =>
(au st.stk.length 9 p77 p70 st76).bind fun st78 =>
some (Ex.normal, [q2, q13], st78)) (fun t72 x73 st74 =>
some ((Ex.pan t72 x73), [q2, q13], st74))).bind fun r44 =>
some (r44.1, [(ae r44.2.1 0), (ae r44.2.1 1)], r44.2.2)).bind fun r30 =>
some (r30.1, [(ae r30.2.1 0), (ae r30.2.1 1)], r30.2.2)).bind fun r17 =>
cd (Ex.bf 0 r17.1) ((al true 27 (ae r17.2.1 1) r17.2.2).bind fun p80 =>
(au st.stk.length 27 (ae r17.2.1 0) p80 r17.2.2).bind fun st81 =>
(al true 27 (ae r17.2.1 0) st81).bind fun p82 =>
fin st.stk.length st.tk.length st.lp.length [p82] st81) fun x79 =>
fv st.stk.length st.tk.length st.lp.length x79 r17.2.2 ((al true 27 (ae r17.2.1 0) r17.2.2).bind fun p83 =>
fin st.stk.length st.tk.length st.lp.length [p83] r17.2.2)
theorem iA (a0 : PV) (st : St) : E L (.func 117) [a0] st = qa (E L) itE a0 st := (bJ (by kernel_rfl) Tryd.func117 _ _).trans (by kernel_rfl)
noncomputable def tG (call : bG) (it : bO) (a0 a1 : PV) (st : St) : Option (PV × St) :=
(cellsOf a1).bind fun b1 =>
let q3 : PV := .ptr false st.stk.length 0
let st2 := st.push b1
let q5 : PV := .ptr false st2.stk.length 0
let st4 := st2.push [.v (.int .i64 0), .v (.string ⟨#[]⟩), .v (.int .i64 0), .v (.int .i64 0), .v (.int .i64 0), .v (.int .u64 0), .v (.int .i64 0), .v (.string ⟨#[]⟩), .v (.string ⟨#[]⟩), .sl [] .nil, .v (.int .i64 0), .v (.int .i64 0), .v (.int .i64 0), .v (.string ⟨#[]⟩), .v (.string ⟨#[]⟩), .v (.int .i64 0), .v (.int .i64 0), .v (.int .u64 0), .v (.int .i64 0), .v (.string ⟨#[]⟩), .v (.string ⟨#[]⟩), .sl [] .nil, .v (.int .i64 0), .v (.int .i64 0), .v (.int .i64 0), .v (.int .i64 0), .v (.string ⟨#[]⟩), .v (.int .i64 0), .v (.int .i64 0), .v (.int .i64 0), .v (.string ⟨#[]⟩), .v (.string ⟨#[]⟩), .v (.int .i64 0), .v (.int .i64 0), .v (.int .u64 0), .v (.int .i64 0), .v (.string ⟨#[]⟩), .v (.string ⟨#[]⟩), .sl [] .nil, .v (.int .i64 0), .v (.int .i64 0), .v (.int .i64 0), .v (.int .i64 0), .v (.int .i64 0), .v (.int .i64 0), .v (.int .u64 0), .v (.int .i64 0), .v (.string ⟨#[]⟩), .v (.string ⟨#[]⟩), .sl [] .nil, .v (.int .i64 0), .v (.int .i64 0), .v (.int .i64 0), .sl [] .nil, .sl [] .nil, .sl [] .nil, .v (.int .i64 0), .v (.int .i64 0)]
(call (.func 113) [ah a0] st4).bind fun r6 =>
(fS Tryd.prog 122 r6.1 1).bind fun p7 =>
(av q3 1).bind fun p8 =>
(au st.stk.length 1 p8 p7 r6.2).bind fun st9 =>
(call (.func 40) [ah a0, ah (PV.v (.string ⟨#[58]⟩))] st9).bind fun r10 =>
aD r10.1 fun b11 => (bif b11 then
(call (.func 43) [ah a0, ah (PV.v (.string ⟨#[108, 111, 111, 112]⟩))] r10.2).bind fun r13 =>
aK r13 (fun p14 st15 =>
(al true 58 q3 st15).bind fun p19 =>
(call (.func 115) [ah a0, ah p19] st15).bind fun r20 =>
aK r20 (fun p21 st22 =>
(au st.stk.length 58 q5 p21 st22).bind fun st26 =>
some (Ex.ret, [a0, q3, q5], st26)) (fun t23 x24 st25 =>
some ((Ex.pan t23 x24), [a0, q3, q5], st25))) (fun t16 x17 st18 =>
some ((Ex.pan t16 x17), [a0, q3, q5], st18))
else
some (Ex.normal, [a0, q3, q5], r10.2)).bind fun r12 =>
cd r12.1 ((av (ae r12.2.1 1) 0).bind fun p28 =>
(au st.stk.length 1 p28 (PV.v (.int .i64 3)) r12.2.2).bind fun st29 =>
(call (.func 43) [ah (ae r12.2.1 0), ah (PV.v (.string ⟨#[61]⟩))] st29).bind fun r30 =>
aK r30 (fun p31 st32 =>
(call (.func 117) [ah (ae r12.2.1 0)] st32).bind fun r36 =>
aK r36 (fun p37 st38 =>
(av (ae r12.2.1 1) 2).bind fun p42 =>
(au st.stk.length 27 p42 p37 st38).bind fun st43 =>
(call (.func 43) [ah (ae r12.2.1 0), ah (PV.v (.string ⟨#[59]⟩))] st43).bind fun r44 =>
aK r44 (fun p45 st46 =>
(al true 58 (ae r12.2.1 1) st46).bind fun p50 =>
(au st.stk.length 58 (ae r12.2.1 2) p50 st46).bind fun st51 =>
(al true 58 (ae r12.2.1 2) st51).bind fun p52 =>
fin st.stk.length st.tk.length st.lp.length [p52] st51) (fun t47 x48 st49 =>
some (PV.pan t47 x48, st49.back st.stk.length st.tk.length st.lp.length))) (fun t39 x40 st41 =>
some (PV.pan t39 x40, st41.back st.stk.length st.tk.length st.lp.length))) (fun t33 x34 st35 =>
some (PV.pan t33 x34, st35.back st.stk.length st.tk.length st.lp.length))) fun x27 =>
fv st.stk.length st.tk.length st.lp.length x27 r12.2.2 ((al true 58 (ae r12.2.1 2) r12.2.2).bind fun p53 =>
fin st.stk.length st.tk.length st.lp.length [p53] r12.2.2)
theorem kR (a0 a1 : PV) (st : St) : E L (.func 114) [a0, a1] st = tG (E L) itE a0 a1 st := (bJ (by kernel_rfl) Tryd.func114 _ _).trans (by kernel_rfl)
noncomputable def xM (call : bG) (it : bO) (a0 a1 : PV) (st : St) : Option (PV × St) :=
(cellsOf a1).bind fun b1 =>
let q3 : PV := .ptr false st.stk.length 0
let st2 := st.push b1
let q5 : PV := .ptr false st2.stk.length 0
let st4 := st2.push [.v (.int .i64 0), .v (.string ⟨#[]⟩), .v (.int .i64 0), .v (.int .i64 0), .v (.int .i64 0), .v (.int .u64 0), .v (.int .i64 0), .v (.string ⟨#[]⟩), .v (.string ⟨#[]⟩), .sl [] .nil, .v (.int .i64 0), .v (.int .i64 0), .v (.int .i64 0), .v (.string ⟨#[]⟩), .v (.string ⟨#[]⟩), .v (.int .i64 0), .v (.int .i64 0), .v (.int .u64 0), .v (.int .i64 0), .v (.string ⟨#[]⟩), .v (.string ⟨#[]⟩), .sl [] .nil, .v (.int .i64 0), .v (.int .i64 0), .v (.int .i64 0), .v (.int .i64 0), .v (.string ⟨#[]⟩), .v (.int .i64 0), .v (.int .i64 0), .v (.int .i64 0), .v (.string ⟨#[]⟩), .v (.string ⟨#[]⟩), .v (.int .i64 0), .v (.int .i64 0), .v (.int .u64 0), .v (.int .i64 0), .v (.string ⟨#[]⟩), .v (.string ⟨#[]⟩), .sl [] .nil, .v (.int .i64 0), .v (.int .i64 0), .v (.int .i64 0), .v (.int .i64 0), .v (.int .i64 0), .v (.int .i64 0), .v (.int .u64 0), .v (.int .i64 0), .v (.string ⟨#[]⟩), .v (.string ⟨#[]⟩), .sl [] .nil, .v (.int .i64 0), .v (.int .i64 0), .v (.int .i64 0), .sl [] .nil, .sl [] .nil, .sl [] .nil, .v (.int .i64 0), .v (.int .i64 0)]
(call (.func 119) [ah a0] st4).bind fun r6 =>
aK r6 (fun p7 st8 =>
(av q3 0).bind fun p12 =>
(au st.stk.length 1 p12 (PV.v (.int .i64 6)) st8).bind fun st13 =>
(av q3 43).bind fun p14 =>
(au st.stk.length 9 p14 p7 st13).bind fun st15 =>
(av q3 54).bind fun p16 =>
(au st.stk.length 1 p16 (PV.sl [] .nil) st15).bind fun st17 =>
(call (.func 45) [ah a0] st17).bind fun r18 =>
aK r18 (fun p19 st20 =>
(av q3 54).bind fun p24 =>
(au st.stk.length 1 p24 p19 st20).bind fun st25 =>
(call (.func 40) [ah a0, ah (PV.v (.string ⟨#[101, 108, 115, 101]⟩))] st25).bind fun r26 =>
aD r26.1 fun b27 => (bif b27 then
(call (.func 45) [ah a0] r26.2).bind fun r29 =>
aK r29 (fun p30 st31 =>
(av q3 55).bind fun p35 =>
(au st.stk.length 1 p35 p30 st31).bind fun st36 =>
some (Ex.normal, [q3, q5], st36)) (fun t32 x33 st34 =>
some ((Ex.pan t32 x33), [q3, q5], st34))
else
some (Ex.normal, [q3, q5], r26.2)).bind fun r28 =>
cd r28.1 ((al true 58 (ae r28.2.1 0) r28.2.2).bind fun p38 =>
(au st.stk.length 58 (ae r28.2.1 1) p38 r28.2.2).bind fun st39 =>
(al true 58 (ae r28.2.1 1) st39).bind fun p40 =>
fin st.stk.length st.tk.length st.lp.length [p40] st39) fun x37 =>
fv st.stk.length st.tk.length st.lp.length x37 r28.2.2 ((al true 58 (ae r28.2.1 1) r28.2.2).bind fun p41 =>
fin st.stk.length st.tk.length st.lp.length [p41] r28.2.2)) (fun t21 x22 st23 =>
some (PV.pan t21 x22, st23.back st.stk.length st.tk.length st.lp.length))) (fun t9 x10 st11 =>
some (PV.pan t9 x10, st11.back st.stk.length st.tk.length st.lp.length))
theorem nB (a0 a1 : PV) (st : St) : E L (.func 116) [a0, a1] st = xM (E L) itE a0 a1 st := (bJ (by kernel_rfl) Tryd.func116 _ _).trans (by kernel_rfl)
noncomputable def CQ (call : bG) (it : bO) (a0 : PV) (st : St) : Option (PV × St) :=
(call (.func 39) [ah a0] st).bind fun r1 =>
(fS Tryd.prog 122 r1.1 0).bind fun p2 =>
(aT Tryd.prog true .eql 120 p2 (PV.v (.int .i64 1))).bind fun p3 =>
aD p3 fun b4 => (bif b4 then
(call (.func 113) [ah a0] r1.2).bind fun r6 =>
(fS Tryd.prog 122 r6.1 1).bind fun p7 =>
some (Ex.ret, [p7], r6.2)
else
some (Ex.normal, [(PV.v (.string ⟨#[]⟩))], r1.2)).bind fun r5 =>
cd r5.1 (fin st.stk.length st.tk.length st.lp.length [(PV.v (.string ⟨#[]⟩))] r5.2.2) fun x8 =>
ep x8 (fin st.stk.length st.tk.length st.lp.length [(ae r5.2.1 0)] r5.2.2)
theorem wF (a0 : PV) (st : St) : E L (.func 120) [a0] st = CQ (E L) itE a0 st := (bJ (by kernel_rfl) Tryd.func120 _ _).trans (by kernel_rfl)
noncomputable def nC.b0 (call : bG) (it : bO) (base lb : Nat) (vs12 : List PV) (st13 : St) : Option (Ex × List PV × St) :=
(call (.func 119) [ah (ae vs12 0)] st13).bind fun r14 =>
aK r14 (fun p15 st16 =>
(bj 9 [.v (.int .i64 0), .v (.int .i64 0), .v (.int .u64 0), .v (.int .i64 0), .v (.string ⟨#[]⟩), .v (.string ⟨#[]⟩), .sl [] .nil, .v (.int .i64 0), .v (.int .i64 0)] 1 [(0, p15)]).bind fun p20 =>
(cw st16 p20).bind fun ys21 =>
(ej base [.v (.int .i64 0), .v (.int .i64 0), .v (.int .u64 0), .v (.int .i64 0), .v (.string ⟨#[]⟩), .v (.string ⟨#[]⟩), .sl [] .nil, .v (.int .i64 0), .v (.int .i64 0)] 9 104 (ae vs12 2) ys21 st16).bind fun r22 =>
(call (.func 40) [ah (ae vs12 0), ah (PV.v (.string ⟨#[41]⟩))] r22.2).bind fun r23 =>
aD r23.1 fun b24 => (bif b24 then
some (Ex.ret, [(ae vs12 0), r22.1, r22.1], r23.2)
else
some (Ex.normal, [(ae vs12 0), (ae vs12 1), r22.1], r23.2)).bind fun r25 =>
cd r25.1 ((call (.func 43) [ah (ae r25.2.1 0), ah (PV.v (.string ⟨#[44]⟩))] r25.2.2).bind fun r27 =>
aK r27 (fun p28 st29 =>
some (Ex.normal, [(ae r25.2.1 0), (ae r25.2.1 1), (ae r25.2.1 2)], st29)) (fun t30 x31 st32 =>
some ((Ex.pan t30 x31), [(ae r25.2.1 0), (ae r25.2.1 1), (ae r25.2.1 2)], st32))) fun x26 =>
some ((Ex.bf 1 x26), [(ae r25.2.1 0), (ae r25.2.1 1), (ae r25.2.1 2)], r25.2.2)) (fun t17 x18 st19 =>
some ((Ex.pan t17 x18), [(ae vs12 0), (ae vs12 1), (ae vs12 2)], st19))
noncomputable def nC (call : bG) (it : bO) (a0 : PV) (st : St) : Option (PV × St) :=
(call (.func 43) [ah a0, ah (PV.v (.string ⟨#[40]⟩))] st).bind fun r1 =>
aK r1 (fun p2 st3 =>
(call (.func 40) [ah a0, ah (PV.v (.string ⟨#[41]⟩))] st3).bind fun r7 =>
aD r7.1 fun b8 => (bif b8 then
some (Ex.ret, [a0, (PV.sl [] .nil), (PV.sl [] .nil)], r7.2)
else
some (Ex.normal, [a0, (PV.sl [] .nil), (PV.sl [] .nil)], r7.2)).bind fun r9 =>
cd r9.1 ((it (nC.b0 call it st.stk.length st.lp.length) [(ae r9.2.1 0), (ae r9.2.1 1), (ae r9.2.1 2)] r9.2.2).bind fun r11 =>
fv st.stk.length st.tk.length st.lp.length (Ex.bf 0 r11.1) r11.2.2 (fin st.stk.length st.tk.length st.lp.length [(ae r11.2.1 1)] r11.2.2)) fun x10 =>
fv st.stk.length st.tk.length st.lp.length x10 r9.2.2 (fin st.stk.length st.tk.length st.lp.length [(ae r9.2.1 1)] r9.2.2)) (fun t4 x5 st6 =>
some (PV.pan t4 x5, st6.back st.stk.length st.tk.length st.lp.length))
theorem pO (a0 : PV) (st : St) : E L (.func 121) [a0] st = nC (E L) itE a0 st := (bJ (by kernel_rfl) Tryd.func121 _ _).trans (by kernel_rfl)
noncomputable def S82 (call : bG) (it : bO) (a0 : PV) (st : St) : Option (PV × St) :=
let q2 : PV := .ptr false st.stk.length 0
let st1 := st.push [.v (.int .i64 0), .v (.string ⟨#[]⟩), .v (.int .i64 0), .v (.int .i64 0), .v (.int .i64 0), .v (.int .u64 0), .v (.int .i64 0), .v (.string ⟨#[]⟩), .v (.string ⟨#[]⟩), .sl [] .nil, .v (.int .i64 0), .v (.int .i64 0), .v (.int .i64 0), .v (.string ⟨#[]⟩), .v (.string ⟨#[]⟩), .v (.int .i64 0), .v (.int .i64 0), .v (.int .u64 0), .v (.int .i64 0), .v (.string ⟨#[]⟩), .v (.string ⟨#[]⟩), .sl [] .nil, .v (.int .i64 0), .v (.int .i64 0), .v (.int .i64 0), .v (.int .i64 0), .v (.string ⟨#[]⟩), .v (.int .i64 0), .v (.int .i64 0), .v (.int .i64 0), .v (.string ⟨#[]⟩), .v (.string ⟨#[]⟩), .v (.int .i64 0), .v (.int .i64 0), .v (.int .u64 0), .v (.int .i64 0), .v (.string ⟨#[]⟩), .v (.string ⟨#[]⟩), .sl [] .nil, .v (.int .i64 0), .v (.int .i64 0), .v (.int .i64 0), .v (.int .i64 0), .v (.int .i64 0), .v (.int .i64 0), .v (.int .u64 0), .v (.int .i64 0), .v (.string ⟨#[]⟩), .v (.string ⟨#[]⟩), .sl [] .nil, .v (.int .i64 0), .v (.int .i64 0), .v (.int .i64 0), .sl [] .nil, .sl [] .nil, .sl [] .nil, .v (.int .i64 0), .v (.int .i64 0)]
(call (.func 39) [ah a0] st1).bind fun r3 =>
let q5 : PV := .ptr false r3.2.stk.length 0
let st4 := r3.2.push [.v (.int .i64 0), .v (.string ⟨#[]⟩), .v (.int .u64 0), .v (.int .i64 0), .v (.int .i64 0)]
(au st.stk.length 5 q5 r3.1 st4).bind fun st6 =>
(av q5 3).bind fun p7 =>
(al false 1 p7 st6).bind fun p8 =>
(av q5 4).bind fun p9 =>
(al false 1 p9 st6).bind fun p10 =>
(aX [(0, 1), (1, 1), (2, 27), (29, 14), (43, 9), (52, 1), (53, 1), (54, 1), (55, 1), (56, 1), (57, 1)] [.v (.int .i64 0), .v (.string ⟨#[]⟩), .v (.int .i64 0), .v (.int .i64 0), .v (.int .i64 0), .v (.int .u64 0), .v (.int .i64 0), .v (.string ⟨#[]⟩), .v (.string ⟨#[]⟩), .sl [] .nil, .v (.int .i64 0), .v (.int .i64 0), .v (.int .i64 0), .v (.string ⟨#[]⟩), .v (.string ⟨#[]⟩), .v (.int .i64 0), .v (.int .i64 0), .v (.int .u64 0), .v (.int .i64 0), .v (.string ⟨#[]⟩), .v (.string ⟨#[]⟩), .sl [] .nil, .v (.int .i64 0), .v (.int .i64 0), .v (.int .i64 0), .v (.int .i64 0), .v (.string ⟨#[]⟩), .v (.int .i64 0), .v (.int .i64 0), .v (.int .i64 0), .v (.string ⟨#[]⟩), .v (.string ⟨#[]⟩), .v (.int .i64 0), .v (.int .i64 0), .v (.int .u64 0), .v (.int .i64 0), .v (.string ⟨#[]⟩), .v (.string ⟨#[]⟩), .sl [] .nil, .v (.int .i64 0), .v (.int .i64 0), .v (.int .i64 0), .v (.int .i64 0), .v (.int .i64 0), .v (.int .i64 0), .v (.int .u64 0), .v (.int .i64 0), .v (.string ⟨#[]⟩), .v (.string ⟨#[]⟩), .sl [] .nil, .v (.int .i64 0), .v (.int .i64 0), .v (.int .i64 0), .sl [] .nil, .sl [] .nil, .sl [] .nil, .v (.int .i64 0), .v (.int .i64 0)] [(9, p8), (10, p10)]).bind fun p11 =>
let q13 : PV := .ptr false st6.stk.length 0
let st12 := st6.push [.v (.int .i64 0), .v (.string ⟨#[]⟩), .v (.int .i64 0), .v (.int .i64 0), .v (.int .i64 0), .v (.int .u64 0), .v (.int .i64 0), .v (.string ⟨#[]⟩), .v (.string ⟨#[]⟩), .sl [] .nil, .v (.int .i64 0), .v (.int .i64 0), .v (.int .i64 0), .v (.string ⟨#[]⟩), .v (.string ⟨#[]⟩), .v (.int .i64 0), .v (.int .i64 0), .v (.int .u64 0), .v (.int .i64 0), .v (.string ⟨#[]⟩), .v (.string ⟨#[]⟩), .sl [] .nil, .v (.int .i64 0), .v (.int .i64 0), .v (.int .i64 0), .v (.int .i64 0), .v (.string ⟨#[]⟩), .v (.int .i64 0), .v (.int .i64 0), .v (.int .i64 0), .v (.string ⟨#[]⟩), .v (.string ⟨#[]⟩), .v (.int .i64 0), .v (.int .i64 0), .v (.int .u64 0), .v (.int .i64 0), .v (.string ⟨#[]⟩), .v (.string ⟨#[]⟩), .sl [] .nil, .v (.int .i64 0), .v (.int .i64 0), .v (.int .i64 0), .v (.int .i64 0), .v (.int .i64 0), .v (.int .i64 0), .v (.int .u64 0), .v (.int .i64 0), .v (.string ⟨#[]⟩), .v (.string ⟨#[]⟩), .sl [] .nil, .v (.int .i64 0), .v (.int .i64 0), .v (.int .i64 0), .sl [] .nil, .sl [] .nil, .sl [] .nil, .v (.int .i64 0), .v (.int .i64 0)]
(au st.stk.length 58 q13 p11 st12).bind fun st14 =>
(av q5 0).bind fun p15 =>
(al false 1 p15 st14).bind fun p16 =>
(aT Tryd.prog true .eql 120 p16 (PV.v (.int .i64 1))).bind fun p17 =>
aD p17 fun b18 => (bif b18 then
(al true 58 q13 st14).bind fun p20 =>
(call (.func 114) [ah a0, ah p20] st14).bind fun r21 =>
aK r21 (fun p22 st23 =>
(au st.stk.length 58 q2 p22 st23).bind fun st27 =>
some (Ex.ret, [a0, q2, q5, q13], st27)) (fun t24 x25 st26 =>
some ((Ex.pan t24 x25), [a0, q2, q5, q13], st26))
else
some (Ex.normal, [a0, q2, q5, q13], st14)).bind fun r19 =>
cd r19.1 ((call (.func 40) [ah (ae r19.2.1 0), ah (PV.v (.string ⟨#[108, 111, 111, 112]⟩))] r19.2.2).bind fun r29 =>
aD r29.1 fun b30 => (bif b30 then
(al true 58 (ae r19.2.1 3) r29.2).bind fun p32 =>
(call (.func 115) [ah (ae r19.2.1 0), ah p32] r29.2).bind fun r33 =>
aK r33 (fun p34 st35 =>
(au st.stk.length 58 (ae r19.2.1 1) p34 st35).bind fun st39 =>
some (Ex.ret, [(ae r19.2.1 0), (ae r19.2.1 1), (ae r19.2.1 3)], st39)) (fun t36 x37 st38 =>
some ((Ex.pan t36 x37), [(ae r19.2.1 0), (ae r19.2.1 1), (ae r19.2.1 3)], st38))
else
(call (.func 40) [ah (ae r19.2.1 0), ah (PV.v (.string ⟨#[105, 102]⟩))] r29.2).bind fun r40 =>
aD r40.1 fun b41 => (bif b41 then
(al true 58 (ae r19.2.1 3) r40.2).bind fun p43 =>
(call (.func 116) [ah (ae r19.2.1 0), ah p43] r40.2).bind fun r44 =>
aK r44 (fun p45 st46 =>
(au st.stk.length 58 (ae r19.2.1 1) p45 st46).bind fun st50 =>
some (Ex.ret, [(ae r19.2.1 0), (ae r19.2.1 1), (ae r19.2.1 3)], st50)) (fun t47 x48 st49 =>
some ((Ex.pan t47 x48), [(ae r19.2.1 0), (ae r19.2.1 1), (ae r19.2.1 3)], st49))
else
(call (.func 40) [ah (ae r19.2.1 0), ah (PV.v (.string ⟨#[97, 116, 111, 109, 105, 99]⟩))] r40.2).bind fun r51 =>
aD r51.1 fun b52 => (bif b52 then
(call (.func 45) [ah (ae r19.2.1 0)] r51.2).bind fun r54 =>
aK r54 (fun p55 st56 =>
(av (ae r19.2.1 3) 0).bind fun p60 =>
(au st.stk.length 1 p60 (PV.v (.int .i64 10)) st56).bind fun st61 =>
(av (ae r19.2.1 3) 54).bind fun p62 =>
(au st.stk.length 1 p62 p55 st61).bind fun st63 =>
(al true 58 (ae r19.2.1 3) st63).bind fun p64 =>
(au st.stk.length 58 (ae r19.2.1 1) p64 st63).bind fun st65 =>
some (Ex.ret, [(ae r19.2.1 0), (ae r19.2.1 1), (ae r19.2.1 3)], st65)) (fun t57 x58 st59 =>
some ((Ex.pan t57 x58), [(ae r19.2.1 0), (ae r19.2.1 1), (ae r19.2.1 3)], st59))
else
(call (.func 78) [ah (ae r19.2.1 0), ah (PV.v (.string ⟨#[108, 101, 116]⟩))] r51.2).bind fun r66 =>
(onG r66.1 false (
some ((ae r19.2.1 0), r66.2)) r66.2).bind fun r68 =>
(onG r66.1 false (
(call (.func 78) [ah r68.1, ah (PV.v (.string ⟨#[118, 97, 114]⟩))] r68.2).bind fun r71 =>
some (r71.1, r71.2)) r68.2).bind fun r70 =>
(bP r66.1 (PV.v (.bool true)) r70.1).bind fun p72 =>
aD p72 fun b73 => (bif b73 then
(av (ae r19.2.1 3) 0).bind fun p75 =>
(au st.stk.length 1 p75 (PV.v (.int .i64 1)) r70.2).bind fun st76 =>
(call (.func 113) [ah (ae r19.2.1 0)] st76).bind fun r77 =>
(fS Tryd.prog 122 r77.1 1).bind fun p78 =>
(aT Tryd.prog true .eql 9 p78 (PV.v (.string ⟨#[118, 97, 114]⟩))).bind fun p79 =>
aD p79 fun b80 => (bif b80 then
(av (ae r19.2.1 3) 0).bind fun p82 =>
(au st.stk.length 1 p82 (PV.v (.int .i64 2)) r77.2).bind fun st83 =>
some (Ex.normal, [(ae r19.2.1 0), (ae r19.2.1 1), (ae r19.2.1 3)], st83)
else
some (Ex.normal, [(ae r19.2.1 0), (ae r19.2.1 1), (ae r19.2.1 3)], r77.2)).bind fun r81 =>
cd r81.1 ((call (.func 79) [ah (ae r81.2.1 0), ah (PV.v (.int .i64 1))] r81.2.2).bind fun r85 =>
aK r85 (fun p86 st87 =>
(fS Tryd.prog 122 p86 1).bind fun p91 =>
(av (ae r81.2.1 2) 1).bind fun p92 =>
(au st.stk.length 1 p92 p91 st87).bind fun st93 =>
(call (.func 43) [ah (ae r81.2.1 0), ah (PV.v (.string ⟨#[61]⟩))] st93).bind fun r94 =>
aK r94 (fun p95 st96 =>
(call (.func 117) [ah (ae r81.2.1 0)] st96).bind fun r100 =>
aK r100 (fun p101 st102 =>
(av (ae r81.2.1 2) 2).bind fun p106 =>
(au st.stk.length 27 p106 p101 st102).bind fun st107 =>
some (Ex.normal, [(ae r81.2.1 0), (ae r81.2.1 1), (ae r81.2.1 2)], st107)) (fun t103 x104 st105 =>
some ((Ex.pan t103 x104), [(ae r81.2.1 0), (ae r81.2.1 1), (ae r81.2.1 2)], st105))) (fun t97 x98 st99 =>
some ((Ex.pan t97 x98), [(ae r81.2.1 0), (ae r81.2.1 1), (ae r81.2.1 2)], st99))) (fun t88 x89 st90 =>
some ((Ex.pan t88 x89), [(ae r81.2.1 0), (ae r81.2.1 1), (ae r81.2.1 2)], st90))) fun x84 =>
some (x84, [(ae r81.2.1 0), (ae r81.2.1 1), (ae r81.2.1 2)], r81.2.2)
else
(call (.func 40) [ah (ae r19.2.1 0), ah (PV.v (.string ⟨#[115, 101, 116]⟩))] r70.2).bind fun r108 =>
aD r108.1 fun b109 => (bif b109 then
(call (.func 118) [ah (ae r19.2.1 0)] r108.2).bind fun r111 =>
aK r111 (fun p112 st113 =>
(av (ae r19.2.1 3) 0).bind fun p117 =>
(au st.stk.length 1 p117 (PV.v (.int .i64 4)) st113).bind fun st118 =>
(av (ae r19.2.1 3) 29).bind fun p119 =>
(au st.stk.length 14 p119 p112 st118).bind fun st120 =>
(call (.func 43) [ah (ae r19.2.1 0), ah (PV.v (.string ⟨#[61]⟩))] st120).bind fun r121 =>
aK r121 (fun p122 st123 =>
(call (.func 119) [ah (ae r19.2.1 0)] st123).bind fun r127 =>
aK r127 (fun p128 st129 =>
(av (ae r19.2.1 3) 43).bind fun p133 =>
(au st.stk.length 9 p133 p128 st129).bind fun st134 =>
some (Ex.normal, [(ae r19.2.1 0), (ae r19.2.1 1), (ae r19.2.1 3)], st134)) (fun t130 x131 st132 =>
some ((Ex.pan t130 x131), [(ae r19.2.1 0), (ae r19.2.1 1), (ae r19.2.1 3)], st132))) (fun t124 x125 st126 =>
some ((Ex.pan t124 x125), [(ae r19.2.1 0), (ae r19.2.1 1), (ae r19.2.1 3)], st126))) (fun t114 x115 st116 =>
some ((Ex.pan t114 x115), [(ae r19.2.1 0), (ae r19.2.1 1), (ae r19.2.1 3)], st116))
else
(call (.func 40) [ah (ae r19.2.1 0), ah (PV.v (.string ⟨#[112, 114, 105, 110, 116]⟩))] r108.2).bind fun r135 =>
aD r135.1 fun b136 => (bif b136 then
(call (.func 119) [ah (ae r19.2.1 0)] r135.2).bind fun r138 =>
aK r138 (fun p139 st140 =>
(av (ae r19.2.1 3) 0).bind fun p144 =>
(au st.stk.length 1 p144 (PV.v (.int .i64 5)) st140).bind fun st145 =>
(av (ae r19.2.1 3) 43).bind fun p146 =>
(au st.stk.length 9 p146 p139 st145).bind fun st147 =>
some (Ex.normal, [(ae r19.2.1 0), (ae r19.2.1 1), (ae r19.2.1 3)], st147)) (fun t141 x142 st143 =>
some ((Ex.pan t141 x142), [(ae r19.2.1 0), (ae r19.2.1 1), (ae r19.2.1 3)], st143))
else
(call (.func 40) [ah (ae r19.2.1 0), ah (PV.v (.string ⟨#[98, 114, 101, 97, 107]⟩))] r135.2).bind fun r148 =>
aD r148.1 fun b149 => (bif b149 then
(call (.func 120) [ah (ae r19.2.1 0)] r148.2).bind fun r151 =>
(av (ae r19.2.1 3) 0).bind fun p152 =>
(au st.stk.length 1 p152 (PV.v (.int .i64 8)) r151.2).bind fun st153 =>
(av (ae r19.2.1 3) 1).bind fun p154 =>
(au st.stk.length 1 p154 r151.1 st153).bind fun st155 =>
some (Ex.normal, [(ae r19.2.1 0), (ae r19.2.1 1), (ae r19.2.1 3)], st155)
else
(call (.func 40) [ah (ae r19.2.1 0), ah (PV.v (.string ⟨#[99, 111, 110, 116, 105, 110, 117, 101]⟩))] r148.2).bind fun r156 =>
aD r156.1 fun b157 => (bif b157 then
(call (.func 120) [ah (ae r19.2.1 0)] r156.2).bind fun r159 =>
(av (ae r19.2.1 3) 0).bind fun p160 =>
(au st.stk.length 1 p160 (PV.v (.int .i64 9)) r159.2).bind fun st161 =>
(av (ae r19.2.1 3) 1).bind fun p162 =>
(au st.stk.length 1 p162 r159.1 st161).bind fun st163 =>
some (Ex.normal, [(ae r19.2.1 0), (ae r19.2.1 1), (ae r19.2.1 3)], st163)
else
(call (.func 40) [ah (ae r19.2.1 0), ah (PV.v (.string ⟨#[99, 97, 108, 108]⟩))] r156.2).bind fun r164 =>
aD r164.1 fun b165 => (bif b165 then
(call (.func 79) [ah (ae r19.2.1 0), ah (PV.v (.int .i64 1))] r164.2).bind fun r167 =>
aK r167 (fun p168 st169 =>
(fS Tryd.prog 122 p168 1).bind fun p173 =>
(av (ae r19.2.1 3) 0).bind fun p174 =>
(au st.stk.length 1 p174 (PV.v (.int .i64 11)) st169).bind fun st175 =>
(av (ae r19.2.1 3) 1).bind fun p176 =>
(au st.stk.length 1 p176 p173 st175).bind fun st177 =>
(call (.func 121) [ah (ae r19.2.1 0)] st177).bind fun r178 =>
aK r178 (fun p179 st180 =>
(av (ae r19.2.1 3) 53).bind fun p184 =>
(au st.stk.length 1 p184 p179 st180).bind fun st185 =>
some (Ex.normal, [(ae r19.2.1 0), (ae r19.2.1 1), (ae r19.2.1 3)], st185)) (fun t181 x182 st183 =>
some ((Ex.pan t181 x182), [(ae r19.2.1 0), (ae r19.2.1 1), (ae r19.2.1 3)], st183))) (fun t170 x171 st172 =>
some ((Ex.pan t170 x171), [(ae r19.2.1 0), (ae r19.2.1 1), (ae r19.2.1 3)], st172))
else
(al true 5 (ae r19.2.1 2) r164.2).bind fun p186 =>
(call (.func 46) [ah (ae r19.2.1 0), ah (PV.v (.int .i64 4)), ah p186] r164.2).bind fun r187 =>
aK r187 (fun p188 st189 =>
some (Ex.normal, [(ae r19.2.1 0), (ae r19.2.1 1), (ae r19.2.1 3)], st189)) (fun t190 x191 st192 =>
some ((Ex.pan t190 x191), [(ae r19.2.1 0), (ae r19.2.1 1), (ae r19.2.1 3)], st192))).bind fun r166 =>
some (r166.1, [(ae r166.2.1 0), (ae r166.2.1 1), (ae r166.2.1 2)], r166.2.2)).bind fun r158 =>
some (r158.1, [(ae r158.2.1 0), (ae r158.2.1 1), (ae r158.2.1 2)], r158.2.2)).bind fun r150 =>
some (r150.1, [(ae r150.2.1 0), (ae r150.2.1 1), (ae r150.2.1 2)], r150.2.2)).bind fun r137 =>
some (r137.1, [(ae r137.2.1 0), (ae r137.2.1 1), (ae r137.2.1 2)], r137.2.2)).bind fun r110 =>
some (r110.1, [(ae r110.2.1 0), (ae r110.2.1 1), (ae r110.2.1 2)], r110.2.2)).bind fun r74 =>
some (r74.1, [(ae r74.2.1 0), (ae r74.2.1 1), (ae r74.2.1 2)], r74.2.2)).bind fun r53 =>
some (r53.1, [(ae r53.2.1 0), (ae r53.2.1 1), (ae r53.2.1 2)], r53.2.2)).bind fun r42 =>
some (r42.1, [(ae r42.2.1 0), (ae r42.2.1 1), (ae r42.2.1 2)], r42.2.2)).bind fun r31 =>
cd (Ex.bf 0 r31.1) ((call (.func 43) [ah (ae r31.2.1 0), ah (PV.v (.string ⟨#[59]⟩))] r31.2.2).bind fun r194 =>
aK r194 (fun p195 st196 =>
(al true 58 (ae r31.2.1 2) st196).bind fun p200 =>
(au st.stk.length 58 (ae r31.2.1 1) p200 st196).bind fun st201 =>
(al true 58 (ae r31.2.1 1) st201).bind fun p202 =>
fin st.stk.length st.tk.length st.lp.length [p202] st201) (fun t197 x198 st199 =>
some (PV.pan t197 x198, st199.back st.stk.length st.tk.length st.lp.length))) fun x193 =>
fv st.stk.length st.tk.length st.lp.length x193 r31.2.2 ((al true 58 (ae r31.2.1 1) r31.2.2).bind fun p203 =>
fin st.stk.length st.tk.length st.lp.length [p203] r31.2.2)) fun x28 =>
fv st.stk.length st.tk.length st.lp.length x28 r19.2.2 ((al true 58 (ae r19.2.1 1) r19.2.2).bind fun p204 =>
fin st.stk.length st.tk.length st.lp.length [p204] r19.2.2)
theorem dM (a0 : PV) (st : St) : E L (.func 82) [a0] st = S82 (E L) itE a0 st := (bJ (by kernel_rfl) Tryd.func82 _ _).trans (by kernel_rfl)
noncomputable def S45.b0 (call : bG) (it : bO) (base lb : Nat) (vs14 : List PV) (st15 : St) : Option (Ex × List PV × St) :=
(call (.func 40) [ah (ae vs14 0), ah (PV.v (.string ⟨#[125]⟩))] st15).bind fun r16 =>
(aUn Tryd.prog .not r16.1).bind fun p17 =>
aD p17 fun b18 => (bif b18 then
some (Ex.normal, [(ae vs14 0), (ae vs14 1)], r16.2)
else
some ((Ex.exit 0), [(ae vs14 0), (ae vs14 1)], r16.2)).bind fun r19 =>
cd r19.1 ((call (.func 82) [ah (ae r19.2.1 0)] r19.2.2).bind fun r21 =>
aK r21 (fun p22 st23 =>
(bj 58 [.v (.int .i64 0), .v (.string ⟨#[]⟩), .v (.int .i64 0), .v (.int .i64 0), .v (.int .i64 0), .v (.int .u64 0), .v (.int .i64 0), .v (.string ⟨#[]⟩), .v (.string ⟨#[]⟩), .sl [] .nil, .v (.int .i64 0), .v (.int .i64 0), .v (.int .i64 0), .v (.string ⟨#[]⟩), .v (.string ⟨#[]⟩), .v (.int .i64 0), .v (.int .i64 0), .v (.int .u64 0), .v (.int .i64 0), .v (.string ⟨#[]⟩), .v (.string ⟨#[]⟩), .sl [] .nil, .v (.int .i64 0), .v (.int .i64 0), .v (.int .i64 0), .v (.int .i64 0), .v (.string ⟨#[]⟩), .v (.int .i64 0), .v (.int .i64 0), .v (.int .i64 0), .v (.string ⟨#[]⟩), .v (.string ⟨#[]⟩), .v (.int .i64 0), .v (.int .i64 0), .v (.int .u64 0), .v (.int .i64 0), .v (.string ⟨#[]⟩), .v (.string ⟨#[]⟩), .sl [] .nil, .v (.int .i64 0), .v (.int .i64 0), .v (.int .i64 0), .v (.int .i64 0), .v (.int .i64 0), .v (.int .i64 0), .v (.int .u64 0), .v (.int .i64 0), .v (.string ⟨#[]⟩), .v (.string ⟨#[]⟩), .sl [] .nil, .v (.int .i64 0), .v (.int .i64 0), .v (.int .i64 0), .sl [] .nil, .sl [] .nil, .sl [] .nil, .v (.int .i64 0), .v (.int .i64 0)] 1 [(0, p22)]).bind fun p27 =>
(cw st23 p27).bind fun ys28 =>
(ej base [.v (.int .i64 0), .v (.string ⟨#[]⟩), .v (.int .i64 0), .v (.int .i64 0), .v (.int .i64 0), .v (.int .u64 0), .v (.int .i64 0), .v (.string ⟨#[]⟩), .v (.string ⟨#[]⟩), .sl [] .nil, .v (.int .i64 0), .v (.int .i64 0), .v (.int .i64 0), .v (.string ⟨#[]⟩), .v (.string ⟨#[]⟩), .v (.int .i64 0), .v (.int .i64 0), .v (.int .u64 0), .v (.int .i64 0), .v (.string ⟨#[]⟩), .v (.string ⟨#[]⟩), .sl [] .nil, .v (.int .i64 0), .v (.int .i64 0), .v (.int .i64 0), .v (.int .i64 0), .v (.string ⟨#[]⟩), .v (.int .i64 0), .v (.int .i64 0), .v (.int .i64 0), .v (.string ⟨#[]⟩), .v (.string ⟨#[]⟩), .v (.int .i64 0), .v (.int .i64 0), .v (.int .u64 0), .v (.int .i64 0), .v (.string ⟨#[]⟩), .v (.string ⟨#[]⟩), .sl [] .nil, .v (.int .i64 0), .v (.int .i64 0), .v (.int .i64 0), .v (.int .i64 0), .v (.int .i64 0), .v (.int .i64 0), .v (.int .u64 0), .v (.int .i64 0), .v (.string ⟨#[]⟩), .v (.string ⟨#[]⟩), .sl [] .nil, .v (.int .i64 0), .v (.int .i64 0), .v (.int .i64 0), .sl [] .nil, .sl [] .nil, .sl [] .nil, .v (.int .i64 0), .v (.int .i64 0)] 58 688 (ae r19.2.1 1) ys28 st23).bind fun r29 =>
some (Ex.normal, [(ae r19.2.1 0), r29.1], r29.2)) (fun t24 x25 st26 =>
some ((Ex.pan t24 x25), [(ae r19.2.1 0), (ae r19.2.1 1)], st26))) fun x20 =>
some (x20, [(ae r19.2.1 0), (ae r19.2.1 1)], r19.2.2)
noncomputable def S45 (call : bG) (it : bO) (a0 : PV) (st : St) : Option (PV × St) :=
(call (.func 43) [ah a0, ah (PV.v (.string ⟨#[123]⟩))] st).bind fun r1 =>
aK r1 (fun p2 st3 =>
(call (.func 81) [ah a0, ah p2] st3).bind fun r7 =>
aK r7 (fun p8 st9 =>
(it (S45.b0 call it st.stk.length st.lp.length) [a0, (PV.sl [] .nil)] st9).bind fun r13 =>
cd (Ex.bf 0 r13.1) ((aE (ae r13.2.1 0)).bind fun p31 =>
(av p31 2).bind fun p32 =>
(al false 1 p32 r13.2.2).bind fun p33 =>
(aT Tryd.prog true .sub 3 p33 (PV.v (.int .i64 1))).bind fun p34 =>
(aE (ae r13.2.1 0)).bind fun p35 =>
(av p35 2).bind fun p36 =>
(au st.stk.length 1 p36 p34 r13.2.2).bind fun st37 =>
fin st.stk.length st.tk.length st.lp.length [(ae r13.2.1 1)] st37) fun x30 =>
fv st.stk.length st.tk.length st.lp.length x30 r13.2.2 (fin st.stk.length st.tk.length st.lp.length [PV.u] r13.2.2)) (fun t10 x11 st12 =>
some (PV.pan t10 x11, st12.back st.stk.length st.tk.length st.lp.length))) (fun t4 x5 st6 =>
some (PV.pan t4 x5, st6.back st.stk.length st.tk.length st.lp.length))
theorem sH (a0 : PV) (st : St) : E L (.func 45) [a0] st = S45 (E L) itE a0 st := (bJ (by kernel_rfl) Tryd.func45 _ _).trans (by kernel_rfl)
noncomputable def S44.b0 (call : bG) (it : bO) (base lb : Nat) (vs33 : List PV) (st34 : St) : Option (Ex × List PV × St) :=
(av (ae vs33 2) 1).bind fun p35 =>
(al false 1 p35 st34).bind fun p36 =>
bM (st34 = st34) <|
(call (.func 42) [ah (ae vs33 0)] st34).bind fun r37 =>
aK r37 (fun p38 st39 =>
bM (((al false 1 p35 st39).bind fun p43 =>
some (Rs.ret p43, st39)) = some (Rs.ret p36, st39)) <|
(bj 5 [.v (.string ⟨#[]⟩), .v (.int .i64 0), .v (.string ⟨#[]⟩), .v (.int .i64 0), .v (.int .i64 0)] 1 [(0, p38)]).bind fun p44 =>
(cw st39 p44).bind fun ys45 =>
(ej base [.v (.string ⟨#[]⟩), .v (.int .i64 0), .v (.string ⟨#[]⟩), .v (.int .i64 0), .v (.int .i64 0)] 5 56 p36 ys45 st39).bind fun r46 =>
(av (ae vs33 2) 1).bind fun p47 =>
(au base 1 p47 r46.1 r46.2).bind fun st48 =>
(call (.func 40) [ah (ae vs33 0), ah (PV.v (.string ⟨#[41]⟩))] st48).bind fun r49 =>
aD r49.1 fun b50 => (bif b50 then
some ((Ex.exit 0), [(ae vs33 0), (ae vs33 1), (ae vs33 2)], r49.2)
else
some (Ex.normal, [(ae vs33 0), (ae vs33 1), (ae vs33 2)], r49.2)).bind fun r51 =>
cd r51.1 ((call (.func 43) [ah (ae r51.2.1 0), ah (PV.v (.string ⟨#[44]⟩))] r51.2.2).bind fun r53 =>
aK r53 (fun p54 st55 =>
some (Ex.normal, [(ae r51.2.1 0), (ae r51.2.1 1), (ae r51.2.1 2)], st55)) (fun t56 x57 st58 =>
some ((Ex.pan t56 x57), [(ae r51.2.1 0), (ae r51.2.1 1), (ae r51.2.1 2)], st58))) fun x52 =>
some ((Ex.bf 1 x52), [(ae r51.2.1 0), (ae r51.2.1 1), (ae r51.2.1 2)], r51.2.2)) (fun t40 x41 st42 =>
some ((Ex.pan t40 x41), [(ae vs33 0), (ae vs33 1), (ae vs33 2)], st42))
noncomputable def S44 (call : bG) (it : bO) (a0 : PV) (st : St) : Option (PV × St) :=
let q2 : PV := .ptr false st.stk.length 0
let st1 := st.push [.v (.string ⟨#[]⟩), .sl [] .nil, .sl [] .nil, .v (.int .i64 0), .v (.int .i64 0)]
(call (.func 79) [ah a0, ah (PV.v (.int .i64 1))] st1).bind fun r3 =>
aK r3 (fun p4 st5 =>
let q10 : PV := .ptr false st5.stk.length 0
let st9 := st5.push [.v (.int .i64 0), .v (.string ⟨#[]⟩), .v (.int .u64 0), .v (.int .i64 0), .v (.int .i64 0)]
(au st.stk.length 5 q10 p4 st9).bind fun st11 =>
(av q10 1).bind fun p12 =>
(al false 1 p12 st11).bind fun p13 =>
(av q10 3).bind fun p14 =>
(al false 1 p14 st11).bind fun p15 =>
(av q10 4).bind fun p16 =>
(al false 1 p16 st11).bind fun p17 =>
(aX [(0, 1), (1, 1), (2, 1), (3, 1), (4, 1)] [.v (.string ⟨#[]⟩), .sl [] .nil, .sl [] .nil, .v (.int .i64 0), .v (.int .i64 0)] [(0, p13), (3, p15), (4, p17)]).bind fun p18 =>
let q20 : PV := .ptr false st11.stk.length 0
let st19 := st11.push [.v (.string ⟨#[]⟩), .sl [] .nil, .sl [] .nil, .v (.int .i64 0), .v (.int .i64 0)]
(au st.stk.length 5 q20 p18 st19).bind fun st21 =>
(call (.func 43) [ah a0, ah (PV.v (.string ⟨#[40]⟩))] st21).bind fun r22 =>
aK r22 (fun p23 st24 =>
(call (.func 40) [ah a0, ah (PV.v (.string ⟨#[41]⟩))] st24).bind fun r28 =>
(aUn Tryd.prog .not r28.1).bind fun p29 =>
aD p29 fun b30 => (bif b30 then
(it (S44.b0 call it st.stk.length st.lp.length) [a0, q2, q20] r28.2).bind fun r32 =>
some ((Ex.bf 0 r32.1), [(ae r32.2.1 0), (ae r32.2.1 1), (ae r32.2.1 2)], r32.2.2)
else
some (Ex.normal, [a0, q2, q20], r28.2)).bind fun r31 =>
cd r31.1 ((call (.func 45) [ah (ae r31.2.1 0)] r31.2.2).bind fun r60 =>
aK r60 (fun p61 st62 =>
(av (ae r31.2.1 2) 2).bind fun p66 =>
(au st.stk.length 1 p66 p61 st62).bind fun st67 =>
(al true 5 (ae r31.2.1 2) st67).bind fun p68 =>
(au st.stk.length 5 (ae r31.2.1 1) p68 st67).bind fun st69 =>
(al true 5 (ae r31.2.1 1) st69).bind fun p70 =>
fin st.stk.length st.tk.length st.lp.length [p70] st69) (fun t63 x64 st65 =>
some (PV.pan t63 x64, st65.back st.stk.length st.tk.length st.lp.length))) fun x59 =>
fv st.stk.length st.tk.length st.lp.length x59 r31.2.2 ((al true 5 (ae r31.2.1 1) r31.2.2).bind fun p71 =>
fin st.stk.length st.tk.length st.lp.length [p71] r31.2.2)) (fun t25 x26 st27 =>
some (PV.pan t25 x26, st27.back st.stk.length st.tk.length st.lp.length))) (fun t6 x7 st8 =>
some (PV.pan t6 x7, st8.back st.stk.length st.tk.length st.lp.length))
theorem mU (a0 : PV) (st : St) : E L (.func 44) [a0] st = S44 (E L) itE a0 st := (bJ (by kernel_rfl) Tryd.func44 _ _).trans (by kernel_rfl)
noncomputable def S26.b0 (call : bG) (it : bO) (base lb : Nat) (vs6 : List PV) (st7 : St) : Option (Ex × List PV × St) :=
(call (.func 39) [ah (ae vs6 0)] st7).bind fun r8 =>
let q10 : PV := .ptr false r8.2.stk.length 0
let st9 := r8.2.push [.v (.int .i64 0), .v (.string ⟨#[]⟩), .v (.int .u64 0), .v (.int .i64 0), .v (.int .i64 0)]
(au base 5 q10 r8.1 st9).bind fun st11 =>
(av q10 0).bind fun p12 =>
(al false 1 p12 st11).bind fun p13 =>
(aT Tryd.prog true .eql 120 p13 (PV.v (.int .i64 0))).bind fun p14 =>
aD p14 fun b15 => (bif b15 then
(al true 4 (ae vs6 2) st11).bind fun p17 =>
(au base 4 (ae vs6 1) p17 st11).bind fun st18 =>
some (Ex.ret, [(ae vs6 0), (ae vs6 1), (ae vs6 2)], st18)
else
(call (.func 40) [ah (ae vs6 0), ah (PV.v (.string ⟨#[114, 101, 99, 111, 114, 100]⟩))] st11).bind fun r19 =>
aD r19.1 fun b20 => (bif b20 then
(av (ae vs6 2) 0).bind fun p22 =>
(al false 1 p22 r19.2).bind fun p23 =>
bM (r19.2 = r19.2) <|
(call (.func 41) [ah (ae vs6 0)] r19.2).bind fun r24 =>
aK r24 (fun p25 st26 =>
bM (((al false 1 p22 st26).bind fun p30 =>
some (Rs.ret p30, st26)) = some (Rs.ret p23, st26)) <|
(bj 4 [.v (.string ⟨#[]⟩), .sl [] .nil, .v (.int .i64 0), .v (.int .i64 0)] 1 [(0, p25)]).bind fun p31 =>
(cw st26 p31).bind fun ys32 =>
(ej base [.v (.string ⟨#[]⟩), .sl [] .nil, .v (.int .i64 0), .v (.int .i64 0)] 4 56 p23 ys32 st26).bind fun r33 =>
(av (ae vs6 2) 0).bind fun p34 =>
(au base 1 p34 r33.1 r33.2).bind fun st35 =>
some (Ex.normal, [(ae vs6 0), (ae vs6 1), (ae vs6 2)], st35)) (fun t27 x28 st29 =>
some ((Ex.pan t27 x28), [(ae vs6 0), (ae vs6 1), (ae vs6 2)], st29))
else
(call (.func 40) [ah (ae vs6 0), ah (PV.v (.string ⟨#[103, 108, 111, 98, 97, 108]⟩))] r19.2).bind fun r36 =>
aD r36.1 fun b37 => (bif b37 then
(av (ae vs6 2) 1).bind fun p39 =>
(al false 1 p39 r36.2).bind fun p40 =>
bM (r36.2 = r36.2) <|
(call (.func 42) [ah (ae vs6 0)] r36.2).bind fun r41 =>
aK r41 (fun p42 st43 =>
bM (((al false 1 p39 st43).bind fun p47 =>
some (Rs.ret p47, st43)) = some (Rs.ret p40, st43)) <|
(bj 5 [.v (.string ⟨#[]⟩), .v (.int .i64 0), .v (.string ⟨#[]⟩), .v (.int .i64 0), .v (.int .i64 0)] 1 [(0, p42)]).bind fun p48 =>
(cw st43 p48).bind fun ys49 =>
(ej base [.v (.string ⟨#[]⟩), .v (.int .i64 0), .v (.string ⟨#[]⟩), .v (.int .i64 0), .v (.int .i64 0)] 5 56 p40 ys49 st43).bind fun r50 =>
(av (ae vs6 2) 1).bind fun p51 =>
(au base 1 p51 r50.1 r50.2).bind fun st52 =>
(call (.func 43) [ah (ae vs6 0), ah (PV.v (.string ⟨#[59]⟩))] st52).bind fun r53 =>
aK r53 (fun p54 st55 =>
some (Ex.normal, [(ae vs6 0), (ae vs6 1), (ae vs6 2)], st55)) (fun t56 x57 st58 =>
some ((Ex.pan t56 x57), [(ae vs6 0), (ae vs6 1), (ae vs6 2)], st58))) (fun t44 x45 st46 =>
some ((Ex.pan t44 x45), [(ae vs6 0), (ae vs6 1), (ae vs6 2)], st46))
else
(call (.func 40) [ah (ae vs6 0), ah (PV.v (.string ⟨#[102, 117, 110]⟩))] r36.2).bind fun r59 =>
aD r59.1 fun b60 => (bif b60 then
(av (ae vs6 2) 2).bind fun p62 =>
(al false 1 p62 r59.2).bind fun p63 =>
bM (r59.2 = r59.2) <|
(call (.func 44) [ah (ae vs6 0)] r59.2).bind fun r64 =>
aK r64 (fun p65 st66 =>
bM (((al false 1 p62 st66).bind fun p70 =>
some (Rs.ret p70, st66)) = some (Rs.ret p63, st66)) <|
(bj 5 [.v (.string ⟨#[]⟩), .sl [] .nil, .sl [] .nil, .v (.int .i64 0), .v (.int .i64 0)] 1 [(0, p65)]).bind fun p71 =>
(cw st66 p71).bind fun ys72 =>
(ej base [.v (.string ⟨#[]⟩), .sl [] .nil, .sl [] .nil, .v (.int .i64 0), .v (.int .i64 0)] 5 80 p63 ys72 st66).bind fun r73 =>
(av (ae vs6 2) 2).bind fun p74 =>
(au base 1 p74 r73.1 r73.2).bind fun st75 =>
some (Ex.normal, [(ae vs6 0), (ae vs6 1), (ae vs6 2)], st75)) (fun t67 x68 st69 =>
some ((Ex.pan t67 x68), [(ae vs6 0), (ae vs6 1), (ae vs6 2)], st69))
else
(call (.func 40) [ah (ae vs6 0), ah (PV.v (.string ⟨#[116, 104, 114, 101, 97, 100]⟩))] r59.2).bind fun r76 =>
aD r76.1 fun b77 => (bif b77 then
(av (ae vs6 2) 3).bind fun p79 =>
(al false 1 p79 r76.2).bind fun p80 =>
bM (r76.2 = r76.2) <|
(call (.func 45) [ah (ae vs6 0)] r76.2).bind fun r81 =>
aK r81 (fun p82 st83 =>
bM (((al false 1 p79 st83).bind fun p87 =>
some (Rs.ret p87, st83)) = some (Rs.ret p80, st83)) <|
(av q10 3).bind fun p88 =>
(al false 1 p88 st83).bind fun p89 =>
bM (st83 = st83) <|
bM (((al false 1 p88 r76.2).bind fun p90 =>
some (Rs.ret p90, r76.2)) = some (Rs.ret p89, r76.2)) <|
(av q10 4).bind fun p91 =>
(al false 1 p91 st83).bind fun p92 =>
bM (st83 = st83) <|
bM (((al false 1 p91 r76.2).bind fun p93 =>
some (Rs.ret p93, r76.2)) = some (Rs.ret p92, r76.2)) <|
(aX [(0, 1), (1, 1), (2, 1)] [.sl [] .nil, .v (.int .i64 0), .v (.int .i64 0)] [(0, p82), (1, p89), (2, p92)]).bind fun p94 =>
(bj 3 [.sl [] .nil, .v (.int .i64 0), .v (.int .i64 0)] 1 [(0, p94)]).bind fun p95 =>
(cw st83 p95).bind fun ys96 =>
(ej base [.sl [] .nil, .v (.int .i64 0), .v (.int .i64 0)] 3 40 p80 ys96 st83).bind fun r97 =>
(av (ae vs6 2) 3).bind fun p98 =>
(au base 1 p98 r97.1 r97.2).bind fun st99 =>
some (Ex.normal, [(ae vs6 0), (ae vs6 1), (ae vs6 2)], st99)) (fun t84 x85 st86 =>
(av q10 3).bind fun p100 =>
(al false 1 p100 r76.2).bind fun p101 =>
bM (r76.2 = r76.2) <|
(av q10 4).bind fun p102 =>
(al false 1 p102 r76.2).bind fun p103 =>
bM (r76.2 = r76.2) <|
some ((Ex.pan t84 x85), [(ae vs6 0), (ae vs6 1), (ae vs6 2)], st86))
else
(al true 5 q10 r76.2).bind fun p104 =>
(call (.func 46) [ah (ae vs6 0), ah (PV.v (.int .i64 4)), ah p104] r76.2).bind fun r105 =>
aK r105 (fun p106 st107 =>
some (Ex.normal, [(ae vs6 0), (ae vs6 1), (ae vs6 2)], st107)) (fun t108 x109 st110 =>
some ((Ex.pan t108 x109), [(ae vs6 0), (ae vs6 1), (ae vs6 2)], st110))).bind fun r78 =>
some (r78.1, [(ae r78.2.1 0), (ae r78.2.1 1), (ae r78.2.1 2)], r78.2.2)).bind fun r61 =>
some (r61.1, [(ae r61.2.1 0), (ae r61.2.1 1), (ae r61.2.1 2)], r61.2.2)).bind fun r38 =>
some (r38.1, [(ae r38.2.1 0), (ae r38.2.1 1), (ae r38.2.1 2)], r38.2.2)).bind fun r21 =>
some (r21.1, [(ae r21.2.1 0), (ae r21.2.1 1), (ae r21.2.1 2)], r21.2.2)).bind fun r16 =>
iy base lb st7.stk.length (Ex.bf 1 (Ex.bf 2 r16.1)) [(ae r16.2.1 0), (ae r16.2.1 1), (ae r16.2.1 2)] r16.2.2
noncomputable def S26 (call : bG) (it : bO) (a0 : PV) (st : St) : Option (PV × St) :=
let q2 : PV := .ptr false st.stk.length 0
let st1 := st.push [.sl [] .nil, .sl [] .nil, .sl [] .nil, .sl [] .nil]
let q4 : PV := .ptr false st1.stk.length 0
let st3 := st1.push [.sl [] .nil, .sl [] .nil, .sl [] .nil, .sl [] .nil]
(it (S26.b0 call it st.stk.length st.lp.length) [a0, q2, q4] st3).bind fun r5 =>
fv st.stk.length st.tk.length st.lp.length (Ex.bf 0 r5.1) r5.2.2 ((al true 4 (ae r5.2.1 1) r5.2.2).bind fun p111 =>
fin st.stk.length st.tk.length st.lp.length [p111] r5.2.2)
theorem y0 (a0 : PV) (st : St) : E L (.func 26) [a0] st = S26 (E L) itE a0 st := (bJ (by kernel_rfl) Tryd.func26 _ _).trans (by kernel_rfl)
noncomputable def S9 (call : bG) (it : bO) (st : St) : Option (PV × St) :=
(call (.func 10) [ah (PV.v (.string ⟨#[116, 104, 114, 101, 97, 100, 32, 123, 32, 112, 114, 105, 110, 116, 32, 49, 32, 43, 32, 50, 32, 42, 32, 51, 59, 32, 125]⟩))] st).bind fun r1 =>
(aV r1.1 0).bind fun p2 =>
(aV r1.1 1).bind fun p3 =>
let q5 : PV := .ptr false r1.2.stk.length 0
let st4 := r1.2.push [.sl [] .nil, .sl [] .nil, .sl [] .nil, .sl [] .nil]
let q7 : PV := .ptr false st4.stk.length 0
let st6 := st4.push [.v (.int .i64 0), .v (.int .i64 0), .v (.int .i64 0)]
(au st.stk.length 4 q5 p2 st6).bind fun st8 =>
(au st.stk.length 3 q7 p3 st8).bind fun st9 =>
(call (.func 10) [ah (PV.v (.string ⟨#[116, 104, 114, 101, 97, 100, 32, 123, 32, 112, 114, 105, 110, 116, 32, 59, 32, 125]⟩))] st9).bind fun r10 =>
(aV r10.1 0).bind fun p11 =>
(aV r10.1 1).bind fun p12 =>
let q14 : PV := .ptr false r10.2.stk.length 0
let st13 := r10.2.push [.sl [] .nil, .sl [] .nil, .sl [] .nil, .sl [] .nil]
let q16 : PV := .ptr false st13.stk.length 0
let st15 := st13.push [.v (.int .i64 0), .v (.int .i64 0), .v (.int .i64 0)]
(au st.stk.length 4 q14 p11 st15).bind fun st17 =>
(au st.stk.length 3 q16 p12 st17).bind fun st18 =>
(al true 3 q7 st18).bind fun p19 =>
(aX [(0, 1), (1, 1), (2, 1)] [.v (.int .i64 0), .v (.int .i64 0), .v (.int .i64 0)] []).bind fun p20 =>
(aT Tryd.prog false .eql 38 p19 p20).bind fun p21 =>
(onG p21 true (
(av q5 3).bind fun p24 =>
some (p24, st18)) st18).bind fun r23 =>
(onG p21 true (
(al false 1 r23.1 r23.2).bind fun p27 =>
some (p27, r23.2)) r23.2).bind fun r26 =>
(onG p21 true (
(jP Tryd.prog 27 r26.1).bind fun p30 =>
some (p30, r26.2)) r26.2).bind fun r29 =>
(onG p21 true (
(aT Tryd.prog true .eql 3 r29.1 (PV.v (.int .i64 1))).bind fun p33 =>
some (p33, r29.2)) r29.2).bind fun r32 =>
(bP p21 r32.1 (PV.v (.bool false))).bind fun p34 =>
(onG p34 true (
(av q5 3).bind fun p37 =>
some (p37, r32.2)) r32.2).bind fun r36 =>
(onG p34 true (
(al false 1 r36.1 r36.2).bind fun p40 =>
some (p40, r36.2)) r36.2).bind fun r39 =>
(onG p34 true (
(cJ Tryd.prog 27 r39.1 (PV.v (.int .i64 0))).bind fun p43 =>
some (p43, r39.2)) r39.2).bind fun r42 =>
(onG p34 true (
(av r42.1 0).bind fun p46 =>
some (p46, r42.2)) r42.2).bind fun r45 =>
(onG p34 true (
(al false 1 r45.1 r45.2).bind fun p49 =>
some (p49, r45.2)) r45.2).bind fun r48 =>
(onG p34 true (
(jP Tryd.prog 32 r48.1).bind fun p52 =>
some (p52, r48.2)) r48.2).bind fun r51 =>
(onG p34 true (
(aT Tryd.prog true .eql 3 r51.1 (PV.v (.int .i64 1))).bind fun p55 =>
some (p55, r51.2)) r51.2).bind fun r54 =>
(bP p34 r54.1 (PV.v (.bool false))).bind fun p56 =>
(onG p56 true (
(av q5 3).bind fun p59 =>
some (p59, r54.2)) r54.2).bind fun r58 =>
(onG p56 true (
(al false 1 r58.1 r58.2).bind fun p62 =>
some (p62, r58.2)) r58.2).bind fun r61 =>
(onG p56 true (
(cJ Tryd.prog 27 r61.1 (PV.v (.int .i64 0))).bind fun p65 =>
some (p65, r61.2)) r61.2).bind fun r64 =>
(onG p56 true (
(av r64.1 0).bind fun p68 =>
some (p68, r64.2)) r64.2).bind fun r67 =>
(onG p56 true (
(al false 1 r67.1 r67.2).bind fun p71 =>
some (p71, r67.2)) r67.2).bind fun r70 =>
(onG p56 true (
(cJ Tryd.prog 32 r70.1 (PV.v (.int .i64 0))).bind fun p74 =>
some (p74, r70.2)) r70.2).bind fun r73 =>
(onG p56 true (
(av r73.1 0).bind fun p77 =>
some (p77, r73.2)) r73.2).bind fun r76 =>
(onG p56 true (
(al false 1 r76.1 r76.2).bind fun p80 =>
some (p80, r76.2)) r76.2).bind fun r79 =>
(onG p56 true (
(aT Tryd.prog true .eql 3 r79.1 (PV.v (.int .i64 5))).bind fun p83 =>
some (p83, r79.2)) r79.2).bind fun r82 =>
(bP p56 r82.1 (PV.v (.bool false))).bind fun p84 =>
(onG p84 true (
(av q5 3).bind fun p87 =>
some (p87, r82.2)) r82.2).bind fun r86 =>
(onG p84 true (
(al false 1 r86.1 r86.2).bind fun p90 =>
some (p90, r86.2)) r86.2).bind fun r89 =>
(onG p84 true (
(cJ Tryd.prog 27 r89.1 (PV.v (.int .i64 0))).bind fun p93 =>
some (p93, r89.2)) r89.2).bind fun r92 =>
(onG p84 true (
(av r92.1 0).bind fun p96 =>
some (p96, r92.2)) r92.2).bind fun r95 =>
(onG p84 true (
(al false 1 r95.1 r95.2).bind fun p99 =>
some (p99, r95.2)) r95.2).bind fun r98 =>
(onG p84 true (
(cJ Tryd.prog 32 r98.1 (PV.v (.int .i64 0))).bind fun p102 =>
some (p102, r98.2)) r98.2).bind fun r101 =>
(onG p84 true (
(av r101.1 43).bind fun p105 =>
some (p105, r101.2)) r101.2).bind fun r104 =>
(onG p84 true (
(av r104.1 6).bind fun p108 =>
some (p108, r104.2)) r104.2).bind fun r107 =>
(onG p84 true (
(al false 1 r107.1 r107.2).bind fun p111 =>
some (p111, r107.2)) r107.2).bind fun r110 =>
(onG p84 true (
(jP Tryd.prog 48 r110.1).bind fun p114 =>
some (p114, r110.2)) r110.2).bind fun r113 =>
(onG p84 true (
(aT Tryd.prog true .eql 3 r113.1 (PV.v (.int .i64 2))).bind fun p117 =>
some (p117, r113.2)) r113.2).bind fun r116 =>
(bP p84 r116.1 (PV.v (.bool false))).bind fun p118 =>
(onG p118 true (
(av q5 3).bind fun p121 =>
some (p121, r116.2)) r116.2).bind fun r120 =>
(onG p118 true (
(al false 1 r120.1 r120.2).bind fun p124 =>
some (p124, r120.2)) r120.2).bind fun r123 =>
(onG p118 true (
(cJ Tryd.prog 27 r123.1 (PV.v (.int .i64 0))).bind fun p127 =>
some (p127, r123.2)) r123.2).bind fun r126 =>
(onG p118 true (
(av r126.1 0).bind fun p130 =>
some (p130, r126.2)) r126.2).bind fun r129 =>
(onG p118 true (
(al false 1 r129.1 r129.2).bind fun p133 =>
some (p133, r129.2)) r129.2).bind fun r132 =>
(onG p118 true (
(cJ Tryd.prog 32 r132.1 (PV.v (.int .i64 0))).bind fun p136 =>
some (p136, r132.2)) r132.2).bind fun r135 =>
(onG p118 true (
(av r135.1 43).bind fun p139 =>
some (p139, r135.2)) r135.2).bind fun r138 =>
(onG p118 true (
(av r138.1 6).bind fun p142 =>
some (p142, r138.2)) r138.2).bind fun r141 =>
(onG p118 true (
(al false 1 r141.1 r141.2).bind fun p145 =>
some (p145, r141.2)) r141.2).bind fun r144 =>
(onG p118 true (
(cJ Tryd.prog 48 r144.1 (PV.v (.int .i64 1))).bind fun p148 =>
some (p148, r144.2)) r144.2).bind fun r147 =>
(onG p118 true (
(av r147.1 1).bind fun p151 =>
some (p151, r147.2)) r147.2).bind fun r150 =>
(onG p118 true (
(al false 1 r150.1 r150.2).bind fun p154 =>
some (p154, r150.2)) r150.2).bind fun r153 =>
(onG p118 true (
(aT Tryd.prog true .eql 3 r153.1 (PV.v (.int .i64 2))).bind fun p157 =>
some (p157, r153.2)) r153.2).bind fun r156 =>
(bP p118 r156.1 (PV.v (.bool false))).bind fun p158 =>
(onG p158 true (
(al true 3 q16 r156.2).bind fun p161 =>
some (p161, r156.2)) r156.2).bind fun r160 =>
(onG p158 true (
(aX [(0, 1), (1, 1), (2, 1)] [.v (.int .i64 0), .v (.int .i64 0), .v (.int .i64 0)] [(0, (PV.v (.int .i64 4))), (1, (PV.v (.int .i64 1))), (2, (PV.v (.int .i64 16)))]).bind fun p164 =>
some (p164, r160.2)) r160.2).bind fun r163 =>
(onG p158 true (
(aT Tryd.prog false .eql 38 r160.1 r163.1).bind fun p167 =>
some (p167, r163.2)) r163.2).bind fun r166 =>
(bP p158 r166.1 (PV.v (.bool false))).bind fun p168 =>
fin st.stk.length st.tk.length st.lp.length [p168] r166.2
theorem DN (st : St) : E L (.func 9) [] st = S9 (E L) itE st := (bJ (by kernel_rfl) Tryd.func9 _ _).trans (by kernel_rfl)
noncomputable def S4.b0 (call : bG) (it : bO) (base lb : Nat) (vs25 : List PV) (st26 : St) : Option (Ex × List PV × St) :=
(aT Tryd.prog false .lss 3 (ae vs25 7) (ae vs25 0)).bind fun p27 =>
aD p27 fun b28 => (bif b28 then
some (Ex.normal, [(ae vs25 0), (ae vs25 1), (ae vs25 2), (ae vs25 3), (ae vs25 4), (ae vs25 5), (ae vs25 6), (ae vs25 7)], st26)
else
some ((Ex.exit 0), [(ae vs25 0), (ae vs25 1), (ae vs25 2), (ae vs25 3), (ae vs25 4), (ae vs25 5), (ae vs25 6), (ae vs25 7)], st26)).bind fun r29 =>
cd r29.1 ((aT Tryd.prog false .add 9 (ae r29.2.1 5) (ae r29.2.1 3)).bind fun p31 =>
(aT Tryd.prog false .add 9 (ae r29.2.1 6) (ae r29.2.1 4)).bind fun p32 =>
(aT Tryd.prog true .add 3 (ae r29.2.1 7) (PV.v (.int .i64 1))).bind fun p33 =>
some (Ex.normal, [(ae r29.2.1 0), (ae r29.2.1 1), (ae r29.2.1 2), (ae r29.2.1 3), (ae r29.2.1 4), p31, p32, p33], r29.2.2)) fun x30 =>
some (x30, [(ae r29.2.1 0), (ae r29.2.1 1), (ae r29.2.1 2), (ae r29.2.1 3), (ae r29.2.1 4), (ae r29.2.1 5), (ae r29.2.1 6), (ae r29.2.1 7)], r29.2.2)
noncomputable def S4 (call : bG) (it : bO) (a0 a1 : PV) (st : St) : Option (PV × St) :=
(call (.func 9) [] st).bind fun r1 =>
(aUn Tryd.prog .not r1.1).bind fun p2 =>
aD p2 fun b3 => (bif b3 then
some (Ex.ret, [a0, a1, (PV.v (.bool false))], r1.2)
else
some (Ex.normal, [a0, a1, (PV.v (.bool false))], r1.2)).bind fun r4 =>
cd r4.1 ((aT Tryd.prog true .lss 3 (ae r4.2.1 0) (PV.v (.int .i64 0))).bind fun p6 =>
(onG p6 false (
some ((ae r4.2.1 0), r4.2.2)) r4.2.2).bind fun r8 =>
(onG p6 false (
(aT Tryd.prog true .gtr 3 r8.1 (PV.v (.int .i64 100))).bind fun p11 =>
some (p11, r8.2)) r8.2).bind fun r10 =>
(bP p6 (PV.v (.bool true)) r10.1).bind fun p12 =>
aD p12 fun b13 => (bif b13 then
some (Ex.ret, [(ae r4.2.1 0), (ae r4.2.1 1), (PV.v (.bool true))], r10.2)
else
some (Ex.normal, [(ae r4.2.1 0), (ae r4.2.1 1), (ae r4.2.1 2)], r10.2)).bind fun r14 =>
cd r14.1 ((aT Tryd.prog true .eql 3 (ae r14.2.1 1) (PV.v (.int .i64 1))).bind fun p16 =>
aD p16 fun b17 => (bif b17 then
some (Ex.normal, [(ae r14.2.1 0), (ae r14.2.1 1), (ae r14.2.1 2), (PV.v (.string ⟨#[45]⟩)), (PV.v (.string ⟨#[]⟩))], r14.2.2)
else
some (Ex.normal, [(ae r14.2.1 0), (ae r14.2.1 1), (ae r14.2.1 2), (PV.v (.string ⟨#[40]⟩)), (PV.v (.string ⟨#[41]⟩))], r14.2.2)).bind fun r18 =>
cd r18.1 ((aT Tryd.prog true .eql 3 (ae r18.2.1 1) (PV.v (.int .i64 2))).bind fun p20 =>
aD p20 fun b21 => (bif b21 then
some (Ex.normal, [(ae r18.2.1 0), (ae r18.2.1 1), (ae r18.2.1 2), (PV.v (.string ⟨#[97, 116, 111, 109, 105, 99, 32, 123]⟩)), (PV.v (.string ⟨#[125]⟩))], r18.2.2)
else
some (Ex.normal, [(ae r18.2.1 0), (ae r18.2.1 1), (ae r18.2.1 2), (ae r18.2.1 3), (ae r18.2.1 4)], r18.2.2)).bind fun r22 =>
cd r22.1 ((it (S4.b0 call it st.stk.length st.lp.length) [(ae r22.2.1 0), (ae r22.2.1 1), (ae r22.2.1 2), (ae r22.2.1 3), (ae r22.2.1 4), (PV.v (.string ⟨#[]⟩)), (PV.v (.string ⟨#[]⟩)), (PV.v (.int .i64 0))] r22.2.2).bind fun r24 =>
cd (Ex.bf 0 r24.1) ((aT Tryd.prog true .add 9 (PV.v (.string ⟨#[116, 104, 114, 101, 97, 100, 32, 123]⟩)) (ae r24.2.1 5)).bind fun p35 =>
(aT Tryd.prog false .add 9 p35 (ae r24.2.1 6)).bind fun p36 =>
(aT Tryd.prog true .add 9 p36 (PV.v (.string ⟨#[125]⟩))).bind fun p37 =>
(aT Tryd.prog true .neq 3 (ae r24.2.1 1) (PV.v (.int .i64 2))).bind fun p38 =>
aD p38 fun b39 => (bif b39 then
(aT Tryd.prog true .add 9 (PV.v (.string ⟨#[116, 104, 114, 101, 97, 100, 32, 123, 32, 112, 114, 105, 110, 116, 32]⟩)) (ae r24.2.1 5)).bind fun p41 =>
(aT Tryd.prog true .add 9 p41 (PV.v (.string ⟨#[49]⟩))).bind fun p42 =>
(aT Tryd.prog false .add 9 p42 (ae r24.2.1 6)).bind fun p43 =>
(aT Tryd.prog true .add 9 p43 (PV.v (.string ⟨#[59, 32, 125]⟩))).bind fun p44 =>
some (Ex.normal, [(ae r24.2.1 0), (ae r24.2.1 2), p44, (PV.v (.int .i64 27))], r24.2.2)
else
some (Ex.normal, [(ae r24.2.1 0), (ae r24.2.1 2), p37, (PV.v (.int .i64 104))], r24.2.2)).bind fun r40 =>
cd r40.1 ((call (.func 10) [ah (ae r40.2.1 2)] r40.2.2).bind fun r46 =>
(aV r46.1 0).bind fun p47 =>
(aV r46.1 1).bind fun p48 =>
let q50 : PV := .ptr false r46.2.stk.length 0
let st49 := r46.2.push [.sl [] .nil, .sl [] .nil, .sl [] .nil, .sl [] .nil]
let q52 : PV := .ptr false st49.stk.length 0
let st51 := st49.push [.v (.int .i64 0), .v (.int .i64 0), .v (.int .i64 0)]
(au st.stk.length 4 q50 p47 st51).bind fun st53 =>
(au st.stk.length 3 q52 p48 st53).bind fun st54 =>
(aT Tryd.prog true .leq 3 (ae r40.2.1 0) (PV.v (.int .i64 11))).bind fun p55 =>
aD p55 fun b56 => (bif b56 then
(al true 3 q52 st54).bind fun p58 =>
(aX [(0, 1), (1, 1), (2, 1)] [.v (.int .i64 0), .v (.int .i64 0), .v (.int .i64 0)] []).bind fun p59 =>
(aT Tryd.prog false .eql 38 p58 p59).bind fun p60 =>
some (Ex.ret, [p60, (ae r40.2.1 3), q52], st54)
else
some (Ex.normal, [(ae r40.2.1 1), (ae r40.2.1 3), q52], st54)).bind fun r57 =>
cd r57.1 ((al true 3 (ae r57.2.1 2) r57.2.2).bind fun p62 =>
(aX [(0, 1), (1, 1), (2, 1)] [.v (.int .i64 0), .v (.int .i64 0), .v (.int .i64 0)] [(0, (PV.v (.int .i64 10))), (1, (PV.v (.int .i64 1))), (2, (ae r57.2.1 1))]).bind fun p63 =>
(aT Tryd.prog false .eql 38 p62 p63).bind fun p64 =>
fin st.stk.length st.tk.length st.lp.length [p64] r57.2.2) fun x61 =>
ep x61 (fin st.stk.length st.tk.length st.lp.length [(ae r57.2.1 0)] r57.2.2)) fun x45 =>
ep x45 (fin st.stk.length st.tk.length st.lp.length [(ae r40.2.1 1)] r40.2.2)) fun x34 =>
ep x34 (fin st.stk.length st.tk.length st.lp.length [(ae r24.2.1 2)] r24.2.2)) fun x23 =>
ep x23 (fin st.stk.length st.tk.length st.lp.length [(ae r22.2.1 2)] r22.2.2)) fun x19 =>
ep x19 (fin st.stk.length st.tk.length st.lp.length [(ae r18.2.1 2)] r18.2.2)) fun x15 =>
ep x15 (fin st.stk.length st.tk.length st.lp.length [(ae r14.2.1 2)] r14.2.2)) fun x5 =>
ep x5 (fin st.stk.length st.tk.length st.lp.length [(ae r4.2.1 2)] r4.2.2)
theorem wH (a0 a1 : PV) (st : St) : E L (.func 4) [a0, a1] st = S4 (E L) itE a0 a1 st := (bJ (by kernel_rfl) Tryd.func4 _ _).trans (by kernel_rfl)
noncomputable def S71 (call : bG) (it : bO) (a0 : PV) (st : St) : Option (PV × St) :=
(aT Tryd.prog true .neq 21 a0 (PV.v (.int .i32 10))).bind fun p1 =>
fin st.stk.length st.tk.length st.lp.length [p1] st
theorem C3 (a0 : PV) (st : St) : E L (.func 71) [a0] st = S71 (E L) itE a0 st := (bJ (by kernel_rfl) Tryd.func71 _ _).trans (by kernel_rfl)
noncomputable def DJ (call : bG) (it : bO) (a0 : PV) (st : St) : Option (PV × St) :=
(call (.func 73) [ah a0] st).bind fun r1 =>
(onG r1.1 false (
some (a0, r1.2)) r1.2).bind fun r3 =>
(onG r1.1 false (
(call (.func 74) [ah r3.1] r3.2).bind fun r6 =>
some (r6.1, r6.2)) r3.2).bind fun r5 =>
(bP r1.1 (PV.v (.bool true)) r5.1).bind fun p7 =>
fin st.stk.length st.tk.length st.lp.length [p7] r5.2
theorem AY (a0 : PV) (st : St) : E L (.func 107) [a0] st = DJ (E L) itE a0 st := (bJ (by kernel_rfl) Tryd.func107 _ _).trans (by kernel_rfl)
noncomputable def DL (call : bG) (it : bO) (a0 : PV) (st : St) : Option (PV × St) :=
(call (.func 73) [ah a0] st).bind fun r1 =>
(onG r1.1 false (
some (a0, r1.2)) r1.2).bind fun r3 =>
(onG r1.1 false (
(call (.func 74) [ah r3.1] r3.2).bind fun r6 =>
some (r6.1, r6.2)) r3.2).bind fun r5 =>
(bP r1.1 (PV.v (.bool true)) r5.1).bind fun p7 =>
fin st.stk.length st.tk.length st.lp.length [p7] r5.2
theorem A1 (a0 : PV) (st : St) : E L (.func 111) [a0] st = DL (E L) itE a0 st := (bJ (by kernel_rfl) Tryd.func111 _ _).trans (by kernel_rfl)
theorem oV : aT Tryd.prog true .eql 110 (.v .nilIface) (.v .nilIface) = some (.v (.bool true)) := by kernel_rfl
theorem rZ : aT Tryd.prog true .neq 110 (.v .nilIface) (.v .nilIface) = some (.v (.bool false)) := by kernel_rfl
theorem rV (c : Bool) : aT Tryd.prog c .eql 110 (.ni) (.v .nilIface) = some (.v (.bool false)) := by kernel_rfl
theorem rT (c : Bool) (a : TypeId) (x : Value) : aT Tryd.prog c .neq 110 (.ifc a x) (.v .nilIface) = some (.v (.bool true)) := by kernel_rfl
theorem kV (n : Int) : gU Tryd.prog 3 106 (.v (.int .i64 n)) = some (.v (.int .u64 (IntKind.u64.wrap n))) := by kernel_rfl
theorem gw (n : Int) : gU Tryd.prog 3 45 (.v (.int .i64 n)) = some (.v (.int .u64 (IntKind.u64.wrap n))) := by kernel_rfl
theorem gV (n : Int) : gU Tryd.prog 3 5 (.v (.int .i64 n)) = some (.v (.int .u8 (IntKind.u8.wrap n))) := by kernel_rfl
theorem mA (n : Int) : gU Tryd.prog 5 21 (.v (.int .u8 n)) = some (.v (.int .i32 (IntKind.i32.wrap n))) := by kernel_rfl
theorem gx (n : Int) : gU Tryd.prog 5 45 (.v (.int .u8 n)) = some (.v (.int .u64 (IntKind.u64.wrap n))) := by kernel_rfl
theorem kA (s : ByteArray) : gU Tryd.prog 9 74 (.v (.string s)) = some (.sl (iC s) .dead) := by kernel_rfl
theorem rS (cs : List PV) : fS Tryd.prog 122 (.agg cs) 0 = AM.part false 1 0 cs := by kernel_rfl
theorem mD (cs : List PV) : fS Tryd.prog 122 (.agg cs) 1 = AM.part false 1 1 cs := by kernel_rfl
theorem oK (cs : List PV) : fS Tryd.prog 122 (.agg cs) 2 = AM.part false 1 2 cs := by kernel_rfl
theorem DU (es : List (List PV)) (c : Cap) (k : IntKind) (n : Int) : cJ Tryd.prog 27 (.sl es c) (.v (.int k n)) = bif eT n es.length then (es[n.toNat]?).bind fun e => bif ai e.length 3 && true then some (.fp e 0) else none else none := by kernel_rfl
theorem DV (es : List (List PV)) (c : Cap) (k : IntKind) (n : Int) : cJ Tryd.prog 32 (.sl es c) (.v (.int k n)) = bif eT n es.length then (es[n.toNat]?).bind fun e => bif ai e.length 58 && true then some (.fp e 0) else none else none := by kernel_rfl
theorem DW (es : List (List PV)) (c : Cap) (k : IntKind) (n : Int) : cJ Tryd.prog 48 (.sl es c) (.v (.int k n)) = bif eT n es.length then (es[n.toNat]?).bind fun e => bif ai e.length 9 && true then some (.fp e 0) else none else none := by kernel_rfl
theorem DX (es : List (List PV)) (c : Cap) (k : IntKind) (n : Int) : cJ Tryd.prog 74 (.sl es c) (.v (.int k n)) = bif eT n es.length then (es[n.toNat]?).bind fun e => bif ai e.length 1 && true then some (.fp e 0) else none else none := by kernel_rfl
theorem DY (es : List (List PV)) (c : Cap) (k : IntKind) (n : Int) : cJ Tryd.prog 85 (.sl es c) (.v (.int k n)) = bif eT n es.length then (es[n.toNat]?).bind fun e => bif ai e.length 5 && true then some (.fp e 0) else none else none := by kernel_rfl
theorem eS (x : Value) : ij Tryd.prog 192 (.v x) = some (.ifc 192 x) := by kernel_rfl
theorem w9 (x0 x1 x2 : PV) (k : IntKind) : du Tryd.prog 173 (.agg [x0, x1, x2]) (.v (.int k 0)) = some x0 := by kernel_rfl
theorem xb (x0 x1 x2 : PV) (k : IntKind) : du Tryd.prog 173 (.agg [x0, x1, x2]) (.v (.int k 1)) = some x1 := by kernel_rfl
theorem xe (x0 x1 x2 : PV) (k : IntKind) : du Tryd.prog 173 (.agg [x0, x1, x2]) (.v (.int k 2)) = some x2 := by kernel_rfl
theorem BI (x0 x1 x2 x3 : PV) (k : IntKind) : du Tryd.prog 174 (.agg [x0, x1, x2, x3]) (.v (.int k 0)) = some x0 := by kernel_rfl
theorem xc (x0 x1 x2 x3 : PV) (k : IntKind) : du Tryd.prog 174 (.agg [x0, x1, x2, x3]) (.v (.int k 1)) = some x1 := by kernel_rfl
theorem xf (x0 x1 x2 x3 : PV) (k : IntKind) : du Tryd.prog 174 (.agg [x0, x1, x2, x3]) (.v (.int k 2)) = some x2 := by kernel_rfl
theorem xh (x0 x1 x2 x3 : PV) (k : IntKind) : du Tryd.prog 174 (.agg [x0, x1, x2, x3]) (.v (.int k 3)) = some x3 := by kernel_rfl
theorem Er {l : List UInt8} {i : Nat} (k : IntKind) (h : i < l.length) : du Tryd.prog 9 (str l) (.v (.int k (i : Int))) = some (.v (.int .u8 (l[i].toNat : Int))) := BF (by kernel_rfl) k h
theorem px (c : UInt8) (l : List UInt8) (k : IntKind) : du Tryd.prog 9 (str (c :: l)) (.v (.int k 0)) = some (.v (.int .u8 (c.toNat : Int))) := Er (l := c :: l) (i := 0) k (by simp)
theorem Dp (es : List (List PV)) (c : Cap) : jP Tryd.prog 27 (.sl es c) = some (.v (.int .i64 es.length)) := by kernel_rfl
theorem Dq (es : List (List PV)) (c : Cap) : jP Tryd.prog 32 (.sl es c) = some (.v (.int .i64 es.length)) := by kernel_rfl
theorem Dr (es : List (List PV)) (c : Cap) : jP Tryd.prog 48 (.sl es c) = some (.v (.int .i64 es.length)) := by kernel_rfl
theorem qF (es : List (List PV)) (c : Cap) : jP Tryd.prog 74 (.sl es c) = some (.v (.int .i64 es.length)) := by kernel_rfl
theorem py (s : ByteArray) : jP Tryd.prog 9 (.v (.string s)) = some (.v (.int .i64 s.size)) := by kernel_rfl
theorem Au {l : List UInt8} {lo : Nat} (k : IntKind) (h : lo ≤ l.length) : gz Tryd.prog 9 (str l) (some (.v (.int k (lo : Int)))) none none = some (str (l.drop lo)) := Av (by kernel_rfl) k h
theorem As {l : List UInt8} {hi : Nat} (k' : IntKind) (h' : hi ≤ l.length) : gz Tryd.prog 9 (str l) none (some (.v (.int k' (hi : Int)))) none = some (str (l.take hi)) := At (by kernel_rfl) k' h'
end Go.Proofs.YtlhlijaondmccaaDoor.S
namespace Go.Proofs
open Go.Shelf
def Tryd.uo : Go.Shelf.Ren := ⟨fun | 283 => 140 | n => n, fun | 3 => 3 | 9 => 9 | 4 => 4 | n => n, fun | n => n⟩
theorem Tryd.BM : Go.Proofs.Lays.n283 Tryd.prog Tryd.uo := {
 mixed := by kernel_rfl
 f283 := Tryd.func140.trans (congrArg some (by kernel_rfl))
 t3 := Tryd.underlying3
 a3 := Tryd.isAgg3
 z3 := Tryd.sizeOf3
 v3 := Tryd.zeroValue3
 t4 := Tryd.underlying4
 a4 := Tryd.isAgg4
 z4 := Tryd.sizeOf4
 v4 := Tryd.zeroValue4
 t9 := Tryd.underlying9
 a9 := Tryd.isAgg9
 z9 := Tryd.sizeOf9
 v9 := Tryd.zeroValue9 }
open Go.Lib in
theorem Tryd.internal_strconv_small (i : Nat) (h : i < 100) (w : World) :
 Calls Tryd.prog 140 #[.int .i64 i] w fun e w' => e = .returned (.string ⟨(Lib.decDigits i).toArray⟩) ∧ w' = w := Any.internal_strconv_small Tryd.BM i h w
def Tryd.ta : Go.Shelf.Ren := ⟨fun | 284 => 141 | 129 => 160 | 317 => 159 | 318 => 161 | n => n, fun | 53 => 45 | 3 => 3 | 212 => 206 | 0 => 0 | 4 => 4 | 46 => 106 | 5 => 5 | 9 => 9 | n => n, fun | 17 => 1 | n => n⟩
theorem Tryd.zP : Go.Proofs.LaysM.n284 Tryd.prog Tryd.ta := {
 mixed := by kernel_rfl
 f129 := Tryd.func160.trans (congrArg some (by kernel_rfl))
 f284 := Tryd.func141.trans (congrArg some (by kernel_rfl))
 f317 := Tryd.func159.trans (congrArg some (by kernel_rfl))
 f318 := Tryd.func161.trans (congrArg some (by kernel_rfl))
 t0 := Tryd.underlying0
 a0 := Tryd.isAgg0
 z0 := Tryd.sizeOf0
 v0 := Tryd.zeroValue0
 t3 := Tryd.underlying3
 a3 := Tryd.isAgg3
 z3 := Tryd.sizeOf3
 v3 := Tryd.zeroValue3
 t4 := Tryd.underlying4
 a4 := Tryd.isAgg4
 z4 := Tryd.sizeOf4
 v4 := Tryd.zeroValue4
 t5 := Tryd.underlying5
 a5 := Tryd.isAgg5
 z5 := Tryd.sizeOf5
 v5 := Tryd.zeroValue5
 t9 := Tryd.underlying9
 a9 := Tryd.isAgg9
 z9 := Tryd.sizeOf9
 v9 := Tryd.zeroValue9
 t46 := Tryd.underlying106
 a46 := Tryd.isAgg106
 z46 := Tryd.sizeOf106
 v46 := Tryd.zeroValue106
 t53 := Tryd.underlying45
 a53 := Tryd.isAgg45
 z53 := Tryd.sizeOf45
 v53 := Tryd.zeroValue45
 t212 := Tryd.underlying206
 a212 := Tryd.isAgg206
 z212 := Tryd.sizeOf206
 v212 := Tryd.zeroValue206
 g17 := by kernel_rfl
 i0 := by kernel_rfl
 i3 := by kernel_rfl
 i4 := by kernel_rfl
 i5 := by kernel_rfl
 i9 := by kernel_rfl
 i46 := by kernel_rfl
 i53 := by kernel_rfl
 i212 := by kernel_rfl
 m17 := by kernel_rfl }
open Go.Lib in
theorem Tryd.internal_strconv_numDigits (u : Nat) (h1 : 1 ≤ u) (h2 : u < 18446744073709551616) (w : World) (htab : Lib.TabIs Tryd.prog w "internal/strconv.uint64pow10" .u64 Lib.pow10Tab) :
 Calls Tryd.prog 141 #[.int .u64 u] w fun e w' => e = .returned (.int .i64 (Lib.nDigits u)) ∧ w' = w := Any.internal_strconv_numDigits Tryd.zP u h1 h2 w htab
def Tryd.uq : Go.Shelf.Ren := ⟨fun | 285 => 142 | n => n, fun | 37 => 74 | 53 => 45 | 3 => 3 | 4 => 4 | 51 => 161 | 9 => 9 | 5 => 5 | 0 => 0 | n => n, fun | n => n⟩
theorem Tryd.BN : Go.Proofs.Lays.n285 Tryd.prog Tryd.uq := {
 mixed := by kernel_rfl
 f285 := Tryd.func142.trans (congrArg some (by kernel_rfl))
 t0 := Tryd.underlying0
 a0 := Tryd.isAgg0
 z0 := Tryd.sizeOf0
 v0 := Tryd.zeroValue0
 t3 := Tryd.underlying3
 a3 := Tryd.isAgg3
 z3 := Tryd.sizeOf3
 v3 := Tryd.zeroValue3
 t4 := Tryd.underlying4
 a4 := Tryd.isAgg4
 z4 := Tryd.sizeOf4
 v4 := Tryd.zeroValue4
 t5 := Tryd.underlying5
 a5 := Tryd.isAgg5
 z5 := Tryd.sizeOf5
 v5 := Tryd.zeroValue5
 t9 := Tryd.underlying9
 a9 := Tryd.isAgg9
 z9 := Tryd.sizeOf9
 v9 := Tryd.zeroValue9
 t37 := Tryd.underlying74
 a37 := Tryd.isAgg74
 z37 := Tryd.sizeOf74
 v37 := Tryd.zeroValue74
 t51 := Tryd.underlying161
 a51 := Tryd.isAgg161
 z51 := Tryd.sizeOf161
 v51 := Tryd.zeroValue161
 t53 := Tryd.underlying45
 a53 := Tryd.isAgg45
 z53 := Tryd.sizeOf45
 v53 := Tryd.zeroValue45 }
open Go.RowKit Go.Sort Go.Lib in
theorem Tryd.internal_strconv_formatBase10 (blk off cap : Nat) (u : Nat) (d : Array UInt8) (w : World) (hH : Holds (fun (b : UInt8) => Value.int .u8 (b.toNat : Int)) w blk off d) (hu : u < 10 ^ d.size) (hu64 : u < 18446744073709551616) (hsz : d.size < 4611686018427387904) :
 Calls Tryd.prog 142 #[.slice (some ⟨blk, off, none⟩) d.size cap, .int .u64 u] w fun e w' =>
  e = .returned (.tuple #[]) ∧ ∃ (n v' : Nat) (dk : Array UInt8), w' = (putRow (fun (b : UInt8) => Value.int .u8 (b.toNat : Int)) w blk off dk).drewN n ∧ FmtInv d.size u 0 v' dk := Any.internal_strconv_formatBase10 Tryd.BN blk off cap u d w hH hu hu64 hsz
def Tryd.sZ : Go.Shelf.Ren := ⟨fun | 245 => 135 | 279 => 147 | 280 => 148 | 281 => 149 | 282 => 150 | 316 => 165 | 171 => 66 | 205 => 166 | 243 => 105 | 246 => 131 | 283 => 140 | 284 => 141 | 285 => 142 | 286 => 143 | 129 => 160 | 317 => 159 | 318 => 161 | 319 => 162 | 320 => 163 | 337 => 173 | 338 => 174 | n => n, fun | 9 => 9 | 3 => 3 | 75 => 110 | 167 => 192 | 4 => 4 | 168 => 194 | 210 => 211 | 37 => 74 | 0 => 0 | 127 => 116 | 145 => 218 | 143 => 216 | 2 => 2 | 171 => 187 | 53 => 45 | 5 => 5 | 173 => 190 | 212 => 206 | 51 => 161 | 20 => 20 | 213 => 207 | 46 => 106 | 232 => 219 | 233 => 220 | 80 => 65 | n => n, fun | 15 => 2 | 16 => 3 | 17 => 1 | 18 => 4 | 19 => 5 | n => n⟩
theorem Tryd.ur : Go.Proofs.LaysC.n245 Tryd.prog Tryd.sZ := {
 mixed := by kernel_rfl
 f129 := Tryd.func160.trans (congrArg some (by kernel_rfl))
 f171 := Tryd.func66.trans (congrArg some (by kernel_rfl))
 f205 := Tryd.func166.trans (congrArg some (by kernel_rfl))
 f243 := Tryd.func105.trans (congrArg some (by kernel_rfl))
 f245 := Tryd.func135.trans (congrArg some (by kernel_rfl))
 f246 := Tryd.func131.trans (congrArg some (by kernel_rfl))
 f279 := Tryd.func147.trans (congrArg some (by kernel_rfl))
 f280 := Tryd.func148.trans (congrArg some (by kernel_rfl))
 f281 := Tryd.func149.trans (congrArg some (by kernel_rfl))
 f282 := Tryd.func150.trans (congrArg some (by kernel_rfl))
 f283 := Tryd.func140.trans (congrArg some (by kernel_rfl))
 f284 := Tryd.func141.trans (congrArg some (by kernel_rfl))
 f285 := Tryd.func142.trans (congrArg some (by kernel_rfl))
 f286 := Tryd.func143.trans (congrArg some (by kernel_rfl))
 f316 := Tryd.func165.trans (congrArg some (by kernel_rfl))
 f317 := Tryd.func159.trans (congrArg some (by kernel_rfl))
 f318 := Tryd.func161.trans (congrArg some (by kernel_rfl))
 f319 := Tryd.func162.trans (congrArg some (by kernel_rfl))
 f320 := Tryd.func163.trans (congrArg some (by kernel_rfl))
 f337 := Tryd.func173.trans (congrArg some (by kernel_rfl))
 f338 := Tryd.func174.trans (congrArg some (by kernel_rfl))
 t0 := Tryd.underlying0
 a0 := Tryd.isAgg0
 z0 := Tryd.sizeOf0
 v0 := Tryd.zeroValue0
 t2 := Tryd.underlying2
 a2 := Tryd.isAgg2
 z2 := Tryd.sizeOf2
 v2 := Tryd.zeroValue2
 t3 := Tryd.underlying3
 a3 := Tryd.isAgg3
 z3 := Tryd.sizeOf3
 v3 := Tryd.zeroValue3
 t4 := Tryd.underlying4
 a4 := Tryd.isAgg4
 z4 := Tryd.sizeOf4
 v4 := Tryd.zeroValue4
 t5 := Tryd.underlying5
 a5 := Tryd.isAgg5
 z5 := Tryd.sizeOf5
 v5 := Tryd.zeroValue5
 t9 := Tryd.underlying9
 a9 := Tryd.isAgg9
 z9 := Tryd.sizeOf9
 v9 := Tryd.zeroValue9
 t20 := Tryd.underlying20
 a20 := Tryd.isAgg20
 z20 := Tryd.sizeOf20
 v20 := Tryd.zeroValue20
 t37 := Tryd.underlying74
 a37 := Tryd.isAgg74
 z37 := Tryd.sizeOf74
 v37 := Tryd.zeroValue74
 t46 := Tryd.underlying106
 a46 := Tryd.isAgg106
 z46 := Tryd.sizeOf106
 v46 := Tryd.zeroValue106
 t51 := Tryd.underlying161
 a51 := Tryd.isAgg161
 z51 := Tryd.sizeOf161
 v51 := Tryd.zeroValue161
 t53 := Tryd.underlying45
 a53 := Tryd.isAgg45
 z53 := Tryd.sizeOf45
 v53 := Tryd.zeroValue45
 t75 := Tryd.underlying110
 a75 := Tryd.isAgg110
 z75 := Tryd.sizeOf110
 v75 := Tryd.zeroValue110
 t127 := Tryd.underlying116
 a127 := Tryd.isAgg116
 z127 := Tryd.sizeOf116
 v127 := Tryd.zeroValue116
 t143 := Tryd.underlying216
 a143 := Tryd.isAgg216
 z143 := Tryd.sizeOf216
 v143 := Tryd.zeroValue216
 t145 := Tryd.underlying218
 a145 := Tryd.isAgg218
 z145 := Tryd.sizeOf218
 v145 := Tryd.zeroValue218
 t167 := Tryd.underlying192
 a167 := Tryd.isAgg192
 z167 := Tryd.sizeOf192
 v167 := Tryd.zeroValue192
 t168 := Tryd.underlying194
 a168 := Tryd.isAgg194
 z168 := Tryd.sizeOf194
 v168 := Tryd.zeroValue194
 t171 := Tryd.underlying187
 a171 := Tryd.isAgg187
 z171 := Tryd.sizeOf187
 v171 := Tryd.zeroValue187
 t173 := Tryd.underlying190
 a173 := Tryd.isAgg190
 z173 := Tryd.sizeOf190
 v173 := Tryd.zeroValue190
 t210 := Tryd.underlying211
 a210 := Tryd.isAgg211
 z210 := Tryd.sizeOf211
 v210 := Tryd.zeroValue211
 t212 := Tryd.underlying206
 a212 := Tryd.isAgg206
 z212 := Tryd.sizeOf206
 v212 := Tryd.zeroValue206
 t213 := Tryd.underlying207
 a213 := Tryd.isAgg207
 z213 := Tryd.sizeOf207
 t232 := Tryd.underlying219
 a232 := Tryd.isAgg219
 z232 := Tryd.sizeOf219
 v232 := Tryd.zeroValue219
 t233 := Tryd.underlying220
 a233 := Tryd.isAgg220
 z233 := Tryd.sizeOf220
 v233 := Tryd.zeroValue220
 g15 := by kernel_rfl
 g16 := by kernel_rfl
 g17 := by kernel_rfl
 g18 := by kernel_rfl
 g19 := by kernel_rfl
 t80 := Tryd.underlying65
 a80 := Tryd.isAgg65
 z80 := Tryd.sizeOf65
 v80 := Tryd.zeroValue65
 i0 := by kernel_rfl
 i2 := by kernel_rfl
 i3 := by kernel_rfl
 i4 := by kernel_rfl
 i5 := by kernel_rfl
 i9 := by kernel_rfl
 i20 := by kernel_rfl
 i37 := by kernel_rfl
 i46 := by kernel_rfl
 i51 := by kernel_rfl
 i53 := by kernel_rfl
 i75 := by kernel_rfl
 i80 := by kernel_rfl
 i127 := by kernel_rfl
 i143 := by kernel_rfl
 i145 := by kernel_rfl
 i167 := by kernel_rfl
 i168 := by kernel_rfl
 i171 := by kernel_rfl
 i173 := by kernel_rfl
 i210 := by kernel_rfl
 i212 := by kernel_rfl
 i232 := by kernel_rfl
 i233 := by kernel_rfl
 m15 := by kernel_rfl
 m16 := by kernel_rfl
 m17 := by kernel_rfl
 m18 := by kernel_rfl
 m19 := by kernel_rfl
 c0 := by kernel_rfl
 c2 := by kernel_rfl
 c3 := by kernel_rfl
 c4 := by kernel_rfl
 c5 := by kernel_rfl
 c9 := by kernel_rfl
 c20 := by kernel_rfl
 c37 := by kernel_rfl
 c46 := by kernel_rfl
 c51 := by kernel_rfl
 c53 := by kernel_rfl
 c75 := by kernel_rfl
 c80 := by kernel_rfl
 c127 := by kernel_rfl
 c143 := by kernel_rfl
 c145 := by kernel_rfl
 c167 := by kernel_rfl
 c168 := by kernel_rfl
 c171 := by kernel_rfl
 c173 := by kernel_rfl
 c210 := by kernel_rfl
 c212 := by kernel_rfl
 c213 := by kernel_rfl
 c232 := by kernel_rfl
 c233 := by kernel_rfl }
open Go.RowKit in
theorem Tryd.strconv_toError_syntax (fn s : ByteArray) (base bits : Int) (ev : Value) (w : World) (hlim : s.size ≤ 281474976710656) (hv : w.cell? ⟨2, 0, none⟩ = some ev) (hev : ev = .nilIface ∨ ∃ te pe, ev = .iface te pe) :
 Calls Tryd.prog 135 #[.string fn, .string s, .int .i64 base, .int .i64 bits, .iface 192 (.int .i64 2)] w fun e w' => ∃ N, e = .returned (.iface 194 (.pointer (some ⟨N, 0, none⟩))) ∧ w.heap.size ≤ N ∧ w'.heap[N]? = some (.cells #[.string fn, .string s, ev] 211 (0, 0)) ∧ Below w.heap.size w w' := Any.strconv_toError_syntax Tryd.ur fn s base bits ev w hlim hv hev
open Go.RowKit in
theorem Tryd.strconv_toError_range (fn s : ByteArray) (base bits : Int) (ev : Value) (w : World) (hlim : s.size ≤ 281474976710656) (hv : w.cell? ⟨3, 0, none⟩ = some ev) (hev : ev = .nilIface ∨ ∃ te pe, ev = .iface te pe) :
 Calls Tryd.prog 135 #[.string fn, .string s, .int .i64 base, .int .i64 bits, .iface 192 (.int .i64 1)] w fun e w' => ∃ N, e = .returned (.iface 194 (.pointer (some ⟨N, 0, none⟩))) ∧ w.heap.size ≤ N ∧ w'.heap[N]? = some (.cells #[.string fn, .string s, ev] 211 (0, 0)) ∧ Below w.heap.size w w' := Any.strconv_toError_range Tryd.ur fn s base bits ev w hlim hv hev
def Tryd.um : Go.Shelf.Ren := ⟨fun | 217 => 106 | 266 => 132 | n => n, fun | 9 => 9 | 5 => 5 | 3 => 3 | n => n, fun | n => n⟩
theorem Tryd.BL : Go.Proofs.Lays.n217 Tryd.prog Tryd.um := {
 mixed := by kernel_rfl
 f217 := Tryd.func106.trans (congrArg some (by kernel_rfl))
 f266 := Tryd.func132.trans (congrArg some (by kernel_rfl))
 t3 := Tryd.underlying3
 a3 := Tryd.isAgg3
 z3 := Tryd.sizeOf3
 v3 := Tryd.zeroValue3
 t5 := Tryd.underlying5
 a5 := Tryd.isAgg5
 z5 := Tryd.sizeOf5
 v5 := Tryd.zeroValue5
 t9 := Tryd.underlying9
 a9 := Tryd.isAgg9
 z9 := Tryd.sizeOf9
 v9 := Tryd.zeroValue9 }
open Go.RowKit Go.Lib in
theorem Tryd.stringslite_IndexByte (s : ByteArray) (c : Int) (w : World) :
 Calls Tryd.prog 106 #[.string s, .int .u8 c] w fun e w' => e = .returned (.int .i64 (Lib.indexByte s.data.toList c.toNat.toUInt8)) ∧ w' = w := Any.stringslite_IndexByte Tryd.BL s c w
def Tryd.uj : Go.Shelf.Ren := ⟨fun | 144 => 133 | 143 => 144 | 219 => 164 | 217 => 106 | 225 => 169 | 224 => 168 | 267 => 175 | 266 => 132 | 314 => 177 | n => n, fun | 9 => 9 | 4 => 4 | 3 => 3 | 5 => 5 | 46 => 106 | 146 => 162 | 51 => 161 | n => n, fun | 1 => 0 | n => n⟩
theorem Tryd.BJ : Go.Proofs.Lays.n144 Tryd.prog Tryd.uj := {
 mixed := by kernel_rfl
 f143 := Tryd.func144.trans (congrArg some (by kernel_rfl))
 f144 := Tryd.func133.trans (congrArg some (by kernel_rfl))
 f217 := Tryd.func106.trans (congrArg some (by kernel_rfl))
 f219 := Tryd.func164.trans (congrArg some (by kernel_rfl))
 f224 := Tryd.func168.trans (congrArg some (by kernel_rfl))
 f225 := Tryd.func169.trans (congrArg some (by kernel_rfl))
 f266 := Tryd.func132.trans (congrArg some (by kernel_rfl))
 f267 := Tryd.func175.trans (congrArg some (by kernel_rfl))
 f314 := Tryd.func177.trans (congrArg some (by kernel_rfl))
 t3 := Tryd.underlying3
 a3 := Tryd.isAgg3
 z3 := Tryd.sizeOf3
 v3 := Tryd.zeroValue3
 t4 := Tryd.underlying4
 a4 := Tryd.isAgg4
 z4 := Tryd.sizeOf4
 v4 := Tryd.zeroValue4
 t5 := Tryd.underlying5
 a5 := Tryd.isAgg5
 z5 := Tryd.sizeOf5
 v5 := Tryd.zeroValue5
 t9 := Tryd.underlying9
 a9 := Tryd.isAgg9
 z9 := Tryd.sizeOf9
 v9 := Tryd.zeroValue9
 t46 := Tryd.underlying106
 a46 := Tryd.isAgg106
 z46 := Tryd.sizeOf106
 v46 := Tryd.zeroValue106
 t51 := Tryd.underlying161
 a51 := Tryd.isAgg161
 z51 := Tryd.sizeOf161
 v51 := Tryd.zeroValue161
 t146 := Tryd.underlying162
 a146 := Tryd.isAgg162
 z146 := Tryd.sizeOf162
 v146 := Tryd.zeroValue162
 g1 := by kernel_rfl }
open Go.RowKit Go.Lib in
theorem Tryd.strings_Contains (s sub : ByteArray) (m : Int) (w : World) (hs : s.size < 4294967281) (hm : w.cell? ⟨0, 0, none⟩ = some (.int .i64 m)) :
 Calls Tryd.prog 133 #[.string s, .string sub] w fun e w' => e = .returned (.bool (Lib.contains s.data.toList sub.data.toList)) ∧ w' = w := Any.strings_Contains Tryd.BJ s sub m w hs hm
def Tryd.uk : Go.Shelf.Ren := ⟨fun | 150 => 112 | 153 => 136 | 152 => 151 | 226 => 152 | 227 => 153 | 228 => 154 | 137 => 72 | 119 => 167 | 224 => 168 | 225 => 169 | 217 => 106 | 266 => 132 | n => n, fun | 9 => 9 | 4 => 4 | 3 => 3 | 5 => 5 | 21 => 21 | 117 => 201 | 116 => 200 | 0 => 0 | 46 => 106 | 124 => 213 | n => n, fun | n => n⟩
theorem Tryd.BK : Go.Proofs.Lays.n150 Tryd.prog Tryd.uk := {
 mixed := by kernel_rfl
 f119 := Tryd.func167.trans (congrArg some (by kernel_rfl))
 f137 := Tryd.func72.trans (congrArg some (by kernel_rfl))
 f150 := Tryd.func112.trans (congrArg some (by kernel_rfl))
 f152 := Tryd.func151.trans (congrArg some (by kernel_rfl))
 f153 := Tryd.func136.trans (congrArg some (by kernel_rfl))
 f217 := Tryd.func106.trans (congrArg some (by kernel_rfl))
 f224 := Tryd.func168.trans (congrArg some (by kernel_rfl))
 f225 := Tryd.func169.trans (congrArg some (by kernel_rfl))
 f226 := Tryd.func152.trans (congrArg some (by kernel_rfl))
 f227 := Tryd.func153.trans (congrArg some (by kernel_rfl))
 f228 := Tryd.func154.trans (congrArg some (by kernel_rfl))
 f266 := Tryd.func132.trans (congrArg some (by kernel_rfl))
 t0 := Tryd.underlying0
 a0 := Tryd.isAgg0
 z0 := Tryd.sizeOf0
 v0 := Tryd.zeroValue0
 t3 := Tryd.underlying3
 a3 := Tryd.isAgg3
 z3 := Tryd.sizeOf3
 v3 := Tryd.zeroValue3
 t4 := Tryd.underlying4
 a4 := Tryd.isAgg4
 z4 := Tryd.sizeOf4
 v4 := Tryd.zeroValue4
 t5 := Tryd.underlying5
 a5 := Tryd.isAgg5
 z5 := Tryd.sizeOf5
 v5 := Tryd.zeroValue5
 t9 := Tryd.underlying9
 a9 := Tryd.isAgg9
 z9 := Tryd.sizeOf9
 v9 := Tryd.zeroValue9
 t21 := Tryd.underlying21
 a21 := Tryd.isAgg21
 z21 := Tryd.sizeOf21
 v21 := Tryd.zeroValue21
 t46 := Tryd.underlying106
 a46 := Tryd.isAgg106
 z46 := Tryd.sizeOf106
 v46 := Tryd.zeroValue106
 t116 := Tryd.underlying200
 a116 := Tryd.isAgg200
 z116 := Tryd.sizeOf200
 t117 := Tryd.underlying201
 a117 := Tryd.isAgg201
 z117 := Tryd.sizeOf201
 v117 := Tryd.zeroValue201
 t124 := Tryd.underlying213
 a124 := Tryd.isAgg213
 z124 := Tryd.sizeOf213
 v124 := Tryd.zeroValue213 }
open Go.RowKit Go.Lib in
theorem Tryd.strings_ContainsAny_laid (s chars : ByteArray) (w : World) (hs : s.size < 4294967281) (hcs : chars.size < 4294967281) (has : ∀ (j : Nat) b, s.data.toList[j]? = some b → b.toNat < 128) (hac : ∀ (j : Nat) b, chars.data.toList[j]? = some b → b.toNat < 128) :
 Calls Tryd.prog 112 #[.string s, .string chars] w fun e w' => e = .returned (.bool (Lib.containsAny s.data.toList chars.data.toList)) ∧ Below w.heap.size w w' := Any.strings_ContainsAny_laid Tryd.BK (by kernel_rfl) s chars w hs hcs has hac
open Go.Shelf Go.RowKit Go.Sort Go.Lib
theorem Tryd.oL (i : Nat) (hi : i < 100) (w : World) :
 Calls Tryd.prog 130 #[.int .u64 i, .int .i64 10] w fun e w' => e = .returned (.string ⟨(Lib.decDigits i).toArray⟩) ∧ w' = w := by
 go_enter Tryd.func130, Tryd.ntmps130
 go_wp2_with (go_at_call 140; refine (Tryd.internal_strconv_small i hi _).mono ?_; rintro e w' ⟨rfl, rfl⟩)
 go_ret
 exact ⟨rfl, rfl⟩
theorem Tryd.ue (w : World) (T : TypeId) (nd : Nat) (hs : nd ≤ 24) : Holds (fun (b : UInt8) => Value.int .u8 (b.toNat : Int)) (w.alloc (.cells zeros24 T)) w.heap.size 0 (Array.replicate nd (0 : UInt8)) := fun j hj => by
 simp only [Array.size_replicate] at hj; rw [show (⟨w.heap.size, 0 + j, none⟩ : Addr) = ⟨w.heap.size, j, none⟩ from by simp]; rw [World.cell?_alloc_new, zeros24_at _ (by omega), getElem!_pos _ j (by simpa using hj)]; simp
theorem sN {B : Nat} {a w : World} (h : Below B a w) (k : Nat) : Below B a (w.drewN k) := ⟨h.os, h.tape, h.output, h.size, h.block⟩
theorem Tryd.qz (u : Nat) (hu : 100 ≤ u) (hu64 : u < 18446744073709551616) (w : World) (htab : Lib.TabIs Tryd.prog w "internal/strconv.uint64pow10" .u64 Lib.pow10Tab) :
 Calls Tryd.prog 130 #[.int .u64 u, .int .i64 10] w fun e w' => e = .returned (.string ⟨(Lib.decDigits u).toArray⟩) ∧ Below w.heap.size w w' := by
 have hu1 : 1 ≤ u := by omega
 have hnd20 : Lib.nDigits u ≤ 20 := by have := Lib.numDigits_eq u hu1 hu64; split at this <;> omega
 have hal : Tryd.prog.arrayLen 187 = 24 := by simp [Program.arrayLen, Tryd.underlying187]
 have hsl1 : ∀ W, (Instr.sliceAt 187 (.pointer (some ⟨w.heap.size, 0, none⟩)) none (some (.int .i64 (Lib.nDigits u : Int))) none).run Tryd.prog W = .ok (.slice (some ⟨w.heap.size, 0, none⟩) (Lib.nDigits u) 24) W := fun W => by
  rw [run_sliceAt_array_h W 187 ⟨w.heap.size, 0, none⟩ (by simp [Program.arrayLen, Program.elem, Tryd.underlying187]) .i64 (Lib.nDigits u : Int) (by omega) (by rw [hal]; omega)]
  go_simp
 have hH0 := Tryd.ue w 187 (Lib.nDigits u) (by omega); have hfmt := Tryd.internal_strconv_formatBase10 w.heap.size 0 24 u (Array.replicate (Lib.nDigits u) 0) (w.alloc (.cells Lib.zeros24 187)) hH0 (by rw [Array.size_replicate]; exact Lib.lt_pow_nDigits u) hu64 (by rw [Array.size_replicate]; omega); rw [Array.size_replicate] at hfmt; have HH0 := Lib.hid hH0; have Hal := Lib.hid hal; clear hH0 hal
 go_enter Tryd.func130, Tryd.ntmps130
 go_wp2_with (first
  | (go_at_call 141; refine (Tryd.internal_strconv_numDigits u hu1 hu64 _ (Lib.tabIs_alloc htab _)).mono ?_; rintro e w' ⟨rfl, rfl⟩))
 go_at_call 142
 refine hfmt.mono ?_
 rintro e w' ⟨rfl, k, v', dk, rfl, hF⟩
 have hcv : (convert 74 9 (.slice (some ⟨w.heap.size, 0, none⟩) (Lib.nDigits u) 24)).run Tryd.prog ((putRow (fun (b : UInt8) => Value.int .u8 (b.toNat : Int)) (w.alloc (.cells Lib.zeros24 187)) w.heap.size 0 dk).drewN k) = .ok (.string ⟨(Lib.decDigits u).toArray⟩) ((putRow (fun (b : UInt8) => Value.int .u8 (b.toNat : Int)) (w.alloc (.cells Lib.zeros24 187)) w.heap.size 0 dk).drewN k) := by
  have h := run_convert_bytes_back (P := Tryd.prog) ((putRow (fun (b : UInt8) => Value.int .u8 (b.toNat : Int)) (w.alloc (.cells Lib.zeros24 187)) w.heap.size 0 dk).drewN k) 74 9 5 ⟨w.heap.size, 0, none⟩ 24 (Lib.decDigits u) Tryd.underlying74 Tryd.underlying5 Tryd.underlying9 (fun j hj => by
   rw [Lib.row_is_numeral hF j hj, Lib.add_plain, World.cell?_drewN]
   exact cell?_putRow (fun (b : UInt8) => Value.int .u8 (b.toNat : Int)) _ w.heap.size 0 _ dk HH0.out (by rw [hF.size, Array.size_replicate]) j (by rw [hF.size]; rw [Lib.decDigits_length] at hj; exact hj))
  rw [Lib.decDigits_length] at h; exact h
 go_wp2
 go_ret
 refine ⟨rfl, ?_⟩; have e0 := alloc_eq_grow w (.cells Lib.zeros24 187); obtain ⟨os', _, e⟩ := putRow_grow_new (fun (b : UInt8) => Value.int .u8 (b.toNat : Int)) w #[.cells Lib.zeros24 187] w.heap.size 0 dk (aq _); rw [e0, e]; have hb : Below w.heap.size w (grow w os') := ⟨rfl, rfl, rfl, by simp [grow], fun k hk => by simp [grow, Array.getElem?_append, hk]⟩; exact sN hb k
theorem Tryd.vB (u : Nat) (hu64 : u < 18446744073709551616) (w : World) (htab : Lib.TabIs Tryd.prog w "internal/strconv.uint64pow10" .u64 Lib.pow10Tab) :
 Calls Tryd.prog 99 #[.int .u64 u, .int .i64 10] w fun e w' => e = .returned (.string ⟨(Lib.decDigits u).toArray⟩) ∧ Below w.heap.size w w' := by
 have h : Calls Tryd.prog 130 #[.int .u64 u, .int .i64 10] w fun e w' => e = .returned (.string ⟨(Lib.decDigits u).toArray⟩) ∧ Below w.heap.size w w' := by
  by_cases hu : u < 100
  · refine (Tryd.oL u hu w).mono ?_
    rintro e w' ⟨rfl, rfl⟩
    exact ⟨rfl, Below.refl _ _⟩
  · exact Tryd.qz u (by omega) hu64 w htab
 go_enter Tryd.func99, Tryd.ntmps99
 go_wp2_with (go_at_call 130; refine h.mono ?_; rintro e w' ⟨rfl, hb⟩)
 go_ret
 exact ⟨rfl, hb⟩
end Go.Proofs
namespace Go.Proofs.YtlhlijaondmccaaDoor.S
open Go Go.AM Go.Proofs Go.RowKit
structure Gvs (gv : GV) : Prop where
 len : ∃ m, gv.cell 0 0 = some (.int .i64 m)
 syn : ∃ ev, gv.cell 2 0 = some ev ∧ (ev = .nilIface ∨ ∃ te pe, ev = .iface te pe)
 rng : ∃ ev, gv.cell 3 0 = some ev ∧ (ev = .nilIface ∨ ∃ te pe, ev = .iface te pe)
 tab : Lib.TabIs Tryd.prog gv.w0 "internal/strconv.uint64pow10" .u64 Lib.pow10Tab
 six : 4 ≤ gv.w0.heap.size
theorem DS : Tryd.prog.globalNamed "internal/strconv.uint64pow10" = some 1 := by kernel_rfl
theorem Gvs.Ec {gv : GV} (h : Gvs gv) {w : World} (hw : gv.at w) : Lib.TabIs Tryd.prog w "internal/strconv.uint64pow10" .u64 Lib.pow10Tab :=
 var?_below hw.2 DS (by have := h.six; omega) h.tab
theorem Es {gv : GV} (hg : Gvs gv) (w : World) (vs : List Value) (p : PV) (hw : gv.at w) (h : kE vs = some p) : Calls Tryd.prog 133 vs.toArray w fun e w' => (∃ v, e = .returned v ∧ tE v p) ∧ Below w.heap.size w w' := by
 unfold kE at h; split at h
 · rename_i s t
   split at h
   · rename_i hs
     obtain rfl := Option.some.inj h; obtain ⟨m, hm⟩ := hg.len; refine (Tryd.strings_Contains s t m w hs (hw.1 _ _ _ hm)).mono ?_
     rintro e w' ⟨rfl, rfl⟩
     exact ⟨⟨_, rfl, .v⟩, Below.refl _ _⟩
   · cases h
 · cases h
theorem Et (w : World) (vs : List Value) (p : PV) (h : jH vs = some p) : Calls Tryd.prog 106 vs.toArray w fun e w' => (∃ v, e = .returned v ∧ tE v p) ∧ Below w.heap.size w w' := by
 unfold jH at h; split at h
 · rename_i s c
   obtain rfl := Option.some.inj h; refine (Tryd.stringslite_IndexByte s c w).mono ?_
   rintro e w' ⟨rfl, rfl⟩
   exact ⟨⟨_, rfl, .v⟩, Below.refl _ _⟩
 · cases h
theorem rH {s : ByteArray} (h : nb s = true) (j : Nat) (b : UInt8) (hb : s.data.toList[j]? = some b) : b.toNat < 128 := by
 have := dD.1 h b (dS hb); simpa using this
theorem Ev (w : World) (vs : List Value) (p : PV) (h : ir vs = some p) : Calls Tryd.prog 112 vs.toArray w fun e w' => (∃ v, e = .returned v ∧ tE v p) ∧ Below w.heap.size w w' := by
 unfold ir at h; split at h
 · rename_i s t
   split at h
   · rename_i hs
     obtain rfl := Option.some.inj h; refine (Tryd.strings_ContainsAny_laid s t w hs.1 hs.2.1 (rH hs.2.2.1) (rH hs.2.2.2)).mono ?_
     rintro e w' ⟨rfl, hb⟩
     exact ⟨⟨_, rfl, .v⟩, hb⟩
   · cases h
 · cases h
theorem Ew {gv : GV} (hg : Gvs gv) (w : World) (vs : List Value) (p : PV) (hw : gv.at w) (h : qR 192 vs = some p) : Calls Tryd.prog 135 vs.toArray w fun e w' => (∃ v, e = .returned v ∧ tE v p) ∧ Below w.heap.size w w' := by
 unfold qR at h; split at h
 · rename_i f s b z t n
   split at h
   · rename_i hs
     obtain ⟨h1, rfl, h2⟩ := hs; obtain rfl := Option.some.inj h
     rcases h2 with rfl | rfl
     · obtain ⟨ev, he, hi⟩ := hg.rng
       refine (Tryd.strconv_toError_range f s b z ev w h1 (hw.1 _ _ _ he) hi).mono ?_
       rintro e w' ⟨N, rfl, _, _, hb⟩
       exact ⟨⟨_, rfl, .ni⟩, hb⟩
     · obtain ⟨ev, he, hi⟩ := hg.syn
       refine (Tryd.strconv_toError_syntax f s b z ev w h1 (hw.1 _ _ _ he) hi).mono ?_
       rintro e w' ⟨N, rfl, _, _, hb⟩
       exact ⟨⟨_, rfl, .ni⟩, hb⟩
   · cases h
 · cases h
theorem Eu {gv : GV} (hg : Gvs gv) (w : World) (vs : List Value) (p : PV) (hw : gv.at w) (h : yg vs = some p) : Calls Tryd.prog 99 vs.toArray w fun e w' => (∃ v, e = .returned v ∧ tE v p) ∧ Below w.heap.size w w' := by
 unfold yg at h; split at h
 · rename_i n b
   split at h
   · rename_i hs
     obtain ⟨rfl, h1, h2⟩ := hs; obtain rfl := Option.some.inj h
     obtain ⟨u, rfl⟩ : ∃ u : Nat, n = u := ⟨n.toNat, by omega⟩
     refine (Tryd.vB u (by omega) w (hg.Ec hw)).mono ?_
     rintro e w' ⟨rfl, hb⟩
     exact ⟨⟨_, rfl, .v⟩, hb⟩
   · cases h
 · cases h
theorem zY : (Tryd.prog.funcs.toList.all fun fn => !(fn.name == "runtime.NumGoroutine")) = true := by kernel_rfl
theorem mF (f : Nat) (fn : Func) (h : Tryd.prog.funcs[f]? = some fn) : (fn.name == "runtime.NumGoroutine") = false := by
 have h1 := dD.1 zY fn (by
  rw [← ga] at h
  exact dS h)
 simpa using h1
theorem ok {gv : GV} (hg : Gvs gv) : tD gv L where
 gl w C _ i := .u
 name := mF
 mixed := by
  have h : Tryd.prog.follows .mixedOrders = true := by kernel_rfl
  exact h
 lh f g h := by
  have hl : xp Ad f = some g := h; simp only [Ad, xp] at hl
  cases e22 : ai 133 f with
  | true =>
   rw [e22, cond_true] at hl; obtain rfl := Option.some.inj hl; obtain rfl := ao e22
   intro call _; exact kG ⟨_, Tryd.func133, mF _ _ Tryd.func133, rfl⟩ fun w vs p hw h => Es hg w vs p hw h
  | false =>
   rw [e22, cond_false] at hl
   cases e40 : ai 106 f with
   | true =>
    rw [e40, cond_true] at hl; obtain rfl := Option.some.inj hl; obtain rfl := ao e40
    intro call _; exact kG ⟨_, Tryd.func106, mF _ _ Tryd.func106, rfl⟩ fun w vs p hw h => Et w vs p h
   | false =>
    rw [e40, cond_false] at hl
    cases e45 : ai 112 f with
    | true =>
     rw [e45, cond_true] at hl; obtain rfl := Option.some.inj hl; obtain rfl := ao e45
     intro call _; exact kG ⟨_, Tryd.func112, mF _ _ Tryd.func112, rfl⟩ fun w vs p hw h => Ev w vs p h
    | false =>
     rw [e45, cond_false] at hl
     cases e43 : ai 99 f with
     | true =>
      rw [e43, cond_true] at hl; obtain rfl := Option.some.inj hl; obtain rfl := ao e43
      intro call _; exact kG ⟨_, Tryd.func99, mF _ _ Tryd.func99, rfl⟩ fun w vs p hw h => Eu hg w vs p hw h
     | false =>
      rw [e43, cond_false] at hl
      cases e49 : ai 135 f with
      | true =>
       rw [e49, cond_true] at hl; obtain rfl := Option.some.inj hl; obtain rfl := ao e49
       intro call _; exact kG ⟨_, Tryd.func135, mF _ _ Tryd.func135, rfl⟩ fun w vs p hw h => Ew hg w vs p hw h
      | false =>
       rw [e49, cond_false] at hl
       cases e20 : ai 10 f with
       | true =>
        rw [e20, cond_true] at hl; obtain rfl := Option.some.inj hl; obtain rfl := ao e20
        intro call G; exact yr (yq fun w C _ i => .u) G
       | false =>
        rw [e20, cond_false] at hl; cases hl
end Go.Proofs.YtlhlijaondmccaaDoor.S
namespace Go.Proofs.YtlhlijaondmccaaDoor.S
open Go Go.AM Go.Proofs
attribute [local simp] cV cy bR bS cz eY fk ef db ec cZ ed da fj bT gQ dV gR gL gG AM.ae aP aQ ag ba aO aD AM.onG fJ cd ep Ex.bf cond_true cond_false cR cQ cP cO cN cT cM cU cS eg dc de cx cW AM.dj AM.cellsOf AM.av bP beq_true cK ak aA aZ bx bQ decide_true decide_false bI bA bn bz aY aC ay bu aR cX cY fg az bH bw bN cv dU dZ cG eu et set_set eB dy fG dz cF bC dx dw cE dv eA eC fA fB bD cf en fw dN aK aS aE AM.aV ah cL bL bq aW aN aM AM.part bg aL bY cc bZ bX bX.eK AM.dL bB cq
def oO (n : Int) : Bool := decide (n = 95) || (decide (97 ≤ n) && decide (n ≤ 122)) || (decide (65 ≤ n) && decide (n ≤ 90))
def ua (n : Int) : Bool := decide (48 ≤ n) && decide (n ≤ 57)
theorem iS (n : Int) (st : St) : E L (.func 73) [.v (.int .i32 n)] st = some (.v (.bool (oO n)), st) := by
 rw [C5]; obtain ⟨N, T, Lb, hN, hT, hL⟩ := lens3 st
 conv => lhs; rw [← aj (st)]
 by_cases h1 : n = 95
 · simp [S73, hN, hT, hL, oO, h1]
 by_cases h2 : 97 ≤ n <;> by_cases h3 : n ≤ 122 <;> by_cases h4 : 65 ≤ n <;> by_cases h5 : n ≤ 90 <;> simp [S73, hN, hT, hL, oO, h1, h2, h3, h4, h5]
theorem iT (n : Int) (st : St) : E L (.func 74) [.v (.int .i32 n)] st = some (.v (.bool (ua n)), st) := by
 rw [C6]; obtain ⟨N, T, Lb, hN, hT, hL⟩ := lens3 st
 conv => lhs; rw [← aj (st)]
 by_cases h2 : 48 ≤ n <;> by_cases h3 : n ≤ 57 <;> simp [S74, hN, hT, hL, ua, h2, h3]
theorem yU (n : Int) (st : St) : E L (.func 71) [.v (.int .i32 n)] st = some (.v (.bool (!decide (n = 10))), st) := by
 rw [C3]; obtain ⟨N, T, Lb, hN, hT, hL⟩ := lens3 st
 conv => lhs; rw [← aj (st)]
 simp [S71, hN, hT, hL]
theorem wy (n : Int) (st : St) : E L (.func 107) [.v (.int .i32 n)] st = some (.v (.bool (oO n || ua n)), st) := by
 rw [AY]; obtain ⟨N, T, Lb, hN, hT, hL⟩ := lens3 st
 conv => lhs; rw [← aj (st)]
 cases h : oO n <;> simp [DJ, hN, hT, hL, iS, iT, h]
theorem wA (n : Int) (st : St) : E L (.func 111) [.v (.int .i32 n)] st = some (.v (.bool (oO n || ua n)), st) := by
 rw [A1]; obtain ⟨N, T, Lb, hN, hT, hL⟩ := lens3 st
 conv => lhs; rw [← aj (st)]
 cases h : oO n <;> simp [DL, hN, hT, hL, iS, iT, h]
def cI (q : UInt8 → Bool) (l : List UInt8) : Nat := (l.takeWhile q).length
theorem mi (q : UInt8 → Bool) (l : List UInt8) : cI q l ≤ l.length := (List.takeWhile_sublist q).length_le
theorem hO (q : UInt8 → Bool) (c : UInt8) (l : List UInt8) : cI q (c :: l) = if q c then cI q l + 1 else 0 := by
 unfold cI; rw [List.takeWhile_cons]
 split <;> simp
theorem om {q : UInt8 → Bool} : ∀ {l : List UInt8} {n : Nat}, n ≤ l.length → (∀ j (hj : j < l.length), j < n → q l[j] = true) → (∀ h : n < l.length, q l[n] = false) → cI q l = n
 | [], n, hn, _, _ => by
  have : n = 0 := by simpa using hn
  subst this; rfl
 | c :: l, 0, hn, _, h => by
  have := h (by simp); rw [hO, if_neg]; simpa using this
 | c :: l, n + 1, hn, h1, h => by
  have h0 := h1 0 (by simp) (by omega); rw [hO, if_pos (by simpa using h0), om (n := n) (by simpa using hn) (fun j hj hn' => by have := h1 (j + 1) (by simpa using hj) (by omega); rwa [List.getElem_cons_succ] at this) (fun hh => by have := h (by simpa using hh); rwa [List.getElem_cons_succ] at this)]
structure xN (g : Nat) (q : UInt8 → Bool) : Prop where
 lo : ∀ (c : UInt8) (st : St), c.toNat < 128 → E L (.func g) [.v (.int .i32 (c.toNat : Int))] st = some (.v (.bool (q c)), st)
 hi : ∃ b, (∀ c : UInt8, 128 ≤ c.toNat → q c = b) ∧ ∀ (n : Nat) (st : St), 128 ≤ n → E L (.func g) [.v (.int .i32 (n : Int))] st = some (.v (.bool b), st)
theorem An {g : Nat} {q : UInt8 → Bool} (ht : xN g q) {rest : List UInt8} (hlen : rest.length < 4611686018427387904) {X : St} {N T Lb : Nat} (hN : X.stk.length = N) (hT : X.tk.length = T) (hL : X.lp.length = Lb) (ptr : PV) : ∀ (k pos : Nat), rest.length - pos = k → pos ≤ rest.length → (∀ j (hj : j < rest.length), j < pos → q rest[j] = true) → ∀ x : PV,
 ∃ pos' e y, itE (S70.b0 (E L) itE N Lb) [ptr, .clo (.func g) [], x, .it Lb] (X.app [] [] [.iter (bs rest) pos]) = some (e, [ptr, .clo (.func g) [], y, .it Lb], X.app [] [] [.iter (bs rest) pos']) ∧
  ((e = .ret ∧ cI q rest < rest.length ∧ y = .v (.int .i64 (cI q rest))) ∨ (e = .exit 0 ∧ cI q rest = rest.length)) := by
 intro k
 induction k using Nat.strongRecOn with
 | ind k ih =>
 intro pos hk hp hall x
 by_cases hlt : pos < rest.length
 · by_cases hb : rest[pos].toNat < 128
   · by_cases hq : q rest[pos] = true
     · obtain ⟨pos', e, y, h1, h2⟩ := ih (rest.length - (pos + 1)) (by omega) (pos + 1) rfl (by omega) (fun j hj hj' => by
        by_cases hjp : j = pos
        · subst hjp; exact hq
        · exact hall j hj (by omega)) x
       refine ⟨pos', e, y, ?_, h2⟩; rw [bW (vs' := [ptr, .clo (.func g) [], x, .it Lb]) (st' := X.app [] [] [.iter (bs rest) (pos + 1)])]
       · exact h1
       · have hd := AM.decode_ascii hlt hb
         simp [S70.b0, hN, hT, hL, hlt, hd, ht.lo rest[pos] _ hb, hq]
     · have hs : cI q rest = pos := om hp hall fun _ => by simpa using hq
       refine ⟨pos + 1, .ret, .v (.int .i64 pos), ?_, .inl ⟨rfl, by omega, by rw [hs]⟩⟩; apply eL; have hd := AM.decode_ascii hlt hb; simp [S70.b0, hN, hT, hL, hlt, hd, ht.lo rest[pos] _ hb, hq]
   · obtain ⟨hh1, hh2, hh3, hh4, hh5⟩ := AM.decode_high hlt (by omega : 128 ≤ rest[pos].toNat)
     obtain ⟨b, hb1, hb2⟩ := ht.hi
     cases b with
     | true =>
      obtain ⟨pos', e, y, h1, h2⟩ := ih (rest.length - (pos + (Utf8.decode (bs rest) pos).2)) (by omega) (pos + (Utf8.decode (bs rest) pos).2) rfl (by omega) (fun j hj hj' => by
       by_cases hjp : j < pos
       · exact hall j hj hjp
       · exact hb1 _ (hh5 j hj (by omega) hj')) x
      refine ⟨pos', e, y, ?_, h2⟩; rw [bW (vs' := [ptr, .clo (.func g) [], x, .it Lb]) (st' := X.app [] [] [.iter (bs rest) (pos + (Utf8.decode (bs rest) pos).2)])]
      · exact h1
      · simp [S70.b0, hN, hT, hL, hlt, hb2 _ _ hh1]
     | false =>
      have hs : cI q rest = pos := om hp hall fun _ => hb1 _ (by omega)
      refine ⟨pos + (Utf8.decode (bs rest) pos).2, .ret, .v (.int .i64 pos), ?_, .inl ⟨rfl, by omega, by rw [hs]⟩⟩; apply eL; simp [S70.b0, hN, hT, hL, hlt, hb2 _ _ hh1]
 · have hs : cI q rest = pos := om hp hall fun h => absurd h hlt
   refine ⟨pos, .exit 0, x, ?_, .inr ⟨rfl, by omega⟩⟩; apply hG; simp [S70.b0, hN, hT, hL, hlt]
theorem CD {g : Nat} {q : UInt8 → Bool} (ht : xN g q) {s : St} {b : Nat} {rest : List UInt8} {x y : PV} (hb : b < s.stk.length) (hlen : rest.length < 4611686018427387904) :
 E L (.func 70) [.ptr false b 0, .clo (.func g) []] (s.af false b [str rest, x, y]) = some (.v (.int .i64 (cI q rest)), s.af false b [str rest, x, y]) := by
 rw [CZ]; obtain ⟨N, T, Lb, hN, hT, hL⟩ := lens3 s; rw [hN] at hb
 conv => lhs; rw [← aj (s.af false b [str rest, x, y])]
 have hr : ∀ X : St, X.lp.length = Lb → lJ Tryd.prog 9 (str rest) (X.app [] [] []) = some (.it Lb, X.app [] [] [.iter (bs rest) 0]) := fun X h => xq [] [] [] (by kernel_rfl) (bs rest) h
 obtain ⟨pos', e, z, h1, h2⟩ := An ht hlen (X := s.af false b [str rest, x, y]) (N := N) (T := T) (Lb := Lb) (by rw [cG, hN]) (by rw [eu, hT]) (by rw [et, hL]) (.ptr false b 0) rest.length 0 rfl (by omega) (fun j hj h => absurd h (by omega)) (.v (.int .i64 0))
 rcases h2 with ⟨rfl, h3, rfl⟩ | ⟨rfl, h3⟩
 · simp [S70, hN, hT, hL, hb, hr, h1]
 · simp [S70, hN, hT, hL, hb, hr, h1, py, h3]
def adv : List UInt8 → Nat × Nat → Nat × Nat
 | [], p => p
 | c :: l, p => adv l (if c = 10 then (p.1 + 1, 1) else (p.1, p.2 + 1))
theorem kU (a b : List UInt8) (p : Nat × Nat) : adv (a ++ b) p = adv b (adv a p) := by
 induction a generalizing p with
 | nil => rfl
 | cons c a ih => exact ih _
theorem pQ : ∀ (l : List UInt8) (p : Nat × Nat), 1 ≤ p.2 → p.1 ≤ (adv l p).1 ∧ (adv l p).1 ≤ p.1 + l.length ∧ 1 ≤ (adv l p).2 ∧ (adv l p).2 ≤ p.2 + l.length
 | [], p, h => by simp [adv, h]
 | c :: l, p, h => by
  simp only [adv, ak]; split
  · have := pQ l (p.1 + 1, 1) (by simp)
    simp only at this; omega
  · have := pQ l (p.1, p.2 + 1) (by simp)
    simp only at this; omega
abbrev rdc (rest : List UInt8) (p : Nat × Nat) : List PV := [str rest, .v (.int .i64 (p.1 : Int)), .v (.int .i64 (p.2 : Int))]
def gb (c : UInt8) : List PV := [.v (.int .u8 (c.toNat : Int))]
theorem jr (l : List UInt8) : iC (bs l) = l.map gb := rfl
theorem BD {l : List UInt8} {i : Nat} {c : Cap} (k : IntKind) (h : i < l.length) : cJ Tryd.prog 74 (.sl (l.map gb) c) (.v (.int k (i : Int))) = some (.fp (gb l[i]) 0) := by
 rw [DX]
 have h1 : eT (i : Int) (l.map gb).length = true := by simp [eT, h]
 rw [h1, cond_true, Int.toNat_natCast, List.getElem?_map, dC h]
 rfl
theorem yA {X : St} {N T Lb b : Nat} (hN : X.stk.length = N) (hT : X.tk.length = T) (hL : X.lp.length = Lb) (hb : b < N) {rest t : List UInt8} {p : Nat × Nat} (hp : 1 ≤ p.2) (h1 : p.1 + t.length < 4611686018427387904) (h2 : p.2 + t.length < 4611686018427387904) :
 ∀ (suf pre : List UInt8), t = pre ++ suf →
  itE (S69.b0 (E L) itE N Lb) [.ptr false b 0, str t, .sl (t.map gb) .dead, .v (.int .i64 (t.length : Int)), .v (.int .i64 (pre.length : Int))] ((X.af false b (rdc rest (adv pre p))).app [] [] []) =
   some (.exit 0, [.ptr false b 0, str t, .sl (t.map gb) .dead, .v (.int .i64 (t.length : Int)), .v (.int .i64 (t.length : Int))], (X.af false b (rdc rest (adv t p))).app [] [] []) := by
 intro suf
 induction suf with
 | nil =>
  intro pre ht
  have ht : t = pre := by simpa using ht
  subst ht; apply hG; simp [S69.b0, hN, hT, hL]
 | cons c suf ih =>
  intro pre ht
  have ht' : t = (pre ++ [c]) ++ suf := by simp [ht]
  have hl : pre.length < t.length := by rw [ht]; simp
  have hg : t[pre.length] = c := by simp [ht]
  have hb1 := pQ pre p hp; have w0 : IntKind.i64.wrap ((pre.length : Int) + 1) = (pre.length : Int) + 1 := IntWalk.i64_in _ (by omega); have w1 : IntKind.i64.wrap (((adv pre p).1 : Int) + 1) = ((adv pre p).1 : Int) + 1 := IntWalk.i64_in _ (by omega); have w2 : IntKind.i64.wrap (((adv pre p).2 : Int) + 1) = ((adv pre p).2 : Int) + 1 := IntWalk.i64_in _ (by omega); have hi := BD (l := t) (c := .dead) .i64 hl; rw [hg] at hi
  have ha : adv (pre ++ [c]) p = if c = 10 then ((adv pre p).1 + 1, 1) else ((adv pre p).1, (adv pre p).2 + 1) := by rw [kU]; rfl
  have ih := ih (pre ++ [c]) ht'; rw [ha] at ih
  have hlt : (pre.length : Int) < (t.length : Int) := by omega
  by_cases hc : c = 10
  · subst hc
    rw [bW (vs' := [.ptr false b 0, str t, .sl (t.map gb) .dead, .v (.int .i64 (t.length : Int)), .v (.int .i64 ((pre ++ [(10 : UInt8)]).length : Int))]) (st' := (X.af false b (rdc rest ((adv pre p).1 + 1, 1))).app [] [] [])]
    · simpa using ih
    · simp [S69.b0, hN, hT, hL, hb, hlt, hi, gb, rdc, w0, w1, w2]
  · have hc' : ¬ ((c.toNat : Int) = 10) := fun h => hc (UInt8.toNat_inj.1 (by simpa using Int.ofNat_inj.1 h))
    rw [bW (vs' := [.ptr false b 0, str t, .sl (t.map gb) .dead, .v (.int .i64 (t.length : Int)), .v (.int .i64 ((pre ++ [c]).length : Int))]) (st' := (X.af false b (rdc rest ((adv pre p).1, (adv pre p).2 + 1))).app [] [] [])]
    · rw [if_neg hc] at ih
      exact ih
    · simp [S69.b0, hN, hT, hL, hb, hlt, hi, gb, rdc, w0, w1, w2, hc']
theorem CC {s : St} {b n : Nat} {rest : List UInt8} {p : Nat × Nat} (hb : b < s.stk.length) (hn : n ≤ rest.length) (hp : 1 ≤ p.2) (h1 : p.1 + rest.length < 4611686018427387904) (h2 : p.2 + rest.length < 4611686018427387904) :
 E L (.func 69) [.ptr false b 0, .v (.int .i64 (n : Int))] (s.af false b (rdc rest p)) = some (str (rest.take n), s.af false b (rdc (rest.drop n) (adv (rest.take n) p))) := by
 rw [CY]; obtain ⟨N, T, Lb, hN, hT, hL⟩ := lens3 s; rw [hN] at hb
 conv => lhs; rw [← aj (s.af false b (rdc rest p))]
 have hl : (rest.take n).length ≤ rest.length := by simp; omega
 have h := yA hN hT hL hb (rest := rest.drop n) (t := rest.take n) hp (by omega) (by omega) (rest.take n) [] rfl; simp only [adv, aA] at h; have e1 := As (l := rest) .i64 hn; have e2 := Au (l := rest) .i64 hn; generalize rest.take n = t at h e1 ⊢; generalize rest.drop n = r at h e2 ⊢; simp only [rdc, gZ] at h; simp [S69, hN, hT, hL, hb, rdc, e1, e2, kA, jr, qF, h]
theorem contains_nil (sub : List UInt8) : Lib.contains [] sub = sub.isEmpty := by
 cases sub <;> simp [Lib.contains, Lib.index]
theorem index_ge (sub : List UInt8) : ∀ l : List UInt8, -1 ≤ Lib.index l sub
 | [] => by simp only [Lib.index]; split <;> omega
 | b :: l => by
  have ih := index_ge sub l; simp only [Lib.index]; split
  · omega
  · split
    · omega
    · omega
theorem contains_cons (b : UInt8) (l sub : List UInt8) : Lib.contains (b :: l) sub = (sub.isPrefixOf (b :: l) || Lib.contains l sub) := by
 have h := index_ge sub l; simp only [Lib.contains, Lib.index]
 by_cases h1 : sub.isPrefixOf (b :: l) = true
 · simp [h1]
 · simp only [h1, ab, if_false, Bool.false_or]
   by_cases h2 : Lib.index l sub = -1
   · simp [h2]
   · have : (Lib.index l sub == -1) = false := by simpa using h2
     rw [this]; simp only [ab, if_false, decide_eq_decide]; omega
def hR : List (List UInt8) → List UInt8
 | [] => []
 | w :: ws => w ++ 32 :: hR ws
theorem Ac {s w : List UInt8} {R : List UInt8} (hs : ∀ c ∈ s, c ≠ 32) (hw : ∀ c ∈ w, c ≠ 32) : (s ++ [32]).isPrefixOf (w ++ 32 :: R) = decide (s = w) := by
 induction s generalizing w with
 | nil =>
  cases w with
  | nil => simp
  | cons c w =>
   have : c ≠ 32 := hw c (by simp); simp [List.isPrefixOf, Ne.symm this]
 | cons a s ih =>
  have ha : a ≠ 32 := hs a (by simp)
  cases w with
  | nil => simp [List.isPrefixOf, ha]
  | cons c w =>
   have := ih (w := w) (fun c h => hs c (by simp [h])) (fun c h => hw c (by simp [h])); simp only [aR, List.isPrefixOf, this, List.cons.injEq]
   by_cases hac : a = c <;> simp [hac]
theorem rv {s w R : List UInt8} (hw : ∀ c ∈ w, c ≠ 32) : Lib.contains (w ++ 32 :: R) (32 :: s) = Lib.contains (32 :: R) (32 :: s) := by
 induction w with
 | nil => rfl
 | cons c w ih =>
  have hc : c ≠ 32 := hw c (by simp); rw [aR, contains_cons, ih fun c h => hw c (by simp [h])]; simp [List.isPrefixOf, Ne.symm hc]
theorem js {s : List UInt8} (hs : ∀ c ∈ s, c ≠ 32) : ∀ ws : List (List UInt8), (∀ w ∈ ws, ∀ c ∈ w, c ≠ 32) → Lib.contains (32 :: hR ws) (32 :: (s ++ [32])) = ws.contains s
 | [], _ => by
  rw [contains_cons, hR, contains_nil]
  cases s <;> simp [List.isPrefixOf]
 | w :: ws, h => by
  have hw := h w (by simp); rw [contains_cons, hR, rv hw, js hs ws fun w hw => h w (by simp [hw])]; simp only [List.isPrefixOf, beq_self_eq_true, bA, Ac hs hw, List.contains_cons, Bool.beq_eq_decide_eq]
theorem sS (l : List UInt8) (c : UInt8) : Lib.contains l [c] = l.contains c := by
 induction l with
 | nil => rfl
 | cons b l ih =>
  rw [contains_cons, ih, List.contains_cons]; simp [List.isPrefixOf]
theorem sA {a b : List UInt8} (h : a.length < 4294967281) (st : St) : E L (.func 133) [str a, str b] st = some (.v (.bool (Lib.contains a b)), st) := by
 rw [pZ (L := L) (f := 133) (g := iM kE) (by kernel_rfl)]; simp [AM.iM, AM.kv, AM.valOf, kE, cf, h, mb, iL, kL]
def kx : List (List UInt8) := [[114, 101, 99, 111, 114, 100], [103, 108, 111, 98, 97, 108], [102, 117, 110], [116, 104, 114, 101, 97, 100], [108, 101, 116], [118, 97, 114], [115, 101, 116], [112, 114, 105, 110, 116], [105, 102], [101, 108, 115, 101], [108, 111, 111, 112], [98, 114, 101, 97, 107], [99, 111, 110, 116, 105, 110, 117, 101], [97, 116, 111, 109, 105, 99], [99, 97, 108, 108], [108, 111, 97, 100], [110, 101, 119], [115, 105, 122, 101], [105, 110, 116], [114, 101, 97, 108], [105, 110, 116, 115], [110, 105, 108], [105, 110, 112, 117, 116], [116, 114, 117, 110, 99]]
def jO (l : List UInt8) : Bool := kx.contains l
theorem sx : ∀ w ∈ kx, (∀ c ∈ w, c ≠ 32) ∧ w ≠ [] := by decide
theorem wj : ([32, 114, 101, 99, 111, 114, 100, 32, 103, 108, 111, 98, 97, 108, 32, 102, 117, 110, 32, 116, 104, 114, 101, 97, 100, 32, 108, 101, 116, 32, 118, 97, 114, 32, 115, 101, 116, 32, 112, 114, 105, 110, 116, 32, 105, 102, 32, 101, 108, 115, 101, 32, 108, 111, 111, 112, 32, 98, 114, 101, 97, 107, 32, 99, 111, 110, 116, 105, 110, 117, 101, 32, 97, 116, 111, 109, 105, 99, 32, 99, 97, 108, 108, 32, 108, 111, 97, 100, 32, 110, 101, 119, 32, 115, 105, 122, 101, 32, 105, 110, 116, 32, 114, 101, 97, 108, 32, 105, 110, 116, 115, 32, 110, 105, 108, 32, 105, 110, 112, 117, 116, 32, 116, 114, 117, 110, 99, 32] : List UInt8) = 32 :: hR kx := by decide
theorem yS : (32 :: hR kx).length = 128 := by decide
theorem yR (l : List UInt8) : jO l = (!decide (l = []) && !l.contains 32 && Lib.contains (32 :: hR kx) (32 :: (l ++ [32]))) := by
 by_cases h0 : l = []
 · subst h0; simp [jO]; decide
 by_cases h1 : l.contains 32 = true
 · have : jO l = false := by
    cases h : jO l with
    | false => rfl
    | true =>
     have hm : l ∈ kx := by simpa [jO] using h
     have hc : (32 : UInt8) ∈ l := by simpa using h1
     exact absurd rfl ((sx l hm).1 32 hc)
   have hm1 : (32 : UInt8) ∈ l := by simpa using h1
   simp [this, hm1]
 · have h2 : ∀ c ∈ l, c ≠ 32 := fun c hc e => h1 (by subst e; simpa using hc)
   rw [js h2 kx fun w hw => (sx w hw).1]
   have hm1 : (32 : UInt8) ∉ l := by simpa using h1
   simp [jO, h0, hm1]
theorem wz {l : List UInt8} (h : l.length < 2147483648) (st : St) : E L (.func 108) [str l] st = some (.v (.bool (jO l)), st) := by
 rw [AZ]; obtain ⟨N, T, Lb, hN, hT, hL⟩ := lens3 st
 conv => lhs; rw [← aj (st)]
 have e1 : ∀ X : St, E L (.func 133) [str l, str [32]] X = some (.v (.bool (l.contains 32)), X) := fun X => by rw [sA (by omega), sS]
 have e2 : ∀ X : St, E L (.func 133) [str (32 :: hR kx), str (32 :: (l ++ [32]))] X = some (.v (.bool (Lib.contains (32 :: hR kx) (32 :: (l ++ [32])))), X) := fun X => by rw [sA (by rw [yS]; omega)]
 have e3 : aT Tryd.prog true .add 9 (str [32]) (str l) = some (str (32 :: l)) := by rw [pX _ _ _ _ _ (by simp [cf]; omega), mz]; rfl
 have e4 : aT Tryd.prog true .add 9 (str (32 :: l)) (str [32]) = some (str (32 :: (l ++ [32]))) := by rw [pX _ _ _ _ _ (by simp [cf]; omega), mz]; rfl
 have e5 : (bs l = bs []) = (l = []) := propext en; rw [yR]
 by_cases h0 : l = [] <;> cases h1 : l.contains 32 <;> simp only [DK, fw, aS, wj, cV, cy, bR, bS, cz, eY, fk, ef, db, ec, cZ, ed, da, fj, bT, gQ, dV, gR, gL, gG, AM.ae, aP, aQ, ag, ba, aO, aD, AM.onG, fJ, cd, ep, Ex.bf, cond_true, cond_false, cR, cQ, cP, cO, cN, cT, cM, cU, cS, eg, dc, de, cx, cW, AM.dj, AM.cellsOf, AM.av, bP, beq_true, cK, ak, aA, aZ, bx, bQ, decide_true, decide_false, bI, bA, bn, bz, aY, aC, ay, bu, aR, cX, cY, fg, az, bH, bw, bN, cv, dU, dZ, cG, eu, et, set_set, eB, dy, fG, dz, cF, bC, dx, dw, cE, dv, eA, eC, fA, fB, bD, cf, en, fw, dN, aK, hN, hT, hL, aS, aE, AM.aV, ah, cL, bL, bq, aW, aN, aM, AM.part, bg, aL, bY, cc, bZ, bX, bX.eK, AM.dL, bB, cq, e1, e2, e3, e4, h0, h1]
 all_goals rfl
def td (c : UInt8) : Bool := oO (c.toNat : Int)
def tZ (c : UInt8) : Bool := ua (c.toNat : Int)
def ew (c : UInt8) : Bool := td c || tZ c
def rB (i : Nat) (c : UInt8) : Bool := td c || (!decide (i = 0) && tZ c)
def ma : List UInt8 → Bool
 | [] => true
 | c :: r => td c && r.all ew
def pz (l : List UInt8) : Bool := !decide (l = []) && ma l && !jO l
theorem oT (l : List UInt8) : ma l = true ↔ ∀ i (h : i < l.length), rB i l[i] = true := by
 cases l with
 | nil => simp [ma]
 | cons c r =>
  simp only [ma, an, dD]
  constructor
  · rintro ⟨h1, h2⟩ i hi
    cases i with
    | zero => simp [rB, h1]
    | succ i =>
     have := h2 (r[i]'(by simpa using hi)) (List.getElem_mem _); simpa [rB, ew] using this
  · intro h
    refine ⟨by have := h 0 (by simp); rw [List.getElem_cons_zero] at this; simpa [rB] using this, fun x hx => ?_⟩; obtain ⟨i, hi, rfl⟩ := List.mem_iff_getElem.1 hx; have := h (i + 1) (by simpa using hi); rw [List.getElem_cons_succ] at this; simpa [rB, ew] using this
theorem jD {n : Int} (h : 128 ≤ n) : oO n = false := by simp [oO]; omega
theorem ju {n : Int} (h : 128 ≤ n) : ua n = false := by simp [ua]; omega
theorem yc {l : List UInt8} (hlen : l.length < 4611686018427387904) {X : St} {N T Lb : Nat} (hN : X.stk.length = N) (hT : X.tk.length = T) (hL : X.lp.length = Lb) : ∀ (k pos : Nat), l.length - pos = k → pos ≤ l.length → (∀ j (hj : j < l.length), j < pos → rB j l[j] = true) →
 ∃ pos', itE (nA.b0 (E L) itE N Lb) [str l, .v (.bool false), .it Lb] (X.app [] [] [.iter (bs l) pos]) = some (bif ma l then .exit 0 else .ret, [str l, .v (.bool false), .it Lb], X.app [] [] [.iter (bs l) pos']) := by
 intro k
 induction k using Nat.strongRecOn with
 | ind k ih =>
 intro pos hk hp hall
 by_cases hlt : pos < l.length
 · by_cases hb : l[pos].toNat < 128
   · have hd := AM.decode_ascii hlt hb
     have h0 : ((pos : Int) = 0) = (pos = 0) := propext (by omega)
     by_cases hq : rB pos l[pos] = true
     · obtain ⟨pos', h1⟩ := ih (l.length - (pos + 1)) (by omega) (pos + 1) rfl (by omega) (fun j hj hj' => by
        by_cases hjp : j = pos
        · subst hjp; exact hq
        · exact hall j hj (by omega))
       refine ⟨pos', ?_⟩; rw [bW (vs' := [str l, .v (.bool false), .it Lb]) (st' := X.app [] [] [.iter (bs l) (pos + 1)])]
       · exact h1
       · simp only [rB, td, tZ] at hq
         cases hl : oO (l[pos].toNat : Int) with
         | true => simp [nA.b0, hN, hT, hL, hlt, hd, iS, iT, hl]
         | false =>
          rw [hl] at hq; simp only [Bool.false_or, an, Bool.not_eq_true', decide_eq_false_iff_not] at hq; simp [nA.b0, hN, hT, hL, hlt, hd, iS, iT, hl, h0, hq.1, hq.2]
     · have hn : ma l = false := by
        cases h : ma l with
        | false => rfl
        | true => exact absurd ((oT l).1 h pos hlt) hq
       refine ⟨pos + 1, ?_⟩; rw [hn, cond_false]; apply eL; simp only [rB, td, tZ, Bool.or_eq_true, not_or, Bool.not_eq_true] at hq
       by_cases hz : pos = 0
       · subst hz
         simp [nA.b0, hN, hT, hL, hlt, hd, iS, iT, hq.1]
       · have hq2 := hq.2
         simp only [hz, decide_false, aY, bA] at hq2; simp [nA.b0, hN, hT, hL, hlt, hd, iS, iT, hq.1, h0, hz, hq2]
   · have hb' : 128 ≤ l[pos].toNat := by omega
     obtain ⟨hh1, hh2, hh3, hh4, hh5⟩ := AM.decode_high hlt hb'
     have hn : ma l = false := by
      cases h : ma l with
      | false => rfl
      | true =>
       have := (oT l).1 h pos hlt; simp [rB, td, tZ, jD (show (128 : Int) ≤ (l[pos].toNat : Int) by omega), ju (show (128 : Int) ≤ (l[pos].toNat : Int) by omega)] at this
     refine ⟨pos + (Utf8.decode (bs l) pos).2, ?_⟩; rw [hn, cond_false]; apply eL; have e1 := jD (show (128 : Int) ≤ ((Utf8.decode (bs l) pos).1 : Int) by omega); have e2 := ju (show (128 : Int) ≤ ((Utf8.decode (bs l) pos).1 : Int) by omega); have h0 : ((pos : Int) = 0) = (pos = 0) := propext (by omega)
     by_cases hz : pos = 0
     · subst hz
       simp [nA.b0, hN, hT, hL, hlt, iS, iT, e1, e2]
     · simp [nA.b0, hN, hT, hL, hlt, iS, iT, e1, e2, h0, hz]
 · have hn : ma l = true := (oT l).2 fun i hi => hall i hi (by omega)
   refine ⟨pos, ?_⟩; rw [hn, cond_true]; apply hG; simp [nA.b0, hN, hT, hL, hlt]
theorem AQ {l : List UInt8} (h : l.length < 2147483648) (st : St) : E L (.func 109) [str l] st = some (.v (.bool (pz l)), st) := by
 rw [A0]; obtain ⟨N, T, Lb, hN, hT, hL⟩ := lens3 st
 conv => lhs; rw [← aj (st)]
 have hr : ∀ X : St, X.lp.length = Lb → lJ Tryd.prog 9 (str l) (X.app [] [] []) = some (.it Lb, X.app [] [] [.iter (bs l) 0]) := fun X h => xq [] [] [] (by kernel_rfl) (bs l) h
 obtain ⟨pos', h1⟩ := yc (l := l) (by omega) hN hT hL l.length 0 rfl (by omega) (fun j hj h => absurd h (by omega))
 have hw : ∀ X : St, E L (.func 108) [str l] X = some (.v (.bool (jO l)), X) := wz h
 cases hn : ma l with
 | true =>
  rw [hn, cond_true] at h1
  by_cases h0 : l = []
  · subst h0
    simp [nA, hN, hT, hL, hr, h1, pz]
  · simp [nA, hN, hT, hL, hr, h1, pz, h0, hn, hw]
 | false =>
  rw [hn, cond_false] at h1; simp [nA, hN, hT, hL, hr, h1, pz, hn]
theorem Bd (P : Program) (cst : Bool) (t : TypeId) (a b : UInt8) : aT P cst .or t (.v (.int .u8 (a.toNat : Int))) (.v (.int .u8 (b.toNat : Int))) = some (.v (.int .u8 ((a ||| b).toNat : Int))) := by
 have h : binOp .or t (.int .u8 (a.toNat : Int)) (.int .u8 (b.toNat : Int)) = pure (.int .u8 ((a ||| b).toNat : Int)) := by
  have e : ∀ x : UInt8, BitVec.ofInt 8 (x.toNat : Int) = x.toBitVec := fun x => by
   rw [BitVec.ofInt_natCast]; exact BitVec.eq_of_toNat_eq (by simp)
  have e2 : (BitVec.ofInt IntKind.u8.bits (a.toNat : Int) ||| BitVec.ofInt IntKind.u8.bits (b.toNat : Int)).toNat = (a ||| b).toNat := by
   show (BitVec.ofInt 8 (a.toNat : Int) ||| BitVec.ofInt 8 (b.toNat : Int)).toNat = _
   rw [e, e]; rfl
  have e3 : IntKind.u8.wrap ((a ||| b).toNat : Int) = ((a ||| b).toNat : Int) := IntWalk.u8_in _ (by have := (a ||| b).toNat_lt; omega)
  show (pure (.int .u8 (IntKind.u8.wrap ((BitVec.ofInt IntKind.u8.bits (a.toNat : Int) ||| BitVec.ofInt IntKind.u8.bits (b.toNat : Int)).toNat : Int))) : Sem Value) = _
  rw [e2, e3]
 rw [nH, h]; exact fD P _ rfl
theorem sB (c : UInt8) (st : St) : E L (.func 145) [.v (.int .u8 (c.toNat : Int))] st = some (.v (.int .u8 ((c ||| 32).toNat : Int)), st) := by
 rw [A4]; obtain ⟨N, T, Lb, hN, hT, hL⟩ := lens3 st
 conv => lhs; rw [← aj (st)]
 have h := Bd Tryd.prog true 5 c 32; simp only [show ((32 : UInt8).toNat : Int) = 32 from rfl] at h; simp [DM, hN, hT, hL, h]
def qq (c : UInt8) : Nat := if 48 ≤ c.toNat ∧ c.toNat ≤ 57 then c.toNat - 48 else if 97 ≤ (c ||| 32).toNat ∧ (c ||| 32).toNat ≤ 122 then (c ||| 32).toNat - 87 else 255
def pu (B cut mx : Nat) : List UInt8 → Nat → Nat × Option Nat
 | [], n => (n, none)
 | c :: t, n => if B ≤ qq c then (0, some 2) else if cut ≤ n then (mx, some 1) else if mx < n * B + qq c then (mx, some 1) else pu B cut mx t (n * B + qq c)
theorem tC (n : Int) : IntKind.u64.wrap n = n % 18446744073709551616 := by
 simp [IntKind.wrap, IntKind.bits, IntKind.signed]
abbrev pV (B cut mx : Nat) (t s0 : List UInt8) (n i : Nat) : List PV := [PV.v (.int .i64 (B : Int)), .v (.int .u64 0), .v .nilIface, .v (.bool false), str s0, .v (.int .u64 (cut : Int)), .v (.int .u64 (mx : Int)), .v (.bool false), .v (.int .u64 (n : Int)), .sl (t.map gb) .dead, .v (.int .i64 (t.length : Int)), .v (.int .i64 (i : Int))]
theorem uA {t s0 : List UInt8} {B cut mx n i d : Nat} (hB : 2 ≤ B ∧ B ≤ 36) (hcut : ∀ n, n < cut → n * B < 18446744073709551616) (hmx : mx < 18446744073709551616) (hc64 : cut < 18446744073709551616) {X : St} {N T Lb : Nat} (hN : X.stk.length = N) (hT : X.tk.length = T) (hL : X.lp.length = Lb) (hi : i < t.length) (hlen : t.length < 4611686018427387904) (ht : 48 ≤ t[i].toNat ∧ t[i].toNat ≤ 57) (hd : d = t[i].toNat - 48) :
 ∃ vs, ig.b0 (E L) itE N Lb (pV B cut mx t s0 n i) (X.app [] [] []) = some (if B ≤ d ∨ cut ≤ n ∨ mx < n * B + d then .ret else .normal, vs, X.app [] [] []) ∧
  (if B ≤ d then AM.ae vs 1 = .v (.int .u64 0) ∧ AM.ae vs 2 = .ifc 192 (.int .i64 2) else if cut ≤ n ∨ mx < n * B + d then AM.ae vs 1 = .v (.int .u64 (mx : Int)) ∧ AM.ae vs 2 = .ifc 192 (.int .i64 1) else vs = pV B cut mx t s0 (n * B + d) (i + 1)) := by
 have hx := BD (l := t) (c := .dead) .i64 hi
 generalize t[i] = c at *
 have clt := c.toNat_lt
 have hlt : (i : Int) < (t.length : Int) := by omega
 have wi : IntKind.i64.wrap ((i : Int) + 1) = (i : Int) + 1 := IntWalk.i64_in _ (by omega); have wB8 : IntKind.u8.wrap (B : Int) = B := IntWalk.u8_in _ (by omega); have wB64 : IntKind.u64.wrap (B : Int) = B := IntWalk.u64_in _ (by omega)
 have i95 : ¬ ((c.toNat : Int) = 95) := by omega
 have i1 : (48 : Int) ≤ (c.toNat : Int) := by omega
 have i2 : (c.toNat : Int) ≤ 57 := by omega
 have wd : IntKind.u8.wrap ((c.toNat : Int) - 48) = (d : Int) := by rw [IntWalk.u8_in _ (by omega)]; omega
 have wd64 : IntKind.u64.wrap (d : Int) = d := IntWalk.u64_in _ (by omega)
 by_cases g1 : B ≤ d
 · have j1 : (B : Int) ≤ (d : Int) := by omega
   simp [ig.b0, hN, hT, hL, hlt, hx, gb, i95, i1, i2, wd, eS, gV, gw, gx, wB8, wB64, wd64, wi, g1, j1]
 have j1 : ¬ ((B : Int) ≤ (d : Int)) := by omega
 by_cases g2 : cut ≤ n
 · have j2 : (cut : Int) ≤ (n : Int) := by omega
   simp [ig.b0, hN, hT, hL, hlt, hx, gb, i95, i1, i2, wd, eS, gV, gw, gx, wB8, wB64, wd64, wi, g1, j1, g2, j2]
 have j2 : ¬ ((cut : Int) ≤ (n : Int)) := by omega
 have hm := hcut n (by omega)
 have wm : IntKind.u64.wrap ((n : Int) * (B : Int)) = ((n * B : Nat) : Int) := by rw [← Int.natCast_mul]; exact IntWalk.u64_in _ (by omega)
 generalize n * B = m at *
 by_cases g3 : mx < m + d
 · by_cases g4 : m + d < 18446744073709551616
   · have wa : IntKind.u64.wrap ((m : Int) + (d : Int)) = (m : Int) + (d : Int) := IntWalk.u64_in _ (by omega)
     have j3 : ¬ ((m : Int) + (d : Int) < (m : Int)) := by omega
     have j4 : (mx : Int) < (m : Int) + (d : Int) := by omega
     simp [ig.b0, hN, hT, hL, hlt, hx, gb, i95, i1, i2, wd, eS, gV, gw, gx, wB8, wB64, wd64, wi, g1, j1, g2, j2, wm, wa, g3, j3, j4]
   · have wa : IntKind.u64.wrap ((m : Int) + (d : Int)) = (m : Int) + (d : Int) - 18446744073709551616 := by rw [tC]; omega
     have j3 : (m : Int) + (d : Int) - 18446744073709551616 < (m : Int) := by omega
     simp [ig.b0, hN, hT, hL, hlt, hx, gb, i95, i1, i2, wd, eS, gV, gw, gx, wB8, wB64, wd64, wi, g1, j1, g2, j2, wm, wa, g3, j3]
 · have wa : IntKind.u64.wrap ((m : Int) + (d : Int)) = (m : Int) + (d : Int) := IntWalk.u64_in _ (by omega)
   have j3 : ¬ ((m : Int) + (d : Int) < (m : Int)) := by omega
   have j4 : ¬ ((mx : Int) < (m : Int) + (d : Int)) := by omega
   simp [ig.b0, hN, hT, hL, hlt, hx, gb, i95, i1, i2, wd, eS, gV, gw, gx, wB8, wB64, wd64, wi, g1, j1, g2, j2, wm, wa, g3, j3, j4]
theorem tp {t s0 : List UInt8} {B cut mx n i d : Nat} (hB : 2 ≤ B ∧ B ≤ 36) (hcut : ∀ n, n < cut → n * B < 18446744073709551616) (hmx : mx < 18446744073709551616) (hc64 : cut < 18446744073709551616) {X : St} {N T Lb : Nat} (hN : X.stk.length = N) (hT : X.tk.length = T) (hL : X.lp.length = Lb) (hi : i < t.length) (hlen : t.length < 4611686018427387904) (h57 : 57 < t[i].toNat) (h95 : t[i].toNat ≠ 95) (ht : 97 ≤ (t[i] ||| 32).toNat ∧ (t[i] ||| 32).toNat ≤ 122) (hd : d = (t[i] ||| 32).toNat - 87) :
 ∃ vs, ig.b0 (E L) itE N Lb (pV B cut mx t s0 n i) (X.app [] [] []) = some (if B ≤ d ∨ cut ≤ n ∨ mx < n * B + d then .ret else .normal, vs, X.app [] [] []) ∧
  (if B ≤ d then AM.ae vs 1 = .v (.int .u64 0) ∧ AM.ae vs 2 = .ifc 192 (.int .i64 2) else if cut ≤ n ∨ mx < n * B + d then AM.ae vs 1 = .v (.int .u64 (mx : Int)) ∧ AM.ae vs 2 = .ifc 192 (.int .i64 1) else vs = pV B cut mx t s0 (n * B + d) (i + 1)) := by
 have hx := BD (l := t) (c := .dead) .i64 hi
 generalize t[i] = c at *
 have clt := c.toNat_lt
 have hlt : (i : Int) < (t.length : Int) := by omega
 have wi : IntKind.i64.wrap ((i : Int) + 1) = (i : Int) + 1 := IntWalk.i64_in _ (by omega); have wB8 : IntKind.u8.wrap (B : Int) = B := IntWalk.u8_in _ (by omega); have wB64 : IntKind.u64.wrap (B : Int) = B := IntWalk.u64_in _ (by omega)
 have i95 : ¬ ((c.toNat : Int) = 95) := by omega
 have i1 : (48 : Int) ≤ (c.toNat : Int) := by omega
 have i2 : ¬ ((c.toNat : Int) ≤ 57) := by omega
 have hl := sB c
 generalize (c ||| 32).toNat = lo at *
 have i3 : (97 : Int) ≤ (lo : Int) := by omega
 have i4 : (lo : Int) ≤ 122 := by omega
 have wd0 : IntKind.u8.wrap ((lo : Int) - 97) = (lo : Int) - 97 := IntWalk.u8_in _ (by omega)
 have wd : IntKind.u8.wrap ((lo : Int) - 97 + 10) = (d : Int) := by rw [IntWalk.u8_in _ (by omega)]; omega
 have wd64 : IntKind.u64.wrap (d : Int) = d := IntWalk.u64_in _ (by omega)
 by_cases g1 : B ≤ d
 · have j1 : (B : Int) ≤ (d : Int) := by omega
   simp [ig.b0, hN, hT, hL, hlt, hx, gb, i95, i1, i2, hl, i3, i4, wd0, wd, eS, gV, gw, gx, wB8, wB64, wd64, wi, g1, j1]
 have j1 : ¬ ((B : Int) ≤ (d : Int)) := by omega
 by_cases g2 : cut ≤ n
 · have j2 : (cut : Int) ≤ (n : Int) := by omega
   simp [ig.b0, hN, hT, hL, hlt, hx, gb, i95, i1, i2, hl, i3, i4, wd0, wd, eS, gV, gw, gx, wB8, wB64, wd64, wi, g1, j1, g2, j2]
 have j2 : ¬ ((cut : Int) ≤ (n : Int)) := by omega
 have hm := hcut n (by omega)
 have wm : IntKind.u64.wrap ((n : Int) * (B : Int)) = ((n * B : Nat) : Int) := by rw [← Int.natCast_mul]; exact IntWalk.u64_in _ (by omega)
 generalize n * B = m at *
 by_cases g3 : mx < m + d
 · by_cases g4 : m + d < 18446744073709551616
   · have wa : IntKind.u64.wrap ((m : Int) + (d : Int)) = (m : Int) + (d : Int) := IntWalk.u64_in _ (by omega)
     have j3 : ¬ ((m : Int) + (d : Int) < (m : Int)) := by omega
     have j4 : (mx : Int) < (m : Int) + (d : Int) := by omega
     simp [ig.b0, hN, hT, hL, hlt, hx, gb, i95, i1, i2, hl, i3, i4, wd0, wd, eS, gV, gw, gx, wB8, wB64, wd64, wi, g1, j1, g2, j2, wm, wa, g3, j3, j4]
   · have wa : IntKind.u64.wrap ((m : Int) + (d : Int)) = (m : Int) + (d : Int) - 18446744073709551616 := by rw [tC]; omega
     have j3 : (m : Int) + (d : Int) - 18446744073709551616 < (m : Int) := by omega
     simp [ig.b0, hN, hT, hL, hlt, hx, gb, i95, i1, i2, hl, i3, i4, wd0, wd, eS, gV, gw, gx, wB8, wB64, wd64, wi, g1, j1, g2, j2, wm, wa, g3, j3]
 · have wa : IntKind.u64.wrap ((m : Int) + (d : Int)) = (m : Int) + (d : Int) := IntWalk.u64_in _ (by omega)
   have j3 : ¬ ((m : Int) + (d : Int) < (m : Int)) := by omega
   have j4 : ¬ ((mx : Int) < (m : Int) + (d : Int)) := by omega
   simp [ig.b0, hN, hT, hL, hlt, hx, gb, i95, i1, i2, hl, i3, i4, wd0, wd, eS, gV, gw, gx, wB8, wB64, wd64, wi, g1, j1, g2, j2, wm, wa, g3, j3, j4]
theorem vO {t s0 : List UInt8} {B cut mx n i : Nat} (hB : 2 ≤ B ∧ B ≤ 36) (hcut : ∀ n, n < cut → n * B < 18446744073709551616) (hmx : mx < 18446744073709551616) (hc64 : cut < 18446744073709551616) {X : St} {N T Lb : Nat} (hN : X.stk.length = N) (hT : X.tk.length = T) (hL : X.lp.length = Lb) (hi : i < t.length) (hlen : t.length < 4611686018427387904) (ht : ¬ (48 ≤ t[i].toNat ∧ t[i].toNat ≤ 57)) (ht' : ¬ (97 ≤ (t[i] ||| 32).toNat ∧ (t[i] ||| 32).toNat ≤ 122)) :
 ∃ vs, ig.b0 (E L) itE N Lb (pV B cut mx t s0 n i) (X.app [] [] []) = some (.ret, vs, X.app [] [] []) ∧ AM.ae vs 1 = .v (.int .u64 0) ∧ AM.ae vs 2 = .ifc 192 (.int .i64 2) := by
 have hx := BD (l := t) (c := .dead) .i64 hi
 generalize t[i] = c at *
 have clt := c.toNat_lt
 have hlt : (i : Int) < (t.length : Int) := by omega
 have wi : IntKind.i64.wrap ((i : Int) + 1) = (i : Int) + 1 := IntWalk.i64_in _ (by omega); have wB8 : IntKind.u8.wrap (B : Int) = B := IntWalk.u8_in _ (by omega); have wB64 : IntKind.u64.wrap (B : Int) = B := IntWalk.u64_in _ (by omega)
 by_cases h95 : c = 95
 · subst h95
   have hl : ∀ st, E L (.func 145) [.v (.int .u8 95)] st = some (.v (.int .u8 127), st) := fun st => sB 95 st
   simp [ig.b0, hN, hT, hL, hlt, hx, gb, eS, hl]
 have i95 : ¬ ((c.toNat : Int) = 95) := fun h => h95 (UInt8.toNat_inj.1 (by simpa using Int.ofNat_inj.1 h))
 have hl := sB c
 generalize (c ||| 32).toNat = lo at *
 by_cases i1 : (48 : Int) ≤ (c.toNat : Int)
 · have i2 : ¬ ((c.toNat : Int) ≤ 57) := by omega
   by_cases i3 : (97 : Int) ≤ (lo : Int)
   · have i4 : ¬ ((lo : Int) ≤ 122) := by omega
     simp [ig.b0, hN, hT, hL, hlt, hx, gb, eS, hl, i95, i1, i2, i3, i4]
   · simp [ig.b0, hN, hT, hL, hlt, hx, gb, eS, hl, i95, i1, i2, i3]
 · by_cases i3 : (97 : Int) ≤ (lo : Int)
   · have i4 : ¬ ((lo : Int) ≤ 122) := by omega
     simp [ig.b0, hN, hT, hL, hlt, hx, gb, eS, hl, i95, i1, i3, i4]
   · simp [ig.b0, hN, hT, hL, hlt, hx, gb, eS, hl, i95, i1, i3]
theorem rX (c : UInt8) (h : 97 ≤ (c ||| 32).toNat ∧ (c ||| 32).toNat ≤ 122) : 57 < c.toNat ∧ c.toNat ≠ 95 := by
 have key : ∀ n, n < 256 → 97 ≤ (UInt8.ofNat n ||| 32).toNat ∧ (UInt8.ofNat n ||| 32).toNat ≤ 122 → 57 < (UInt8.ofNat n).toNat ∧ (UInt8.ofNat n).toNat ≠ 95 := by decide +kernel
 have := key c.toNat c.toNat_lt; rw [UInt8.ofNat_toNat] at this; exact this h
def PLo (t s0 : List UInt8) (B cut mx : Nat) (X : St) (N Lb : Nat) (suf : List UInt8) (n i : Nat) : Prop :=
 ∃ x vs, itE (ig.b0 (E L) itE N Lb) (pV B cut mx t s0 n i) (X.app [] [] []) = some (x, vs, X.app [] [] []) ∧
  (match (pu B cut mx suf n).2 with
   | none => x = .exit 3 ∧ vs = pV B cut mx t s0 (pu B cut mx suf n).1 t.length
   | some k => x = .ret ∧ AM.ae vs 1 = .v (.int .u64 ((pu B cut mx suf n).1 : Int)) ∧ AM.ae vs 2 = .ifc 192 (.int .i64 (k : Int)))
theorem qU {t s0 : List UInt8} {B cut mx : Nat} (hB : 2 ≤ B ∧ B ≤ 36) (hcut : ∀ n, n < cut → n * B < 18446744073709551616) (hmx : mx < 18446744073709551616) (hc64 : cut < 18446744073709551616) {X : St} {N T Lb : Nat} (hN : X.stk.length = N) (hT : X.tk.length = T) (hL : X.lp.length = Lb) (hlen : t.length < 4611686018427387904) :
 ∀ (suf pre : List UInt8) (n : Nat), t = pre ++ suf →
 PLo t s0 B cut mx X N Lb suf n pre.length := by
 intro suf
 induction suf with
 | nil =>
  intro pre n ht
  have ht : t = pre := by simpa using ht
  subst ht; refine ⟨.exit 3, pV B cut mx t s0 n t.length, ?_, rfl, rfl⟩; apply hG; simp [ig.b0, hN, hT, hL]
 | cons c suf ih =>
  intro pre n ht
  have ht' : t = (pre ++ [c]) ++ suf := by simp [ht]
  have hl : pre.length < t.length := by rw [ht]; simp
  have hg : t[pre.length] = c := by simp [ht]
  have fin : ∀ d, d = qq c → (∃ vs, ig.b0 (E L) itE N Lb (pV B cut mx t s0 n pre.length) (X.app [] [] []) = some (if B ≤ d ∨ cut ≤ n ∨ mx < n * B + d then .ret else .normal, vs, X.app [] [] []) ∧
   (if B ≤ d then AM.ae vs 1 = .v (.int .u64 0) ∧ AM.ae vs 2 = .ifc 192 (.int .i64 2) else if cut ≤ n ∨ mx < n * B + d then AM.ae vs 1 = .v (.int .u64 (mx : Int)) ∧ AM.ae vs 2 = .ifc 192 (.int .i64 1) else vs = pV B cut mx t s0 (n * B + d) (pre.length + 1))) → PLo t s0 B cut mx X N Lb (c :: suf) n pre.length := by
   intro d hd h; obtain ⟨vs, h1, h2⟩ := h; subst hd; simp only [PLo, pu]
   by_cases g1 : B ≤ qq c
   · rw [if_pos (.inl g1)] at h1
     rw [if_pos g1] at h2; rw [if_pos g1]; exact ⟨.ret, vs, eL h1, rfl, h2.1, h2.2⟩
   · rw [if_neg g1] at h2
     rw [if_neg g1]
     by_cases g2 : cut ≤ n ∨ mx < n * B + qq c
     · rw [if_pos (.inr g2)] at h1
       rw [if_pos g2] at h2; refine ⟨.ret, vs, eL h1, ?_⟩
       by_cases g3 : cut ≤ n
       · rw [if_pos g3]; exact ⟨rfl, h2.1, h2.2⟩
       · rw [if_neg g3, if_pos (g2.resolve_left g3)]; exact ⟨rfl, h2.1, h2.2⟩
     · rw [if_neg (by rw [not_or]; exact ⟨g1, g2⟩)] at h1
       rw [if_neg g2] at h2; subst h2; rw [if_neg (fun h => g2 (.inl h)), if_neg (fun h => g2 (.inr h)), bW h1]; have := ih (pre ++ [c]) (n * B + qq c) ht'; rw [bh, bE] at this; simp only [PLo] at this; exact this
  by_cases h1 : 48 ≤ c.toNat ∧ c.toNat ≤ 57
  · exact fin (c.toNat - 48) (by rw [qq, if_pos h1]) (uA hB hcut hmx hc64 hN hT hL hl hlen (by rw [hg]; exact h1) (by rw [hg]))
  · by_cases h2 : 97 ≤ (c ||| 32).toNat ∧ (c ||| 32).toNat ≤ 122
    · exact fin ((c ||| 32).toNat - 87) (by rw [qq, if_neg h1, if_pos h2]) (tp hB hcut hmx hc64 hN hT hL hl hlen (by rw [hg]; exact (rX c h2).1) (by rw [hg]; exact (rX c h2).2) (by rw [hg]; exact h2) (by rw [hg]))
    · have hd : qq c = 255 := by rw [qq, if_neg h1, if_neg h2]
      obtain ⟨vs, e1, e2, e3⟩ := vO (s0 := s0) (n := n) hB hcut hmx hc64 hN hT hL hl hlen (by rw [hg]; exact h1) (by rw [hg]; exact h2); simp only [PLo, pu, hd]; rw [if_pos (by omega)]; exact ⟨.ret, vs, eL e1, rfl, e2, e3⟩
def puR (B cut mx : Nat) (t : List UInt8) : Nat × Option Nat := if t = [] then (0, some 2) else pu B cut mx t 0
def jT : Option Nat → PV
 | none => .v .nilIface
 | some k => .ifc 192 (.int .i64 (k : Int))
theorem Cu : aT Tryd.prog true .shl 45 (.v (.int .u64 1)) (.v (.int .u64 63)) = some (.v (.int .u64 9223372036854775808)) := by kernel_rfl
theorem AU {t : List UInt8} (h : t.length < 2147483648) (st : St) : E L (.func 134) [str t, .v (.int .i64 10), .v (.int .i64 63)] st = some (.tup [.v (.int .u64 ((puR 10 1844674407370955162 9223372036854775807 t).1 : Int)), jT (puR 10 1844674407370955162 9223372036854775807 t).2], st) := by
 rw [wG]; obtain ⟨N, T, Lb, hN, hT, hL⟩ := lens3 st
 conv => lhs; rw [← aj (st)]
 by_cases h0 : t = []
 · subst h0
   simp [ig, hN, hT, hL, eS, puR, jT]
 have wb : IntKind.u64.wrap 63 = 63 := IntWalk.u64_in _ (by omega)
 have wm : IntKind.u64.wrap 9223372036854775807 = 9223372036854775807 := by exact IntWalk.u64_in _ (by omega)
 obtain ⟨x, vs, h1, h2⟩ := qU (t := t) (s0 := t) (B := 10) (cut := 1844674407370955162) (mx := 9223372036854775807) (by omega) (fun n h => by omega) (by omega) (by omega) hN hT hL (by omega) t [] 0 rfl
 have e0 : puR 10 1844674407370955162 9223372036854775807 t = pu 10 1844674407370955162 9223372036854775807 t 0 := by rw [puR, if_neg h0]
 rw [e0]; generalize pu 10 1844674407370955162 9223372036854775807 t 0 = q at h2 ⊢; obtain ⟨r, k⟩ := q; simp only [aA, pV, gZ, aa] at h1 h2
 cases k with
 | none =>
  obtain ⟨rfl, rfl⟩ := h2; simp [ig, hN, hT, hL, eS, h0, kV, kA, jr, qF, Cu, wb, wm, h1, jT]
 | some k =>
  obtain ⟨rfl, h3, h4⟩ := h2; simp [AM.ae] at h3 h4; simp [ig, hN, hT, hL, eS, h0, kV, kA, jr, qF, Cu, wb, wm, h1, jT, h3, h4]
theorem Cv : aT Tryd.prog true .shl 45 (.v (.int .u64 1)) (.v (.int .u64 64)) = some (.v (.int .u64 0)) := by kernel_rfl
theorem AV {t : List UInt8} (h : t.length < 2147483648) (st : St) : E L (.func 134) [str t, .v (.int .i64 16), .v (.int .i64 64)] st = some (.tup [.v (.int .u64 ((puR 16 1152921504606846976 18446744073709551615 t).1 : Int)), jT (puR 16 1152921504606846976 18446744073709551615 t).2], st) := by
 rw [wG]; obtain ⟨N, T, Lb, hN, hT, hL⟩ := lens3 st
 conv => lhs; rw [← aj (st)]
 by_cases h0 : t = []
 · subst h0
   simp [ig, hN, hT, hL, eS, puR, jT]
 have wb : IntKind.u64.wrap 64 = 64 := IntWalk.u64_in _ (by omega)
 have wm : IntKind.u64.wrap (-1) = 18446744073709551615 := by rw [tC]; omega
 obtain ⟨x, vs, h1, h2⟩ := qU (t := t) (s0 := t) (B := 16) (cut := 1152921504606846976) (mx := 18446744073709551615) (by omega) (fun n h => by omega) (by omega) (by omega) hN hT hL (by omega) t [] 0 rfl
 have e0 : puR 16 1152921504606846976 18446744073709551615 t = pu 16 1152921504606846976 18446744073709551615 t 0 := by rw [puR, if_neg h0]
 rw [e0]; generalize pu 16 1152921504606846976 18446744073709551615 t 0 = q at h2 ⊢; obtain ⟨r, k⟩ := q; simp only [aA, pV, gZ, aa] at h1 h2
 cases k with
 | none =>
  obtain ⟨rfl, rfl⟩ := h2; simp [ig, hN, hT, hL, eS, h0, kV, kA, jr, qF, Cv, wb, wm, h1, jT]
 | some k =>
  obtain ⟨rfl, h3, h4⟩ := h2; simp [AM.ae] at h3 h4; simp [ig, hN, hT, hL, eS, h0, kV, kA, jr, qF, Cv, wb, wm, h1, jT, h3, h4]
theorem Ag {g : List Value → Option PV} {args : List PV} {vs : List Value} {p : PV} (h1 : kv args = some vs) (h2 : g vs = some p) (h3 : mb p = true) (st : St) : iM g args st = some (p, st) := by
 simp only [AM.iM, h1, h2, ag, h3, cond_true]
theorem wB {f t : List UInt8} {b z : Int} {k : Nat} (h : t.length < 2147483648) (hk : k = 1 ∨ k = 2) (st : St) : E L (.func 135) [str f, str t, .v (.int .i64 b), .v (.int .i64 z), .ifc 192 (.int .i64 (k : Int))] st = some (.ni, st) := by
 rw [pZ (L := L) (f := 135) (g := iM (qR 192)) (by kernel_rfl)]
 have h1 : t.length ≤ 281474976710656 := by omega
 have h2 : (k : Int) = 1 ∨ (k : Int) = 2 := by omega
 simp [AM.iM, AM.kv, AM.valOf, qR, cf, h1, h2, mb]
theorem CI {n : Nat} (h : n < 18446744073709551616) (st : St) : E L (.func 99) [.v (.int .u64 (n : Int)), .v (.int .i64 10)] st = some (str (Lib.decDigits n), st) := by
 rw [pZ (L := L) (f := 99) (g := iM yg) (by kernel_rfl)]
 have h1 : (n : Int) < 18446744073709551616 := by omega
 have h0 : (0 : Int) ≤ (n : Int) := by omega
 have e : yg [.int .u64 (n : Int), .int .i64 10] = some (str (Lib.decDigits n)) := by
  unfold yg
  show (if (10 : Int) = 10 ∧ 0 ≤ (n : Int) ∧ (n : Int) < 18446744073709551616 then some (PV.v (.string ⟨(Lib.decDigits (n : Int).toNat).toArray⟩)) else none) = _
  rw [if_pos ⟨rfl, h0, h1⟩, Int.toNat_natCast]
  rfl
 exact Ag rfl e rfl st
theorem AP (l : List UInt8) (c : UInt8) (st : St) : E L (.func 106) [str l, .v (.int .u8 (c.toNat : Int))] st = some (.v (.int .i64 (Lib.indexByte l c)), st) := by
 rw [pZ (L := L) (f := 106) (g := iM jH) (by kernel_rfl)]; simp [AM.iM, AM.kv, AM.valOf, jH, mb, iL, kL]
theorem AT {a b : List UInt8} (h : a.length < 4294967281) (hb : b.length < 4294967281) (h1 : ∀ c ∈ a, c.toNat < 128) (h2 : ∀ c ∈ b, c.toNat < 128) (st : St) : E L (.func 112) [str a, str b] st = some (.v (.bool (Lib.containsAny a b)), st) := by
 rw [pZ (L := L) (f := 112) (g := iM ir) (by kernel_rfl)]
 have e1 : nb (bs a) = true := by simpa [nb, kL] using h1
 have e2 : nb (bs b) = true := by simpa [nb, kL] using h2
 simp [AM.iM, AM.kv, AM.valOf, ir, cf, h, hb, e1, e2, mb, iL, kL]
theorem vf (l : List UInt8) (c : UInt8) (st : St) : E L (.func 72) [str l, .v (.int .u8 (c.toNat : Int))] st = some (.v (.int .i64 (Lib.indexByte l c)), st) := by
 rw [C4]; obtain ⟨N, T, Lb, hN, hT, hL⟩ := lens3 st
 conv => lhs; rw [← aj (st)]
 simp [S72, hN, hT, hL, AP]
theorem indexByte_ge (c : UInt8) : ∀ l : List UInt8, -1 ≤ Lib.indexByte l c ∧ (0 ≤ Lib.indexByte l c ↔ c ∈ l)
 | [] => by simp [Lib.indexByte]
 | b :: l => by
  have ih := indexByte_ge c l; simp only [Lib.indexByte]
  by_cases hb : b = c
  · simp [hb]
  · have hb' : (b == c) = false := by simpa using hb
    have hb2 : ¬ c = b := fun h => hb h.symm
    rw [hb']; simp only [ab, if_false, List.mem_cons, hb2, false_or]
    by_cases h1 : Lib.indexByte l c = -1
    · have : (Lib.indexByte l c == -1) = true := by simpa using h1
      rw [if_pos this]; rw [h1] at ih; exact ⟨by omega, by rw [← ih.2]⟩
    · have : (Lib.indexByte l c == -1) = false := by simpa using h1
      rw [this]; simp only [ab, if_false]; exact ⟨by omega, by rw [← ih.2]; omega⟩
def ix : Option Nat → PV
 | none => .v .nilIface
 | some _ => .ni
theorem Af {B cut mx : Nat} : ∀ (t : List UInt8) (n : Nat) (k : Nat), (pu B cut mx t n).2 = some k → k = 1 ∨ k = 2
 | [], n, k, h => by cases h
 | c :: t, n, k, h => by
  simp only [pu] at h; split at h
  · right; exact (Option.some.inj h).symm
  · split at h
    · left; exact (Option.some.inj h).symm
    · split at h
      · left; exact (Option.some.inj h).symm
      · exact Af t _ k h
theorem xu {B cut mx : Nat} {t : List UInt8} {k : Nat} (h : (puR B cut mx t).2 = some k) : k = 1 ∨ k = 2 := by
 rw [puR] at h; split at h
 · right; exact (Option.some.inj h).symm
 · exact Af t 0 k h
theorem AR {t : List UInt8} (h : t.length < 2147483648) (st : St) : E L (.func 110) [str t, .v (.int .i64 10), .v (.int .i64 63)] st = some (.tup [.v (.int .u64 ((puR 10 1844674407370955162 9223372036854775807 t).1 : Int)), ix (puR 10 1844674407370955162 9223372036854775807 t).2], st) := by
 rw [wD]; obtain ⟨N, T, Lb, hN, hT, hL⟩ := lens3 st
 conv => lhs; rw [← aj (st)]
 have h1 : ∀ X, E L (.func 134) [str t, .v (.int .i64 10), .v (.int .i64 63)] X = some (.tup [.v (.int .u64 ((puR 10 1844674407370955162 9223372036854775807 t).1 : Int)), jT (puR 10 1844674407370955162 9223372036854775807 t).2], X) := AU h
 have hk : ∀ k, (puR 10 1844674407370955162 9223372036854775807 t).2 = some k → k = 1 ∨ k = 2 := fun k h => xu h
 generalize puR 10 1844674407370955162 9223372036854775807 t = q at h1 hk ⊢; obtain ⟨r, k⟩ := q
 cases k with
 | none => simp [yY, hN, hT, hL, h1, jT, ix, rZ]
 | some k =>
  have h49 : ∀ X, E L (.func 135) [str [80, 97, 114, 115, 101, 85, 105, 110, 116], str t, .v (.int .i64 10), .v (.int .i64 63), .ifc 192 (.int .i64 (k : Int))] X = some (.ni, X) := wB h (hk k rfl)
  simp [yY, hN, hT, hL, h1, jT, ix, rT, h49]
theorem AS {t : List UInt8} (h : t.length < 2147483648) (st : St) : E L (.func 110) [str t, .v (.int .i64 16), .v (.int .i64 64)] st = some (.tup [.v (.int .u64 ((puR 16 1152921504606846976 18446744073709551615 t).1 : Int)), ix (puR 16 1152921504606846976 18446744073709551615 t).2], st) := by
 rw [wD]; obtain ⟨N, T, Lb, hN, hT, hL⟩ := lens3 st
 conv => lhs; rw [← aj (st)]
 have h1 : ∀ X, E L (.func 134) [str t, .v (.int .i64 16), .v (.int .i64 64)] X = some (.tup [.v (.int .u64 ((puR 16 1152921504606846976 18446744073709551615 t).1 : Int)), jT (puR 16 1152921504606846976 18446744073709551615 t).2], X) := AV h
 have hk : ∀ k, (puR 16 1152921504606846976 18446744073709551615 t).2 = some k → k = 1 ∨ k = 2 := fun k h => xu h
 generalize puR 16 1152921504606846976 18446744073709551615 t = q at h1 hk ⊢; obtain ⟨r, k⟩ := q
 cases k with
 | none => simp [yY, hN, hT, hL, h1, jT, ix, rZ]
 | some k =>
  have h49 : ∀ X, E L (.func 135) [str [80, 97, 114, 115, 101, 85, 105, 110, 116], str t, .v (.int .i64 16), .v (.int .i64 64), .ifc 192 (.int .i64 (k : Int))] X = some (.ni, X) := wB h (hk k rfl)
  simp [yY, hN, hT, hL, h1, jT, ix, rT, h49]
theorem DA : xN 107 ew := ⟨fun c st h => wy _ st, false, fun c h => by simp [ew, td, tZ, jD (show (128 : Int) ≤ (c.toNat : Int) by omega), ju (show (128 : Int) ≤ (c.toNat : Int) by omega)], fun n st h => by rw [wy, jD (by omega), ju (by omega)]; rfl⟩
theorem DB : xN 111 ew := ⟨fun c st h => wA _ st, false, fun c h => by simp [ew, td, tZ, jD (show (128 : Int) ≤ (c.toNat : Int) by omega), ju (show (128 : Int) ≤ (c.toNat : Int) by omega)], fun n st h => by rw [wA, jD (by omega), ju (by omega)]; rfl⟩
def nlB (c : UInt8) : Bool := !decide (c = 10)
theorem Eh (c : UInt8) (n : Nat) (h : n < 256) : ((c.toNat : Int) = (n : Int)) = (c = UInt8.ofNat n) := by
 apply propext
 constructor
 · intro e
   have : c.toNat = n := by omega
   rw [← this, UInt8.ofNat_toNat]
 · rintro rfl
   simp [UInt8.toNat_ofNat', Nat.mod_eq_of_lt h]
theorem Dz : xN 71 nlB := ⟨fun c st h => by rw [yU]; have e : ((c.toNat : Int) = 10) = (c = 10) := Eh c 10 (by omega); simp [nlB, e], true, fun c h => by simp [nlB]; rintro rfl; simp at h, fun n st h => by rw [yU]; simp; omega⟩
theorem CH {a b : List UInt8} (ha : a.length < 4611686018427387904) (hb : b.length < 4611686018427387904) (st : St) : E L (.func 97) [str a, str b] st = some (.v (.bool (b.isPrefixOf a)), st) := by
 rw [Db]; obtain ⟨N, T, Lb, hN, hT, hL⟩ := lens3 st
 conv => lhs; rw [← aj (st)]
 by_cases h : b.length ≤ a.length
 · have h1 : (b.length : Int) ≤ (a.length : Int) := by omega
   have e : b.isPrefixOf a = decide (a.take b.length = b) := by
    rw [Bool.eq_iff_iff, List.isPrefixOf_iff_prefix, decide_eq_true_eq, List.prefix_iff_eq_take]; exact eq_comm
   simp [S97, hN, hT, hL, py, h1, As _ h, e]
 · have h1 : ¬ ((b.length : Int) ≤ (a.length : Int)) := by omega
   have e : b.isPrefixOf a = false := by
    rw [Bool.eq_false_iff]; intro hp; exact h ((List.isPrefixOf_iff_prefix.1 hp).length_le)
   simp [S97, hN, hT, hL, py, h1, e]
theorem sC {a b : List UInt8} (ha : a.length < 4611686018427387904) (hb : b.length < 4611686018427387904) (st : St) : E L (.func 59) [str a, str b] st = some (.v (.bool (b.isPrefixOf a)), st) := by
 rw [CX]; obtain ⟨N, T, Lb, hN, hT, hL⟩ := lens3 st
 conv => lhs; rw [← aj (st)]
 simp [S59, hN, hT, hL, CH ha hb]
def vr (c : UInt8) : Bool := [32, 9, 13, 10].contains c
def fZ : List UInt8 → Nat
 | [] => 0
 | c :: l => if ([47, 47] : List UInt8).isPrefixOf (c :: l) then cI nlB (c :: l) else if vr c then 1 else 0
theorem pS : ∀ l : List UInt8, fZ l ≤ l.length
 | [] => aq _
 | c :: l => by
  simp only [fZ]; split
  · exact mi _ _
  · split <;> simp
theorem uy {l : List UInt8} (h : ([47, 47] : List UInt8).isPrefixOf l = true) : 0 < cI nlB l := by
 cases l with
 | nil => simp [List.isPrefixOf] at h
 | cons c l =>
  have : c = 47 := by
   simp only [List.isPrefixOf, an, beq_iff_eq] at h; exact h.1.symm
  subst this; rw [hO, if_pos (by decide)]; omega
def eV (rest : List UInt8) (p : Nat × Nat) : List UInt8 × (Nat × Nat) :=
 if h : fZ rest = 0 then (rest, p) else eV (rest.drop (fZ rest)) (adv (rest.take (fZ rest)) p)
termination_by rest.length
decreasing_by
 have := pS rest; simp only [List.length_drop]; omega
theorem je {rest : List UInt8} {n : Nat} (hn : n ≤ rest.length) {p : Nat × Nat} (hp : 1 ≤ p.2) {M : Nat} (h1 : p.1 + rest.length < M) (h2 : p.2 + rest.length < M) :
 1 ≤ (adv (rest.take n) p).2 ∧ (adv (rest.take n) p).1 + (rest.drop n).length < M ∧ (adv (rest.take n) p).2 + (rest.drop n).length < M := by
 have := pQ (rest.take n) p hp; simp only [List.length_take, List.length_drop] at this ⊢; omega
theorem vq (rest : List UInt8) (p : Nat × Nat) {M : Nat} (hp : 1 ≤ p.2) (h1 : p.1 + rest.length < M) (h2 : p.2 + rest.length < M) :
 1 ≤ (eV rest p).2.2 ∧ (eV rest p).2.1 + (eV rest p).1.length < M ∧ (eV rest p).2.2 + (eV rest p).1.length < M ∧ fZ (eV rest p).1 = 0 ∧ (eV rest p).1.length ≤ rest.length := by
 induction rest, p using eV.induct with
 | case1 rest p h => rw [eV, dif_pos h]; exact ⟨hp, h1, h2, h, aq _⟩
 | case2 rest p h ih =>
  rw [eV, dif_neg h]; have := je (pS rest) hp h1 h2; have := ih this.1 this.2.1 this.2.2; simp only [List.length_drop] at this ⊢; exact ⟨this.1, this.2.1, this.2.2.1, this.2.2.2.1, by omega⟩
theorem ve {g : Nat} {q : UInt8 → Bool} (ht : xN g q) {X : St} {b : Nat} {rest : List UInt8} {x y : PV} (hb : b < X.stk.length) (hlen : rest.length < 4611686018427387904) (bl : List Blk) (tk : List (Nat × Nat)) (lp : List Aux) :
 E L (.func 70) [.ptr false b 0, .clo (.func g) []] ((X.af false b [str rest, x, y]).app bl tk lp) = some (.v (.int .i64 (cI q rest)), (X.af false b [str rest, x, y]).app bl tk lp) := by
 rw [← bD bl tk lp hb]; exact CD ht (by rw [cv]; omega) hlen
theorem oB {X : St} {b n : Nat} {rest : List UInt8} {p : Nat × Nat} (hb : b < X.stk.length) (hn : n ≤ rest.length) (hp : 1 ≤ p.2) (h1 : p.1 + rest.length < 4611686018427387904) (h2 : p.2 + rest.length < 4611686018427387904) (bl : List Blk) (tk : List (Nat × Nat)) (lp : List Aux) :
 E L (.func 69) [.ptr false b 0, .v (.int .i64 (n : Int))] ((X.af false b (rdc rest p)).app bl tk lp) = some (str (rest.take n), (X.af false b (rdc (rest.drop n) (adv (rest.take n) p))).app bl tk lp) := by
 rw [← bD bl tk lp hb, ← bD bl tk lp hb]; exact CC (by rw [cv]; omega) hn hp h1 h2
theorem vp {X : St} {N T Lb b : Nat} (hN : X.stk.length = N) (hT : X.tk.length = T) (hL : X.lp.length = Lb) (hb : b < N) : ∀ (rest : List UInt8) (p : Nat × Nat), 1 ≤ p.2 → p.1 + rest.length < 4611686018427387904 → p.2 + rest.length < 4611686018427387904 →
 itE (S37.b0 (E L) itE N Lb) [.ptr false b 0] ((X.af false b (rdc rest p)).app [] [] []) = some (.exit 0, [.ptr false b 0], (X.af false b (rdc (eV rest p).1 (eV rest p).2)).app [] [] []) := by
 intro rest p
 induction rest, p using eV.induct with
 | case1 rest p h =>
  intro hp h1 h2; rw [eV, dif_pos h]; apply hG
  cases rest with
  | nil => simp [S37.b0, hN, hT, hL, rdc, hb]
  | cons c l =>
   have hpre : ([47, 47] : List UInt8).isPrefixOf (c :: l) = false := by
    cases hq : ([47, 47] : List UInt8).isPrefixOf (c :: l) with
    | false => rfl
    | true =>
     have := uy hq; rw [fZ, if_pos hq] at h; omega
   have hbl : vr c = false := by
    cases hq : vr c with
    | false => rfl
    | true => rw [fZ, if_neg (by rw [hpre]; simp), if_pos hq] at h; cases h
   have e26 : ∀ X, E L (.func 59) [str (c :: l), str [47, 47]] X = some (.v (.bool false), X) := fun X => by rw [sC (by omega) (by simp), hpre]
   have e30 : ∀ X, E L (.func 72) [str [32, 9, 13, 10], .v (.int .u8 (c.toNat : Int))] X = _ := vf [32, 9, 13, 10] c
   have hi : ¬ (0 ≤ Lib.indexByte [32, 9, 13, 10] c) := by
    rw [(indexByte_ge c _).2]; simpa [vr] using hbl
   simp [S37.b0, hN, hT, hL, rdc, hb, e26, px, e30, hi]
 | case2 rest p h ih =>
  intro hp h1 h2; rw [eV, dif_neg h]; have ad := je (pS rest) hp h1 h2; rw [bW (vs' := [.ptr false b 0]) (st' := (X.af false b (rdc (rest.drop (fZ rest)) (adv (rest.take (fZ rest)) p))).app [] [] [])]
  · exact ih ad.1 ad.2.1 ad.2.2
  cases rest with
  | nil => simp [fZ] at h
  | cons c l =>
   have e26 : ∀ X, E L (.func 59) [str (c :: l), str [47, 47]] X = some (.v (.bool (([47, 47] : List UInt8).isPrefixOf (c :: l))), X) := fun X => by rw [sC (by omega) (by simp)]
   have e27 := oB (X := X) (hN ▸ hb) (pS (c :: l)) hp h1 h2 [] [] []
   cases hpre : ([47, 47] : List UInt8).isPrefixOf (c :: l) with
   | true =>
    have hn : fZ (c :: l) = cI nlB (c :: l) := by rw [fZ, if_pos hpre]
    rw [hpre] at e26; have e28 := ve Dz (X := X) (b := b) (rest := c :: l) (x := .v (.int .i64 (p.1 : Int))) (y := .v (.int .i64 (p.2 : Int))) (hN ▸ hb) (by omega) [] [] []; rw [← hn] at e28
    generalize fZ (c :: l) = n at *
    generalize (c :: l).drop n = r at *
    generalize (c :: l).take n = t at *
    simp only [rdc] at e27; simp [S37.b0, hN, hT, hL, rdc, hb, e26, e28, e27]
   | false =>
    rw [hpre] at e26
    have hbl : vr c = true := by
     cases hq : vr c with
     | true => rfl
     | false => rw [fZ, if_neg (by rw [hpre]; simp), if_neg (by rw [hq]; simp)] at h; exact absurd rfl h
    have hn : fZ (c :: l) = 1 := by rw [fZ, if_neg (by rw [hpre]; simp), if_pos hbl]
    have e30 : ∀ X, E L (.func 72) [str [32, 9, 13, 10], .v (.int .u8 (c.toNat : Int))] X = _ := vf [32, 9, 13, 10] c
    have hi : 0 ≤ Lib.indexByte [32, 9, 13, 10] c := by
     rw [(indexByte_ge c _).2]; simpa [vr] using hbl
    rw [hn] at e27 ⊢; simp only [rdc, aa] at e27
    generalize (c :: l).drop 1 = r at *
    generalize (c :: l).take 1 = t at *
    simp [S37.b0, hN, hT, hL, rdc, hb, e26, px, e30, hi, e27]
theorem CA {s : St} {b : Nat} {rest : List UInt8} {p : Nat × Nat} (hb : b < s.stk.length) (hp : 1 ≤ p.2) (h1 : p.1 + rest.length < 4611686018427387904) (h2 : p.2 + rest.length < 4611686018427387904) :
 E L (.func 37) [.ptr false b 0] (s.af false b (rdc rest p)) = some (.tup [], s.af false b (rdc (eV rest p).1 (eV rest p).2)) := by
 rw [CS]; obtain ⟨N, T, Lb, hN, hT, hL⟩ := lens3 s; rw [hN] at hb
 conv => lhs; rw [← aj (s.af false b (rdc rest p))]
 have h := vp hN hT hL hb rest p hp h1 h2; simp only [rdc] at h; simp [S37, hN, hT, hL, rdc, h]
abbrev bc (k : Nat) (t : List UInt8) (v : Nat) (p : Nat × Nat) : List PV := [.v (.int .i64 (k : Int)), str t, .v (.int .u64 (v : Int)), .v (.int .i64 (p.1 : Int)), .v (.int .i64 (p.2 : Int))]
abbrev rC (t : List UInt8) : Nat × Option Nat := puR 10 1844674407370955162 9223372036854775807 t
abbrev uC (t : List UInt8) : Nat × Option Nat := puR 16 1152921504606846976 18446744073709551615 t
def j9 (t : List UInt8) : Nat × Nat × Bool :=
 if jO t then (2, 0, true) else if pz t then (1, 0, true) else (3, (rC t).1, (rC t).2.isNone && decide (Lib.decDigits (rC t).1 = t))
theorem Cs {B cut mx : Nat} : ∀ (t : List UInt8) (n : Nat), n ≤ mx → (pu B cut mx t n).1 ≤ mx
 | [], n, h => h
 | c :: t, n, h => by
  simp only [pu]; split
  · exact dh _
  · split
    · exact aq _
    · split
      · exact aq _
      · exact Cs t _ (by omega)
theorem xt (t : List UInt8) : (rC t).1 ≤ 9223372036854775807 := by
 unfold rC puR; split
 · simp
 · exact Cs t 0 (dh _)
theorem CE {s : St} {b : Nat} {rest : List UInt8} {p : Nat × Nat} (hb : b < s.stk.length) (hp : 1 ≤ p.2) (h1 : p.1 + rest.length < 2147483648) (h2 : p.2 + rest.length < 2147483648) :
 E L (.func 75) [.ptr false b 0] (s.af false b (rdc rest p)) = some (.tup [.agg (bc (j9 (rest.take (cI ew rest))).1 (rest.take (cI ew rest)) (j9 (rest.take (cI ew rest))).2.1 p), .v (.bool (j9 (rest.take (cI ew rest))).2.2)],
  s.af false b (rdc (rest.drop (cI ew rest)) (adv (rest.take (cI ew rest)) p))) := by
 rw [C7]; obtain ⟨N, T, Lb, hN, hT, hL⟩ := lens3 s; rw [hN] at hb
 conv => lhs; rw [← aj (s.af false b (rdc rest p))]
 have hlt : (rest.take (cI ew rest)).length < 2147483648 := by simp; omega
 have e28 := fun bl => ve DA (X := s) (b := b) (rest := rest) (x := .v (.int .i64 (p.1 : Int))) (y := .v (.int .i64 (p.2 : Int))) (hN ▸ hb) (by omega) bl [] []
 have e27 := fun bl => oB (X := s) (hN ▸ hb) (mi ew rest) hp (by omega) (by omega) bl [] []
 generalize cI ew rest = n at *
 generalize rest.take n = t at *
 generalize rest.drop n = r at *
 simp only [rdc] at e27
 have e14 : ∀ X, E L (.func 108) [str t] X = some (.v (.bool (jO t)), X) := wz hlt
 have e13 : ∀ X, E L (.func 109) [str t] X = some (.v (.bool (pz t)), X) := AQ hlt
 have e42 : ∀ X, E L (.func 110) [str t, .v (.int .i64 10), .v (.int .i64 63)] X = some (.tup [.v (.int .u64 ((rC t).1 : Int)), ix (rC t).2], X) := AR hlt
 have e43 : ∀ X, E L (.func 99) [.v (.int .u64 ((rC t).1 : Int)), .v (.int .i64 10)] X = some (str (Lib.decDigits (rC t).1), X) := CI (by have := xt t; omega)
 unfold j9
 cases hw : jO t with
 | true => simp [S75, hN, hT, hL, rdc, hb, e28, e27, e14, hw, aX, cm, laid, aG, bc]
 | false =>
 cases hm : pz t with
 | true => simp [S75, hN, hT, hL, rdc, hb, e28, e27, e14, hw, e13, hm, aX, cm, laid, aG, bc]
 | false =>
  generalize rC t = q at *
  obtain ⟨v, k⟩ := q
  cases k with
  | none => simp [S75, hN, hT, hL, rdc, hb, e28, e27, e14, hw, e13, hm, e42, e43, ix, oV, aX, cm, laid, aG, bc]
  | some k => simp [S75, hN, hT, hL, rdc, hb, e28, e27, e14, hw, e13, hm, e42, e43, ix, rV, aX, cm, laid, aG, bc]
theorem A9 {c : UInt8} (h : ew c = true) : c.toNat < 128 := by
 have := c.toNat_lt
 by_cases hc : c.toNat < 128
 · exact hc
 · simp [ew, td, tZ, jD (show (128 : Int) ≤ (c.toNat : Int) by omega), ju (show (128 : Int) ≤ (c.toNat : Int) by omega)] at h
theorem Aw (q : UInt8 → Bool) (l : List UInt8) : ∀ c ∈ l.take (cI q l), q c = true := by
 induction l with
 | nil => simp [cI]
 | cons a l ih =>
  rw [hO]
  by_cases ha : q a = true
  · rw [if_pos ha, az]
    intro c hc
    rcases List.mem_cons.1 hc with rfl | hc
    · exact ha
    · exact ih c hc
  · rw [if_neg ha]; simp
def qW (t : List UInt8) : Bool := (uC t).2.isNone && decide (t.length = 16) && !Lib.containsAny (35 :: t) [65, 66, 67, 68, 69, 70]
theorem CF {s : St} {b : Nat} {l : List UInt8} {p : Nat × Nat} (hb : b < s.stk.length) (hp : 1 ≤ p.2) (h1 : p.1 + (35 :: l).length < 2147483648) (h2 : p.2 + (35 :: l).length < 2147483648) :
 E L (.func 76) [.ptr false b 0] (s.af false b (rdc (35 :: l) p)) = some (.tup [.agg (bc 4 (35 :: l.take (cI ew l)) (uC (l.take (cI ew l))).1 p), .v (.bool (qW (l.take (cI ew l))))],
  s.af false b (rdc (l.drop (cI ew l)) (adv (35 :: l.take (cI ew l)) p))) := by
 rw [C8]; obtain ⟨N, T, Lb, hN, hT, hL⟩ := lens3 s; rw [hN] at hb
 conv => lhs; rw [← aj (s.af false b (rdc (35 :: l) p))]
 simp only [ak] at h1 h2
 have hlt : (l.take (cI ew l)).length < 2147483647 := by simp; omega
 have hal := Aw ew l; have ad := je (rest := 35 :: l) (n := 1) (by simp) hp (M := 2147483648) (by simpa using h1) (by simpa using h2); simp only [az, bw, aL, bg] at ad
 have e27 := fun bl => oB (X := s) (b := b) (n := 1) (rest := 35 :: l) (hN ▸ hb) (by simp) hp (by simp; omega) (by simp; omega) bl [] []
 simp only [az, bw, aL, bg, rdc, aa] at e27
 have e28 := fun bl => ve DB (X := s) (b := b) (rest := l) (x := .v (.int .i64 ((adv [35] p).1 : Int))) (y := .v (.int .i64 ((adv [35] p).2 : Int))) (hN ▸ hb) (by omega) bl [] []
 have e27' := fun bl => oB (X := s) (b := b) (rest := l) (p := adv [35] p) (hN ▸ hb) (mi ew l) ad.1 (by omega) (by omega) bl [] []
 have ea : adv (35 :: l.take (cI ew l)) p = adv (l.take (cI ew l)) (adv [35] p) := kU [35] _ p; rw [ea]
 generalize adv [35] p = p1 at *
 generalize cI ew l = n at *
 generalize l.take n = t at *
 generalize l.drop n = r at *
 simp only [rdc] at e27'
 have es : aT Tryd.prog true .add 9 (str [35]) (str t) = some (str (35 :: t)) := by rw [pX _ _ _ _ _ (by simp [cf]; omega), mz]; rfl
 have esl : gz Tryd.prog 9 (str (35 :: t)) (some (.v (.int .i64 1))) none none = some (str t) := Au (l := 35 :: t) (lo := 1) .i64 (by simp)
 have e42 : ∀ X, E L (.func 110) [str t, .v (.int .i64 16), .v (.int .i64 64)] X = some (.tup [.v (.int .u64 ((uC t).1 : Int)), ix (uC t).2], X) := AS (by omega)
 have e45 : ∀ X, E L (.func 112) [str (35 :: t), str [65, 66, 67, 68, 69, 70]] X = some (.v (.bool (Lib.containsAny (35 :: t) [65, 66, 67, 68, 69, 70])), X) := AT (by simp; omega) (by simp) (fun c hc => by
  rcases List.mem_cons.1 hc with rfl | hc
  · decide
  · exact A9 (hal c hc)) (by decide)
 unfold qW
 generalize Lib.containsAny (35 :: t) [65, 66, 67, 68, 69, 70] = ca at *
 generalize uC t = q at *
 obtain ⟨v, k⟩ := q
 cases k with
 | none =>
  by_cases hlen : t.length = 16
  · have hl' : ((t.length : Int) + 1 = 17) := by omega
    simp [S76, hN, hT, hL, rdc, hb, e27, e28, e27', es, esl, e42, ix, oV, py, hlen, hl', e45, aX, cm, laid, aG, bc]
  · have hl' : ¬ ((t.length : Int) + 1 = 17) := by omega
    simp [S76, hN, hT, hL, rdc, hb, e27, e28, e27', es, esl, e42, ix, oV, py, hlen, hl', aX, cm, laid, aG, bc]
 | some k => simp [S76, hN, hT, hL, rdc, hb, e27, e28, e27', es, esl, e42, ix, rV, aX, cm, laid, aG, bc]
def i7 : List UInt8 := [123, 125, 40, 41, 91, 93, 59, 58, 44, 46, 61, 60, 43, 45, 42, 47, 37]
def fm (l : List UInt8) : Nat :=
 if ([61, 61] : List UInt8).isPrefixOf l || ([33, 61] : List UInt8).isPrefixOf l || ([60, 61] : List UInt8).isPrefixOf l then 2 else
 match l with
 | [] => 0
 | c :: _ => if i7.contains c then 1 else 0
theorem CG {s : St} {b : Nat} {c : UInt8} {l : List UInt8} {p : Nat × Nat} (hb : b < s.stk.length) (hp : 1 ≤ p.2) (h1 : p.1 + (c :: l).length < 2147483648) (h2 : p.2 + (c :: l).length < 2147483648) :
 E L (.func 77) [.ptr false b 0] (s.af false b (rdc (c :: l) p)) = some (.tup [.agg (bc 5 ((c :: l).take (fm (c :: l))) 0 p), .v (.bool (!decide (fm (c :: l) = 0)))],
  s.af false b (rdc ((c :: l).drop (fm (c :: l))) (adv ((c :: l).take (fm (c :: l))) p))) := by
 rw [C9]; obtain ⟨N, T, Lb, hN, hT, hL⟩ := lens3 s; rw [hN] at hb
 conv => lhs; rw [← aj (s.af false b (rdc (c :: l) p))]
 have hlen : (c :: l).length < 2147483648 := by omega
 have eb : jo Tryd.prog 173 [(0, str [61, 61]), (1, str [33, 61]), (2, str [60, 61])] = some (.agg [str [61, 61], str [33, 61], str [60, 61]]) := by kernel_rfl
 let V := fun (i : Int) => [PV.ptr false b 0, .ptr false N 0, .v (.bool false), .ptr false (N + 1) 0, .agg [str [61, 61], str [33, 61], str [60, 61]], .v (.int .i64 i)]
 have miss : ∀ (i : Int) (x : List UInt8), 0 ≤ i → i < 3 → du Tryd.prog 173 (.agg [str [61, 61], str [33, 61], str [60, 61]]) (.v (.int .i64 i)) = some (str x) → x.length ≤ 2 → x.isPrefixOf (c :: l) = false → ∀ bl,
  S77.b0 (E L) itE N Lb (V i) ((s.af false b (rdc (c :: l) p)).app bl [] []) = some (.normal, V (i + 1), (s.af false b (rdc (c :: l) p)).app bl [] []) := by
  intro i x h0 h3 hx hxl hpre bl
  have e26 : ∀ X, E L (.func 59) [str (c :: l), str x] X = some (.v (.bool false), X) := fun X => by rw [sC (by omega) (by omega), hpre]
  have wi : IntKind.i64.wrap (i + 1) = i + 1 := IntWalk.i64_in _ (by omega); simp [S77.b0, V, hN, hT, hL, rdc, hb, h3, hx, e26, wi]
 have hit : ∀ (i : Int) (x : List UInt8), 0 ≤ i → i < 3 → du Tryd.prog 173 (.agg [str [61, 61], str [33, 61], str [60, 61]]) (.v (.int .i64 i)) = some (str x) → x.length = 2 → x.isPrefixOf (c :: l) = true → ∃ y,
  S77.b0 (E L) itE N Lb (V i) ((s.af false b (rdc (c :: l) p)).app [⟨[.v (.int .i64 0), str [], .v (.int .u64 0), .v (.int .i64 0), .v (.int .i64 0)], []⟩, ⟨bc 5 [] 0 p, []⟩] [] []) =
   some (.ret, [PV.ptr false b 0, .ptr false N 0, .v (.bool true), .ptr false (N + 1) 0, .agg [str [61, 61], str [33, 61], str [60, 61]], y], (s.af false b (rdc ((c :: l).drop 2) (adv ((c :: l).take 2) p))).app [⟨bc 5 ((c :: l).take 2) 0 p, []⟩, ⟨bc 5 ((c :: l).take 2) 0 p, []⟩] [] []) := by
  intro i x h0 h3 hx hxl hpre
  have e26 : ∀ X, E L (.func 59) [str (c :: l), str x] X = some (.v (.bool true), X) := fun X => by rw [sC (by omega) (by omega), hpre]
  have hn : 2 ≤ (c :: l).length := by
   have := (List.isPrefixOf_iff_prefix.1 hpre).length_le; omega
  have e27 := fun bl => oB (X := s) (n := 2) (hN ▸ hb) hn hp (by omega) (by omega) bl [] []
  simp only [rdc, aa] at e27
  generalize (c :: l).drop 2 = r at *
  generalize (c :: l).take 2 = t at *
  refine ⟨.v (.int .i64 i), ?_⟩; simp [S77.b0, V, hN, hT, hL, rdc, hb, h3, hx, e26, e27, laid, aG, bc]
 have i0 : du Tryd.prog 173 (.agg [str [61, 61], str [33, 61], str [60, 61]]) (.v (.int .i64 0)) = some (str [61, 61]) := w9 _ _ _ _; have i1 : du Tryd.prog 173 (.agg [str [61, 61], str [33, 61], str [60, 61]]) (.v (.int .i64 1)) = some (str [33, 61]) := xb _ _ _ _; have i2 : du Tryd.prog 173 (.agg [str [61, 61], str [33, 61], str [60, 61]]) (.v (.int .i64 2)) = some (str [60, 61]) := xe _ _ _ _
 by_cases htwo : ([61, 61] : List UInt8).isPrefixOf (c :: l) || ([33, 61] : List UInt8).isPrefixOf (c :: l) || ([60, 61] : List UInt8).isPrefixOf (c :: l)
 · have hs : fm (c :: l) = 2 := by rw [fm, if_pos htwo]
   rw [hs]
   have run : ∃ y, itE (S77.b0 (E L) itE N Lb) (V 0) ((s.af false b (rdc (c :: l) p)).app [⟨[.v (.int .i64 0), str [], .v (.int .u64 0), .v (.int .i64 0), .v (.int .i64 0)], []⟩, ⟨bc 5 [] 0 p, []⟩] [] []) =
    some (.ret, [PV.ptr false b 0, .ptr false N 0, .v (.bool true), .ptr false (N + 1) 0, .agg [str [61, 61], str [33, 61], str [60, 61]], y], (s.af false b (rdc ((c :: l).drop 2) (adv ((c :: l).take 2) p))).app [⟨bc 5 ((c :: l).take 2) 0 p, []⟩, ⟨bc 5 ((c :: l).take 2) 0 p, []⟩] [] []) := by
    cases h0 : ([61, 61] : List UInt8).isPrefixOf (c :: l) with
    | true =>
     obtain ⟨y, h⟩ := hit 0 _ (by omega) (by omega) i0 rfl h0; exact ⟨y, eL h⟩
    | false =>
     rw [bW (miss 0 _ (by omega) (by omega) i0 (by simp) h0 _)]
     cases h1 : ([33, 61] : List UInt8).isPrefixOf (c :: l) with
     | true =>
      obtain ⟨y, h⟩ := hit 1 _ (by omega) (by omega) i1 rfl h1; exact ⟨y, eL h⟩
     | false =>
      rw [show (0 : Int) + 1 = 1 from rfl, bW (miss 1 _ (by omega) (by omega) i1 (by simp) h1 _)]; obtain ⟨y, h⟩ := hit 2 _ (by omega) (by omega) i2 rfl (by rw [h0, h1] at htwo; simpa using htwo); exact ⟨y, eL h⟩
   obtain ⟨y, run⟩ := run; simp only [V, bc, rdc, aa, gZ] at run
   generalize (c :: l).drop 2 = r at *
   generalize (c :: l).take 2 = t at *
   simp [S77, hN, hT, hL, rdc, hb, eb, run, aX, cm, laid, aG, bc]
 · have h012 : ([61, 61] : List UInt8).isPrefixOf (c :: l) = false ∧ ([33, 61] : List UInt8).isPrefixOf (c :: l) = false ∧ ([60, 61] : List UInt8).isPrefixOf (c :: l) = false := by
    simp only [Bool.or_eq_true, not_or, Bool.not_eq_true] at htwo; exact ⟨htwo.1.1, htwo.1.2, htwo.2⟩
   have run : ∀ bl, itE (S77.b0 (E L) itE N Lb) (V 0) ((s.af false b (rdc (c :: l) p)).app bl [] []) = some (.exit 0, V 3, (s.af false b (rdc (c :: l) p)).app bl [] []) := by
    intro bl; rw [bW (miss 0 _ (by omega) (by omega) i0 (by simp) h012.1 _), show (0 : Int) + 1 = 1 from rfl, bW (miss 1 _ (by omega) (by omega) i1 (by simp) h012.2.1 _), show (1 : Int) + 1 = 2 from rfl, bW (miss 2 _ (by omega) (by omega) i2 (by simp) h012.2.2 _)]; apply hG; simp [S77.b0, V, hN, hT, hL]
   simp only [V, rdc] at run
   have e30 : ∀ X, E L (.func 72) [str i7, .v (.int .u8 (c.toNat : Int))] X = _ := vf i7 c
   have hin := (indexByte_ge c i7)
   by_cases hc : c ∈ i7
   · have hs : fm (c :: l) = 1 := by rw [fm, if_neg htwo]; simp [hc]
     have hneg : ¬ (Lib.indexByte i7 c < 0) := by have := hin.2.2 hc; omega
     rw [hs]
     have e27 := fun bl => oB (X := s) (b := b) (n := 1) (rest := c :: l) (hN ▸ hb) (by simp) hp (by omega) (by omega) bl [] []
     simp only [rdc, aa] at e27
     generalize (c :: l).drop 1 = r at *
     generalize (c :: l).take 1 = t at *
     unfold i7 at e30 hneg; simp [S77, hN, hT, hL, rdc, hb, eb, run, px, e30, hneg, e27, aX, cm, laid, aG, bc]
   · have hs : fm (c :: l) = 0 := by rw [fm, if_neg htwo]; simp [hc]
     have hneg : Lib.indexByte i7 c < 0 := by
      have h' : ¬ (0 ≤ Lib.indexByte i7 c) := fun h => hc (hin.2.1 h)
      omega
     rw [hs]; unfold i7 at e30 hneg; simp [S77, hN, hT, hL, rdc, hb, eb, run, px, e30, hneg, aX, cm, laid, aG, bc, adv]
def eO : List UInt8 → Nat × Nat × Nat × Bool
 | [] => (0, 0, 0, false)
 | c :: l =>
  if ew c then ((j9 ((c :: l).take (cI ew (c :: l)))).1, cI ew (c :: l), (j9 ((c :: l).take (cI ew (c :: l)))).2.1, (j9 ((c :: l).take (cI ew (c :: l)))).2.2)
  else if c = 35 then (4, cI ew l + 1, (uC (l.take (cI ew l))).1, qW (l.take (cI ew l)))
  else (5, fm (c :: l), 0, !decide (fm (c :: l) = 0))
theorem iO {c : UInt8} {l : List UInt8} (h : ew c = true) : eO (c :: l) = ((j9 ((c :: l).take (cI ew (c :: l)))).1, cI ew (c :: l), (j9 ((c :: l).take (cI ew (c :: l)))).2.1, (j9 ((c :: l).take (cI ew (c :: l)))).2.2) := by rw [eO, if_pos h]
theorem ib (l : List UInt8) : eO (35 :: l) = (4, cI ew l + 1, (uC (l.take (cI ew l))).1, qW (l.take (cI ew l))) := by rw [eO, if_neg (by decide), if_pos rfl]
theorem gM {c : UInt8} {l : List UInt8} (h : ew c = false) (hc : c ≠ 35) : eO (c :: l) = (5, fm (c :: l), 0, !decide (fm (c :: l) = 0)) := by rw [eO, if_neg (by rw [h]; simp), if_neg hc]
theorem CB {s : St} {b : Nat} {c : UInt8} {l : List UInt8} {p : Nat × Nat} (hb : b < s.stk.length) (hp : 1 ≤ p.2) (h1 : p.1 + (c :: l).length < 2147483648) (h2 : p.2 + (c :: l).length < 2147483648) :
 E L (.func 38) [.ptr false b 0] (s.af false b (rdc (c :: l) p)) = some (.tup [.agg (bc (eO (c :: l)).1 ((c :: l).take (eO (c :: l)).2.1) (eO (c :: l)).2.2.1 p), .v (.bool (eO (c :: l)).2.2.2)],
  s.af false b (rdc ((c :: l).drop (eO (c :: l)).2.1) (adv ((c :: l).take (eO (c :: l)).2.1) p))) := by
 rw [CT]; obtain ⟨N, T, Lb, hN, hT, hL⟩ := lens3 s; rw [hN] at hb
 conv => lhs; rw [← aj (s.af false b (rdc (c :: l) p))]
 have at_ : ∀ (f : Nat) (x : PV) (R : List PV), (∀ X : St, b < X.stk.length → E L (.func f) [.ptr false b 0] (X.af false b (rdc (c :: l) p)) = some (x, X.af false b R)) → ∀ bl, E L (.func f) [.ptr false b 0] ((s.af false b (rdc (c :: l) p)).app bl [] []) = some (x, (s.af false b R).app bl [] []) := by
  intro f x R h bl; rw [← bD bl [] [] (hN ▸ hb), ← bD bl [] [] (hN ▸ hb)]; exact h _ (by rw [cv, hN]; omega)
 have wc : IntKind.i32.wrap (c.toNat : Int) = (c.toNat : Int) := IntWalk.i32_in _ (by have := c.toNat_lt; omega); have hal : ew c = (oO (c.toNat : Int) || ua (c.toNat : Int)) := rfl
 cases ha : ew c with
 | true =>
  rw [iO ha]; dsimp only
  have e31 := at_ 75 _ _ fun X hX => CE hX hp h1 h2
  generalize cI ew (c :: l) = n at *
  generalize (c :: l).drop n = r at *
  generalize (c :: l).take n = t at *
  generalize j9 t = q at *
  obtain ⟨q1, q2, q3⟩ := q; simp only [rdc, bc] at e31; rw [hal] at ha
  cases hl : oO (c.toNat : Int) with
  | true => simp [S38, hN, hT, hL, rdc, hb, px, mA, wc, iS, iT, hl, e31, laid, aG, bc]
  | false =>
   rw [hl, Bool.false_or] at ha; simp [S38, hN, hT, hL, rdc, hb, px, mA, wc, iS, iT, hl, ha, e31, laid, aG, bc]
 | false =>
  have ha0 := ha; rw [hal] at ha; simp only [Bool.or_eq_false_iff] at ha
  by_cases hc : c = 35
  · subst hc
    have e32 := at_ 76 _ _ fun X hX => CF hX hp h1 h2
    rw [ib]; simp only [az, aL]
    generalize cI ew l = n at *
    generalize l.drop n = r at *
    generalize l.take n = t at *
    generalize uC t = q at *
    generalize qW t = ok at *
    obtain ⟨v, k⟩ := q; simp only [rdc, bc, aa] at e32; have h35 : ((35 : UInt8).toNat : Int) = 35 := rfl; rw [h35] at ha wc; simp [S38, hN, hT, hL, rdc, hb, px, mA, wc, iS, iT, ha.1, ha.2, e32, laid, aG, bc]
  · have e33 := at_ 77 _ _ fun X hX => CG hX hp h1 h2
    have h35 : ¬ ((c.toNat : Int) = 35) := fun h => hc (UInt8.toNat_inj.1 (by simpa using Int.ofNat_inj.1 h))
    rw [gM ha0 hc]; dsimp only
    generalize fm (c :: l) = n at *
    generalize (c :: l).drop n = r at *
    generalize (c :: l).take n = t at *
    simp only [rdc, bc, aa, gZ] at e33; simp [S38, hN, hT, hL, rdc, hb, px, mA, wc, iS, iT, ha.1, ha.2, h35, e33, laid, aG, bc]
structure Tok where
 kind : Nat
 text : List UInt8
 n : Nat
 p : Nat × Nat
abbrev Tok.c (t : Tok) : List PV := bc t.kind t.text t.n t.p
inductive LR where
 | ok (ts : List Tok)
 | err (p : Nat × Nat)
def LR.cons (t : Tok) : LR → LR
 | .ok ts => .ok (t :: ts)
 | .err p => .err p
theorem uQ {q : UInt8 → Bool} {c : UInt8} {l : List UInt8} (h : q c = true) : 0 < cI q (c :: l) := by rw [hO, if_pos h]; omega
theorem Aq (c : UInt8) (l : List UInt8) : fm (c :: l) ≤ (c :: l).length := by
 rw [fm]; split
 · rename_i h
   have len : ∀ x y : UInt8, ([x, y] : List UInt8).isPrefixOf (c :: l) = true → 2 ≤ (c :: l).length := fun x y h => (List.isPrefixOf_iff_prefix.1 h).length_le
   simp only [Bool.or_eq_true] at h
   rcases h with (h | h) | h
   · exact len _ _ h
   · exact len _ _ h
   · exact len _ _ h
 · simp only [ak]
   split <;> omega
theorem mo {c : UInt8} {l : List UInt8} (h : (eO (c :: l)).2.2.2 = true) : 0 < (eO (c :: l)).2.1 := by
 cases ha : ew c with
 | true => rw [iO ha]; exact uQ ha
 | false =>
  by_cases hc : c = 35
  · subst hc; rw [ib]; exact Nat.succ_pos _
  · rw [gM ha hc] at h ⊢
    simpa [Nat.pos_iff_ne_zero] using h
theorem pY (c : UInt8) (l : List UInt8) : (eO (c :: l)).2.1 ≤ (c :: l).length := by
 cases ha : ew c with
 | true => rw [iO ha]; exact mi _ _
 | false =>
  by_cases hc : c = 35
  · subst hc; rw [ib]
    have := mi ew l
    simp only [ak]; omega
  · rw [gM ha hc]; exact Aq c l
def mn (rest : List UInt8) (p : Nat × Nat) : Tok := ⟨(eO rest).1, rest.take (eO rest).2.1, (eO rest).2.2.1, p⟩
def iv : List UInt8 → Nat × Nat → LR
 | [], p => .ok [⟨0, [], 0, p⟩]
 | c :: l, p =>
  if hb : fZ (c :: l) = 0 then
   if ht : (eO (c :: l)).2.2.2 = true then (iv ((c :: l).drop (eO (c :: l)).2.1) (adv ((c :: l).take (eO (c :: l)).2.1) p)).cons (mn (c :: l) p)
   else .err p
  else iv ((c :: l).drop (fZ (c :: l))) (adv ((c :: l).take (fZ (c :: l))) p)
termination_by rest => rest.length
decreasing_by
 · have := mo ht
   simp only [List.length_drop, ak]; omega
 · simp only [List.length_drop, ak]; omega
theorem qH (p : Nat × Nat) : iv [] p = .ok [⟨0, [], 0, p⟩] := by rw [iv]
theorem nk {rest : List UInt8} (h : fZ rest ≠ 0) (p : Nat × Nat) : iv rest p = iv (rest.drop (fZ rest)) (adv (rest.take (fZ rest)) p) := by
 cases rest with
 | nil => exact absurd rfl h
 | cons c l => rw [iv, dif_neg h]
theorem qI {c : UInt8} {l : List UInt8} (h : fZ (c :: l) = 0) (ht : (eO (c :: l)).2.2.2 = true) (p : Nat × Nat) : iv (c :: l) p = (iv ((c :: l).drop (eO (c :: l)).2.1) (adv ((c :: l).take (eO (c :: l)).2.1) p)).cons (mn (c :: l) p) := by
 rw [iv, dif_pos h, dif_pos ht]
theorem qG {c : UInt8} {l : List UInt8} (h : fZ (c :: l) = 0) (ht : (eO (c :: l)).2.2.2 = false) (p : Nat × Nat) : iv (c :: l) p = .err p := by
 rw [iv, dif_pos h, dif_neg (by rw [ht]; simp)]
theorem uu (rest : List UInt8) (p : Nat × Nat) : iv rest p = iv (eV rest p).1 (eV rest p).2 := by
 induction rest, p using eV.induct with
 | case1 rest p h => rw [eV, dif_pos h]
 | case2 rest p h ih =>
  have e : eV rest p = eV (rest.drop (fZ rest)) (adv (rest.take (fZ rest)) p) := by
   conv => lhs; rw [eV, dif_neg h]
  rw [nk h, ih, e]
theorem Aa {st : St} {N : Nat} (hN : st.stk.length = N) {f : Nat} {cells R : List PV} {x : PV} (h : ∀ X : St, N + 1 < X.stk.length → E L (.func f) [.ptr false (N + 1) 0] (X.af false (N + 1) cells) = some (x, X.af false (N + 1) R)) (b0 : Blk) (t : List (Nat × Nat)) (bl : List Blk) (tk : List (Nat × Nat)) (lp : List Aux) :
 E L (.func f) [.ptr false (N + 1) 0] (st.app (b0 :: ⟨cells, t⟩ :: bl) tk lp) = some (x, st.app (b0 :: ⟨R, t⟩ :: bl) tk lp) := by
 have hb : (st.app (b0 :: ⟨cells, t⟩ :: bl) tk lp).blk false (N + 1) = some cells := by rw [fA _ _ _ hN]; rfl
 have := h _ (Be hb); rw [Ap hb, fB _ _ _ hN] at this; exact this
def aw (ts : List Tok) : List (List PV) := ts.map Tok.c
theorem jn (ts : List Tok) : (aw ts).length = ts.length := List.length_map ..
theorem ou (ts : List Tok) : cK 5 (aw ts) = true := jG Tok.c (fun _ => rfl) ts
theorem o9 (a b : List Tok) : aw (a ++ b) = aw a ++ aw b := List.map_append ..
def yV (st : St) (N T Lb : Nat) (rest : List UInt8) (p : Nat × Nat) (acc : List Tok) (c : Cap) (tk : List (Nat × Nat)) : Prop :=
 ∃ r y2 F R tk', itE (S24.b0 (E L) itE N Lb) [.sl [] .nil, .ptr false N 0, .sl (aw acc) c, .ptr false (N + 1) 0] (st.app [⟨[.v (.int .i64 0), .v (.int .i64 0), .v (.int .i64 0)], []⟩, ⟨rdc rest p, []⟩] tk []) =
  some (.ret, [r, .ptr false N 0, y2, .ptr false (N + 1) 0], st.app [⟨F, []⟩, ⟨R, []⟩] tk' []) ∧
  (match iv rest p with
   | .ok ts => (∃ c', r = .sl (aw (acc ++ ts)) c') ∧ F = [.v (.int .i64 0), .v (.int .i64 0), .v (.int .i64 0)]
   | .err q => r = .sl [] .nil ∧ F = [.v (.int .i64 3), .v (.int .i64 (q.1 : Int)), .v (.int .i64 (q.2 : Int))])
theorem zT {st : St} {N T Lb : Nat} (hN : st.stk.length = N) (hT : st.tk.length = T) (hL : st.lp.length = Lb) : ∀ (k : Nat) (rest : List UInt8) (p : Nat × Nat) (acc : List Tok) (c : Cap) (tk : List (Nat × Nat)), rest.length = k → 1 ≤ p.2 → p.1 + rest.length < 2147483648 → p.2 + rest.length < 2147483648 → acc.length + rest.length < 1000000 → Own st tk c acc.length 5 →
 yV st N T Lb rest p acc c tk := by
 intro k
 induction k using Nat.strongRecOn with
 | ind k ih =>
  intro rest p acc c tk hk hp h1 h2 hac ho; have bb := vq rest p (M := 2147483648) hp h1 h2; have e17 := Aa (x := .tup []) hN (fun X hX => CA (rest := rest) (p := p) hX hp (by omega) (by omega)) ⟨[.v (.int .i64 0), .v (.int .i64 0), .v (.int .i64 0)], []⟩ [] [] tk []; unfold yV; rw [uu]
  generalize eV rest p = q at *
  obtain ⟨rest', p'⟩ := q; obtain ⟨bp, b1, b2, bk, bl⟩ := bb; dsimp only at bp b1 b2 bk bl e17 ⊢
  cases rest' with
  | nil =>
   rw [qH]
   have hsf : ∀ m, c.sf true m = true := fun m => ho.sfc m
   obtain ⟨c', tk', ea, ho'⟩ := sJ (ys := aw [⟨0, [], 0, p'⟩]) (bytes := 48) (es := aw acc) (by rw [jn]; exact ho) (by simp only [jn, dE, ak, aA]; omega) (ou _) (ou _) (by decide) (by decide); have ey : aw [⟨0, [], 0, p'⟩] = [[.v (.int .i64 0), str [], .v (.int .u64 0), .v (.int .i64 (p'.1 : Int)), .v (.int .i64 (p'.2 : Int))]] := rfl; rw [ey] at ea; refine ⟨.sl (aw (acc ++ [⟨0, [], 0, p'⟩])) c', .sl (aw acc) c, _, rdc [] p', tk', ?_, ⟨⟨_, rfl⟩, rfl⟩⟩; apply eL; simp only [rdc] at e17; have hsf2 := ho'.sfc (s := st); simp [S24.b0, hN, hT, hL, rdc, e17, aX, cm, laid, aG, bj, jI, fV, AM.cC, AM.eN, chunks, ea, o9, ey, hsf, hsf2, eY, eQ]
  | cons a l =>
   have hsf : ∀ m, c.sf true m = true := fun m => ho.sfc m
   have e18 := Aa hN (fun X hX => CB (c := a) (l := l) (p := p') hX bp (by omega) (by omega)) ⟨[.v (.int .i64 0), .v (.int .i64 0), .v (.int .i64 0)], []⟩ [] [] tk []; have hta : mn (a :: l) p' = ⟨(eO (a :: l)).1, (a :: l).take (eO (a :: l)).2.1, (eO (a :: l)).2.2.1, p'⟩ := rfl; have ad := je (pY a l) bp b1 b2; have hpos := mo (c := a) (l := l); have hdl : ((a :: l).drop (eO (a :: l)).2.1).length = (a :: l).length - (eO (a :: l)).2.1 := List.length_drop ..; have hle := pY a l
   cases hok : (eO (a :: l)).2.2.2 with
   | false =>
    rw [qG bk hok]; rw [hok] at e18
    generalize eO (a :: l) = q at *
    generalize (a :: l).drop q.2.1 = r at *
    generalize (a :: l).take q.2.1 = t at *
    simp only [rdc, bc] at e17 e18; refine ⟨.sl [] .nil, .sl (aw acc) c, [.v (.int .i64 3), .v (.int .i64 (p'.1 : Int)), .v (.int .i64 (p'.2 : Int))], rdc r (adv t p'), tk, ?_, ⟨rfl, rfl⟩⟩; apply eL; simp [S24.b0, hN, hT, hL, rdc, e17, e18, aX, cm, laid, aG, hsf, eY, eQ]
   | true =>
    rw [qI bk hok]; rw [hok] at e18; have hpos := hpos hok
    generalize eO (a :: l) = q at *
    generalize (a :: l).drop q.2.1 = r at *
    generalize (a :: l).take q.2.1 = t at *
    obtain ⟨c', tk', ea, ho'⟩ := sJ (ys := aw [mn (a :: l) p']) (bytes := 48) (es := aw acc) (by rw [jn]; exact ho) (by simp only [jn, dE, ak, aA]; omega) (ou _) (ou _) (by decide) (by decide)
    have ey : aw [mn (a :: l) p'] = [[.v (.int .i64 (q.1 : Int)), str t, .v (.int .u64 (q.2.2.1 : Int)), .v (.int .i64 (p'.1 : Int)), .v (.int .i64 (p'.2 : Int))]] := by rw [hta]; rfl
    have hsf2 := ho'.sfc (s := st); have ihh := ih r.length (by omega) r (adv t p') (acc ++ [mn (a :: l) p']) c' tk' rfl ad.1 ad.2.1 ad.2.2 (by simp only [bh, bE]; omega) (by rw [← o9, jn] at ho'; exact ho'); unfold yV at ihh; rw [o9] at ihh; rw [ey] at ihh ea; obtain ⟨r0, y2, F, R, tk2, hit, hres⟩ := ihh; refine ⟨r0, y2, F, R, tk2, ?_, ?_⟩
    · simp only [rdc, bc] at e17 e18
      rw [bW (vs' := [.sl [] .nil, .ptr false N 0, .sl (aw acc ++ [[.v (.int .i64 (q.1 : Int)), str t, .v (.int .u64 (q.2.2.1 : Int)), .v (.int .i64 (p'.1 : Int)), .v (.int .i64 (p'.2 : Int))]]) c', .ptr false (N + 1) 0]) (st' := st.app [⟨[.v (.int .i64 0), .v (.int .i64 0), .v (.int .i64 0)], []⟩, ⟨rdc r (adv t p'), []⟩] tk' [])]
      · exact hit
      · simp [S24.b0, hN, hT, hL, rdc, e17, e18, aX, cm, laid, aG, bj, jI, fV, AM.cC, AM.eN, chunks, ea, hsf, hsf2, eY, eQ]
    · cases hl : iv r (adv t p') with
      | ok ts =>
       rw [hl] at hres; simp only [LR.cons]; refine ⟨?_, hres.2⟩; obtain ⟨c2, h2⟩ := hres.1; exact ⟨c2, by rw [h2]; simp⟩
      | err q =>
       rw [hl] at hres; simp only [LR.cons]; exact hres
def uv (l : List UInt8) : List Tok := if 8192 < l.length then [] else match iv l (1, 1) with | .ok ts => ts | .err _ => []
def oP (l : List UInt8) : Nat × Nat × Nat := if 8192 < l.length then (10, 1, 1) else match iv l (1, 1) with | .ok _ => (0, 0, 0) | .err q => (3, q.1, q.2)
abbrev vA (f : Nat × Nat × Nat) : List PV := [.v (.int .i64 (f.1 : Int)), .v (.int .i64 (f.2.1 : Int)), .v (.int .i64 (f.2.2 : Int))]
theorem Cz {l : List UInt8} (h : l.length < 1000000) (st : St) : E L (.func 24) [str l] st = some (.tup [.sl (aw (uv l)) .dead, .agg (vA (oP l))], st) := by
 rw [CR]; obtain ⟨N, T, Lb, hN, hT, hL⟩ := lens3 st
 conv => lhs; rw [← aj (st)]
 by_cases hl : 8192 < l.length
 · have hl' : (8192 : Int) < (l.length : Int) := by omega
   simp [S24, hN, hT, hL, py, hl', uv, oP, hl, aX, cm, laid, aG, aw]
 · have hl' : ¬ ((8192 : Int) < (l.length : Int)) := by omega
   obtain ⟨r, y2, F, R, tk', hit, hres⟩ := zT hN hT hL l.length l (1, 1) [] .nil [] rfl (by simp) (by simp; omega) (by simp; omega) (by simp; omega) (Own.nil _ _ _ _); simp only [aw, aW, rdc, aa] at hit; unfold uv oP; rw [if_neg hl, if_neg hl]
   cases hx : iv l (1, 1) with
   | ok ts =>
    rw [hx] at hres; obtain ⟨⟨c', rfl⟩, rfl⟩ := hres; simp [S24, hN, hT, hL, py, hl', hit, aX, cm, laid, aG, vA]
   | err q =>
    rw [hx] at hres; obtain ⟨rfl, rfl⟩ := hres; simp [S24, hN, hT, hL, py, hl', hit, aX, cm, laid, aG, vA, aw]
end Go.Proofs.YtlhlijaondmccaaDoor.S
namespace Go.Proofs.YtlhlijaondmccaaDoor.S
open Go Go.AM Go.Proofs
theorem o6 {q : UInt8 → Bool} : ∀ (l : List UInt8), cI q (l.take (cI q l)) = cI q l
 | [] => rfl
 | a :: l => by
  rw [hO]; split
  · rename_i h
    rw [az, hO, if_pos h, o6 l]
  · rfl
theorem ml {α : Type} (l : List α) (n : Nat) : (l.take n).take n = l.take n := by rw [List.take_take, Nat.min_self]
theorem sj {x y : UInt8} {l : List UInt8} (h : ([x, y] : List UInt8).isPrefixOf l = true) : ∃ r, l = x :: y :: r := by
 obtain ⟨r, hr⟩ := List.isPrefixOf_iff_prefix.1 h; exact ⟨r, hr.symm⟩
theorem qV {x y a : UInt8} : ([x, y] : List UInt8).isPrefixOf [a] = false := by simp [List.isPrefixOf]
theorem vX {a : UInt8} {l : List UInt8} (h : fm (a :: l) ≠ 0) : fm ((a :: l).take (fm (a :: l))) = fm (a :: l) := by
 by_cases hp : (([61, 61] : List UInt8).isPrefixOf (a :: l) || ([33, 61] : List UInt8).isPrefixOf (a :: l) || ([60, 61] : List UInt8).isPrefixOf (a :: l)) = true
 · have e : fm (a :: l) = 2 := by rw [fm, if_pos hp]
   rw [e]; simp only [Bool.or_eq_true] at hp
   rcases hp with (hp | hp) | hp <;>
   · obtain ⟨r, hr⟩ := sj hp
     rw [hr]; simp [fm, List.isPrefixOf]
 · have e : fm (a :: l) = if i7.contains a then 1 else 0 := by rw [fm, if_neg hp]
   by_cases hs : i7.contains a = true
   · rw [if_pos hs] at e
     rw [e, az, bw, fm, qV, qV, qV]; simpa using hs
   · rw [if_neg hs] at e
     exact absurd e h
theorem yO {a : UInt8} {l : List UInt8} (h : (eO (a :: l)).2.2.2 = true) : eO ((a :: l).take (eO (a :: l)).2.1) = eO (a :: l) := by
 cases ha : ew a with
 | true =>
  have hs := uQ (l := l) ha
  have e : (eO (a :: l)).2.1 = cI ew (a :: l) := by rw [iO ha]
  obtain ⟨n, hn⟩ : ∃ n, cI ew (a :: l) = n + 1 := ⟨cI ew (a :: l) - 1, by omega⟩
  have ht : (a :: l).take (cI ew (a :: l)) = a :: l.take n := by rw [hn, az]
  have hsp := o6 (q := ew) (a :: l); have htt := ml (a :: l) (cI ew (a :: l)); rw [ht] at hsp htt; rw [e, ht, iO ha, iO ha, hsp, htt, ht]
 | false =>
  by_cases hq : a = 35
  · subst hq
    have e : (eO (35 :: l)).2.1 = cI ew l + 1 := by rw [ib]
    rw [e, az, ib, ib, o6, ml]
  · have e : (eO (a :: l)).2.1 = fm (a :: l) := by rw [gM ha hq]
    have h0 : fm (a :: l) ≠ 0 := by
     rw [gM ha hq] at h; simpa using h
    have hs := vX h0
    obtain ⟨n, hn⟩ : ∃ n, fm (a :: l) = n + 1 := ⟨fm (a :: l) - 1, by omega⟩
    have ht : (a :: l).take (fm (a :: l)) = a :: l.take n := by rw [hn, az]
    rw [ht] at hs; rw [e, ht, gM ha hq, gM ha hq, hs]
theorem xQ {a : UInt8} {l : List UInt8} {n : Nat} (h : fZ (a :: l) = 0) : fZ (a :: l.take n) = 0 := by
 have hne : ¬ (([47, 47] : List UInt8).isPrefixOf (a :: l) = true) := fun hn => by
  rw [fZ, if_pos hn] at h; have := uy hn; omega
 rw [fZ, if_neg hne] at h; rw [fZ, if_neg ?_]
 · exact h
 · intro hn
   obtain ⟨r, hr⟩ := sj hn; apply hne
   cases l with
   | nil => simp at hr
   | cons b l =>
    cases n with
    | zero => simp at hr
    | succ n =>
     rw [az] at hr; obtain ⟨rfl, h2⟩ := List.cons.inj hr; obtain ⟨rfl, h3⟩ := List.cons.inj h2; simp [List.isPrefixOf]
structure Tk (t : Tok) : Prop where
 ex : ∃ a l, t.text = a :: l ∧ fZ (a :: l) = 0 ∧ eO (a :: l) = (t.kind, (a :: l).length, t.n, true)
theorem Ed {a : UInt8} {l : List UInt8} (hb : fZ (a :: l) = 0) (h : (eO (a :: l)).2.2.2 = true) (p : Nat × Nat) : Tk (mn (a :: l) p) := by
 have hpos := mo h
 obtain ⟨n, hn⟩ : ∃ n, (eO (a :: l)).2.1 = n + 1 := ⟨(eO (a :: l)).2.1 - 1, by omega⟩
 have hle := pY a l; have ht := yO h; refine ⟨a, l.take n, by unfold mn; rw [hn, az], xQ hb, ?_⟩; rw [hn, az] at ht
 have hlen : (a :: l.take n).length = (eO (a :: l)).2.1 := by
  rw [hn]; simp only [ak, List.length_take] at hle ⊢; omega
 rw [ht, hlen]; unfold mn; rw [← h]
theorem vJ : ∀ (k : Nat) (rest : List UInt8) (p : Nat × Nat), rest.length = k → ∀ ts, iv rest p = .ok ts → ∃ t0, (∀ t ∈ t0, Tk t) ∧ ts = t0 ++ [⟨0, [], 0, adv rest p⟩] := by
 intro k
 induction k using Nat.strongRecOn with
 | ind k ih =>
  intro rest p hk ts h
  cases rest with
  | nil =>
   rw [qH] at h; obtain rfl := LR.ok.inj h; exact ⟨[], by simp, rfl⟩
  | cons c l =>
   by_cases hb : fZ (c :: l) = 0
   · cases ht : (eO (c :: l)).2.2.2 with
     | false => rw [qG hb ht] at h; cases h
     | true =>
      rw [qI hb ht] at h; have hpos := mo ht; have hdl : ((c :: l).drop (eO (c :: l)).2.1).length = (c :: l).length - (eO (c :: l)).2.1 := List.length_drop ..
      cases hr : iv ((c :: l).drop (eO (c :: l)).2.1) (adv ((c :: l).take (eO (c :: l)).2.1) p) with
      | err q => rw [hr] at h; cases h
      | ok ts' =>
       rw [hr] at h; obtain rfl := LR.ok.inj h; obtain ⟨t0, h1, h2⟩ := ih _ (by simp only [ak] at hdl hk; omega) _ _ rfl ts' hr; refine ⟨mn (c :: l) p :: t0, ?_, ?_⟩
       · intro t hm
         rcases List.mem_cons.1 hm with rfl | hm
         · exact Ed hb ht p
         · exact h1 t hm
       · rw [h2, aR, ← kU, List.take_append_drop]
   · rw [nk hb] at h
     have hdl : ((c :: l).drop (fZ (c :: l))).length = (c :: l).length - fZ (c :: l) := List.length_drop ..; obtain ⟨t0, h1, h2⟩ := ih _ (by simp only [ak] at hdl hk; omega) _ _ rfl ts h; exact ⟨t0, h1, by rw [h2, ← kU, List.take_append_drop]⟩
def bk : List Tok → Nat → List Tok
 | [], k => [⟨0, [], 0, (k + 1, 1)⟩]
 | t :: r, k => ⟨t.kind, t.text, t.n, (k, 1)⟩ :: bk r (k + 1)
theorem sO : ∀ (t0 : List Tok) (k : Nat), (bk t0 k).length = t0.length + 1
 | [], k => rfl
 | t :: r, k => by rw [bk, ak, sO r]; rfl
theorem BP {l : List UInt8} {ts : List Tok} (hl : l.length ≤ 8192) (h : iv l (1, 1) = .ok ts) : uv l = ts ∧ oP l = (0, 0, 0) := by
 rw [uv, oP, if_neg (by omega), if_neg (by omega), h]; exact ⟨rfl, rfl⟩
theorem zS {l : List UInt8} {q : Nat × Nat} (hl : l.length ≤ 8192) (h : iv l (1, 1) = .err q) : uv l = [] ∧ oP l = (3, q.1, q.2) := by
 rw [uv, oP, if_neg (by omega), if_neg (by omega), h]; exact ⟨rfl, rfl⟩
theorem yN {c : UInt8} {l : List UInt8} (h : (eO (c :: l)).2.2.2 = true) : (eO (c :: l)).1 ≠ 0 := by
 cases ha : ew c with
 | true =>
  rw [iO ha]
  show (j9 _).1 ≠ 0
  unfold j9; split
  · exact Nat.succ_ne_zero _
  · split
    · exact Nat.succ_ne_zero _
    · exact Nat.succ_ne_zero _
 | false =>
  by_cases hc : c = 35
  · subst hc; rw [ib]; exact Nat.succ_ne_zero _
  · rw [gM ha hc]; exact Nat.succ_ne_zero _
end Go.Proofs.YtlhlijaondmccaaDoor.S
