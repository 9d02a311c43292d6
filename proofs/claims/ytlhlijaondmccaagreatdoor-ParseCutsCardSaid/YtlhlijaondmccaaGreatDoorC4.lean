/- Part 4 of the proof of a law of the parser, its names made short by a program. No condition. -/
import Derived.Test.YtlhlijaondmccaaGreatDoorC3
import Derived.KernelRfl
import Derived.Test.YtlhlijaondmccaaGreatDoorProg
import Derived.Shelf.Small.Utf8
import Derived.Shelf.Small.Strs
import Derived.Shelf.Strconv.Itoa0
import Derived.Shelf.Strconv.Itoa1
import Derived.Shelf.LaysM
import Derived.Shelf.Strconv.Itoa2
import Derived.Shelf.Strconv.Itoa3
import Derived.Shelf.Strconv.Clone
import Derived.Shelf.Strconv.SyntaxError
import Derived.Shelf.LaysC
import Derived.Shelf.Strconv.ToError
import Derived.Shelf.Strconv.RangeError
import Derived.Shelf.Strconv.ToErrorRange
import Derived.Shelf.Strings.Search1
import Derived.Shelf.Strings.Search2
import Derived.Shelf.Strings.Search3
import Derived.Shelf.Strings.Shaped
import Derived.Shelf.Strings.Runes
import Derived.Shelf.Strings.IndexAny
import Derived.Shelf.Strings.AsciiSet
import Derived.Shelf.Strings.IndexAnyAll
import Derived.Test.YtlhlijaondmccaaGreatDoorChecked
import Derived.Lib.Walk
import Derived.Lib.ItoaMem
import Derived.Lib.QuietBelow
import Derived.WalkKit
import Derived.ProofKit
import Derived.BigCall
import Derived.BigGuard
import Derived.Below
import Derived.WalkSmall
set_option linter.all false
set_option maxRecDepth 100000
set_option maxHeartbeats 4000000
open _root_.Array renaming getElem?_toList → gN
open _root_.Bool renaming and_eq_true → an, and_self → bn, and_true → bC, false_eq_true → ae, not_false → bf, not_true → bA, or_eq_true → iQ, true_and → bm
open _root_.Int renaming natCast_zero → eB
open _root_.List renaming all_cons → bq, all_eq_true → dH, all_nil → bT, cons_append → aA, drop_nil → bY, drop_succ_cons → aK, drop_zero → aO, getD_cons_succ → aL, getD_cons_zero → aM, getElem?_cons_succ → az, getElem?_cons_zero → aB, getElem?_eq_getElem → cO, isPrefixOf → ef, length_cons → ai, length_nil → aD, map_cons → aZ, map_nil → bc, mem_of_getElem? → eJ, modify_succ_cons → aI, modify_zero_cons → aJ, nil_append → bg, take_left → bB, take_nil → bM, take_succ_cons → aw, take_zero → bj, toList_toArray → aR
open _root_.Nat renaming add_zero → bu, beq → aj, eq_of_beq_eq_true → ax, le_refl → av, reduceAdd → bP, zero_add → bh
open _root_.Option renaming bind_none → aY, bind_some → ag, map_some → aN
namespace Go.Proofs.YtlhlijaondmccaaGreatDoor.S
open Go Go.AM Go.Proofs
noncomputable def S50.b1 (call : bD) (it : bN) (base lb : Nat) (vs110 : List PV) (st111 : St) : Option (Ex × List PV × St) :=
(call (.func 75) [ah (ab vs110 0), ah (PV.v (.string ⟨#[44]⟩))] st111).bind fun r112 =>
ay r112.1 fun b113 => (bif b113 then
some (Ex.normal, [(ab vs110 0), (ab vs110 1), (ab vs110 2)], r112.2)
else
some ((Ex.exit 2), [(ab vs110 0), (ab vs110 1), (ab vs110 2)], r112.2)).bind fun r114 =>
bF r114.1 ((ao (ab r114.2.1 2) 1).bind fun p116 =>
(ak false 1 p116 r114.2.2).bind fun p117 =>
bR (r114.2.2 = r114.2.2) <|
(call (.func 78) [ah (ab r114.2.1 0)] r114.2.2).bind fun r118 =>
bR (((ak false 1 p116 r118.2).bind fun p119 =>
some (Rs.ret p119, r118.2)) = some (Rs.ret p117, r118.2)) <|
(aX 5 [.v (.string ⟨#[]⟩), .v (.int .i64 0), .v (.string ⟨#[]⟩), .v (.int .i64 0), .v (.int .i64 0)] 1 [(0, r118.1)]).bind fun p120 =>
(cm r118.2 p120).bind fun ys121 =>
(dv base [.v (.string ⟨#[]⟩), .v (.int .i64 0), .v (.string ⟨#[]⟩), .v (.int .i64 0), .v (.int .i64 0)] 5 56 p117 ys121 r118.2).bind fun r122 =>
(ao (ab r114.2.1 2) 1).bind fun p123 =>
(aq base 1 p123 r122.1 r122.2).bind fun st124 =>
some (Ex.normal, [(ab r114.2.1 0), (ab r114.2.1 1), (ab r114.2.1 2)], st124)) fun x115 =>
some (x115, [(ab r114.2.1 0), (ab r114.2.1 1), (ab r114.2.1 2)], r114.2.2)
noncomputable def vE.b0 (call : bD) (it : bN) (base lb : Nat) (vs15 : List PV) (st16 : St) : Option (Ex × List PV × St) :=
(aH Tryz.prog false .lss 3 (ab vs15 4) (ab vs15 3)).bind fun p17 =>
ay p17 fun b18 => (bif b18 then
some (Ex.normal, [(ab vs15 0), (ab vs15 1), (ab vs15 2), (ab vs15 3), (ab vs15 4)], st16)
else
some ((Ex.exit 0), [(ab vs15 0), (ab vs15 1), (ab vs15 2), (ab vs15 3), (ab vs15 4)], st16)).bind fun r19 =>
bF r19.1 ((cc Tryz.prog 91 (ab r19.2.1 2) (ab r19.2.1 4)).bind fun p21 =>
(ak false 1 p21 r19.2.2).bind fun p22 =>
(aF (ab r19.2.1 0)).bind fun p23 =>
(ao p23 2).bind fun p24 =>
(ak false 1 p24 r19.2.2).bind fun p25 =>
(aH Tryz.prog true .add 3 p25 (PV.v (.int .i64 1))).bind fun p26 =>
(aF (ab r19.2.1 0)).bind fun p27 =>
(ao p27 2).bind fun p28 =>
(aq base 1 p28 p26 r19.2.2).bind fun st29 =>
(aH Tryz.prog true .eql 5 p22 (PV.v (.int .u8 10))).bind fun p30 =>
ay p30 fun b31 => (bif b31 then
(aF (ab r19.2.1 0)).bind fun p33 =>
(ao p33 1).bind fun p34 =>
(ak false 1 p34 st29).bind fun p35 =>
(aH Tryz.prog true .add 3 p35 (PV.v (.int .i64 1))).bind fun p36 =>
(aF (ab r19.2.1 0)).bind fun p37 =>
(ao p37 1).bind fun p38 =>
(aq base 1 p38 p36 st29).bind fun st39 =>
(aF (ab r19.2.1 0)).bind fun p40 =>
(ao p40 2).bind fun p41 =>
(aq base 1 p41 (PV.v (.int .i64 1)) st39).bind fun st42 =>
some (Ex.normal, [(ab r19.2.1 0), (ab r19.2.1 1), (ab r19.2.1 2), (ab r19.2.1 3), (ab r19.2.1 4)], st42)
else
some (Ex.normal, [(ab r19.2.1 0), (ab r19.2.1 1), (ab r19.2.1 2), (ab r19.2.1 3), (ab r19.2.1 4)], st29)).bind fun r32 =>
bF (Ex.ba 1 r32.1) ((aH Tryz.prog true .add 3 (ab r32.2.1 4) (PV.v (.int .i64 1))).bind fun p44 =>
some (Ex.normal, [(ab r32.2.1 0), (ab r32.2.1 1), (ab r32.2.1 2), (ab r32.2.1 3), p44], r32.2.2)) fun x43 =>
some (x43, [(ab r32.2.1 0), (ab r32.2.1 1), (ab r32.2.1 2), (ab r32.2.1 3), (ab r32.2.1 4)], r32.2.2)) fun x20 =>
some (x20, [(ab r19.2.1 0), (ab r19.2.1 1), (ab r19.2.1 2), (ab r19.2.1 3), (ab r19.2.1 4)], r19.2.2)
noncomputable def vE (call : bD) (it : bN) (a0 a1 : PV) (st : St) : Option (PV × St) :=
(aF a0).bind fun p1 =>
(ao p1 0).bind fun p2 =>
(ak false 1 p2 st).bind fun p3 =>
(fm Tryz.prog 9 p3 none (some a1) none).bind fun p4 =>
(aF a0).bind fun p5 =>
(ao p5 0).bind fun p6 =>
(ak false 1 p6 st).bind fun p7 =>
(fm Tryz.prog 9 p7 (some a1) none none).bind fun p8 =>
(aF a0).bind fun p9 =>
(ao p9 0).bind fun p10 =>
(aq st.stk.length 1 p10 p8 st).bind fun st11 =>
(ia Tryz.prog 9 91 p4).bind fun p12 =>
(gh Tryz.prog 91 p12).bind fun p13 =>
(it (vE.b0 call it st.stk.length st.lp.length) [a0, p4, p12, p13, (PV.v (.int .i64 0))] st11).bind fun r14 =>
bF (Ex.ba 0 r14.1) (fin st.stk.length st.tk.length st.lp.length [(ab r14.2.1 1)] r14.2.2) fun x45 =>
dF x45 (fin st.stk.length st.tk.length st.lp.length [PV.u] r14.2.2)
theorem D5 (a0 a1 : PV) (st : St) : E L (.func 111) [a0, a1] st = vE (E L) itE a0 a1 st := (bL (by kernel_rfl) Tryz.func111 _ _).trans (by kernel_rfl)
noncomputable def rM.b0 (call : bD) (it : bN) (base lb : Nat) (vs6 : List PV) (st7 : St) : Option (Ex × List PV × St) :=
(rQ (ab vs6 3) st7).bind fun r8 =>
(aQ r8.1 0).bind fun p9 =>
ay p9 fun b10 => (bif b10 then
some (Ex.normal, [(ab vs6 0), (ab vs6 1), (ab vs6 2), (ab vs6 3), r8.1], r8.2)
else
some ((Ex.exit 0), [(ab vs6 0), (ab vs6 1), (ab vs6 2), (ab vs6 3), r8.1], r8.2)).bind fun r11 =>
bF r11.1 ((aQ (ab r11.2.1 4) 1).bind fun p13 =>
(aQ (ab r11.2.1 4) 2).bind fun p14 =>
fK (ab r11.2.1 1) fun g16 caps17 =>
(call g16 ([ah p14] ++ caps17) r11.2.2).bind fun r15 =>
ed r15 fun p18 st19 =>
(aUn Tryz.prog .not p18).bind fun p20 =>
ay p20 fun b21 => (bif b21 then
some (Ex.ret, [(ab r11.2.1 0), (ab r11.2.1 1), p13, (ab r11.2.1 3)], st19)
else
some (Ex.normal, [(ab r11.2.1 0), (ab r11.2.1 1), (ab r11.2.1 2), (ab r11.2.1 3)], st19)).bind fun r22 =>
some ((Ex.ba 1 r22.1), [(ab r22.2.1 0), (ab r22.2.1 1), (ab r22.2.1 2), (ab r22.2.1 3)], r22.2.2)) fun x12 =>
some (x12, [(ab r11.2.1 0), (ab r11.2.1 1), (ab r11.2.1 2), (ab r11.2.1 3)], r11.2.2)
noncomputable def rM (call : bD) (it : bN) (a0 a1 : PV) (st : St) : Option (PV × St) :=
(aF a0).bind fun p1 =>
(ao p1 0).bind fun p2 =>
(ak false 1 p2 st).bind fun p3 =>
(nc Tryz.prog 9 p3 st).bind fun r4 =>
(it (rM.b0 call it st.stk.length st.lp.length) [a0, a1, (PV.v (.int .i64 0)), r4.1] r4.2).bind fun r5 =>
bF (Ex.ba 0 r5.1) ((aF (ab r5.2.1 0)).bind fun p24 =>
(ao p24 0).bind fun p25 =>
(ak false 1 p25 r5.2.2).bind fun p26 =>
(gh Tryz.prog 9 p26).bind fun p27 =>
fin st.stk.length st.tk.length st.lp.length [p27] r5.2.2) fun x23 =>
dF x23 (fin st.stk.length st.tk.length st.lp.length [(ab r5.2.1 2)] r5.2.2)
theorem D6 (a0 a1 : PV) (st : St) : E L (.func 112) [a0, a1] st = rM (E L) itE a0 a1 st := (bL (by kernel_rfl) Tryz.func112 _ _).trans (by kernel_rfl)
noncomputable def Hz (call : bD) (it : bN) (a0 a1 : PV) (st : St) : Option (PV × St) :=
(call (.func 144) [ah a0, ah a1] st).bind fun r1 =>
fin st.stk.length st.tk.length st.lp.length [r1.1] r1.2
theorem D8 (a0 a1 : PV) (st : St) : E L (.func 114) [a0, a1] st = Hz (E L) itE a0 a1 st := (bL (by kernel_rfl) Tryz.func114 _ _).trans (by kernel_rfl)
noncomputable def S65.b0 (call : bD) (it : bN) (base lb : Nat) (vs2 : List PV) (st3 : St) : Option (Ex × List PV × St) :=
(aF (ab vs2 0)).bind fun p4 =>
(ao p4 0).bind fun p5 =>
(ak false 1 p5 st3).bind fun p6 =>
(aH Tryz.prog true .neq 9 p6 (PV.v (.string ⟨#[]⟩))).bind fun p7 =>
ay p7 fun b8 => (bif b8 then
some (Ex.normal, [(ab vs2 0)], st3)
else
some ((Ex.exit 0), [(ab vs2 0)], st3)).bind fun r9 =>
bF r9.1 ((aF (ab r9.2.1 0)).bind fun p11 =>
(ao p11 0).bind fun p12 =>
(ak false 1 p12 r9.2.2).bind fun p13 =>
(call (.func 99) [ah p13, ah (PV.v (.string ⟨#[47, 47]⟩))] r9.2.2).bind fun r14 =>
ay r14.1 fun b15 => (bif b15 then
(call (.func 112) [ah (ab r9.2.1 0), ah (PV.clo (.func 113) [])] r14.2).bind fun r17 =>
(call (.func 111) [ah (ab r9.2.1 0), ah r17.1] r17.2).bind fun r18 =>
some (Ex.normal, [(ab r9.2.1 0)], r18.2)
else
(aF (ab r9.2.1 0)).bind fun p19 =>
(ao p19 0).bind fun p20 =>
(ak false 1 p20 r14.2).bind fun p21 =>
(cG Tryz.prog 9 p21 (PV.v (.int .i64 0))).bind fun p22 =>
(call (.func 114) [ah (PV.v (.string ⟨#[32, 9, 13, 10]⟩)), ah p22] r14.2).bind fun r23 =>
(aH Tryz.prog true .geq 3 r23.1 (PV.v (.int .i64 0))).bind fun p24 =>
ay p24 fun b25 => (bif b25 then
(call (.func 111) [ah (ab r9.2.1 0), ah (PV.v (.int .i64 1))] r23.2).bind fun r27 =>
some (Ex.normal, [(ab r9.2.1 0)], r27.2)
else
some ((Ex.exit 0), [(ab r9.2.1 0)], r23.2)).bind fun r26 =>
some (r26.1, [(ab r26.2.1 0)], r26.2.2)).bind fun r16 =>
some ((Ex.ba 1 (Ex.ba 2 r16.1)), [(ab r16.2.1 0)], r16.2.2)) fun x10 =>
some (x10, [(ab r9.2.1 0)], r9.2.2)
noncomputable def S65 (call : bD) (it : bN) (a0 : PV) (st : St) : Option (PV × St) :=
(it (S65.b0 call it st.stk.length st.lp.length) [a0] st).bind fun r1 =>
dF (Ex.ba 0 r1.1) (fin st.stk.length st.tk.length st.lp.length [] r1.2.2)
theorem GB (a0 : PV) (st : St) : E L (.func 65) [a0] st = S65 (E L) itE a0 st := (bL (by kernel_rfl) Tryz.func65 _ _).trans (by kernel_rfl)
noncomputable def Gn (call : bD) (it : bN) (a0 : PV) (st : St) : Option (PV × St) :=
(aH Tryz.prog true .eql 21 a0 (PV.v (.int .i32 95))).bind fun p1 =>
(onG p1 false (
some (a0, st)) st).bind fun r3 =>
(onG p1 false (
(aH Tryz.prog true .geq 21 r3.1 (PV.v (.int .i32 97))).bind fun p6 =>
some (p6, r3.2)) r3.2).bind fun r5 =>
(onG p1 false (
some (r5.1, r5.2)) r5.2).bind fun r8 =>
(onG r8.1 true (
some (a0, r8.2)) r8.2).bind fun r10 =>
(onG r8.1 true (
(aH Tryz.prog true .leq 21 r10.1 (PV.v (.int .i32 122))).bind fun p13 =>
some (p13, r10.2)) r10.2).bind fun r12 =>
(onG p1 false (
(bE r8.1 r12.1 (PV.v (.bool false))).bind fun p16 =>
some (p16, r12.2)) r12.2).bind fun r15 =>
(bE p1 (PV.v (.bool true)) r15.1).bind fun p17 =>
(onG p17 false (
some (a0, r15.2)) r15.2).bind fun r19 =>
(onG p17 false (
(aH Tryz.prog true .geq 21 r19.1 (PV.v (.int .i32 65))).bind fun p22 =>
some (p22, r19.2)) r19.2).bind fun r21 =>
(onG p17 false (
some (r21.1, r21.2)) r21.2).bind fun r24 =>
(onG r24.1 true (
some (a0, r24.2)) r24.2).bind fun r26 =>
(onG r24.1 true (
(aH Tryz.prog true .leq 21 r26.1 (PV.v (.int .i32 90))).bind fun p29 =>
some (p29, r26.2)) r26.2).bind fun r28 =>
(onG p17 false (
(bE r24.1 r28.1 (PV.v (.bool false))).bind fun p32 =>
some (p32, r28.2)) r28.2).bind fun r31 =>
(bE p17 (PV.v (.bool true)) r31.1).bind fun p33 =>
fin st.stk.length st.tk.length st.lp.length [p33] r31.2
theorem D9 (a0 : PV) (st : St) : E L (.func 115) [a0] st = Gn (E L) itE a0 st := (bL (by kernel_rfl) Tryz.func115 _ _).trans (by kernel_rfl)
noncomputable def HA (call : bD) (it : bN) (a0 : PV) (st : St) : Option (PV × St) :=
(aH Tryz.prog true .geq 21 a0 (PV.v (.int .i32 48))).bind fun p1 =>
(onG p1 true (
some (a0, st)) st).bind fun r3 =>
(onG p1 true (
(aH Tryz.prog true .leq 21 r3.1 (PV.v (.int .i32 57))).bind fun p6 =>
some (p6, r3.2)) r3.2).bind fun r5 =>
(bE p1 r5.1 (PV.v (.bool false))).bind fun p7 =>
fin st.stk.length st.tk.length st.lp.length [p7] r5.2
theorem Ea (a0 : PV) (st : St) : E L (.func 116) [a0] st = HA (E L) itE a0 st := (bL (by kernel_rfl) Tryz.func116 _ _).trans (by kernel_rfl)
noncomputable def HE (call : bD) (it : bN) (a0 : PV) (st : St) : Option (PV × St) :=
(aH Tryz.prog true .neq 9 a0 (PV.v (.string ⟨#[]⟩))).bind fun p1 =>
(onG p1 true (
some (a0, st)) st).bind fun r3 =>
(onG p1 true (
(call (.func 169) [ah r3.1, ah (PV.v (.string ⟨#[32]⟩))] r3.2).bind fun r6 =>
some (r6.1, r6.2)) r3.2).bind fun r5 =>
(onG p1 true (
(aUn Tryz.prog .not r5.1).bind fun p9 =>
some (p9, r5.2)) r5.2).bind fun r8 =>
(bE p1 r8.1 (PV.v (.bool false))).bind fun p10 =>
(onG p10 true (
some (a0, r8.2)) r8.2).bind fun r12 =>
(onG p10 true (
(aH Tryz.prog true .add 9 (PV.v (.string ⟨#[32]⟩)) r12.1).bind fun p15 =>
some (p15, r12.2)) r12.2).bind fun r14 =>
(onG p10 true (
(aH Tryz.prog true .add 9 r14.1 (PV.v (.string ⟨#[32]⟩))).bind fun p18 =>
some (p18, r14.2)) r14.2).bind fun r17 =>
(onG p10 true (
(call (.func 169) [ah (PV.v (.string ⟨#[32, 114, 101, 99, 111, 114, 100, 32, 103, 108, 111, 98, 97, 108, 32, 102, 117, 110, 32, 116, 104, 114, 101, 97, 100, 32, 108, 101, 116, 32, 118, 97, 114, 32, 115, 101, 116, 32, 112, 114, 105, 110, 116, 32, 105, 102, 32, 101, 108, 115, 101, 32, 108, 111, 111, 112, 32, 98, 114, 101, 97, 107, 32, 99, 111, 110, 116, 105, 110, 117, 101, 32, 97, 116, 111, 109, 105, 99, 32, 99, 97, 108, 108, 32, 108, 111, 97, 100, 32, 110, 101, 119, 32, 115, 105, 122, 101, 32, 105, 110, 116, 32, 114, 101, 97, 108, 32, 105, 110, 116, 115, 32, 110, 105, 108, 32, 105, 110, 112, 117, 116, 32, 116, 114, 117, 110, 99, 32]⟩)), ah r17.1] r17.2).bind fun r21 =>
some (r21.1, r21.2)) r17.2).bind fun r20 =>
(bE p10 r20.1 (PV.v (.bool false))).bind fun p22 =>
fin st.stk.length st.tk.length st.lp.length [p22] r20.2
theorem Em (a0 : PV) (st : St) : E L (.func 146) [a0] st = HE (E L) itE a0 st := (bL (by kernel_rfl) Tryz.func146 _ _).trans (by kernel_rfl)
noncomputable def o7.b0 (call : bD) (it : bN) (base lb : Nat) (vs3 : List PV) (st4 : St) : Option (Ex × List PV × St) :=
(rQ (ab vs3 2) st4).bind fun r5 =>
(aQ r5.1 0).bind fun p6 =>
ay p6 fun b7 => (bif b7 then
some (Ex.normal, [(ab vs3 0), (ab vs3 1), (ab vs3 2), r5.1], r5.2)
else
some ((Ex.exit 0), [(ab vs3 0), (ab vs3 1), (ab vs3 2), r5.1], r5.2)).bind fun r8 =>
bF r8.1 ((aQ (ab r8.2.1 3) 1).bind fun p10 =>
(aQ (ab r8.2.1 3) 2).bind fun p11 =>
(call (.func 115) [ah p11] r8.2.2).bind fun r12 =>
(aUn Tryz.prog .not r12.1).bind fun p13 =>
(onG p13 true (
some (p10, r12.2)) r12.2).bind fun r15 =>
(onG p13 true (
(aH Tryz.prog true .eql 3 r15.1 (PV.v (.int .i64 0))).bind fun p18 =>
some (p18, r15.2)) r15.2).bind fun r17 =>
(onG p13 true (
some (r17.1, r17.2)) r17.2).bind fun r20 =>
(onG r20.1 false (
some (p11, r20.2)) r20.2).bind fun r22 =>
(onG r20.1 false (
(call (.func 116) [ah r22.1] r22.2).bind fun r25 =>
some (r25.1, r25.2)) r22.2).bind fun r24 =>
(onG r20.1 false (
(aUn Tryz.prog .not r24.1).bind fun p28 =>
some (p28, r24.2)) r24.2).bind fun r27 =>
(onG p13 true (
(bE r20.1 (PV.v (.bool true)) r27.1).bind fun p31 =>
some (p31, r27.2)) r27.2).bind fun r30 =>
(bE p13 r30.1 (PV.v (.bool false))).bind fun p32 =>
ay p32 fun b33 => (bif b33 then
some (Ex.ret, [(ab r8.2.1 0), (PV.v (.bool false)), (ab r8.2.1 2)], r30.2)
else
some (Ex.normal, [(ab r8.2.1 0), (ab r8.2.1 1), (ab r8.2.1 2)], r30.2)).bind fun r34 =>
some ((Ex.ba 1 r34.1), [(ab r34.2.1 0), (ab r34.2.1 1), (ab r34.2.1 2)], r34.2.2)) fun x9 =>
some (x9, [(ab r8.2.1 0), (ab r8.2.1 1), (ab r8.2.1 2)], r8.2.2)
noncomputable def o7 (call : bD) (it : bN) (a0 : PV) (st : St) : Option (PV × St) :=
(nc Tryz.prog 9 a0 st).bind fun r1 =>
(it (o7.b0 call it st.stk.length st.lp.length) [a0, (PV.v (.bool false)), r1.1] r1.2).bind fun r2 =>
bF (Ex.ba 0 r2.1) ((aH Tryz.prog true .neq 9 (ab r2.2.1 0) (PV.v (.string ⟨#[]⟩))).bind fun p36 =>
(onG p36 true (
some ((ab r2.2.1 0), r2.2.2)) r2.2.2).bind fun r38 =>
(onG p36 true (
(call (.func 146) [ah r38.1] r38.2).bind fun r41 =>
some (r41.1, r41.2)) r38.2).bind fun r40 =>
(onG p36 true (
(aUn Tryz.prog .not r40.1).bind fun p44 =>
some (p44, r40.2)) r40.2).bind fun r43 =>
(bE p36 r43.1 (PV.v (.bool false))).bind fun p45 =>
fin st.stk.length st.tk.length st.lp.length [p45] r43.2) fun x35 =>
dF x35 (fin st.stk.length st.tk.length st.lp.length [(ab r2.2.1 1)] r2.2.2)
theorem En (a0 : PV) (st : St) : E L (.func 147) [a0] st = o7 (E L) itE a0 st := (bL (by kernel_rfl) Tryz.func147 _ _).trans (by kernel_rfl)
noncomputable def HG (call : bD) (it : bN) (a0 : PV) (st : St) : Option (PV × St) :=
(aH Tryz.prog true .or 5 a0 (PV.v (.int .u8 32))).bind fun p1 =>
fin st.stk.length st.tk.length st.lp.length [p1] st
theorem Es (a0 : PV) (st : St) : E L (.func 177) [a0] st = HG (E L) itE a0 st := (bL (by kernel_rfl) Tryz.func177 _ _).trans (by kernel_rfl)
noncomputable def i7.b0 (call : bD) (it : bN) (base lb : Nat) (vs107 : List PV) (st108 : St) : Option (Ex × List PV × St) :=
(aH Tryz.prog false .lss 3 (ab vs107 11) (ab vs107 10)).bind fun p109 =>
ay p109 fun b110 => (bif b110 then
some (Ex.normal, [(ab vs107 0), (ab vs107 1), (ab vs107 2), (ab vs107 3), (ab vs107 4), (ab vs107 5), (ab vs107 6), (ab vs107 7), (ab vs107 8), (ab vs107 9), (ab vs107 10), (ab vs107 11)], st108)
else
some ((Ex.exit 3), [(ab vs107 0), (ab vs107 1), (ab vs107 2), (ab vs107 3), (ab vs107 4), (ab vs107 5), (ab vs107 6), (ab vs107 7), (ab vs107 8), (ab vs107 9), (ab vs107 10), (ab vs107 11)], st108)).bind fun r111 =>
bF r111.1 ((cc Tryz.prog 91 (ab r111.2.1 9) (ab r111.2.1 11)).bind fun p113 =>
(ak false 1 p113 r111.2.2).bind fun p114 =>
(aH Tryz.prog true .eql 5 p114 (PV.v (.int .u8 95))).bind fun p115 =>
(onG p115 true (
some ((ab r111.2.1 3), r111.2.2)) r111.2.2).bind fun r117 =>
(bE p115 r117.1 (PV.v (.bool false))).bind fun p118 =>
ay p118 fun b119 => (bif b119 then
some ((Ex.exit 4), [(ab r111.2.1 0), (ab r111.2.1 1), (ab r111.2.1 2), (ab r111.2.1 3), (ab r111.2.1 4), (ab r111.2.1 5), (ab r111.2.1 6), (PV.v (.bool true)), (ab r111.2.1 8), (PV.v (.int .u8 0)), (ab r111.2.1 9), (ab r111.2.1 10), (ab r111.2.1 11)], r117.2)
else
(aH Tryz.prog true .leq 5 (PV.v (.int .u8 48)) p114).bind fun p121 =>
(onG p121 true (
some (p114, r117.2)) r117.2).bind fun r123 =>
(onG p121 true (
(aH Tryz.prog true .leq 5 r123.1 (PV.v (.int .u8 57))).bind fun p126 =>
some (p126, r123.2)) r123.2).bind fun r125 =>
(bE p121 r125.1 (PV.v (.bool false))).bind fun p127 =>
ay p127 fun b128 => (bif b128 then
(aH Tryz.prog true .sub 5 p114 (PV.v (.int .u8 48))).bind fun p130 =>
some (Ex.normal, [(ab r111.2.1 0), (ab r111.2.1 1), (ab r111.2.1 2), (ab r111.2.1 3), (ab r111.2.1 4), (ab r111.2.1 5), (ab r111.2.1 6), (ab r111.2.1 7), (ab r111.2.1 8), p130, (ab r111.2.1 9), (ab r111.2.1 10), (ab r111.2.1 11)], r125.2)
else
(call (.func 177) [ah p114] r125.2).bind fun r131 =>
(aH Tryz.prog true .leq 5 (PV.v (.int .u8 97)) r131.1).bind fun p132 =>
(onG p132 true (
some (p114, r131.2)) r131.2).bind fun r134 =>
(onG p132 true (
(call (.func 177) [ah r134.1] r134.2).bind fun r137 =>
some (r137.1, r137.2)) r134.2).bind fun r136 =>
(onG p132 true (
(aH Tryz.prog true .leq 5 r136.1 (PV.v (.int .u8 122))).bind fun p140 =>
some (p140, r136.2)) r136.2).bind fun r139 =>
(bE p132 r139.1 (PV.v (.bool false))).bind fun p141 =>
ay p141 fun b142 => (bif b142 then
(call (.func 177) [ah p114] r139.2).bind fun r144 =>
(aH Tryz.prog true .sub 5 r144.1 (PV.v (.int .u8 97))).bind fun p145 =>
(aH Tryz.prog true .add 5 p145 (PV.v (.int .u8 10))).bind fun p146 =>
some (Ex.normal, [(ab r111.2.1 0), (ab r111.2.1 1), (ab r111.2.1 2), (ab r111.2.1 3), (ab r111.2.1 4), (ab r111.2.1 5), (ab r111.2.1 6), (ab r111.2.1 7), (ab r111.2.1 8), p146, (ab r111.2.1 9), (ab r111.2.1 10), (ab r111.2.1 11)], r144.2)
else
(ja Tryz.prog 212 (PV.v (.int .i64 2))).bind fun p147 =>
some (Ex.ret, [(ab r111.2.1 0), (PV.v (.int .u64 0)), p147, (ab r111.2.1 3), (ab r111.2.1 4), (ab r111.2.1 5), (ab r111.2.1 6), (ab r111.2.1 7), (ab r111.2.1 8), (PV.v (.int .u8 0)), (ab r111.2.1 9), (ab r111.2.1 10), (ab r111.2.1 11)], r139.2)).bind fun r143 =>
some (r143.1, [(ab r143.2.1 0), (ab r143.2.1 1), (ab r143.2.1 2), (ab r143.2.1 3), (ab r143.2.1 4), (ab r143.2.1 5), (ab r143.2.1 6), (ab r143.2.1 7), (ab r143.2.1 8), (ab r143.2.1 9), (ab r143.2.1 10), (ab r143.2.1 11), (ab r143.2.1 12)], r143.2.2)).bind fun r129 =>
some (r129.1, [(ab r129.2.1 0), (ab r129.2.1 1), (ab r129.2.1 2), (ab r129.2.1 3), (ab r129.2.1 4), (ab r129.2.1 5), (ab r129.2.1 6), (ab r129.2.1 7), (ab r129.2.1 8), (ab r129.2.1 9), (ab r129.2.1 10), (ab r129.2.1 11), (ab r129.2.1 12)], r129.2.2)).bind fun r120 =>
bF (Ex.ba 5 r120.1) ((ia Tryz.prog 3 5 (ab r120.2.1 0)).bind fun p149 =>
(aH Tryz.prog false .geq 5 (ab r120.2.1 9) p149).bind fun p150 =>
ay p150 fun b151 => (bif b151 then
(ja Tryz.prog 212 (PV.v (.int .i64 2))).bind fun p153 =>
some (Ex.ret, [(ab r120.2.1 0), (PV.v (.int .u64 0)), p153, (ab r120.2.1 3), (ab r120.2.1 4), (ab r120.2.1 5), (ab r120.2.1 6), (ab r120.2.1 7), (ab r120.2.1 8), (ab r120.2.1 9), (ab r120.2.1 10), (ab r120.2.1 11), (ab r120.2.1 12)], r120.2.2)
else
some (Ex.normal, [(ab r120.2.1 0), (ab r120.2.1 1), (ab r120.2.1 2), (ab r120.2.1 3), (ab r120.2.1 4), (ab r120.2.1 5), (ab r120.2.1 6), (ab r120.2.1 7), (ab r120.2.1 8), (ab r120.2.1 9), (ab r120.2.1 10), (ab r120.2.1 11), (ab r120.2.1 12)], r120.2.2)).bind fun r152 =>
bF r152.1 ((aH Tryz.prog false .geq 34 (ab r152.2.1 8) (ab r152.2.1 5)).bind fun p155 =>
ay p155 fun b156 => (bif b156 then
(ja Tryz.prog 212 (PV.v (.int .i64 1))).bind fun p158 =>
some (Ex.ret, [(ab r152.2.1 0), (ab r152.2.1 6), p158, (ab r152.2.1 3), (ab r152.2.1 4), (ab r152.2.1 5), (ab r152.2.1 6), (ab r152.2.1 7), (ab r152.2.1 8), (ab r152.2.1 9), (ab r152.2.1 10), (ab r152.2.1 11), (ab r152.2.1 12)], r152.2.2)
else
some (Ex.normal, [(ab r152.2.1 0), (ab r152.2.1 1), (ab r152.2.1 2), (ab r152.2.1 3), (ab r152.2.1 4), (ab r152.2.1 5), (ab r152.2.1 6), (ab r152.2.1 7), (ab r152.2.1 8), (ab r152.2.1 9), (ab r152.2.1 10), (ab r152.2.1 11), (ab r152.2.1 12)], r152.2.2)).bind fun r157 =>
bF r157.1 ((ia Tryz.prog 3 34 (ab r157.2.1 0)).bind fun p160 =>
(aH Tryz.prog false .mul 34 (ab r157.2.1 8) p160).bind fun p161 =>
(ia Tryz.prog 5 34 (ab r157.2.1 9)).bind fun p162 =>
(aH Tryz.prog false .add 34 p161 p162).bind fun p163 =>
(aH Tryz.prog false .lss 34 p163 p161).bind fun p164 =>
(onG p164 false (
some (p163, r157.2.2)) r157.2.2).bind fun r166 =>
(onG p164 false (
some ((ab r157.2.1 6), r166.2)) r166.2).bind fun r168 =>
(onG p164 false (
(aH Tryz.prog false .gtr 34 r166.1 r168.1).bind fun p171 =>
some (p171, r168.2)) r168.2).bind fun r170 =>
(bE p164 (PV.v (.bool true)) r170.1).bind fun p172 =>
ay p172 fun b173 => (bif b173 then
(ja Tryz.prog 212 (PV.v (.int .i64 1))).bind fun p175 =>
some (Ex.ret, [(ab r157.2.1 0), (ab r157.2.1 6), p175, (ab r157.2.1 3), (ab r157.2.1 4), (ab r157.2.1 5), (ab r157.2.1 6), (ab r157.2.1 7), p161, p163, (ab r157.2.1 10), (ab r157.2.1 11), (ab r157.2.1 12)], r170.2)
else
some (Ex.normal, [(ab r157.2.1 0), (ab r157.2.1 1), (ab r157.2.1 2), (ab r157.2.1 3), (ab r157.2.1 4), (ab r157.2.1 5), (ab r157.2.1 6), (ab r157.2.1 7), p161, p163, (ab r157.2.1 10), (ab r157.2.1 11), (ab r157.2.1 12)], r170.2)).bind fun r174 =>
bF r174.1 ((aH Tryz.prog true .add 3 (ab r174.2.1 12) (PV.v (.int .i64 1))).bind fun p177 =>
some (Ex.normal, [(ab r174.2.1 0), (ab r174.2.1 1), (ab r174.2.1 2), (ab r174.2.1 3), (ab r174.2.1 4), (ab r174.2.1 5), (ab r174.2.1 6), (ab r174.2.1 7), (ab r174.2.1 9), (ab r174.2.1 10), (ab r174.2.1 11), p177], r174.2.2)) fun x176 =>
bF (Ex.ba 4 x176) ((aH Tryz.prog true .add 3 (ab r174.2.1 12) (PV.v (.int .i64 1))).bind fun p179 =>
some (Ex.normal, [(ab r174.2.1 0), (ab r174.2.1 1), (ab r174.2.1 2), (ab r174.2.1 3), (ab r174.2.1 4), (ab r174.2.1 5), (ab r174.2.1 6), (ab r174.2.1 7), (ab r174.2.1 8), (ab r174.2.1 10), (ab r174.2.1 11), p179], r174.2.2)) fun x178 =>
some (x178, [(ab r174.2.1 0), (ab r174.2.1 1), (ab r174.2.1 2), (ab r174.2.1 3), (ab r174.2.1 4), (ab r174.2.1 5), (ab r174.2.1 6), (ab r174.2.1 7), (ab r174.2.1 8), (ab r174.2.1 10), (ab r174.2.1 11), (ab r174.2.1 12)], r174.2.2)) fun x159 =>
bF (Ex.ba 4 x159) ((aH Tryz.prog true .add 3 (ab r157.2.1 12) (PV.v (.int .i64 1))).bind fun p181 =>
some (Ex.normal, [(ab r157.2.1 0), (ab r157.2.1 1), (ab r157.2.1 2), (ab r157.2.1 3), (ab r157.2.1 4), (ab r157.2.1 5), (ab r157.2.1 6), (ab r157.2.1 7), (ab r157.2.1 8), (ab r157.2.1 10), (ab r157.2.1 11), p181], r157.2.2)) fun x180 =>
some (x180, [(ab r157.2.1 0), (ab r157.2.1 1), (ab r157.2.1 2), (ab r157.2.1 3), (ab r157.2.1 4), (ab r157.2.1 5), (ab r157.2.1 6), (ab r157.2.1 7), (ab r157.2.1 8), (ab r157.2.1 10), (ab r157.2.1 11), (ab r157.2.1 12)], r157.2.2)) fun x154 =>
bF (Ex.ba 4 x154) ((aH Tryz.prog true .add 3 (ab r152.2.1 12) (PV.v (.int .i64 1))).bind fun p183 =>
some (Ex.normal, [(ab r152.2.1 0), (ab r152.2.1 1), (ab r152.2.1 2), (ab r152.2.1 3), (ab r152.2.1 4), (ab r152.2.1 5), (ab r152.2.1 6), (ab r152.2.1 7), (ab r152.2.1 8), (ab r152.2.1 10), (ab r152.2.1 11), p183], r152.2.2)) fun x182 =>
some (x182, [(ab r152.2.1 0), (ab r152.2.1 1), (ab r152.2.1 2), (ab r152.2.1 3), (ab r152.2.1 4), (ab r152.2.1 5), (ab r152.2.1 6), (ab r152.2.1 7), (ab r152.2.1 8), (ab r152.2.1 10), (ab r152.2.1 11), (ab r152.2.1 12)], r152.2.2)) fun x148 =>
bF (Ex.ba 4 x148) ((aH Tryz.prog true .add 3 (ab r120.2.1 12) (PV.v (.int .i64 1))).bind fun p185 =>
some (Ex.normal, [(ab r120.2.1 0), (ab r120.2.1 1), (ab r120.2.1 2), (ab r120.2.1 3), (ab r120.2.1 4), (ab r120.2.1 5), (ab r120.2.1 6), (ab r120.2.1 7), (ab r120.2.1 8), (ab r120.2.1 10), (ab r120.2.1 11), p185], r120.2.2)) fun x184 =>
some (x184, [(ab r120.2.1 0), (ab r120.2.1 1), (ab r120.2.1 2), (ab r120.2.1 3), (ab r120.2.1 4), (ab r120.2.1 5), (ab r120.2.1 6), (ab r120.2.1 7), (ab r120.2.1 8), (ab r120.2.1 10), (ab r120.2.1 11), (ab r120.2.1 12)], r120.2.2)) fun x112 =>
some (x112, [(ab r111.2.1 0), (ab r111.2.1 1), (ab r111.2.1 2), (ab r111.2.1 3), (ab r111.2.1 4), (ab r111.2.1 5), (ab r111.2.1 6), (ab r111.2.1 7), (ab r111.2.1 8), (ab r111.2.1 9), (ab r111.2.1 10), (ab r111.2.1 11)], r111.2.2)
noncomputable def i7 (call : bD) (it : bN) (a0 a1 a2 : PV) (st : St) : Option (PV × St) :=
(aH Tryz.prog true .eql 9 a0 (PV.v (.string ⟨#[]⟩))).bind fun p1 =>
ay p1 fun b2 => (bif b2 then
(ja Tryz.prog 212 (PV.v (.int .i64 2))).bind fun p4 =>
some (Ex.ret, [a0, a1, a2, (PV.v (.int .u64 0)), p4], st)
else
some (Ex.normal, [a0, a1, a2, (PV.v (.int .u64 0)), (PV.v (.nilIface))], st)).bind fun r3 =>
bF r3.1 ((aH Tryz.prog true .eql 3 (ab r3.2.1 1) (PV.v (.int .i64 0))).bind fun p6 =>
(aH Tryz.prog true .leq 3 (PV.v (.int .i64 2)) (ab r3.2.1 1)).bind fun p7 =>
(onG p7 true (
some ((ab r3.2.1 1), r3.2.2)) r3.2.2).bind fun r9 =>
(onG p7 true (
(aH Tryz.prog true .leq 3 r9.1 (PV.v (.int .i64 36))).bind fun p12 =>
some (p12, r9.2)) r9.2).bind fun r11 =>
(bE p7 r11.1 (PV.v (.bool false))).bind fun p13 =>
ay p13 fun b14 => (bif b14 then
some (Ex.normal, [(ab r3.2.1 0), (ab r3.2.1 1), (ab r3.2.1 2), (ab r3.2.1 3), (ab r3.2.1 4), p6, (ab r3.2.1 0)], r11.2)
else
(aH Tryz.prog true .eql 3 (ab r3.2.1 1) (PV.v (.int .i64 0))).bind fun p16 =>
ay p16 fun b17 => (bif b17 then
(cG Tryz.prog 9 (ab r3.2.1 0) (PV.v (.int .i64 0))).bind fun p19 =>
(aH Tryz.prog true .eql 5 p19 (PV.v (.int .u8 48))).bind fun p20 =>
ay p20 fun b21 => (bif b21 then
(gh Tryz.prog 9 (ab r3.2.1 0)).bind fun p23 =>
(aH Tryz.prog true .geq 3 p23 (PV.v (.int .i64 3))).bind fun p24 =>
(onG p24 true (
some ((ab r3.2.1 0), r11.2)) r11.2).bind fun r26 =>
(onG p24 true (
(cG Tryz.prog 9 r26.1 (PV.v (.int .i64 1))).bind fun p29 =>
some (p29, r26.2)) r26.2).bind fun r28 =>
(onG p24 true (
(call (.func 177) [ah r28.1] r28.2).bind fun r32 =>
some (r32.1, r32.2)) r28.2).bind fun r31 =>
(onG p24 true (
(aH Tryz.prog true .eql 5 r31.1 (PV.v (.int .u8 98))).bind fun p35 =>
some (p35, r31.2)) r31.2).bind fun r34 =>
(bE p24 r34.1 (PV.v (.bool false))).bind fun p36 =>
ay p36 fun b37 => (bif b37 then
(fm Tryz.prog 9 (ab r3.2.1 0) (some (PV.v (.int .i64 2))) none none).bind fun p39 =>
some (Ex.normal, [p39, (PV.v (.int .i64 2)), (ab r3.2.1 2), (ab r3.2.1 3), (ab r3.2.1 4), p6, (ab r3.2.1 0)], r34.2)
else
(gh Tryz.prog 9 (ab r3.2.1 0)).bind fun p40 =>
(aH Tryz.prog true .geq 3 p40 (PV.v (.int .i64 3))).bind fun p41 =>
(onG p41 true (
some ((ab r3.2.1 0), r34.2)) r34.2).bind fun r43 =>
(onG p41 true (
(cG Tryz.prog 9 r43.1 (PV.v (.int .i64 1))).bind fun p46 =>
some (p46, r43.2)) r43.2).bind fun r45 =>
(onG p41 true (
(call (.func 177) [ah r45.1] r45.2).bind fun r49 =>
some (r49.1, r49.2)) r45.2).bind fun r48 =>
(onG p41 true (
(aH Tryz.prog true .eql 5 r48.1 (PV.v (.int .u8 111))).bind fun p52 =>
some (p52, r48.2)) r48.2).bind fun r51 =>
(bE p41 r51.1 (PV.v (.bool false))).bind fun p53 =>
ay p53 fun b54 => (bif b54 then
(fm Tryz.prog 9 (ab r3.2.1 0) (some (PV.v (.int .i64 2))) none none).bind fun p56 =>
some (Ex.normal, [p56, (PV.v (.int .i64 8)), (ab r3.2.1 2), (ab r3.2.1 3), (ab r3.2.1 4), p6, (ab r3.2.1 0)], r51.2)
else
(gh Tryz.prog 9 (ab r3.2.1 0)).bind fun p57 =>
(aH Tryz.prog true .geq 3 p57 (PV.v (.int .i64 3))).bind fun p58 =>
(onG p58 true (
some ((ab r3.2.1 0), r51.2)) r51.2).bind fun r60 =>
(onG p58 true (
(cG Tryz.prog 9 r60.1 (PV.v (.int .i64 1))).bind fun p63 =>
some (p63, r60.2)) r60.2).bind fun r62 =>
(onG p58 true (
(call (.func 177) [ah r62.1] r62.2).bind fun r66 =>
some (r66.1, r66.2)) r62.2).bind fun r65 =>
(onG p58 true (
(aH Tryz.prog true .eql 5 r65.1 (PV.v (.int .u8 120))).bind fun p69 =>
some (p69, r65.2)) r65.2).bind fun r68 =>
(bE p58 r68.1 (PV.v (.bool false))).bind fun p70 =>
ay p70 fun b71 => (bif b71 then
(fm Tryz.prog 9 (ab r3.2.1 0) (some (PV.v (.int .i64 2))) none none).bind fun p73 =>
some (Ex.normal, [p73, (PV.v (.int .i64 16)), (ab r3.2.1 2), (ab r3.2.1 3), (ab r3.2.1 4), p6, (ab r3.2.1 0)], r68.2)
else
(fm Tryz.prog 9 (ab r3.2.1 0) (some (PV.v (.int .i64 1))) none none).bind fun p74 =>
some (Ex.normal, [p74, (PV.v (.int .i64 8)), (ab r3.2.1 2), (ab r3.2.1 3), (ab r3.2.1 4), p6, (ab r3.2.1 0)], r68.2)).bind fun r72 =>
some (r72.1, [(ab r72.2.1 0), (ab r72.2.1 1), (ab r72.2.1 2), (ab r72.2.1 3), (ab r72.2.1 4), (ab r72.2.1 5), (ab r72.2.1 6)], r72.2.2)).bind fun r55 =>
some (r55.1, [(ab r55.2.1 0), (ab r55.2.1 1), (ab r55.2.1 2), (ab r55.2.1 3), (ab r55.2.1 4), (ab r55.2.1 5), (ab r55.2.1 6)], r55.2.2)).bind fun r38 =>
some ((Ex.ba 1 r38.1), [(ab r38.2.1 0), (ab r38.2.1 1), (ab r38.2.1 2), (ab r38.2.1 3), (ab r38.2.1 4), (ab r38.2.1 5), (ab r38.2.1 6)], r38.2.2)
else
some (Ex.normal, [(ab r3.2.1 0), (PV.v (.int .i64 10)), (ab r3.2.1 2), (ab r3.2.1 3), (ab r3.2.1 4), p6, (ab r3.2.1 0)], r11.2)).bind fun r22 =>
some (r22.1, [(ab r22.2.1 0), (ab r22.2.1 1), (ab r22.2.1 2), (ab r22.2.1 3), (ab r22.2.1 4), (ab r22.2.1 5), (ab r22.2.1 6)], r22.2.2)
else
(ja Tryz.prog 212 (PV.v (.int .i64 3))).bind fun p75 =>
some (Ex.ret, [(ab r3.2.1 0), (ab r3.2.1 1), (ab r3.2.1 2), (PV.v (.int .u64 0)), p75, p6, (ab r3.2.1 0)], r11.2)).bind fun r18 =>
some (r18.1, [(ab r18.2.1 0), (ab r18.2.1 1), (ab r18.2.1 2), (ab r18.2.1 3), (ab r18.2.1 4), (ab r18.2.1 5), (ab r18.2.1 6)], r18.2.2)).bind fun r15 =>
bF (Ex.ba 0 r15.1) ((aH Tryz.prog true .eql 3 (ab r15.2.1 2) (PV.v (.int .i64 0))).bind fun p77 =>
ay p77 fun b78 => (bif b78 then
some (Ex.normal, [(ab r15.2.1 0), (ab r15.2.1 1), (PV.v (.int .i64 64)), (ab r15.2.1 3), (ab r15.2.1 4), (ab r15.2.1 5), (ab r15.2.1 6)], r15.2.2)
else
(aH Tryz.prog true .lss 3 (ab r15.2.1 2) (PV.v (.int .i64 0))).bind fun p80 =>
(onG p80 false (
some ((ab r15.2.1 2), r15.2.2)) r15.2.2).bind fun r82 =>
(onG p80 false (
(aH Tryz.prog true .gtr 3 r82.1 (PV.v (.int .i64 64))).bind fun p85 =>
some (p85, r82.2)) r82.2).bind fun r84 =>
(bE p80 (PV.v (.bool true)) r84.1).bind fun p86 =>
ay p86 fun b87 => (bif b87 then
(ja Tryz.prog 212 (PV.v (.int .i64 4))).bind fun p89 =>
some (Ex.ret, [(ab r15.2.1 0), (ab r15.2.1 1), (ab r15.2.1 2), (PV.v (.int .u64 0)), p89, (ab r15.2.1 5), (ab r15.2.1 6)], r84.2)
else
some (Ex.normal, [(ab r15.2.1 0), (ab r15.2.1 1), (ab r15.2.1 2), (ab r15.2.1 3), (ab r15.2.1 4), (ab r15.2.1 5), (ab r15.2.1 6)], r84.2)).bind fun r88 =>
some (r88.1, [(ab r88.2.1 0), (ab r88.2.1 1), (ab r88.2.1 2), (ab r88.2.1 3), (ab r88.2.1 4), (ab r88.2.1 5), (ab r88.2.1 6)], r88.2.2)).bind fun r79 =>
bF r79.1 ((aH Tryz.prog true .eql 3 (ab r79.2.1 1) (PV.v (.int .i64 10))).bind fun p91 =>
ay p91 fun b92 => (bif b92 then
some (Ex.normal, [(ab r79.2.1 0), (ab r79.2.1 1), (ab r79.2.1 2), (ab r79.2.1 3), (ab r79.2.1 4), (ab r79.2.1 5), (ab r79.2.1 6), (PV.v (.int .u64 1844674407370955162))], r79.2.2)
else
(aH Tryz.prog true .eql 3 (ab r79.2.1 1) (PV.v (.int .i64 16))).bind fun p94 =>
ay p94 fun b95 => (bif b95 then
some (Ex.normal, [(ab r79.2.1 0), (ab r79.2.1 1), (ab r79.2.1 2), (ab r79.2.1 3), (ab r79.2.1 4), (ab r79.2.1 5), (ab r79.2.1 6), (PV.v (.int .u64 1152921504606846976))], r79.2.2)
else
(ia Tryz.prog 3 34 (ab r79.2.1 1)).bind fun p97 =>
(aH Tryz.prog true .quo 34 (PV.v (.int .u64 18446744073709551615)) p97).bind fun p98 =>
(aH Tryz.prog true .add 34 p98 (PV.v (.int .u64 1))).bind fun p99 =>
some (Ex.normal, [(ab r79.2.1 0), (ab r79.2.1 1), (ab r79.2.1 2), (ab r79.2.1 3), (ab r79.2.1 4), (ab r79.2.1 5), (ab r79.2.1 6), p99], r79.2.2)).bind fun r96 =>
some (r96.1, [(ab r96.2.1 0), (ab r96.2.1 1), (ab r96.2.1 2), (ab r96.2.1 3), (ab r96.2.1 4), (ab r96.2.1 5), (ab r96.2.1 6), (ab r96.2.1 7)], r96.2.2)).bind fun r93 =>
bF (Ex.ba 2 r93.1) ((ia Tryz.prog 3 122 (ab r93.2.1 2)).bind fun p101 =>
(aH Tryz.prog true .shl 34 (PV.v (.int .u64 1)) p101).bind fun p102 =>
(aH Tryz.prog true .sub 34 p102 (PV.v (.int .u64 1))).bind fun p103 =>
(ia Tryz.prog 9 91 (ab r93.2.1 0)).bind fun p104 =>
(gh Tryz.prog 91 p104).bind fun p105 =>
(it (i7.b0 call it st.stk.length st.lp.length) [(ab r93.2.1 1), (ab r93.2.1 3), (ab r93.2.1 4), (ab r93.2.1 5), (ab r93.2.1 6), (ab r93.2.1 7), p103, (PV.v (.bool false)), (PV.v (.int .u64 0)), p104, p105, (PV.v (.int .i64 0))] r93.2.2).bind fun r106 =>
bF (Ex.ba 3 r106.1) ((onG (ab r106.2.1 7) true (
some ((ab r106.2.1 4), r106.2.2)) r106.2.2).bind fun r188 =>
(onG (ab r106.2.1 7) true (
(call (.func 178) [ah r188.1] r188.2).bind fun r191 =>
some (r191.1, r191.2)) r188.2).bind fun r190 =>
(onG (ab r106.2.1 7) true (
(aUn Tryz.prog .not r190.1).bind fun p194 =>
some (p194, r190.2)) r190.2).bind fun r193 =>
(bE (ab r106.2.1 7) r193.1 (PV.v (.bool false))).bind fun p195 =>
ay p195 fun b196 => (bif b196 then
(ja Tryz.prog 212 (PV.v (.int .i64 2))).bind fun p198 =>
some (Ex.ret, [(PV.v (.int .u64 0)), p198, (ab r106.2.1 8)], r193.2)
else
some (Ex.normal, [(ab r106.2.1 1), (ab r106.2.1 2), (ab r106.2.1 8)], r193.2)).bind fun r197 =>
bF r197.1 (fin st.stk.length st.tk.length st.lp.length [(ab r197.2.1 2), (PV.v (.nilIface))] r197.2.2) fun x199 =>
dF x199 (fin st.stk.length st.tk.length st.lp.length [(ab r197.2.1 0), (ab r197.2.1 1)] r197.2.2)) fun x186 =>
dF x186 (fin st.stk.length st.tk.length st.lp.length [(ab r106.2.1 1), (ab r106.2.1 2)] r106.2.2)) fun x100 =>
dF x100 (fin st.stk.length st.tk.length st.lp.length [(ab r93.2.1 3), (ab r93.2.1 4)] r93.2.2)) fun x90 =>
dF x90 (fin st.stk.length st.tk.length st.lp.length [(ab r79.2.1 3), (ab r79.2.1 4)] r79.2.2)) fun x76 =>
dF x76 (fin st.stk.length st.tk.length st.lp.length [(ab r15.2.1 3), (ab r15.2.1 4)] r15.2.2)) fun x5 =>
dF x5 (fin st.stk.length st.tk.length st.lp.length [(ab r3.2.1 3), (ab r3.2.1 4)] r3.2.2)
theorem yV (a0 a1 a2 : PV) (st : St) : E L (.func 170) [a0, a1, a2] st = i7 (E L) itE a0 a1 a2 st := (bL (by kernel_rfl) Tryz.func170 _ _).trans (by kernel_rfl)
noncomputable def BN (call : bD) (it : bN) (a0 a1 a2 : PV) (st : St) : Option (PV × St) :=
(call (.func 170) [ah a0, ah a1, ah a2] st).bind fun r1 =>
(aQ r1.1 0).bind fun p2 =>
(aQ r1.1 1).bind fun p3 =>
(aH Tryz.prog true .neq 128 p3 (PV.v (.nilIface))).bind fun p4 =>
ay p4 fun b5 => (bif b5 then
(call (.func 171) [ah (PV.v (.string ⟨#[80, 97, 114, 115, 101, 85, 105, 110, 116]⟩)), ah a0, ah a1, ah a2, ah p3] r1.2).bind fun r7 =>
some (Ex.ret, [p2, r7.1, p2], r7.2)
else
some (Ex.normal, [(PV.v (.int .u64 0)), (PV.v (.nilIface)), p2], r1.2)).bind fun r6 =>
bF r6.1 (fin st.stk.length st.tk.length st.lp.length [(ab r6.2.1 2), (PV.v (.nilIface))] r6.2.2) fun x8 =>
dF x8 (fin st.stk.length st.tk.length st.lp.length [(ab r6.2.1 0), (ab r6.2.1 1)] r6.2.2)
theorem yS (a0 a1 a2 : PV) (st : St) : E L (.func 148) [a0, a1, a2] st = BN (E L) itE a0 a1 a2 st := (bL (by kernel_rfl) Tryz.func148 _ _).trans (by kernel_rfl)
noncomputable def BM (call : bD) (it : bN) (a0 : PV) (st : St) : Option (PV × St) :=
let q2 : PV := .ptr false st.stk.length 0
let st1 := st.push [.v (.int .i64 0), .v (.string ⟨#[]⟩), .v (.int .u64 0), .v (.int .i64 0), .v (.int .i64 0)]
(aF a0).bind fun p3 =>
(ao p3 1).bind fun p4 =>
(ak false 1 p4 st1).bind fun p5 =>
bR (st1 = st1) <|
(aF a0).bind fun p6 =>
(ao p6 2).bind fun p7 =>
(ak false 1 p7 st1).bind fun p8 =>
bR (st1 = st1) <|
(aW [(0, 1), (1, 1), (2, 1), (3, 1), (4, 1)] [.v (.int .i64 0), .v (.string ⟨#[]⟩), .v (.int .u64 0), .v (.int .i64 0), .v (.int .i64 0)] [(3, p5), (4, p8)]).bind fun p9 =>
let q11 : PV := .ptr false st1.stk.length 0
let st10 := st1.push [.v (.int .i64 0), .v (.string ⟨#[]⟩), .v (.int .u64 0), .v (.int .i64 0), .v (.int .i64 0)]
bR (((ak false 1 p7 st10).bind fun p12 =>
some (Rs.ret p12, st10)) = some (Rs.ret p8, st10)) <|
bR (((ak false 1 p4 st10).bind fun p13 =>
some (Rs.ret p13, st10)) = some (Rs.ret p5, st10)) <|
(aq st.stk.length 5 q11 p9 st10).bind fun st14 =>
(call (.func 112) [ah a0, ah (PV.clo (.func 145) [])] st14).bind fun r15 =>
(call (.func 111) [ah a0, ah r15.1] r15.2).bind fun r16 =>
(ao q11 1).bind fun p17 =>
(aq st.stk.length 1 p17 r16.1 r16.2).bind fun st18 =>
(ao q11 1).bind fun p19 =>
(ak false 1 p19 st18).bind fun p20 =>
(call (.func 146) [ah p20] st18).bind fun r21 =>
ay r21.1 fun b22 => (bif b22 then
(ao q11 0).bind fun p24 =>
(aq st.stk.length 1 p24 (PV.v (.int .i64 2)) r21.2).bind fun st25 =>
some (Ex.normal, [q2, (PV.v (.bool false)), q11], st25)
else
(ao q11 1).bind fun p26 =>
(ak false 1 p26 r21.2).bind fun p27 =>
(call (.func 147) [ah p27] r21.2).bind fun r28 =>
ay r28.1 fun b29 => (bif b29 then
(ao q11 0).bind fun p31 =>
(aq st.stk.length 1 p31 (PV.v (.int .i64 1)) r28.2).bind fun st32 =>
some (Ex.normal, [q2, (PV.v (.bool false)), q11], st32)
else
(ao q11 1).bind fun p33 =>
(ak false 1 p33 r28.2).bind fun p34 =>
(call (.func 148) [ah p34, ah (PV.v (.int .i64 10)), ah (PV.v (.int .i64 63))] r28.2).bind fun r35 =>
(aQ r35.1 0).bind fun p36 =>
(aQ r35.1 1).bind fun p37 =>
(ao q11 0).bind fun p38 =>
(aq st.stk.length 1 p38 (PV.v (.int .i64 3)) r35.2).bind fun st39 =>
(ao q11 2).bind fun p40 =>
(aq st.stk.length 1 p40 p36 st39).bind fun st41 =>
(ak true 5 q11 st41).bind fun p42 =>
bR (st41 = st41) <|
(aH Tryz.prog true .eql 128 p37 (PV.v (.nilIface))).bind fun p43 =>
(onG p43 true (
some (p36, st41)) st41).bind fun r45 =>
(onG p43 true (
(call (.func 31) [ah r45.1, ah (PV.v (.int .i64 10))] st41).bind fun r48 =>
some (r48.1, r48.2)) st41).bind fun r47 =>
bR (r47.2 = st41) <|
(onG p43 true (
(ao q11 1).bind fun p51 =>
some (p51, st41)) st41).bind fun r50 =>
(onG p43 true (
(ak false 1 r50.1 st41).bind fun p54 =>
some (p54, st41)) st41).bind fun r53 =>
bR (r53.2 = st41) <|
(onG p43 true (
(aH Tryz.prog false .eql 9 r47.1 r53.1).bind fun p57 =>
some (p57, st41)) st41).bind fun r56 =>
(bE p43 r56.1 (PV.v (.bool false))).bind fun p58 =>
(aq st.stk.length 5 q2 p42 st41).bind fun st59 =>
bR (((onG p43 true (
(ak false 1 r50.1 st59).bind fun p62 =>
some (p62, st59)) st59).bind fun r61 =>
some (Rs.ret r61.1, r61.2)) = some (Rs.ret r53.1, st59)) <|
some (Ex.ret, [q2, p58, q11], st59)).bind fun r30 =>
some (r30.1, [(ab r30.2.1 0), (ab r30.2.1 1), (ab r30.2.1 2)], r30.2.2)).bind fun r23 =>
bF (Ex.ba 0 r23.1) ((ak true 5 (ab r23.2.1 2) r23.2.2).bind fun p64 =>
(aq st.stk.length 5 (ab r23.2.1 0) p64 r23.2.2).bind fun st65 =>
(ak true 5 (ab r23.2.1 0) st65).bind fun p66 =>
fin st.stk.length st.tk.length st.lp.length [p66, (PV.v (.bool true))] st65) fun x63 =>
dF x63 ((ak true 5 (ab r23.2.1 0) r23.2.2).bind fun p67 =>
fin st.stk.length st.tk.length st.lp.length [p67, (ab r23.2.1 1)] r23.2.2)
theorem Eb (a0 : PV) (st : St) : E L (.func 117) [a0] st = BM (E L) itE a0 st := (bL (by kernel_rfl) Tryz.func117 _ _).trans (by kernel_rfl)
noncomputable def Ec (call : bD) (it : bN) (a0 : PV) (st : St) : Option (PV × St) :=
let q2 : PV := .ptr false st.stk.length 0
let st1 := st.push [.v (.int .i64 0), .v (.string ⟨#[]⟩), .v (.int .u64 0), .v (.int .i64 0), .v (.int .i64 0)]
(aF a0).bind fun p3 =>
(ao p3 1).bind fun p4 =>
(ak false 1 p4 st1).bind fun p5 =>
bR (st1 = st1) <|
(aF a0).bind fun p6 =>
(ao p6 2).bind fun p7 =>
(ak false 1 p7 st1).bind fun p8 =>
bR (st1 = st1) <|
(aW [(0, 1), (1, 1), (2, 1), (3, 1), (4, 1)] [.v (.int .i64 0), .v (.string ⟨#[]⟩), .v (.int .u64 0), .v (.int .i64 0), .v (.int .i64 0)] [(0, (PV.v (.int .i64 4))), (3, p5), (4, p8)]).bind fun p9 =>
let q11 : PV := .ptr false st1.stk.length 0
let st10 := st1.push [.v (.int .i64 0), .v (.string ⟨#[]⟩), .v (.int .u64 0), .v (.int .i64 0), .v (.int .i64 0)]
bR (((ak false 1 p7 st10).bind fun p12 =>
some (Rs.ret p12, st10)) = some (Rs.ret p8, st10)) <|
bR (((ak false 1 p4 st10).bind fun p13 =>
some (Rs.ret p13, st10)) = some (Rs.ret p5, st10)) <|
(aq st.stk.length 5 q11 p9 st10).bind fun st14 =>
(call (.func 111) [ah a0, ah (PV.v (.int .i64 1))] st14).bind fun r15 =>
(call (.func 112) [ah a0, ah (PV.clo (.func 149) [])] r15.2).bind fun r16 =>
(call (.func 111) [ah a0, ah r16.1] r16.2).bind fun r17 =>
(aH Tryz.prog true .add 9 (PV.v (.string ⟨#[35]⟩)) r17.1).bind fun p18 =>
(ao q11 1).bind fun p19 =>
(aq st.stk.length 1 p19 p18 r17.2).bind fun st20 =>
(ao q11 1).bind fun p21 =>
(ak false 1 p21 st20).bind fun p22 =>
(fm Tryz.prog 9 p22 (some (PV.v (.int .i64 1))) none none).bind fun p23 =>
(call (.func 148) [ah p23, ah (PV.v (.int .i64 16)), ah (PV.v (.int .i64 64))] st20).bind fun r24 =>
(aQ r24.1 0).bind fun p25 =>
(aQ r24.1 1).bind fun p26 =>
(ao q11 2).bind fun p27 =>
(aq st.stk.length 1 p27 p25 r24.2).bind fun st28 =>
(ak true 5 q11 st28).bind fun p29 =>
bR (st28 = st28) <|
(aH Tryz.prog true .eql 128 p26 (PV.v (.nilIface))).bind fun p30 =>
(onG p30 true (
(ao q11 1).bind fun p33 =>
some (p33, st28)) st28).bind fun r32 =>
(onG p30 true (
(ak false 1 r32.1 st28).bind fun p36 =>
some (p36, st28)) st28).bind fun r35 =>
bR (r35.2 = st28) <|
(onG p30 true (
(gh Tryz.prog 9 r35.1).bind fun p39 =>
some (p39, st28)) st28).bind fun r38 =>
(onG p30 true (
(aH Tryz.prog true .eql 3 r38.1 (PV.v (.int .i64 17))).bind fun p42 =>
some (p42, st28)) st28).bind fun r41 =>
(bE p30 r41.1 (PV.v (.bool false))).bind fun p43 =>
(onG p43 true (
(ao q11 1).bind fun p46 =>
some (p46, st28)) st28).bind fun r45 =>
(onG p43 true (
(ak false 1 r45.1 st28).bind fun p49 =>
some (p49, st28)) st28).bind fun r48 =>
bR (r48.2 = st28) <|
(onG p43 true (
(call (.func 150) [ah r48.1, ah (PV.v (.string ⟨#[65, 66, 67, 68, 69, 70]⟩))] st28).bind fun r52 =>
some (r52.1, r52.2)) st28).bind fun r51 =>
bR (r51.2 = st28) <|
(onG p43 true (
(aUn Tryz.prog .not r51.1).bind fun p55 =>
some (p55, st28)) st28).bind fun r54 =>
(bE p43 r54.1 (PV.v (.bool false))).bind fun p56 =>
(aq st.stk.length 5 q2 p29 st28).bind fun st57 =>
(ak true 5 q2 st57).bind fun p58 =>
fin st.stk.length st.tk.length st.lp.length [p58, p56] st57
theorem Ed (a0 : PV) (st : St) : E L (.func 118) [a0] st = Ec (E L) itE a0 st := (bL (by kernel_rfl) Tryz.func118 _ _).trans (by kernel_rfl)
noncomputable def qo.b0 (call : bD) (it : bN) (base lb : Nat) (vs17 : List PV) (st18 : St) : Option (Ex × List PV × St) :=
(aH Tryz.prog true .lss 3 (ab vs17 5) (PV.v (.int .i64 3))).bind fun p19 =>
ay p19 fun b20 => (bif b20 then
some (Ex.normal, [(ab vs17 0), (ab vs17 1), (ab vs17 2), (ab vs17 3), (ab vs17 4), (ab vs17 5)], st18)
else
some ((Ex.exit 0), [(ab vs17 0), (ab vs17 1), (ab vs17 2), (ab vs17 3), (ab vs17 4), (ab vs17 5)], st18)).bind fun r21 =>
bF r21.1 ((cG Tryz.prog 198 (ab r21.2.1 4) (ab r21.2.1 5)).bind fun p23 =>
(aF (ab r21.2.1 0)).bind fun p24 =>
(ao p24 0).bind fun p25 =>
(ak false 1 p25 r21.2.2).bind fun p26 =>
(call (.func 99) [ah p26, ah p23] r21.2.2).bind fun r27 =>
ay r27.1 fun b28 => (bif b28 then
(call (.func 111) [ah (ab r21.2.1 0), ah (PV.v (.int .i64 2))] r27.2).bind fun r30 =>
(ao (ab r21.2.1 3) 1).bind fun p31 =>
(aq base 1 p31 r30.1 r30.2).bind fun st32 =>
(ak true 5 (ab r21.2.1 3) st32).bind fun p33 =>
(aq base 5 (ab r21.2.1 1) p33 st32).bind fun st34 =>
some (Ex.ret, [(ab r21.2.1 0), (ab r21.2.1 1), (PV.v (.bool true)), (ab r21.2.1 3), (ab r21.2.1 4), (ab r21.2.1 5)], st34)
else
some (Ex.normal, [(ab r21.2.1 0), (ab r21.2.1 1), (ab r21.2.1 2), (ab r21.2.1 3), (ab r21.2.1 4), (ab r21.2.1 5)], r27.2)).bind fun r29 =>
bF (Ex.ba 1 r29.1) ((aH Tryz.prog true .add 3 (ab r29.2.1 5) (PV.v (.int .i64 1))).bind fun p36 =>
some (Ex.normal, [(ab r29.2.1 0), (ab r29.2.1 1), (ab r29.2.1 2), (ab r29.2.1 3), (ab r29.2.1 4), p36], r29.2.2)) fun x35 =>
some (x35, [(ab r29.2.1 0), (ab r29.2.1 1), (ab r29.2.1 2), (ab r29.2.1 3), (ab r29.2.1 4), (ab r29.2.1 5)], r29.2.2)) fun x22 =>
some (x22, [(ab r21.2.1 0), (ab r21.2.1 1), (ab r21.2.1 2), (ab r21.2.1 3), (ab r21.2.1 4), (ab r21.2.1 5)], r21.2.2)
noncomputable def qo (call : bD) (it : bN) (a0 : PV) (st : St) : Option (PV × St) :=
let q2 : PV := .ptr false st.stk.length 0
let st1 := st.push [.v (.int .i64 0), .v (.string ⟨#[]⟩), .v (.int .u64 0), .v (.int .i64 0), .v (.int .i64 0)]
(aF a0).bind fun p3 =>
(ao p3 1).bind fun p4 =>
(ak false 1 p4 st1).bind fun p5 =>
bR (st1 = st1) <|
(aF a0).bind fun p6 =>
(ao p6 2).bind fun p7 =>
(ak false 1 p7 st1).bind fun p8 =>
bR (st1 = st1) <|
(aW [(0, 1), (1, 1), (2, 1), (3, 1), (4, 1)] [.v (.int .i64 0), .v (.string ⟨#[]⟩), .v (.int .u64 0), .v (.int .i64 0), .v (.int .i64 0)] [(0, (PV.v (.int .i64 5))), (3, p5), (4, p8)]).bind fun p9 =>
let q11 : PV := .ptr false st1.stk.length 0
let st10 := st1.push [.v (.int .i64 0), .v (.string ⟨#[]⟩), .v (.int .u64 0), .v (.int .i64 0), .v (.int .i64 0)]
bR (((ak false 1 p7 st10).bind fun p12 =>
some (Rs.ret p12, st10)) = some (Rs.ret p8, st10)) <|
bR (((ak false 1 p4 st10).bind fun p13 =>
some (Rs.ret p13, st10)) = some (Rs.ret p5, st10)) <|
(aq st.stk.length 5 q11 p9 st10).bind fun st14 =>
(kv Tryz.prog 198 [(0, (PV.v (.string ⟨#[61, 61]⟩))), (1, (PV.v (.string ⟨#[33, 61]⟩))), (2, (PV.v (.string ⟨#[60, 61]⟩)))]).bind fun p15 =>
(it (qo.b0 call it st.stk.length st.lp.length) [a0, q2, (PV.v (.bool false)), q11, p15, (PV.v (.int .i64 0))] st14).bind fun r16 =>
bF (Ex.ba 0 r16.1) ((aF (ab r16.2.1 0)).bind fun p38 =>
(ao p38 0).bind fun p39 =>
(ak false 1 p39 r16.2.2).bind fun p40 =>
(cG Tryz.prog 9 p40 (PV.v (.int .i64 0))).bind fun p41 =>
(call (.func 114) [ah (PV.v (.string ⟨#[123, 125, 40, 41, 91, 93, 59, 58, 44, 46, 61, 60, 43, 45, 42, 47, 37]⟩)), ah p41] r16.2.2).bind fun r42 =>
(aH Tryz.prog true .lss 3 r42.1 (PV.v (.int .i64 0))).bind fun p43 =>
ay p43 fun b44 => (bif b44 then
(ak true 5 (ab r16.2.1 3) r42.2).bind fun p46 =>
(aq st.stk.length 5 (ab r16.2.1 1) p46 r42.2).bind fun st47 =>
some (Ex.ret, [(ab r16.2.1 0), (ab r16.2.1 1), (PV.v (.bool false)), (ab r16.2.1 3)], st47)
else
some (Ex.normal, [(ab r16.2.1 0), (ab r16.2.1 1), (ab r16.2.1 2), (ab r16.2.1 3)], r42.2)).bind fun r45 =>
bF r45.1 ((call (.func 111) [ah (ab r45.2.1 0), ah (PV.v (.int .i64 1))] r45.2.2).bind fun r49 =>
(ao (ab r45.2.1 3) 1).bind fun p50 =>
(aq st.stk.length 1 p50 r49.1 r49.2).bind fun st51 =>
(ak true 5 (ab r45.2.1 3) st51).bind fun p52 =>
(aq st.stk.length 5 (ab r45.2.1 1) p52 st51).bind fun st53 =>
(ak true 5 (ab r45.2.1 1) st53).bind fun p54 =>
fin st.stk.length st.tk.length st.lp.length [p54, (PV.v (.bool true))] st53) fun x48 =>
dF x48 ((ak true 5 (ab r45.2.1 1) r45.2.2).bind fun p55 =>
fin st.stk.length st.tk.length st.lp.length [p55, (ab r45.2.1 2)] r45.2.2)) fun x37 =>
dF x37 ((ak true 5 (ab r16.2.1 1) r16.2.2).bind fun p56 =>
fin st.stk.length st.tk.length st.lp.length [p56, (ab r16.2.1 2)] r16.2.2)
theorem Ee (a0 : PV) (st : St) : E L (.func 119) [a0] st = qo (E L) itE a0 st := (bL (by kernel_rfl) Tryz.func119 _ _).trans (by kernel_rfl)
noncomputable def S66 (call : bD) (it : bN) (a0 : PV) (st : St) : Option (PV × St) :=
let q2 : PV := .ptr false st.stk.length 0
let st1 := st.push [.v (.int .i64 0), .v (.string ⟨#[]⟩), .v (.int .u64 0), .v (.int .i64 0), .v (.int .i64 0)]
(aF a0).bind fun p3 =>
(ao p3 0).bind fun p4 =>
(ak false 1 p4 st1).bind fun p5 =>
(cG Tryz.prog 9 p5 (PV.v (.int .i64 0))).bind fun p6 =>
(ia Tryz.prog 5 21 p6).bind fun p7 =>
(call (.func 115) [ah p7] st1).bind fun r8 =>
(onG r8.1 false (
some (p7, r8.2)) r8.2).bind fun r10 =>
(onG r8.1 false (
(call (.func 116) [ah r10.1] r10.2).bind fun r13 =>
some (r13.1, r13.2)) r10.2).bind fun r12 =>
(bE r8.1 (PV.v (.bool true)) r12.1).bind fun p14 =>
ay p14 fun b15 => (bif b15 then
(call (.func 117) [ah a0] r12.2).bind fun r17 =>
(aQ r17.1 0).bind fun p18 =>
(aQ r17.1 1).bind fun p19 =>
(aq st.stk.length 5 q2 p18 r17.2).bind fun st20 =>
some (Ex.ret, [a0, q2, p19], st20)
else
(aH Tryz.prog true .eql 21 p7 (PV.v (.int .i32 35))).bind fun p21 =>
ay p21 fun b22 => (bif b22 then
(call (.func 118) [ah a0] r12.2).bind fun r24 =>
(aQ r24.1 0).bind fun p25 =>
(aQ r24.1 1).bind fun p26 =>
(aq st.stk.length 5 q2 p25 r24.2).bind fun st27 =>
some (Ex.ret, [a0, q2, p26], st27)
else
some (Ex.normal, [a0, q2, (PV.v (.bool false))], r12.2)).bind fun r23 =>
some (r23.1, [(ab r23.2.1 0), (ab r23.2.1 1), (ab r23.2.1 2)], r23.2.2)).bind fun r16 =>
bF (Ex.ba 0 r16.1) ((call (.func 119) [ah (ab r16.2.1 0)] r16.2.2).bind fun r29 =>
(aQ r29.1 0).bind fun p30 =>
(aQ r29.1 1).bind fun p31 =>
(aq st.stk.length 5 (ab r16.2.1 1) p30 r29.2).bind fun st32 =>
(ak true 5 (ab r16.2.1 1) st32).bind fun p33 =>
fin st.stk.length st.tk.length st.lp.length [p33, p31] st32) fun x28 =>
dF x28 ((ak true 5 (ab r16.2.1 1) r16.2.2).bind fun p34 =>
fin st.stk.length st.tk.length st.lp.length [p34, (ab r16.2.1 2)] r16.2.2)
theorem GC (a0 : PV) (st : St) : E L (.func 66) [a0] st = S66 (E L) itE a0 st := (bL (by kernel_rfl) Tryz.func66 _ _).trans (by kernel_rfl)
noncomputable def S46.b0 (call : bD) (it : bN) (base lb : Nat) (vs15 : List PV) (st16 : St) : Option (Ex × List PV × St) :=
(call (.func 65) [ah (ab vs15 3)] st16).bind fun r17 =>
(aF (ab vs15 3)).bind fun p18 =>
(ao p18 0).bind fun p19 =>
(ak false 1 p19 r17.2).bind fun p20 =>
(aH Tryz.prog true .eql 9 p20 (PV.v (.string ⟨#[]⟩))).bind fun p21 =>
ay p21 fun b22 => (bif b22 then
(aF (ab vs15 3)).bind fun p24 =>
(ao p24 1).bind fun p25 =>
(ak false 1 p25 r17.2).bind fun p26 =>
bR (r17.2 = r17.2) <|
(aF (ab vs15 3)).bind fun p27 =>
(ao p27 2).bind fun p28 =>
(ak false 1 p28 r17.2).bind fun p29 =>
bR (r17.2 = r17.2) <|
(aW [(0, 1), (1, 1), (2, 1), (3, 1), (4, 1)] [.v (.int .i64 0), .v (.string ⟨#[]⟩), .v (.int .u64 0), .v (.int .i64 0), .v (.int .i64 0)] [(3, p26), (4, p29)]).bind fun p30 =>
(aX 5 [.v (.int .i64 0), .v (.string ⟨#[]⟩), .v (.int .u64 0), .v (.int .i64 0), .v (.int .i64 0)] 1 [(0, p30)]).bind fun p31 =>
(cm r17.2 p31).bind fun ys32 =>
(dv base [.v (.int .i64 0), .v (.string ⟨#[]⟩), .v (.int .u64 0), .v (.int .i64 0), .v (.int .i64 0)] 5 48 (ab vs15 2) ys32 r17.2).bind fun r33 =>
(aW [(0, 1), (1, 1), (2, 1)] [.v (.int .i64 0), .v (.int .i64 0), .v (.int .i64 0)] []).bind fun p34 =>
(aq base 3 (ab vs15 1) p34 r33.2).bind fun st35 =>
some (Ex.ret, [r33.1, (ab vs15 1), (ab vs15 2), (ab vs15 3)], st35)
else
some (Ex.normal, [(ab vs15 0), (ab vs15 1), (ab vs15 2), (ab vs15 3)], r17.2)).bind fun r23 =>
bF r23.1 ((call (.func 66) [ah (ab r23.2.1 3)] r23.2.2).bind fun r37 =>
(aQ r37.1 0).bind fun p38 =>
(aQ r37.1 1).bind fun p39 =>
let q41 : PV := .ptr false r37.2.stk.length 0
let st40 := r37.2.push [.v (.int .i64 0), .v (.string ⟨#[]⟩), .v (.int .u64 0), .v (.int .i64 0), .v (.int .i64 0)]
(aq base 5 q41 p38 st40).bind fun st42 =>
(aUn Tryz.prog .not p39).bind fun p43 =>
ay p43 fun b44 => (bif b44 then
(ao q41 3).bind fun p46 =>
(ak false 1 p46 st42).bind fun p47 =>
bR (st42 = st42) <|
(ao q41 4).bind fun p48 =>
(ak false 1 p48 st42).bind fun p49 =>
bR (st42 = st42) <|
(aW [(0, 1), (1, 1), (2, 1)] [.v (.int .i64 0), .v (.int .i64 0), .v (.int .i64 0)] [(0, (PV.v (.int .i64 3))), (1, p47), (2, p49)]).bind fun p50 =>
(aq base 3 (ab r23.2.1 1) p50 st42).bind fun st51 =>
some (Ex.ret, [(PV.sl [] .nil), (ab r23.2.1 1), (ab r23.2.1 2), (ab r23.2.1 3), q41], st51)
else
some (Ex.normal, [(ab r23.2.1 0), (ab r23.2.1 1), (ab r23.2.1 2), (ab r23.2.1 3), q41], st42)).bind fun r45 =>
bF r45.1 ((ak true 5 (ab r45.2.1 4) r45.2.2).bind fun p53 =>
(aX 5 [.v (.int .i64 0), .v (.string ⟨#[]⟩), .v (.int .u64 0), .v (.int .i64 0), .v (.int .i64 0)] 1 [(0, p53)]).bind fun p54 =>
(cm r45.2.2 p54).bind fun ys55 =>
(dv base [.v (.int .i64 0), .v (.string ⟨#[]⟩), .v (.int .u64 0), .v (.int .i64 0), .v (.int .i64 0)] 5 48 (ab r45.2.1 2) ys55 r45.2.2).bind fun r56 =>
eN base lb st16.stk.length Ex.normal [(ab r45.2.1 0), (ab r45.2.1 1), r56.1, (ab r45.2.1 3)] r56.2) fun x52 =>
eN base lb st16.stk.length (Ex.ba 1 x52) [(ab r45.2.1 0), (ab r45.2.1 1), (ab r45.2.1 2), (ab r45.2.1 3)] r45.2.2) fun x36 =>
eN base lb st16.stk.length (Ex.ba 1 x36) [(ab r23.2.1 0), (ab r23.2.1 1), (ab r23.2.1 2), (ab r23.2.1 3)] r23.2.2
noncomputable def S46 (call : bD) (it : bN) (a0 : PV) (st : St) : Option (PV × St) :=
let q2 : PV := .ptr false st.stk.length 0
let st1 := st.push [.v (.int .i64 0), .v (.int .i64 0), .v (.int .i64 0)]
(gh Tryz.prog 9 a0).bind fun p3 =>
(aH Tryz.prog true .gtr 3 p3 (PV.v (.int .i64 8192))).bind fun p4 =>
ay p4 fun b5 => (bif b5 then
(aW [(0, 1), (1, 1), (2, 1)] [.v (.int .i64 0), .v (.int .i64 0), .v (.int .i64 0)] [(0, (PV.v (.int .i64 10))), (1, (PV.v (.int .i64 1))), (2, (PV.v (.int .i64 1)))]).bind fun p7 =>
(aq st.stk.length 3 q2 p7 st1).bind fun st8 =>
some (Ex.ret, [a0, (PV.sl [] .nil), q2], st8)
else
some (Ex.normal, [a0, (PV.sl [] .nil), q2], st1)).bind fun r6 =>
bF r6.1 ((aW [(0, 1), (1, 1), (2, 1)] [.v (.string ⟨#[]⟩), .v (.int .i64 0), .v (.int .i64 0)] [(0, (ab r6.2.1 0)), (1, (PV.v (.int .i64 1))), (2, (PV.v (.int .i64 1)))]).bind fun p10 =>
(cellsOf p10).bind fun b11 =>
let q13 : PV := .ptr false r6.2.2.stk.length 0
let st12 := r6.2.2.push b11
(it (S46.b0 call it st.stk.length st.lp.length) [(ab r6.2.1 1), (ab r6.2.1 2), (PV.sl [] .nil), q13] st12).bind fun r14 =>
dF (Ex.ba 0 r14.1) ((ak true 3 (ab r14.2.1 1) r14.2.2).bind fun p57 =>
fin st.stk.length st.tk.length st.lp.length [(ab r14.2.1 0), p57] r14.2.2)) fun x9 =>
dF x9 ((ak true 3 (ab r6.2.1 2) r6.2.2).bind fun p58 =>
fin st.stk.length st.tk.length st.lp.length [(ab r6.2.1 1), p58] r6.2.2)
theorem Gz (a0 : PV) (st : St) : E L (.func 46) [a0] st = S46 (E L) itE a0 st := (bL (by kernel_rfl) Tryz.func46 _ _).trans (by kernel_rfl)
noncomputable def S67 (call : bD) (it : bN) (a0 : PV) (st : St) : Option (PV × St) :=
let q2 : PV := .ptr false st.stk.length 0
let st1 := st.push [.v (.int .i64 0), .v (.string ⟨#[]⟩), .v (.int .u64 0), .v (.int .i64 0), .v (.int .i64 0)]
(aF a0).bind fun p3 =>
(ao p3 0).bind fun p4 =>
(ak false 1 p4 st1).bind fun p5 =>
bR (st1 = st1) <|
(aF a0).bind fun p6 =>
(ao p6 1).bind fun p7 =>
(ak false 1 p7 st1).bind fun p8 =>
bR (st1 = st1) <|
(cc Tryz.prog 101 p5 p8).bind fun p9 =>
(ak true 5 p9 st1).bind fun p10 =>
bR (st1 = st1) <|
(aq st.stk.length 5 q2 p10 st1).bind fun st11 =>
(ak true 5 q2 st11).bind fun p12 =>
fin st.stk.length st.tk.length st.lp.length [p12] st11
theorem GD (a0 : PV) (st : St) : E L (.func 67) [a0] st = S67 (E L) itE a0 st := (bL (by kernel_rfl) Tryz.func67 _ _).trans (by kernel_rfl)
noncomputable def Ef (call : bD) (it : bN) (a0 a1 : PV) (st : St) : Option (PV × St) :=
(call (.func 67) [ah a0] st).bind fun r1 =>
let q3 : PV := .ptr false r1.2.stk.length 0
let st2 := r1.2.push [.v (.int .i64 0), .v (.string ⟨#[]⟩), .v (.int .u64 0), .v (.int .i64 0), .v (.int .i64 0)]
(aq st.stk.length 5 q3 r1.1 st2).bind fun st4 =>
(ao q3 0).bind fun p5 =>
(ak false 1 p5 st4).bind fun p6 =>
(aH Tryz.prog true .eql 138 p6 (PV.v (.int .i64 2))).bind fun p7 =>
(onG p7 false (
(ao q3 0).bind fun p10 =>
some (p10, st4)) st4).bind fun r9 =>
(onG p7 false (
(ak false 1 r9.1 r9.2).bind fun p13 =>
some (p13, r9.2)) r9.2).bind fun r12 =>
(onG p7 false (
(aH Tryz.prog true .eql 138 r12.1 (PV.v (.int .i64 5))).bind fun p16 =>
some (p16, r12.2)) r12.2).bind fun r15 =>
(bE p7 (PV.v (.bool true)) r15.1).bind fun p17 =>
(onG p17 true (
(ao q3 1).bind fun p20 =>
some (p20, r15.2)) r15.2).bind fun r19 =>
(onG p17 true (
(ak false 1 r19.1 r19.2).bind fun p23 =>
some (p23, r19.2)) r19.2).bind fun r22 =>
(onG p17 true (
some (a1, r22.2)) r22.2).bind fun r25 =>
(onG p17 true (
(aH Tryz.prog false .eql 9 r22.1 r25.1).bind fun p28 =>
some (p28, r25.2)) r25.2).bind fun r27 =>
(bE p17 r27.1 (PV.v (.bool false))).bind fun p29 =>
fin st.stk.length st.tk.length st.lp.length [p29] r27.2
theorem Eg (a0 a1 : PV) (st : St) : E L (.func 120) [a0, a1] st = Ef (E L) itE a0 a1 st := (bL (by kernel_rfl) Tryz.func120 _ _).trans (by kernel_rfl)
noncomputable def S68 (call : bD) (it : bN) (a0 a1 : PV) (st : St) : Option (PV × St) :=
(call (.func 120) [ah a0, ah a1] st).bind fun r1 =>
ay r1.1 fun b2 => (bif b2 then
(aF a0).bind fun p4 =>
(ao p4 1).bind fun p5 =>
(ak false 1 p5 r1.2).bind fun p6 =>
(aH Tryz.prog true .add 3 p6 (PV.v (.int .i64 1))).bind fun p7 =>
(aF a0).bind fun p8 =>
(ao p8 1).bind fun p9 =>
(aq st.stk.length 1 p9 p7 r1.2).bind fun st10 =>
some (Ex.ret, [(PV.v (.bool true))], st10)
else
some (Ex.normal, [(PV.v (.bool false))], r1.2)).bind fun r3 =>
bF r3.1 (fin st.stk.length st.tk.length st.lp.length [(PV.v (.bool false))] r3.2.2) fun x11 =>
dF x11 (fin st.stk.length st.tk.length st.lp.length [(ab r3.2.1 0)] r3.2.2)
theorem GF (a0 a1 : PV) (st : St) : E L (.func 68) [a0, a1] st = S68 (E L) itE a0 a1 st := (bL (by kernel_rfl) Tryz.func68 _ _).trans (by kernel_rfl)
noncomputable def S74 (call : bD) (it : bN) (a0 a1 a2 : PV) (st : St) : Option (PV × St) :=
(cellsOf a2).bind fun b1 =>
let q3 : PV := .ptr false st.stk.length 0
let st2 := st.push b1
(ao q3 3).bind fun p4 =>
(ak false 1 p4 st2).bind fun p5 =>
(ao q3 4).bind fun p6 =>
(ak false 1 p6 st2).bind fun p7 =>
(aW [(0, 1), (1, 1), (2, 1)] [.v (.int .i64 0), .v (.int .i64 0), .v (.int .i64 0)] [(0, a1), (1, p5), (2, p7)]).bind fun p8 =>
(aF a0).bind fun p9 =>
(ao p9 3).bind fun p10 =>
(aq st.stk.length 3 p10 p8 st2).bind fun st11 =>
(aW [] [] []).bind fun p12 =>
(ja Tryz.prog 108 p12).bind fun p13 =>
uc p13 fun t14 x15 =>
some (PV.pan t14 x15, st11.back st.stk.length st.tk.length st.lp.length)
theorem GG (a0 a1 a2 : PV) (st : St) : E L (.func 74) [a0, a1, a2] st = S74 (E L) itE a0 a1 a2 st := (bL (by kernel_rfl) Tryz.func74 _ _).trans (by kernel_rfl)
noncomputable def S71 (call : bD) (it : bN) (a0 a1 : PV) (st : St) : Option (PV × St) :=
let q2 : PV := .ptr false st.stk.length 0
let st1 := st.push [.v (.int .i64 0), .v (.string ⟨#[]⟩), .v (.int .u64 0), .v (.int .i64 0), .v (.int .i64 0)]
(call (.func 67) [ah a0] st1).bind fun r3 =>
let q5 : PV := .ptr false r3.2.stk.length 0
let st4 := r3.2.push [.v (.int .i64 0), .v (.string ⟨#[]⟩), .v (.int .u64 0), .v (.int .i64 0), .v (.int .i64 0)]
(aq st.stk.length 5 q5 r3.1 st4).bind fun st6 =>
(call (.func 68) [ah a0, ah a1] st6).bind fun r7 =>
(aUn Tryz.prog .not r7.1).bind fun p8 =>
ay p8 fun b9 => (bif b9 then
(ak true 5 q5 r7.2).bind fun p11 =>
(call (.func 74) [ah a0, ah (PV.v (.int .i64 4)), ah p11] r7.2).bind fun r12 =>
aV r12 (fun p13 st14 =>
some (Ex.normal, [q2, q5], st14)) (fun t15 x16 st17 =>
some ((Ex.pan t15 x16), [q2, q5], st17))
else
some (Ex.normal, [q2, q5], r7.2)).bind fun r10 =>
bF r10.1 ((ak true 5 (ab r10.2.1 1) r10.2.2).bind fun p19 =>
(aq st.stk.length 5 (ab r10.2.1 0) p19 r10.2.2).bind fun st20 =>
(ak true 5 (ab r10.2.1 0) st20).bind fun p21 =>
fin st.stk.length st.tk.length st.lp.length [p21] st20) fun x18 =>
fQ st.stk.length st.tk.length st.lp.length x18 r10.2.2 ((ak true 5 (ab r10.2.1 0) r10.2.2).bind fun p22 =>
fin st.stk.length st.tk.length st.lp.length [p22] r10.2.2)
theorem BQ (a0 a1 : PV) (st : St) : E L (.func 71) [a0, a1] st = S71 (E L) itE a0 a1 st := (bL (by kernel_rfl) Tryz.func71 _ _).trans (by kernel_rfl)
noncomputable def Gu (call : bD) (it : bN) (a0 : PV) (st : St) : Option (PV × St) :=
let q2 : PV := .ptr false st.stk.length 0
let st1 := st.push [.v (.int .i64 0), .v (.string ⟨#[]⟩), .v (.int .u64 0), .v (.int .i64 0), .v (.int .i64 0)]
(aF a0).bind fun p3 =>
(ao p3 0).bind fun p4 =>
(ak false 1 p4 st1).bind fun p5 =>
bR (st1 = st1) <|
(aF a0).bind fun p6 =>
(ao p6 1).bind fun p7 =>
(ak false 1 p7 st1).bind fun p8 =>
bR (st1 = st1) <|
(cc Tryz.prog 101 p5 p8).bind fun p9 =>
(ak true 5 p9 st1).bind fun p10 =>
bR (st1 = st1) <|
let q12 : PV := .ptr false st1.stk.length 0
let st11 := st1.push [.v (.int .i64 0), .v (.string ⟨#[]⟩), .v (.int .u64 0), .v (.int .i64 0), .v (.int .i64 0)]
bR (((ak true 5 p9 st11).bind fun p13 =>
some (Rs.ret p13, st11)) = some (Rs.ret p10, st11)) <|
bR (((ak false 1 p7 st11).bind fun p14 =>
some (Rs.ret p14, st11)) = some (Rs.ret p8, st11)) <|
bR (((ak false 1 p4 st11).bind fun p15 =>
some (Rs.ret p15, st11)) = some (Rs.ret p5, st11)) <|
(aq st.stk.length 5 q12 p10 st11).bind fun st16 =>
(ao q12 0).bind fun p17 =>
(ak false 1 p17 st16).bind fun p18 =>
(aH Tryz.prog true .neq 138 p18 (PV.v (.int .i64 0))).bind fun p19 =>
ay p19 fun b20 => (bif b20 then
(aF a0).bind fun p22 =>
(ao p22 1).bind fun p23 =>
(ak false 1 p23 st16).bind fun p24 =>
(aH Tryz.prog true .add 3 p24 (PV.v (.int .i64 1))).bind fun p25 =>
(aF a0).bind fun p26 =>
(ao p26 1).bind fun p27 =>
(aq st.stk.length 1 p27 p25 st16).bind fun st28 =>
some (Ex.normal, [q2, q12], st28)
else
some (Ex.normal, [q2, q12], st16)).bind fun r21 =>
bF r21.1 ((ak true 5 (ab r21.2.1 1) r21.2.2).bind fun p30 =>
(aq st.stk.length 5 (ab r21.2.1 0) p30 r21.2.2).bind fun st31 =>
(ak true 5 (ab r21.2.1 0) st31).bind fun p32 =>
fin st.stk.length st.tk.length st.lp.length [p32] st31) fun x29 =>
dF x29 ((ak true 5 (ab r21.2.1 0) r21.2.2).bind fun p33 =>
fin st.stk.length st.tk.length st.lp.length [p33] r21.2.2)
theorem Ep (a0 : PV) (st : St) : E L (.func 151) [a0] st = Gu (E L) itE a0 st := (bL (by kernel_rfl) Tryz.func151 _ _).trans (by kernel_rfl)
noncomputable def Gp (call : bD) (it : bN) (a0 a1 : PV) (st : St) : Option (PV × St) :=
let q2 : PV := .ptr false st.stk.length 0
let st1 := st.push [.v (.int .i64 0), .v (.string ⟨#[]⟩), .v (.int .u64 0), .v (.int .i64 0), .v (.int .i64 0)]
(call (.func 67) [ah a0] st1).bind fun r3 =>
let q5 : PV := .ptr false r3.2.stk.length 0
let st4 := r3.2.push [.v (.int .i64 0), .v (.string ⟨#[]⟩), .v (.int .u64 0), .v (.int .i64 0), .v (.int .i64 0)]
(aq st.stk.length 5 q5 r3.1 st4).bind fun st6 =>
(ao q5 0).bind fun p7 =>
(ak false 1 p7 st6).bind fun p8 =>
(aH Tryz.prog false .neq 138 p8 a1).bind fun p9 =>
ay p9 fun b10 => (bif b10 then
(ak true 5 q5 st6).bind fun p12 =>
(call (.func 74) [ah a0, ah (PV.v (.int .i64 4)), ah p12] st6).bind fun r13 =>
aV r13 (fun p14 st15 =>
some (Ex.normal, [a0, q2], st15)) (fun t16 x17 st18 =>
some ((Ex.pan t16 x17), [a0, q2], st18))
else
some (Ex.normal, [a0, q2], st6)).bind fun r11 =>
bF r11.1 ((call (.func 151) [ah (ab r11.2.1 0)] r11.2.2).bind fun r20 =>
(aq st.stk.length 5 (ab r11.2.1 1) r20.1 r20.2).bind fun st21 =>
(ak true 5 (ab r11.2.1 1) st21).bind fun p22 =>
fin st.stk.length st.tk.length st.lp.length [p22] st21) fun x19 =>
fQ st.stk.length st.tk.length st.lp.length x19 r11.2.2 ((ak true 5 (ab r11.2.1 1) r11.2.2).bind fun p23 =>
fin st.stk.length st.tk.length st.lp.length [p23] r11.2.2)
theorem yQ (a0 a1 : PV) (st : St) : E L (.func 121) [a0, a1] st = Gp (E L) itE a0 a1 st := (bL (by kernel_rfl) Tryz.func121 _ _).trans (by kernel_rfl)
noncomputable def na.b0 (call : bD) (it : bN) (base lb : Nat) (vs5 : List PV) (st6 : St) : Option (Ex × List PV × St) :=
(aH Tryz.prog true .lss 3 (ab vs5 3) (PV.v (.int .i64 4))).bind fun p7 =>
ay p7 fun b8 => (bif b8 then
some (Ex.normal, [(ab vs5 0), (ab vs5 1), (ab vs5 2), (ab vs5 3)], st6)
else
some ((Ex.exit 0), [(ab vs5 0), (ab vs5 1), (ab vs5 2), (ab vs5 3)], st6)).bind fun r9 =>
bF r9.1 ((cG Tryz.prog 199 (ab r9.2.1 2) (ab r9.2.1 3)).bind fun p11 =>
(aH Tryz.prog true .neq 9 p11 (PV.v (.string ⟨#[]⟩))).bind fun p12 =>
(onG p12 true (
some ((ab r9.2.1 0), r9.2.2)) r9.2.2).bind fun r14 =>
(onG p12 true (
some (p11, r14.2)) r14.2).bind fun r16 =>
(onG p12 true (
(call (.func 68) [ah r14.1, ah r16.1] r16.2).bind fun r19 =>
some (r19.1, r19.2)) r16.2).bind fun r18 =>
(bE p12 r18.1 (PV.v (.bool false))).bind fun p20 =>
ay p20 fun b21 => (bif b21 then
(aW [(0, 1), (1, 1)] [.v (.int .i64 0), .v (.string ⟨#[]⟩)] [(0, (ab r9.2.1 3))]).bind fun p23 =>
(aq base 2 (ab r9.2.1 1) p23 r18.2).bind fun st24 =>
some (Ex.ret, [(ab r9.2.1 0), (ab r9.2.1 1), (ab r9.2.1 2), (ab r9.2.1 3)], st24)
else
some (Ex.normal, [(ab r9.2.1 0), (ab r9.2.1 1), (ab r9.2.1 2), (ab r9.2.1 3)], r18.2)).bind fun r22 =>
bF (Ex.ba 1 r22.1) ((aH Tryz.prog true .add 3 (ab r22.2.1 3) (PV.v (.int .i64 1))).bind fun p26 =>
some (Ex.normal, [(ab r22.2.1 0), (ab r22.2.1 1), (ab r22.2.1 2), p26], r22.2.2)) fun x25 =>
some (x25, [(ab r22.2.1 0), (ab r22.2.1 1), (ab r22.2.1 2), (ab r22.2.1 3)], r22.2.2)) fun x10 =>
some (x10, [(ab r9.2.1 0), (ab r9.2.1 1), (ab r9.2.1 2), (ab r9.2.1 3)], r9.2.2)
noncomputable def na (call : bD) (it : bN) (a0 : PV) (st : St) : Option (PV × St) :=
let q2 : PV := .ptr false st.stk.length 0
let st1 := st.push [.v (.int .i64 0), .v (.string ⟨#[]⟩)]
(kv Tryz.prog 199 [(0, (PV.v (.string ⟨#[]⟩))), (1, (PV.v (.string ⟨#[105, 110, 116]⟩))), (2, (PV.v (.string ⟨#[114, 101, 97, 108]⟩))), (3, (PV.v (.string ⟨#[105, 110, 116, 115]⟩)))]).bind fun p3 =>
(it (na.b0 call it st.stk.length st.lp.length) [a0, q2, p3, (PV.v (.int .i64 0))] st1).bind fun r4 =>
bF (Ex.ba 0 r4.1) ((call (.func 121) [ah (ab r4.2.1 0), ah (PV.v (.int .i64 1))] r4.2.2).bind fun r28 =>
aV r28 (fun p29 st30 =>
(gC Tryz.prog 140 p29 1).bind fun p34 =>
(aW [(0, 1), (1, 1)] [.v (.int .i64 0), .v (.string ⟨#[]⟩)] [(0, (PV.v (.int .i64 4))), (1, p34)]).bind fun p35 =>
(aq st.stk.length 2 (ab r4.2.1 1) p35 st30).bind fun st36 =>
(ak true 2 (ab r4.2.1 1) st36).bind fun p37 =>
fin st.stk.length st.tk.length st.lp.length [p37] st36) (fun t31 x32 st33 =>
some (PV.pan t31 x32, st33.back st.stk.length st.tk.length st.lp.length))) fun x27 =>
fQ st.stk.length st.tk.length st.lp.length x27 r4.2.2 ((ak true 2 (ab r4.2.1 1) r4.2.2).bind fun p38 =>
fin st.stk.length st.tk.length st.lp.length [p38] r4.2.2)
theorem o6 (a0 : PV) (st : St) : E L (.func 122) [a0] st = na (E L) itE a0 st := (bL (by kernel_rfl) Tryz.func122 _ _).trans (by kernel_rfl)
noncomputable def S70 (call : bD) (it : bN) (a0 : PV) (st : St) : Option (PV × St) :=
let q2 : PV := .ptr false st.stk.length 0
let st1 := st.push [.v (.string ⟨#[]⟩), .v (.int .i64 0), .v (.string ⟨#[]⟩), .v (.int .i64 0), .v (.int .i64 0)]
(call (.func 121) [ah a0, ah (PV.v (.int .i64 1))] st1).bind fun r3 =>
aV r3 (fun p4 st5 =>
let q10 : PV := .ptr false st5.stk.length 0
let st9 := st5.push [.v (.int .i64 0), .v (.string ⟨#[]⟩), .v (.int .u64 0), .v (.int .i64 0), .v (.int .i64 0)]
(aq st.stk.length 5 q10 p4 st9).bind fun st11 =>
(call (.func 71) [ah a0, ah (PV.v (.string ⟨#[58]⟩))] st11).bind fun r12 =>
aV r12 (fun p13 st14 =>
(ao q10 1).bind fun p18 =>
(ak false 1 p18 st14).bind fun p19 =>
bR (st14 = st14) <|
(call (.func 122) [ah a0] st14).bind fun r20 =>
aV r20 (fun p21 st22 =>
bR (((ak false 1 p18 st22).bind fun p26 =>
some (Rs.ret p26, st22)) = some (Rs.ret p19, st22)) <|
(ao q10 3).bind fun p27 =>
(ak false 1 p27 st22).bind fun p28 =>
bR (st22 = st22) <|
bR (((ak false 1 p27 st14).bind fun p29 =>
some (Rs.ret p29, st14)) = some (Rs.ret p28, st14)) <|
(ao q10 4).bind fun p30 =>
(ak false 1 p30 st22).bind fun p31 =>
bR (st22 = st22) <|
bR (((ak false 1 p30 st14).bind fun p32 =>
some (Rs.ret p32, st14)) = some (Rs.ret p31, st14)) <|
(aW [(0, 1), (1, 2), (3, 1), (4, 1)] [.v (.string ⟨#[]⟩), .v (.int .i64 0), .v (.string ⟨#[]⟩), .v (.int .i64 0), .v (.int .i64 0)] [(0, p19), (1, p21), (2, p28), (3, p31)]).bind fun p33 =>
(aq st.stk.length 5 q2 p33 st22).bind fun st34 =>
(ak true 5 q2 st34).bind fun p35 =>
fin st.stk.length st.tk.length st.lp.length [p35] st34) (fun t23 x24 st25 =>
(ao q10 3).bind fun p36 =>
(ak false 1 p36 st14).bind fun p37 =>
bR (st14 = st14) <|
(ao q10 4).bind fun p38 =>
(ak false 1 p38 st14).bind fun p39 =>
bR (st14 = st14) <|
some (PV.pan t23 x24, st25.back st.stk.length st.tk.length st.lp.length))) (fun t15 x16 st17 =>
some (PV.pan t15 x16, st17.back st.stk.length st.tk.length st.lp.length))) (fun t6 x7 st8 =>
some (PV.pan t6 x7, st8.back st.stk.length st.tk.length st.lp.length))
theorem uH (a0 : PV) (st : St) : E L (.func 70) [a0] st = S70 (E L) itE a0 st := (bL (by kernel_rfl) Tryz.func70 _ _).trans (by kernel_rfl)
noncomputable def S69.b0 (call : bD) (it : bN) (base lb : Nat) (vs29 : List PV) (st30 : St) : Option (Ex × List PV × St) :=
(call (.func 68) [ah (ab vs29 0), ah (PV.v (.string ⟨#[125]⟩))] st30).bind fun r31 =>
(aUn Tryz.prog .not r31.1).bind fun p32 =>
ay p32 fun b33 => (bif b33 then
some (Ex.normal, [(ab vs29 0), (ab vs29 1), (ab vs29 2)], r31.2)
else
some ((Ex.exit 0), [(ab vs29 0), (ab vs29 1), (ab vs29 2)], r31.2)).bind fun r34 =>
bF r34.1 ((ao (ab r34.2.1 2) 1).bind fun p36 =>
(ak false 1 p36 r34.2.2).bind fun p37 =>
bR (r34.2.2 = r34.2.2) <|
(call (.func 70) [ah (ab r34.2.1 0)] r34.2.2).bind fun r38 =>
aV r38 (fun p39 st40 =>
bR (((ak false 1 p36 st40).bind fun p44 =>
some (Rs.ret p44, st40)) = some (Rs.ret p37, st40)) <|
(aX 5 [.v (.string ⟨#[]⟩), .v (.int .i64 0), .v (.string ⟨#[]⟩), .v (.int .i64 0), .v (.int .i64 0)] 1 [(0, p39)]).bind fun p45 =>
(cm st40 p45).bind fun ys46 =>
(dv base [.v (.string ⟨#[]⟩), .v (.int .i64 0), .v (.string ⟨#[]⟩), .v (.int .i64 0), .v (.int .i64 0)] 5 56 p37 ys46 st40).bind fun r47 =>
(ao (ab r34.2.1 2) 1).bind fun p48 =>
(aq base 1 p48 r47.1 r47.2).bind fun st49 =>
(call (.func 71) [ah (ab r34.2.1 0), ah (PV.v (.string ⟨#[59]⟩))] st49).bind fun r50 =>
aV r50 (fun p51 st52 =>
some (Ex.normal, [(ab r34.2.1 0), (ab r34.2.1 1), (ab r34.2.1 2)], st52)) (fun t53 x54 st55 =>
some ((Ex.pan t53 x54), [(ab r34.2.1 0), (ab r34.2.1 1), (ab r34.2.1 2)], st55))) (fun t41 x42 st43 =>
some ((Ex.pan t41 x42), [(ab r34.2.1 0), (ab r34.2.1 1), (ab r34.2.1 2)], st43))) fun x35 =>
some (x35, [(ab r34.2.1 0), (ab r34.2.1 1), (ab r34.2.1 2)], r34.2.2)
noncomputable def S69 (call : bD) (it : bN) (a0 : PV) (st : St) : Option (PV × St) :=
let q2 : PV := .ptr false st.stk.length 0
let st1 := st.push [.v (.string ⟨#[]⟩), .sl [] .nil, .v (.int .i64 0), .v (.int .i64 0)]
(call (.func 121) [ah a0, ah (PV.v (.int .i64 1))] st1).bind fun r3 =>
aV r3 (fun p4 st5 =>
let q10 : PV := .ptr false st5.stk.length 0
let st9 := st5.push [.v (.int .i64 0), .v (.string ⟨#[]⟩), .v (.int .u64 0), .v (.int .i64 0), .v (.int .i64 0)]
(aq st.stk.length 5 q10 p4 st9).bind fun st11 =>
(ao q10 1).bind fun p12 =>
(ak false 1 p12 st11).bind fun p13 =>
(ao q10 3).bind fun p14 =>
(ak false 1 p14 st11).bind fun p15 =>
(ao q10 4).bind fun p16 =>
(ak false 1 p16 st11).bind fun p17 =>
(aW [(0, 1), (1, 1), (2, 1), (3, 1)] [.v (.string ⟨#[]⟩), .sl [] .nil, .v (.int .i64 0), .v (.int .i64 0)] [(0, p13), (2, p15), (3, p17)]).bind fun p18 =>
let q20 : PV := .ptr false st11.stk.length 0
let st19 := st11.push [.v (.string ⟨#[]⟩), .sl [] .nil, .v (.int .i64 0), .v (.int .i64 0)]
(aq st.stk.length 4 q20 p18 st19).bind fun st21 =>
(call (.func 71) [ah a0, ah (PV.v (.string ⟨#[123]⟩))] st21).bind fun r22 =>
aV r22 (fun p23 st24 =>
(it (S69.b0 call it st.stk.length st.lp.length) [a0, q2, q20] st24).bind fun r28 =>
bF (Ex.ba 0 r28.1) ((ak true 4 (ab r28.2.1 2) r28.2.2).bind fun p57 =>
(aq st.stk.length 4 (ab r28.2.1 1) p57 r28.2.2).bind fun st58 =>
(ak true 4 (ab r28.2.1 1) st58).bind fun p59 =>
fin st.stk.length st.tk.length st.lp.length [p59] st58) fun x56 =>
fQ st.stk.length st.tk.length st.lp.length x56 r28.2.2 ((ak true 4 (ab r28.2.1 1) r28.2.2).bind fun p60 =>
fin st.stk.length st.tk.length st.lp.length [p60] r28.2.2)) (fun t25 x26 st27 =>
some (PV.pan t25 x26, st27.back st.stk.length st.tk.length st.lp.length))) (fun t6 x7 st8 =>
some (PV.pan t6 x7, st8.back st.stk.length st.tk.length st.lp.length))
theorem uG (a0 : PV) (st : St) : E L (.func 69) [a0] st = S69 (E L) itE a0 st := (bL (by kernel_rfl) Tryz.func69 _ _).trans (by kernel_rfl)
noncomputable def Gr (call : bD) (it : bN) (a0 a1 : PV) (st : St) : Option (PV × St) :=
(cellsOf a1).bind fun b1 =>
let q3 : PV := .ptr false st.stk.length 0
let st2 := st.push b1
(aF a0).bind fun p4 =>
(ao p4 2).bind fun p5 =>
(ak false 1 p5 st2).bind fun p6 =>
(aH Tryz.prog true .add 3 p6 (PV.v (.int .i64 1))).bind fun p7 =>
(aF a0).bind fun p8 =>
(ao p8 2).bind fun p9 =>
(aq st.stk.length 1 p9 p7 st2).bind fun st10 =>
(aF a0).bind fun p11 =>
(ao p11 2).bind fun p12 =>
(ak false 1 p12 st10).bind fun p13 =>
(aH Tryz.prog true .gtr 3 p13 (PV.v (.int .i64 12))).bind fun p14 =>
ay p14 fun b15 => (bif b15 then
(ak true 5 q3 st10).bind fun p17 =>
(call (.func 74) [ah a0, ah (PV.v (.int .i64 10)), ah p17] st10).bind fun r18 =>
aV r18 (fun p19 st20 =>
some (Ex.normal, ([] : List PV), st20)) (fun t21 x22 st23 =>
some ((Ex.pan t21 x22), ([] : List PV), st23))
else
some (Ex.normal, ([] : List PV), st10)).bind fun r16 =>
fQ st.stk.length st.tk.length st.lp.length r16.1 r16.2.2 (fin st.stk.length st.tk.length st.lp.length [] r16.2.2)
theorem yR (a0 a1 : PV) (st : St) : E L (.func 123) [a0, a1] st = Gr (E L) itE a0 a1 st := (bL (by kernel_rfl) Tryz.func123 _ _).trans (by kernel_rfl)
noncomputable def Er (call : bD) (it : bN) (a0 a1 : PV) (st : St) : Option (PV × St) :=
(cellsOf a1).bind fun b1 =>
let q3 : PV := .ptr false st.stk.length 0
let st2 := st.push b1
let q5 : PV := .ptr false st2.stk.length 0
let st4 := st2.push [.v (.int .i64 0), .v (.string ⟨#[]⟩), .v (.int .i64 0), .v (.int .i64 0), .v (.int .i64 0), .v (.int .u64 0), .v (.int .i64 0), .v (.string ⟨#[]⟩), .v (.string ⟨#[]⟩), .sl [] .nil, .v (.int .i64 0), .v (.int .i64 0), .v (.int .i64 0), .v (.string ⟨#[]⟩), .v (.string ⟨#[]⟩), .v (.int .i64 0), .v (.int .i64 0), .v (.int .u64 0), .v (.int .i64 0), .v (.string ⟨#[]⟩), .v (.string ⟨#[]⟩), .sl [] .nil, .v (.int .i64 0), .v (.int .i64 0), .v (.int .i64 0), .v (.int .i64 0), .v (.string ⟨#[]⟩), .v (.int .i64 0), .v (.int .i64 0), .v (.int .i64 0), .v (.string ⟨#[]⟩), .v (.string ⟨#[]⟩), .v (.int .i64 0), .v (.int .i64 0), .v (.int .u64 0), .v (.int .i64 0), .v (.string ⟨#[]⟩), .v (.string ⟨#[]⟩), .sl [] .nil, .v (.int .i64 0), .v (.int .i64 0), .v (.int .i64 0), .v (.int .i64 0), .v (.int .i64 0), .v (.int .i64 0), .v (.int .u64 0), .v (.int .i64 0), .v (.string ⟨#[]⟩), .v (.string ⟨#[]⟩), .sl [] .nil, .v (.int .i64 0), .v (.int .i64 0), .v (.int .i64 0), .sl [] .nil, .sl [] .nil, .sl [] .nil, .v (.int .i64 0), .v (.int .i64 0)]
(ao q3 0).bind fun p6 =>
(aq st.stk.length 1 p6 (PV.v (.int .i64 7)) st4).bind fun st7 =>
(call (.func 121) [ah a0, ah (PV.v (.int .i64 3))] st7).bind fun r8 =>
aV r8 (fun p9 st10 =>
(gC Tryz.prog 140 p9 2).bind fun p14 =>
(ia Tryz.prog 34 3 p14).bind fun p15 =>
(ao q3 52).bind fun p16 =>
(aq st.stk.length 1 p16 p15 st10).bind fun st17 =>
(call (.func 73) [ah a0] st17).bind fun r18 =>
aV r18 (fun p19 st20 =>
(ao q3 54).bind fun p24 =>
(aq st.stk.length 1 p24 p19 st20).bind fun st25 =>
(ak true 58 q3 st25).bind fun p26 =>
(aq st.stk.length 58 q5 p26 st25).bind fun st27 =>
(ak true 58 q5 st27).bind fun p28 =>
fin st.stk.length st.tk.length st.lp.length [p28] st27) (fun t21 x22 st23 =>
some (PV.pan t21 x22, st23.back st.stk.length st.tk.length st.lp.length))) (fun t11 x12 st13 =>
some (PV.pan t11 x12, st13.back st.stk.length st.tk.length st.lp.length))
theorem uF (a0 a1 : PV) (st : St) : E L (.func 153) [a0, a1] st = Er (E L) itE a0 a1 st := (bL (by kernel_rfl) Tryz.func153 _ _).trans (by kernel_rfl)
noncomputable def BO (call : bD) (it : bN) (a0 : PV) (st : St) : Option (PV × St) :=
(aH Tryz.prog true .eql 9 a0 (PV.v (.string ⟨#[45]⟩))).bind fun p1 =>
ay p1 fun b2 => (bif b2 then
some (Ex.ret, [(PV.v (.int .i64 6))], st)
else
(aH Tryz.prog true .eql 9 a0 (PV.v (.string ⟨#[114, 101, 97, 108]⟩))).bind fun p4 =>
ay p4 fun b5 => (bif b5 then
some (Ex.ret, [(PV.v (.int .i64 7))], st)
else
(aH Tryz.prog true .eql 9 a0 (PV.v (.string ⟨#[116, 114, 117, 110, 99]⟩))).bind fun p7 =>
ay p7 fun b8 => (bif b8 then
some (Ex.ret, [(PV.v (.int .i64 8))], st)
else
some (Ex.normal, [(PV.v (.int .i64 0))], st)).bind fun r9 =>
some (r9.1, [(ab r9.2.1 0)], r9.2.2)).bind fun r6 =>
some (r6.1, [(ab r6.2.1 0)], r6.2.2)).bind fun r3 =>
bF (Ex.ba 0 r3.1) (fin st.stk.length st.tk.length st.lp.length [(PV.v (.int .i64 0))] r3.2.2) fun x10 =>
dF x10 (fin st.stk.length st.tk.length st.lp.length [(ab r3.2.1 0)] r3.2.2)
theorem Ew (a0 : PV) (st : St) : E L (.func 197) [a0] st = BO (E L) itE a0 st := (bL (by kernel_rfl) Tryz.func197 _ _).trans (by kernel_rfl)
noncomputable def oj (call : bD) (it : bN) (a0 : PV) (st : St) : Option (PV × St) :=
let q2 : PV := .ptr false st.stk.length 0
let st1 := st.push [.v (.int .i64 0), .v (.int .i64 0), .v (.int .u64 0), .v (.int .i64 0), .v (.string ⟨#[]⟩), .v (.string ⟨#[]⟩), .sl [] .nil, .v (.int .i64 0), .v (.int .i64 0)]
(call (.func 151) [ah a0] st1).bind fun r3 =>
let q5 : PV := .ptr false r3.2.stk.length 0
let st4 := r3.2.push [.v (.int .i64 0), .v (.string ⟨#[]⟩), .v (.int .u64 0), .v (.int .i64 0), .v (.int .i64 0)]
(aq st.stk.length 5 q5 r3.1 st4).bind fun st6 =>
(ao q5 3).bind fun p7 =>
(ak false 1 p7 st6).bind fun p8 =>
(ao q5 4).bind fun p9 =>
(ak false 1 p9 st6).bind fun p10 =>
(aW [(0, 1), (1, 1), (2, 1), (3, 2), (5, 1), (6, 1), (7, 1), (8, 1)] [.v (.int .i64 0), .v (.int .i64 0), .v (.int .u64 0), .v (.int .i64 0), .v (.string ⟨#[]⟩), .v (.string ⟨#[]⟩), .sl [] .nil, .v (.int .i64 0), .v (.int .i64 0)] [(6, p8), (7, p10)]).bind fun p11 =>
let q13 : PV := .ptr false st6.stk.length 0
let st12 := st6.push [.v (.int .i64 0), .v (.int .i64 0), .v (.int .u64 0), .v (.int .i64 0), .v (.string ⟨#[]⟩), .v (.string ⟨#[]⟩), .sl [] .nil, .v (.int .i64 0), .v (.int .i64 0)]
(aq st.stk.length 9 q13 p11 st12).bind fun st14 =>
(ao q5 0).bind fun p15 =>
(ak false 1 p15 st14).bind fun p16 =>
(aH Tryz.prog true .eql 138 p16 (PV.v (.int .i64 3))).bind fun p17 =>
ay p17 fun b18 => (bif b18 then
(ao q5 2).bind fun p20 =>
(ak false 1 p20 st14).bind fun p21 =>
bR (st14 = st14) <|
(ao q13 0).bind fun p22 =>
(aq st.stk.length 1 p22 (PV.v (.int .i64 1)) st14).bind fun st23 =>
bR (((ak false 1 p20 st23).bind fun p24 =>
some (Rs.ret p24, st23)) = some (Rs.ret p21, st23)) <|
(ao q13 2).bind fun p25 =>
(aq st.stk.length 1 p25 p21 st23).bind fun st26 =>
some (Ex.normal, [q2, q13], st26)
else
(ao q5 0).bind fun p27 =>
(ak false 1 p27 st14).bind fun p28 =>
(aH Tryz.prog true .eql 138 p28 (PV.v (.int .i64 4))).bind fun p29 =>
ay p29 fun b30 => (bif b30 then
(ao q5 2).bind fun p32 =>
(ak false 1 p32 st14).bind fun p33 =>
bR (st14 = st14) <|
(ao q13 0).bind fun p34 =>
(aq st.stk.length 1 p34 (PV.v (.int .i64 2)) st14).bind fun st35 =>
bR (((ak false 1 p32 st35).bind fun p36 =>
some (Rs.ret p36, st35)) = some (Rs.ret p33, st35)) <|
(ao q13 2).bind fun p37 =>
(aq st.stk.length 1 p37 p33 st35).bind fun st38 =>
some (Ex.normal, [q2, q13], st38)
else
(ao q5 0).bind fun p39 =>
(ak false 1 p39 st14).bind fun p40 =>
(aH Tryz.prog true .eql 138 p40 (PV.v (.int .i64 1))).bind fun p41 =>
ay p41 fun b42 => (bif b42 then
(ao q5 1).bind fun p44 =>
(ak false 1 p44 st14).bind fun p45 =>
bR (st14 = st14) <|
(ao q13 0).bind fun p46 =>
(aq st.stk.length 1 p46 (PV.v (.int .i64 5)) st14).bind fun st47 =>
bR (((ak false 1 p44 st47).bind fun p48 =>
some (Rs.ret p48, st47)) = some (Rs.ret p45, st47)) <|
(ao q13 5).bind fun p49 =>
(aq st.stk.length 1 p49 p45 st47).bind fun st50 =>
some (Ex.normal, [q2, q13], st50)
else
(ao q5 0).bind fun p51 =>
(ak false 1 p51 st14).bind fun p52 =>
(aH Tryz.prog true .eql 138 p52 (PV.v (.int .i64 2))).bind fun p53 =>
(onG p53 true (
(ao q5 1).bind fun p56 =>
some (p56, st14)) st14).bind fun r55 =>
(onG p53 true (
(ak false 1 r55.1 r55.2).bind fun p59 =>
some (p59, r55.2)) r55.2).bind fun r58 =>
(onG p53 true (
(aH Tryz.prog true .eql 9 r58.1 (PV.v (.string ⟨#[105, 110, 112, 117, 116]⟩))).bind fun p62 =>
some (p62, r58.2)) r58.2).bind fun r61 =>
(bE p53 r61.1 (PV.v (.bool false))).bind fun p63 =>
ay p63 fun b64 => (bif b64 then
(call (.func 121) [ah a0, ah (PV.v (.int .i64 3))] r61.2).bind fun r66 =>
aV r66 (fun p67 st68 =>
(gC Tryz.prog 140 p67 2).bind fun p72 =>
(ao q13 0).bind fun p73 =>
(aq st.stk.length 1 p73 (PV.v (.int .i64 4)) st68).bind fun st74 =>
(ao q13 2).bind fun p75 =>
(aq st.stk.length 1 p75 p72 st74).bind fun st76 =>
some (Ex.normal, [q2, q13], st76)) (fun t69 x70 st71 =>
some ((Ex.pan t69 x70), [q2, q13], st71))
else
(ao q5 0).bind fun p77 =>
(ak false 1 p77 r61.2).bind fun p78 =>
(aH Tryz.prog true .eql 138 p78 (PV.v (.int .i64 2))).bind fun p79 =>
(onG p79 true (
(ao q5 1).bind fun p82 =>
some (p82, r61.2)) r61.2).bind fun r81 =>
(onG p79 true (
(ak false 1 r81.1 r81.2).bind fun p85 =>
some (p85, r81.2)) r81.2).bind fun r84 =>
(onG p79 true (
(aH Tryz.prog true .eql 9 r84.1 (PV.v (.string ⟨#[110, 105, 108]⟩))).bind fun p88 =>
some (p88, r84.2)) r84.2).bind fun r87 =>
(bE p79 r87.1 (PV.v (.bool false))).bind fun p89 =>
ay p89 fun b90 => (bif b90 then
(aW [(0, 1), (1, 1)] [.v (.int .i64 0), .v (.string ⟨#[]⟩)] [(0, (PV.v (.int .i64 3)))]).bind fun p92 =>
(ao q13 0).bind fun p93 =>
(aq st.stk.length 1 p93 (PV.v (.int .i64 3)) r87.2).bind fun st94 =>
(ao q13 3).bind fun p95 =>
(aq st.stk.length 2 p95 p92 st94).bind fun st96 =>
(call (.func 68) [ah a0, ah (PV.v (.string ⟨#[105, 110, 116, 115]⟩))] st96).bind fun r97 =>
(aUn Tryz.prog .not r97.1).bind fun p98 =>
ay p98 fun b99 => (bif b99 then
(call (.func 121) [ah a0, ah (PV.v (.int .i64 1))] r97.2).bind fun r101 =>
aV r101 (fun p102 st103 =>
(gC Tryz.prog 140 p102 1).bind fun p107 =>
(aW [(0, 1), (1, 1)] [.v (.int .i64 0), .v (.string ⟨#[]⟩)] [(0, (PV.v (.int .i64 4))), (1, p107)]).bind fun p108 =>
(ao q13 3).bind fun p109 =>
(aq st.stk.length 2 p109 p108 st103).bind fun st110 =>
some (Ex.normal, [q2, q13], st110)) (fun t104 x105 st106 =>
some ((Ex.pan t104 x105), [q2, q13], st106))
else
some (Ex.normal, [q2, q13], r97.2)).bind fun r100 =>
some (r100.1, [(ab r100.2.1 0), (ab r100.2.1 1)], r100.2.2)
else
(ao q5 0).bind fun p111 =>
(ak false 1 p111 r87.2).bind fun p112 =>
(aH Tryz.prog true .eql 138 p112 (PV.v (.int .i64 5))).bind fun p113 =>
(onG p113 true (
(ao q5 1).bind fun p116 =>
some (p116, r87.2)) r87.2).bind fun r115 =>
(onG p113 true (
(ak false 1 r115.1 r115.2).bind fun p119 =>
some (p119, r115.2)) r115.2).bind fun r118 =>
(onG p113 true (
(aH Tryz.prog true .eql 9 r118.1 (PV.v (.string ⟨#[40]⟩))).bind fun p122 =>
some (p122, r118.2)) r118.2).bind fun r121 =>
(bE p113 r121.1 (PV.v (.bool false))).bind fun p123 =>
ay p123 fun b124 => (bif b124 then
(ak true 5 q5 r121.2).bind fun p126 =>
(call (.func 123) [ah a0, ah p126] r121.2).bind fun r127 =>
aV r127 (fun p128 st129 =>
(call (.func 157) [ah a0] st129).bind fun r133 =>
aV r133 (fun p134 st135 =>
(aq st.stk.length 9 q13 p134 st135).bind fun st139 =>
(call (.func 71) [ah a0, ah (PV.v (.string ⟨#[41]⟩))] st139).bind fun r140 =>
aV r140 (fun p141 st142 =>
(aF a0).bind fun p146 =>
(ao p146 2).bind fun p147 =>
(ak false 1 p147 st142).bind fun p148 =>
(aH Tryz.prog true .sub 3 p148 (PV.v (.int .i64 1))).bind fun p149 =>
(aF a0).bind fun p150 =>
(ao p150 2).bind fun p151 =>
(aq st.stk.length 1 p151 p149 st142).bind fun st152 =>
some (Ex.normal, [q2, q13], st152)) (fun t143 x144 st145 =>
some ((Ex.pan t143 x144), [q2, q13], st145))) (fun t136 x137 st138 =>
some ((Ex.pan t136 x137), [q2, q13], st138))) (fun t130 x131 st132 =>
some ((Ex.pan t130 x131), [q2, q13], st132))
else
(ak true 5 q5 r121.2).bind fun p153 =>
(call (.func 74) [ah a0, ah (PV.v (.int .i64 4)), ah p153] r121.2).bind fun r154 =>
aV r154 (fun p155 st156 =>
some (Ex.normal, [q2, q13], st156)) (fun t157 x158 st159 =>
some ((Ex.pan t157 x158), [q2, q13], st159))).bind fun r125 =>
some (r125.1, [(ab r125.2.1 0), (ab r125.2.1 1)], r125.2.2)).bind fun r91 =>
some (r91.1, [(ab r91.2.1 0), (ab r91.2.1 1)], r91.2.2)).bind fun r65 =>
some (r65.1, [(ab r65.2.1 0), (ab r65.2.1 1)], r65.2.2)).bind fun r43 =>
some (r43.1, [(ab r43.2.1 0), (ab r43.2.1 1)], r43.2.2)).bind fun r31 =>
some (r31.1, [(ab r31.2.1 0), (ab r31.2.1 1)], r31.2.2)).bind fun r19 =>
bF (Ex.ba 0 r19.1) ((ak true 9 (ab r19.2.1 1) r19.2.2).bind fun p161 =>
(aq st.stk.length 9 (ab r19.2.1 0) p161 r19.2.2).bind fun st162 =>
(ak true 9 (ab r19.2.1 0) st162).bind fun p163 =>
fin st.stk.length st.tk.length st.lp.length [p163] st162) fun x160 =>
fQ st.stk.length st.tk.length st.lp.length x160 r19.2.2 ((ak true 9 (ab r19.2.1 0) r19.2.2).bind fun p164 =>
fin st.stk.length st.tk.length st.lp.length [p164] r19.2.2)
theorem iA (a0 : PV) (st : St) : E L (.func 198) [a0] st = oj (E L) itE a0 st := (bL (by kernel_rfl) Tryz.func198 _ _).trans (by kernel_rfl)
noncomputable def qp (call : bD) (it : bN) (a0 : PV) (st : St) : Option (PV × St) :=
let q2 : PV := .ptr false st.stk.length 0
let st1 := st.push [.v (.int .i64 0), .v (.int .i64 0), .v (.int .u64 0), .v (.int .i64 0), .v (.string ⟨#[]⟩), .v (.string ⟨#[]⟩), .sl [] .nil, .v (.int .i64 0), .v (.int .i64 0)]
(call (.func 67) [ah a0] st1).bind fun r3 =>
let q5 : PV := .ptr false r3.2.stk.length 0
let st4 := r3.2.push [.v (.int .i64 0), .v (.string ⟨#[]⟩), .v (.int .u64 0), .v (.int .i64 0), .v (.int .i64 0)]
(aq st.stk.length 5 q5 r3.1 st4).bind fun st6 =>
(ao q5 0).bind fun p7 =>
(ak false 1 p7 st6).bind fun p8 =>
(aH Tryz.prog true .eql 138 p8 (PV.v (.int .i64 2))).bind fun p9 =>
(onG p9 false (
(ao q5 0).bind fun p12 =>
some (p12, st6)) st6).bind fun r11 =>
(onG p9 false (
(ak false 1 r11.1 r11.2).bind fun p15 =>
some (p15, r11.2)) r11.2).bind fun r14 =>
(onG p9 false (
(aH Tryz.prog true .eql 138 r14.1 (PV.v (.int .i64 5))).bind fun p18 =>
some (p18, r14.2)) r14.2).bind fun r17 =>
(bE p9 (PV.v (.bool true)) r17.1).bind fun p19 =>
ay p19 fun b20 => (bif b20 then
(ao q5 1).bind fun p22 =>
(ak false 1 p22 r17.2).bind fun p23 =>
(call (.func 197) [ah p23] r17.2).bind fun r24 =>
some (Ex.normal, [a0, q2, q5, r24.1], r24.2)
else
some (Ex.normal, [a0, q2, q5, (PV.v (.int .i64 0))], r17.2)).bind fun r21 =>
bF r21.1 ((aH Tryz.prog true .eql 3 (ab r21.2.1 3) (PV.v (.int .i64 0))).bind fun p26 =>
ay p26 fun b27 => (bif b27 then
(call (.func 198) [ah (ab r21.2.1 0)] r21.2.2).bind fun r29 =>
aV r29 (fun p30 st31 =>
(aq st.stk.length 9 (ab r21.2.1 1) p30 st31).bind fun st35 =>
some (Ex.ret, [(ab r21.2.1 0), (ab r21.2.1 1), (ab r21.2.1 2), (ab r21.2.1 3)], st35)) (fun t32 x33 st34 =>
some ((Ex.pan t32 x33), [(ab r21.2.1 0), (ab r21.2.1 1), (ab r21.2.1 2), (ab r21.2.1 3)], st34))
else
some (Ex.normal, [(ab r21.2.1 0), (ab r21.2.1 1), (ab r21.2.1 2), (ab r21.2.1 3)], r21.2.2)).bind fun r28 =>
bF r28.1 ((call (.func 151) [ah (ab r28.2.1 0)] r28.2.2).bind fun r37 =>
(ak true 5 (ab r28.2.1 2) r37.2).bind fun p38 =>
(call (.func 123) [ah (ab r28.2.1 0), ah p38] r37.2).bind fun r39 =>
aV r39 (fun p40 st41 =>
(call (.func 187) [ah (ab r28.2.1 0)] st41).bind fun r45 =>
aV r45 (fun p46 st47 =>
bR (((call (.func 187) [ah (ab r28.2.1 0)] (St.push st41 [.v (.int .i64 0), .v (.int .i64 0), .v (.int .u64 0), .v (.int .i64 0), .v (.string ⟨#[]⟩), .v (.string ⟨#[]⟩), .sl [] .nil, .v (.int .i64 0), .v (.int .i64 0)])).bind fun r51 =>
aV r51 (fun p52 st53 =>
some (Rs.ret p52, st53)) (fun t54 x55 st56 =>
some (Rs.pan t54 x55, st56))) = some (Rs.ret p46, (St.push st47 [.v (.int .i64 0), .v (.int .i64 0), .v (.int .u64 0), .v (.int .i64 0), .v (.string ⟨#[]⟩), .v (.string ⟨#[]⟩), .sl [] .nil, .v (.int .i64 0), .v (.int .i64 0)]))) <|
bR (st47.stk.length = st41.stk.length) <|
(aX 9 [.v (.int .i64 0), .v (.int .i64 0), .v (.int .u64 0), .v (.int .i64 0), .v (.string ⟨#[]⟩), .v (.string ⟨#[]⟩), .sl [] .nil, .v (.int .i64 0), .v (.int .i64 0)] 1 [(0, p46)]).bind fun p57 =>
(ao (ab r28.2.1 2) 3).bind fun p58 =>
(ak false 1 p58 st47).bind fun p59 =>
bR (st47 = st47) <|
bR (((ak false 1 p58 (St.push st47 [.v (.int .i64 0), .v (.int .i64 0), .v (.int .u64 0), .v (.int .i64 0), .v (.string ⟨#[]⟩), .v (.string ⟨#[]⟩), .sl [] .nil, .v (.int .i64 0), .v (.int .i64 0)])).bind fun p60 =>
some (Rs.ret p60, (St.push st47 [.v (.int .i64 0), .v (.int .i64 0), .v (.int .u64 0), .v (.int .i64 0), .v (.string ⟨#[]⟩), .v (.string ⟨#[]⟩), .sl [] .nil, .v (.int .i64 0), .v (.int .i64 0)]))) = some (Rs.ret p59, (St.push st47 [.v (.int .i64 0), .v (.int .i64 0), .v (.int .u64 0), .v (.int .i64 0), .v (.string ⟨#[]⟩), .v (.string ⟨#[]⟩), .sl [] .nil, .v (.int .i64 0), .v (.int .i64 0)]))) <|
bR (((ak false 1 p58 st41).bind fun p61 =>
some (Rs.ret p61, st41)) = some (Rs.ret p59, st41)) <|
bR (((ak false 1 p58 (St.push st41 [.v (.int .i64 0), .v (.int .i64 0), .v (.int .u64 0), .v (.int .i64 0), .v (.string ⟨#[]⟩), .v (.string ⟨#[]⟩), .sl [] .nil, .v (.int .i64 0), .v (.int .i64 0)])).bind fun p62 =>
some (Rs.ret p62, (St.push st41 [.v (.int .i64 0), .v (.int .i64 0), .v (.int .u64 0), .v (.int .i64 0), .v (.string ⟨#[]⟩), .v (.string ⟨#[]⟩), .sl [] .nil, .v (.int .i64 0), .v (.int .i64 0)]))) = some (Rs.ret p59, (St.push st41 [.v (.int .i64 0), .v (.int .i64 0), .v (.int .u64 0), .v (.int .i64 0), .v (.string ⟨#[]⟩), .v (.string ⟨#[]⟩), .sl [] .nil, .v (.int .i64 0), .v (.int .i64 0)]))) <|
(ao (ab r28.2.1 2) 4).bind fun p63 =>
(ak false 1 p63 st47).bind fun p64 =>
bR (st47 = st47) <|
bR (((ak false 1 p63 (St.push st47 [.v (.int .i64 0), .v (.int .i64 0), .v (.int .u64 0), .v (.int .i64 0), .v (.string ⟨#[]⟩), .v (.string ⟨#[]⟩), .sl [] .nil, .v (.int .i64 0), .v (.int .i64 0)])).bind fun p65 =>
some (Rs.ret p65, (St.push st47 [.v (.int .i64 0), .v (.int .i64 0), .v (.int .u64 0), .v (.int .i64 0), .v (.string ⟨#[]⟩), .v (.string ⟨#[]⟩), .sl [] .nil, .v (.int .i64 0), .v (.int .i64 0)]))) = some (Rs.ret p64, (St.push st47 [.v (.int .i64 0), .v (.int .i64 0), .v (.int .u64 0), .v (.int .i64 0), .v (.string ⟨#[]⟩), .v (.string ⟨#[]⟩), .sl [] .nil, .v (.int .i64 0), .v (.int .i64 0)]))) <|
bR (((ak false 1 p63 st41).bind fun p66 =>
some (Rs.ret p66, st41)) = some (Rs.ret p64, st41)) <|
bR (((ak false 1 p63 (St.push st41 [.v (.int .i64 0), .v (.int .i64 0), .v (.int .u64 0), .v (.int .i64 0), .v (.string ⟨#[]⟩), .v (.string ⟨#[]⟩), .sl [] .nil, .v (.int .i64 0), .v (.int .i64 0)])).bind fun p67 =>
some (Rs.ret p67, (St.push st41 [.v (.int .i64 0), .v (.int .i64 0), .v (.int .u64 0), .v (.int .i64 0), .v (.string ⟨#[]⟩), .v (.string ⟨#[]⟩), .sl [] .nil, .v (.int .i64 0), .v (.int .i64 0)]))) = some (Rs.ret p64, (St.push st41 [.v (.int .i64 0), .v (.int .i64 0), .v (.int .u64 0), .v (.int .i64 0), .v (.string ⟨#[]⟩), .v (.string ⟨#[]⟩), .sl [] .nil, .v (.int .i64 0), .v (.int .i64 0)]))) <|
(aW [(0, 1), (1, 1), (2, 1), (3, 2), (5, 1), (6, 1), (7, 1), (8, 1)] [.v (.int .i64 0), .v (.int .i64 0), .v (.int .u64 0), .v (.int .i64 0), .v (.string ⟨#[]⟩), .v (.string ⟨#[]⟩), .sl [] .nil, .v (.int .i64 0), .v (.int .i64 0)] [(0, (ab r28.2.1 3)), (5, p57), (6, p59), (7, p64)]).bind fun p68 =>
(aq st.stk.length 9 (PV.ptr false st41.stk.length 0) p68 (St.push st47 [.v (.int .i64 0), .v (.int .i64 0), .v (.int .u64 0), .v (.int .i64 0), .v (.string ⟨#[]⟩), .v (.string ⟨#[]⟩), .sl [] .nil, .v (.int .i64 0), .v (.int .i64 0)])).bind fun st69 =>
(aF (ab r28.2.1 0)).bind fun p70 =>
(ao p70 2).bind fun p71 =>
(ak false 1 p71 st69).bind fun p72 =>
(aH Tryz.prog true .sub 3 p72 (PV.v (.int .i64 1))).bind fun p73 =>
(aF (ab r28.2.1 0)).bind fun p74 =>
(ao p74 2).bind fun p75 =>
(aq st.stk.length 1 p75 p73 st69).bind fun st76 =>
(ak true 9 (PV.ptr false st41.stk.length 0) st76).bind fun p77 =>
(aq st.stk.length 9 (ab r28.2.1 1) p77 st76).bind fun st78 =>
(ak true 9 (ab r28.2.1 1) st78).bind fun p79 =>
fin st.stk.length st.tk.length st.lp.length [p79] st78) (fun t48 x49 st50 =>
bR (((call (.func 187) [ah (ab r28.2.1 0)] (St.push st41 [.v (.int .i64 0), .v (.int .i64 0), .v (.int .u64 0), .v (.int .i64 0), .v (.string ⟨#[]⟩), .v (.string ⟨#[]⟩), .sl [] .nil, .v (.int .i64 0), .v (.int .i64 0)])).bind fun r81 =>
aV r81 (fun p82 st83 =>
some (Rs.ret p82, st83)) (fun t84 x85 st86 =>
some (Rs.pan t84 x85, st86))) = some (Rs.pan t48 x49, (St.push st50 [.v (.int .i64 0), .v (.int .i64 0), .v (.int .u64 0), .v (.int .i64 0), .v (.string ⟨#[]⟩), .v (.string ⟨#[]⟩), .sl [] .nil, .v (.int .i64 0), .v (.int .i64 0)]))) <|
(some (PV.pan t48 x49, st50.back st.stk.length st.tk.length st.lp.length)).bind fun r80 =>
bR ((some (PV.pan t48 x49, (St.push st50 [.v (.int .i64 0), .v (.int .i64 0), .v (.int .u64 0), .v (.int .i64 0), .v (.string ⟨#[]⟩), .v (.string ⟨#[]⟩), .sl [] .nil, .v (.int .i64 0), .v (.int .i64 0)]).back st.stk.length st.tk.length st.lp.length)) = some r80) <|
(ao (ab r28.2.1 2) 3).bind fun p87 =>
(ak false 1 p87 st41).bind fun p88 =>
bR (st41 = st41) <|
bR (((ak false 1 p87 (St.push st41 [.v (.int .i64 0), .v (.int .i64 0), .v (.int .u64 0), .v (.int .i64 0), .v (.string ⟨#[]⟩), .v (.string ⟨#[]⟩), .sl [] .nil, .v (.int .i64 0), .v (.int .i64 0)])).bind fun p89 =>
some (Rs.ret p89, (St.push st41 [.v (.int .i64 0), .v (.int .i64 0), .v (.int .u64 0), .v (.int .i64 0), .v (.string ⟨#[]⟩), .v (.string ⟨#[]⟩), .sl [] .nil, .v (.int .i64 0), .v (.int .i64 0)]))) = some (Rs.ret p88, (St.push st41 [.v (.int .i64 0), .v (.int .i64 0), .v (.int .u64 0), .v (.int .i64 0), .v (.string ⟨#[]⟩), .v (.string ⟨#[]⟩), .sl [] .nil, .v (.int .i64 0), .v (.int .i64 0)]))) <|
(ao (ab r28.2.1 2) 4).bind fun p90 =>
(ak false 1 p90 st41).bind fun p91 =>
bR (st41 = st41) <|
bR (((ak false 1 p90 (St.push st41 [.v (.int .i64 0), .v (.int .i64 0), .v (.int .u64 0), .v (.int .i64 0), .v (.string ⟨#[]⟩), .v (.string ⟨#[]⟩), .sl [] .nil, .v (.int .i64 0), .v (.int .i64 0)])).bind fun p92 =>
some (Rs.ret p92, (St.push st41 [.v (.int .i64 0), .v (.int .i64 0), .v (.int .u64 0), .v (.int .i64 0), .v (.string ⟨#[]⟩), .v (.string ⟨#[]⟩), .sl [] .nil, .v (.int .i64 0), .v (.int .i64 0)]))) = some (Rs.ret p91, (St.push st41 [.v (.int .i64 0), .v (.int .i64 0), .v (.int .u64 0), .v (.int .i64 0), .v (.string ⟨#[]⟩), .v (.string ⟨#[]⟩), .sl [] .nil, .v (.int .i64 0), .v (.int .i64 0)]))) <|
some r80)) (fun t42 x43 st44 =>
some (PV.pan t42 x43, st44.back st.stk.length st.tk.length st.lp.length))) fun x36 =>
fQ st.stk.length st.tk.length st.lp.length x36 r28.2.2 ((ak true 9 (ab r28.2.1 1) r28.2.2).bind fun p93 =>
fin st.stk.length st.tk.length st.lp.length [p93] r28.2.2)) fun x25 =>
fQ st.stk.length st.tk.length st.lp.length x25 r21.2.2 ((ak true 9 (ab r21.2.1 1) r21.2.2).bind fun p94 =>
fin st.stk.length st.tk.length st.lp.length [p94] r21.2.2)
theorem mj (a0 : PV) (st : St) : E L (.func 187) [a0] st = qp (E L) itE a0 st := (bL (by kernel_rfl) Tryz.func187 _ _).trans (by kernel_rfl)
noncomputable def Et (call : bD) (it : bN) (a0 : PV) (st : St) : Option (PV × St) :=
(kv Tryz.prog 198 [(0, (PV.v (.string ⟨#[32, 61, 61, 32, 33, 61, 32, 60, 32, 60, 61, 32]⟩))), (1, (PV.v (.string ⟨#[32, 43, 32, 45, 32]⟩))), (2, (PV.v (.string ⟨#[32, 42, 32, 47, 32, 37, 32]⟩)))]).bind fun p1 =>
(cG Tryz.prog 198 p1 a0).bind fun p2 =>
fin st.stk.length st.tk.length st.lp.length [p2] st
theorem Eu (a0 : PV) (st : St) : E L (.func 188) [a0] st = Et (E L) itE a0 st := (bL (by kernel_rfl) Tryz.func188 _ _).trans (by kernel_rfl)
noncomputable def fb.b0 (call : bD) (it : bN) (base lb : Nat) (vs3 : List PV) (st4 : St) : Option (Ex × List PV × St) :=
(aH Tryz.prog true .lss 3 (ab vs3 3) (PV.v (.int .i64 9))).bind fun p5 =>
ay p5 fun b6 => (bif b6 then
some (Ex.normal, [(ab vs3 0), (ab vs3 1), (ab vs3 2), (ab vs3 3)], st4)
else
some ((Ex.exit 0), [(ab vs3 0), (ab vs3 1), (ab vs3 2), (ab vs3 3)], st4)).bind fun r7 =>
bF r7.1 ((cG Tryz.prog 126 (ab r7.2.1 2) (ab r7.2.1 3)).bind fun p9 =>
(aH Tryz.prog false .eql 9 p9 (ab r7.2.1 0)).bind fun p10 =>
ay p10 fun b11 => (bif b11 then
some (Ex.ret, [(ab r7.2.1 0), (ab r7.2.1 3), (ab r7.2.1 2), (ab r7.2.1 3)], r7.2.2)
else
some (Ex.normal, [(ab r7.2.1 0), (ab r7.2.1 1), (ab r7.2.1 2), (ab r7.2.1 3)], r7.2.2)).bind fun r12 =>
bF (Ex.ba 1 r12.1) ((aH Tryz.prog true .add 3 (ab r12.2.1 3) (PV.v (.int .i64 1))).bind fun p14 =>
some (Ex.normal, [(ab r12.2.1 0), (ab r12.2.1 1), (ab r12.2.1 2), p14], r12.2.2)) fun x13 =>
some (x13, [(ab r12.2.1 0), (ab r12.2.1 1), (ab r12.2.1 2), (ab r12.2.1 3)], r12.2.2)) fun x8 =>
some (x8, [(ab r7.2.1 0), (ab r7.2.1 1), (ab r7.2.1 2), (ab r7.2.1 3)], r7.2.2)
noncomputable def fb (call : bD) (it : bN) (a0 : PV) (st : St) : Option (PV × St) :=
(kv Tryz.prog 126 [(0, (PV.v (.string ⟨#[43]⟩))), (1, (PV.v (.string ⟨#[45]⟩))), (2, (PV.v (.string ⟨#[42]⟩))), (3, (PV.v (.string ⟨#[47]⟩))), (4, (PV.v (.string ⟨#[37]⟩))), (5, (PV.v (.string ⟨#[61, 61]⟩))), (6, (PV.v (.string ⟨#[33, 61]⟩))), (7, (PV.v (.string ⟨#[60]⟩))), (8, (PV.v (.string ⟨#[60, 61]⟩)))]).bind fun p1 =>
(it (fb.b0 call it st.stk.length st.lp.length) [a0, (PV.v (.int .i64 0)), p1, (PV.v (.int .i64 0))] st).bind fun r2 =>
bF (Ex.ba 0 r2.1) (fin st.stk.length st.tk.length st.lp.length [(PV.v (.int .i64 0))] r2.2.2) fun x15 =>
dF x15 (fin st.stk.length st.tk.length st.lp.length [(ab r2.2.1 1)] r2.2.2)
theorem Ev (a0 : PV) (st : St) : E L (.func 189) [a0] st = fb (E L) itE a0 st := (bL (by kernel_rfl) Tryz.func189 _ _).trans (by kernel_rfl)
noncomputable def oi.b0 (call : bD) (it : bN) (base lb : Nat) (vs25 : List PV) (st26 : St) : Option (Ex × List PV × St) :=
(call (.func 67) [ah (ab vs25 0)] st26).bind fun r27 =>
let q29 : PV := .ptr false r27.2.stk.length 0
let st28 := r27.2.push [.v (.int .i64 0), .v (.string ⟨#[]⟩), .v (.int .u64 0), .v (.int .i64 0), .v (.int .i64 0)]
(aq base 5 q29 r27.1 st28).bind fun st30 =>
(ao q29 0).bind fun p31 =>
(ak false 1 p31 st30).bind fun p32 =>
bR (st30 = st30) <|
(aH Tryz.prog true .neq 138 p32 (PV.v (.int .i64 5))).bind fun p33 =>
(onG p33 false (
some ((ab vs25 1), st30)) st30).bind fun r35 =>
(onG p33 false (
(call (.func 188) [ah r35.1] st30).bind fun r38 =>
some (r38.1, r38.2)) st30).bind fun r37 =>
bR (r37.2 = st30) <|
(onG p33 false (
(ao q29 1).bind fun p41 =>
some (p41, st30)) st30).bind fun r40 =>
(onG p33 false (
(ak false 1 r40.1 st30).bind fun p44 =>
some (p44, st30)) st30).bind fun r43 =>
bR (r43.2 = st30) <|
(onG p33 false (
(aH Tryz.prog true .add 9 (PV.v (.string ⟨#[32]⟩)) r43.1).bind fun p47 =>
some (p47, st30)) st30).bind fun r46 =>
(onG p33 false (
(aH Tryz.prog true .add 9 r46.1 (PV.v (.string ⟨#[32]⟩))).bind fun p50 =>
some (p50, st30)) st30).bind fun r49 =>
(onG p33 false (
(call (.func 169) [ah r37.1, ah r49.1] st30).bind fun r53 =>
some (r53.1, r53.2)) st30).bind fun r52 =>
bR (r52.2 = st30) <|
(onG p33 false (
(aUn Tryz.prog .not r52.1).bind fun p56 =>
some (p56, st30)) st30).bind fun r55 =>
(bE p33 (PV.v (.bool true)) r55.1).bind fun p57 =>
ay p57 fun b58 => (bif b58 then
(ak true 9 (ab vs25 3) st30).bind fun p60 =>
(aq base 9 (ab vs25 2) p60 st30).bind fun st61 =>
some (Ex.ret, [(ab vs25 0), (ab vs25 1), (ab vs25 2), (ab vs25 3), q29], st61)
else
some (Ex.normal, [(ab vs25 0), (ab vs25 1), (ab vs25 2), (ab vs25 3), q29], st30)).bind fun r59 =>
bF r59.1 ((call (.func 151) [ah (ab r59.2.1 0)] r59.2.2).bind fun r63 =>
(ao (ab r59.2.1 4) 1).bind fun p64 =>
(ak false 1 p64 r63.2).bind fun p65 =>
bR (r63.2 = r63.2) <|
(call (.func 189) [ah p65] r63.2).bind fun r66 =>
bR (r66.2 = r63.2) <|
(ak true 9 (ab r59.2.1 3) r63.2).bind fun p67 =>
bR (r63.2 = r63.2) <|
(aH Tryz.prog true .add 3 (ab r59.2.1 1) (PV.v (.int .i64 1))).bind fun p68 =>
(call (.func 173) [ah (ab r59.2.1 0), ah p68] r63.2).bind fun r69 =>
aV r69 (fun p70 st71 =>
bR (((ak true 9 (ab r59.2.1 3) st71).bind fun p75 =>
some (Rs.ret p75, st71)) = some (Rs.ret p67, st71)) <|
(aX 9 [.v (.int .i64 0), .v (.int .i64 0), .v (.int .u64 0), .v (.int .i64 0), .v (.string ⟨#[]⟩), .v (.string ⟨#[]⟩), .sl [] .nil, .v (.int .i64 0), .v (.int .i64 0)] 2 [(0, p67), (1, p70)]).bind fun p76 =>
(ao (ab r59.2.1 4) 3).bind fun p77 =>
(ak false 1 p77 st71).bind fun p78 =>
bR (st71 = st71) <|
bR (((ak false 1 p77 r63.2).bind fun p79 =>
some (Rs.ret p79, r63.2)) = some (Rs.ret p78, r63.2)) <|
(ao (ab r59.2.1 4) 4).bind fun p80 =>
(ak false 1 p80 st71).bind fun p81 =>
bR (st71 = st71) <|
bR (((ak false 1 p80 r63.2).bind fun p82 =>
some (Rs.ret p82, r63.2)) = some (Rs.ret p81, r63.2)) <|
(aW [(0, 1), (1, 1), (2, 1), (3, 2), (5, 1), (6, 1), (7, 1), (8, 1)] [.v (.int .i64 0), .v (.int .i64 0), .v (.int .u64 0), .v (.int .i64 0), .v (.string ⟨#[]⟩), .v (.string ⟨#[]⟩), .sl [] .nil, .v (.int .i64 0), .v (.int .i64 0)] [(0, (PV.v (.int .i64 9))), (1, r66.1), (5, p76), (6, p78), (7, p81)]).bind fun p83 =>
(aq base 9 (ab r59.2.1 3) p83 st71).bind fun st84 =>
(aH Tryz.prog true .eql 3 (ab r59.2.1 1) (PV.v (.int .i64 0))).bind fun p85 =>
ay p85 fun b86 => (bif b86 then
(ak true 9 (ab r59.2.1 3) st84).bind fun p88 =>
(aq base 9 (ab r59.2.1 2) p88 st84).bind fun st89 =>
some (Ex.ret, [(ab r59.2.1 0), (ab r59.2.1 1), (ab r59.2.1 2), (ab r59.2.1 3)], st89)
else
some (Ex.normal, [(ab r59.2.1 0), (ab r59.2.1 1), (ab r59.2.1 2), (ab r59.2.1 3)], st84)).bind fun r87 =>
eN base lb st26.stk.length (Ex.ba 1 r87.1) [(ab r87.2.1 0), (ab r87.2.1 1), (ab r87.2.1 2), (ab r87.2.1 3)] r87.2.2) (fun t72 x73 st74 =>
(ao (ab r59.2.1 4) 3).bind fun p90 =>
(ak false 1 p90 r63.2).bind fun p91 =>
bR (r63.2 = r63.2) <|
(ao (ab r59.2.1 4) 4).bind fun p92 =>
(ak false 1 p92 r63.2).bind fun p93 =>
bR (r63.2 = r63.2) <|
eN base lb st26.stk.length (Ex.pan t72 x73) [(ab r59.2.1 0), (ab r59.2.1 1), (ab r59.2.1 2), (ab r59.2.1 3)] st74)) fun x62 =>
eN base lb st26.stk.length (Ex.ba 1 x62) [(ab r59.2.1 0), (ab r59.2.1 1), (ab r59.2.1 2), (ab r59.2.1 3)] r59.2.2
noncomputable def oi (call : bD) (it : bN) (a0 a1 : PV) (st : St) : Option (PV × St) :=
let q2 : PV := .ptr false st.stk.length 0
let st1 := st.push [.v (.int .i64 0), .v (.int .i64 0), .v (.int .u64 0), .v (.int .i64 0), .v (.string ⟨#[]⟩), .v (.string ⟨#[]⟩), .sl [] .nil, .v (.int .i64 0), .v (.int .i64 0)]
(aH Tryz.prog true .eql 3 a1 (PV.v (.int .i64 3))).bind fun p3 =>
ay p3 fun b4 => (bif b4 then
(call (.func 187) [ah a0] st1).bind fun r6 =>
aV r6 (fun p7 st8 =>
(aq st.stk.length 9 q2 p7 st8).bind fun st12 =>
some (Ex.ret, [a0, a1, q2], st12)) (fun t9 x10 st11 =>
some ((Ex.pan t9 x10), [a0, a1, q2], st11))
else
some (Ex.normal, [a0, a1, q2], st1)).bind fun r5 =>
bF r5.1 ((aH Tryz.prog true .add 3 (ab r5.2.1 1) (PV.v (.int .i64 1))).bind fun p14 =>
(call (.func 173) [ah (ab r5.2.1 0), ah p14] r5.2.2).bind fun r15 =>
aV r15 (fun p16 st17 =>
let q22 : PV := .ptr false st17.stk.length 0
let st21 := st17.push [.v (.int .i64 0), .v (.int .i64 0), .v (.int .u64 0), .v (.int .i64 0), .v (.string ⟨#[]⟩), .v (.string ⟨#[]⟩), .sl [] .nil, .v (.int .i64 0), .v (.int .i64 0)]
(aq st.stk.length 9 q22 p16 st21).bind fun st23 =>
(it (oi.b0 call it st.stk.length st.lp.length) [(ab r5.2.1 0), (ab r5.2.1 1), (ab r5.2.1 2), q22] st23).bind fun r24 =>
fQ st.stk.length st.tk.length st.lp.length (Ex.ba 0 r24.1) r24.2.2 ((ak true 9 (ab r24.2.1 2) r24.2.2).bind fun p94 =>
fin st.stk.length st.tk.length st.lp.length [p94] r24.2.2)) (fun t18 x19 st20 =>
some (PV.pan t18 x19, st20.back st.stk.length st.tk.length st.lp.length))) fun x13 =>
fQ st.stk.length st.tk.length st.lp.length x13 r5.2.2 ((ak true 9 (ab r5.2.1 2) r5.2.2).bind fun p95 =>
fin st.stk.length st.tk.length st.lp.length [p95] r5.2.2)
theorem pd (a0 a1 : PV) (st : St) : E L (.func 173) [a0, a1] st = oi (E L) itE a0 a1 st := (bL (by kernel_rfl) Tryz.func173 _ _).trans (by kernel_rfl)
noncomputable def Gv (call : bD) (it : bN) (a0 : PV) (st : St) : Option (PV × St) :=
let q2 : PV := .ptr false st.stk.length 0
let st1 := st.push [.v (.int .i64 0), .v (.int .i64 0), .v (.int .u64 0), .v (.int .i64 0), .v (.string ⟨#[]⟩), .v (.string ⟨#[]⟩), .sl [] .nil, .v (.int .i64 0), .v (.int .i64 0)]
(call (.func 173) [ah a0, ah (PV.v (.int .i64 0))] st1).bind fun r3 =>
aV r3 (fun p4 st5 =>
(aq st.stk.length 9 q2 p4 st5).bind fun st9 =>
(ak true 9 q2 st9).bind fun p10 =>
fin st.stk.length st.tk.length st.lp.length [p10] st9) (fun t6 x7 st8 =>
some (PV.pan t6 x7, st8.back st.stk.length st.tk.length st.lp.length))
theorem yT (a0 : PV) (st : St) : E L (.func 157) [a0] st = Gv (E L) itE a0 st := (bL (by kernel_rfl) Tryz.func157 _ _).trans (by kernel_rfl)
noncomputable def vG (call : bD) (it : bN) (a0 : PV) (st : St) : Option (PV × St) :=
let q2 : PV := .ptr false st.stk.length 0
let st1 := st.push [.v (.int .i64 0), .v (.string ⟨#[]⟩), .v (.string ⟨#[]⟩), .v (.int .i64 0), .v (.int .i64 0), .v (.int .u64 0), .v (.int .i64 0), .v (.string ⟨#[]⟩), .v (.string ⟨#[]⟩), .sl [] .nil, .v (.int .i64 0), .v (.int .i64 0), .v (.int .i64 0), .v (.int .i64 0)]
(call (.func 121) [ah a0, ah (PV.v (.int .i64 1))] st1).bind fun r3 =>
aV r3 (fun p4 st5 =>
let q10 : PV := .ptr false st5.stk.length 0
let st9 := st5.push [.v (.int .i64 0), .v (.string ⟨#[]⟩), .v (.int .u64 0), .v (.int .i64 0), .v (.int .i64 0)]
(aq st.stk.length 5 q10 p4 st9).bind fun st11 =>
(ao q10 1).bind fun p12 =>
(ak false 1 p12 st11).bind fun p13 =>
(ao q10 3).bind fun p14 =>
(ak false 1 p14 st11).bind fun p15 =>
(ao q10 4).bind fun p16 =>
(ak false 1 p16 st11).bind fun p17 =>
(aW [(0, 1), (1, 1), (2, 1), (3, 9), (12, 1), (13, 1)] [.v (.int .i64 0), .v (.string ⟨#[]⟩), .v (.string ⟨#[]⟩), .v (.int .i64 0), .v (.int .i64 0), .v (.int .u64 0), .v (.int .i64 0), .v (.string ⟨#[]⟩), .v (.string ⟨#[]⟩), .sl [] .nil, .v (.int .i64 0), .v (.int .i64 0), .v (.int .i64 0), .v (.int .i64 0)] [(0, (PV.v (.int .i64 1))), (1, p13), (4, p15), (5, p17)]).bind fun p18 =>
let q20 : PV := .ptr false st11.stk.length 0
let st19 := st11.push [.v (.int .i64 0), .v (.string ⟨#[]⟩), .v (.string ⟨#[]⟩), .v (.int .i64 0), .v (.int .i64 0), .v (.int .u64 0), .v (.int .i64 0), .v (.string ⟨#[]⟩), .v (.string ⟨#[]⟩), .sl [] .nil, .v (.int .i64 0), .v (.int .i64 0), .v (.int .i64 0), .v (.int .i64 0)]
(aq st.stk.length 14 q20 p18 st19).bind fun st21 =>
(call (.func 68) [ah a0, ah (PV.v (.string ⟨#[46]⟩))] st21).bind fun r22 =>
ay r22.1 fun b23 => (bif b23 then
(call (.func 121) [ah a0, ah (PV.v (.int .i64 1))] r22.2).bind fun r25 =>
aV r25 (fun p26 st27 =>
(gC Tryz.prog 140 p26 1).bind fun p31 =>
(ao q20 0).bind fun p32 =>
(aq st.stk.length 1 p32 (PV.v (.int .i64 2)) st27).bind fun st33 =>
(ao q20 2).bind fun p34 =>
(aq st.stk.length 1 p34 p31 st33).bind fun st35 =>
some (Ex.normal, [q2, q20], st35)) (fun t28 x29 st30 =>
some ((Ex.pan t28 x29), [q2, q20], st30))
else
(call (.func 68) [ah a0, ah (PV.v (.string ⟨#[91]⟩))] r22.2).bind fun r36 =>
ay r36.1 fun b37 => (bif b37 then
(call (.func 157) [ah a0] r36.2).bind fun r39 =>
aV r39 (fun p40 st41 =>
(ao q20 0).bind fun p45 =>
(aq st.stk.length 1 p45 (PV.v (.int .i64 3)) st41).bind fun st46 =>
(ao q20 3).bind fun p47 =>
(aq st.stk.length 9 p47 p40 st46).bind fun st48 =>
(call (.func 71) [ah a0, ah (PV.v (.string ⟨#[93]⟩))] st48).bind fun r49 =>
aV r49 (fun p50 st51 =>
some (Ex.normal, [q2, q20], st51)) (fun t52 x53 st54 =>
some ((Ex.pan t52 x53), [q2, q20], st54))) (fun t42 x43 st44 =>
some ((Ex.pan t42 x43), [q2, q20], st44))
else
some (Ex.normal, [q2, q20], r36.2)).bind fun r38 =>
some (r38.1, [(ab r38.2.1 0), (ab r38.2.1 1)], r38.2.2)).bind fun r24 =>
bF (Ex.ba 0 r24.1) ((ak true 14 (ab r24.2.1 1) r24.2.2).bind fun p56 =>
(aq st.stk.length 14 (ab r24.2.1 0) p56 r24.2.2).bind fun st57 =>
(ak true 14 (ab r24.2.1 0) st57).bind fun p58 =>
fin st.stk.length st.tk.length st.lp.length [p58] st57) fun x55 =>
fQ st.stk.length st.tk.length st.lp.length x55 r24.2.2 ((ak true 14 (ab r24.2.1 0) r24.2.2).bind fun p59 =>
fin st.stk.length st.tk.length st.lp.length [p59] r24.2.2)) (fun t6 x7 st8 =>
some (PV.pan t6 x7, st8.back st.stk.length st.tk.length st.lp.length))
theorem mi (a0 : PV) (st : St) : E L (.func 156) [a0] st = vG (E L) itE a0 st := (bL (by kernel_rfl) Tryz.func156 _ _).trans (by kernel_rfl)
noncomputable def rN (call : bD) (it : bN) (a0 : PV) (st : St) : Option (PV × St) :=
let q2 : PV := .ptr false st.stk.length 0
let st1 := st.push [.v (.int .i64 0), .v (.int .i64 0), .v (.int .i64 0), .v (.int .u64 0), .v (.int .i64 0), .v (.string ⟨#[]⟩), .v (.string ⟨#[]⟩), .sl [] .nil, .v (.int .i64 0), .v (.int .i64 0), .v (.int .i64 0), .v (.string ⟨#[]⟩), .v (.string ⟨#[]⟩), .v (.int .i64 0), .v (.int .i64 0), .v (.int .u64 0), .v (.int .i64 0), .v (.string ⟨#[]⟩), .v (.string ⟨#[]⟩), .sl [] .nil, .v (.int .i64 0), .v (.int .i64 0), .v (.int .i64 0), .v (.int .i64 0), .v (.string ⟨#[]⟩), .v (.int .i64 0), .v (.int .i64 0)]
(call (.func 67) [ah a0] st1).bind fun r3 =>
let q5 : PV := .ptr false r3.2.stk.length 0
let st4 := r3.2.push [.v (.int .i64 0), .v (.string ⟨#[]⟩), .v (.int .u64 0), .v (.int .i64 0), .v (.int .i64 0)]
(aq st.stk.length 5 q5 r3.1 st4).bind fun st6 =>
(ao q5 3).bind fun p7 =>
(ak false 1 p7 st6).bind fun p8 =>
(ao q5 4).bind fun p9 =>
(ak false 1 p9 st6).bind fun p10 =>
(aW [(0, 1), (1, 9), (10, 14), (24, 1), (25, 1), (26, 1)] [.v (.int .i64 0), .v (.int .i64 0), .v (.int .i64 0), .v (.int .u64 0), .v (.int .i64 0), .v (.string ⟨#[]⟩), .v (.string ⟨#[]⟩), .sl [] .nil, .v (.int .i64 0), .v (.int .i64 0), .v (.int .i64 0), .v (.string ⟨#[]⟩), .v (.string ⟨#[]⟩), .v (.int .i64 0), .v (.int .i64 0), .v (.int .u64 0), .v (.int .i64 0), .v (.string ⟨#[]⟩), .v (.string ⟨#[]⟩), .sl [] .nil, .v (.int .i64 0), .v (.int .i64 0), .v (.int .i64 0), .v (.int .i64 0), .v (.string ⟨#[]⟩), .v (.int .i64 0), .v (.int .i64 0)] [(4, p8), (5, p10)]).bind fun p11 =>
let q13 : PV := .ptr false st6.stk.length 0
let st12 := st6.push [.v (.int .i64 0), .v (.int .i64 0), .v (.int .i64 0), .v (.int .u64 0), .v (.int .i64 0), .v (.string ⟨#[]⟩), .v (.string ⟨#[]⟩), .sl [] .nil, .v (.int .i64 0), .v (.int .i64 0), .v (.int .i64 0), .v (.string ⟨#[]⟩), .v (.string ⟨#[]⟩), .v (.int .i64 0), .v (.int .i64 0), .v (.int .u64 0), .v (.int .i64 0), .v (.string ⟨#[]⟩), .v (.string ⟨#[]⟩), .sl [] .nil, .v (.int .i64 0), .v (.int .i64 0), .v (.int .i64 0), .v (.int .i64 0), .v (.string ⟨#[]⟩), .v (.int .i64 0), .v (.int .i64 0)]
(aq st.stk.length 27 q13 p11 st12).bind fun st14 =>
(call (.func 68) [ah a0, ah (PV.v (.string ⟨#[108, 111, 97, 100]⟩))] st14).bind fun r15 =>
ay r15.1 fun b16 => (bif b16 then
(call (.func 156) [ah a0] r15.2).bind fun r18 =>
aV r18 (fun p19 st20 =>
(ao q13 0).bind fun p24 =>
(aq st.stk.length 1 p24 (PV.v (.int .i64 2)) st20).bind fun st25 =>
(ao q13 10).bind fun p26 =>
(aq st.stk.length 14 p26 p19 st25).bind fun st27 =>
some (Ex.normal, [q2, q13], st27)) (fun t21 x22 st23 =>
some ((Ex.pan t21 x22), [q2, q13], st23))
else
(call (.func 68) [ah a0, ah (PV.v (.string ⟨#[115, 105, 122, 101]⟩))] r15.2).bind fun r28 =>
ay r28.1 fun b29 => (bif b29 then
(call (.func 121) [ah a0, ah (PV.v (.int .i64 1))] r28.2).bind fun r31 =>
aV r31 (fun p32 st33 =>
(gC Tryz.prog 140 p32 1).bind fun p37 =>
(ao q13 0).bind fun p38 =>
(aq st.stk.length 1 p38 (PV.v (.int .i64 5)) st33).bind fun st39 =>
(ao q13 24).bind fun p40 =>
(aq st.stk.length 1 p40 p37 st39).bind fun st41 =>
some (Ex.normal, [q2, q13], st41)) (fun t34 x35 st36 =>
some ((Ex.pan t34 x35), [q2, q13], st36))
else
(call (.func 68) [ah a0, ah (PV.v (.string ⟨#[110, 101, 119]⟩))] r28.2).bind fun r42 =>
ay r42.1 fun b43 => (bif b43 then
(call (.func 68) [ah a0, ah (PV.v (.string ⟨#[105, 110, 116, 115]⟩))] r42.2).bind fun r45 =>
ay r45.1 fun b46 => (bif b46 then
(call (.func 157) [ah a0] r45.2).bind fun r48 =>
aV r48 (fun p49 st50 =>
(ao q13 0).bind fun p54 =>
(aq st.stk.length 1 p54 (PV.v (.int .i64 4)) st50).bind fun st55 =>
(ao q13 1).bind fun p56 =>
(aq st.stk.length 9 p56 p49 st55).bind fun st57 =>
some (Ex.normal, [q2, q13], st57)) (fun t51 x52 st53 =>
some ((Ex.pan t51 x52), [q2, q13], st53))
else
(call (.func 121) [ah a0, ah (PV.v (.int .i64 1))] r45.2).bind fun r58 =>
aV r58 (fun p59 st60 =>
(gC Tryz.prog 140 p59 1).bind fun p64 =>
(ao q13 0).bind fun p65 =>
(aq st.stk.length 1 p65 (PV.v (.int .i64 3)) st60).bind fun st66 =>
(ao q13 24).bind fun p67 =>
(aq st.stk.length 1 p67 p64 st66).bind fun st68 =>
some (Ex.normal, [q2, q13], st68)) (fun t61 x62 st63 =>
some ((Ex.pan t61 x62), [q2, q13], st63))).bind fun r47 =>
some (r47.1, [(ab r47.2.1 0), (ab r47.2.1 1)], r47.2.2)
else
(call (.func 157) [ah a0] r42.2).bind fun r69 =>
aV r69 (fun p70 st71 =>
(ao q13 0).bind fun p75 =>
(aq st.stk.length 1 p75 (PV.v (.int .i64 1)) st71).bind fun st76 =>
(ao q13 1).bind fun p77 =>
(aq st.stk.length 9 p77 p70 st76).bind fun st78 =>
some (Ex.normal, [q2, q13], st78)) (fun t72 x73 st74 =>
some ((Ex.pan t72 x73), [q2, q13], st74))).bind fun r44 =>
some (r44.1, [(ab r44.2.1 0), (ab r44.2.1 1)], r44.2.2)).bind fun r30 =>
some (r30.1, [(ab r30.2.1 0), (ab r30.2.1 1)], r30.2.2)).bind fun r17 =>
bF (Ex.ba 0 r17.1) ((ak true 27 (ab r17.2.1 1) r17.2.2).bind fun p80 =>
(aq st.stk.length 27 (ab r17.2.1 0) p80 r17.2.2).bind fun st81 =>
(ak true 27 (ab r17.2.1 0) st81).bind fun p82 =>
fin st.stk.length st.tk.length st.lp.length [p82] st81) fun x79 =>
fQ st.stk.length st.tk.length st.lp.length x79 r17.2.2 ((ak true 27 (ab r17.2.1 0) r17.2.2).bind fun p83 =>
fin st.stk.length st.tk.length st.lp.length [p83] r17.2.2)
theorem jr (a0 : PV) (st : St) : E L (.func 155) [a0] st = rN (E L) itE a0 st := (bL (by kernel_rfl) Tryz.func155 _ _).trans (by kernel_rfl)
noncomputable def vF (call : bD) (it : bN) (a0 a1 : PV) (st : St) : Option (PV × St) :=
(cellsOf a1).bind fun b1 =>
let q3 : PV := .ptr false st.stk.length 0
let st2 := st.push b1
let q5 : PV := .ptr false st2.stk.length 0
let st4 := st2.push [.v (.int .i64 0), .v (.string ⟨#[]⟩), .v (.int .i64 0), .v (.int .i64 0), .v (.int .i64 0), .v (.int .u64 0), .v (.int .i64 0), .v (.string ⟨#[]⟩), .v (.string ⟨#[]⟩), .sl [] .nil, .v (.int .i64 0), .v (.int .i64 0), .v (.int .i64 0), .v (.string ⟨#[]⟩), .v (.string ⟨#[]⟩), .v (.int .i64 0), .v (.int .i64 0), .v (.int .u64 0), .v (.int .i64 0), .v (.string ⟨#[]⟩), .v (.string ⟨#[]⟩), .sl [] .nil, .v (.int .i64 0), .v (.int .i64 0), .v (.int .i64 0), .v (.int .i64 0), .v (.string ⟨#[]⟩), .v (.int .i64 0), .v (.int .i64 0), .v (.int .i64 0), .v (.string ⟨#[]⟩), .v (.string ⟨#[]⟩), .v (.int .i64 0), .v (.int .i64 0), .v (.int .u64 0), .v (.int .i64 0), .v (.string ⟨#[]⟩), .v (.string ⟨#[]⟩), .sl [] .nil, .v (.int .i64 0), .v (.int .i64 0), .v (.int .i64 0), .v (.int .i64 0), .v (.int .i64 0), .v (.int .i64 0), .v (.int .u64 0), .v (.int .i64 0), .v (.string ⟨#[]⟩), .v (.string ⟨#[]⟩), .sl [] .nil, .v (.int .i64 0), .v (.int .i64 0), .v (.int .i64 0), .sl [] .nil, .sl [] .nil, .sl [] .nil, .v (.int .i64 0), .v (.int .i64 0)]
(call (.func 151) [ah a0] st4).bind fun r6 =>
(gC Tryz.prog 140 r6.1 1).bind fun p7 =>
(ao q3 1).bind fun p8 =>
(aq st.stk.length 1 p8 p7 r6.2).bind fun st9 =>
(call (.func 68) [ah a0, ah (PV.v (.string ⟨#[58]⟩))] st9).bind fun r10 =>
ay r10.1 fun b11 => (bif b11 then
(call (.func 71) [ah a0, ah (PV.v (.string ⟨#[108, 111, 111, 112]⟩))] r10.2).bind fun r13 =>
aV r13 (fun p14 st15 =>
(ak true 58 q3 st15).bind fun p19 =>
(call (.func 153) [ah a0, ah p19] st15).bind fun r20 =>
aV r20 (fun p21 st22 =>
(aq st.stk.length 58 q5 p21 st22).bind fun st26 =>
some (Ex.ret, [a0, q3, q5], st26)) (fun t23 x24 st25 =>
some ((Ex.pan t23 x24), [a0, q3, q5], st25))) (fun t16 x17 st18 =>
some ((Ex.pan t16 x17), [a0, q3, q5], st18))
else
some (Ex.normal, [a0, q3, q5], r10.2)).bind fun r12 =>
bF r12.1 ((ao (ab r12.2.1 1) 0).bind fun p28 =>
(aq st.stk.length 1 p28 (PV.v (.int .i64 3)) r12.2.2).bind fun st29 =>
(call (.func 71) [ah (ab r12.2.1 0), ah (PV.v (.string ⟨#[61]⟩))] st29).bind fun r30 =>
aV r30 (fun p31 st32 =>
(call (.func 155) [ah (ab r12.2.1 0)] st32).bind fun r36 =>
aV r36 (fun p37 st38 =>
(ao (ab r12.2.1 1) 2).bind fun p42 =>
(aq st.stk.length 27 p42 p37 st38).bind fun st43 =>
(call (.func 71) [ah (ab r12.2.1 0), ah (PV.v (.string ⟨#[59]⟩))] st43).bind fun r44 =>
aV r44 (fun p45 st46 =>
(ak true 58 (ab r12.2.1 1) st46).bind fun p50 =>
(aq st.stk.length 58 (ab r12.2.1 2) p50 st46).bind fun st51 =>
(ak true 58 (ab r12.2.1 2) st51).bind fun p52 =>
fin st.stk.length st.tk.length st.lp.length [p52] st51) (fun t47 x48 st49 =>
some (PV.pan t47 x48, st49.back st.stk.length st.tk.length st.lp.length))) (fun t39 x40 st41 =>
some (PV.pan t39 x40, st41.back st.stk.length st.tk.length st.lp.length))) (fun t33 x34 st35 =>
some (PV.pan t33 x34, st35.back st.stk.length st.tk.length st.lp.length))) fun x27 =>
fQ st.stk.length st.tk.length st.lp.length x27 r12.2.2 ((ak true 58 (ab r12.2.1 2) r12.2.2).bind fun p53 =>
fin st.stk.length st.tk.length st.lp.length [p53] r12.2.2)
theorem mh (a0 a1 : PV) (st : St) : E L (.func 152) [a0, a1] st = vF (E L) itE a0 a1 st := (bL (by kernel_rfl) Tryz.func152 _ _).trans (by kernel_rfl)
noncomputable def As (call : bD) (it : bN) (a0 a1 : PV) (st : St) : Option (PV × St) :=
(cellsOf a1).bind fun b1 =>
let q3 : PV := .ptr false st.stk.length 0
let st2 := st.push b1
let q5 : PV := .ptr false st2.stk.length 0
let st4 := st2.push [.v (.int .i64 0), .v (.string ⟨#[]⟩), .v (.int .i64 0), .v (.int .i64 0), .v (.int .i64 0), .v (.int .u64 0), .v (.int .i64 0), .v (.string ⟨#[]⟩), .v (.string ⟨#[]⟩), .sl [] .nil, .v (.int .i64 0), .v (.int .i64 0), .v (.int .i64 0), .v (.string ⟨#[]⟩), .v (.string ⟨#[]⟩), .v (.int .i64 0), .v (.int .i64 0), .v (.int .u64 0), .v (.int .i64 0), .v (.string ⟨#[]⟩), .v (.string ⟨#[]⟩), .sl [] .nil, .v (.int .i64 0), .v (.int .i64 0), .v (.int .i64 0), .v (.int .i64 0), .v (.string ⟨#[]⟩), .v (.int .i64 0), .v (.int .i64 0), .v (.int .i64 0), .v (.string ⟨#[]⟩), .v (.string ⟨#[]⟩), .v (.int .i64 0), .v (.int .i64 0), .v (.int .u64 0), .v (.int .i64 0), .v (.string ⟨#[]⟩), .v (.string ⟨#[]⟩), .sl [] .nil, .v (.int .i64 0), .v (.int .i64 0), .v (.int .i64 0), .v (.int .i64 0), .v (.int .i64 0), .v (.int .i64 0), .v (.int .u64 0), .v (.int .i64 0), .v (.string ⟨#[]⟩), .v (.string ⟨#[]⟩), .sl [] .nil, .v (.int .i64 0), .v (.int .i64 0), .v (.int .i64 0), .sl [] .nil, .sl [] .nil, .sl [] .nil, .v (.int .i64 0), .v (.int .i64 0)]
(call (.func 157) [ah a0] st4).bind fun r6 =>
aV r6 (fun p7 st8 =>
(ao q3 0).bind fun p12 =>
(aq st.stk.length 1 p12 (PV.v (.int .i64 6)) st8).bind fun st13 =>
(ao q3 43).bind fun p14 =>
(aq st.stk.length 9 p14 p7 st13).bind fun st15 =>
(ao q3 54).bind fun p16 =>
(aq st.stk.length 1 p16 (PV.sl [] .nil) st15).bind fun st17 =>
(call (.func 73) [ah a0] st17).bind fun r18 =>
aV r18 (fun p19 st20 =>
(ao q3 54).bind fun p24 =>
(aq st.stk.length 1 p24 p19 st20).bind fun st25 =>
(call (.func 68) [ah a0, ah (PV.v (.string ⟨#[101, 108, 115, 101]⟩))] st25).bind fun r26 =>
ay r26.1 fun b27 => (bif b27 then
(call (.func 73) [ah a0] r26.2).bind fun r29 =>
aV r29 (fun p30 st31 =>
(ao q3 55).bind fun p35 =>
(aq st.stk.length 1 p35 p30 st31).bind fun st36 =>
some (Ex.normal, [q3, q5], st36)) (fun t32 x33 st34 =>
some ((Ex.pan t32 x33), [q3, q5], st34))
else
some (Ex.normal, [q3, q5], r26.2)).bind fun r28 =>
bF r28.1 ((ak true 58 (ab r28.2.1 0) r28.2.2).bind fun p38 =>
(aq st.stk.length 58 (ab r28.2.1 1) p38 r28.2.2).bind fun st39 =>
(ak true 58 (ab r28.2.1 1) st39).bind fun p40 =>
fin st.stk.length st.tk.length st.lp.length [p40] st39) fun x37 =>
fQ st.stk.length st.tk.length st.lp.length x37 r28.2.2 ((ak true 58 (ab r28.2.1 1) r28.2.2).bind fun p41 =>
fin st.stk.length st.tk.length st.lp.length [p41] r28.2.2)) (fun t21 x22 st23 =>
some (PV.pan t21 x22, st23.back st.stk.length st.tk.length st.lp.length))) (fun t9 x10 st11 =>
some (PV.pan t9 x10, st11.back st.stk.length st.tk.length st.lp.length))
theorem o8 (a0 a1 : PV) (st : St) : E L (.func 154) [a0, a1] st = As (E L) itE a0 a1 st := (bL (by kernel_rfl) Tryz.func154 _ _).trans (by kernel_rfl)
noncomputable def Gw (call : bD) (it : bN) (a0 : PV) (st : St) : Option (PV × St) :=
(call (.func 67) [ah a0] st).bind fun r1 =>
(gC Tryz.prog 140 r1.1 0).bind fun p2 =>
(aH Tryz.prog true .eql 138 p2 (PV.v (.int .i64 1))).bind fun p3 =>
ay p3 fun b4 => (bif b4 then
(call (.func 151) [ah a0] r1.2).bind fun r6 =>
(gC Tryz.prog 140 r6.1 1).bind fun p7 =>
some (Ex.ret, [p7], r6.2)
else
some (Ex.normal, [(PV.v (.string ⟨#[]⟩))], r1.2)).bind fun r5 =>
bF r5.1 (fin st.stk.length st.tk.length st.lp.length [(PV.v (.string ⟨#[]⟩))] r5.2.2) fun x8 =>
dF x8 (fin st.stk.length st.tk.length st.lp.length [(ab r5.2.1 0)] r5.2.2)
theorem yU (a0 : PV) (st : St) : E L (.func 158) [a0] st = Gw (E L) itE a0 st := (bL (by kernel_rfl) Tryz.func158 _ _).trans (by kernel_rfl)
noncomputable def o9.b0 (call : bD) (it : bN) (base lb : Nat) (vs12 : List PV) (st13 : St) : Option (Ex × List PV × St) :=
(call (.func 157) [ah (ab vs12 0)] st13).bind fun r14 =>
aV r14 (fun p15 st16 =>
(aX 9 [.v (.int .i64 0), .v (.int .i64 0), .v (.int .u64 0), .v (.int .i64 0), .v (.string ⟨#[]⟩), .v (.string ⟨#[]⟩), .sl [] .nil, .v (.int .i64 0), .v (.int .i64 0)] 1 [(0, p15)]).bind fun p20 =>
(cm st16 p20).bind fun ys21 =>
(dv base [.v (.int .i64 0), .v (.int .i64 0), .v (.int .u64 0), .v (.int .i64 0), .v (.string ⟨#[]⟩), .v (.string ⟨#[]⟩), .sl [] .nil, .v (.int .i64 0), .v (.int .i64 0)] 9 104 (ab vs12 2) ys21 st16).bind fun r22 =>
(call (.func 68) [ah (ab vs12 0), ah (PV.v (.string ⟨#[41]⟩))] r22.2).bind fun r23 =>
ay r23.1 fun b24 => (bif b24 then
some (Ex.ret, [(ab vs12 0), r22.1, r22.1], r23.2)
else
some (Ex.normal, [(ab vs12 0), (ab vs12 1), r22.1], r23.2)).bind fun r25 =>
bF r25.1 ((call (.func 71) [ah (ab r25.2.1 0), ah (PV.v (.string ⟨#[44]⟩))] r25.2.2).bind fun r27 =>
aV r27 (fun p28 st29 =>
some (Ex.normal, [(ab r25.2.1 0), (ab r25.2.1 1), (ab r25.2.1 2)], st29)) (fun t30 x31 st32 =>
some ((Ex.pan t30 x31), [(ab r25.2.1 0), (ab r25.2.1 1), (ab r25.2.1 2)], st32))) fun x26 =>
some ((Ex.ba 1 x26), [(ab r25.2.1 0), (ab r25.2.1 1), (ab r25.2.1 2)], r25.2.2)) (fun t17 x18 st19 =>
some ((Ex.pan t17 x18), [(ab vs12 0), (ab vs12 1), (ab vs12 2)], st19))
noncomputable def o9 (call : bD) (it : bN) (a0 : PV) (st : St) : Option (PV × St) :=
(call (.func 71) [ah a0, ah (PV.v (.string ⟨#[40]⟩))] st).bind fun r1 =>
aV r1 (fun p2 st3 =>
(call (.func 68) [ah a0, ah (PV.v (.string ⟨#[41]⟩))] st3).bind fun r7 =>
ay r7.1 fun b8 => (bif b8 then
some (Ex.ret, [a0, (PV.sl [] .nil), (PV.sl [] .nil)], r7.2)
else
some (Ex.normal, [a0, (PV.sl [] .nil), (PV.sl [] .nil)], r7.2)).bind fun r9 =>
bF r9.1 ((it (o9.b0 call it st.stk.length st.lp.length) [(ab r9.2.1 0), (ab r9.2.1 1), (ab r9.2.1 2)] r9.2.2).bind fun r11 =>
fQ st.stk.length st.tk.length st.lp.length (Ex.ba 0 r11.1) r11.2.2 (fin st.stk.length st.tk.length st.lp.length [(ab r11.2.1 1)] r11.2.2)) fun x10 =>
fQ st.stk.length st.tk.length st.lp.length x10 r9.2.2 (fin st.stk.length st.tk.length st.lp.length [(ab r9.2.1 1)] r9.2.2)) (fun t4 x5 st6 =>
some (PV.pan t4 x5, st6.back st.stk.length st.tk.length st.lp.length))
theorem rB (a0 : PV) (st : St) : E L (.func 159) [a0] st = o9 (E L) itE a0 st := (bL (by kernel_rfl) Tryz.func159 _ _).trans (by kernel_rfl)
noncomputable def ij (call : bD) (it : bN) (a0 : PV) (st : St) : Option (PV × St) :=
let q2 : PV := .ptr false st.stk.length 0
let st1 := st.push [.v (.int .i64 0), .v (.string ⟨#[]⟩), .v (.int .i64 0), .v (.int .i64 0), .v (.int .i64 0), .v (.int .u64 0), .v (.int .i64 0), .v (.string ⟨#[]⟩), .v (.string ⟨#[]⟩), .sl [] .nil, .v (.int .i64 0), .v (.int .i64 0), .v (.int .i64 0), .v (.string ⟨#[]⟩), .v (.string ⟨#[]⟩), .v (.int .i64 0), .v (.int .i64 0), .v (.int .u64 0), .v (.int .i64 0), .v (.string ⟨#[]⟩), .v (.string ⟨#[]⟩), .sl [] .nil, .v (.int .i64 0), .v (.int .i64 0), .v (.int .i64 0), .v (.int .i64 0), .v (.string ⟨#[]⟩), .v (.int .i64 0), .v (.int .i64 0), .v (.int .i64 0), .v (.string ⟨#[]⟩), .v (.string ⟨#[]⟩), .v (.int .i64 0), .v (.int .i64 0), .v (.int .u64 0), .v (.int .i64 0), .v (.string ⟨#[]⟩), .v (.string ⟨#[]⟩), .sl [] .nil, .v (.int .i64 0), .v (.int .i64 0), .v (.int .i64 0), .v (.int .i64 0), .v (.int .i64 0), .v (.int .i64 0), .v (.int .u64 0), .v (.int .i64 0), .v (.string ⟨#[]⟩), .v (.string ⟨#[]⟩), .sl [] .nil, .v (.int .i64 0), .v (.int .i64 0), .v (.int .i64 0), .sl [] .nil, .sl [] .nil, .sl [] .nil, .v (.int .i64 0), .v (.int .i64 0)]
(call (.func 67) [ah a0] st1).bind fun r3 =>
let q5 : PV := .ptr false r3.2.stk.length 0
let st4 := r3.2.push [.v (.int .i64 0), .v (.string ⟨#[]⟩), .v (.int .u64 0), .v (.int .i64 0), .v (.int .i64 0)]
(aq st.stk.length 5 q5 r3.1 st4).bind fun st6 =>
(ao q5 3).bind fun p7 =>
(ak false 1 p7 st6).bind fun p8 =>
(ao q5 4).bind fun p9 =>
(ak false 1 p9 st6).bind fun p10 =>
(aW [(0, 1), (1, 1), (2, 27), (29, 14), (43, 9), (52, 1), (53, 1), (54, 1), (55, 1), (56, 1), (57, 1)] [.v (.int .i64 0), .v (.string ⟨#[]⟩), .v (.int .i64 0), .v (.int .i64 0), .v (.int .i64 0), .v (.int .u64 0), .v (.int .i64 0), .v (.string ⟨#[]⟩), .v (.string ⟨#[]⟩), .sl [] .nil, .v (.int .i64 0), .v (.int .i64 0), .v (.int .i64 0), .v (.string ⟨#[]⟩), .v (.string ⟨#[]⟩), .v (.int .i64 0), .v (.int .i64 0), .v (.int .u64 0), .v (.int .i64 0), .v (.string ⟨#[]⟩), .v (.string ⟨#[]⟩), .sl [] .nil, .v (.int .i64 0), .v (.int .i64 0), .v (.int .i64 0), .v (.int .i64 0), .v (.string ⟨#[]⟩), .v (.int .i64 0), .v (.int .i64 0), .v (.int .i64 0), .v (.string ⟨#[]⟩), .v (.string ⟨#[]⟩), .v (.int .i64 0), .v (.int .i64 0), .v (.int .u64 0), .v (.int .i64 0), .v (.string ⟨#[]⟩), .v (.string ⟨#[]⟩), .sl [] .nil, .v (.int .i64 0), .v (.int .i64 0), .v (.int .i64 0), .v (.int .i64 0), .v (.int .i64 0), .v (.int .i64 0), .v (.int .u64 0), .v (.int .i64 0), .v (.string ⟨#[]⟩), .v (.string ⟨#[]⟩), .sl [] .nil, .v (.int .i64 0), .v (.int .i64 0), .v (.int .i64 0), .sl [] .nil, .sl [] .nil, .sl [] .nil, .v (.int .i64 0), .v (.int .i64 0)] [(9, p8), (10, p10)]).bind fun p11 =>
let q13 : PV := .ptr false st6.stk.length 0
let st12 := st6.push [.v (.int .i64 0), .v (.string ⟨#[]⟩), .v (.int .i64 0), .v (.int .i64 0), .v (.int .i64 0), .v (.int .u64 0), .v (.int .i64 0), .v (.string ⟨#[]⟩), .v (.string ⟨#[]⟩), .sl [] .nil, .v (.int .i64 0), .v (.int .i64 0), .v (.int .i64 0), .v (.string ⟨#[]⟩), .v (.string ⟨#[]⟩), .v (.int .i64 0), .v (.int .i64 0), .v (.int .u64 0), .v (.int .i64 0), .v (.string ⟨#[]⟩), .v (.string ⟨#[]⟩), .sl [] .nil, .v (.int .i64 0), .v (.int .i64 0), .v (.int .i64 0), .v (.int .i64 0), .v (.string ⟨#[]⟩), .v (.int .i64 0), .v (.int .i64 0), .v (.int .i64 0), .v (.string ⟨#[]⟩), .v (.string ⟨#[]⟩), .v (.int .i64 0), .v (.int .i64 0), .v (.int .u64 0), .v (.int .i64 0), .v (.string ⟨#[]⟩), .v (.string ⟨#[]⟩), .sl [] .nil, .v (.int .i64 0), .v (.int .i64 0), .v (.int .i64 0), .v (.int .i64 0), .v (.int .i64 0), .v (.int .i64 0), .v (.int .u64 0), .v (.int .i64 0), .v (.string ⟨#[]⟩), .v (.string ⟨#[]⟩), .sl [] .nil, .v (.int .i64 0), .v (.int .i64 0), .v (.int .i64 0), .sl [] .nil, .sl [] .nil, .sl [] .nil, .v (.int .i64 0), .v (.int .i64 0)]
(aq st.stk.length 58 q13 p11 st12).bind fun st14 =>
(ao q5 0).bind fun p15 =>
(ak false 1 p15 st14).bind fun p16 =>
(aH Tryz.prog true .eql 138 p16 (PV.v (.int .i64 1))).bind fun p17 =>
ay p17 fun b18 => (bif b18 then
(ak true 58 q13 st14).bind fun p20 =>
(call (.func 152) [ah a0, ah p20] st14).bind fun r21 =>
aV r21 (fun p22 st23 =>
(aq st.stk.length 58 q2 p22 st23).bind fun st27 =>
some (Ex.ret, [a0, q2, q5, q13], st27)) (fun t24 x25 st26 =>
some ((Ex.pan t24 x25), [a0, q2, q5, q13], st26))
else
some (Ex.normal, [a0, q2, q5, q13], st14)).bind fun r19 =>
bF r19.1 ((call (.func 68) [ah (ab r19.2.1 0), ah (PV.v (.string ⟨#[108, 111, 111, 112]⟩))] r19.2.2).bind fun r29 =>
ay r29.1 fun b30 => (bif b30 then
(ak true 58 (ab r19.2.1 3) r29.2).bind fun p32 =>
(call (.func 153) [ah (ab r19.2.1 0), ah p32] r29.2).bind fun r33 =>
aV r33 (fun p34 st35 =>
(aq st.stk.length 58 (ab r19.2.1 1) p34 st35).bind fun st39 =>
some (Ex.ret, [(ab r19.2.1 0), (ab r19.2.1 1), (ab r19.2.1 3)], st39)) (fun t36 x37 st38 =>
some ((Ex.pan t36 x37), [(ab r19.2.1 0), (ab r19.2.1 1), (ab r19.2.1 3)], st38))
else
(call (.func 68) [ah (ab r19.2.1 0), ah (PV.v (.string ⟨#[105, 102]⟩))] r29.2).bind fun r40 =>
ay r40.1 fun b41 => (bif b41 then
(ak true 58 (ab r19.2.1 3) r40.2).bind fun p43 =>
(call (.func 154) [ah (ab r19.2.1 0), ah p43] r40.2).bind fun r44 =>
aV r44 (fun p45 st46 =>
(aq st.stk.length 58 (ab r19.2.1 1) p45 st46).bind fun st50 =>
some (Ex.ret, [(ab r19.2.1 0), (ab r19.2.1 1), (ab r19.2.1 3)], st50)) (fun t47 x48 st49 =>
some ((Ex.pan t47 x48), [(ab r19.2.1 0), (ab r19.2.1 1), (ab r19.2.1 3)], st49))
else
(call (.func 68) [ah (ab r19.2.1 0), ah (PV.v (.string ⟨#[97, 116, 111, 109, 105, 99]⟩))] r40.2).bind fun r51 =>
ay r51.1 fun b52 => (bif b52 then
(call (.func 73) [ah (ab r19.2.1 0)] r51.2).bind fun r54 =>
aV r54 (fun p55 st56 =>
(ao (ab r19.2.1 3) 0).bind fun p60 =>
(aq st.stk.length 1 p60 (PV.v (.int .i64 10)) st56).bind fun st61 =>
(ao (ab r19.2.1 3) 54).bind fun p62 =>
(aq st.stk.length 1 p62 p55 st61).bind fun st63 =>
(ak true 58 (ab r19.2.1 3) st63).bind fun p64 =>
(aq st.stk.length 58 (ab r19.2.1 1) p64 st63).bind fun st65 =>
some (Ex.ret, [(ab r19.2.1 0), (ab r19.2.1 1), (ab r19.2.1 3)], st65)) (fun t57 x58 st59 =>
some ((Ex.pan t57 x58), [(ab r19.2.1 0), (ab r19.2.1 1), (ab r19.2.1 3)], st59))
else
(call (.func 120) [ah (ab r19.2.1 0), ah (PV.v (.string ⟨#[108, 101, 116]⟩))] r51.2).bind fun r66 =>
(onG r66.1 false (
some ((ab r19.2.1 0), r66.2)) r66.2).bind fun r68 =>
(onG r66.1 false (
(call (.func 120) [ah r68.1, ah (PV.v (.string ⟨#[118, 97, 114]⟩))] r68.2).bind fun r71 =>
some (r71.1, r71.2)) r68.2).bind fun r70 =>
(bE r66.1 (PV.v (.bool true)) r70.1).bind fun p72 =>
ay p72 fun b73 => (bif b73 then
(ao (ab r19.2.1 3) 0).bind fun p75 =>
(aq st.stk.length 1 p75 (PV.v (.int .i64 1)) r70.2).bind fun st76 =>
(call (.func 151) [ah (ab r19.2.1 0)] st76).bind fun r77 =>
(gC Tryz.prog 140 r77.1 1).bind fun p78 =>
(aH Tryz.prog true .eql 9 p78 (PV.v (.string ⟨#[118, 97, 114]⟩))).bind fun p79 =>
ay p79 fun b80 => (bif b80 then
(ao (ab r19.2.1 3) 0).bind fun p82 =>
(aq st.stk.length 1 p82 (PV.v (.int .i64 2)) r77.2).bind fun st83 =>
some (Ex.normal, [(ab r19.2.1 0), (ab r19.2.1 1), (ab r19.2.1 3)], st83)
else
some (Ex.normal, [(ab r19.2.1 0), (ab r19.2.1 1), (ab r19.2.1 3)], r77.2)).bind fun r81 =>
bF r81.1 ((call (.func 121) [ah (ab r81.2.1 0), ah (PV.v (.int .i64 1))] r81.2.2).bind fun r85 =>
aV r85 (fun p86 st87 =>
(gC Tryz.prog 140 p86 1).bind fun p91 =>
(ao (ab r81.2.1 2) 1).bind fun p92 =>
(aq st.stk.length 1 p92 p91 st87).bind fun st93 =>
(call (.func 71) [ah (ab r81.2.1 0), ah (PV.v (.string ⟨#[61]⟩))] st93).bind fun r94 =>
aV r94 (fun p95 st96 =>
(call (.func 155) [ah (ab r81.2.1 0)] st96).bind fun r100 =>
aV r100 (fun p101 st102 =>
(ao (ab r81.2.1 2) 2).bind fun p106 =>
(aq st.stk.length 27 p106 p101 st102).bind fun st107 =>
some (Ex.normal, [(ab r81.2.1 0), (ab r81.2.1 1), (ab r81.2.1 2)], st107)) (fun t103 x104 st105 =>
some ((Ex.pan t103 x104), [(ab r81.2.1 0), (ab r81.2.1 1), (ab r81.2.1 2)], st105))) (fun t97 x98 st99 =>
some ((Ex.pan t97 x98), [(ab r81.2.1 0), (ab r81.2.1 1), (ab r81.2.1 2)], st99))) (fun t88 x89 st90 =>
some ((Ex.pan t88 x89), [(ab r81.2.1 0), (ab r81.2.1 1), (ab r81.2.1 2)], st90))) fun x84 =>
some (x84, [(ab r81.2.1 0), (ab r81.2.1 1), (ab r81.2.1 2)], r81.2.2)
else
(call (.func 68) [ah (ab r19.2.1 0), ah (PV.v (.string ⟨#[115, 101, 116]⟩))] r70.2).bind fun r108 =>
ay r108.1 fun b109 => (bif b109 then
(call (.func 156) [ah (ab r19.2.1 0)] r108.2).bind fun r111 =>
aV r111 (fun p112 st113 =>
(ao (ab r19.2.1 3) 0).bind fun p117 =>
(aq st.stk.length 1 p117 (PV.v (.int .i64 4)) st113).bind fun st118 =>
(ao (ab r19.2.1 3) 29).bind fun p119 =>
(aq st.stk.length 14 p119 p112 st118).bind fun st120 =>
(call (.func 71) [ah (ab r19.2.1 0), ah (PV.v (.string ⟨#[61]⟩))] st120).bind fun r121 =>
aV r121 (fun p122 st123 =>
(call (.func 157) [ah (ab r19.2.1 0)] st123).bind fun r127 =>
aV r127 (fun p128 st129 =>
(ao (ab r19.2.1 3) 43).bind fun p133 =>
(aq st.stk.length 9 p133 p128 st129).bind fun st134 =>
some (Ex.normal, [(ab r19.2.1 0), (ab r19.2.1 1), (ab r19.2.1 3)], st134)) (fun t130 x131 st132 =>
some ((Ex.pan t130 x131), [(ab r19.2.1 0), (ab r19.2.1 1), (ab r19.2.1 3)], st132))) (fun t124 x125 st126 =>
some ((Ex.pan t124 x125), [(ab r19.2.1 0), (ab r19.2.1 1), (ab r19.2.1 3)], st126))) (fun t114 x115 st116 =>
some ((Ex.pan t114 x115), [(ab r19.2.1 0), (ab r19.2.1 1), (ab r19.2.1 3)], st116))
else
(call (.func 68) [ah (ab r19.2.1 0), ah (PV.v (.string ⟨#[112, 114, 105, 110, 116]⟩))] r108.2).bind fun r135 =>
ay r135.1 fun b136 => (bif b136 then
(call (.func 157) [ah (ab r19.2.1 0)] r135.2).bind fun r138 =>
aV r138 (fun p139 st140 =>
(ao (ab r19.2.1 3) 0).bind fun p144 =>
(aq st.stk.length 1 p144 (PV.v (.int .i64 5)) st140).bind fun st145 =>
(ao (ab r19.2.1 3) 43).bind fun p146 =>
(aq st.stk.length 9 p146 p139 st145).bind fun st147 =>
some (Ex.normal, [(ab r19.2.1 0), (ab r19.2.1 1), (ab r19.2.1 3)], st147)) (fun t141 x142 st143 =>
some ((Ex.pan t141 x142), [(ab r19.2.1 0), (ab r19.2.1 1), (ab r19.2.1 3)], st143))
else
(call (.func 68) [ah (ab r19.2.1 0), ah (PV.v (.string ⟨#[98, 114, 101, 97, 107]⟩))] r135.2).bind fun r148 =>
ay r148.1 fun b149 => (bif b149 then
(call (.func 158) [ah (ab r19.2.1 0)] r148.2).bind fun r151 =>
(ao (ab r19.2.1 3) 0).bind fun p152 =>
(aq st.stk.length 1 p152 (PV.v (.int .i64 8)) r151.2).bind fun st153 =>
(ao (ab r19.2.1 3) 1).bind fun p154 =>
(aq st.stk.length 1 p154 r151.1 st153).bind fun st155 =>
some (Ex.normal, [(ab r19.2.1 0), (ab r19.2.1 1), (ab r19.2.1 3)], st155)
else
(call (.func 68) [ah (ab r19.2.1 0), ah (PV.v (.string ⟨#[99, 111, 110, 116, 105, 110, 117, 101]⟩))] r148.2).bind fun r156 =>
ay r156.1 fun b157 => (bif b157 then
(call (.func 158) [ah (ab r19.2.1 0)] r156.2).bind fun r159 =>
(ao (ab r19.2.1 3) 0).bind fun p160 =>
(aq st.stk.length 1 p160 (PV.v (.int .i64 9)) r159.2).bind fun st161 =>
(ao (ab r19.2.1 3) 1).bind fun p162 =>
(aq st.stk.length 1 p162 r159.1 st161).bind fun st163 =>
some (Ex.normal, [(ab r19.2.1 0), (ab r19.2.1 1), (ab r19.2.1 3)], st163)
else
(call (.func 68) [ah (ab r19.2.1 0), ah (PV.v (.string ⟨#[99, 97, 108, 108]⟩))] r156.2).bind fun r164 =>
ay r164.1 fun b165 => (bif b165 then
(call (.func 121) [ah (ab r19.2.1 0), ah (PV.v (.int .i64 1))] r164.2).bind fun r167 =>
aV r167 (fun p168 st169 =>
(gC Tryz.prog 140 p168 1).bind fun p173 =>
(ao (ab r19.2.1 3) 0).bind fun p174 =>
(aq st.stk.length 1 p174 (PV.v (.int .i64 11)) st169).bind fun st175 =>
(ao (ab r19.2.1 3) 1).bind fun p176 =>
(aq st.stk.length 1 p176 p173 st175).bind fun st177 =>
(call (.func 159) [ah (ab r19.2.1 0)] st177).bind fun r178 =>
aV r178 (fun p179 st180 =>
(ao (ab r19.2.1 3) 53).bind fun p184 =>
(aq st.stk.length 1 p184 p179 st180).bind fun st185 =>
some (Ex.normal, [(ab r19.2.1 0), (ab r19.2.1 1), (ab r19.2.1 3)], st185)) (fun t181 x182 st183 =>
some ((Ex.pan t181 x182), [(ab r19.2.1 0), (ab r19.2.1 1), (ab r19.2.1 3)], st183))) (fun t170 x171 st172 =>
some ((Ex.pan t170 x171), [(ab r19.2.1 0), (ab r19.2.1 1), (ab r19.2.1 3)], st172))
else
(ak true 5 (ab r19.2.1 2) r164.2).bind fun p186 =>
(call (.func 74) [ah (ab r19.2.1 0), ah (PV.v (.int .i64 4)), ah p186] r164.2).bind fun r187 =>
aV r187 (fun p188 st189 =>
some (Ex.normal, [(ab r19.2.1 0), (ab r19.2.1 1), (ab r19.2.1 3)], st189)) (fun t190 x191 st192 =>
some ((Ex.pan t190 x191), [(ab r19.2.1 0), (ab r19.2.1 1), (ab r19.2.1 3)], st192))).bind fun r166 =>
some (r166.1, [(ab r166.2.1 0), (ab r166.2.1 1), (ab r166.2.1 2)], r166.2.2)).bind fun r158 =>
some (r158.1, [(ab r158.2.1 0), (ab r158.2.1 1), (ab r158.2.1 2)], r158.2.2)).bind fun r150 =>
some (r150.1, [(ab r150.2.1 0), (ab r150.2.1 1), (ab r150.2.1 2)], r150.2.2)).bind fun r137 =>
some (r137.1, [(ab r137.2.1 0), (ab r137.2.1 1), (ab r137.2.1 2)], r137.2.2)).bind fun r110 =>
some (r110.1, [(ab r110.2.1 0), (ab r110.2.1 1), (ab r110.2.1 2)], r110.2.2)).bind fun r74 =>
some (r74.1, [(ab r74.2.1 0), (ab r74.2.1 1), (ab r74.2.1 2)], r74.2.2)).bind fun r53 =>
some (r53.1, [(ab r53.2.1 0), (ab r53.2.1 1), (ab r53.2.1 2)], r53.2.2)).bind fun r42 =>
some (r42.1, [(ab r42.2.1 0), (ab r42.2.1 1), (ab r42.2.1 2)], r42.2.2)).bind fun r31 =>
bF (Ex.ba 0 r31.1) ((call (.func 71) [ah (ab r31.2.1 0), ah (PV.v (.string ⟨#[59]⟩))] r31.2.2).bind fun r194 =>
aV r194 (fun p195 st196 =>
(ak true 58 (ab r31.2.1 2) st196).bind fun p200 =>
(aq st.stk.length 58 (ab r31.2.1 1) p200 st196).bind fun st201 =>
(ak true 58 (ab r31.2.1 1) st201).bind fun p202 =>
fin st.stk.length st.tk.length st.lp.length [p202] st201) (fun t197 x198 st199 =>
some (PV.pan t197 x198, st199.back st.stk.length st.tk.length st.lp.length))) fun x193 =>
fQ st.stk.length st.tk.length st.lp.length x193 r31.2.2 ((ak true 58 (ab r31.2.1 1) r31.2.2).bind fun p203 =>
fin st.stk.length st.tk.length st.lp.length [p203] r31.2.2)) fun x28 =>
fQ st.stk.length st.tk.length st.lp.length x28 r19.2.2 ((ak true 58 (ab r19.2.1 1) r19.2.2).bind fun p204 =>
fin st.stk.length st.tk.length st.lp.length [p204] r19.2.2)
theorem dD (a0 : PV) (st : St) : E L (.func 124) [a0] st = ij (E L) itE a0 st := (bL (by kernel_rfl) Tryz.func124 _ _).trans (by kernel_rfl)
noncomputable def S73.b0 (call : bD) (it : bN) (base lb : Nat) (vs14 : List PV) (st15 : St) : Option (Ex × List PV × St) :=
(call (.func 68) [ah (ab vs14 0), ah (PV.v (.string ⟨#[125]⟩))] st15).bind fun r16 =>
(aUn Tryz.prog .not r16.1).bind fun p17 =>
ay p17 fun b18 => (bif b18 then
some (Ex.normal, [(ab vs14 0), (ab vs14 1)], r16.2)
else
some ((Ex.exit 0), [(ab vs14 0), (ab vs14 1)], r16.2)).bind fun r19 =>
bF r19.1 ((call (.func 124) [ah (ab r19.2.1 0)] r19.2.2).bind fun r21 =>
aV r21 (fun p22 st23 =>
(aX 58 [.v (.int .i64 0), .v (.string ⟨#[]⟩), .v (.int .i64 0), .v (.int .i64 0), .v (.int .i64 0), .v (.int .u64 0), .v (.int .i64 0), .v (.string ⟨#[]⟩), .v (.string ⟨#[]⟩), .sl [] .nil, .v (.int .i64 0), .v (.int .i64 0), .v (.int .i64 0), .v (.string ⟨#[]⟩), .v (.string ⟨#[]⟩), .v (.int .i64 0), .v (.int .i64 0), .v (.int .u64 0), .v (.int .i64 0), .v (.string ⟨#[]⟩), .v (.string ⟨#[]⟩), .sl [] .nil, .v (.int .i64 0), .v (.int .i64 0), .v (.int .i64 0), .v (.int .i64 0), .v (.string ⟨#[]⟩), .v (.int .i64 0), .v (.int .i64 0), .v (.int .i64 0), .v (.string ⟨#[]⟩), .v (.string ⟨#[]⟩), .v (.int .i64 0), .v (.int .i64 0), .v (.int .u64 0), .v (.int .i64 0), .v (.string ⟨#[]⟩), .v (.string ⟨#[]⟩), .sl [] .nil, .v (.int .i64 0), .v (.int .i64 0), .v (.int .i64 0), .v (.int .i64 0), .v (.int .i64 0), .v (.int .i64 0), .v (.int .u64 0), .v (.int .i64 0), .v (.string ⟨#[]⟩), .v (.string ⟨#[]⟩), .sl [] .nil, .v (.int .i64 0), .v (.int .i64 0), .v (.int .i64 0), .sl [] .nil, .sl [] .nil, .sl [] .nil, .v (.int .i64 0), .v (.int .i64 0)] 1 [(0, p22)]).bind fun p27 =>
(cm st23 p27).bind fun ys28 =>
(dv base [.v (.int .i64 0), .v (.string ⟨#[]⟩), .v (.int .i64 0), .v (.int .i64 0), .v (.int .i64 0), .v (.int .u64 0), .v (.int .i64 0), .v (.string ⟨#[]⟩), .v (.string ⟨#[]⟩), .sl [] .nil, .v (.int .i64 0), .v (.int .i64 0), .v (.int .i64 0), .v (.string ⟨#[]⟩), .v (.string ⟨#[]⟩), .v (.int .i64 0), .v (.int .i64 0), .v (.int .u64 0), .v (.int .i64 0), .v (.string ⟨#[]⟩), .v (.string ⟨#[]⟩), .sl [] .nil, .v (.int .i64 0), .v (.int .i64 0), .v (.int .i64 0), .v (.int .i64 0), .v (.string ⟨#[]⟩), .v (.int .i64 0), .v (.int .i64 0), .v (.int .i64 0), .v (.string ⟨#[]⟩), .v (.string ⟨#[]⟩), .v (.int .i64 0), .v (.int .i64 0), .v (.int .u64 0), .v (.int .i64 0), .v (.string ⟨#[]⟩), .v (.string ⟨#[]⟩), .sl [] .nil, .v (.int .i64 0), .v (.int .i64 0), .v (.int .i64 0), .v (.int .i64 0), .v (.int .i64 0), .v (.int .i64 0), .v (.int .u64 0), .v (.int .i64 0), .v (.string ⟨#[]⟩), .v (.string ⟨#[]⟩), .sl [] .nil, .v (.int .i64 0), .v (.int .i64 0), .v (.int .i64 0), .sl [] .nil, .sl [] .nil, .sl [] .nil, .v (.int .i64 0), .v (.int .i64 0)] 58 688 (ab r19.2.1 1) ys28 st23).bind fun r29 =>
some (Ex.normal, [(ab r19.2.1 0), r29.1], r29.2)) (fun t24 x25 st26 =>
some ((Ex.pan t24 x25), [(ab r19.2.1 0), (ab r19.2.1 1)], st26))) fun x20 =>
some (x20, [(ab r19.2.1 0), (ab r19.2.1 1)], r19.2.2)
noncomputable def S73 (call : bD) (it : bN) (a0 : PV) (st : St) : Option (PV × St) :=
(call (.func 71) [ah a0, ah (PV.v (.string ⟨#[123]⟩))] st).bind fun r1 =>
aV r1 (fun p2 st3 =>
(call (.func 123) [ah a0, ah p2] st3).bind fun r7 =>
aV r7 (fun p8 st9 =>
(it (S73.b0 call it st.stk.length st.lp.length) [a0, (PV.sl [] .nil)] st9).bind fun r13 =>
bF (Ex.ba 0 r13.1) ((aF (ab r13.2.1 0)).bind fun p31 =>
(ao p31 2).bind fun p32 =>
(ak false 1 p32 r13.2.2).bind fun p33 =>
(aH Tryz.prog true .sub 3 p33 (PV.v (.int .i64 1))).bind fun p34 =>
(aF (ab r13.2.1 0)).bind fun p35 =>
(ao p35 2).bind fun p36 =>
(aq st.stk.length 1 p36 p34 r13.2.2).bind fun st37 =>
fin st.stk.length st.tk.length st.lp.length [(ab r13.2.1 1)] st37) fun x30 =>
fQ st.stk.length st.tk.length st.lp.length x30 r13.2.2 (fin st.stk.length st.tk.length st.lp.length [PV.u] r13.2.2)) (fun t10 x11 st12 =>
some (PV.pan t10 x11, st12.back st.stk.length st.tk.length st.lp.length))) (fun t4 x5 st6 =>
some (PV.pan t4 x5, st6.back st.stk.length st.tk.length st.lp.length))
theorem uI (a0 : PV) (st : St) : E L (.func 73) [a0] st = S73 (E L) itE a0 st := (bL (by kernel_rfl) Tryz.func73 _ _).trans (by kernel_rfl)
noncomputable def S72.b0 (call : bD) (it : bN) (base lb : Nat) (vs33 : List PV) (st34 : St) : Option (Ex × List PV × St) :=
(ao (ab vs33 2) 1).bind fun p35 =>
(ak false 1 p35 st34).bind fun p36 =>
bR (st34 = st34) <|
(call (.func 70) [ah (ab vs33 0)] st34).bind fun r37 =>
aV r37 (fun p38 st39 =>
bR (((ak false 1 p35 st39).bind fun p43 =>
some (Rs.ret p43, st39)) = some (Rs.ret p36, st39)) <|
(aX 5 [.v (.string ⟨#[]⟩), .v (.int .i64 0), .v (.string ⟨#[]⟩), .v (.int .i64 0), .v (.int .i64 0)] 1 [(0, p38)]).bind fun p44 =>
(cm st39 p44).bind fun ys45 =>
(dv base [.v (.string ⟨#[]⟩), .v (.int .i64 0), .v (.string ⟨#[]⟩), .v (.int .i64 0), .v (.int .i64 0)] 5 56 p36 ys45 st39).bind fun r46 =>
(ao (ab vs33 2) 1).bind fun p47 =>
(aq base 1 p47 r46.1 r46.2).bind fun st48 =>
(call (.func 68) [ah (ab vs33 0), ah (PV.v (.string ⟨#[41]⟩))] st48).bind fun r49 =>
ay r49.1 fun b50 => (bif b50 then
some ((Ex.exit 0), [(ab vs33 0), (ab vs33 1), (ab vs33 2)], r49.2)
else
some (Ex.normal, [(ab vs33 0), (ab vs33 1), (ab vs33 2)], r49.2)).bind fun r51 =>
bF r51.1 ((call (.func 71) [ah (ab r51.2.1 0), ah (PV.v (.string ⟨#[44]⟩))] r51.2.2).bind fun r53 =>
aV r53 (fun p54 st55 =>
some (Ex.normal, [(ab r51.2.1 0), (ab r51.2.1 1), (ab r51.2.1 2)], st55)) (fun t56 x57 st58 =>
some ((Ex.pan t56 x57), [(ab r51.2.1 0), (ab r51.2.1 1), (ab r51.2.1 2)], st58))) fun x52 =>
some ((Ex.ba 1 x52), [(ab r51.2.1 0), (ab r51.2.1 1), (ab r51.2.1 2)], r51.2.2)) (fun t40 x41 st42 =>
some ((Ex.pan t40 x41), [(ab vs33 0), (ab vs33 1), (ab vs33 2)], st42))
noncomputable def S72 (call : bD) (it : bN) (a0 : PV) (st : St) : Option (PV × St) :=
let q2 : PV := .ptr false st.stk.length 0
let st1 := st.push [.v (.string ⟨#[]⟩), .sl [] .nil, .sl [] .nil, .v (.int .i64 0), .v (.int .i64 0)]
(call (.func 121) [ah a0, ah (PV.v (.int .i64 1))] st1).bind fun r3 =>
aV r3 (fun p4 st5 =>
let q10 : PV := .ptr false st5.stk.length 0
let st9 := st5.push [.v (.int .i64 0), .v (.string ⟨#[]⟩), .v (.int .u64 0), .v (.int .i64 0), .v (.int .i64 0)]
(aq st.stk.length 5 q10 p4 st9).bind fun st11 =>
(ao q10 1).bind fun p12 =>
(ak false 1 p12 st11).bind fun p13 =>
(ao q10 3).bind fun p14 =>
(ak false 1 p14 st11).bind fun p15 =>
(ao q10 4).bind fun p16 =>
(ak false 1 p16 st11).bind fun p17 =>
(aW [(0, 1), (1, 1), (2, 1), (3, 1), (4, 1)] [.v (.string ⟨#[]⟩), .sl [] .nil, .sl [] .nil, .v (.int .i64 0), .v (.int .i64 0)] [(0, p13), (3, p15), (4, p17)]).bind fun p18 =>
let q20 : PV := .ptr false st11.stk.length 0
let st19 := st11.push [.v (.string ⟨#[]⟩), .sl [] .nil, .sl [] .nil, .v (.int .i64 0), .v (.int .i64 0)]
(aq st.stk.length 5 q20 p18 st19).bind fun st21 =>
(call (.func 71) [ah a0, ah (PV.v (.string ⟨#[40]⟩))] st21).bind fun r22 =>
aV r22 (fun p23 st24 =>
(call (.func 68) [ah a0, ah (PV.v (.string ⟨#[41]⟩))] st24).bind fun r28 =>
(aUn Tryz.prog .not r28.1).bind fun p29 =>
ay p29 fun b30 => (bif b30 then
(it (S72.b0 call it st.stk.length st.lp.length) [a0, q2, q20] r28.2).bind fun r32 =>
some ((Ex.ba 0 r32.1), [(ab r32.2.1 0), (ab r32.2.1 1), (ab r32.2.1 2)], r32.2.2)
else
some (Ex.normal, [a0, q2, q20], r28.2)).bind fun r31 =>
bF r31.1 ((call (.func 73) [ah (ab r31.2.1 0)] r31.2.2).bind fun r60 =>
aV r60 (fun p61 st62 =>
(ao (ab r31.2.1 2) 2).bind fun p66 =>
(aq st.stk.length 1 p66 p61 st62).bind fun st67 =>
(ak true 5 (ab r31.2.1 2) st67).bind fun p68 =>
(aq st.stk.length 5 (ab r31.2.1 1) p68 st67).bind fun st69 =>
(ak true 5 (ab r31.2.1 1) st69).bind fun p70 =>
fin st.stk.length st.tk.length st.lp.length [p70] st69) (fun t63 x64 st65 =>
some (PV.pan t63 x64, st65.back st.stk.length st.tk.length st.lp.length))) fun x59 =>
fQ st.stk.length st.tk.length st.lp.length x59 r31.2.2 ((ak true 5 (ab r31.2.1 1) r31.2.2).bind fun p71 =>
fin st.stk.length st.tk.length st.lp.length [p71] r31.2.2)) (fun t25 x26 st27 =>
some (PV.pan t25 x26, st27.back st.stk.length st.tk.length st.lp.length))) (fun t6 x7 st8 =>
some (PV.pan t6 x7, st8.back st.stk.length st.tk.length st.lp.length))
theorem oE (a0 : PV) (st : St) : E L (.func 72) [a0] st = S72 (E L) itE a0 st := (bL (by kernel_rfl) Tryz.func72 _ _).trans (by kernel_rfl)
noncomputable def S48.b0 (call : bD) (it : bN) (base lb : Nat) (vs6 : List PV) (st7 : St) : Option (Ex × List PV × St) :=
(call (.func 67) [ah (ab vs6 0)] st7).bind fun r8 =>
let q10 : PV := .ptr false r8.2.stk.length 0
let st9 := r8.2.push [.v (.int .i64 0), .v (.string ⟨#[]⟩), .v (.int .u64 0), .v (.int .i64 0), .v (.int .i64 0)]
(aq base 5 q10 r8.1 st9).bind fun st11 =>
(ao q10 0).bind fun p12 =>
(ak false 1 p12 st11).bind fun p13 =>
(aH Tryz.prog true .eql 138 p13 (PV.v (.int .i64 0))).bind fun p14 =>
ay p14 fun b15 => (bif b15 then
(ak true 4 (ab vs6 2) st11).bind fun p17 =>
(aq base 4 (ab vs6 1) p17 st11).bind fun st18 =>
some (Ex.ret, [(ab vs6 0), (ab vs6 1), (ab vs6 2)], st18)
else
(call (.func 68) [ah (ab vs6 0), ah (PV.v (.string ⟨#[114, 101, 99, 111, 114, 100]⟩))] st11).bind fun r19 =>
ay r19.1 fun b20 => (bif b20 then
(ao (ab vs6 2) 0).bind fun p22 =>
(ak false 1 p22 r19.2).bind fun p23 =>
bR (r19.2 = r19.2) <|
(call (.func 69) [ah (ab vs6 0)] r19.2).bind fun r24 =>
aV r24 (fun p25 st26 =>
bR (((ak false 1 p22 st26).bind fun p30 =>
some (Rs.ret p30, st26)) = some (Rs.ret p23, st26)) <|
(aX 4 [.v (.string ⟨#[]⟩), .sl [] .nil, .v (.int .i64 0), .v (.int .i64 0)] 1 [(0, p25)]).bind fun p31 =>
(cm st26 p31).bind fun ys32 =>
(dv base [.v (.string ⟨#[]⟩), .sl [] .nil, .v (.int .i64 0), .v (.int .i64 0)] 4 56 p23 ys32 st26).bind fun r33 =>
(ao (ab vs6 2) 0).bind fun p34 =>
(aq base 1 p34 r33.1 r33.2).bind fun st35 =>
some (Ex.normal, [(ab vs6 0), (ab vs6 1), (ab vs6 2)], st35)) (fun t27 x28 st29 =>
some ((Ex.pan t27 x28), [(ab vs6 0), (ab vs6 1), (ab vs6 2)], st29))
else
(call (.func 68) [ah (ab vs6 0), ah (PV.v (.string ⟨#[103, 108, 111, 98, 97, 108]⟩))] r19.2).bind fun r36 =>
ay r36.1 fun b37 => (bif b37 then
(ao (ab vs6 2) 1).bind fun p39 =>
(ak false 1 p39 r36.2).bind fun p40 =>
bR (r36.2 = r36.2) <|
(call (.func 70) [ah (ab vs6 0)] r36.2).bind fun r41 =>
aV r41 (fun p42 st43 =>
bR (((ak false 1 p39 st43).bind fun p47 =>
some (Rs.ret p47, st43)) = some (Rs.ret p40, st43)) <|
(aX 5 [.v (.string ⟨#[]⟩), .v (.int .i64 0), .v (.string ⟨#[]⟩), .v (.int .i64 0), .v (.int .i64 0)] 1 [(0, p42)]).bind fun p48 =>
(cm st43 p48).bind fun ys49 =>
(dv base [.v (.string ⟨#[]⟩), .v (.int .i64 0), .v (.string ⟨#[]⟩), .v (.int .i64 0), .v (.int .i64 0)] 5 56 p40 ys49 st43).bind fun r50 =>
(ao (ab vs6 2) 1).bind fun p51 =>
(aq base 1 p51 r50.1 r50.2).bind fun st52 =>
(call (.func 71) [ah (ab vs6 0), ah (PV.v (.string ⟨#[59]⟩))] st52).bind fun r53 =>
aV r53 (fun p54 st55 =>
some (Ex.normal, [(ab vs6 0), (ab vs6 1), (ab vs6 2)], st55)) (fun t56 x57 st58 =>
some ((Ex.pan t56 x57), [(ab vs6 0), (ab vs6 1), (ab vs6 2)], st58))) (fun t44 x45 st46 =>
some ((Ex.pan t44 x45), [(ab vs6 0), (ab vs6 1), (ab vs6 2)], st46))
else
(call (.func 68) [ah (ab vs6 0), ah (PV.v (.string ⟨#[102, 117, 110]⟩))] r36.2).bind fun r59 =>
ay r59.1 fun b60 => (bif b60 then
(ao (ab vs6 2) 2).bind fun p62 =>
(ak false 1 p62 r59.2).bind fun p63 =>
bR (r59.2 = r59.2) <|
(call (.func 72) [ah (ab vs6 0)] r59.2).bind fun r64 =>
aV r64 (fun p65 st66 =>
bR (((ak false 1 p62 st66).bind fun p70 =>
some (Rs.ret p70, st66)) = some (Rs.ret p63, st66)) <|
(aX 5 [.v (.string ⟨#[]⟩), .sl [] .nil, .sl [] .nil, .v (.int .i64 0), .v (.int .i64 0)] 1 [(0, p65)]).bind fun p71 =>
(cm st66 p71).bind fun ys72 =>
(dv base [.v (.string ⟨#[]⟩), .sl [] .nil, .sl [] .nil, .v (.int .i64 0), .v (.int .i64 0)] 5 80 p63 ys72 st66).bind fun r73 =>
(ao (ab vs6 2) 2).bind fun p74 =>
(aq base 1 p74 r73.1 r73.2).bind fun st75 =>
some (Ex.normal, [(ab vs6 0), (ab vs6 1), (ab vs6 2)], st75)) (fun t67 x68 st69 =>
some ((Ex.pan t67 x68), [(ab vs6 0), (ab vs6 1), (ab vs6 2)], st69))
else
(call (.func 68) [ah (ab vs6 0), ah (PV.v (.string ⟨#[116, 104, 114, 101, 97, 100]⟩))] r59.2).bind fun r76 =>
ay r76.1 fun b77 => (bif b77 then
(ao (ab vs6 2) 3).bind fun p79 =>
(ak false 1 p79 r76.2).bind fun p80 =>
bR (r76.2 = r76.2) <|
(call (.func 73) [ah (ab vs6 0)] r76.2).bind fun r81 =>
aV r81 (fun p82 st83 =>
bR (((ak false 1 p79 st83).bind fun p87 =>
some (Rs.ret p87, st83)) = some (Rs.ret p80, st83)) <|
(ao q10 3).bind fun p88 =>
(ak false 1 p88 st83).bind fun p89 =>
bR (st83 = st83) <|
bR (((ak false 1 p88 r76.2).bind fun p90 =>
some (Rs.ret p90, r76.2)) = some (Rs.ret p89, r76.2)) <|
(ao q10 4).bind fun p91 =>
(ak false 1 p91 st83).bind fun p92 =>
bR (st83 = st83) <|
bR (((ak false 1 p91 r76.2).bind fun p93 =>
some (Rs.ret p93, r76.2)) = some (Rs.ret p92, r76.2)) <|
(aW [(0, 1), (1, 1), (2, 1)] [.sl [] .nil, .v (.int .i64 0), .v (.int .i64 0)] [(0, p82), (1, p89), (2, p92)]).bind fun p94 =>
(aX 3 [.sl [] .nil, .v (.int .i64 0), .v (.int .i64 0)] 1 [(0, p94)]).bind fun p95 =>
(cm st83 p95).bind fun ys96 =>
(dv base [.sl [] .nil, .v (.int .i64 0), .v (.int .i64 0)] 3 40 p80 ys96 st83).bind fun r97 =>
(ao (ab vs6 2) 3).bind fun p98 =>
(aq base 1 p98 r97.1 r97.2).bind fun st99 =>
some (Ex.normal, [(ab vs6 0), (ab vs6 1), (ab vs6 2)], st99)) (fun t84 x85 st86 =>
(ao q10 3).bind fun p100 =>
(ak false 1 p100 r76.2).bind fun p101 =>
bR (r76.2 = r76.2) <|
(ao q10 4).bind fun p102 =>
(ak false 1 p102 r76.2).bind fun p103 =>
bR (r76.2 = r76.2) <|
some ((Ex.pan t84 x85), [(ab vs6 0), (ab vs6 1), (ab vs6 2)], st86))
else
(ak true 5 q10 r76.2).bind fun p104 =>
(call (.func 74) [ah (ab vs6 0), ah (PV.v (.int .i64 4)), ah p104] r76.2).bind fun r105 =>
aV r105 (fun p106 st107 =>
some (Ex.normal, [(ab vs6 0), (ab vs6 1), (ab vs6 2)], st107)) (fun t108 x109 st110 =>
some ((Ex.pan t108 x109), [(ab vs6 0), (ab vs6 1), (ab vs6 2)], st110))).bind fun r78 =>
some (r78.1, [(ab r78.2.1 0), (ab r78.2.1 1), (ab r78.2.1 2)], r78.2.2)).bind fun r61 =>
some (r61.1, [(ab r61.2.1 0), (ab r61.2.1 1), (ab r61.2.1 2)], r61.2.2)).bind fun r38 =>
some (r38.1, [(ab r38.2.1 0), (ab r38.2.1 1), (ab r38.2.1 2)], r38.2.2)).bind fun r21 =>
some (r21.1, [(ab r21.2.1 0), (ab r21.2.1 1), (ab r21.2.1 2)], r21.2.2)).bind fun r16 =>
eN base lb st7.stk.length (Ex.ba 1 (Ex.ba 2 r16.1)) [(ab r16.2.1 0), (ab r16.2.1 1), (ab r16.2.1 2)] r16.2.2
noncomputable def S48 (call : bD) (it : bN) (a0 : PV) (st : St) : Option (PV × St) :=
let q2 : PV := .ptr false st.stk.length 0
let st1 := st.push [.sl [] .nil, .sl [] .nil, .sl [] .nil, .sl [] .nil]
let q4 : PV := .ptr false st1.stk.length 0
let st3 := st1.push [.sl [] .nil, .sl [] .nil, .sl [] .nil, .sl [] .nil]
(it (S48.b0 call it st.stk.length st.lp.length) [a0, q2, q4] st3).bind fun r5 =>
fQ st.stk.length st.tk.length st.lp.length (Ex.ba 0 r5.1) r5.2.2 ((ak true 4 (ab r5.2.1 1) r5.2.2).bind fun p111 =>
fin st.stk.length st.tk.length st.lp.length [p111] r5.2.2)
theorem BP (a0 : PV) (st : St) : E L (.func 48) [a0] st = S48 (E L) itE a0 st := (bL (by kernel_rfl) Tryz.func48 _ _).trans (by kernel_rfl)
noncomputable def S19 (call : bD) (it : bN) (st : St) : Option (PV × St) :=
(call (.func 20) [ah (PV.v (.string ⟨#[116, 104, 114, 101, 97, 100, 32, 123, 32, 112, 114, 105, 110, 116, 32, 49, 32, 43, 32, 50, 32, 42, 32, 51, 59, 32, 125]⟩))] st).bind fun r1 =>
(aQ r1.1 0).bind fun p2 =>
(aQ r1.1 1).bind fun p3 =>
let q5 : PV := .ptr false r1.2.stk.length 0
let st4 := r1.2.push [.sl [] .nil, .sl [] .nil, .sl [] .nil, .sl [] .nil]
let q7 : PV := .ptr false st4.stk.length 0
let st6 := st4.push [.v (.int .i64 0), .v (.int .i64 0), .v (.int .i64 0)]
(aq st.stk.length 4 q5 p2 st6).bind fun st8 =>
(aq st.stk.length 3 q7 p3 st8).bind fun st9 =>
(call (.func 20) [ah (PV.v (.string ⟨#[116, 104, 114, 101, 97, 100, 32, 123, 32, 112, 114, 105, 110, 116, 32, 59, 32, 125]⟩))] st9).bind fun r10 =>
(aQ r10.1 0).bind fun p11 =>
(aQ r10.1 1).bind fun p12 =>
let q14 : PV := .ptr false r10.2.stk.length 0
let st13 := r10.2.push [.sl [] .nil, .sl [] .nil, .sl [] .nil, .sl [] .nil]
let q16 : PV := .ptr false st13.stk.length 0
let st15 := st13.push [.v (.int .i64 0), .v (.int .i64 0), .v (.int .i64 0)]
(aq st.stk.length 4 q14 p11 st15).bind fun st17 =>
(aq st.stk.length 3 q16 p12 st17).bind fun st18 =>
(ak true 3 q7 st18).bind fun p19 =>
(aW [(0, 1), (1, 1), (2, 1)] [.v (.int .i64 0), .v (.int .i64 0), .v (.int .i64 0)] []).bind fun p20 =>
(aH Tryz.prog false .eql 54 p19 p20).bind fun p21 =>
(onG p21 true (
(ao q5 3).bind fun p24 =>
some (p24, st18)) st18).bind fun r23 =>
(onG p21 true (
(ak false 1 r23.1 r23.2).bind fun p27 =>
some (p27, r23.2)) r23.2).bind fun r26 =>
(onG p21 true (
(gh Tryz.prog 27 r26.1).bind fun p30 =>
some (p30, r26.2)) r26.2).bind fun r29 =>
(onG p21 true (
(aH Tryz.prog true .eql 3 r29.1 (PV.v (.int .i64 1))).bind fun p33 =>
some (p33, r29.2)) r29.2).bind fun r32 =>
(bE p21 r32.1 (PV.v (.bool false))).bind fun p34 =>
(onG p34 true (
(ao q5 3).bind fun p37 =>
some (p37, r32.2)) r32.2).bind fun r36 =>
(onG p34 true (
(ak false 1 r36.1 r36.2).bind fun p40 =>
some (p40, r36.2)) r36.2).bind fun r39 =>
(onG p34 true (
(cc Tryz.prog 27 r39.1 (PV.v (.int .i64 0))).bind fun p43 =>
some (p43, r39.2)) r39.2).bind fun r42 =>
(onG p34 true (
(ao r42.1 0).bind fun p46 =>
some (p46, r42.2)) r42.2).bind fun r45 =>
(onG p34 true (
(ak false 1 r45.1 r45.2).bind fun p49 =>
some (p49, r45.2)) r45.2).bind fun r48 =>
(onG p34 true (
(gh Tryz.prog 31 r48.1).bind fun p52 =>
some (p52, r48.2)) r48.2).bind fun r51 =>
(onG p34 true (
(aH Tryz.prog true .eql 3 r51.1 (PV.v (.int .i64 1))).bind fun p55 =>
some (p55, r51.2)) r51.2).bind fun r54 =>
(bE p34 r54.1 (PV.v (.bool false))).bind fun p56 =>
(onG p56 true (
(ao q5 3).bind fun p59 =>
some (p59, r54.2)) r54.2).bind fun r58 =>
(onG p56 true (
(ak false 1 r58.1 r58.2).bind fun p62 =>
some (p62, r58.2)) r58.2).bind fun r61 =>
(onG p56 true (
(cc Tryz.prog 27 r61.1 (PV.v (.int .i64 0))).bind fun p65 =>
some (p65, r61.2)) r61.2).bind fun r64 =>
(onG p56 true (
(ao r64.1 0).bind fun p68 =>
some (p68, r64.2)) r64.2).bind fun r67 =>
(onG p56 true (
(ak false 1 r67.1 r67.2).bind fun p71 =>
some (p71, r67.2)) r67.2).bind fun r70 =>
(onG p56 true (
(cc Tryz.prog 31 r70.1 (PV.v (.int .i64 0))).bind fun p74 =>
some (p74, r70.2)) r70.2).bind fun r73 =>
(onG p56 true (
(ao r73.1 0).bind fun p77 =>
some (p77, r73.2)) r73.2).bind fun r76 =>
(onG p56 true (
(ak false 1 r76.1 r76.2).bind fun p80 =>
some (p80, r76.2)) r76.2).bind fun r79 =>
(onG p56 true (
(aH Tryz.prog true .eql 3 r79.1 (PV.v (.int .i64 5))).bind fun p83 =>
some (p83, r79.2)) r79.2).bind fun r82 =>
(bE p56 r82.1 (PV.v (.bool false))).bind fun p84 =>
(onG p84 true (
(ao q5 3).bind fun p87 =>
some (p87, r82.2)) r82.2).bind fun r86 =>
(onG p84 true (
(ak false 1 r86.1 r86.2).bind fun p90 =>
some (p90, r86.2)) r86.2).bind fun r89 =>
(onG p84 true (
(cc Tryz.prog 27 r89.1 (PV.v (.int .i64 0))).bind fun p93 =>
some (p93, r89.2)) r89.2).bind fun r92 =>
(onG p84 true (
(ao r92.1 0).bind fun p96 =>
some (p96, r92.2)) r92.2).bind fun r95 =>
(onG p84 true (
(ak false 1 r95.1 r95.2).bind fun p99 =>
some (p99, r95.2)) r95.2).bind fun r98 =>
(onG p84 true (
(cc Tryz.prog 31 r98.1 (PV.v (.int .i64 0))).bind fun p102 =>
some (p102, r98.2)) r98.2).bind fun r101 =>
(onG p84 true (
(ao r101.1 43).bind fun p105 =>
some (p105, r101.2)) r101.2).bind fun r104 =>
(onG p84 true (
(ao r104.1 6).bind fun p108 =>
some (p108, r104.2)) r104.2).bind fun r107 =>
(onG p84 true (
(ak false 1 r107.1 r107.2).bind fun p111 =>
some (p111, r107.2)) r107.2).bind fun r110 =>
(onG p84 true (
(gh Tryz.prog 37 r110.1).bind fun p114 =>
some (p114, r110.2)) r110.2).bind fun r113 =>
(onG p84 true (
(aH Tryz.prog true .eql 3 r113.1 (PV.v (.int .i64 2))).bind fun p117 =>
some (p117, r113.2)) r113.2).bind fun r116 =>
(bE p84 r116.1 (PV.v (.bool false))).bind fun p118 =>
(onG p118 true (
(ao q5 3).bind fun p121 =>
some (p121, r116.2)) r116.2).bind fun r120 =>
(onG p118 true (
(ak false 1 r120.1 r120.2).bind fun p124 =>
some (p124, r120.2)) r120.2).bind fun r123 =>
(onG p118 true (
(cc Tryz.prog 27 r123.1 (PV.v (.int .i64 0))).bind fun p127 =>
some (p127, r123.2)) r123.2).bind fun r126 =>
(onG p118 true (
(ao r126.1 0).bind fun p130 =>
some (p130, r126.2)) r126.2).bind fun r129 =>
(onG p118 true (
(ak false 1 r129.1 r129.2).bind fun p133 =>
some (p133, r129.2)) r129.2).bind fun r132 =>
(onG p118 true (
(cc Tryz.prog 31 r132.1 (PV.v (.int .i64 0))).bind fun p136 =>
some (p136, r132.2)) r132.2).bind fun r135 =>
(onG p118 true (
(ao r135.1 43).bind fun p139 =>
some (p139, r135.2)) r135.2).bind fun r138 =>
(onG p118 true (
(ao r138.1 6).bind fun p142 =>
some (p142, r138.2)) r138.2).bind fun r141 =>
(onG p118 true (
(ak false 1 r141.1 r141.2).bind fun p145 =>
some (p145, r141.2)) r141.2).bind fun r144 =>
(onG p118 true (
(cc Tryz.prog 37 r144.1 (PV.v (.int .i64 1))).bind fun p148 =>
some (p148, r144.2)) r144.2).bind fun r147 =>
(onG p118 true (
(ao r147.1 1).bind fun p151 =>
some (p151, r147.2)) r147.2).bind fun r150 =>
(onG p118 true (
(ak false 1 r150.1 r150.2).bind fun p154 =>
some (p154, r150.2)) r150.2).bind fun r153 =>
(onG p118 true (
(aH Tryz.prog true .eql 3 r153.1 (PV.v (.int .i64 2))).bind fun p157 =>
some (p157, r153.2)) r153.2).bind fun r156 =>
(bE p118 r156.1 (PV.v (.bool false))).bind fun p158 =>
(onG p158 true (
(ak true 3 q16 r156.2).bind fun p161 =>
some (p161, r156.2)) r156.2).bind fun r160 =>
(onG p158 true (
(aW [(0, 1), (1, 1), (2, 1)] [.v (.int .i64 0), .v (.int .i64 0), .v (.int .i64 0)] [(0, (PV.v (.int .i64 4))), (1, (PV.v (.int .i64 1))), (2, (PV.v (.int .i64 16)))]).bind fun p164 =>
some (p164, r160.2)) r160.2).bind fun r163 =>
(onG p158 true (
(aH Tryz.prog false .eql 54 r160.1 r163.1).bind fun p167 =>
some (p167, r163.2)) r163.2).bind fun r166 =>
(bE p158 r166.1 (PV.v (.bool false))).bind fun p168 =>
fin st.stk.length st.tk.length st.lp.length [p168] r166.2
theorem Gx (st : St) : E L (.func 19) [] st = S19 (E L) itE st := (bL (by kernel_rfl) Tryz.func19 _ _).trans (by kernel_rfl)
noncomputable def S53.b1 (call : bD) (it : bN) (base lb : Nat) (vs65 : List PV) (st66 : St) : Option (Ex × List PV × St) :=
(aH Tryz.prog false .lss 3 (ab vs65 7) (ab vs65 6)).bind fun p67 =>
ay p67 fun b68 => (bif b68 then
some (Ex.normal, [(ab vs65 0), (ab vs65 1), (ab vs65 2), (ab vs65 3), (ab vs65 4), (ab vs65 5), (ab vs65 6), (ab vs65 7)], st66)
else
some ((Ex.exit 2), [(ab vs65 0), (ab vs65 1), (ab vs65 2), (ab vs65 3), (ab vs65 4), (ab vs65 5), (ab vs65 6), (ab vs65 7)], st66)).bind fun r69 =>
bF r69.1 ((cc Tryz.prog 37 (ab r69.2.1 5) (ab r69.2.1 7)).bind fun p71 =>
(ak true 9 p71 r69.2.2).bind fun p72 =>
let q74 : PV := .ptr false r69.2.2.stk.length 0
let st73 := r69.2.2.push [.v (.int .i64 0), .v (.int .i64 0), .v (.int .u64 0), .v (.int .i64 0), .v (.string ⟨#[]⟩), .v (.string ⟨#[]⟩), .sl [] .nil, .v (.int .i64 0), .v (.int .i64 0)]
(aq base 9 q74 p72 st73).bind fun st75 =>
(ak true 9 q74 st75).bind fun p76 =>
(call (.func 81) [ah p76] st75).bind fun r77 =>
(cm r77.2 r77.1).bind fun ys78 =>
(dv base [.v (.string ⟨#[]⟩)] 1 16 (ab r69.2.1 0) ys78 r77.2).bind fun r79 =>
(aH Tryz.prog true .add 3 (ab r69.2.1 7) (PV.v (.int .i64 1))).bind fun p80 =>
eN base lb st66.stk.length Ex.normal [r79.1, (ab r69.2.1 1), (ab r69.2.1 2), (ab r69.2.1 3), (ab r69.2.1 4), (ab r69.2.1 5), (ab r69.2.1 6), p80] r79.2) fun x70 =>
eN base lb st66.stk.length x70 [(ab r69.2.1 0), (ab r69.2.1 1), (ab r69.2.1 2), (ab r69.2.1 3), (ab r69.2.1 4), (ab r69.2.1 5), (ab r69.2.1 6), (ab r69.2.1 7)] r69.2.2
noncomputable def S23.b1 (call : bD) (it : bN) (base lb : Nat) (vs54 : List PV) (st55 : St) : Option (Ex × List PV × St) :=
(aH Tryz.prog false .lss 3 (ab vs54 4) (ab vs54 3)).bind fun p56 =>
ay p56 fun b57 => (bif b57 then
some (Ex.normal, [(ab vs54 0), (ab vs54 1), (ab vs54 2), (ab vs54 3), (ab vs54 4)], st55)
else
some ((Ex.exit 2), [(ab vs54 0), (ab vs54 1), (ab vs54 2), (ab vs54 3), (ab vs54 4)], st55)).bind fun r58 =>
bF r58.1 ((cc Tryz.prog 26 (ab r58.2.1 2) (ab r58.2.1 4)).bind fun p60 =>
(ak true 5 p60 r58.2.2).bind fun p61 =>
let q63 : PV := .ptr false r58.2.2.stk.length 0
let st62 := r58.2.2.push [.v (.string ⟨#[]⟩), .sl [] .nil, .sl [] .nil, .v (.int .i64 0), .v (.int .i64 0)]
(aq base 5 q63 p61 st62).bind fun st64 =>
(ao q63 0).bind fun p65 =>
(ak false 1 p65 st64).bind fun p66 =>
bR (st64 = st64) <|
(aX 1 [.v (.string ⟨#[]⟩)] 1 [(0, p66)]).bind fun p67 =>
(cm st64 p67).bind fun ys68 =>
(dv base [.v (.string ⟨#[]⟩)] 1 16 (ab r58.2.1 1) ys68 st64).bind fun r69 =>
(ao q63 1).bind fun p70 =>
(ak false 1 p70 r69.2).bind fun p71 =>
bR (r69.2 = r69.2) <|
bR (((ak false 1 p70 st64).bind fun p72 =>
some (Rs.ret p72, st64)) = some (Rs.ret p71, st64)) <|
(call (.func 52) [ah p71] r69.2).bind fun r73 =>
bR (r73.2 = r69.2) <|
(cm r69.2 r73.1).bind fun ys74 =>
(dv base [.v (.string ⟨#[]⟩)] 1 16 r69.1 ys74 r69.2).bind fun r75 =>
(ao q63 2).bind fun p76 =>
(ak false 1 p76 r75.2).bind fun p77 =>
bR (r75.2 = r75.2) <|
bR (((ak false 1 p76 r69.2).bind fun p78 =>
some (Rs.ret p78, r69.2)) = some (Rs.ret p77, r69.2)) <|
bR (((ak false 1 p76 st64).bind fun p79 =>
some (Rs.ret p79, st64)) = some (Rs.ret p77, st64)) <|
(call (.func 53) [ah p77] r75.2).bind fun r80 =>
bR (r80.2 = r75.2) <|
(cm r75.2 r80.1).bind fun ys81 =>
(dv base [.v (.string ⟨#[]⟩)] 1 16 r75.1 ys81 r75.2).bind fun r82 =>
(aH Tryz.prog true .add 3 (ab r58.2.1 4) (PV.v (.int .i64 1))).bind fun p83 =>
eN base lb st55.stk.length Ex.normal [(ab r58.2.1 0), r82.1, (ab r58.2.1 2), (ab r58.2.1 3), p83] r82.2) fun x59 =>
eN base lb st55.stk.length x59 [(ab r58.2.1 0), (ab r58.2.1 1), (ab r58.2.1 2), (ab r58.2.1 3), (ab r58.2.1 4)] r58.2.2
noncomputable def S25.b1 (call : bD) (it : bN) (base lb : Nat) (vs41 : List PV) (st42 : St) : Option (Ex × List PV × St) :=
(aH Tryz.prog false .lss 3 (ab vs41 4) (ab vs41 3)).bind fun p43 =>
ay p43 fun b44 => (bif b44 then
some (Ex.normal, [(ab vs41 0), (ab vs41 1), (ab vs41 2), (ab vs41 3), (ab vs41 4)], st42)
else
some ((Ex.exit 2), [(ab vs41 0), (ab vs41 1), (ab vs41 2), (ab vs41 3), (ab vs41 4)], st42)).bind fun r45 =>
bF r45.1 ((cc Tryz.prog 26 (ab r45.2.1 2) (ab r45.2.1 4)).bind fun p47 =>
(ak true 5 p47 r45.2.2).bind fun p48 =>
let q50 : PV := .ptr false r45.2.2.stk.length 0
let st49 := r45.2.2.push [.v (.string ⟨#[]⟩), .sl [] .nil, .sl [] .nil, .v (.int .i64 0), .v (.int .i64 0)]
(aq base 5 q50 p48 st49).bind fun st51 =>
(ao q50 3).bind fun p52 =>
(ak false 1 p52 st51).bind fun p53 =>
bR (st51 = st51) <|
(ao q50 4).bind fun p54 =>
(ak false 1 p54 st51).bind fun p55 =>
bR (st51 = st51) <|
(aX 1 [.v (.int .i64 0)] 2 [(0, p53), (1, p55)]).bind fun p56 =>
(cm st51 p56).bind fun ys57 =>
(dv base [.v (.int .i64 0)] 1 8 (ab r45.2.1 1) ys57 st51).bind fun r58 =>
(ao q50 1).bind fun p59 =>
(ak false 1 p59 r58.2).bind fun p60 =>
bR (r58.2 = r58.2) <|
bR (((ak false 1 p59 st51).bind fun p61 =>
some (Rs.ret p61, st51)) = some (Rs.ret p60, st51)) <|
(call (.func 54) [ah p60] r58.2).bind fun r62 =>
bR (r62.2 = r58.2) <|
(cm r58.2 r62.1).bind fun ys63 =>
(dv base [.v (.int .i64 0)] 1 8 r58.1 ys63 r58.2).bind fun r64 =>
(ao q50 2).bind fun p65 =>
(ak false 1 p65 r64.2).bind fun p66 =>
bR (r64.2 = r64.2) <|
bR (((ak false 1 p65 r58.2).bind fun p67 =>
some (Rs.ret p67, r58.2)) = some (Rs.ret p66, r58.2)) <|
bR (((ak false 1 p65 st51).bind fun p68 =>
some (Rs.ret p68, st51)) = some (Rs.ret p66, st51)) <|
(call (.func 55) [ah p66] r64.2).bind fun r69 =>
bR (r69.2 = r64.2) <|
(cm r64.2 r69.1).bind fun ys70 =>
(dv base [.v (.int .i64 0)] 1 8 r64.1 ys70 r64.2).bind fun r71 =>
(aH Tryz.prog true .add 3 (ab r45.2.1 4) (PV.v (.int .i64 1))).bind fun p72 =>
eN base lb st42.stk.length Ex.normal [(ab r45.2.1 0), r71.1, (ab r45.2.1 2), (ab r45.2.1 3), p72] r71.2) fun x46 =>
eN base lb st42.stk.length x46 [(ab r45.2.1 0), (ab r45.2.1 1), (ab r45.2.1 2), (ab r45.2.1 3), (ab r45.2.1 4)] r45.2.2
noncomputable def Hy (call : bD) (it : bN) (a0 : PV) (st : St) : Option (PV × St) :=
(aH Tryz.prog true .neq 21 a0 (PV.v (.int .i32 10))).bind fun p1 =>
fin st.stk.length st.tk.length st.lp.length [p1] st
theorem D7 (a0 : PV) (st : St) : E L (.func 113) [a0] st = Hy (E L) itE a0 st := (bL (by kernel_rfl) Tryz.func113 _ _).trans (by kernel_rfl)
noncomputable def HD (call : bD) (it : bN) (a0 : PV) (st : St) : Option (PV × St) :=
(call (.func 115) [ah a0] st).bind fun r1 =>
(onG r1.1 false (
some (a0, r1.2)) r1.2).bind fun r3 =>
(onG r1.1 false (
(call (.func 116) [ah r3.1] r3.2).bind fun r6 =>
some (r6.1, r6.2)) r3.2).bind fun r5 =>
(bE r1.1 (PV.v (.bool true)) r5.1).bind fun p7 =>
fin st.stk.length st.tk.length st.lp.length [p7] r5.2
theorem El (a0 : PV) (st : St) : E L (.func 145) [a0] st = HD (E L) itE a0 st := (bL (by kernel_rfl) Tryz.func145 _ _).trans (by kernel_rfl)
noncomputable def HF (call : bD) (it : bN) (a0 : PV) (st : St) : Option (PV × St) :=
(call (.func 115) [ah a0] st).bind fun r1 =>
(onG r1.1 false (
some (a0, r1.2)) r1.2).bind fun r3 =>
(onG r1.1 false (
(call (.func 116) [ah r3.1] r3.2).bind fun r6 =>
some (r6.1, r6.2)) r3.2).bind fun r5 =>
(bE r1.1 (PV.v (.bool true)) r5.1).bind fun p7 =>
fin st.stk.length st.tk.length st.lp.length [p7] r5.2
theorem Eo (a0 : PV) (st : St) : E L (.func 149) [a0] st = HF (E L) itE a0 st := (bL (by kernel_rfl) Tryz.func149 _ _).trans (by kernel_rfl)
theorem qH : aH Tryz.prog true .eql 128 (.v .nilIface) (.v .nilIface) = some (.v (.bool true)) := by kernel_rfl
theorem tY : aH Tryz.prog true .neq 128 (.v .nilIface) (.v .nilIface) = some (.v (.bool false)) := by kernel_rfl
theorem tT (c : Bool) : aH Tryz.prog c .eql 128 (.ni) (.v .nilIface) = some (.v (.bool false)) := by kernel_rfl
theorem tR (c : Bool) (a : TypeId) (x : Value) : aH Tryz.prog c .neq 128 (.ifc a x) (.v .nilIface) = some (.v (.bool true)) := by kernel_rfl
theorem mn (n : Int) : ia Tryz.prog 3 122 (.v (.int .i64 n)) = some (.v (.int .u64 (IntKind.u64.wrap n))) := by kernel_rfl
theorem hO (n : Int) : ia Tryz.prog 3 34 (.v (.int .i64 n)) = some (.v (.int .u64 (IntKind.u64.wrap n))) := by kernel_rfl
theorem iI (n : Int) : ia Tryz.prog 3 5 (.v (.int .i64 n)) = some (.v (.int .u8 (IntKind.u8.wrap n))) := by kernel_rfl
theorem nW (n : Int) : ia Tryz.prog 5 21 (.v (.int .u8 n)) = some (.v (.int .i32 (IntKind.i32.wrap n))) := by kernel_rfl
theorem ga (n : Int) : ia Tryz.prog 5 34 (.v (.int .u8 n)) = some (.v (.int .u64 (IntKind.u64.wrap n))) := by kernel_rfl
theorem lH (s : ByteArray) : ia Tryz.prog 9 91 (.v (.string s)) = some (.sl (jt s) .dead) := by kernel_rfl
theorem tQ (cs : List PV) : gC Tryz.prog 140 (.agg cs) 0 = AM.part false 1 0 cs := by kernel_rfl
theorem n0 (cs : List PV) : gC Tryz.prog 140 (.agg cs) 1 = AM.part false 1 1 cs := by kernel_rfl
theorem qy (cs : List PV) : gC Tryz.prog 140 (.agg cs) 2 = AM.part false 1 2 cs := by kernel_rfl
theorem G6 (es : List (List PV)) (c : Cap) (k : IntKind) (n : Int) : cc Tryz.prog 101 (.sl es c) (.v (.int k n)) = bif eM n es.length then (es[n.toNat]?).bind fun e => bif aj e.length 5 && true then some (.fp e 0) else none else none := by kernel_rfl
theorem HU (es : List (List PV)) (c : Cap) (k : IntKind) (n : Int) : cc Tryz.prog 27 (.sl es c) (.v (.int k n)) = bif eM n es.length then (es[n.toNat]?).bind fun e => bif aj e.length 3 && true then some (.fp e 0) else none else none := by kernel_rfl
theorem HV (es : List (List PV)) (c : Cap) (k : IntKind) (n : Int) : cc Tryz.prog 31 (.sl es c) (.v (.int k n)) = bif eM n es.length then (es[n.toNat]?).bind fun e => bif aj e.length 58 && true then some (.fp e 0) else none else none := by kernel_rfl
theorem HW (es : List (List PV)) (c : Cap) (k : IntKind) (n : Int) : cc Tryz.prog 37 (.sl es c) (.v (.int k n)) = bif eM n es.length then (es[n.toNat]?).bind fun e => bif aj e.length 9 && true then some (.fp e 0) else none else none := by kernel_rfl
theorem HX (es : List (List PV)) (c : Cap) (k : IntKind) (n : Int) : cc Tryz.prog 60 (.sl es c) (.v (.int k n)) = bif eM n es.length then (es[n.toNat]?).bind fun e => bif aj e.length 1 && true then some (.fp e 0) else none else none := by kernel_rfl
theorem HY (es : List (List PV)) (c : Cap) (k : IntKind) (n : Int) : cc Tryz.prog 65 (.sl es c) (.v (.int k n)) = bif eM n es.length then (es[n.toNat]?).bind fun e => bif aj e.length 5 && true then some (.fp e 0) else none else none := by kernel_rfl
theorem HZ (es : List (List PV)) (c : Cap) (k : IntKind) (n : Int) : cc Tryz.prog 91 (.sl es c) (.v (.int k n)) = bif eM n es.length then (es[n.toNat]?).bind fun e => bif aj e.length 1 && true then some (.fp e 0) else none else none := by kernel_rfl
theorem fG (x : Value) : ja Tryz.prog 212 (.v x) = some (.ifc 212 x) := by kernel_rfl
theorem zw (x0 x1 x2 : PV) (k : IntKind) : cG Tryz.prog 198 (.agg [x0, x1, x2]) (.v (.int k 0)) = some x0 := by kernel_rfl
theorem zy (x0 x1 x2 : PV) (k : IntKind) : cG Tryz.prog 198 (.agg [x0, x1, x2]) (.v (.int k 1)) = some x1 := by kernel_rfl
theorem zC (x0 x1 x2 : PV) (k : IntKind) : cG Tryz.prog 198 (.agg [x0, x1, x2]) (.v (.int k 2)) = some x2 := by kernel_rfl
theorem EZ (x0 x1 x2 x3 : PV) (k : IntKind) : cG Tryz.prog 199 (.agg [x0, x1, x2, x3]) (.v (.int k 0)) = some x0 := by kernel_rfl
theorem zA (x0 x1 x2 x3 : PV) (k : IntKind) : cG Tryz.prog 199 (.agg [x0, x1, x2, x3]) (.v (.int k 1)) = some x1 := by kernel_rfl
theorem zD (x0 x1 x2 x3 : PV) (k : IntKind) : cG Tryz.prog 199 (.agg [x0, x1, x2, x3]) (.v (.int k 2)) = some x2 := by kernel_rfl
theorem zF (x0 x1 x2 x3 : PV) (k : IntKind) : cG Tryz.prog 199 (.agg [x0, x1, x2, x3]) (.v (.int k 3)) = some x3 := by kernel_rfl
theorem pP {l : List UInt8} {i : Nat} (k : IntKind) (h : i < l.length) : cG Tryz.prog 9 (str l) (.v (.int k (i : Int))) = some (.v (.int .u8 (l[i].toNat : Int))) := EW (by kernel_rfl) k h
theorem lL (c : UInt8) (l : List UInt8) (k : IntKind) : cG Tryz.prog 9 (str (c :: l)) (.v (.int k 0)) = some (.v (.int .u8 (c.toNat : Int))) := pP (l := c :: l) (i := 0) k (by simp)
theorem Ha (es : List (List PV)) (c : Cap) : gh Tryz.prog 27 (.sl es c) = some (.v (.int .i64 es.length)) := by kernel_rfl
theorem Hb (es : List (List PV)) (c : Cap) : gh Tryz.prog 31 (.sl es c) = some (.v (.int .i64 es.length)) := by kernel_rfl
theorem Hc (es : List (List PV)) (c : Cap) : gh Tryz.prog 37 (.sl es c) = some (.v (.int .i64 es.length)) := by kernel_rfl
theorem vc (es : List (List PV)) (c : Cap) : gh Tryz.prog 60 (.sl es c) = some (.v (.int .i64 es.length)) := by kernel_rfl
theorem vd (es : List (List PV)) (c : Cap) : gh Tryz.prog 65 (.sl es c) = some (.v (.int .i64 es.length)) := by kernel_rfl
theorem dC (s : ByteArray) : gh Tryz.prog 9 (.v (.string s)) = some (.v (.int .i64 s.size)) := by kernel_rfl
theorem ss (es : List (List PV)) (c : Cap) : gh Tryz.prog 91 (.sl es c) = some (.v (.int .i64 es.length)) := by kernel_rfl
theorem Hm (es : List (List PV)) (c : Cap) (lo hi : Option PV) : fm Tryz.prog 65 (.sl es c) lo hi none = (bnd hi es.length es.length).bind fun h => (bnd lo 0 h).bind fun l => bif !dm 5 es then none else some (.sl ((es.take h).drop l) (jG c h es.length false)) := by kernel_rfl
theorem Ab {l : List UInt8} {lo hi : Nat} (k k' : IntKind) (h : lo ≤ hi) (h' : hi ≤ l.length) : fm Tryz.prog 9 (str l) (some (.v (.int k (lo : Int)))) (some (.v (.int k' (hi : Int)))) none = some (str ((l.take hi).drop lo)) := FB (by kernel_rfl) k k' h h'
theorem Dp {l : List UInt8} {lo : Nat} (k : IntKind) (h : lo ≤ l.length) : fm Tryz.prog 9 (str l) (some (.v (.int k (lo : Int)))) none none = some (str (l.drop lo)) := Dq (by kernel_rfl) k h
theorem Dm {l : List UInt8} {hi : Nat} (k' : IntKind) (h' : hi ≤ l.length) : fm Tryz.prog 9 (str l) none (some (.v (.int k' (hi : Int)))) none = some (str (l.take hi)) := Dn (by kernel_rfl) k' h'
end Go.Proofs.YtlhlijaondmccaaGreatDoor.S
namespace Go.Proofs
open Go.Shelf
def Tryz.wD : Go.Shelf.Ren := ⟨fun | 283 => 94 | n => n, fun | 3 => 3 | 9 => 9 | 4 => 4 | n => n, fun | n => n⟩
theorem Tryz.E5 : Go.Proofs.Lays.n283 Tryz.prog Tryz.wD := {
 mixed := by kernel_rfl
 f283 := Tryz.func94.trans (congrArg some (by kernel_rfl))
 t3 := Tryz.underlying3
 a3 := Tryz.isAgg3
 z3 := Tryz.sizeOf3
 v3 := Tryz.zeroValue3
 t4 := Tryz.underlying4
 a4 := Tryz.isAgg4
 z4 := Tryz.sizeOf4
 v4 := Tryz.zeroValue4
 t9 := Tryz.underlying9
 a9 := Tryz.isAgg9
 z9 := Tryz.sizeOf9
 v9 := Tryz.zeroValue9 }
open Go.Lib in
theorem Tryz.internal_strconv_small (i : Nat) (h : i < 100) (w : World) :
 Calls Tryz.prog 94 #[.int .i64 i] w fun e w' => e = .returned (.string ⟨(Lib.decDigits i).toArray⟩) ∧ w' = w := Any.internal_strconv_small Tryz.E5 i h w
def Tryz.va : Go.Shelf.Ren := ⟨fun | 284 => 95 | 129 => 134 | 317 => 133 | 318 => 135 | n => n, fun | 53 => 34 | 3 => 3 | 212 => 185 | 0 => 0 | 4 => 4 | 46 => 122 | 5 => 5 | 9 => 9 | n => n, fun | 17 => 0 | n => n⟩
theorem Tryz.CI : Go.Proofs.LaysM.n284 Tryz.prog Tryz.va := {
 mixed := by kernel_rfl
 f129 := Tryz.func134.trans (congrArg some (by kernel_rfl))
 f284 := Tryz.func95.trans (congrArg some (by kernel_rfl))
 f317 := Tryz.func133.trans (congrArg some (by kernel_rfl))
 f318 := Tryz.func135.trans (congrArg some (by kernel_rfl))
 t0 := Tryz.underlying0
 a0 := Tryz.isAgg0
 z0 := Tryz.sizeOf0
 v0 := Tryz.zeroValue0
 t3 := Tryz.underlying3
 a3 := Tryz.isAgg3
 z3 := Tryz.sizeOf3
 v3 := Tryz.zeroValue3
 t4 := Tryz.underlying4
 a4 := Tryz.isAgg4
 z4 := Tryz.sizeOf4
 v4 := Tryz.zeroValue4
 t5 := Tryz.underlying5
 a5 := Tryz.isAgg5
 z5 := Tryz.sizeOf5
 v5 := Tryz.zeroValue5
 t9 := Tryz.underlying9
 a9 := Tryz.isAgg9
 z9 := Tryz.sizeOf9
 v9 := Tryz.zeroValue9
 t46 := Tryz.underlying122
 a46 := Tryz.isAgg122
 z46 := Tryz.sizeOf122
 v46 := Tryz.zeroValue122
 t53 := Tryz.underlying34
 a53 := Tryz.isAgg34
 z53 := Tryz.sizeOf34
 v53 := Tryz.zeroValue34
 t212 := Tryz.underlying185
 a212 := Tryz.isAgg185
 z212 := Tryz.sizeOf185
 v212 := Tryz.zeroValue185
 g17 := by kernel_rfl
 i0 := by kernel_rfl
 i3 := by kernel_rfl
 i4 := by kernel_rfl
 i5 := by kernel_rfl
 i9 := by kernel_rfl
 i46 := by kernel_rfl
 i53 := by kernel_rfl
 i212 := by kernel_rfl
 m17 := by kernel_rfl }
open Go.Lib in
theorem Tryz.internal_strconv_numDigits (u : Nat) (h1 : 1 ≤ u) (h2 : u < 18446744073709551616) (w : World) (htab : Lib.TabIs Tryz.prog w "internal/strconv.uint64pow10" .u64 Lib.pow10Tab) :
 Calls Tryz.prog 95 #[.int .u64 u] w fun e w' => e = .returned (.int .i64 (Lib.nDigits u)) ∧ w' = w := Any.internal_strconv_numDigits Tryz.CI u h1 h2 w htab
def Tryz.wE : Go.Shelf.Ren := ⟨fun | 285 => 96 | n => n, fun | 37 => 91 | 53 => 34 | 3 => 3 | 4 => 4 | 51 => 186 | 9 => 9 | 5 => 5 | 0 => 0 | n => n, fun | n => n⟩
theorem Tryz.E6 : Go.Proofs.Lays.n285 Tryz.prog Tryz.wE := {
 mixed := by kernel_rfl
 f285 := Tryz.func96.trans (congrArg some (by kernel_rfl))
 t0 := Tryz.underlying0
 a0 := Tryz.isAgg0
 z0 := Tryz.sizeOf0
 v0 := Tryz.zeroValue0
 t3 := Tryz.underlying3
 a3 := Tryz.isAgg3
 z3 := Tryz.sizeOf3
 v3 := Tryz.zeroValue3
 t4 := Tryz.underlying4
 a4 := Tryz.isAgg4
 z4 := Tryz.sizeOf4
 v4 := Tryz.zeroValue4
 t5 := Tryz.underlying5
 a5 := Tryz.isAgg5
 z5 := Tryz.sizeOf5
 v5 := Tryz.zeroValue5
 t9 := Tryz.underlying9
 a9 := Tryz.isAgg9
 z9 := Tryz.sizeOf9
 v9 := Tryz.zeroValue9
 t37 := Tryz.underlying91
 a37 := Tryz.isAgg91
 z37 := Tryz.sizeOf91
 v37 := Tryz.zeroValue91
 t51 := Tryz.underlying186
 a51 := Tryz.isAgg186
 z51 := Tryz.sizeOf186
 v51 := Tryz.zeroValue186
 t53 := Tryz.underlying34
 a53 := Tryz.isAgg34
 z53 := Tryz.sizeOf34
 v53 := Tryz.zeroValue34 }
open Go.RowKit Go.Sort Go.Lib in
theorem Tryz.internal_strconv_formatBase10 (blk off cap : Nat) (u : Nat) (d : Array UInt8) (w : World) (hH : Holds (fun (b : UInt8) => Value.int .u8 (b.toNat : Int)) w blk off d) (hu : u < 10 ^ d.size) (hu64 : u < 18446744073709551616) (hsz : d.size < 4611686018427387904) :
 Calls Tryz.prog 96 #[.slice (some ⟨blk, off, none⟩) d.size cap, .int .u64 u] w fun e w' =>
  e = .returned (.tuple #[]) ∧ ∃ (n v' : Nat) (dk : Array UInt8), w' = (putRow (fun (b : UInt8) => Value.int .u8 (b.toNat : Int)) w blk off dk).drewN n ∧ FmtInv d.size u 0 v' dk := Any.internal_strconv_formatBase10 Tryz.E6 blk off cap u d w hH hu hu64 hsz
def Tryz.u9 : Go.Shelf.Ren := ⟨fun | 245 => 171 | 279 => 179 | 280 => 180 | 281 => 181 | 282 => 182 | 316 => 192 | 171 => 106 | 205 => 193 | 243 => 143 | 246 => 167 | 283 => 94 | 284 => 95 | 285 => 96 | 286 => 97 | 129 => 134 | 317 => 133 | 318 => 135 | 319 => 136 | 320 => 137 | 337 => 164 | 338 => 165 | n => n, fun | 9 => 9 | 3 => 3 | 75 => 128 | 167 => 212 | 4 => 4 | 168 => 214 | 210 => 226 | 37 => 91 | 0 => 0 | 127 => 133 | 145 => 232 | 143 => 230 | 2 => 2 | 171 => 161 | 53 => 34 | 5 => 5 | 173 => 164 | 212 => 185 | 51 => 186 | 20 => 20 | 213 => 187 | 46 => 122 | 232 => 210 | 233 => 211 | 80 => 76 | n => n, fun | 15 => 4 | 16 => 5 | 17 => 0 | 18 => 1 | 19 => 2 | n => n⟩
theorem Tryz.wF : Go.Proofs.LaysC.n245 Tryz.prog Tryz.u9 := {
 mixed := by kernel_rfl
 f129 := Tryz.func134.trans (congrArg some (by kernel_rfl))
 f171 := Tryz.func106.trans (congrArg some (by kernel_rfl))
 f205 := Tryz.func193.trans (congrArg some (by kernel_rfl))
 f243 := Tryz.func143.trans (congrArg some (by kernel_rfl))
 f245 := Tryz.func171.trans (congrArg some (by kernel_rfl))
 f246 := Tryz.func167.trans (congrArg some (by kernel_rfl))
 f279 := Tryz.func179.trans (congrArg some (by kernel_rfl))
 f280 := Tryz.func180.trans (congrArg some (by kernel_rfl))
 f281 := Tryz.func181.trans (congrArg some (by kernel_rfl))
 f282 := Tryz.func182.trans (congrArg some (by kernel_rfl))
 f283 := Tryz.func94.trans (congrArg some (by kernel_rfl))
 f284 := Tryz.func95.trans (congrArg some (by kernel_rfl))
 f285 := Tryz.func96.trans (congrArg some (by kernel_rfl))
 f286 := Tryz.func97.trans (congrArg some (by kernel_rfl))
 f316 := Tryz.func192.trans (congrArg some (by kernel_rfl))
 f317 := Tryz.func133.trans (congrArg some (by kernel_rfl))
 f318 := Tryz.func135.trans (congrArg some (by kernel_rfl))
 f319 := Tryz.func136.trans (congrArg some (by kernel_rfl))
 f320 := Tryz.func137.trans (congrArg some (by kernel_rfl))
 f337 := Tryz.func164.trans (congrArg some (by kernel_rfl))
 f338 := Tryz.func165.trans (congrArg some (by kernel_rfl))
 t0 := Tryz.underlying0
 a0 := Tryz.isAgg0
 z0 := Tryz.sizeOf0
 v0 := Tryz.zeroValue0
 t2 := Tryz.underlying2
 a2 := Tryz.isAgg2
 z2 := Tryz.sizeOf2
 v2 := Tryz.zeroValue2
 t3 := Tryz.underlying3
 a3 := Tryz.isAgg3
 z3 := Tryz.sizeOf3
 v3 := Tryz.zeroValue3
 t4 := Tryz.underlying4
 a4 := Tryz.isAgg4
 z4 := Tryz.sizeOf4
 v4 := Tryz.zeroValue4
 t5 := Tryz.underlying5
 a5 := Tryz.isAgg5
 z5 := Tryz.sizeOf5
 v5 := Tryz.zeroValue5
 t9 := Tryz.underlying9
 a9 := Tryz.isAgg9
 z9 := Tryz.sizeOf9
 v9 := Tryz.zeroValue9
 t20 := Tryz.underlying20
 a20 := Tryz.isAgg20
 z20 := Tryz.sizeOf20
 v20 := Tryz.zeroValue20
 t37 := Tryz.underlying91
 a37 := Tryz.isAgg91
 z37 := Tryz.sizeOf91
 v37 := Tryz.zeroValue91
 t46 := Tryz.underlying122
 a46 := Tryz.isAgg122
 z46 := Tryz.sizeOf122
 v46 := Tryz.zeroValue122
 t51 := Tryz.underlying186
 a51 := Tryz.isAgg186
 z51 := Tryz.sizeOf186
 v51 := Tryz.zeroValue186
 t53 := Tryz.underlying34
 a53 := Tryz.isAgg34
 z53 := Tryz.sizeOf34
 v53 := Tryz.zeroValue34
 t75 := Tryz.underlying128
 a75 := Tryz.isAgg128
 z75 := Tryz.sizeOf128
 v75 := Tryz.zeroValue128
 t127 := Tryz.underlying133
 a127 := Tryz.isAgg133
 z127 := Tryz.sizeOf133
 v127 := Tryz.zeroValue133
 t143 := Tryz.underlying230
 a143 := Tryz.isAgg230
 z143 := Tryz.sizeOf230
 v143 := Tryz.zeroValue230
 t145 := Tryz.underlying232
 a145 := Tryz.isAgg232
 z145 := Tryz.sizeOf232
 v145 := Tryz.zeroValue232
 t167 := Tryz.underlying212
 a167 := Tryz.isAgg212
 z167 := Tryz.sizeOf212
 v167 := Tryz.zeroValue212
 t168 := Tryz.underlying214
 a168 := Tryz.isAgg214
 z168 := Tryz.sizeOf214
 v168 := Tryz.zeroValue214
 t171 := Tryz.underlying161
 a171 := Tryz.isAgg161
 z171 := Tryz.sizeOf161
 v171 := Tryz.zeroValue161
 t173 := Tryz.underlying164
 a173 := Tryz.isAgg164
 z173 := Tryz.sizeOf164
 v173 := Tryz.zeroValue164
 t210 := Tryz.underlying226
 a210 := Tryz.isAgg226
 z210 := Tryz.sizeOf226
 v210 := Tryz.zeroValue226
 t212 := Tryz.underlying185
 a212 := Tryz.isAgg185
 z212 := Tryz.sizeOf185
 v212 := Tryz.zeroValue185
 t213 := Tryz.underlying187
 a213 := Tryz.isAgg187
 z213 := Tryz.sizeOf187
 t232 := Tryz.underlying210
 a232 := Tryz.isAgg210
 z232 := Tryz.sizeOf210
 v232 := Tryz.zeroValue210
 t233 := Tryz.underlying211
 a233 := Tryz.isAgg211
 z233 := Tryz.sizeOf211
 v233 := Tryz.zeroValue211
 g15 := by kernel_rfl
 g16 := by kernel_rfl
 g17 := by kernel_rfl
 g18 := by kernel_rfl
 g19 := by kernel_rfl
 t80 := Tryz.underlying76
 a80 := Tryz.isAgg76
 z80 := Tryz.sizeOf76
 v80 := Tryz.zeroValue76
 i0 := by kernel_rfl
 i2 := by kernel_rfl
 i3 := by kernel_rfl
 i4 := by kernel_rfl
 i5 := by kernel_rfl
 i9 := by kernel_rfl
 i20 := by kernel_rfl
 i37 := by kernel_rfl
 i46 := by kernel_rfl
 i51 := by kernel_rfl
 i53 := by kernel_rfl
 i75 := by kernel_rfl
 i80 := by kernel_rfl
 i127 := by kernel_rfl
 i143 := by kernel_rfl
 i145 := by kernel_rfl
 i167 := by kernel_rfl
 i168 := by kernel_rfl
 i171 := by kernel_rfl
 i173 := by kernel_rfl
 i210 := by kernel_rfl
 i212 := by kernel_rfl
 i232 := by kernel_rfl
 i233 := by kernel_rfl
 m15 := by kernel_rfl
 m16 := by kernel_rfl
 m17 := by kernel_rfl
 m18 := by kernel_rfl
 m19 := by kernel_rfl
 c0 := by kernel_rfl
 c2 := by kernel_rfl
 c3 := by kernel_rfl
 c4 := by kernel_rfl
 c5 := by kernel_rfl
 c9 := by kernel_rfl
 c20 := by kernel_rfl
 c37 := by kernel_rfl
 c46 := by kernel_rfl
 c51 := by kernel_rfl
 c53 := by kernel_rfl
 c75 := by kernel_rfl
 c80 := by kernel_rfl
 c127 := by kernel_rfl
 c143 := by kernel_rfl
 c145 := by kernel_rfl
 c167 := by kernel_rfl
 c168 := by kernel_rfl
 c171 := by kernel_rfl
 c173 := by kernel_rfl
 c210 := by kernel_rfl
 c212 := by kernel_rfl
 c213 := by kernel_rfl
 c232 := by kernel_rfl
 c233 := by kernel_rfl }
open Go.RowKit in
theorem Tryz.strconv_toError_syntax (fn s : ByteArray) (base bits : Int) (ev : Value) (w : World) (hlim : s.size ≤ 281474976710656) (hv : w.cell? ⟨4, 0, none⟩ = some ev) (hev : ev = .nilIface ∨ ∃ te pe, ev = .iface te pe) :
 Calls Tryz.prog 171 #[.string fn, .string s, .int .i64 base, .int .i64 bits, .iface 212 (.int .i64 2)] w fun e w' => ∃ N, e = .returned (.iface 214 (.pointer (some ⟨N, 0, none⟩))) ∧ w.heap.size ≤ N ∧ w'.heap[N]? = some (.cells #[.string fn, .string s, ev] 226 (0, 0)) ∧ Below w.heap.size w w' := Any.strconv_toError_syntax Tryz.wF fn s base bits ev w hlim hv hev
open Go.RowKit in
theorem Tryz.strconv_toError_range (fn s : ByteArray) (base bits : Int) (ev : Value) (w : World) (hlim : s.size ≤ 281474976710656) (hv : w.cell? ⟨5, 0, none⟩ = some ev) (hev : ev = .nilIface ∨ ∃ te pe, ev = .iface te pe) :
 Calls Tryz.prog 171 #[.string fn, .string s, .int .i64 base, .int .i64 bits, .iface 212 (.int .i64 1)] w fun e w' => ∃ N, e = .returned (.iface 214 (.pointer (some ⟨N, 0, none⟩))) ∧ w.heap.size ≤ N ∧ w'.heap[N]? = some (.cells #[.string fn, .string s, ev] 226 (0, 0)) ∧ Below w.heap.size w w' := Any.strconv_toError_range Tryz.wF fn s base bits ev w hlim hv hev
def Tryz.wC : Go.Shelf.Ren := ⟨fun | 217 => 144 | 266 => 168 | n => n, fun | 9 => 9 | 5 => 5 | 3 => 3 | n => n, fun | n => n⟩
theorem Tryz.E4 : Go.Proofs.Lays.n217 Tryz.prog Tryz.wC := {
 mixed := by kernel_rfl
 f217 := Tryz.func144.trans (congrArg some (by kernel_rfl))
 f266 := Tryz.func168.trans (congrArg some (by kernel_rfl))
 t3 := Tryz.underlying3
 a3 := Tryz.isAgg3
 z3 := Tryz.sizeOf3
 v3 := Tryz.zeroValue3
 t5 := Tryz.underlying5
 a5 := Tryz.isAgg5
 z5 := Tryz.sizeOf5
 v5 := Tryz.zeroValue5
 t9 := Tryz.underlying9
 a9 := Tryz.isAgg9
 z9 := Tryz.sizeOf9
 v9 := Tryz.zeroValue9 }
open Go.RowKit Go.Lib in
theorem Tryz.stringslite_IndexByte (s : ByteArray) (c : Int) (w : World) :
 Calls Tryz.prog 144 #[.string s, .int .u8 c] w fun e w' => e = .returned (.int .i64 (Lib.indexByte s.data.toList c.toNat.toUInt8)) ∧ w' = w := Any.stringslite_IndexByte Tryz.E4 s c w
def Tryz.wA : Go.Shelf.Ren := ⟨fun | 144 => 169 | 143 => 176 | 219 => 191 | 217 => 144 | 225 => 196 | 224 => 195 | 267 => 200 | 266 => 168 | 314 => 202 | n => n, fun | 9 => 9 | 4 => 4 | 3 => 3 | 5 => 5 | 46 => 122 | 146 => 190 | 51 => 186 | n => n, fun | 1 => 3 | n => n⟩
theorem Tryz.E2 : Go.Proofs.Lays.n144 Tryz.prog Tryz.wA := {
 mixed := by kernel_rfl
 f143 := Tryz.func176.trans (congrArg some (by kernel_rfl))
 f144 := Tryz.func169.trans (congrArg some (by kernel_rfl))
 f217 := Tryz.func144.trans (congrArg some (by kernel_rfl))
 f219 := Tryz.func191.trans (congrArg some (by kernel_rfl))
 f224 := Tryz.func195.trans (congrArg some (by kernel_rfl))
 f225 := Tryz.func196.trans (congrArg some (by kernel_rfl))
 f266 := Tryz.func168.trans (congrArg some (by kernel_rfl))
 f267 := Tryz.func200.trans (congrArg some (by kernel_rfl))
 f314 := Tryz.func202.trans (congrArg some (by kernel_rfl))
 t3 := Tryz.underlying3
 a3 := Tryz.isAgg3
 z3 := Tryz.sizeOf3
 v3 := Tryz.zeroValue3
 t4 := Tryz.underlying4
 a4 := Tryz.isAgg4
 z4 := Tryz.sizeOf4
 v4 := Tryz.zeroValue4
 t5 := Tryz.underlying5
 a5 := Tryz.isAgg5
 z5 := Tryz.sizeOf5
 v5 := Tryz.zeroValue5
 t9 := Tryz.underlying9
 a9 := Tryz.isAgg9
 z9 := Tryz.sizeOf9
 v9 := Tryz.zeroValue9
 t46 := Tryz.underlying122
 a46 := Tryz.isAgg122
 z46 := Tryz.sizeOf122
 v46 := Tryz.zeroValue122
 t51 := Tryz.underlying186
 a51 := Tryz.isAgg186
 z51 := Tryz.sizeOf186
 v51 := Tryz.zeroValue186
 t146 := Tryz.underlying190
 a146 := Tryz.isAgg190
 z146 := Tryz.sizeOf190
 v146 := Tryz.zeroValue190
 g1 := by kernel_rfl }
open Go.RowKit Go.Lib in
theorem Tryz.strings_Contains (s sub : ByteArray) (m : Int) (w : World) (hs : s.size < 4294967281) (hm : w.cell? ⟨3, 0, none⟩ = some (.int .i64 m)) :
 Calls Tryz.prog 169 #[.string s, .string sub] w fun e w' => e = .returned (.bool (Lib.contains s.data.toList sub.data.toList)) ∧ w' = w := Any.strings_Contains Tryz.E2 s sub m w hs hm
def Tryz.wB : Go.Shelf.Ren := ⟨fun | 150 => 150 | 153 => 172 | 152 => 183 | 226 => 184 | 227 => 185 | 228 => 186 | 137 => 114 | 119 => 194 | 224 => 195 | 225 => 196 | 217 => 144 | 266 => 168 | n => n, fun | 9 => 9 | 4 => 4 | 3 => 3 | 5 => 5 | 21 => 21 | 117 => 220 | 116 => 219 | 0 => 0 | 46 => 122 | 124 => 228 | n => n, fun | n => n⟩
theorem Tryz.E3 : Go.Proofs.Lays.n150 Tryz.prog Tryz.wB := {
 mixed := by kernel_rfl
 f119 := Tryz.func194.trans (congrArg some (by kernel_rfl))
 f137 := Tryz.func114.trans (congrArg some (by kernel_rfl))
 f150 := Tryz.func150.trans (congrArg some (by kernel_rfl))
 f152 := Tryz.func183.trans (congrArg some (by kernel_rfl))
 f153 := Tryz.func172.trans (congrArg some (by kernel_rfl))
 f217 := Tryz.func144.trans (congrArg some (by kernel_rfl))
 f224 := Tryz.func195.trans (congrArg some (by kernel_rfl))
 f225 := Tryz.func196.trans (congrArg some (by kernel_rfl))
 f226 := Tryz.func184.trans (congrArg some (by kernel_rfl))
 f227 := Tryz.func185.trans (congrArg some (by kernel_rfl))
 f228 := Tryz.func186.trans (congrArg some (by kernel_rfl))
 f266 := Tryz.func168.trans (congrArg some (by kernel_rfl))
 t0 := Tryz.underlying0
 a0 := Tryz.isAgg0
 z0 := Tryz.sizeOf0
 v0 := Tryz.zeroValue0
 t3 := Tryz.underlying3
 a3 := Tryz.isAgg3
 z3 := Tryz.sizeOf3
 v3 := Tryz.zeroValue3
 t4 := Tryz.underlying4
 a4 := Tryz.isAgg4
 z4 := Tryz.sizeOf4
 v4 := Tryz.zeroValue4
 t5 := Tryz.underlying5
 a5 := Tryz.isAgg5
 z5 := Tryz.sizeOf5
 v5 := Tryz.zeroValue5
 t9 := Tryz.underlying9
 a9 := Tryz.isAgg9
 z9 := Tryz.sizeOf9
 v9 := Tryz.zeroValue9
 t21 := Tryz.underlying21
 a21 := Tryz.isAgg21
 z21 := Tryz.sizeOf21
 v21 := Tryz.zeroValue21
 t46 := Tryz.underlying122
 a46 := Tryz.isAgg122
 z46 := Tryz.sizeOf122
 v46 := Tryz.zeroValue122
 t116 := Tryz.underlying219
 a116 := Tryz.isAgg219
 z116 := Tryz.sizeOf219
 t117 := Tryz.underlying220
 a117 := Tryz.isAgg220
 z117 := Tryz.sizeOf220
 v117 := Tryz.zeroValue220
 t124 := Tryz.underlying228
 a124 := Tryz.isAgg228
 z124 := Tryz.sizeOf228
 v124 := Tryz.zeroValue228 }
open Go.RowKit Go.Lib in
theorem Tryz.strings_ContainsAny_laid (s chars : ByteArray) (w : World) (hs : s.size < 4294967281) (hcs : chars.size < 4294967281) (has : ∀ (j : Nat) b, s.data.toList[j]? = some b → b.toNat < 128) (hac : ∀ (j : Nat) b, chars.data.toList[j]? = some b → b.toNat < 128) :
 Calls Tryz.prog 150 #[.string s, .string chars] w fun e w' => e = .returned (.bool (Lib.containsAny s.data.toList chars.data.toList)) ∧ Below w.heap.size w w' := Any.strings_ContainsAny_laid Tryz.E3 (by kernel_rfl) s chars w hs hcs has hac
open Go.Shelf Go.RowKit Go.Sort Go.Lib
theorem Tryz.qz (i : Nat) (hi : i < 100) (w : World) :
 Calls Tryz.prog 59 #[.int .u64 i, .int .i64 10] w fun e w' => e = .returned (.string ⟨(Lib.decDigits i).toArray⟩) ∧ w' = w := by
 go_enter Tryz.func59, Tryz.ntmps59
 go_wp2_with (go_at_call 94; refine (Tryz.internal_strconv_small i hi _).mono ?_; rintro e w' ⟨rfl, rfl⟩)
 go_ret
 exact ⟨rfl, rfl⟩
theorem Tryz.wt (w : World) (T : TypeId) (nd : Nat) (hs : nd ≤ 24) : Holds (fun (b : UInt8) => Value.int .u8 (b.toNat : Int)) (w.alloc (.cells zeros24 T)) w.heap.size 0 (Array.replicate nd (0 : UInt8)) := fun j hj => by
 simp only [Array.size_replicate] at hj; rw [show (⟨w.heap.size, 0 + j, none⟩ : Addr) = ⟨w.heap.size, j, none⟩ from by simp]; rw [World.cell?_alloc_new, zeros24_at _ (by omega), getElem!_pos _ j (by simpa using hj)]; simp
theorem uO {B : Nat} {a w : World} (h : Below B a w) (k : Nat) : Below B a (w.drewN k) := ⟨h.os, h.tape, h.output, h.size, h.block⟩
theorem Tryz.si (u : Nat) (hu : 100 ≤ u) (hu64 : u < 18446744073709551616) (w : World) (htab : Lib.TabIs Tryz.prog w "internal/strconv.uint64pow10" .u64 Lib.pow10Tab) :
 Calls Tryz.prog 59 #[.int .u64 u, .int .i64 10] w fun e w' => e = .returned (.string ⟨(Lib.decDigits u).toArray⟩) ∧ Below w.heap.size w w' := by
 have hu1 : 1 ≤ u := by omega
 have hnd20 : Lib.nDigits u ≤ 20 := by have := Lib.numDigits_eq u hu1 hu64; split at this <;> omega
 have hal : Tryz.prog.arrayLen 161 = 24 := by simp [Program.arrayLen, Tryz.underlying161]
 have hsl1 : ∀ W, (Instr.sliceAt 161 (.pointer (some ⟨w.heap.size, 0, none⟩)) none (some (.int .i64 (Lib.nDigits u : Int))) none).run Tryz.prog W = .ok (.slice (some ⟨w.heap.size, 0, none⟩) (Lib.nDigits u) 24) W := fun W => by
  rw [run_sliceAt_array_h W 161 ⟨w.heap.size, 0, none⟩ (by simp [Program.arrayLen, Program.elem, Tryz.underlying161]) .i64 (Lib.nDigits u : Int) (by omega) (by rw [hal]; omega)]
  go_simp
 have hH0 := Tryz.wt w 161 (Lib.nDigits u) (by omega); have hfmt := Tryz.internal_strconv_formatBase10 w.heap.size 0 24 u (Array.replicate (Lib.nDigits u) 0) (w.alloc (.cells Lib.zeros24 161)) hH0 (by rw [Array.size_replicate]; exact Lib.lt_pow_nDigits u) hu64 (by rw [Array.size_replicate]; omega); rw [Array.size_replicate] at hfmt; have HH0 := Lib.hid hH0; have Hal := Lib.hid hal; clear hH0 hal
 go_enter Tryz.func59, Tryz.ntmps59
 go_wp2_with (first
  | (go_at_call 95; refine (Tryz.internal_strconv_numDigits u hu1 hu64 _ (Lib.tabIs_alloc htab _)).mono ?_; rintro e w' ⟨rfl, rfl⟩))
 go_at_call 96
 refine hfmt.mono ?_
 rintro e w' ⟨rfl, k, v', dk, rfl, hF⟩
 have hcv : (convert 91 9 (.slice (some ⟨w.heap.size, 0, none⟩) (Lib.nDigits u) 24)).run Tryz.prog ((putRow (fun (b : UInt8) => Value.int .u8 (b.toNat : Int)) (w.alloc (.cells Lib.zeros24 161)) w.heap.size 0 dk).drewN k) = .ok (.string ⟨(Lib.decDigits u).toArray⟩) ((putRow (fun (b : UInt8) => Value.int .u8 (b.toNat : Int)) (w.alloc (.cells Lib.zeros24 161)) w.heap.size 0 dk).drewN k) := by
  have h := run_convert_bytes_back (P := Tryz.prog) ((putRow (fun (b : UInt8) => Value.int .u8 (b.toNat : Int)) (w.alloc (.cells Lib.zeros24 161)) w.heap.size 0 dk).drewN k) 91 9 5 ⟨w.heap.size, 0, none⟩ 24 (Lib.decDigits u) Tryz.underlying91 Tryz.underlying5 Tryz.underlying9 (fun j hj => by
   rw [Lib.row_is_numeral hF j hj, Lib.add_plain, World.cell?_drewN]
   exact cell?_putRow (fun (b : UInt8) => Value.int .u8 (b.toNat : Int)) _ w.heap.size 0 _ dk HH0.out (by rw [hF.size, Array.size_replicate]) j (by rw [hF.size]; rw [Lib.decDigits_length] at hj; exact hj))
  rw [Lib.decDigits_length] at h; exact h
 go_wp2
 go_ret
 refine ⟨rfl, ?_⟩; have e0 := alloc_eq_grow w (.cells Lib.zeros24 161); obtain ⟨os', _, e⟩ := putRow_grow_new (fun (b : UInt8) => Value.int .u8 (b.toNat : Int)) w #[.cells Lib.zeros24 161] w.heap.size 0 dk (av _); rw [e0, e]; have hb : Below w.heap.size w (grow w os') := ⟨rfl, rfl, rfl, by simp [grow], fun k hk => by simp [grow, Array.getElem?_append, hk]⟩; exact uO hb k
theorem Tryz.xO (u : Nat) (hu64 : u < 18446744073709551616) (w : World) (htab : Lib.TabIs Tryz.prog w "internal/strconv.uint64pow10" .u64 Lib.pow10Tab) :
 Calls Tryz.prog 31 #[.int .u64 u, .int .i64 10] w fun e w' => e = .returned (.string ⟨(Lib.decDigits u).toArray⟩) ∧ Below w.heap.size w w' := by
 have h : Calls Tryz.prog 59 #[.int .u64 u, .int .i64 10] w fun e w' => e = .returned (.string ⟨(Lib.decDigits u).toArray⟩) ∧ Below w.heap.size w w' := by
  by_cases hu : u < 100
  · refine (Tryz.qz u hu w).mono ?_
    rintro e w' ⟨rfl, rfl⟩
    exact ⟨rfl, Below.refl _ _⟩
  · exact Tryz.si u (by omega) hu64 w htab
 go_enter Tryz.func31, Tryz.ntmps31
 go_wp2_with (go_at_call 59; refine h.mono ?_; rintro e w' ⟨rfl, hb⟩)
 go_ret
 exact ⟨rfl, hb⟩
end Go.Proofs
namespace Go.Proofs.YtlhlijaondmccaaGreatDoor.S
open Go Go.AM Go.Proofs Go.RowKit
structure Gvs (gv : GV) : Prop where
 len : ∃ m, gv.cell 3 0 = some (.int .i64 m)
 syn : ∃ ev, gv.cell 4 0 = some ev ∧ (ev = .nilIface ∨ ∃ te pe, ev = .iface te pe)
 rng : ∃ ev, gv.cell 5 0 = some ev ∧ (ev = .nilIface ∨ ∃ te pe, ev = .iface te pe)
 tab : Lib.TabIs Tryz.prog gv.w0 "internal/strconv.uint64pow10" .u64 Lib.pow10Tab
 six : 6 ≤ gv.w0.heap.size
theorem HR : Tryz.prog.globalNamed "internal/strconv.uint64pow10" = some 0 := by kernel_rfl
theorem Gvs.Ib {gv : GV} (h : Gvs gv) {w : World} (hw : gv.at w) : Lib.TabIs Tryz.prog w "internal/strconv.uint64pow10" .u64 Lib.pow10Tab :=
 var?_below hw.2 HR (by have := h.six; omega) h.tab
theorem IC {gv : GV} (hg : Gvs gv) (w : World) (vs : List Value) (p : PV) (hw : gv.at w) (h : lQ vs = some p) : Calls Tryz.prog 169 vs.toArray w fun e w' => (∃ v, e = .returned v ∧ vC v p) ∧ Below w.heap.size w w' := by
 unfold lQ at h; split at h
 · rename_i s t
   split at h
   · rename_i hs
     obtain rfl := Option.some.inj h; obtain ⟨m, hm⟩ := hg.len; refine (Tryz.strings_Contains s t m w hs (hw.1 _ _ _ hm)).mono ?_
     rintro e w' ⟨rfl, rfl⟩
     exact ⟨⟨_, rfl, .v⟩, Below.refl _ _⟩
   · cases h
 · cases h
theorem ID (w : World) (vs : List Value) (p : PV) (h : kQ vs = some p) : Calls Tryz.prog 144 vs.toArray w fun e w' => (∃ v, e = .returned v ∧ vC v p) ∧ Below w.heap.size w w' := by
 unfold kQ at h; split at h
 · rename_i s c
   obtain rfl := Option.some.inj h; refine (Tryz.stringslite_IndexByte s c w).mono ?_
   rintro e w' ⟨rfl, rfl⟩
   exact ⟨⟨_, rfl, .v⟩, Below.refl _ _⟩
 · cases h
theorem tE {s : ByteArray} (h : oL s = true) (j : Nat) (b : UInt8) (hb : s.data.toList[j]? = some b) : b.toNat < 128 := by
 have := dH.1 h b (eJ hb); simpa using this
theorem IF (w : World) (vs : List Value) (p : PV) (h : jg vs = some p) : Calls Tryz.prog 150 vs.toArray w fun e w' => (∃ v, e = .returned v ∧ vC v p) ∧ Below w.heap.size w w' := by
 unfold jg at h; split at h
 · rename_i s t
   split at h
   · rename_i hs
     obtain rfl := Option.some.inj h; refine (Tryz.strings_ContainsAny_laid s t w hs.1 hs.2.1 (tE hs.2.2.1) (tE hs.2.2.2)).mono ?_
     rintro e w' ⟨rfl, hb⟩
     exact ⟨⟨_, rfl, .v⟩, hb⟩
   · cases h
 · cases h
theorem IG {gv : GV} (hg : Gvs gv) (w : World) (vs : List Value) (p : PV) (hw : gv.at w) (h : sG 212 vs = some p) : Calls Tryz.prog 171 vs.toArray w fun e w' => (∃ v, e = .returned v ∧ vC v p) ∧ Below w.heap.size w w' := by
 unfold sG at h; split at h
 · rename_i f s b z t n
   split at h
   · rename_i hs
     obtain ⟨h1, rfl, h2⟩ := hs; obtain rfl := Option.some.inj h
     rcases h2 with rfl | rfl
     · obtain ⟨ev, he, hi⟩ := hg.rng
       refine (Tryz.strconv_toError_range f s b z ev w h1 (hw.1 _ _ _ he) hi).mono ?_
       rintro e w' ⟨N, rfl, _, _, hb⟩
       exact ⟨⟨_, rfl, .ni⟩, hb⟩
     · obtain ⟨ev, he, hi⟩ := hg.syn
       refine (Tryz.strconv_toError_syntax f s b z ev w h1 (hw.1 _ _ _ he) hi).mono ?_
       rintro e w' ⟨N, rfl, _, _, hb⟩
       exact ⟨⟨_, rfl, .ni⟩, hb⟩
   · cases h
 · cases h
theorem IE {gv : GV} (hg : Gvs gv) (w : World) (vs : List Value) (p : PV) (hw : gv.at w) (h : AV vs = some p) : Calls Tryz.prog 31 vs.toArray w fun e w' => (∃ v, e = .returned v ∧ vC v p) ∧ Below w.heap.size w w' := by
 unfold AV at h; split at h
 · rename_i n b
   split at h
   · rename_i hs
     obtain ⟨rfl, h1, h2⟩ := hs; obtain rfl := Option.some.inj h
     obtain ⟨u, rfl⟩ : ∃ u : Nat, n = u := ⟨n.toNat, by omega⟩
     refine (Tryz.xO u (by omega) w (hg.Ib hw)).mono ?_
     rintro e w' ⟨rfl, hb⟩
     exact ⟨⟨_, rfl, .v⟩, hb⟩
   · cases h
 · cases h
theorem CQ : (Tryz.prog.funcs.toList.all fun fn => !(fn.name == "runtime.NumGoroutine")) = true := by kernel_rfl
theorem n9 (f : Nat) (fn : Func) (h : Tryz.prog.funcs[f]? = some fn) : (fn.name == "runtime.NumGoroutine") = false := by
 have h1 := dH.1 CQ fn (by
  rw [← gN] at h
  exact eJ h)
 simpa using h1
theorem ok {gv : GV} (hg : Gvs gv) : vB gv L where
 gl w C _ i := .u
 name := n9
 mixed := by
  have h : Tryz.prog.follows .mixedOrders = true := by kernel_rfl
  exact h
 mD f g h := by
  have hl : zM CZ f = some g := h; simp only [CZ, zM] at hl
  cases e22 : aj 169 f with
  | true =>
   rw [e22, cond_true] at hl; obtain rfl := Option.some.inj hl; obtain rfl := ax e22
   intro call _; exact lS ⟨_, Tryz.func169, n9 _ _ Tryz.func169, rfl⟩ fun w vs p hw h => IC hg w vs p hw h
  | false =>
   rw [e22, cond_false] at hl
   cases e40 : aj 144 f with
   | true =>
    rw [e40, cond_true] at hl; obtain rfl := Option.some.inj hl; obtain rfl := ax e40
    intro call _; exact lS ⟨_, Tryz.func144, n9 _ _ Tryz.func144, rfl⟩ fun w vs p hw h => ID w vs p h
   | false =>
    rw [e40, cond_false] at hl
    cases e45 : aj 150 f with
    | true =>
     rw [e45, cond_true] at hl; obtain rfl := Option.some.inj hl; obtain rfl := ax e45
     intro call _; exact lS ⟨_, Tryz.func150, n9 _ _ Tryz.func150, rfl⟩ fun w vs p hw h => IF w vs p h
    | false =>
     rw [e45, cond_false] at hl
     cases e43 : aj 31 f with
     | true =>
      rw [e43, cond_true] at hl; obtain rfl := Option.some.inj hl; obtain rfl := ax e43
      intro call _; exact lS ⟨_, Tryz.func31, n9 _ _ Tryz.func31, rfl⟩ fun w vs p hw h => IE hg w vs p hw h
     | false =>
      rw [e43, cond_false] at hl
      cases e49 : aj 171 f with
      | true =>
       rw [e49, cond_true] at hl; obtain rfl := Option.some.inj hl; obtain rfl := ax e49
       intro call _; exact lS ⟨_, Tryz.func171, n9 _ _ Tryz.func171, rfl⟩ fun w vs p hw h => IG hg w vs p hw h
      | false =>
       rw [e49, cond_false] at hl
       cases e20 : aj 20 f with
       | true =>
        rw [e20, cond_true] at hl; obtain rfl := Option.some.inj hl; obtain rfl := ax e20
        intro call G; exact Ba (A9 fun w C _ i => .u) G
       | false =>
        rw [e20, cond_false] at hl; cases hl
end Go.Proofs.YtlhlijaondmccaaGreatDoor.S
namespace Go.Proofs.YtlhlijaondmccaaGreatDoor.S
open Go Go.AM Go.Proofs
attribute [local simp] cY cu bV bW cv dS fk dY dh dW dc dX de fj bX gU dR gW gK gE AM.ab aL aM ag aY aN ay AM.onG fK bF dF Ex.ba cond_true cond_false cU cT cS cR cQ cW cP cX cV dZ di dj cr cZ AM.du AM.cellsOf AM.ao bE beq_true dm ai aD bh bu bP decide_true decide_false bC bm bn bA bf aB az bg aA da db fg aw bB bj bM cw dQ dU cI eu ep set_set eD dA fE dB cF bG dz cE dy cD dx eC eE fA fB bK cq eo fw ed aV aR aF AM.aQ ah dt bU aZ bc aJ aI AM.part aO aK bY cg cf cn cn.eS AM.dL bq bT
def oo (n : Int) : Bool := decide (n = 95) || (decide (97 ≤ n) && decide (n ≤ 122)) || (decide (65 ≤ n) && decide (n ≤ 90))
def rY (n : Int) : Bool := decide (48 ≤ n) && decide (n ≤ 57)
theorem iN (n : Int) (st : St) : E L (.func 115) [.v (.int .i32 n)] st = some (.v (.bool (oo n)), st) := by
 rw [D9]; obtain ⟨N, T, Lb, hN, hT, hL⟩ := lens3 st
 conv => lhs; rw [← al (st)]
 by_cases h1 : n = 95
 · simp [Gn, hN, hT, hL, oo, h1]
 by_cases h2 : 97 ≤ n <;> by_cases h3 : n ≤ 122 <;> by_cases h4 : 65 ≤ n <;> by_cases h5 : n ≤ 90 <;> simp [Gn, hN, hT, hL, oo, h1, h2, h3, h4, h5]
theorem iO (n : Int) (st : St) : E L (.func 116) [.v (.int .i32 n)] st = some (.v (.bool (rY n)), st) := by
 rw [Ea]; obtain ⟨N, T, Lb, hN, hT, hL⟩ := lens3 st
 conv => lhs; rw [← al (st)]
 by_cases h2 : 48 ≤ n <;> by_cases h3 : n ≤ 57 <;> simp [HA, hN, hT, hL, rY, h2, h3]
theorem yJ (n : Int) (st : St) : E L (.func 113) [.v (.int .i32 n)] st = some (.v (.bool (!decide (n = 10))), st) := by
 rw [D7]; obtain ⟨N, T, Lb, hN, hT, hL⟩ := lens3 st
 conv => lhs; rw [← al (st)]
 simp [Hy, hN, hT, hL]
theorem yL (n : Int) (st : St) : E L (.func 145) [.v (.int .i32 n)] st = some (.v (.bool (oo n || rY n)), st) := by
 rw [El]; obtain ⟨N, T, Lb, hN, hT, hL⟩ := lens3 st
 conv => lhs; rw [← al (st)]
 cases h : oo n <;> simp [HD, hN, hT, hL, iN, iO, h]
theorem yN (n : Int) (st : St) : E L (.func 149) [.v (.int .i32 n)] st = some (.v (.bool (oo n || rY n)), st) := by
 rw [Eo]; obtain ⟨N, T, Lb, hN, hT, hL⟩ := lens3 st
 conv => lhs; rw [← al (st)]
 cases h : oo n <;> simp [HF, hN, hT, hL, iN, iO, h]
theorem DR (n : Int) (st : St) : E L (.func 130) [.v (.int .u8 n)] st = some (.v (.bool (oo n)), st) := by
 rw [Eh]; obtain ⟨N, T, Lb, hN, hT, hL⟩ := lens3 st
 conv => lhs; rw [← al (st)]
 by_cases h1 : n = 95
 · simp [Gs, hN, hT, hL, oo, h1]
 by_cases h2 : 97 ≤ n <;> by_cases h3 : n ≤ 122 <;> by_cases h4 : 65 ≤ n <;> by_cases h5 : n ≤ 90 <;> simp [Gs, hN, hT, hL, oo, h1, h2, h3, h4, h5]
theorem DS (n : Int) (st : St) : E L (.func 131) [.v (.int .u8 n)] st = some (.v (.bool (rY n)), st) := by
 rw [Ei]; obtain ⟨N, T, Lb, hN, hT, hL⟩ := lens3 st
 conv => lhs; rw [← al (st)]
 by_cases h2 : 48 ≤ n <;> by_cases h3 : n ≤ 57 <;> simp [HB, hN, hT, hL, rY, h2, h3]
def bx (q : UInt8 → Bool) (l : List UInt8) : Nat := (l.takeWhile q).length
theorem iv (q : UInt8 → Bool) (l : List UInt8) : bx q l ≤ l.length := (List.takeWhile_sublist q).length_le
theorem fC (q : UInt8 → Bool) (c : UInt8) (l : List UInt8) : bx q (c :: l) = if q c then bx q l + 1 else 0 := by
 unfold bx; rw [List.takeWhile_cons]
 split <;> simp
theorem qd {q : UInt8 → Bool} : ∀ {l : List UInt8} {n : Nat}, n ≤ l.length → (∀ j (hj : j < l.length), j < n → q l[j] = true) → (∀ h : n < l.length, q l[n] = false) → bx q l = n
 | [], n, hn, _, _ => by
  have : n = 0 := by simpa using hn
  subst this; rfl
 | c :: l, 0, hn, _, h => by
  have := h (by simp); rw [fC, if_neg]; simpa using this
 | c :: l, n + 1, hn, h1, h => by
  have h0 := h1 0 (by simp) (by omega); rw [fC, if_pos (by simpa using h0), qd (n := n) (by simpa using hn) (fun j hj hn' => by have := h1 (j + 1) (by simpa using hj) (by omega); rwa [List.getElem_cons_succ] at this) (fun hh => by have := h (by simpa using hh); rwa [List.getElem_cons_succ] at this)]
structure At (g : Nat) (q : UInt8 → Bool) : Prop where
 lo : ∀ (c : UInt8) (st : St), c.toNat < 128 → E L (.func g) [.v (.int .i32 (c.toNat : Int))] st = some (.v (.bool (q c)), st)
 hi : ∃ b, (∀ c : UInt8, 128 ≤ c.toNat → q c = b) ∧ ∀ (n : Nat) (st : St), 128 ≤ n → E L (.func g) [.v (.int .i32 (n : Int))] st = some (.v (.bool b), st)
theorem Dh {g : Nat} {q : UInt8 → Bool} (ht : At g q) {rest : List UInt8} (hlen : rest.length < 4611686018427387904) {X : St} {N T Lb : Nat} (hN : X.stk.length = N) (hT : X.tk.length = T) (hL : X.lp.length = Lb) (ptr : PV) : ∀ (k pos : Nat), rest.length - pos = k → pos ≤ rest.length → (∀ j (hj : j < rest.length), j < pos → q rest[j] = true) → ∀ x : PV,
 ∃ pos' e y, itE (rM.b0 (E L) itE N Lb) [ptr, .clo (.func g) [], x, .it Lb] (X.app [] [] [.iter (bs rest) pos]) = some (e, [ptr, .clo (.func g) [], y, .it Lb], X.app [] [] [.iter (bs rest) pos']) ∧
  ((e = .ret ∧ bx q rest < rest.length ∧ y = .v (.int .i64 (bx q rest))) ∨ (e = .exit 0 ∧ bx q rest = rest.length)) := by
 intro k
 induction k using Nat.strongRecOn with
 | ind k ih =>
 intro pos hk hp hall x
 by_cases hlt : pos < rest.length
 · by_cases hb : rest[pos].toNat < 128
   · by_cases hq : q rest[pos] = true
     · obtain ⟨pos', e, y, h1, h2⟩ := ih (rest.length - (pos + 1)) (by omega) (pos + 1) rfl (by omega) (fun j hj hj' => by
        by_cases hjp : j = pos
        · subst hjp; exact hq
        · exact hall j hj (by omega)) x
       refine ⟨pos', e, y, ?_, h2⟩; rw [bQ (vs' := [ptr, .clo (.func g) [], x, .it Lb]) (st' := X.app [] [] [.iter (bs rest) (pos + 1)])]
       · exact h1
       · have hd := AM.decode_ascii hlt hb
         simp [rM.b0, hN, hT, hL, hlt, hd, ht.lo rest[pos] _ hb, hq]
     · have hs : bx q rest = pos := qd hp hall fun _ => by simpa using hq
       refine ⟨pos + 1, .ret, .v (.int .i64 pos), ?_, .inl ⟨rfl, by omega, by rw [hs]⟩⟩; apply eF; have hd := AM.decode_ascii hlt hb; simp [rM.b0, hN, hT, hL, hlt, hd, ht.lo rest[pos] _ hb, hq]
   · obtain ⟨hh1, hh2, hh3, hh4, hh5⟩ := AM.decode_high hlt (by omega : 128 ≤ rest[pos].toNat)
     obtain ⟨b, hb1, hb2⟩ := ht.hi
     cases b with
     | true =>
      obtain ⟨pos', e, y, h1, h2⟩ := ih (rest.length - (pos + (Utf8.decode (bs rest) pos).2)) (by omega) (pos + (Utf8.decode (bs rest) pos).2) rfl (by omega) (fun j hj hj' => by
       by_cases hjp : j < pos
       · exact hall j hj hjp
       · exact hb1 _ (hh5 j hj (by omega) hj')) x
      refine ⟨pos', e, y, ?_, h2⟩; rw [bQ (vs' := [ptr, .clo (.func g) [], x, .it Lb]) (st' := X.app [] [] [.iter (bs rest) (pos + (Utf8.decode (bs rest) pos).2)])]
      · exact h1
      · simp [rM.b0, hN, hT, hL, hlt, hb2 _ _ hh1]
     | false =>
      have hs : bx q rest = pos := qd hp hall fun _ => hb1 _ (by omega)
      refine ⟨pos + (Utf8.decode (bs rest) pos).2, .ret, .v (.int .i64 pos), ?_, .inl ⟨rfl, by omega, by rw [hs]⟩⟩; apply eF; simp [rM.b0, hN, hT, hL, hlt, hb2 _ _ hh1]
 · have hs : bx q rest = pos := qd hp hall fun h => absurd h hlt
   refine ⟨pos, .exit 0, x, ?_, .inr ⟨rfl, by omega⟩⟩; apply ft; simp [rM.b0, hN, hT, hL, hlt]
theorem DN {g : Nat} {q : UInt8 → Bool} (ht : At g q) {s : St} {b : Nat} {rest : List UInt8} {x y : PV} (hb : b < s.stk.length) (hlen : rest.length < 4611686018427387904) :
 E L (.func 112) [.ptr false b 0, .clo (.func g) []] (s.af false b [str rest, x, y]) = some (.v (.int .i64 (bx q rest)), s.af false b [str rest, x, y]) := by
 rw [D6]; obtain ⟨N, T, Lb, hN, hT, hL⟩ := lens3 s; rw [hN] at hb
 conv => lhs; rw [← al (s.af false b [str rest, x, y])]
 have hr : ∀ X : St, X.lp.length = Lb → nc Tryz.prog 9 (str rest) (X.app [] [] []) = some (.it Lb, X.app [] [] [.iter (bs rest) 0]) := fun X h => zN [] [] [] (by kernel_rfl) (bs rest) h
 obtain ⟨pos', e, z, h1, h2⟩ := Dh ht hlen (X := s.af false b [str rest, x, y]) (N := N) (T := T) (Lb := Lb) (by rw [cI, hN]) (by rw [eu, hT]) (by rw [ep, hL]) (.ptr false b 0) rest.length 0 rfl (by omega) (fun j hj h => absurd h (by omega)) (.v (.int .i64 0))
 rcases h2 with ⟨rfl, h3, rfl⟩ | ⟨rfl, h3⟩
 · simp [rM, hN, hT, hL, hb, hr, h1]
 · simp [rM, hN, hT, hL, hb, hr, h1, dC, h3]
def adv : List UInt8 → Nat × Nat → Nat × Nat
 | [], p => p
 | c :: l, p => adv l (if c = 10 then (p.1 + 1, 1) else (p.1, p.2 + 1))
theorem jj (a b : List UInt8) (p : Nat × Nat) : adv (a ++ b) p = adv b (adv a p) := by
 induction a generalizing p with
 | nil => rfl
 | cons c a ih => exact ih _
theorem rD : ∀ (l : List UInt8) (p : Nat × Nat), 1 ≤ p.2 → p.1 ≤ (adv l p).1 ∧ (adv l p).1 ≤ p.1 + l.length ∧ 1 ≤ (adv l p).2 ∧ (adv l p).2 ≤ p.2 + l.length
 | [], p, h => by simp [adv, h]
 | c :: l, p, h => by
  simp only [adv, ai]; split
  · have := rD l (p.1 + 1, 1) (by simp)
    simp only at this; omega
  · have := rD l (p.1, p.2 + 1) (by simp)
    simp only at this; omega
abbrev rdc (rest : List UInt8) (p : Nat × Nat) : List PV := [str rest, .v (.int .i64 (p.1 : Int)), .v (.int .i64 (p.2 : Int))]
def gO (c : UInt8) : List PV := [.v (.int .u8 (c.toNat : Int))]
theorem ky (l : List UInt8) : jt (bs l) = l.map gO := rfl
theorem EU {l : List UInt8} {i : Nat} {c : Cap} (k : IntKind) (h : i < l.length) : cc Tryz.prog 91 (.sl (l.map gO) c) (.v (.int k (i : Int))) = some (.fp (gO l[i]) 0) := by
 rw [HZ]
 have h1 : eM (i : Int) (l.map gO).length = true := by simp [eM, h]
 rw [h1, cond_true, Int.toNat_natCast, List.getElem?_map, cO h]
 rfl
theorem Bj {X : St} {N T Lb b : Nat} (hN : X.stk.length = N) (hT : X.tk.length = T) (hL : X.lp.length = Lb) (hb : b < N) {rest t : List UInt8} {p : Nat × Nat} (hp : 1 ≤ p.2) (h1 : p.1 + t.length < 4611686018427387904) (h2 : p.2 + t.length < 4611686018427387904) :
 ∀ (suf pre : List UInt8), t = pre ++ suf →
  itE (vE.b0 (E L) itE N Lb) [.ptr false b 0, str t, .sl (t.map gO) .dead, .v (.int .i64 (t.length : Int)), .v (.int .i64 (pre.length : Int))] ((X.af false b (rdc rest (adv pre p))).app [] [] []) =
   some (.exit 0, [.ptr false b 0, str t, .sl (t.map gO) .dead, .v (.int .i64 (t.length : Int)), .v (.int .i64 (t.length : Int))], (X.af false b (rdc rest (adv t p))).app [] [] []) := by
 intro suf
 induction suf with
 | nil =>
  intro pre ht
  have ht : t = pre := by simpa using ht
  subst ht; apply ft; simp [vE.b0, hN, hT, hL]
 | cons c suf ih =>
  intro pre ht
  have ht' : t = (pre ++ [c]) ++ suf := by simp [ht]
  have hl : pre.length < t.length := by rw [ht]; simp
  have hg : t[pre.length] = c := by simp [ht]
  have hb1 := rD pre p hp; have w0 : IntKind.i64.wrap ((pre.length : Int) + 1) = (pre.length : Int) + 1 := IntWalk.i64_in _ (by omega); have w1 : IntKind.i64.wrap (((adv pre p).1 : Int) + 1) = ((adv pre p).1 : Int) + 1 := IntWalk.i64_in _ (by omega); have w2 : IntKind.i64.wrap (((adv pre p).2 : Int) + 1) = ((adv pre p).2 : Int) + 1 := IntWalk.i64_in _ (by omega); have hi := EU (l := t) (c := .dead) .i64 hl; rw [hg] at hi
  have ha : adv (pre ++ [c]) p = if c = 10 then ((adv pre p).1 + 1, 1) else ((adv pre p).1, (adv pre p).2 + 1) := by rw [jj]; rfl
  have ih := ih (pre ++ [c]) ht'; rw [ha] at ih
  have hlt : (pre.length : Int) < (t.length : Int) := by omega
  by_cases hc : c = 10
  · subst hc
    rw [bQ (vs' := [.ptr false b 0, str t, .sl (t.map gO) .dead, .v (.int .i64 (t.length : Int)), .v (.int .i64 ((pre ++ [(10 : UInt8)]).length : Int))]) (st' := (X.af false b (rdc rest ((adv pre p).1 + 1, 1))).app [] [] [])]
    · simpa using ih
    · simp [vE.b0, hN, hT, hL, hb, hlt, hi, gO, rdc, w0, w1, w2]
  · have hc' : ¬ ((c.toNat : Int) = 10) := fun h => hc (UInt8.toNat_inj.1 (by simpa using Int.ofNat_inj.1 h))
    rw [bQ (vs' := [.ptr false b 0, str t, .sl (t.map gO) .dead, .v (.int .i64 (t.length : Int)), .v (.int .i64 ((pre ++ [c]).length : Int))]) (st' := (X.af false b (rdc rest ((adv pre p).1, (adv pre p).2 + 1))).app [] [] [])]
    · rw [if_neg hc] at ih
      exact ih
    · simp [vE.b0, hN, hT, hL, hb, hlt, hi, gO, rdc, w0, w1, w2, hc']
theorem DM {s : St} {b n : Nat} {rest : List UInt8} {p : Nat × Nat} (hb : b < s.stk.length) (hn : n ≤ rest.length) (hp : 1 ≤ p.2) (h1 : p.1 + rest.length < 4611686018427387904) (h2 : p.2 + rest.length < 4611686018427387904) :
 E L (.func 111) [.ptr false b 0, .v (.int .i64 (n : Int))] (s.af false b (rdc rest p)) = some (str (rest.take n), s.af false b (rdc (rest.drop n) (adv (rest.take n) p))) := by
 rw [D5]; obtain ⟨N, T, Lb, hN, hT, hL⟩ := lens3 s; rw [hN] at hb
 conv => lhs; rw [← al (s.af false b (rdc rest p))]
 have hl : (rest.take n).length ≤ rest.length := by simp; omega
 have h := Bj hN hT hL hb (rest := rest.drop n) (t := rest.take n) hp (by omega) (by omega) (rest.take n) [] rfl; simp only [adv, aD] at h; have e1 := Dm (l := rest) .i64 hn; have e2 := Dp (l := rest) .i64 hn; generalize rest.take n = t at h e1 ⊢; generalize rest.drop n = r at h e2 ⊢; simp only [rdc, eB] at h; simp [vE, hN, hT, hL, hb, rdc, e1, e2, lH, ky, ss, h]
theorem contains_nil (sub : List UInt8) : Lib.contains [] sub = sub.isEmpty := by
 cases sub <;> simp [Lib.contains, Lib.index]
theorem index_ge (sub : List UInt8) : ∀ l : List UInt8, -1 ≤ Lib.index l sub
 | [] => by simp only [Lib.index]; split <;> omega
 | b :: l => by
  have ih := index_ge sub l; simp only [Lib.index]; split
  · omega
  · split
    · omega
    · omega
theorem contains_cons (b : UInt8) (l sub : List UInt8) : Lib.contains (b :: l) sub = (sub.isPrefixOf (b :: l) || Lib.contains l sub) := by
 have h := index_ge sub l; simp only [Lib.contains, Lib.index]
 by_cases h1 : sub.isPrefixOf (b :: l) = true
 · simp [h1]
 · simp only [h1, ae, if_false, Bool.false_or]
   by_cases h2 : Lib.index l sub = -1
   · simp [h2]
   · have : (Lib.index l sub == -1) = false := by simpa using h2
     rw [this]; simp only [ae, if_false, decide_eq_decide]; omega
def iU : List (List UInt8) → List UInt8
 | [] => []
 | w :: ws => w ++ 32 :: iU ws
theorem CY {s w : List UInt8} {R : List UInt8} (hs : ∀ c ∈ s, c ≠ 32) (hw : ∀ c ∈ w, c ≠ 32) : (s ++ [32]).isPrefixOf (w ++ 32 :: R) = decide (s = w) := by
 induction s generalizing w with
 | nil =>
  cases w with
  | nil => simp
  | cons c w =>
   have : c ≠ 32 := hw c (by simp); simp [ef, Ne.symm this]
 | cons a s ih =>
  have ha : a ≠ 32 := hs a (by simp)
  cases w with
  | nil => simp [ef, ha]
  | cons c w =>
   have := ih (w := w) (fun c h => hs c (by simp [h])) (fun c h => hw c (by simp [h])); simp only [aA, ef, this, List.cons.injEq]
   by_cases hac : a = c <;> simp [hac]
theorem tm {s w R : List UInt8} (hw : ∀ c ∈ w, c ≠ 32) : Lib.contains (w ++ 32 :: R) (32 :: s) = Lib.contains (32 :: R) (32 :: s) := by
 induction w with
 | nil => rfl
 | cons c w ih =>
  have hc : c ≠ 32 := hw c (by simp); rw [aA, contains_cons, ih fun c h => hw c (by simp [h])]; simp [ef, Ne.symm hc]
theorem kz {s : List UInt8} (hs : ∀ c ∈ s, c ≠ 32) : ∀ ws : List (List UInt8), (∀ w ∈ ws, ∀ c ∈ w, c ≠ 32) → Lib.contains (32 :: iU ws) (32 :: (s ++ [32])) = ws.contains s
 | [], _ => by
  rw [contains_cons, iU, contains_nil]
  cases s <;> simp [ef]
 | w :: ws, h => by
  have hw := h w (by simp); rw [contains_cons, iU, tm hw, kz hs ws fun w hw => h w (by simp [hw])]; simp only [ef, beq_self_eq_true, bm, CY hs hw, List.contains_cons, Bool.beq_eq_decide_eq]
theorem uU (l : List UInt8) (c : UInt8) : Lib.contains l [c] = l.contains c := by
 induction l with
 | nil => rfl
 | cons b l ih =>
  rw [contains_cons, ih, List.contains_cons]; simp [ef]
theorem uA {a b : List UInt8} (h : a.length < 4294967281) (st : St) : E L (.func 169) [str a, str b] st = some (.v (.bool (Lib.contains a b)), st) := by
 rw [rL (L := L) (f := 169) (g := jB lQ) (by kernel_rfl)]; simp [AM.jB, AM.lE, AM.valOf, lQ, cq, h, nF, ji, lY]
def iy : List (List UInt8) := [[114, 101, 99, 111, 114, 100], [103, 108, 111, 98, 97, 108], [102, 117, 110], [116, 104, 114, 101, 97, 100], [108, 101, 116], [118, 97, 114], [115, 101, 116], [112, 114, 105, 110, 116], [105, 102], [101, 108, 115, 101], [108, 111, 111, 112], [98, 114, 101, 97, 107], [99, 111, 110, 116, 105, 110, 117, 101], [97, 116, 111, 109, 105, 99], [99, 97, 108, 108], [108, 111, 97, 100], [110, 101, 119], [115, 105, 122, 101], [105, 110, 116], [114, 101, 97, 108], [105, 110, 116, 115], [110, 105, 108], [105, 110, 112, 117, 116], [116, 114, 117, 110, 99]]
def ix (l : List UInt8) : Bool := iy.contains l
theorem ux : ∀ w ∈ iy, (∀ c ∈ w, c ≠ 32) ∧ w ≠ [] := by decide
theorem yB : ([32, 114, 101, 99, 111, 114, 100, 32, 103, 108, 111, 98, 97, 108, 32, 102, 117, 110, 32, 116, 104, 114, 101, 97, 100, 32, 108, 101, 116, 32, 118, 97, 114, 32, 115, 101, 116, 32, 112, 114, 105, 110, 116, 32, 105, 102, 32, 101, 108, 115, 101, 32, 108, 111, 111, 112, 32, 98, 114, 101, 97, 107, 32, 99, 111, 110, 116, 105, 110, 117, 101, 32, 97, 116, 111, 109, 105, 99, 32, 99, 97, 108, 108, 32, 108, 111, 97, 100, 32, 110, 101, 119, 32, 115, 105, 122, 101, 32, 105, 110, 116, 32, 114, 101, 97, 108, 32, 105, 110, 116, 115, 32, 110, 105, 108, 32, 105, 110, 112, 117, 116, 32, 116, 114, 117, 110, 99, 32] : List UInt8) = 32 :: iU iy := by decide
theorem BD : (32 :: iU iy).length = 128 := by decide
theorem BC (l : List UInt8) : ix l = (!decide (l = []) && !l.contains 32 && Lib.contains (32 :: iU iy) (32 :: (l ++ [32]))) := by
 by_cases h0 : l = []
 · subst h0; simp [ix]; decide
 by_cases h1 : l.contains 32 = true
 · have : ix l = false := by
    cases h : ix l with
    | false => rfl
    | true =>
     have hm : l ∈ iy := by simpa [ix] using h
     have hc : (32 : UInt8) ∈ l := by simpa using h1
     exact absurd rfl ((ux l hm).1 32 hc)
   have hm1 : (32 : UInt8) ∈ l := by simpa using h1
   simp [this, hm1]
 · have h2 : ∀ c ∈ l, c ≠ 32 := fun c hc e => h1 (by subst e; simpa using hc)
   rw [kz h2 iy fun w hw => (ux w hw).1]
   have hm1 : (32 : UInt8) ∉ l := by simpa using h1
   simp [ix, h0, hm1]
theorem yM {l : List UInt8} (h : l.length < 2147483648) (st : St) : E L (.func 146) [str l] st = some (.v (.bool (ix l)), st) := by
 rw [Em]; obtain ⟨N, T, Lb, hN, hT, hL⟩ := lens3 st
 conv => lhs; rw [← al (st)]
 have e1 : ∀ X : St, E L (.func 169) [str l, str [32]] X = some (.v (.bool (l.contains 32)), X) := fun X => by rw [uA (by omega), uU]
 have e2 : ∀ X : St, E L (.func 169) [str (32 :: iU iy), str (32 :: (l ++ [32]))] X = some (.v (.bool (Lib.contains (32 :: iU iy) (32 :: (l ++ [32])))), X) := fun X => by rw [uA (by rw [BD]; omega)]
 have e3 : aH Tryz.prog true .add 9 (str [32]) (str l) = some (str (32 :: l)) := by rw [rK _ _ _ _ _ (by simp [cq]; omega), nV]; rfl
 have e4 : aH Tryz.prog true .add 9 (str (32 :: l)) (str [32]) = some (str (32 :: (l ++ [32]))) := by rw [rK _ _ _ _ _ (by simp [cq]; omega), nV]; rfl
 have e5 : (bs l = bs []) = (l = []) := propext eo; rw [BC]
 by_cases h0 : l = [] <;> cases h1 : l.contains 32 <;> simp only [HE, fw, aR, yB, cY, cu, bV, bW, cv, dS, fk, dY, dh, dW, dc, dX, de, fj, bX, gU, dR, gW, gK, gE, AM.ab, aL, aM, ag, aY, aN, ay, AM.onG, fK, bF, dF, Ex.ba, cond_true, cond_false, cU, cT, cS, cR, cQ, cW, cP, cX, cV, dZ, di, dj, cr, cZ, AM.du, AM.cellsOf, AM.ao, bE, beq_true, dm, ai, aD, bh, bu, bP, decide_true, decide_false, bC, bm, bn, bA, bf, aB, az, bg, aA, da, db, fg, aw, bB, bj, bM, cw, dQ, dU, cI, eu, ep, set_set, eD, dA, fE, dB, cF, bG, dz, cE, dy, cD, dx, eC, eE, fA, fB, bK, cq, eo, fw, ed, aV, hN, hT, hL, aR, aF, AM.aQ, ah, dt, bU, aZ, bc, aJ, aI, AM.part, aO, aK, bY, cg, cf, cn, cn.eS, AM.dL, bq, bT, e1, e2, e3, e4, h0, h1]
 all_goals rfl
def qB (c : UInt8) : Bool := oo (c.toNat : Int)
def jP (c : UInt8) : Bool := rY (c.toNat : Int)
def cd (c : UInt8) : Bool := qB c || jP c
def tv (i : Nat) (c : UInt8) : Bool := qB c || (!decide (i = 0) && jP c)
def mS : List UInt8 → Bool
 | [] => true
 | c :: r => qB c && r.all cd
def lg (l : List UInt8) : Bool := !decide (l = []) && mS l && !ix l
theorem qF (l : List UInt8) : mS l = true ↔ ∀ i (h : i < l.length), tv i l[i] = true := by
 cases l with
 | nil => simp [mS]
 | cons c r =>
  simp only [mS, an, dH]
  constructor
  · rintro ⟨h1, h2⟩ i hi
    cases i with
    | zero => simp [tv, h1]
    | succ i =>
     have := h2 (r[i]'(by simpa using hi)) (List.getElem_mem _); simpa [tv, cd] using this
  · intro h
    refine ⟨by have := h 0 (by simp); rw [List.getElem_cons_zero] at this; simpa [tv] using this, fun x hx => ?_⟩; obtain ⟨i, hi, rfl⟩ := List.mem_iff_getElem.1 hx; have := h (i + 1) (by simpa using hi); rw [List.getElem_cons_succ] at this; simpa [tv, cd] using this
theorem kL {n : Int} (h : 128 ≤ n) : oo n = false := by simp [oo]; omega
theorem kB {n : Int} (h : 128 ≤ n) : rY n = false := by simp [rY]; omega
theorem AP {l : List UInt8} (hlen : l.length < 4611686018427387904) {X : St} {N T Lb : Nat} (hN : X.stk.length = N) (hT : X.tk.length = T) (hL : X.lp.length = Lb) : ∀ (k pos : Nat), l.length - pos = k → pos ≤ l.length → (∀ j (hj : j < l.length), j < pos → tv j l[j] = true) →
 ∃ pos', itE (o7.b0 (E L) itE N Lb) [str l, .v (.bool false), .it Lb] (X.app [] [] [.iter (bs l) pos]) = some (bif mS l then .exit 0 else .ret, [str l, .v (.bool false), .it Lb], X.app [] [] [.iter (bs l) pos']) := by
 intro k
 induction k using Nat.strongRecOn with
 | ind k ih =>
 intro pos hk hp hall
 by_cases hlt : pos < l.length
 · by_cases hb : l[pos].toNat < 128
   · have hd := AM.decode_ascii hlt hb
     have h0 : ((pos : Int) = 0) = (pos = 0) := propext (by omega)
     by_cases hq : tv pos l[pos] = true
     · obtain ⟨pos', h1⟩ := ih (l.length - (pos + 1)) (by omega) (pos + 1) rfl (by omega) (fun j hj hj' => by
        by_cases hjp : j = pos
        · subst hjp; exact hq
        · exact hall j hj (by omega))
       refine ⟨pos', ?_⟩; rw [bQ (vs' := [str l, .v (.bool false), .it Lb]) (st' := X.app [] [] [.iter (bs l) (pos + 1)])]
       · exact h1
       · simp only [tv, qB, jP] at hq
         cases hl : oo (l[pos].toNat : Int) with
         | true => simp [o7.b0, hN, hT, hL, hlt, hd, iN, iO, hl]
         | false =>
          rw [hl] at hq; simp only [Bool.false_or, an, Bool.not_eq_true', decide_eq_false_iff_not] at hq; simp [o7.b0, hN, hT, hL, hlt, hd, iN, iO, hl, h0, hq.1, hq.2]
     · have hn : mS l = false := by
        cases h : mS l with
        | false => rfl
        | true => exact absurd ((qF l).1 h pos hlt) hq
       refine ⟨pos + 1, ?_⟩; rw [hn, cond_false]; apply eF; simp only [tv, qB, jP, iQ, not_or, Bool.not_eq_true] at hq
       by_cases hz : pos = 0
       · subst hz
         simp [o7.b0, hN, hT, hL, hlt, hd, iN, iO, hq.1]
       · have hq2 := hq.2
         simp only [hz, decide_false, bf, bm] at hq2; simp [o7.b0, hN, hT, hL, hlt, hd, iN, iO, hq.1, h0, hz, hq2]
   · have hb' : 128 ≤ l[pos].toNat := by omega
     obtain ⟨hh1, hh2, hh3, hh4, hh5⟩ := AM.decode_high hlt hb'
     have hn : mS l = false := by
      cases h : mS l with
      | false => rfl
      | true =>
       have := (qF l).1 h pos hlt; simp [tv, qB, jP, kL (show (128 : Int) ≤ (l[pos].toNat : Int) by omega), kB (show (128 : Int) ≤ (l[pos].toNat : Int) by omega)] at this
     refine ⟨pos + (Utf8.decode (bs l) pos).2, ?_⟩; rw [hn, cond_false]; apply eF; have e1 := kL (show (128 : Int) ≤ ((Utf8.decode (bs l) pos).1 : Int) by omega); have e2 := kB (show (128 : Int) ≤ ((Utf8.decode (bs l) pos).1 : Int) by omega); have h0 : ((pos : Int) = 0) = (pos = 0) := propext (by omega)
     by_cases hz : pos = 0
     · subst hz
       simp [o7.b0, hN, hT, hL, hlt, iN, iO, e1, e2]
     · simp [o7.b0, hN, hT, hL, hlt, iN, iO, e1, e2, h0, hz]
 · have hn : mS l = true := (qF l).2 fun i hi => hall i hi (by omega)
   refine ⟨pos, ?_⟩; rw [hn, cond_true]; apply ft; simp [o7.b0, hN, hT, hL, hlt]
theorem DV {l : List UInt8} (h : l.length < 2147483648) (st : St) : E L (.func 147) [str l] st = some (.v (.bool (lg l)), st) := by
 rw [En]; obtain ⟨N, T, Lb, hN, hT, hL⟩ := lens3 st
 conv => lhs; rw [← al (st)]
 have hr : ∀ X : St, X.lp.length = Lb → nc Tryz.prog 9 (str l) (X.app [] [] []) = some (.it Lb, X.app [] [] [.iter (bs l) 0]) := fun X h => zN [] [] [] (by kernel_rfl) (bs l) h
 obtain ⟨pos', h1⟩ := AP (l := l) (by omega) hN hT hL l.length 0 rfl (by omega) (fun j hj h => absurd h (by omega))
 have hw : ∀ X : St, E L (.func 146) [str l] X = some (.v (.bool (ix l)), X) := yM h
 cases hn : mS l with
 | true =>
  rw [hn, cond_true] at h1
  by_cases h0 : l = []
  · subst h0
    simp [o7, hN, hT, hL, hr, h1, lg]
  · simp [o7, hN, hT, hL, hr, h1, lg, h0, hn, hw]
 | false =>
  rw [hn, cond_false] at h1; simp [o7, hN, hT, hL, hr, h1, lg, hn]
end Go.Proofs.YtlhlijaondmccaaGreatDoor.S
