/- Part 4 of the proof of a law of the parser, its names made short by a program. No condition. -/
import Derived.Test.YtlhlijaondmccaaGreatDoorH3
import Derived.KernelRfl
import Derived.Test.YtlhlijaondmccaaGreatDoorProg
import Derived.Shelf.Small.Utf8
import Derived.Shelf.Small.Strs
import Derived.Shelf.Strconv.Itoa0
import Derived.Shelf.Strconv.Itoa1
import Derived.Shelf.LaysM
import Derived.Shelf.Strconv.Itoa2
import Derived.Shelf.Strconv.Itoa3
import Derived.Shelf.Strconv.Clone
import Derived.Shelf.Strconv.SyntaxError
import Derived.Shelf.LaysC
import Derived.Shelf.Strconv.ToError
import Derived.Shelf.Strconv.RangeError
import Derived.Shelf.Strconv.ToErrorRange
import Derived.Shelf.Strings.Search1
import Derived.Shelf.Strings.Search2
import Derived.Shelf.Strings.Search3
import Derived.Shelf.Strings.Shaped
import Derived.Shelf.Strings.Runes
import Derived.Shelf.Strings.IndexAny
import Derived.Shelf.Strings.AsciiSet
import Derived.Shelf.Strings.IndexAnyAll
import Derived.Test.YtlhlijaondmccaaGreatDoorChecked
import Derived.Lib.Walk
import Derived.Lib.ItoaMem
import Derived.Lib.QuietBelow
import Derived.WalkKit
import Derived.ProofKit
import Derived.BigCall
import Derived.BigGuard
import Derived.Below
import Derived.WalkSmall
set_option linter.all false
set_option maxRecDepth 100000
set_option maxHeartbeats 4000000
open _root_.Array renaming getElem?_toList → gV
open _root_.Bool renaming and_self → br, and_true → bI, not_false → bg, not_true → bD, true_and → bn
open _root_.List renaming all_cons → bu, all_eq_true → dK, all_nil → bV, cons_append → aD, drop_nil → cc, drop_succ_cons → aM, drop_zero → aQ, getD_cons_succ → aN, getD_cons_zero → aO, getElem?_cons_succ → aA, getElem?_cons_zero → aB, length_cons → ag, length_nil → aC, map_cons → aW, map_nil → bc, mem_of_getElem? → eN, modify_succ_cons → aK, modify_zero_cons → aL, nil_append → bh, take_left → bE, take_nil → bR, take_succ_cons → av, take_zero → aY, toList_toArray → aT
open _root_.Nat renaming add_zero → bx, beq → ak, eq_of_beq_eq_true → ax, le_refl → ao, reduceAdd → bU, zero_add → bj
open _root_.Option renaming bind_none → bf, bind_some → ah, map_some → aP
namespace Go.Proofs.YtlhlijaondmccaaGreatDoor.S
open Go Go.AM Go.Proofs
noncomputable def S50.b1 (call : bA) (it : bG) (base lb : Nat) (vs110 : List PV) (st111 : St) : Option (Ex × List PV × St) :=
(call (.func 75) [ai (aa vs110 0), ai (PV.v (.string ⟨#[44]⟩))] st111).bind fun r112 =>
aw r112.1 fun b113 => (bif b113 then
some (Ex.normal, [(aa vs110 0), (aa vs110 1), (aa vs110 2)], r112.2)
else
some ((Ex.exit 2), [(aa vs110 0), (aa vs110 1), (aa vs110 2)], r112.2)).bind fun r114 =>
bH r114.1 ((an (aa r114.2.1 2) 1).bind fun p116 =>
(aj false 1 p116 r114.2.2).bind fun p117 =>
bq (r114.2.2 = r114.2.2) <|
(call (.func 78) [ai (aa r114.2.1 0)] r114.2.2).bind fun r118 =>
bq (((aj false 1 p116 r118.2).bind fun p119 =>
some (Rs.ret p119, r118.2)) = some (Rs.ret p117, r118.2)) <|
(aF 5 [.v (.string ⟨#[]⟩), .v (.int .i64 0), .v (.string ⟨#[]⟩), .v (.int .i64 0), .v (.int .i64 0)] 1 [(0, r118.1)]).bind fun p120 =>
(bM r118.2 p120).bind fun ys121 =>
(cj base [.v (.string ⟨#[]⟩), .v (.int .i64 0), .v (.string ⟨#[]⟩), .v (.int .i64 0), .v (.int .i64 0)] 5 56 p117 ys121 r118.2).bind fun r122 =>
(an (aa r114.2.1 2) 1).bind fun p123 =>
(au base 1 p123 r122.1 r122.2).bind fun st124 =>
some (Ex.normal, [(aa r114.2.1 0), (aa r114.2.1 1), (aa r114.2.1 2)], st124)) fun x115 =>
some (x115, [(aa r114.2.1 0), (aa r114.2.1 1), (aa r114.2.1 2)], r114.2.2)
noncomputable def vQ.b0 (call : bA) (it : bG) (base lb : Nat) (vs15 : List PV) (st16 : St) : Option (Ex × List PV × St) :=
(aJ Tryz.prog false .lss 3 (aa vs15 4) (aa vs15 3)).bind fun p17 =>
aw p17 fun b18 => (bif b18 then
some (Ex.normal, [(aa vs15 0), (aa vs15 1), (aa vs15 2), (aa vs15 3), (aa vs15 4)], st16)
else
some ((Ex.exit 0), [(aa vs15 0), (aa vs15 1), (aa vs15 2), (aa vs15 3), (aa vs15 4)], st16)).bind fun r19 =>
bH r19.1 ((bJ Tryz.prog 91 (aa r19.2.1 2) (aa r19.2.1 4)).bind fun p21 =>
(aj false 1 p21 r19.2.2).bind fun p22 =>
(aI (aa r19.2.1 0)).bind fun p23 =>
(an p23 2).bind fun p24 =>
(aj false 1 p24 r19.2.2).bind fun p25 =>
(aJ Tryz.prog true .add 3 p25 (PV.v (.int .i64 1))).bind fun p26 =>
(aI (aa r19.2.1 0)).bind fun p27 =>
(an p27 2).bind fun p28 =>
(au base 1 p28 p26 r19.2.2).bind fun st29 =>
(aJ Tryz.prog true .eql 5 p22 (PV.v (.int .u8 10))).bind fun p30 =>
aw p30 fun b31 => (bif b31 then
(aI (aa r19.2.1 0)).bind fun p33 =>
(an p33 1).bind fun p34 =>
(aj false 1 p34 st29).bind fun p35 =>
(aJ Tryz.prog true .add 3 p35 (PV.v (.int .i64 1))).bind fun p36 =>
(aI (aa r19.2.1 0)).bind fun p37 =>
(an p37 1).bind fun p38 =>
(au base 1 p38 p36 st29).bind fun st39 =>
(aI (aa r19.2.1 0)).bind fun p40 =>
(an p40 2).bind fun p41 =>
(au base 1 p41 (PV.v (.int .i64 1)) st39).bind fun st42 =>
some (Ex.normal, [(aa r19.2.1 0), (aa r19.2.1 1), (aa r19.2.1 2), (aa r19.2.1 3), (aa r19.2.1 4)], st42)
else
some (Ex.normal, [(aa r19.2.1 0), (aa r19.2.1 1), (aa r19.2.1 2), (aa r19.2.1 3), (aa r19.2.1 4)], st29)).bind fun r32 =>
bH (Ex.ba 1 r32.1) ((aJ Tryz.prog true .add 3 (aa r32.2.1 4) (PV.v (.int .i64 1))).bind fun p44 =>
some (Ex.normal, [(aa r32.2.1 0), (aa r32.2.1 1), (aa r32.2.1 2), (aa r32.2.1 3), p44], r32.2.2)) fun x43 =>
some (x43, [(aa r32.2.1 0), (aa r32.2.1 1), (aa r32.2.1 2), (aa r32.2.1 3), (aa r32.2.1 4)], r32.2.2)) fun x20 =>
some (x20, [(aa r19.2.1 0), (aa r19.2.1 1), (aa r19.2.1 2), (aa r19.2.1 3), (aa r19.2.1 4)], r19.2.2)
noncomputable def vQ (call : bA) (it : bG) (a0 a1 : PV) (st : St) : Option (PV × St) :=
(aI a0).bind fun p1 =>
(an p1 0).bind fun p2 =>
(aj false 1 p2 st).bind fun p3 =>
(fW Tryz.prog 9 p3 none (some a1) none).bind fun p4 =>
(aI a0).bind fun p5 =>
(an p5 0).bind fun p6 =>
(aj false 1 p6 st).bind fun p7 =>
(fW Tryz.prog 9 p7 (some a1) none none).bind fun p8 =>
(aI a0).bind fun p9 =>
(an p9 0).bind fun p10 =>
(au st.stk.length 1 p10 p8 st).bind fun st11 =>
(fw Tryz.prog 9 91 p4).bind fun p12 =>
(eV Tryz.prog 91 p12).bind fun p13 =>
(it (vQ.b0 call it st.stk.length st.lp.length) [a0, p4, p12, p13, (PV.v (.int .i64 0))] st11).bind fun r14 =>
bH (Ex.ba 0 r14.1) (fin st.stk.length st.tk.length st.lp.length [(aa r14.2.1 1)] r14.2.2) fun x45 =>
dw x45 (fin st.stk.length st.tk.length st.lp.length [PV.u] r14.2.2)
theorem Em (a0 a1 : PV) (st : St) : E L (.func 111) [a0, a1] st = vQ (E L) itE a0 a1 st := (bF (by kernel_rfl) Tryz.func111 _ _).trans (by kernel_rfl)
noncomputable def se.b0 (call : bA) (it : bG) (base lb : Nat) (vs6 : List PV) (st7 : St) : Option (Ex × List PV × St) :=
(sk (aa vs6 3) st7).bind fun r8 =>
(aS r8.1 0).bind fun p9 =>
aw p9 fun b10 => (bif b10 then
some (Ex.normal, [(aa vs6 0), (aa vs6 1), (aa vs6 2), (aa vs6 3), r8.1], r8.2)
else
some ((Ex.exit 0), [(aa vs6 0), (aa vs6 1), (aa vs6 2), (aa vs6 3), r8.1], r8.2)).bind fun r11 =>
bH r11.1 ((aS (aa r11.2.1 4) 1).bind fun p13 =>
(aS (aa r11.2.1 4) 2).bind fun p14 =>
fR (aa r11.2.1 1) fun g16 caps17 =>
(call g16 ([ai p14] ++ caps17) r11.2.2).bind fun r15 =>
dZ r15 fun p18 st19 =>
(aUn Tryz.prog .not p18).bind fun p20 =>
aw p20 fun b21 => (bif b21 then
some (Ex.ret, [(aa r11.2.1 0), (aa r11.2.1 1), p13, (aa r11.2.1 3)], st19)
else
some (Ex.normal, [(aa r11.2.1 0), (aa r11.2.1 1), (aa r11.2.1 2), (aa r11.2.1 3)], st19)).bind fun r22 =>
some ((Ex.ba 1 r22.1), [(aa r22.2.1 0), (aa r22.2.1 1), (aa r22.2.1 2), (aa r22.2.1 3)], r22.2.2)) fun x12 =>
some (x12, [(aa r11.2.1 0), (aa r11.2.1 1), (aa r11.2.1 2), (aa r11.2.1 3)], r11.2.2)
noncomputable def se (call : bA) (it : bG) (a0 a1 : PV) (st : St) : Option (PV × St) :=
(aI a0).bind fun p1 =>
(an p1 0).bind fun p2 =>
(aj false 1 p2 st).bind fun p3 =>
(nw Tryz.prog 9 p3 st).bind fun r4 =>
(it (se.b0 call it st.stk.length st.lp.length) [a0, a1, (PV.v (.int .i64 0)), r4.1] r4.2).bind fun r5 =>
bH (Ex.ba 0 r5.1) ((aI (aa r5.2.1 0)).bind fun p24 =>
(an p24 0).bind fun p25 =>
(aj false 1 p25 r5.2.2).bind fun p26 =>
(eV Tryz.prog 9 p26).bind fun p27 =>
fin st.stk.length st.tk.length st.lp.length [p27] r5.2.2) fun x23 =>
dw x23 (fin st.stk.length st.tk.length st.lp.length [(aa r5.2.1 2)] r5.2.2)
theorem En (a0 a1 : PV) (st : St) : E L (.func 112) [a0, a1] st = se (E L) itE a0 a1 st := (bF (by kernel_rfl) Tryz.func112 _ _).trans (by kernel_rfl)
noncomputable def HR (call : bA) (it : bG) (a0 a1 : PV) (st : St) : Option (PV × St) :=
(call (.func 144) [ai a0, ai a1] st).bind fun r1 =>
fin st.stk.length st.tk.length st.lp.length [r1.1] r1.2
theorem Ep (a0 a1 : PV) (st : St) : E L (.func 114) [a0, a1] st = HR (E L) itE a0 a1 st := (bF (by kernel_rfl) Tryz.func114 _ _).trans (by kernel_rfl)
noncomputable def S65.b0 (call : bA) (it : bG) (base lb : Nat) (vs2 : List PV) (st3 : St) : Option (Ex × List PV × St) :=
(aI (aa vs2 0)).bind fun p4 =>
(an p4 0).bind fun p5 =>
(aj false 1 p5 st3).bind fun p6 =>
(aJ Tryz.prog true .neq 9 p6 (PV.v (.string ⟨#[]⟩))).bind fun p7 =>
aw p7 fun b8 => (bif b8 then
some (Ex.normal, [(aa vs2 0)], st3)
else
some ((Ex.exit 0), [(aa vs2 0)], st3)).bind fun r9 =>
bH r9.1 ((aI (aa r9.2.1 0)).bind fun p11 =>
(an p11 0).bind fun p12 =>
(aj false 1 p12 r9.2.2).bind fun p13 =>
(call (.func 99) [ai p13, ai (PV.v (.string ⟨#[47, 47]⟩))] r9.2.2).bind fun r14 =>
aw r14.1 fun b15 => (bif b15 then
(call (.func 112) [ai (aa r9.2.1 0), ai (PV.clo (.func 113) [])] r14.2).bind fun r17 =>
(call (.func 111) [ai (aa r9.2.1 0), ai r17.1] r17.2).bind fun r18 =>
some (Ex.normal, [(aa r9.2.1 0)], r18.2)
else
(aI (aa r9.2.1 0)).bind fun p19 =>
(an p19 0).bind fun p20 =>
(aj false 1 p20 r14.2).bind fun p21 =>
(cJ Tryz.prog 9 p21 (PV.v (.int .i64 0))).bind fun p22 =>
(call (.func 114) [ai (PV.v (.string ⟨#[32, 9, 13, 10]⟩)), ai p22] r14.2).bind fun r23 =>
(aJ Tryz.prog true .geq 3 r23.1 (PV.v (.int .i64 0))).bind fun p24 =>
aw p24 fun b25 => (bif b25 then
(call (.func 111) [ai (aa r9.2.1 0), ai (PV.v (.int .i64 1))] r23.2).bind fun r27 =>
some (Ex.normal, [(aa r9.2.1 0)], r27.2)
else
some ((Ex.exit 0), [(aa r9.2.1 0)], r23.2)).bind fun r26 =>
some (r26.1, [(aa r26.2.1 0)], r26.2.2)).bind fun r16 =>
some ((Ex.ba 1 (Ex.ba 2 r16.1)), [(aa r16.2.1 0)], r16.2.2)) fun x10 =>
some (x10, [(aa r9.2.1 0)], r9.2.2)
noncomputable def S65 (call : bA) (it : bG) (a0 : PV) (st : St) : Option (PV × St) :=
(it (S65.b0 call it st.stk.length st.lp.length) [a0] st).bind fun r1 =>
dw (Ex.ba 0 r1.1) (fin st.stk.length st.tk.length st.lp.length [] r1.2.2)
theorem GX (a0 : PV) (st : St) : E L (.func 65) [a0] st = S65 (E L) itE a0 st := (bF (by kernel_rfl) Tryz.func65 _ _).trans (by kernel_rfl)
noncomputable def GD (call : bA) (it : bG) (a0 : PV) (st : St) : Option (PV × St) :=
(aJ Tryz.prog true .eql 21 a0 (PV.v (.int .i32 95))).bind fun p1 =>
(onG p1 false (
some (a0, st)) st).bind fun r3 =>
(onG p1 false (
(aJ Tryz.prog true .geq 21 r3.1 (PV.v (.int .i32 97))).bind fun p6 =>
some (p6, r3.2)) r3.2).bind fun r5 =>
(onG p1 false (
some (r5.1, r5.2)) r5.2).bind fun r8 =>
(onG r8.1 true (
some (a0, r8.2)) r8.2).bind fun r10 =>
(onG r8.1 true (
(aJ Tryz.prog true .leq 21 r10.1 (PV.v (.int .i32 122))).bind fun p13 =>
some (p13, r10.2)) r10.2).bind fun r12 =>
(onG p1 false (
(bQ r8.1 r12.1 (PV.v (.bool false))).bind fun p16 =>
some (p16, r12.2)) r12.2).bind fun r15 =>
(bQ p1 (PV.v (.bool true)) r15.1).bind fun p17 =>
(onG p17 false (
some (a0, r15.2)) r15.2).bind fun r19 =>
(onG p17 false (
(aJ Tryz.prog true .geq 21 r19.1 (PV.v (.int .i32 65))).bind fun p22 =>
some (p22, r19.2)) r19.2).bind fun r21 =>
(onG p17 false (
some (r21.1, r21.2)) r21.2).bind fun r24 =>
(onG r24.1 true (
some (a0, r24.2)) r24.2).bind fun r26 =>
(onG r24.1 true (
(aJ Tryz.prog true .leq 21 r26.1 (PV.v (.int .i32 90))).bind fun p29 =>
some (p29, r26.2)) r26.2).bind fun r28 =>
(onG p17 false (
(bQ r24.1 r28.1 (PV.v (.bool false))).bind fun p32 =>
some (p32, r28.2)) r28.2).bind fun r31 =>
(bQ p17 (PV.v (.bool true)) r31.1).bind fun p33 =>
fin st.stk.length st.tk.length st.lp.length [p33] r31.2
theorem Er (a0 : PV) (st : St) : E L (.func 115) [a0] st = GD (E L) itE a0 st := (bF (by kernel_rfl) Tryz.func115 _ _).trans (by kernel_rfl)
noncomputable def HS (call : bA) (it : bG) (a0 : PV) (st : St) : Option (PV × St) :=
(aJ Tryz.prog true .geq 21 a0 (PV.v (.int .i32 48))).bind fun p1 =>
(onG p1 true (
some (a0, st)) st).bind fun r3 =>
(onG p1 true (
(aJ Tryz.prog true .leq 21 r3.1 (PV.v (.int .i32 57))).bind fun p6 =>
some (p6, r3.2)) r3.2).bind fun r5 =>
(bQ p1 r5.1 (PV.v (.bool false))).bind fun p7 =>
fin st.stk.length st.tk.length st.lp.length [p7] r5.2
theorem Es (a0 : PV) (st : St) : E L (.func 116) [a0] st = HS (E L) itE a0 st := (bF (by kernel_rfl) Tryz.func116 _ _).trans (by kernel_rfl)
noncomputable def HW (call : bA) (it : bG) (a0 : PV) (st : St) : Option (PV × St) :=
(aJ Tryz.prog true .neq 9 a0 (PV.v (.string ⟨#[]⟩))).bind fun p1 =>
(onG p1 true (
some (a0, st)) st).bind fun r3 =>
(onG p1 true (
(call (.func 169) [ai r3.1, ai (PV.v (.string ⟨#[32]⟩))] r3.2).bind fun r6 =>
some (r6.1, r6.2)) r3.2).bind fun r5 =>
(onG p1 true (
(aUn Tryz.prog .not r5.1).bind fun p9 =>
some (p9, r5.2)) r5.2).bind fun r8 =>
(bQ p1 r8.1 (PV.v (.bool false))).bind fun p10 =>
(onG p10 true (
some (a0, r8.2)) r8.2).bind fun r12 =>
(onG p10 true (
(aJ Tryz.prog true .add 9 (PV.v (.string ⟨#[32]⟩)) r12.1).bind fun p15 =>
some (p15, r12.2)) r12.2).bind fun r14 =>
(onG p10 true (
(aJ Tryz.prog true .add 9 r14.1 (PV.v (.string ⟨#[32]⟩))).bind fun p18 =>
some (p18, r14.2)) r14.2).bind fun r17 =>
(onG p10 true (
(call (.func 169) [ai (PV.v (.string ⟨#[32, 114, 101, 99, 111, 114, 100, 32, 103, 108, 111, 98, 97, 108, 32, 102, 117, 110, 32, 116, 104, 114, 101, 97, 100, 32, 108, 101, 116, 32, 118, 97, 114, 32, 115, 101, 116, 32, 112, 114, 105, 110, 116, 32, 105, 102, 32, 101, 108, 115, 101, 32, 108, 111, 111, 112, 32, 98, 114, 101, 97, 107, 32, 99, 111, 110, 116, 105, 110, 117, 101, 32, 97, 116, 111, 109, 105, 99, 32, 99, 97, 108, 108, 32, 108, 111, 97, 100, 32, 110, 101, 119, 32, 115, 105, 122, 101, 32, 105, 110, 116, 32, 114, 101, 97, 108, 32, 105, 110, 116, 115, 32, 110, 105, 108, 32, 105, 110, 112, 117, 116, 32, 116, 114, 117, 110, 99, 32]⟩)), ai r17.1] r17.2).bind fun r21 =>
some (r21.1, r21.2)) r17.2).bind fun r20 =>
(bQ p10 r20.1 (PV.v (.bool false))).bind fun p22 =>
fin st.stk.length st.tk.length st.lp.length [p22] r20.2
theorem EF (a0 : PV) (st : St) : E L (.func 146) [a0] st = HW (E L) itE a0 st := (bF (by kernel_rfl) Tryz.func146 _ _).trans (by kernel_rfl)
noncomputable def pr.b0 (call : bA) (it : bG) (base lb : Nat) (vs3 : List PV) (st4 : St) : Option (Ex × List PV × St) :=
(sk (aa vs3 2) st4).bind fun r5 =>
(aS r5.1 0).bind fun p6 =>
aw p6 fun b7 => (bif b7 then
some (Ex.normal, [(aa vs3 0), (aa vs3 1), (aa vs3 2), r5.1], r5.2)
else
some ((Ex.exit 0), [(aa vs3 0), (aa vs3 1), (aa vs3 2), r5.1], r5.2)).bind fun r8 =>
bH r8.1 ((aS (aa r8.2.1 3) 1).bind fun p10 =>
(aS (aa r8.2.1 3) 2).bind fun p11 =>
(call (.func 115) [ai p11] r8.2.2).bind fun r12 =>
(aUn Tryz.prog .not r12.1).bind fun p13 =>
(onG p13 true (
some (p10, r12.2)) r12.2).bind fun r15 =>
(onG p13 true (
(aJ Tryz.prog true .eql 3 r15.1 (PV.v (.int .i64 0))).bind fun p18 =>
some (p18, r15.2)) r15.2).bind fun r17 =>
(onG p13 true (
some (r17.1, r17.2)) r17.2).bind fun r20 =>
(onG r20.1 false (
some (p11, r20.2)) r20.2).bind fun r22 =>
(onG r20.1 false (
(call (.func 116) [ai r22.1] r22.2).bind fun r25 =>
some (r25.1, r25.2)) r22.2).bind fun r24 =>
(onG r20.1 false (
(aUn Tryz.prog .not r24.1).bind fun p28 =>
some (p28, r24.2)) r24.2).bind fun r27 =>
(onG p13 true (
(bQ r20.1 (PV.v (.bool true)) r27.1).bind fun p31 =>
some (p31, r27.2)) r27.2).bind fun r30 =>
(bQ p13 r30.1 (PV.v (.bool false))).bind fun p32 =>
aw p32 fun b33 => (bif b33 then
some (Ex.ret, [(aa r8.2.1 0), (PV.v (.bool false)), (aa r8.2.1 2)], r30.2)
else
some (Ex.normal, [(aa r8.2.1 0), (aa r8.2.1 1), (aa r8.2.1 2)], r30.2)).bind fun r34 =>
some ((Ex.ba 1 r34.1), [(aa r34.2.1 0), (aa r34.2.1 1), (aa r34.2.1 2)], r34.2.2)) fun x9 =>
some (x9, [(aa r8.2.1 0), (aa r8.2.1 1), (aa r8.2.1 2)], r8.2.2)
noncomputable def pr (call : bA) (it : bG) (a0 : PV) (st : St) : Option (PV × St) :=
(nw Tryz.prog 9 a0 st).bind fun r1 =>
(it (pr.b0 call it st.stk.length st.lp.length) [a0, (PV.v (.bool false)), r1.1] r1.2).bind fun r2 =>
bH (Ex.ba 0 r2.1) ((aJ Tryz.prog true .neq 9 (aa r2.2.1 0) (PV.v (.string ⟨#[]⟩))).bind fun p36 =>
(onG p36 true (
some ((aa r2.2.1 0), r2.2.2)) r2.2.2).bind fun r38 =>
(onG p36 true (
(call (.func 146) [ai r38.1] r38.2).bind fun r41 =>
some (r41.1, r41.2)) r38.2).bind fun r40 =>
(onG p36 true (
(aUn Tryz.prog .not r40.1).bind fun p44 =>
some (p44, r40.2)) r40.2).bind fun r43 =>
(bQ p36 r43.1 (PV.v (.bool false))).bind fun p45 =>
fin st.stk.length st.tk.length st.lp.length [p45] r43.2) fun x35 =>
dw x35 (fin st.stk.length st.tk.length st.lp.length [(aa r2.2.1 1)] r2.2.2)
theorem EG (a0 : PV) (st : St) : E L (.func 147) [a0] st = pr (E L) itE a0 st := (bF (by kernel_rfl) Tryz.func147 _ _).trans (by kernel_rfl)
noncomputable def HY (call : bA) (it : bG) (a0 : PV) (st : St) : Option (PV × St) :=
(aJ Tryz.prog true .or 5 a0 (PV.v (.int .u8 32))).bind fun p1 =>
fin st.stk.length st.tk.length st.lp.length [p1] st
theorem EK (a0 : PV) (st : St) : E L (.func 177) [a0] st = HY (E L) itE a0 st := (bF (by kernel_rfl) Tryz.func177 _ _).trans (by kernel_rfl)
noncomputable def jg.b0 (call : bA) (it : bG) (base lb : Nat) (vs107 : List PV) (st108 : St) : Option (Ex × List PV × St) :=
(aJ Tryz.prog false .lss 3 (aa vs107 11) (aa vs107 10)).bind fun p109 =>
aw p109 fun b110 => (bif b110 then
some (Ex.normal, [(aa vs107 0), (aa vs107 1), (aa vs107 2), (aa vs107 3), (aa vs107 4), (aa vs107 5), (aa vs107 6), (aa vs107 7), (aa vs107 8), (aa vs107 9), (aa vs107 10), (aa vs107 11)], st108)
else
some ((Ex.exit 3), [(aa vs107 0), (aa vs107 1), (aa vs107 2), (aa vs107 3), (aa vs107 4), (aa vs107 5), (aa vs107 6), (aa vs107 7), (aa vs107 8), (aa vs107 9), (aa vs107 10), (aa vs107 11)], st108)).bind fun r111 =>
bH r111.1 ((bJ Tryz.prog 91 (aa r111.2.1 9) (aa r111.2.1 11)).bind fun p113 =>
(aj false 1 p113 r111.2.2).bind fun p114 =>
(aJ Tryz.prog true .eql 5 p114 (PV.v (.int .u8 95))).bind fun p115 =>
(onG p115 true (
some ((aa r111.2.1 3), r111.2.2)) r111.2.2).bind fun r117 =>
(bQ p115 r117.1 (PV.v (.bool false))).bind fun p118 =>
aw p118 fun b119 => (bif b119 then
some ((Ex.exit 4), [(aa r111.2.1 0), (aa r111.2.1 1), (aa r111.2.1 2), (aa r111.2.1 3), (aa r111.2.1 4), (aa r111.2.1 5), (aa r111.2.1 6), (PV.v (.bool true)), (aa r111.2.1 8), (PV.v (.int .u8 0)), (aa r111.2.1 9), (aa r111.2.1 10), (aa r111.2.1 11)], r117.2)
else
(aJ Tryz.prog true .leq 5 (PV.v (.int .u8 48)) p114).bind fun p121 =>
(onG p121 true (
some (p114, r117.2)) r117.2).bind fun r123 =>
(onG p121 true (
(aJ Tryz.prog true .leq 5 r123.1 (PV.v (.int .u8 57))).bind fun p126 =>
some (p126, r123.2)) r123.2).bind fun r125 =>
(bQ p121 r125.1 (PV.v (.bool false))).bind fun p127 =>
aw p127 fun b128 => (bif b128 then
(aJ Tryz.prog true .sub 5 p114 (PV.v (.int .u8 48))).bind fun p130 =>
some (Ex.normal, [(aa r111.2.1 0), (aa r111.2.1 1), (aa r111.2.1 2), (aa r111.2.1 3), (aa r111.2.1 4), (aa r111.2.1 5), (aa r111.2.1 6), (aa r111.2.1 7), (aa r111.2.1 8), p130, (aa r111.2.1 9), (aa r111.2.1 10), (aa r111.2.1 11)], r125.2)
else
(call (.func 177) [ai p114] r125.2).bind fun r131 =>
(aJ Tryz.prog true .leq 5 (PV.v (.int .u8 97)) r131.1).bind fun p132 =>
(onG p132 true (
some (p114, r131.2)) r131.2).bind fun r134 =>
(onG p132 true (
(call (.func 177) [ai r134.1] r134.2).bind fun r137 =>
some (r137.1, r137.2)) r134.2).bind fun r136 =>
(onG p132 true (
(aJ Tryz.prog true .leq 5 r136.1 (PV.v (.int .u8 122))).bind fun p140 =>
some (p140, r136.2)) r136.2).bind fun r139 =>
(bQ p132 r139.1 (PV.v (.bool false))).bind fun p141 =>
aw p141 fun b142 => (bif b142 then
(call (.func 177) [ai p114] r139.2).bind fun r144 =>
(aJ Tryz.prog true .sub 5 r144.1 (PV.v (.int .u8 97))).bind fun p145 =>
(aJ Tryz.prog true .add 5 p145 (PV.v (.int .u8 10))).bind fun p146 =>
some (Ex.normal, [(aa r111.2.1 0), (aa r111.2.1 1), (aa r111.2.1 2), (aa r111.2.1 3), (aa r111.2.1 4), (aa r111.2.1 5), (aa r111.2.1 6), (aa r111.2.1 7), (aa r111.2.1 8), p146, (aa r111.2.1 9), (aa r111.2.1 10), (aa r111.2.1 11)], r144.2)
else
(jh Tryz.prog 212 (PV.v (.int .i64 2))).bind fun p147 =>
some (Ex.ret, [(aa r111.2.1 0), (PV.v (.int .u64 0)), p147, (aa r111.2.1 3), (aa r111.2.1 4), (aa r111.2.1 5), (aa r111.2.1 6), (aa r111.2.1 7), (aa r111.2.1 8), (PV.v (.int .u8 0)), (aa r111.2.1 9), (aa r111.2.1 10), (aa r111.2.1 11)], r139.2)).bind fun r143 =>
some (r143.1, [(aa r143.2.1 0), (aa r143.2.1 1), (aa r143.2.1 2), (aa r143.2.1 3), (aa r143.2.1 4), (aa r143.2.1 5), (aa r143.2.1 6), (aa r143.2.1 7), (aa r143.2.1 8), (aa r143.2.1 9), (aa r143.2.1 10), (aa r143.2.1 11), (aa r143.2.1 12)], r143.2.2)).bind fun r129 =>
some (r129.1, [(aa r129.2.1 0), (aa r129.2.1 1), (aa r129.2.1 2), (aa r129.2.1 3), (aa r129.2.1 4), (aa r129.2.1 5), (aa r129.2.1 6), (aa r129.2.1 7), (aa r129.2.1 8), (aa r129.2.1 9), (aa r129.2.1 10), (aa r129.2.1 11), (aa r129.2.1 12)], r129.2.2)).bind fun r120 =>
bH (Ex.ba 5 r120.1) ((fw Tryz.prog 3 5 (aa r120.2.1 0)).bind fun p149 =>
(aJ Tryz.prog false .geq 5 (aa r120.2.1 9) p149).bind fun p150 =>
aw p150 fun b151 => (bif b151 then
(jh Tryz.prog 212 (PV.v (.int .i64 2))).bind fun p153 =>
some (Ex.ret, [(aa r120.2.1 0), (PV.v (.int .u64 0)), p153, (aa r120.2.1 3), (aa r120.2.1 4), (aa r120.2.1 5), (aa r120.2.1 6), (aa r120.2.1 7), (aa r120.2.1 8), (aa r120.2.1 9), (aa r120.2.1 10), (aa r120.2.1 11), (aa r120.2.1 12)], r120.2.2)
else
some (Ex.normal, [(aa r120.2.1 0), (aa r120.2.1 1), (aa r120.2.1 2), (aa r120.2.1 3), (aa r120.2.1 4), (aa r120.2.1 5), (aa r120.2.1 6), (aa r120.2.1 7), (aa r120.2.1 8), (aa r120.2.1 9), (aa r120.2.1 10), (aa r120.2.1 11), (aa r120.2.1 12)], r120.2.2)).bind fun r152 =>
bH r152.1 ((aJ Tryz.prog false .geq 34 (aa r152.2.1 8) (aa r152.2.1 5)).bind fun p155 =>
aw p155 fun b156 => (bif b156 then
(jh Tryz.prog 212 (PV.v (.int .i64 1))).bind fun p158 =>
some (Ex.ret, [(aa r152.2.1 0), (aa r152.2.1 6), p158, (aa r152.2.1 3), (aa r152.2.1 4), (aa r152.2.1 5), (aa r152.2.1 6), (aa r152.2.1 7), (aa r152.2.1 8), (aa r152.2.1 9), (aa r152.2.1 10), (aa r152.2.1 11), (aa r152.2.1 12)], r152.2.2)
else
some (Ex.normal, [(aa r152.2.1 0), (aa r152.2.1 1), (aa r152.2.1 2), (aa r152.2.1 3), (aa r152.2.1 4), (aa r152.2.1 5), (aa r152.2.1 6), (aa r152.2.1 7), (aa r152.2.1 8), (aa r152.2.1 9), (aa r152.2.1 10), (aa r152.2.1 11), (aa r152.2.1 12)], r152.2.2)).bind fun r157 =>
bH r157.1 ((fw Tryz.prog 3 34 (aa r157.2.1 0)).bind fun p160 =>
(aJ Tryz.prog false .mul 34 (aa r157.2.1 8) p160).bind fun p161 =>
(fw Tryz.prog 5 34 (aa r157.2.1 9)).bind fun p162 =>
(aJ Tryz.prog false .add 34 p161 p162).bind fun p163 =>
(aJ Tryz.prog false .lss 34 p163 p161).bind fun p164 =>
(onG p164 false (
some (p163, r157.2.2)) r157.2.2).bind fun r166 =>
(onG p164 false (
some ((aa r157.2.1 6), r166.2)) r166.2).bind fun r168 =>
(onG p164 false (
(aJ Tryz.prog false .gtr 34 r166.1 r168.1).bind fun p171 =>
some (p171, r168.2)) r168.2).bind fun r170 =>
(bQ p164 (PV.v (.bool true)) r170.1).bind fun p172 =>
aw p172 fun b173 => (bif b173 then
(jh Tryz.prog 212 (PV.v (.int .i64 1))).bind fun p175 =>
some (Ex.ret, [(aa r157.2.1 0), (aa r157.2.1 6), p175, (aa r157.2.1 3), (aa r157.2.1 4), (aa r157.2.1 5), (aa r157.2.1 6), (aa r157.2.1 7), p161, p163, (aa r157.2.1 10), (aa r157.2.1 11), (aa r157.2.1 12)], r170.2)
else
some (Ex.normal, [(aa r157.2.1 0), (aa r157.2.1 1), (aa r157.2.1 2), (aa r157.2.1 3), (aa r157.2.1 4), (aa r157.2.1 5), (aa r157.2.1 6), (aa r157.2.1 7), p161, p163, (aa r157.2.1 10), (aa r157.2.1 11), (aa r157.2.1 12)], r170.2)).bind fun r174 =>
bH r174.1 ((aJ Tryz.prog true .add 3 (aa r174.2.1 12) (PV.v (.int .i64 1))).bind fun p177 =>
some (Ex.normal, [(aa r174.2.1 0), (aa r174.2.1 1), (aa r174.2.1 2), (aa r174.2.1 3), (aa r174.2.1 4), (aa r174.2.1 5), (aa r174.2.1 6), (aa r174.2.1 7), (aa r174.2.1 9), (aa r174.2.1 10), (aa r174.2.1 11), p177], r174.2.2)) fun x176 =>
bH (Ex.ba 4 x176) ((aJ Tryz.prog true .add 3 (aa r174.2.1 12) (PV.v (.int .i64 1))).bind fun p179 =>
some (Ex.normal, [(aa r174.2.1 0), (aa r174.2.1 1), (aa r174.2.1 2), (aa r174.2.1 3), (aa r174.2.1 4), (aa r174.2.1 5), (aa r174.2.1 6), (aa r174.2.1 7), (aa r174.2.1 8), (aa r174.2.1 10), (aa r174.2.1 11), p179], r174.2.2)) fun x178 =>
some (x178, [(aa r174.2.1 0), (aa r174.2.1 1), (aa r174.2.1 2), (aa r174.2.1 3), (aa r174.2.1 4), (aa r174.2.1 5), (aa r174.2.1 6), (aa r174.2.1 7), (aa r174.2.1 8), (aa r174.2.1 10), (aa r174.2.1 11), (aa r174.2.1 12)], r174.2.2)) fun x159 =>
bH (Ex.ba 4 x159) ((aJ Tryz.prog true .add 3 (aa r157.2.1 12) (PV.v (.int .i64 1))).bind fun p181 =>
some (Ex.normal, [(aa r157.2.1 0), (aa r157.2.1 1), (aa r157.2.1 2), (aa r157.2.1 3), (aa r157.2.1 4), (aa r157.2.1 5), (aa r157.2.1 6), (aa r157.2.1 7), (aa r157.2.1 8), (aa r157.2.1 10), (aa r157.2.1 11), p181], r157.2.2)) fun x180 =>
some (x180, [(aa r157.2.1 0), (aa r157.2.1 1), (aa r157.2.1 2), (aa r157.2.1 3), (aa r157.2.1 4), (aa r157.2.1 5), (aa r157.2.1 6), (aa r157.2.1 7), (aa r157.2.1 8), (aa r157.2.1 10), (aa r157.2.1 11), (aa r157.2.1 12)], r157.2.2)) fun x154 =>
bH (Ex.ba 4 x154) ((aJ Tryz.prog true .add 3 (aa r152.2.1 12) (PV.v (.int .i64 1))).bind fun p183 =>
some (Ex.normal, [(aa r152.2.1 0), (aa r152.2.1 1), (aa r152.2.1 2), (aa r152.2.1 3), (aa r152.2.1 4), (aa r152.2.1 5), (aa r152.2.1 6), (aa r152.2.1 7), (aa r152.2.1 8), (aa r152.2.1 10), (aa r152.2.1 11), p183], r152.2.2)) fun x182 =>
some (x182, [(aa r152.2.1 0), (aa r152.2.1 1), (aa r152.2.1 2), (aa r152.2.1 3), (aa r152.2.1 4), (aa r152.2.1 5), (aa r152.2.1 6), (aa r152.2.1 7), (aa r152.2.1 8), (aa r152.2.1 10), (aa r152.2.1 11), (aa r152.2.1 12)], r152.2.2)) fun x148 =>
bH (Ex.ba 4 x148) ((aJ Tryz.prog true .add 3 (aa r120.2.1 12) (PV.v (.int .i64 1))).bind fun p185 =>
some (Ex.normal, [(aa r120.2.1 0), (aa r120.2.1 1), (aa r120.2.1 2), (aa r120.2.1 3), (aa r120.2.1 4), (aa r120.2.1 5), (aa r120.2.1 6), (aa r120.2.1 7), (aa r120.2.1 8), (aa r120.2.1 10), (aa r120.2.1 11), p185], r120.2.2)) fun x184 =>
some (x184, [(aa r120.2.1 0), (aa r120.2.1 1), (aa r120.2.1 2), (aa r120.2.1 3), (aa r120.2.1 4), (aa r120.2.1 5), (aa r120.2.1 6), (aa r120.2.1 7), (aa r120.2.1 8), (aa r120.2.1 10), (aa r120.2.1 11), (aa r120.2.1 12)], r120.2.2)) fun x112 =>
some (x112, [(aa r111.2.1 0), (aa r111.2.1 1), (aa r111.2.1 2), (aa r111.2.1 3), (aa r111.2.1 4), (aa r111.2.1 5), (aa r111.2.1 6), (aa r111.2.1 7), (aa r111.2.1 8), (aa r111.2.1 9), (aa r111.2.1 10), (aa r111.2.1 11)], r111.2.2)
noncomputable def jg (call : bA) (it : bG) (a0 a1 a2 : PV) (st : St) : Option (PV × St) :=
(aJ Tryz.prog true .eql 9 a0 (PV.v (.string ⟨#[]⟩))).bind fun p1 =>
aw p1 fun b2 => (bif b2 then
(jh Tryz.prog 212 (PV.v (.int .i64 2))).bind fun p4 =>
some (Ex.ret, [a0, a1, a2, (PV.v (.int .u64 0)), p4], st)
else
some (Ex.normal, [a0, a1, a2, (PV.v (.int .u64 0)), (PV.v (.nilIface))], st)).bind fun r3 =>
bH r3.1 ((aJ Tryz.prog true .eql 3 (aa r3.2.1 1) (PV.v (.int .i64 0))).bind fun p6 =>
(aJ Tryz.prog true .leq 3 (PV.v (.int .i64 2)) (aa r3.2.1 1)).bind fun p7 =>
(onG p7 true (
some ((aa r3.2.1 1), r3.2.2)) r3.2.2).bind fun r9 =>
(onG p7 true (
(aJ Tryz.prog true .leq 3 r9.1 (PV.v (.int .i64 36))).bind fun p12 =>
some (p12, r9.2)) r9.2).bind fun r11 =>
(bQ p7 r11.1 (PV.v (.bool false))).bind fun p13 =>
aw p13 fun b14 => (bif b14 then
some (Ex.normal, [(aa r3.2.1 0), (aa r3.2.1 1), (aa r3.2.1 2), (aa r3.2.1 3), (aa r3.2.1 4), p6, (aa r3.2.1 0)], r11.2)
else
(aJ Tryz.prog true .eql 3 (aa r3.2.1 1) (PV.v (.int .i64 0))).bind fun p16 =>
aw p16 fun b17 => (bif b17 then
(cJ Tryz.prog 9 (aa r3.2.1 0) (PV.v (.int .i64 0))).bind fun p19 =>
(aJ Tryz.prog true .eql 5 p19 (PV.v (.int .u8 48))).bind fun p20 =>
aw p20 fun b21 => (bif b21 then
(eV Tryz.prog 9 (aa r3.2.1 0)).bind fun p23 =>
(aJ Tryz.prog true .geq 3 p23 (PV.v (.int .i64 3))).bind fun p24 =>
(onG p24 true (
some ((aa r3.2.1 0), r11.2)) r11.2).bind fun r26 =>
(onG p24 true (
(cJ Tryz.prog 9 r26.1 (PV.v (.int .i64 1))).bind fun p29 =>
some (p29, r26.2)) r26.2).bind fun r28 =>
(onG p24 true (
(call (.func 177) [ai r28.1] r28.2).bind fun r32 =>
some (r32.1, r32.2)) r28.2).bind fun r31 =>
(onG p24 true (
(aJ Tryz.prog true .eql 5 r31.1 (PV.v (.int .u8 98))).bind fun p35 =>
some (p35, r31.2)) r31.2).bind fun r34 =>
(bQ p24 r34.1 (PV.v (.bool false))).bind fun p36 =>
aw p36 fun b37 => (bif b37 then
(fW Tryz.prog 9 (aa r3.2.1 0) (some (PV.v (.int .i64 2))) none none).bind fun p39 =>
some (Ex.normal, [p39, (PV.v (.int .i64 2)), (aa r3.2.1 2), (aa r3.2.1 3), (aa r3.2.1 4), p6, (aa r3.2.1 0)], r34.2)
else
(eV Tryz.prog 9 (aa r3.2.1 0)).bind fun p40 =>
(aJ Tryz.prog true .geq 3 p40 (PV.v (.int .i64 3))).bind fun p41 =>
(onG p41 true (
some ((aa r3.2.1 0), r34.2)) r34.2).bind fun r43 =>
(onG p41 true (
(cJ Tryz.prog 9 r43.1 (PV.v (.int .i64 1))).bind fun p46 =>
some (p46, r43.2)) r43.2).bind fun r45 =>
(onG p41 true (
(call (.func 177) [ai r45.1] r45.2).bind fun r49 =>
some (r49.1, r49.2)) r45.2).bind fun r48 =>
(onG p41 true (
(aJ Tryz.prog true .eql 5 r48.1 (PV.v (.int .u8 111))).bind fun p52 =>
some (p52, r48.2)) r48.2).bind fun r51 =>
(bQ p41 r51.1 (PV.v (.bool false))).bind fun p53 =>
aw p53 fun b54 => (bif b54 then
(fW Tryz.prog 9 (aa r3.2.1 0) (some (PV.v (.int .i64 2))) none none).bind fun p56 =>
some (Ex.normal, [p56, (PV.v (.int .i64 8)), (aa r3.2.1 2), (aa r3.2.1 3), (aa r3.2.1 4), p6, (aa r3.2.1 0)], r51.2)
else
(eV Tryz.prog 9 (aa r3.2.1 0)).bind fun p57 =>
(aJ Tryz.prog true .geq 3 p57 (PV.v (.int .i64 3))).bind fun p58 =>
(onG p58 true (
some ((aa r3.2.1 0), r51.2)) r51.2).bind fun r60 =>
(onG p58 true (
(cJ Tryz.prog 9 r60.1 (PV.v (.int .i64 1))).bind fun p63 =>
some (p63, r60.2)) r60.2).bind fun r62 =>
(onG p58 true (
(call (.func 177) [ai r62.1] r62.2).bind fun r66 =>
some (r66.1, r66.2)) r62.2).bind fun r65 =>
(onG p58 true (
(aJ Tryz.prog true .eql 5 r65.1 (PV.v (.int .u8 120))).bind fun p69 =>
some (p69, r65.2)) r65.2).bind fun r68 =>
(bQ p58 r68.1 (PV.v (.bool false))).bind fun p70 =>
aw p70 fun b71 => (bif b71 then
(fW Tryz.prog 9 (aa r3.2.1 0) (some (PV.v (.int .i64 2))) none none).bind fun p73 =>
some (Ex.normal, [p73, (PV.v (.int .i64 16)), (aa r3.2.1 2), (aa r3.2.1 3), (aa r3.2.1 4), p6, (aa r3.2.1 0)], r68.2)
else
(fW Tryz.prog 9 (aa r3.2.1 0) (some (PV.v (.int .i64 1))) none none).bind fun p74 =>
some (Ex.normal, [p74, (PV.v (.int .i64 8)), (aa r3.2.1 2), (aa r3.2.1 3), (aa r3.2.1 4), p6, (aa r3.2.1 0)], r68.2)).bind fun r72 =>
some (r72.1, [(aa r72.2.1 0), (aa r72.2.1 1), (aa r72.2.1 2), (aa r72.2.1 3), (aa r72.2.1 4), (aa r72.2.1 5), (aa r72.2.1 6)], r72.2.2)).bind fun r55 =>
some (r55.1, [(aa r55.2.1 0), (aa r55.2.1 1), (aa r55.2.1 2), (aa r55.2.1 3), (aa r55.2.1 4), (aa r55.2.1 5), (aa r55.2.1 6)], r55.2.2)).bind fun r38 =>
some ((Ex.ba 1 r38.1), [(aa r38.2.1 0), (aa r38.2.1 1), (aa r38.2.1 2), (aa r38.2.1 3), (aa r38.2.1 4), (aa r38.2.1 5), (aa r38.2.1 6)], r38.2.2)
else
some (Ex.normal, [(aa r3.2.1 0), (PV.v (.int .i64 10)), (aa r3.2.1 2), (aa r3.2.1 3), (aa r3.2.1 4), p6, (aa r3.2.1 0)], r11.2)).bind fun r22 =>
some (r22.1, [(aa r22.2.1 0), (aa r22.2.1 1), (aa r22.2.1 2), (aa r22.2.1 3), (aa r22.2.1 4), (aa r22.2.1 5), (aa r22.2.1 6)], r22.2.2)
else
(jh Tryz.prog 212 (PV.v (.int .i64 3))).bind fun p75 =>
some (Ex.ret, [(aa r3.2.1 0), (aa r3.2.1 1), (aa r3.2.1 2), (PV.v (.int .u64 0)), p75, p6, (aa r3.2.1 0)], r11.2)).bind fun r18 =>
some (r18.1, [(aa r18.2.1 0), (aa r18.2.1 1), (aa r18.2.1 2), (aa r18.2.1 3), (aa r18.2.1 4), (aa r18.2.1 5), (aa r18.2.1 6)], r18.2.2)).bind fun r15 =>
bH (Ex.ba 0 r15.1) ((aJ Tryz.prog true .eql 3 (aa r15.2.1 2) (PV.v (.int .i64 0))).bind fun p77 =>
aw p77 fun b78 => (bif b78 then
some (Ex.normal, [(aa r15.2.1 0), (aa r15.2.1 1), (PV.v (.int .i64 64)), (aa r15.2.1 3), (aa r15.2.1 4), (aa r15.2.1 5), (aa r15.2.1 6)], r15.2.2)
else
(aJ Tryz.prog true .lss 3 (aa r15.2.1 2) (PV.v (.int .i64 0))).bind fun p80 =>
(onG p80 false (
some ((aa r15.2.1 2), r15.2.2)) r15.2.2).bind fun r82 =>
(onG p80 false (
(aJ Tryz.prog true .gtr 3 r82.1 (PV.v (.int .i64 64))).bind fun p85 =>
some (p85, r82.2)) r82.2).bind fun r84 =>
(bQ p80 (PV.v (.bool true)) r84.1).bind fun p86 =>
aw p86 fun b87 => (bif b87 then
(jh Tryz.prog 212 (PV.v (.int .i64 4))).bind fun p89 =>
some (Ex.ret, [(aa r15.2.1 0), (aa r15.2.1 1), (aa r15.2.1 2), (PV.v (.int .u64 0)), p89, (aa r15.2.1 5), (aa r15.2.1 6)], r84.2)
else
some (Ex.normal, [(aa r15.2.1 0), (aa r15.2.1 1), (aa r15.2.1 2), (aa r15.2.1 3), (aa r15.2.1 4), (aa r15.2.1 5), (aa r15.2.1 6)], r84.2)).bind fun r88 =>
some (r88.1, [(aa r88.2.1 0), (aa r88.2.1 1), (aa r88.2.1 2), (aa r88.2.1 3), (aa r88.2.1 4), (aa r88.2.1 5), (aa r88.2.1 6)], r88.2.2)).bind fun r79 =>
bH r79.1 ((aJ Tryz.prog true .eql 3 (aa r79.2.1 1) (PV.v (.int .i64 10))).bind fun p91 =>
aw p91 fun b92 => (bif b92 then
some (Ex.normal, [(aa r79.2.1 0), (aa r79.2.1 1), (aa r79.2.1 2), (aa r79.2.1 3), (aa r79.2.1 4), (aa r79.2.1 5), (aa r79.2.1 6), (PV.v (.int .u64 1844674407370955162))], r79.2.2)
else
(aJ Tryz.prog true .eql 3 (aa r79.2.1 1) (PV.v (.int .i64 16))).bind fun p94 =>
aw p94 fun b95 => (bif b95 then
some (Ex.normal, [(aa r79.2.1 0), (aa r79.2.1 1), (aa r79.2.1 2), (aa r79.2.1 3), (aa r79.2.1 4), (aa r79.2.1 5), (aa r79.2.1 6), (PV.v (.int .u64 1152921504606846976))], r79.2.2)
else
(fw Tryz.prog 3 34 (aa r79.2.1 1)).bind fun p97 =>
(aJ Tryz.prog true .quo 34 (PV.v (.int .u64 18446744073709551615)) p97).bind fun p98 =>
(aJ Tryz.prog true .add 34 p98 (PV.v (.int .u64 1))).bind fun p99 =>
some (Ex.normal, [(aa r79.2.1 0), (aa r79.2.1 1), (aa r79.2.1 2), (aa r79.2.1 3), (aa r79.2.1 4), (aa r79.2.1 5), (aa r79.2.1 6), p99], r79.2.2)).bind fun r96 =>
some (r96.1, [(aa r96.2.1 0), (aa r96.2.1 1), (aa r96.2.1 2), (aa r96.2.1 3), (aa r96.2.1 4), (aa r96.2.1 5), (aa r96.2.1 6), (aa r96.2.1 7)], r96.2.2)).bind fun r93 =>
bH (Ex.ba 2 r93.1) ((fw Tryz.prog 3 122 (aa r93.2.1 2)).bind fun p101 =>
(aJ Tryz.prog true .shl 34 (PV.v (.int .u64 1)) p101).bind fun p102 =>
(aJ Tryz.prog true .sub 34 p102 (PV.v (.int .u64 1))).bind fun p103 =>
(fw Tryz.prog 9 91 (aa r93.2.1 0)).bind fun p104 =>
(eV Tryz.prog 91 p104).bind fun p105 =>
(it (jg.b0 call it st.stk.length st.lp.length) [(aa r93.2.1 1), (aa r93.2.1 3), (aa r93.2.1 4), (aa r93.2.1 5), (aa r93.2.1 6), (aa r93.2.1 7), p103, (PV.v (.bool false)), (PV.v (.int .u64 0)), p104, p105, (PV.v (.int .i64 0))] r93.2.2).bind fun r106 =>
bH (Ex.ba 3 r106.1) ((onG (aa r106.2.1 7) true (
some ((aa r106.2.1 4), r106.2.2)) r106.2.2).bind fun r188 =>
(onG (aa r106.2.1 7) true (
(call (.func 178) [ai r188.1] r188.2).bind fun r191 =>
some (r191.1, r191.2)) r188.2).bind fun r190 =>
(onG (aa r106.2.1 7) true (
(aUn Tryz.prog .not r190.1).bind fun p194 =>
some (p194, r190.2)) r190.2).bind fun r193 =>
(bQ (aa r106.2.1 7) r193.1 (PV.v (.bool false))).bind fun p195 =>
aw p195 fun b196 => (bif b196 then
(jh Tryz.prog 212 (PV.v (.int .i64 2))).bind fun p198 =>
some (Ex.ret, [(PV.v (.int .u64 0)), p198, (aa r106.2.1 8)], r193.2)
else
some (Ex.normal, [(aa r106.2.1 1), (aa r106.2.1 2), (aa r106.2.1 8)], r193.2)).bind fun r197 =>
bH r197.1 (fin st.stk.length st.tk.length st.lp.length [(aa r197.2.1 2), (PV.v (.nilIface))] r197.2.2) fun x199 =>
dw x199 (fin st.stk.length st.tk.length st.lp.length [(aa r197.2.1 0), (aa r197.2.1 1)] r197.2.2)) fun x186 =>
dw x186 (fin st.stk.length st.tk.length st.lp.length [(aa r106.2.1 1), (aa r106.2.1 2)] r106.2.2)) fun x100 =>
dw x100 (fin st.stk.length st.tk.length st.lp.length [(aa r93.2.1 3), (aa r93.2.1 4)] r93.2.2)) fun x90 =>
dw x90 (fin st.stk.length st.tk.length st.lp.length [(aa r79.2.1 3), (aa r79.2.1 4)] r79.2.2)) fun x76 =>
dw x76 (fin st.stk.length st.tk.length st.lp.length [(aa r15.2.1 3), (aa r15.2.1 4)] r15.2.2)) fun x5 =>
dw x5 (fin st.stk.length st.tk.length st.lp.length [(aa r3.2.1 3), (aa r3.2.1 4)] r3.2.2)
theorem zh (a0 a1 a2 : PV) (st : St) : E L (.func 170) [a0, a1, a2] st = jg (E L) itE a0 a1 a2 st := (bF (by kernel_rfl) Tryz.func170 _ _).trans (by kernel_rfl)
noncomputable def B4 (call : bA) (it : bG) (a0 a1 a2 : PV) (st : St) : Option (PV × St) :=
(call (.func 170) [ai a0, ai a1, ai a2] st).bind fun r1 =>
(aS r1.1 0).bind fun p2 =>
(aS r1.1 1).bind fun p3 =>
(aJ Tryz.prog true .neq 128 p3 (PV.v (.nilIface))).bind fun p4 =>
aw p4 fun b5 => (bif b5 then
(call (.func 171) [ai (PV.v (.string ⟨#[80, 97, 114, 115, 101, 85, 105, 110, 116]⟩)), ai a0, ai a1, ai a2, ai p3] r1.2).bind fun r7 =>
some (Ex.ret, [p2, r7.1, p2], r7.2)
else
some (Ex.normal, [(PV.v (.int .u64 0)), (PV.v (.nilIface)), p2], r1.2)).bind fun r6 =>
bH r6.1 (fin st.stk.length st.tk.length st.lp.length [(aa r6.2.1 2), (PV.v (.nilIface))] r6.2.2) fun x8 =>
dw x8 (fin st.stk.length st.tk.length st.lp.length [(aa r6.2.1 0), (aa r6.2.1 1)] r6.2.2)
theorem ze (a0 a1 a2 : PV) (st : St) : E L (.func 148) [a0, a1, a2] st = B4 (E L) itE a0 a1 a2 st := (bF (by kernel_rfl) Tryz.func148 _ _).trans (by kernel_rfl)
noncomputable def B3 (call : bA) (it : bG) (a0 : PV) (st : St) : Option (PV × St) :=
let q2 : PV := .ptr false st.stk.length 0
let st1 := st.push [.v (.int .i64 0), .v (.string ⟨#[]⟩), .v (.int .u64 0), .v (.int .i64 0), .v (.int .i64 0)]
(aI a0).bind fun p3 =>
(an p3 1).bind fun p4 =>
(aj false 1 p4 st1).bind fun p5 =>
bq (st1 = st1) <|
(aI a0).bind fun p6 =>
(an p6 2).bind fun p7 =>
(aj false 1 p7 st1).bind fun p8 =>
bq (st1 = st1) <|
(bm [(0, 1), (1, 1), (2, 1), (3, 1), (4, 1)] [.v (.int .i64 0), .v (.string ⟨#[]⟩), .v (.int .u64 0), .v (.int .i64 0), .v (.int .i64 0)] [(3, p5), (4, p8)]).bind fun p9 =>
let q11 : PV := .ptr false st1.stk.length 0
let st10 := st1.push [.v (.int .i64 0), .v (.string ⟨#[]⟩), .v (.int .u64 0), .v (.int .i64 0), .v (.int .i64 0)]
bq (((aj false 1 p7 st10).bind fun p12 =>
some (Rs.ret p12, st10)) = some (Rs.ret p8, st10)) <|
bq (((aj false 1 p4 st10).bind fun p13 =>
some (Rs.ret p13, st10)) = some (Rs.ret p5, st10)) <|
(au st.stk.length 5 q11 p9 st10).bind fun st14 =>
(call (.func 112) [ai a0, ai (PV.clo (.func 145) [])] st14).bind fun r15 =>
(call (.func 111) [ai a0, ai r15.1] r15.2).bind fun r16 =>
(an q11 1).bind fun p17 =>
(au st.stk.length 1 p17 r16.1 r16.2).bind fun st18 =>
(an q11 1).bind fun p19 =>
(aj false 1 p19 st18).bind fun p20 =>
(call (.func 146) [ai p20] st18).bind fun r21 =>
aw r21.1 fun b22 => (bif b22 then
(an q11 0).bind fun p24 =>
(au st.stk.length 1 p24 (PV.v (.int .i64 2)) r21.2).bind fun st25 =>
some (Ex.normal, [q2, (PV.v (.bool false)), q11], st25)
else
(an q11 1).bind fun p26 =>
(aj false 1 p26 r21.2).bind fun p27 =>
(call (.func 147) [ai p27] r21.2).bind fun r28 =>
aw r28.1 fun b29 => (bif b29 then
(an q11 0).bind fun p31 =>
(au st.stk.length 1 p31 (PV.v (.int .i64 1)) r28.2).bind fun st32 =>
some (Ex.normal, [q2, (PV.v (.bool false)), q11], st32)
else
(an q11 1).bind fun p33 =>
(aj false 1 p33 r28.2).bind fun p34 =>
(call (.func 148) [ai p34, ai (PV.v (.int .i64 10)), ai (PV.v (.int .i64 63))] r28.2).bind fun r35 =>
(aS r35.1 0).bind fun p36 =>
(aS r35.1 1).bind fun p37 =>
(an q11 0).bind fun p38 =>
(au st.stk.length 1 p38 (PV.v (.int .i64 3)) r35.2).bind fun st39 =>
(an q11 2).bind fun p40 =>
(au st.stk.length 1 p40 p36 st39).bind fun st41 =>
(aj true 5 q11 st41).bind fun p42 =>
bq (st41 = st41) <|
(aJ Tryz.prog true .eql 128 p37 (PV.v (.nilIface))).bind fun p43 =>
(onG p43 true (
some (p36, st41)) st41).bind fun r45 =>
(onG p43 true (
(call (.func 31) [ai r45.1, ai (PV.v (.int .i64 10))] st41).bind fun r48 =>
some (r48.1, r48.2)) st41).bind fun r47 =>
bq (r47.2 = st41) <|
(onG p43 true (
(an q11 1).bind fun p51 =>
some (p51, st41)) st41).bind fun r50 =>
(onG p43 true (
(aj false 1 r50.1 st41).bind fun p54 =>
some (p54, st41)) st41).bind fun r53 =>
bq (r53.2 = st41) <|
(onG p43 true (
(aJ Tryz.prog false .eql 9 r47.1 r53.1).bind fun p57 =>
some (p57, st41)) st41).bind fun r56 =>
(bQ p43 r56.1 (PV.v (.bool false))).bind fun p58 =>
(au st.stk.length 5 q2 p42 st41).bind fun st59 =>
bq (((onG p43 true (
(aj false 1 r50.1 st59).bind fun p62 =>
some (p62, st59)) st59).bind fun r61 =>
some (Rs.ret r61.1, r61.2)) = some (Rs.ret r53.1, st59)) <|
some (Ex.ret, [q2, p58, q11], st59)).bind fun r30 =>
some (r30.1, [(aa r30.2.1 0), (aa r30.2.1 1), (aa r30.2.1 2)], r30.2.2)).bind fun r23 =>
bH (Ex.ba 0 r23.1) ((aj true 5 (aa r23.2.1 2) r23.2.2).bind fun p64 =>
(au st.stk.length 5 (aa r23.2.1 0) p64 r23.2.2).bind fun st65 =>
(aj true 5 (aa r23.2.1 0) st65).bind fun p66 =>
fin st.stk.length st.tk.length st.lp.length [p66, (PV.v (.bool true))] st65) fun x63 =>
dw x63 ((aj true 5 (aa r23.2.1 0) r23.2.2).bind fun p67 =>
fin st.stk.length st.tk.length st.lp.length [p67, (aa r23.2.1 1)] r23.2.2)
theorem Et (a0 : PV) (st : St) : E L (.func 117) [a0] st = B3 (E L) itE a0 st := (bF (by kernel_rfl) Tryz.func117 _ _).trans (by kernel_rfl)
noncomputable def Eu (call : bA) (it : bG) (a0 : PV) (st : St) : Option (PV × St) :=
let q2 : PV := .ptr false st.stk.length 0
let st1 := st.push [.v (.int .i64 0), .v (.string ⟨#[]⟩), .v (.int .u64 0), .v (.int .i64 0), .v (.int .i64 0)]
(aI a0).bind fun p3 =>
(an p3 1).bind fun p4 =>
(aj false 1 p4 st1).bind fun p5 =>
bq (st1 = st1) <|
(aI a0).bind fun p6 =>
(an p6 2).bind fun p7 =>
(aj false 1 p7 st1).bind fun p8 =>
bq (st1 = st1) <|
(bm [(0, 1), (1, 1), (2, 1), (3, 1), (4, 1)] [.v (.int .i64 0), .v (.string ⟨#[]⟩), .v (.int .u64 0), .v (.int .i64 0), .v (.int .i64 0)] [(0, (PV.v (.int .i64 4))), (3, p5), (4, p8)]).bind fun p9 =>
let q11 : PV := .ptr false st1.stk.length 0
let st10 := st1.push [.v (.int .i64 0), .v (.string ⟨#[]⟩), .v (.int .u64 0), .v (.int .i64 0), .v (.int .i64 0)]
bq (((aj false 1 p7 st10).bind fun p12 =>
some (Rs.ret p12, st10)) = some (Rs.ret p8, st10)) <|
bq (((aj false 1 p4 st10).bind fun p13 =>
some (Rs.ret p13, st10)) = some (Rs.ret p5, st10)) <|
(au st.stk.length 5 q11 p9 st10).bind fun st14 =>
(call (.func 111) [ai a0, ai (PV.v (.int .i64 1))] st14).bind fun r15 =>
(call (.func 112) [ai a0, ai (PV.clo (.func 149) [])] r15.2).bind fun r16 =>
(call (.func 111) [ai a0, ai r16.1] r16.2).bind fun r17 =>
(aJ Tryz.prog true .add 9 (PV.v (.string ⟨#[35]⟩)) r17.1).bind fun p18 =>
(an q11 1).bind fun p19 =>
(au st.stk.length 1 p19 p18 r17.2).bind fun st20 =>
(an q11 1).bind fun p21 =>
(aj false 1 p21 st20).bind fun p22 =>
(fW Tryz.prog 9 p22 (some (PV.v (.int .i64 1))) none none).bind fun p23 =>
(call (.func 148) [ai p23, ai (PV.v (.int .i64 16)), ai (PV.v (.int .i64 64))] st20).bind fun r24 =>
(aS r24.1 0).bind fun p25 =>
(aS r24.1 1).bind fun p26 =>
(an q11 2).bind fun p27 =>
(au st.stk.length 1 p27 p25 r24.2).bind fun st28 =>
(aj true 5 q11 st28).bind fun p29 =>
bq (st28 = st28) <|
(aJ Tryz.prog true .eql 128 p26 (PV.v (.nilIface))).bind fun p30 =>
(onG p30 true (
(an q11 1).bind fun p33 =>
some (p33, st28)) st28).bind fun r32 =>
(onG p30 true (
(aj false 1 r32.1 st28).bind fun p36 =>
some (p36, st28)) st28).bind fun r35 =>
bq (r35.2 = st28) <|
(onG p30 true (
(eV Tryz.prog 9 r35.1).bind fun p39 =>
some (p39, st28)) st28).bind fun r38 =>
(onG p30 true (
(aJ Tryz.prog true .eql 3 r38.1 (PV.v (.int .i64 17))).bind fun p42 =>
some (p42, st28)) st28).bind fun r41 =>
(bQ p30 r41.1 (PV.v (.bool false))).bind fun p43 =>
(onG p43 true (
(an q11 1).bind fun p46 =>
some (p46, st28)) st28).bind fun r45 =>
(onG p43 true (
(aj false 1 r45.1 st28).bind fun p49 =>
some (p49, st28)) st28).bind fun r48 =>
bq (r48.2 = st28) <|
(onG p43 true (
(call (.func 150) [ai r48.1, ai (PV.v (.string ⟨#[65, 66, 67, 68, 69, 70]⟩))] st28).bind fun r52 =>
some (r52.1, r52.2)) st28).bind fun r51 =>
bq (r51.2 = st28) <|
(onG p43 true (
(aUn Tryz.prog .not r51.1).bind fun p55 =>
some (p55, st28)) st28).bind fun r54 =>
(bQ p43 r54.1 (PV.v (.bool false))).bind fun p56 =>
(au st.stk.length 5 q2 p29 st28).bind fun st57 =>
(aj true 5 q2 st57).bind fun p58 =>
fin st.stk.length st.tk.length st.lp.length [p58, p56] st57
theorem Ev (a0 : PV) (st : St) : E L (.func 118) [a0] st = Eu (E L) itE a0 st := (bF (by kernel_rfl) Tryz.func118 _ _).trans (by kernel_rfl)
noncomputable def qC.b0 (call : bA) (it : bG) (base lb : Nat) (vs17 : List PV) (st18 : St) : Option (Ex × List PV × St) :=
(aJ Tryz.prog true .lss 3 (aa vs17 5) (PV.v (.int .i64 3))).bind fun p19 =>
aw p19 fun b20 => (bif b20 then
some (Ex.normal, [(aa vs17 0), (aa vs17 1), (aa vs17 2), (aa vs17 3), (aa vs17 4), (aa vs17 5)], st18)
else
some ((Ex.exit 0), [(aa vs17 0), (aa vs17 1), (aa vs17 2), (aa vs17 3), (aa vs17 4), (aa vs17 5)], st18)).bind fun r21 =>
bH r21.1 ((cJ Tryz.prog 198 (aa r21.2.1 4) (aa r21.2.1 5)).bind fun p23 =>
(aI (aa r21.2.1 0)).bind fun p24 =>
(an p24 0).bind fun p25 =>
(aj false 1 p25 r21.2.2).bind fun p26 =>
(call (.func 99) [ai p26, ai p23] r21.2.2).bind fun r27 =>
aw r27.1 fun b28 => (bif b28 then
(call (.func 111) [ai (aa r21.2.1 0), ai (PV.v (.int .i64 2))] r27.2).bind fun r30 =>
(an (aa r21.2.1 3) 1).bind fun p31 =>
(au base 1 p31 r30.1 r30.2).bind fun st32 =>
(aj true 5 (aa r21.2.1 3) st32).bind fun p33 =>
(au base 5 (aa r21.2.1 1) p33 st32).bind fun st34 =>
some (Ex.ret, [(aa r21.2.1 0), (aa r21.2.1 1), (PV.v (.bool true)), (aa r21.2.1 3), (aa r21.2.1 4), (aa r21.2.1 5)], st34)
else
some (Ex.normal, [(aa r21.2.1 0), (aa r21.2.1 1), (aa r21.2.1 2), (aa r21.2.1 3), (aa r21.2.1 4), (aa r21.2.1 5)], r27.2)).bind fun r29 =>
bH (Ex.ba 1 r29.1) ((aJ Tryz.prog true .add 3 (aa r29.2.1 5) (PV.v (.int .i64 1))).bind fun p36 =>
some (Ex.normal, [(aa r29.2.1 0), (aa r29.2.1 1), (aa r29.2.1 2), (aa r29.2.1 3), (aa r29.2.1 4), p36], r29.2.2)) fun x35 =>
some (x35, [(aa r29.2.1 0), (aa r29.2.1 1), (aa r29.2.1 2), (aa r29.2.1 3), (aa r29.2.1 4), (aa r29.2.1 5)], r29.2.2)) fun x22 =>
some (x22, [(aa r21.2.1 0), (aa r21.2.1 1), (aa r21.2.1 2), (aa r21.2.1 3), (aa r21.2.1 4), (aa r21.2.1 5)], r21.2.2)
noncomputable def qC (call : bA) (it : bG) (a0 : PV) (st : St) : Option (PV × St) :=
let q2 : PV := .ptr false st.stk.length 0
let st1 := st.push [.v (.int .i64 0), .v (.string ⟨#[]⟩), .v (.int .u64 0), .v (.int .i64 0), .v (.int .i64 0)]
(aI a0).bind fun p3 =>
(an p3 1).bind fun p4 =>
(aj false 1 p4 st1).bind fun p5 =>
bq (st1 = st1) <|
(aI a0).bind fun p6 =>
(an p6 2).bind fun p7 =>
(aj false 1 p7 st1).bind fun p8 =>
bq (st1 = st1) <|
(bm [(0, 1), (1, 1), (2, 1), (3, 1), (4, 1)] [.v (.int .i64 0), .v (.string ⟨#[]⟩), .v (.int .u64 0), .v (.int .i64 0), .v (.int .i64 0)] [(0, (PV.v (.int .i64 5))), (3, p5), (4, p8)]).bind fun p9 =>
let q11 : PV := .ptr false st1.stk.length 0
let st10 := st1.push [.v (.int .i64 0), .v (.string ⟨#[]⟩), .v (.int .u64 0), .v (.int .i64 0), .v (.int .i64 0)]
bq (((aj false 1 p7 st10).bind fun p12 =>
some (Rs.ret p12, st10)) = some (Rs.ret p8, st10)) <|
bq (((aj false 1 p4 st10).bind fun p13 =>
some (Rs.ret p13, st10)) = some (Rs.ret p5, st10)) <|
(au st.stk.length 5 q11 p9 st10).bind fun st14 =>
(kC Tryz.prog 198 [(0, (PV.v (.string ⟨#[61, 61]⟩))), (1, (PV.v (.string ⟨#[33, 61]⟩))), (2, (PV.v (.string ⟨#[60, 61]⟩)))]).bind fun p15 =>
(it (qC.b0 call it st.stk.length st.lp.length) [a0, q2, (PV.v (.bool false)), q11, p15, (PV.v (.int .i64 0))] st14).bind fun r16 =>
bH (Ex.ba 0 r16.1) ((aI (aa r16.2.1 0)).bind fun p38 =>
(an p38 0).bind fun p39 =>
(aj false 1 p39 r16.2.2).bind fun p40 =>
(cJ Tryz.prog 9 p40 (PV.v (.int .i64 0))).bind fun p41 =>
(call (.func 114) [ai (PV.v (.string ⟨#[123, 125, 40, 41, 91, 93, 59, 58, 44, 46, 61, 60, 43, 45, 42, 47, 37]⟩)), ai p41] r16.2.2).bind fun r42 =>
(aJ Tryz.prog true .lss 3 r42.1 (PV.v (.int .i64 0))).bind fun p43 =>
aw p43 fun b44 => (bif b44 then
(aj true 5 (aa r16.2.1 3) r42.2).bind fun p46 =>
(au st.stk.length 5 (aa r16.2.1 1) p46 r42.2).bind fun st47 =>
some (Ex.ret, [(aa r16.2.1 0), (aa r16.2.1 1), (PV.v (.bool false)), (aa r16.2.1 3)], st47)
else
some (Ex.normal, [(aa r16.2.1 0), (aa r16.2.1 1), (aa r16.2.1 2), (aa r16.2.1 3)], r42.2)).bind fun r45 =>
bH r45.1 ((call (.func 111) [ai (aa r45.2.1 0), ai (PV.v (.int .i64 1))] r45.2.2).bind fun r49 =>
(an (aa r45.2.1 3) 1).bind fun p50 =>
(au st.stk.length 1 p50 r49.1 r49.2).bind fun st51 =>
(aj true 5 (aa r45.2.1 3) st51).bind fun p52 =>
(au st.stk.length 5 (aa r45.2.1 1) p52 st51).bind fun st53 =>
(aj true 5 (aa r45.2.1 1) st53).bind fun p54 =>
fin st.stk.length st.tk.length st.lp.length [p54, (PV.v (.bool true))] st53) fun x48 =>
dw x48 ((aj true 5 (aa r45.2.1 1) r45.2.2).bind fun p55 =>
fin st.stk.length st.tk.length st.lp.length [p55, (aa r45.2.1 2)] r45.2.2)) fun x37 =>
dw x37 ((aj true 5 (aa r16.2.1 1) r16.2.2).bind fun p56 =>
fin st.stk.length st.tk.length st.lp.length [p56, (aa r16.2.1 2)] r16.2.2)
theorem Ew (a0 : PV) (st : St) : E L (.func 119) [a0] st = qC (E L) itE a0 st := (bF (by kernel_rfl) Tryz.func119 _ _).trans (by kernel_rfl)
noncomputable def S66 (call : bA) (it : bG) (a0 : PV) (st : St) : Option (PV × St) :=
let q2 : PV := .ptr false st.stk.length 0
let st1 := st.push [.v (.int .i64 0), .v (.string ⟨#[]⟩), .v (.int .u64 0), .v (.int .i64 0), .v (.int .i64 0)]
(aI a0).bind fun p3 =>
(an p3 0).bind fun p4 =>
(aj false 1 p4 st1).bind fun p5 =>
(cJ Tryz.prog 9 p5 (PV.v (.int .i64 0))).bind fun p6 =>
(fw Tryz.prog 5 21 p6).bind fun p7 =>
(call (.func 115) [ai p7] st1).bind fun r8 =>
(onG r8.1 false (
some (p7, r8.2)) r8.2).bind fun r10 =>
(onG r8.1 false (
(call (.func 116) [ai r10.1] r10.2).bind fun r13 =>
some (r13.1, r13.2)) r10.2).bind fun r12 =>
(bQ r8.1 (PV.v (.bool true)) r12.1).bind fun p14 =>
aw p14 fun b15 => (bif b15 then
(call (.func 117) [ai a0] r12.2).bind fun r17 =>
(aS r17.1 0).bind fun p18 =>
(aS r17.1 1).bind fun p19 =>
(au st.stk.length 5 q2 p18 r17.2).bind fun st20 =>
some (Ex.ret, [a0, q2, p19], st20)
else
(aJ Tryz.prog true .eql 21 p7 (PV.v (.int .i32 35))).bind fun p21 =>
aw p21 fun b22 => (bif b22 then
(call (.func 118) [ai a0] r12.2).bind fun r24 =>
(aS r24.1 0).bind fun p25 =>
(aS r24.1 1).bind fun p26 =>
(au st.stk.length 5 q2 p25 r24.2).bind fun st27 =>
some (Ex.ret, [a0, q2, p26], st27)
else
some (Ex.normal, [a0, q2, (PV.v (.bool false))], r12.2)).bind fun r23 =>
some (r23.1, [(aa r23.2.1 0), (aa r23.2.1 1), (aa r23.2.1 2)], r23.2.2)).bind fun r16 =>
bH (Ex.ba 0 r16.1) ((call (.func 119) [ai (aa r16.2.1 0)] r16.2.2).bind fun r29 =>
(aS r29.1 0).bind fun p30 =>
(aS r29.1 1).bind fun p31 =>
(au st.stk.length 5 (aa r16.2.1 1) p30 r29.2).bind fun st32 =>
(aj true 5 (aa r16.2.1 1) st32).bind fun p33 =>
fin st.stk.length st.tk.length st.lp.length [p33, p31] st32) fun x28 =>
dw x28 ((aj true 5 (aa r16.2.1 1) r16.2.2).bind fun p34 =>
fin st.stk.length st.tk.length st.lp.length [p34, (aa r16.2.1 2)] r16.2.2)
theorem GY (a0 : PV) (st : St) : E L (.func 66) [a0] st = S66 (E L) itE a0 st := (bF (by kernel_rfl) Tryz.func66 _ _).trans (by kernel_rfl)
noncomputable def S46.b0 (call : bA) (it : bG) (base lb : Nat) (vs15 : List PV) (st16 : St) : Option (Ex × List PV × St) :=
(call (.func 65) [ai (aa vs15 3)] st16).bind fun r17 =>
(aI (aa vs15 3)).bind fun p18 =>
(an p18 0).bind fun p19 =>
(aj false 1 p19 r17.2).bind fun p20 =>
(aJ Tryz.prog true .eql 9 p20 (PV.v (.string ⟨#[]⟩))).bind fun p21 =>
aw p21 fun b22 => (bif b22 then
(aI (aa vs15 3)).bind fun p24 =>
(an p24 1).bind fun p25 =>
(aj false 1 p25 r17.2).bind fun p26 =>
bq (r17.2 = r17.2) <|
(aI (aa vs15 3)).bind fun p27 =>
(an p27 2).bind fun p28 =>
(aj false 1 p28 r17.2).bind fun p29 =>
bq (r17.2 = r17.2) <|
(bm [(0, 1), (1, 1), (2, 1), (3, 1), (4, 1)] [.v (.int .i64 0), .v (.string ⟨#[]⟩), .v (.int .u64 0), .v (.int .i64 0), .v (.int .i64 0)] [(3, p26), (4, p29)]).bind fun p30 =>
(aF 5 [.v (.int .i64 0), .v (.string ⟨#[]⟩), .v (.int .u64 0), .v (.int .i64 0), .v (.int .i64 0)] 1 [(0, p30)]).bind fun p31 =>
(bM r17.2 p31).bind fun ys32 =>
(cj base [.v (.int .i64 0), .v (.string ⟨#[]⟩), .v (.int .u64 0), .v (.int .i64 0), .v (.int .i64 0)] 5 48 (aa vs15 2) ys32 r17.2).bind fun r33 =>
(bm [(0, 1), (1, 1), (2, 1)] [.v (.int .i64 0), .v (.int .i64 0), .v (.int .i64 0)] []).bind fun p34 =>
(au base 3 (aa vs15 1) p34 r33.2).bind fun st35 =>
some (Ex.ret, [r33.1, (aa vs15 1), (aa vs15 2), (aa vs15 3)], st35)
else
some (Ex.normal, [(aa vs15 0), (aa vs15 1), (aa vs15 2), (aa vs15 3)], r17.2)).bind fun r23 =>
bH r23.1 ((call (.func 66) [ai (aa r23.2.1 3)] r23.2.2).bind fun r37 =>
(aS r37.1 0).bind fun p38 =>
(aS r37.1 1).bind fun p39 =>
let q41 : PV := .ptr false r37.2.stk.length 0
let st40 := r37.2.push [.v (.int .i64 0), .v (.string ⟨#[]⟩), .v (.int .u64 0), .v (.int .i64 0), .v (.int .i64 0)]
(au base 5 q41 p38 st40).bind fun st42 =>
(aUn Tryz.prog .not p39).bind fun p43 =>
aw p43 fun b44 => (bif b44 then
(an q41 3).bind fun p46 =>
(aj false 1 p46 st42).bind fun p47 =>
bq (st42 = st42) <|
(an q41 4).bind fun p48 =>
(aj false 1 p48 st42).bind fun p49 =>
bq (st42 = st42) <|
(bm [(0, 1), (1, 1), (2, 1)] [.v (.int .i64 0), .v (.int .i64 0), .v (.int .i64 0)] [(0, (PV.v (.int .i64 3))), (1, p47), (2, p49)]).bind fun p50 =>
(au base 3 (aa r23.2.1 1) p50 st42).bind fun st51 =>
some (Ex.ret, [(PV.sl [] .nil), (aa r23.2.1 1), (aa r23.2.1 2), (aa r23.2.1 3), q41], st51)
else
some (Ex.normal, [(aa r23.2.1 0), (aa r23.2.1 1), (aa r23.2.1 2), (aa r23.2.1 3), q41], st42)).bind fun r45 =>
bH r45.1 ((aj true 5 (aa r45.2.1 4) r45.2.2).bind fun p53 =>
(aF 5 [.v (.int .i64 0), .v (.string ⟨#[]⟩), .v (.int .u64 0), .v (.int .i64 0), .v (.int .i64 0)] 1 [(0, p53)]).bind fun p54 =>
(bM r45.2.2 p54).bind fun ys55 =>
(cj base [.v (.int .i64 0), .v (.string ⟨#[]⟩), .v (.int .u64 0), .v (.int .i64 0), .v (.int .i64 0)] 5 48 (aa r45.2.1 2) ys55 r45.2.2).bind fun r56 =>
dU base lb st16.stk.length Ex.normal [(aa r45.2.1 0), (aa r45.2.1 1), r56.1, (aa r45.2.1 3)] r56.2) fun x52 =>
dU base lb st16.stk.length (Ex.ba 1 x52) [(aa r45.2.1 0), (aa r45.2.1 1), (aa r45.2.1 2), (aa r45.2.1 3)] r45.2.2) fun x36 =>
dU base lb st16.stk.length (Ex.ba 1 x36) [(aa r23.2.1 0), (aa r23.2.1 1), (aa r23.2.1 2), (aa r23.2.1 3)] r23.2.2
noncomputable def S46 (call : bA) (it : bG) (a0 : PV) (st : St) : Option (PV × St) :=
let q2 : PV := .ptr false st.stk.length 0
let st1 := st.push [.v (.int .i64 0), .v (.int .i64 0), .v (.int .i64 0)]
(eV Tryz.prog 9 a0).bind fun p3 =>
(aJ Tryz.prog true .gtr 3 p3 (PV.v (.int .i64 8192))).bind fun p4 =>
aw p4 fun b5 => (bif b5 then
(bm [(0, 1), (1, 1), (2, 1)] [.v (.int .i64 0), .v (.int .i64 0), .v (.int .i64 0)] [(0, (PV.v (.int .i64 10))), (1, (PV.v (.int .i64 1))), (2, (PV.v (.int .i64 1)))]).bind fun p7 =>
(au st.stk.length 3 q2 p7 st1).bind fun st8 =>
some (Ex.ret, [a0, (PV.sl [] .nil), q2], st8)
else
some (Ex.normal, [a0, (PV.sl [] .nil), q2], st1)).bind fun r6 =>
bH r6.1 ((bm [(0, 1), (1, 1), (2, 1)] [.v (.string ⟨#[]⟩), .v (.int .i64 0), .v (.int .i64 0)] [(0, (aa r6.2.1 0)), (1, (PV.v (.int .i64 1))), (2, (PV.v (.int .i64 1)))]).bind fun p10 =>
(cellsOf p10).bind fun b11 =>
let q13 : PV := .ptr false r6.2.2.stk.length 0
let st12 := r6.2.2.push b11
(it (S46.b0 call it st.stk.length st.lp.length) [(aa r6.2.1 1), (aa r6.2.1 2), (PV.sl [] .nil), q13] st12).bind fun r14 =>
dw (Ex.ba 0 r14.1) ((aj true 3 (aa r14.2.1 1) r14.2.2).bind fun p57 =>
fin st.stk.length st.tk.length st.lp.length [(aa r14.2.1 0), p57] r14.2.2)) fun x9 =>
dw x9 ((aj true 3 (aa r6.2.1 2) r6.2.2).bind fun p58 =>
fin st.stk.length st.tk.length st.lp.length [(aa r6.2.1 1), p58] r6.2.2)
theorem GQ (a0 : PV) (st : St) : E L (.func 46) [a0] st = S46 (E L) itE a0 st := (bF (by kernel_rfl) Tryz.func46 _ _).trans (by kernel_rfl)
noncomputable def S67 (call : bA) (it : bG) (a0 : PV) (st : St) : Option (PV × St) :=
let q2 : PV := .ptr false st.stk.length 0
let st1 := st.push [.v (.int .i64 0), .v (.string ⟨#[]⟩), .v (.int .u64 0), .v (.int .i64 0), .v (.int .i64 0)]
(aI a0).bind fun p3 =>
(an p3 0).bind fun p4 =>
(aj false 1 p4 st1).bind fun p5 =>
bq (st1 = st1) <|
(aI a0).bind fun p6 =>
(an p6 1).bind fun p7 =>
(aj false 1 p7 st1).bind fun p8 =>
bq (st1 = st1) <|
(bJ Tryz.prog 101 p5 p8).bind fun p9 =>
(aj true 5 p9 st1).bind fun p10 =>
bq (st1 = st1) <|
(au st.stk.length 5 q2 p10 st1).bind fun st11 =>
(aj true 5 q2 st11).bind fun p12 =>
fin st.stk.length st.tk.length st.lp.length [p12] st11
theorem GZ (a0 : PV) (st : St) : E L (.func 67) [a0] st = S67 (E L) itE a0 st := (bF (by kernel_rfl) Tryz.func67 _ _).trans (by kernel_rfl)
noncomputable def Ey (call : bA) (it : bG) (a0 a1 : PV) (st : St) : Option (PV × St) :=
(call (.func 67) [ai a0] st).bind fun r1 =>
let q3 : PV := .ptr false r1.2.stk.length 0
let st2 := r1.2.push [.v (.int .i64 0), .v (.string ⟨#[]⟩), .v (.int .u64 0), .v (.int .i64 0), .v (.int .i64 0)]
(au st.stk.length 5 q3 r1.1 st2).bind fun st4 =>
(an q3 0).bind fun p5 =>
(aj false 1 p5 st4).bind fun p6 =>
(aJ Tryz.prog true .eql 138 p6 (PV.v (.int .i64 2))).bind fun p7 =>
(onG p7 false (
(an q3 0).bind fun p10 =>
some (p10, st4)) st4).bind fun r9 =>
(onG p7 false (
(aj false 1 r9.1 r9.2).bind fun p13 =>
some (p13, r9.2)) r9.2).bind fun r12 =>
(onG p7 false (
(aJ Tryz.prog true .eql 138 r12.1 (PV.v (.int .i64 5))).bind fun p16 =>
some (p16, r12.2)) r12.2).bind fun r15 =>
(bQ p7 (PV.v (.bool true)) r15.1).bind fun p17 =>
(onG p17 true (
(an q3 1).bind fun p20 =>
some (p20, r15.2)) r15.2).bind fun r19 =>
(onG p17 true (
(aj false 1 r19.1 r19.2).bind fun p23 =>
some (p23, r19.2)) r19.2).bind fun r22 =>
(onG p17 true (
some (a1, r22.2)) r22.2).bind fun r25 =>
(onG p17 true (
(aJ Tryz.prog false .eql 9 r22.1 r25.1).bind fun p28 =>
some (p28, r25.2)) r25.2).bind fun r27 =>
(bQ p17 r27.1 (PV.v (.bool false))).bind fun p29 =>
fin st.stk.length st.tk.length st.lp.length [p29] r27.2
theorem Ez (a0 a1 : PV) (st : St) : E L (.func 120) [a0, a1] st = Ey (E L) itE a0 a1 st := (bF (by kernel_rfl) Tryz.func120 _ _).trans (by kernel_rfl)
noncomputable def S68 (call : bA) (it : bG) (a0 a1 : PV) (st : St) : Option (PV × St) :=
(call (.func 120) [ai a0, ai a1] st).bind fun r1 =>
aw r1.1 fun b2 => (bif b2 then
(aI a0).bind fun p4 =>
(an p4 1).bind fun p5 =>
(aj false 1 p5 r1.2).bind fun p6 =>
(aJ Tryz.prog true .add 3 p6 (PV.v (.int .i64 1))).bind fun p7 =>
(aI a0).bind fun p8 =>
(an p8 1).bind fun p9 =>
(au st.stk.length 1 p9 p7 r1.2).bind fun st10 =>
some (Ex.ret, [(PV.v (.bool true))], st10)
else
some (Ex.normal, [(PV.v (.bool false))], r1.2)).bind fun r3 =>
bH r3.1 (fin st.stk.length st.tk.length st.lp.length [(PV.v (.bool false))] r3.2.2) fun x11 =>
dw x11 (fin st.stk.length st.tk.length st.lp.length [(aa r3.2.1 0)] r3.2.2)
theorem G0 (a0 a1 : PV) (st : St) : E L (.func 68) [a0, a1] st = S68 (E L) itE a0 a1 st := (bF (by kernel_rfl) Tryz.func68 _ _).trans (by kernel_rfl)
noncomputable def S74 (call : bA) (it : bG) (a0 a1 a2 : PV) (st : St) : Option (PV × St) :=
(cellsOf a2).bind fun b1 =>
let q3 : PV := .ptr false st.stk.length 0
let st2 := st.push b1
(an q3 3).bind fun p4 =>
(aj false 1 p4 st2).bind fun p5 =>
(an q3 4).bind fun p6 =>
(aj false 1 p6 st2).bind fun p7 =>
(bm [(0, 1), (1, 1), (2, 1)] [.v (.int .i64 0), .v (.int .i64 0), .v (.int .i64 0)] [(0, a1), (1, p5), (2, p7)]).bind fun p8 =>
(aI a0).bind fun p9 =>
(an p9 3).bind fun p10 =>
(au st.stk.length 3 p10 p8 st2).bind fun st11 =>
(bm [] [] []).bind fun p12 =>
(jh Tryz.prog 108 p12).bind fun p13 =>
uw p13 fun t14 x15 =>
some (PV.pan t14 x15, st11.back st.stk.length st.tk.length st.lp.length)
theorem G3 (a0 a1 a2 : PV) (st : St) : E L (.func 74) [a0, a1, a2] st = S74 (E L) itE a0 a1 a2 st := (bF (by kernel_rfl) Tryz.func74 _ _).trans (by kernel_rfl)
noncomputable def S71 (call : bA) (it : bG) (a0 a1 : PV) (st : St) : Option (PV × St) :=
let q2 : PV := .ptr false st.stk.length 0
let st1 := st.push [.v (.int .i64 0), .v (.string ⟨#[]⟩), .v (.int .u64 0), .v (.int .i64 0), .v (.int .i64 0)]
(call (.func 67) [ai a0] st1).bind fun r3 =>
let q5 : PV := .ptr false r3.2.stk.length 0
let st4 := r3.2.push [.v (.int .i64 0), .v (.string ⟨#[]⟩), .v (.int .u64 0), .v (.int .i64 0), .v (.int .i64 0)]
(au st.stk.length 5 q5 r3.1 st4).bind fun st6 =>
(call (.func 68) [ai a0, ai a1] st6).bind fun r7 =>
(aUn Tryz.prog .not r7.1).bind fun p8 =>
aw p8 fun b9 => (bif b9 then
(aj true 5 q5 r7.2).bind fun p11 =>
(call (.func 74) [ai a0, ai (PV.v (.int .i64 4)), ai p11] r7.2).bind fun r12 =>
aZ r12 (fun p13 st14 =>
some (Ex.normal, [q2, q5], st14)) (fun t15 x16 st17 =>
some ((Ex.pan t15 x16), [q2, q5], st17))
else
some (Ex.normal, [q2, q5], r7.2)).bind fun r10 =>
bH r10.1 ((aj true 5 (aa r10.2.1 1) r10.2.2).bind fun p19 =>
(au st.stk.length 5 (aa r10.2.1 0) p19 r10.2.2).bind fun st20 =>
(aj true 5 (aa r10.2.1 0) st20).bind fun p21 =>
fin st.stk.length st.tk.length st.lp.length [p21] st20) fun x18 =>
gm st.stk.length st.tk.length st.lp.length x18 r10.2.2 ((aj true 5 (aa r10.2.1 0) r10.2.2).bind fun p22 =>
fin st.stk.length st.tk.length st.lp.length [p22] r10.2.2)
theorem B7 (a0 a1 : PV) (st : St) : E L (.func 71) [a0, a1] st = S71 (E L) itE a0 a1 st := (bF (by kernel_rfl) Tryz.func71 _ _).trans (by kernel_rfl)
noncomputable def GJ (call : bA) (it : bG) (a0 : PV) (st : St) : Option (PV × St) :=
let q2 : PV := .ptr false st.stk.length 0
let st1 := st.push [.v (.int .i64 0), .v (.string ⟨#[]⟩), .v (.int .u64 0), .v (.int .i64 0), .v (.int .i64 0)]
(aI a0).bind fun p3 =>
(an p3 0).bind fun p4 =>
(aj false 1 p4 st1).bind fun p5 =>
bq (st1 = st1) <|
(aI a0).bind fun p6 =>
(an p6 1).bind fun p7 =>
(aj false 1 p7 st1).bind fun p8 =>
bq (st1 = st1) <|
(bJ Tryz.prog 101 p5 p8).bind fun p9 =>
(aj true 5 p9 st1).bind fun p10 =>
bq (st1 = st1) <|
let q12 : PV := .ptr false st1.stk.length 0
let st11 := st1.push [.v (.int .i64 0), .v (.string ⟨#[]⟩), .v (.int .u64 0), .v (.int .i64 0), .v (.int .i64 0)]
bq (((aj true 5 p9 st11).bind fun p13 =>
some (Rs.ret p13, st11)) = some (Rs.ret p10, st11)) <|
bq (((aj false 1 p7 st11).bind fun p14 =>
some (Rs.ret p14, st11)) = some (Rs.ret p8, st11)) <|
bq (((aj false 1 p4 st11).bind fun p15 =>
some (Rs.ret p15, st11)) = some (Rs.ret p5, st11)) <|
(au st.stk.length 5 q12 p10 st11).bind fun st16 =>
(an q12 0).bind fun p17 =>
(aj false 1 p17 st16).bind fun p18 =>
(aJ Tryz.prog true .neq 138 p18 (PV.v (.int .i64 0))).bind fun p19 =>
aw p19 fun b20 => (bif b20 then
(aI a0).bind fun p22 =>
(an p22 1).bind fun p23 =>
(aj false 1 p23 st16).bind fun p24 =>
(aJ Tryz.prog true .add 3 p24 (PV.v (.int .i64 1))).bind fun p25 =>
(aI a0).bind fun p26 =>
(an p26 1).bind fun p27 =>
(au st.stk.length 1 p27 p25 st16).bind fun st28 =>
some (Ex.normal, [q2, q12], st28)
else
some (Ex.normal, [q2, q12], st16)).bind fun r21 =>
bH r21.1 ((aj true 5 (aa r21.2.1 1) r21.2.2).bind fun p30 =>
(au st.stk.length 5 (aa r21.2.1 0) p30 r21.2.2).bind fun st31 =>
(aj true 5 (aa r21.2.1 0) st31).bind fun p32 =>
fin st.stk.length st.tk.length st.lp.length [p32] st31) fun x29 =>
dw x29 ((aj true 5 (aa r21.2.1 0) r21.2.2).bind fun p33 =>
fin st.stk.length st.tk.length st.lp.length [p33] r21.2.2)
theorem EI (a0 : PV) (st : St) : E L (.func 151) [a0] st = GJ (E L) itE a0 st := (bF (by kernel_rfl) Tryz.func151 _ _).trans (by kernel_rfl)
noncomputable def GF (call : bA) (it : bG) (a0 a1 : PV) (st : St) : Option (PV × St) :=
let q2 : PV := .ptr false st.stk.length 0
let st1 := st.push [.v (.int .i64 0), .v (.string ⟨#[]⟩), .v (.int .u64 0), .v (.int .i64 0), .v (.int .i64 0)]
(call (.func 67) [ai a0] st1).bind fun r3 =>
let q5 : PV := .ptr false r3.2.stk.length 0
let st4 := r3.2.push [.v (.int .i64 0), .v (.string ⟨#[]⟩), .v (.int .u64 0), .v (.int .i64 0), .v (.int .i64 0)]
(au st.stk.length 5 q5 r3.1 st4).bind fun st6 =>
(an q5 0).bind fun p7 =>
(aj false 1 p7 st6).bind fun p8 =>
(aJ Tryz.prog false .neq 138 p8 a1).bind fun p9 =>
aw p9 fun b10 => (bif b10 then
(aj true 5 q5 st6).bind fun p12 =>
(call (.func 74) [ai a0, ai (PV.v (.int .i64 4)), ai p12] st6).bind fun r13 =>
aZ r13 (fun p14 st15 =>
some (Ex.normal, [a0, q2], st15)) (fun t16 x17 st18 =>
some ((Ex.pan t16 x17), [a0, q2], st18))
else
some (Ex.normal, [a0, q2], st6)).bind fun r11 =>
bH r11.1 ((call (.func 151) [ai (aa r11.2.1 0)] r11.2.2).bind fun r20 =>
(au st.stk.length 5 (aa r11.2.1 1) r20.1 r20.2).bind fun st21 =>
(aj true 5 (aa r11.2.1 1) st21).bind fun p22 =>
fin st.stk.length st.tk.length st.lp.length [p22] st21) fun x19 =>
gm st.stk.length st.tk.length st.lp.length x19 r11.2.2 ((aj true 5 (aa r11.2.1 1) r11.2.2).bind fun p23 =>
fin st.stk.length st.tk.length st.lp.length [p23] r11.2.2)
theorem zc (a0 a1 : PV) (st : St) : E L (.func 121) [a0, a1] st = GF (E L) itE a0 a1 st := (bF (by kernel_rfl) Tryz.func121 _ _).trans (by kernel_rfl)
noncomputable def nu.b0 (call : bA) (it : bG) (base lb : Nat) (vs5 : List PV) (st6 : St) : Option (Ex × List PV × St) :=
(aJ Tryz.prog true .lss 3 (aa vs5 3) (PV.v (.int .i64 4))).bind fun p7 =>
aw p7 fun b8 => (bif b8 then
some (Ex.normal, [(aa vs5 0), (aa vs5 1), (aa vs5 2), (aa vs5 3)], st6)
else
some ((Ex.exit 0), [(aa vs5 0), (aa vs5 1), (aa vs5 2), (aa vs5 3)], st6)).bind fun r9 =>
bH r9.1 ((cJ Tryz.prog 199 (aa r9.2.1 2) (aa r9.2.1 3)).bind fun p11 =>
(aJ Tryz.prog true .neq 9 p11 (PV.v (.string ⟨#[]⟩))).bind fun p12 =>
(onG p12 true (
some ((aa r9.2.1 0), r9.2.2)) r9.2.2).bind fun r14 =>
(onG p12 true (
some (p11, r14.2)) r14.2).bind fun r16 =>
(onG p12 true (
(call (.func 68) [ai r14.1, ai r16.1] r16.2).bind fun r19 =>
some (r19.1, r19.2)) r16.2).bind fun r18 =>
(bQ p12 r18.1 (PV.v (.bool false))).bind fun p20 =>
aw p20 fun b21 => (bif b21 then
(bm [(0, 1), (1, 1)] [.v (.int .i64 0), .v (.string ⟨#[]⟩)] [(0, (aa r9.2.1 3))]).bind fun p23 =>
(au base 2 (aa r9.2.1 1) p23 r18.2).bind fun st24 =>
some (Ex.ret, [(aa r9.2.1 0), (aa r9.2.1 1), (aa r9.2.1 2), (aa r9.2.1 3)], st24)
else
some (Ex.normal, [(aa r9.2.1 0), (aa r9.2.1 1), (aa r9.2.1 2), (aa r9.2.1 3)], r18.2)).bind fun r22 =>
bH (Ex.ba 1 r22.1) ((aJ Tryz.prog true .add 3 (aa r22.2.1 3) (PV.v (.int .i64 1))).bind fun p26 =>
some (Ex.normal, [(aa r22.2.1 0), (aa r22.2.1 1), (aa r22.2.1 2), p26], r22.2.2)) fun x25 =>
some (x25, [(aa r22.2.1 0), (aa r22.2.1 1), (aa r22.2.1 2), (aa r22.2.1 3)], r22.2.2)) fun x10 =>
some (x10, [(aa r9.2.1 0), (aa r9.2.1 1), (aa r9.2.1 2), (aa r9.2.1 3)], r9.2.2)
noncomputable def nu (call : bA) (it : bG) (a0 : PV) (st : St) : Option (PV × St) :=
let q2 : PV := .ptr false st.stk.length 0
let st1 := st.push [.v (.int .i64 0), .v (.string ⟨#[]⟩)]
(kC Tryz.prog 199 [(0, (PV.v (.string ⟨#[]⟩))), (1, (PV.v (.string ⟨#[105, 110, 116]⟩))), (2, (PV.v (.string ⟨#[114, 101, 97, 108]⟩))), (3, (PV.v (.string ⟨#[105, 110, 116, 115]⟩)))]).bind fun p3 =>
(it (nu.b0 call it st.stk.length st.lp.length) [a0, q2, p3, (PV.v (.int .i64 0))] st1).bind fun r4 =>
bH (Ex.ba 0 r4.1) ((call (.func 121) [ai (aa r4.2.1 0), ai (PV.v (.int .i64 1))] r4.2.2).bind fun r28 =>
aZ r28 (fun p29 st30 =>
(gK Tryz.prog 140 p29 1).bind fun p34 =>
(bm [(0, 1), (1, 1)] [.v (.int .i64 0), .v (.string ⟨#[]⟩)] [(0, (PV.v (.int .i64 4))), (1, p34)]).bind fun p35 =>
(au st.stk.length 2 (aa r4.2.1 1) p35 st30).bind fun st36 =>
(aj true 2 (aa r4.2.1 1) st36).bind fun p37 =>
fin st.stk.length st.tk.length st.lp.length [p37] st36) (fun t31 x32 st33 =>
some (PV.pan t31 x32, st33.back st.stk.length st.tk.length st.lp.length))) fun x27 =>
gm st.stk.length st.tk.length st.lp.length x27 r4.2.2 ((aj true 2 (aa r4.2.1 1) r4.2.2).bind fun p38 =>
fin st.stk.length st.tk.length st.lp.length [p38] r4.2.2)
theorem pq (a0 : PV) (st : St) : E L (.func 122) [a0] st = nu (E L) itE a0 st := (bF (by kernel_rfl) Tryz.func122 _ _).trans (by kernel_rfl)
noncomputable def S70 (call : bA) (it : bG) (a0 : PV) (st : St) : Option (PV × St) :=
let q2 : PV := .ptr false st.stk.length 0
let st1 := st.push [.v (.string ⟨#[]⟩), .v (.int .i64 0), .v (.string ⟨#[]⟩), .v (.int .i64 0), .v (.int .i64 0)]
(call (.func 121) [ai a0, ai (PV.v (.int .i64 1))] st1).bind fun r3 =>
aZ r3 (fun p4 st5 =>
let q10 : PV := .ptr false st5.stk.length 0
let st9 := st5.push [.v (.int .i64 0), .v (.string ⟨#[]⟩), .v (.int .u64 0), .v (.int .i64 0), .v (.int .i64 0)]
(au st.stk.length 5 q10 p4 st9).bind fun st11 =>
(call (.func 71) [ai a0, ai (PV.v (.string ⟨#[58]⟩))] st11).bind fun r12 =>
aZ r12 (fun p13 st14 =>
(an q10 1).bind fun p18 =>
(aj false 1 p18 st14).bind fun p19 =>
bq (st14 = st14) <|
(call (.func 122) [ai a0] st14).bind fun r20 =>
aZ r20 (fun p21 st22 =>
bq (((aj false 1 p18 st22).bind fun p26 =>
some (Rs.ret p26, st22)) = some (Rs.ret p19, st22)) <|
(an q10 3).bind fun p27 =>
(aj false 1 p27 st22).bind fun p28 =>
bq (st22 = st22) <|
bq (((aj false 1 p27 st14).bind fun p29 =>
some (Rs.ret p29, st14)) = some (Rs.ret p28, st14)) <|
(an q10 4).bind fun p30 =>
(aj false 1 p30 st22).bind fun p31 =>
bq (st22 = st22) <|
bq (((aj false 1 p30 st14).bind fun p32 =>
some (Rs.ret p32, st14)) = some (Rs.ret p31, st14)) <|
(bm [(0, 1), (1, 2), (3, 1), (4, 1)] [.v (.string ⟨#[]⟩), .v (.int .i64 0), .v (.string ⟨#[]⟩), .v (.int .i64 0), .v (.int .i64 0)] [(0, p19), (1, p21), (2, p28), (3, p31)]).bind fun p33 =>
(au st.stk.length 5 q2 p33 st22).bind fun st34 =>
(aj true 5 q2 st34).bind fun p35 =>
fin st.stk.length st.tk.length st.lp.length [p35] st34) (fun t23 x24 st25 =>
(an q10 3).bind fun p36 =>
(aj false 1 p36 st14).bind fun p37 =>
bq (st14 = st14) <|
(an q10 4).bind fun p38 =>
(aj false 1 p38 st14).bind fun p39 =>
bq (st14 = st14) <|
some (PV.pan t23 x24, st25.back st.stk.length st.tk.length st.lp.length))) (fun t15 x16 st17 =>
some (PV.pan t15 x16, st17.back st.stk.length st.tk.length st.lp.length))) (fun t6 x7 st8 =>
some (PV.pan t6 x7, st8.back st.stk.length st.tk.length st.lp.length))
theorem uW (a0 : PV) (st : St) : E L (.func 70) [a0] st = S70 (E L) itE a0 st := (bF (by kernel_rfl) Tryz.func70 _ _).trans (by kernel_rfl)
noncomputable def S69.b0 (call : bA) (it : bG) (base lb : Nat) (vs29 : List PV) (st30 : St) : Option (Ex × List PV × St) :=
(call (.func 68) [ai (aa vs29 0), ai (PV.v (.string ⟨#[125]⟩))] st30).bind fun r31 =>
(aUn Tryz.prog .not r31.1).bind fun p32 =>
aw p32 fun b33 => (bif b33 then
some (Ex.normal, [(aa vs29 0), (aa vs29 1), (aa vs29 2)], r31.2)
else
some ((Ex.exit 0), [(aa vs29 0), (aa vs29 1), (aa vs29 2)], r31.2)).bind fun r34 =>
bH r34.1 ((an (aa r34.2.1 2) 1).bind fun p36 =>
(aj false 1 p36 r34.2.2).bind fun p37 =>
bq (r34.2.2 = r34.2.2) <|
(call (.func 70) [ai (aa r34.2.1 0)] r34.2.2).bind fun r38 =>
aZ r38 (fun p39 st40 =>
bq (((aj false 1 p36 st40).bind fun p44 =>
some (Rs.ret p44, st40)) = some (Rs.ret p37, st40)) <|
(aF 5 [.v (.string ⟨#[]⟩), .v (.int .i64 0), .v (.string ⟨#[]⟩), .v (.int .i64 0), .v (.int .i64 0)] 1 [(0, p39)]).bind fun p45 =>
(bM st40 p45).bind fun ys46 =>
(cj base [.v (.string ⟨#[]⟩), .v (.int .i64 0), .v (.string ⟨#[]⟩), .v (.int .i64 0), .v (.int .i64 0)] 5 56 p37 ys46 st40).bind fun r47 =>
(an (aa r34.2.1 2) 1).bind fun p48 =>
(au base 1 p48 r47.1 r47.2).bind fun st49 =>
(call (.func 71) [ai (aa r34.2.1 0), ai (PV.v (.string ⟨#[59]⟩))] st49).bind fun r50 =>
aZ r50 (fun p51 st52 =>
some (Ex.normal, [(aa r34.2.1 0), (aa r34.2.1 1), (aa r34.2.1 2)], st52)) (fun t53 x54 st55 =>
some ((Ex.pan t53 x54), [(aa r34.2.1 0), (aa r34.2.1 1), (aa r34.2.1 2)], st55))) (fun t41 x42 st43 =>
some ((Ex.pan t41 x42), [(aa r34.2.1 0), (aa r34.2.1 1), (aa r34.2.1 2)], st43))) fun x35 =>
some (x35, [(aa r34.2.1 0), (aa r34.2.1 1), (aa r34.2.1 2)], r34.2.2)
noncomputable def S69 (call : bA) (it : bG) (a0 : PV) (st : St) : Option (PV × St) :=
let q2 : PV := .ptr false st.stk.length 0
let st1 := st.push [.v (.string ⟨#[]⟩), .sl [] .nil, .v (.int .i64 0), .v (.int .i64 0)]
(call (.func 121) [ai a0, ai (PV.v (.int .i64 1))] st1).bind fun r3 =>
aZ r3 (fun p4 st5 =>
let q10 : PV := .ptr false st5.stk.length 0
let st9 := st5.push [.v (.int .i64 0), .v (.string ⟨#[]⟩), .v (.int .u64 0), .v (.int .i64 0), .v (.int .i64 0)]
(au st.stk.length 5 q10 p4 st9).bind fun st11 =>
(an q10 1).bind fun p12 =>
(aj false 1 p12 st11).bind fun p13 =>
(an q10 3).bind fun p14 =>
(aj false 1 p14 st11).bind fun p15 =>
(an q10 4).bind fun p16 =>
(aj false 1 p16 st11).bind fun p17 =>
(bm [(0, 1), (1, 1), (2, 1), (3, 1)] [.v (.string ⟨#[]⟩), .sl [] .nil, .v (.int .i64 0), .v (.int .i64 0)] [(0, p13), (2, p15), (3, p17)]).bind fun p18 =>
let q20 : PV := .ptr false st11.stk.length 0
let st19 := st11.push [.v (.string ⟨#[]⟩), .sl [] .nil, .v (.int .i64 0), .v (.int .i64 0)]
(au st.stk.length 4 q20 p18 st19).bind fun st21 =>
(call (.func 71) [ai a0, ai (PV.v (.string ⟨#[123]⟩))] st21).bind fun r22 =>
aZ r22 (fun p23 st24 =>
(it (S69.b0 call it st.stk.length st.lp.length) [a0, q2, q20] st24).bind fun r28 =>
bH (Ex.ba 0 r28.1) ((aj true 4 (aa r28.2.1 2) r28.2.2).bind fun p57 =>
(au st.stk.length 4 (aa r28.2.1 1) p57 r28.2.2).bind fun st58 =>
(aj true 4 (aa r28.2.1 1) st58).bind fun p59 =>
fin st.stk.length st.tk.length st.lp.length [p59] st58) fun x56 =>
gm st.stk.length st.tk.length st.lp.length x56 r28.2.2 ((aj true 4 (aa r28.2.1 1) r28.2.2).bind fun p60 =>
fin st.stk.length st.tk.length st.lp.length [p60] r28.2.2)) (fun t25 x26 st27 =>
some (PV.pan t25 x26, st27.back st.stk.length st.tk.length st.lp.length))) (fun t6 x7 st8 =>
some (PV.pan t6 x7, st8.back st.stk.length st.tk.length st.lp.length))
theorem uV (a0 : PV) (st : St) : E L (.func 69) [a0] st = S69 (E L) itE a0 st := (bF (by kernel_rfl) Tryz.func69 _ _).trans (by kernel_rfl)
noncomputable def GG (call : bA) (it : bG) (a0 a1 : PV) (st : St) : Option (PV × St) :=
(cellsOf a1).bind fun b1 =>
let q3 : PV := .ptr false st.stk.length 0
let st2 := st.push b1
(aI a0).bind fun p4 =>
(an p4 2).bind fun p5 =>
(aj false 1 p5 st2).bind fun p6 =>
(aJ Tryz.prog true .add 3 p6 (PV.v (.int .i64 1))).bind fun p7 =>
(aI a0).bind fun p8 =>
(an p8 2).bind fun p9 =>
(au st.stk.length 1 p9 p7 st2).bind fun st10 =>
(aI a0).bind fun p11 =>
(an p11 2).bind fun p12 =>
(aj false 1 p12 st10).bind fun p13 =>
(aJ Tryz.prog true .gtr 3 p13 (PV.v (.int .i64 12))).bind fun p14 =>
aw p14 fun b15 => (bif b15 then
(aj true 5 q3 st10).bind fun p17 =>
(call (.func 74) [ai a0, ai (PV.v (.int .i64 10)), ai p17] st10).bind fun r18 =>
aZ r18 (fun p19 st20 =>
some (Ex.normal, ([] : List PV), st20)) (fun t21 x22 st23 =>
some ((Ex.pan t21 x22), ([] : List PV), st23))
else
some (Ex.normal, ([] : List PV), st10)).bind fun r16 =>
gm st.stk.length st.tk.length st.lp.length r16.1 r16.2.2 (fin st.stk.length st.tk.length st.lp.length [] r16.2.2)
theorem zd (a0 a1 : PV) (st : St) : E L (.func 123) [a0, a1] st = GG (E L) itE a0 a1 st := (bF (by kernel_rfl) Tryz.func123 _ _).trans (by kernel_rfl)
noncomputable def EJ (call : bA) (it : bG) (a0 a1 : PV) (st : St) : Option (PV × St) :=
(cellsOf a1).bind fun b1 =>
let q3 : PV := .ptr false st.stk.length 0
let st2 := st.push b1
let q5 : PV := .ptr false st2.stk.length 0
let st4 := st2.push [.v (.int .i64 0), .v (.string ⟨#[]⟩), .v (.int .i64 0), .v (.int .i64 0), .v (.int .i64 0), .v (.int .u64 0), .v (.int .i64 0), .v (.string ⟨#[]⟩), .v (.string ⟨#[]⟩), .sl [] .nil, .v (.int .i64 0), .v (.int .i64 0), .v (.int .i64 0), .v (.string ⟨#[]⟩), .v (.string ⟨#[]⟩), .v (.int .i64 0), .v (.int .i64 0), .v (.int .u64 0), .v (.int .i64 0), .v (.string ⟨#[]⟩), .v (.string ⟨#[]⟩), .sl [] .nil, .v (.int .i64 0), .v (.int .i64 0), .v (.int .i64 0), .v (.int .i64 0), .v (.string ⟨#[]⟩), .v (.int .i64 0), .v (.int .i64 0), .v (.int .i64 0), .v (.string ⟨#[]⟩), .v (.string ⟨#[]⟩), .v (.int .i64 0), .v (.int .i64 0), .v (.int .u64 0), .v (.int .i64 0), .v (.string ⟨#[]⟩), .v (.string ⟨#[]⟩), .sl [] .nil, .v (.int .i64 0), .v (.int .i64 0), .v (.int .i64 0), .v (.int .i64 0), .v (.int .i64 0), .v (.int .i64 0), .v (.int .u64 0), .v (.int .i64 0), .v (.string ⟨#[]⟩), .v (.string ⟨#[]⟩), .sl [] .nil, .v (.int .i64 0), .v (.int .i64 0), .v (.int .i64 0), .sl [] .nil, .sl [] .nil, .sl [] .nil, .v (.int .i64 0), .v (.int .i64 0)]
(an q3 0).bind fun p6 =>
(au st.stk.length 1 p6 (PV.v (.int .i64 7)) st4).bind fun st7 =>
(call (.func 121) [ai a0, ai (PV.v (.int .i64 3))] st7).bind fun r8 =>
aZ r8 (fun p9 st10 =>
(gK Tryz.prog 140 p9 2).bind fun p14 =>
(fw Tryz.prog 34 3 p14).bind fun p15 =>
(an q3 52).bind fun p16 =>
(au st.stk.length 1 p16 p15 st10).bind fun st17 =>
(call (.func 73) [ai a0] st17).bind fun r18 =>
aZ r18 (fun p19 st20 =>
(an q3 54).bind fun p24 =>
(au st.stk.length 1 p24 p19 st20).bind fun st25 =>
(aj true 58 q3 st25).bind fun p26 =>
(au st.stk.length 58 q5 p26 st25).bind fun st27 =>
(aj true 58 q5 st27).bind fun p28 =>
fin st.stk.length st.tk.length st.lp.length [p28] st27) (fun t21 x22 st23 =>
some (PV.pan t21 x22, st23.back st.stk.length st.tk.length st.lp.length))) (fun t11 x12 st13 =>
some (PV.pan t11 x12, st13.back st.stk.length st.tk.length st.lp.length))
theorem uU (a0 a1 : PV) (st : St) : E L (.func 153) [a0, a1] st = EJ (E L) itE a0 a1 st := (bF (by kernel_rfl) Tryz.func153 _ _).trans (by kernel_rfl)
noncomputable def B5 (call : bA) (it : bG) (a0 : PV) (st : St) : Option (PV × St) :=
(aJ Tryz.prog true .eql 9 a0 (PV.v (.string ⟨#[45]⟩))).bind fun p1 =>
aw p1 fun b2 => (bif b2 then
some (Ex.ret, [(PV.v (.int .i64 6))], st)
else
(aJ Tryz.prog true .eql 9 a0 (PV.v (.string ⟨#[114, 101, 97, 108]⟩))).bind fun p4 =>
aw p4 fun b5 => (bif b5 then
some (Ex.ret, [(PV.v (.int .i64 7))], st)
else
(aJ Tryz.prog true .eql 9 a0 (PV.v (.string ⟨#[116, 114, 117, 110, 99]⟩))).bind fun p7 =>
aw p7 fun b8 => (bif b8 then
some (Ex.ret, [(PV.v (.int .i64 8))], st)
else
some (Ex.normal, [(PV.v (.int .i64 0))], st)).bind fun r9 =>
some (r9.1, [(aa r9.2.1 0)], r9.2.2)).bind fun r6 =>
some (r6.1, [(aa r6.2.1 0)], r6.2.2)).bind fun r3 =>
bH (Ex.ba 0 r3.1) (fin st.stk.length st.tk.length st.lp.length [(PV.v (.int .i64 0))] r3.2.2) fun x10 =>
dw x10 (fin st.stk.length st.tk.length st.lp.length [(aa r3.2.1 0)] r3.2.2)
theorem EO (a0 : PV) (st : St) : E L (.func 197) [a0] st = B5 (E L) itE a0 st := (bF (by kernel_rfl) Tryz.func197 _ _).trans (by kernel_rfl)
noncomputable def oE (call : bA) (it : bG) (a0 : PV) (st : St) : Option (PV × St) :=
let q2 : PV := .ptr false st.stk.length 0
let st1 := st.push [.v (.int .i64 0), .v (.int .i64 0), .v (.int .u64 0), .v (.int .i64 0), .v (.string ⟨#[]⟩), .v (.string ⟨#[]⟩), .sl [] .nil, .v (.int .i64 0), .v (.int .i64 0)]
(call (.func 151) [ai a0] st1).bind fun r3 =>
let q5 : PV := .ptr false r3.2.stk.length 0
let st4 := r3.2.push [.v (.int .i64 0), .v (.string ⟨#[]⟩), .v (.int .u64 0), .v (.int .i64 0), .v (.int .i64 0)]
(au st.stk.length 5 q5 r3.1 st4).bind fun st6 =>
(an q5 3).bind fun p7 =>
(aj false 1 p7 st6).bind fun p8 =>
(an q5 4).bind fun p9 =>
(aj false 1 p9 st6).bind fun p10 =>
(bm [(0, 1), (1, 1), (2, 1), (3, 2), (5, 1), (6, 1), (7, 1), (8, 1)] [.v (.int .i64 0), .v (.int .i64 0), .v (.int .u64 0), .v (.int .i64 0), .v (.string ⟨#[]⟩), .v (.string ⟨#[]⟩), .sl [] .nil, .v (.int .i64 0), .v (.int .i64 0)] [(6, p8), (7, p10)]).bind fun p11 =>
let q13 : PV := .ptr false st6.stk.length 0
let st12 := st6.push [.v (.int .i64 0), .v (.int .i64 0), .v (.int .u64 0), .v (.int .i64 0), .v (.string ⟨#[]⟩), .v (.string ⟨#[]⟩), .sl [] .nil, .v (.int .i64 0), .v (.int .i64 0)]
(au st.stk.length 9 q13 p11 st12).bind fun st14 =>
(an q5 0).bind fun p15 =>
(aj false 1 p15 st14).bind fun p16 =>
(aJ Tryz.prog true .eql 138 p16 (PV.v (.int .i64 3))).bind fun p17 =>
aw p17 fun b18 => (bif b18 then
(an q5 2).bind fun p20 =>
(aj false 1 p20 st14).bind fun p21 =>
bq (st14 = st14) <|
(an q13 0).bind fun p22 =>
(au st.stk.length 1 p22 (PV.v (.int .i64 1)) st14).bind fun st23 =>
bq (((aj false 1 p20 st23).bind fun p24 =>
some (Rs.ret p24, st23)) = some (Rs.ret p21, st23)) <|
(an q13 2).bind fun p25 =>
(au st.stk.length 1 p25 p21 st23).bind fun st26 =>
some (Ex.normal, [q2, q13], st26)
else
(an q5 0).bind fun p27 =>
(aj false 1 p27 st14).bind fun p28 =>
(aJ Tryz.prog true .eql 138 p28 (PV.v (.int .i64 4))).bind fun p29 =>
aw p29 fun b30 => (bif b30 then
(an q5 2).bind fun p32 =>
(aj false 1 p32 st14).bind fun p33 =>
bq (st14 = st14) <|
(an q13 0).bind fun p34 =>
(au st.stk.length 1 p34 (PV.v (.int .i64 2)) st14).bind fun st35 =>
bq (((aj false 1 p32 st35).bind fun p36 =>
some (Rs.ret p36, st35)) = some (Rs.ret p33, st35)) <|
(an q13 2).bind fun p37 =>
(au st.stk.length 1 p37 p33 st35).bind fun st38 =>
some (Ex.normal, [q2, q13], st38)
else
(an q5 0).bind fun p39 =>
(aj false 1 p39 st14).bind fun p40 =>
(aJ Tryz.prog true .eql 138 p40 (PV.v (.int .i64 1))).bind fun p41 =>
aw p41 fun b42 => (bif b42 then
(an q5 1).bind fun p44 =>
(aj false 1 p44 st14).bind fun p45 =>
bq (st14 = st14) <|
(an q13 0).bind fun p46 =>
(au st.stk.length 1 p46 (PV.v (.int .i64 5)) st14).bind fun st47 =>
bq (((aj false 1 p44 st47).bind fun p48 =>
some (Rs.ret p48, st47)) = some (Rs.ret p45, st47)) <|
(an q13 5).bind fun p49 =>
(au st.stk.length 1 p49 p45 st47).bind fun st50 =>
some (Ex.normal, [q2, q13], st50)
else
(an q5 0).bind fun p51 =>
(aj false 1 p51 st14).bind fun p52 =>
(aJ Tryz.prog true .eql 138 p52 (PV.v (.int .i64 2))).bind fun p53 =>
(onG p53 true (
(an q5 1).bind fun p56 =>
some (p56, st14)) st14).bind fun r55 =>
(onG p53 true (
(aj false 1 r55.1 r55.2).bind fun p59 =>
some (p59, r55.2)) r55.2).bind fun r58 =>
(onG p53 true (
(aJ Tryz.prog true .eql 9 r58.1 (PV.v (.string ⟨#[105, 110, 112, 117, 116]⟩))).bind fun p62 =>
some (p62, r58.2)) r58.2).bind fun r61 =>
(bQ p53 r61.1 (PV.v (.bool false))).bind fun p63 =>
aw p63 fun b64 => (bif b64 then
(call (.func 121) [ai a0, ai (PV.v (.int .i64 3))] r61.2).bind fun r66 =>
aZ r66 (fun p67 st68 =>
(gK Tryz.prog 140 p67 2).bind fun p72 =>
(an q13 0).bind fun p73 =>
(au st.stk.length 1 p73 (PV.v (.int .i64 4)) st68).bind fun st74 =>
(an q13 2).bind fun p75 =>
(au st.stk.length 1 p75 p72 st74).bind fun st76 =>
some (Ex.normal, [q2, q13], st76)) (fun t69 x70 st71 =>
some ((Ex.pan t69 x70), [q2, q13], st71))
else
(an q5 0).bind fun p77 =>
(aj false 1 p77 r61.2).bind fun p78 =>
(aJ Tryz.prog true .eql 138 p78 (PV.v (.int .i64 2))).bind fun p79 =>
(onG p79 true (
(an q5 1).bind fun p82 =>
some (p82, r61.2)) r61.2).bind fun r81 =>
(onG p79 true (
(aj false 1 r81.1 r81.2).bind fun p85 =>
some (p85, r81.2)) r81.2).bind fun r84 =>
(onG p79 true (
(aJ Tryz.prog true .eql 9 r84.1 (PV.v (.string ⟨#[110, 105, 108]⟩))).bind fun p88 =>
some (p88, r84.2)) r84.2).bind fun r87 =>
(bQ p79 r87.1 (PV.v (.bool false))).bind fun p89 =>
aw p89 fun b90 => (bif b90 then
(bm [(0, 1), (1, 1)] [.v (.int .i64 0), .v (.string ⟨#[]⟩)] [(0, (PV.v (.int .i64 3)))]).bind fun p92 =>
(an q13 0).bind fun p93 =>
(au st.stk.length 1 p93 (PV.v (.int .i64 3)) r87.2).bind fun st94 =>
(an q13 3).bind fun p95 =>
(au st.stk.length 2 p95 p92 st94).bind fun st96 =>
(call (.func 68) [ai a0, ai (PV.v (.string ⟨#[105, 110, 116, 115]⟩))] st96).bind fun r97 =>
(aUn Tryz.prog .not r97.1).bind fun p98 =>
aw p98 fun b99 => (bif b99 then
(call (.func 121) [ai a0, ai (PV.v (.int .i64 1))] r97.2).bind fun r101 =>
aZ r101 (fun p102 st103 =>
(gK Tryz.prog 140 p102 1).bind fun p107 =>
(bm [(0, 1), (1, 1)] [.v (.int .i64 0), .v (.string ⟨#[]⟩)] [(0, (PV.v (.int .i64 4))), (1, p107)]).bind fun p108 =>
(an q13 3).bind fun p109 =>
(au st.stk.length 2 p109 p108 st103).bind fun st110 =>
some (Ex.normal, [q2, q13], st110)) (fun t104 x105 st106 =>
some ((Ex.pan t104 x105), [q2, q13], st106))
else
some (Ex.normal, [q2, q13], r97.2)).bind fun r100 =>
some (r100.1, [(aa r100.2.1 0), (aa r100.2.1 1)], r100.2.2)
else
(an q5 0).bind fun p111 =>
(aj false 1 p111 r87.2).bind fun p112 =>
(aJ Tryz.prog true .eql 138 p112 (PV.v (.int .i64 5))).bind fun p113 =>
(onG p113 true (
(an q5 1).bind fun p116 =>
some (p116, r87.2)) r87.2).bind fun r115 =>
(onG p113 true (
(aj false 1 r115.1 r115.2).bind fun p119 =>
some (p119, r115.2)) r115.2).bind fun r118 =>
(onG p113 true (
(aJ Tryz.prog true .eql 9 r118.1 (PV.v (.string ⟨#[40]⟩))).bind fun p122 =>
some (p122, r118.2)) r118.2).bind fun r121 =>
(bQ p113 r121.1 (PV.v (.bool false))).bind fun p123 =>
aw p123 fun b124 => (bif b124 then
(aj true 5 q5 r121.2).bind fun p126 =>
(call (.func 123) [ai a0, ai p126] r121.2).bind fun r127 =>
aZ r127 (fun p128 st129 =>
(call (.func 157) [ai a0] st129).bind fun r133 =>
aZ r133 (fun p134 st135 =>
(au st.stk.length 9 q13 p134 st135).bind fun st139 =>
(call (.func 71) [ai a0, ai (PV.v (.string ⟨#[41]⟩))] st139).bind fun r140 =>
aZ r140 (fun p141 st142 =>
(aI a0).bind fun p146 =>
(an p146 2).bind fun p147 =>
(aj false 1 p147 st142).bind fun p148 =>
(aJ Tryz.prog true .sub 3 p148 (PV.v (.int .i64 1))).bind fun p149 =>
(aI a0).bind fun p150 =>
(an p150 2).bind fun p151 =>
(au st.stk.length 1 p151 p149 st142).bind fun st152 =>
some (Ex.normal, [q2, q13], st152)) (fun t143 x144 st145 =>
some ((Ex.pan t143 x144), [q2, q13], st145))) (fun t136 x137 st138 =>
some ((Ex.pan t136 x137), [q2, q13], st138))) (fun t130 x131 st132 =>
some ((Ex.pan t130 x131), [q2, q13], st132))
else
(aj true 5 q5 r121.2).bind fun p153 =>
(call (.func 74) [ai a0, ai (PV.v (.int .i64 4)), ai p153] r121.2).bind fun r154 =>
aZ r154 (fun p155 st156 =>
some (Ex.normal, [q2, q13], st156)) (fun t157 x158 st159 =>
some ((Ex.pan t157 x158), [q2, q13], st159))).bind fun r125 =>
some (r125.1, [(aa r125.2.1 0), (aa r125.2.1 1)], r125.2.2)).bind fun r91 =>
some (r91.1, [(aa r91.2.1 0), (aa r91.2.1 1)], r91.2.2)).bind fun r65 =>
some (r65.1, [(aa r65.2.1 0), (aa r65.2.1 1)], r65.2.2)).bind fun r43 =>
some (r43.1, [(aa r43.2.1 0), (aa r43.2.1 1)], r43.2.2)).bind fun r31 =>
some (r31.1, [(aa r31.2.1 0), (aa r31.2.1 1)], r31.2.2)).bind fun r19 =>
bH (Ex.ba 0 r19.1) ((aj true 9 (aa r19.2.1 1) r19.2.2).bind fun p161 =>
(au st.stk.length 9 (aa r19.2.1 0) p161 r19.2.2).bind fun st162 =>
(aj true 9 (aa r19.2.1 0) st162).bind fun p163 =>
fin st.stk.length st.tk.length st.lp.length [p163] st162) fun x160 =>
gm st.stk.length st.tk.length st.lp.length x160 r19.2.2 ((aj true 9 (aa r19.2.1 0) r19.2.2).bind fun p164 =>
fin st.stk.length st.tk.length st.lp.length [p164] r19.2.2)
theorem iL (a0 : PV) (st : St) : E L (.func 198) [a0] st = oE (E L) itE a0 st := (bF (by kernel_rfl) Tryz.func198 _ _).trans (by kernel_rfl)
noncomputable def qD (call : bA) (it : bG) (a0 : PV) (st : St) : Option (PV × St) :=
let q2 : PV := .ptr false st.stk.length 0
let st1 := st.push [.v (.int .i64 0), .v (.int .i64 0), .v (.int .u64 0), .v (.int .i64 0), .v (.string ⟨#[]⟩), .v (.string ⟨#[]⟩), .sl [] .nil, .v (.int .i64 0), .v (.int .i64 0)]
(call (.func 67) [ai a0] st1).bind fun r3 =>
let q5 : PV := .ptr false r3.2.stk.length 0
let st4 := r3.2.push [.v (.int .i64 0), .v (.string ⟨#[]⟩), .v (.int .u64 0), .v (.int .i64 0), .v (.int .i64 0)]
(au st.stk.length 5 q5 r3.1 st4).bind fun st6 =>
(an q5 0).bind fun p7 =>
(aj false 1 p7 st6).bind fun p8 =>
(aJ Tryz.prog true .eql 138 p8 (PV.v (.int .i64 2))).bind fun p9 =>
(onG p9 false (
(an q5 0).bind fun p12 =>
some (p12, st6)) st6).bind fun r11 =>
(onG p9 false (
(aj false 1 r11.1 r11.2).bind fun p15 =>
some (p15, r11.2)) r11.2).bind fun r14 =>
(onG p9 false (
(aJ Tryz.prog true .eql 138 r14.1 (PV.v (.int .i64 5))).bind fun p18 =>
some (p18, r14.2)) r14.2).bind fun r17 =>
(bQ p9 (PV.v (.bool true)) r17.1).bind fun p19 =>
aw p19 fun b20 => (bif b20 then
(an q5 1).bind fun p22 =>
(aj false 1 p22 r17.2).bind fun p23 =>
(call (.func 197) [ai p23] r17.2).bind fun r24 =>
some (Ex.normal, [a0, q2, q5, r24.1], r24.2)
else
some (Ex.normal, [a0, q2, q5, (PV.v (.int .i64 0))], r17.2)).bind fun r21 =>
bH r21.1 ((aJ Tryz.prog true .eql 3 (aa r21.2.1 3) (PV.v (.int .i64 0))).bind fun p26 =>
aw p26 fun b27 => (bif b27 then
(call (.func 198) [ai (aa r21.2.1 0)] r21.2.2).bind fun r29 =>
aZ r29 (fun p30 st31 =>
(au st.stk.length 9 (aa r21.2.1 1) p30 st31).bind fun st35 =>
some (Ex.ret, [(aa r21.2.1 0), (aa r21.2.1 1), (aa r21.2.1 2), (aa r21.2.1 3)], st35)) (fun t32 x33 st34 =>
some ((Ex.pan t32 x33), [(aa r21.2.1 0), (aa r21.2.1 1), (aa r21.2.1 2), (aa r21.2.1 3)], st34))
else
some (Ex.normal, [(aa r21.2.1 0), (aa r21.2.1 1), (aa r21.2.1 2), (aa r21.2.1 3)], r21.2.2)).bind fun r28 =>
bH r28.1 ((call (.func 151) [ai (aa r28.2.1 0)] r28.2.2).bind fun r37 =>
(aj true 5 (aa r28.2.1 2) r37.2).bind fun p38 =>
(call (.func 123) [ai (aa r28.2.1 0), ai p38] r37.2).bind fun r39 =>
aZ r39 (fun p40 st41 =>
(call (.func 187) [ai (aa r28.2.1 0)] st41).bind fun r45 =>
aZ r45 (fun p46 st47 =>
bq (((call (.func 187) [ai (aa r28.2.1 0)] (St.push st41 [.v (.int .i64 0), .v (.int .i64 0), .v (.int .u64 0), .v (.int .i64 0), .v (.string ⟨#[]⟩), .v (.string ⟨#[]⟩), .sl [] .nil, .v (.int .i64 0), .v (.int .i64 0)])).bind fun r51 =>
aZ r51 (fun p52 st53 =>
some (Rs.ret p52, st53)) (fun t54 x55 st56 =>
some (Rs.pan t54 x55, st56))) = some (Rs.ret p46, (St.push st47 [.v (.int .i64 0), .v (.int .i64 0), .v (.int .u64 0), .v (.int .i64 0), .v (.string ⟨#[]⟩), .v (.string ⟨#[]⟩), .sl [] .nil, .v (.int .i64 0), .v (.int .i64 0)]))) <|
bq (st47.stk.length = st41.stk.length) <|
(aF 9 [.v (.int .i64 0), .v (.int .i64 0), .v (.int .u64 0), .v (.int .i64 0), .v (.string ⟨#[]⟩), .v (.string ⟨#[]⟩), .sl [] .nil, .v (.int .i64 0), .v (.int .i64 0)] 1 [(0, p46)]).bind fun p57 =>
(an (aa r28.2.1 2) 3).bind fun p58 =>
(aj false 1 p58 st47).bind fun p59 =>
bq (st47 = st47) <|
bq (((aj false 1 p58 (St.push st47 [.v (.int .i64 0), .v (.int .i64 0), .v (.int .u64 0), .v (.int .i64 0), .v (.string ⟨#[]⟩), .v (.string ⟨#[]⟩), .sl [] .nil, .v (.int .i64 0), .v (.int .i64 0)])).bind fun p60 =>
some (Rs.ret p60, (St.push st47 [.v (.int .i64 0), .v (.int .i64 0), .v (.int .u64 0), .v (.int .i64 0), .v (.string ⟨#[]⟩), .v (.string ⟨#[]⟩), .sl [] .nil, .v (.int .i64 0), .v (.int .i64 0)]))) = some (Rs.ret p59, (St.push st47 [.v (.int .i64 0), .v (.int .i64 0), .v (.int .u64 0), .v (.int .i64 0), .v (.string ⟨#[]⟩), .v (.string ⟨#[]⟩), .sl [] .nil, .v (.int .i64 0), .v (.int .i64 0)]))) <|
bq (((aj false 1 p58 st41).bind fun p61 =>
some (Rs.ret p61, st41)) = some (Rs.ret p59, st41)) <|
bq (((aj false 1 p58 (St.push st41 [.v (.int .i64 0), .v (.int .i64 0), .v (.int .u64 0), .v (.int .i64 0), .v (.string ⟨#[]⟩), .v (.string ⟨#[]⟩), .sl [] .nil, .v (.int .i64 0), .v (.int .i64 0)])).bind fun p62 =>
some (Rs.ret p62, (St.push st41 [.v (.int .i64 0), .v (.int .i64 0), .v (.int .u64 0), .v (.int .i64 0), .v (.string ⟨#[]⟩), .v (.string ⟨#[]⟩), .sl [] .nil, .v (.int .i64 0), .v (.int .i64 0)]))) = some (Rs.ret p59, (St.push st41 [.v (.int .i64 0), .v (.int .i64 0), .v (.int .u64 0), .v (.int .i64 0), .v (.string ⟨#[]⟩), .v (.string ⟨#[]⟩), .sl [] .nil, .v (.int .i64 0), .v (.int .i64 0)]))) <|
(an (aa r28.2.1 2) 4).bind fun p63 =>
(aj false 1 p63 st47).bind fun p64 =>
bq (st47 = st47) <|
bq (((aj false 1 p63 (St.push st47 [.v (.int .i64 0), .v (.int .i64 0), .v (.int .u64 0), .v (.int .i64 0), .v (.string ⟨#[]⟩), .v (.string ⟨#[]⟩), .sl [] .nil, .v (.int .i64 0), .v (.int .i64 0)])).bind fun p65 =>
some (Rs.ret p65, (St.push st47 [.v (.int .i64 0), .v (.int .i64 0), .v (.int .u64 0), .v (.int .i64 0), .v (.string ⟨#[]⟩), .v (.string ⟨#[]⟩), .sl [] .nil, .v (.int .i64 0), .v (.int .i64 0)]))) = some (Rs.ret p64, (St.push st47 [.v (.int .i64 0), .v (.int .i64 0), .v (.int .u64 0), .v (.int .i64 0), .v (.string ⟨#[]⟩), .v (.string ⟨#[]⟩), .sl [] .nil, .v (.int .i64 0), .v (.int .i64 0)]))) <|
bq (((aj false 1 p63 st41).bind fun p66 =>
some (Rs.ret p66, st41)) = some (Rs.ret p64, st41)) <|
bq (((aj false 1 p63 (St.push st41 [.v (.int .i64 0), .v (.int .i64 0), .v (.int .u64 0), .v (.int .i64 0), .v (.string ⟨#[]⟩), .v (.string ⟨#[]⟩), .sl [] .nil, .v (.int .i64 0), .v (.int .i64 0)])).bind fun p67 =>
some (Rs.ret p67, (St.push st41 [.v (.int .i64 0), .v (.int .i64 0), .v (.int .u64 0), .v (.int .i64 0), .v (.string ⟨#[]⟩), .v (.string ⟨#[]⟩), .sl [] .nil, .v (.int .i64 0), .v (.int .i64 0)]))) = some (Rs.ret p64, (St.push st41 [.v (.int .i64 0), .v (.int .i64 0), .v (.int .u64 0), .v (.int .i64 0), .v (.string ⟨#[]⟩), .v (.string ⟨#[]⟩), .sl [] .nil, .v (.int .i64 0), .v (.int .i64 0)]))) <|
(bm [(0, 1), (1, 1), (2, 1), (3, 2), (5, 1), (6, 1), (7, 1), (8, 1)] [.v (.int .i64 0), .v (.int .i64 0), .v (.int .u64 0), .v (.int .i64 0), .v (.string ⟨#[]⟩), .v (.string ⟨#[]⟩), .sl [] .nil, .v (.int .i64 0), .v (.int .i64 0)] [(0, (aa r28.2.1 3)), (5, p57), (6, p59), (7, p64)]).bind fun p68 =>
(au st.stk.length 9 (PV.ptr false st41.stk.length 0) p68 (St.push st47 [.v (.int .i64 0), .v (.int .i64 0), .v (.int .u64 0), .v (.int .i64 0), .v (.string ⟨#[]⟩), .v (.string ⟨#[]⟩), .sl [] .nil, .v (.int .i64 0), .v (.int .i64 0)])).bind fun st69 =>
(aI (aa r28.2.1 0)).bind fun p70 =>
(an p70 2).bind fun p71 =>
(aj false 1 p71 st69).bind fun p72 =>
(aJ Tryz.prog true .sub 3 p72 (PV.v (.int .i64 1))).bind fun p73 =>
(aI (aa r28.2.1 0)).bind fun p74 =>
(an p74 2).bind fun p75 =>
(au st.stk.length 1 p75 p73 st69).bind fun st76 =>
(aj true 9 (PV.ptr false st41.stk.length 0) st76).bind fun p77 =>
(au st.stk.length 9 (aa r28.2.1 1) p77 st76).bind fun st78 =>
(aj true 9 (aa r28.2.1 1) st78).bind fun p79 =>
fin st.stk.length st.tk.length st.lp.length [p79] st78) (fun t48 x49 st50 =>
bq (((call (.func 187) [ai (aa r28.2.1 0)] (St.push st41 [.v (.int .i64 0), .v (.int .i64 0), .v (.int .u64 0), .v (.int .i64 0), .v (.string ⟨#[]⟩), .v (.string ⟨#[]⟩), .sl [] .nil, .v (.int .i64 0), .v (.int .i64 0)])).bind fun r81 =>
aZ r81 (fun p82 st83 =>
some (Rs.ret p82, st83)) (fun t84 x85 st86 =>
some (Rs.pan t84 x85, st86))) = some (Rs.pan t48 x49, (St.push st50 [.v (.int .i64 0), .v (.int .i64 0), .v (.int .u64 0), .v (.int .i64 0), .v (.string ⟨#[]⟩), .v (.string ⟨#[]⟩), .sl [] .nil, .v (.int .i64 0), .v (.int .i64 0)]))) <|
(some (PV.pan t48 x49, st50.back st.stk.length st.tk.length st.lp.length)).bind fun r80 =>
bq ((some (PV.pan t48 x49, (St.push st50 [.v (.int .i64 0), .v (.int .i64 0), .v (.int .u64 0), .v (.int .i64 0), .v (.string ⟨#[]⟩), .v (.string ⟨#[]⟩), .sl [] .nil, .v (.int .i64 0), .v (.int .i64 0)]).back st.stk.length st.tk.length st.lp.length)) = some r80) <|
(an (aa r28.2.1 2) 3).bind fun p87 =>
(aj false 1 p87 st41).bind fun p88 =>
bq (st41 = st41) <|
bq (((aj false 1 p87 (St.push st41 [.v (.int .i64 0), .v (.int .i64 0), .v (.int .u64 0), .v (.int .i64 0), .v (.string ⟨#[]⟩), .v (.string ⟨#[]⟩), .sl [] .nil, .v (.int .i64 0), .v (.int .i64 0)])).bind fun p89 =>
some (Rs.ret p89, (St.push st41 [.v (.int .i64 0), .v (.int .i64 0), .v (.int .u64 0), .v (.int .i64 0), .v (.string ⟨#[]⟩), .v (.string ⟨#[]⟩), .sl [] .nil, .v (.int .i64 0), .v (.int .i64 0)]))) = some (Rs.ret p88, (St.push st41 [.v (.int .i64 0), .v (.int .i64 0), .v (.int .u64 0), .v (.int .i64 0), .v (.string ⟨#[]⟩), .v (.string ⟨#[]⟩), .sl [] .nil, .v (.int .i64 0), .v (.int .i64 0)]))) <|
(an (aa r28.2.1 2) 4).bind fun p90 =>
(aj false 1 p90 st41).bind fun p91 =>
bq (st41 = st41) <|
bq (((aj false 1 p90 (St.push st41 [.v (.int .i64 0), .v (.int .i64 0), .v (.int .u64 0), .v (.int .i64 0), .v (.string ⟨#[]⟩), .v (.string ⟨#[]⟩), .sl [] .nil, .v (.int .i64 0), .v (.int .i64 0)])).bind fun p92 =>
some (Rs.ret p92, (St.push st41 [.v (.int .i64 0), .v (.int .i64 0), .v (.int .u64 0), .v (.int .i64 0), .v (.string ⟨#[]⟩), .v (.string ⟨#[]⟩), .sl [] .nil, .v (.int .i64 0), .v (.int .i64 0)]))) = some (Rs.ret p91, (St.push st41 [.v (.int .i64 0), .v (.int .i64 0), .v (.int .u64 0), .v (.int .i64 0), .v (.string ⟨#[]⟩), .v (.string ⟨#[]⟩), .sl [] .nil, .v (.int .i64 0), .v (.int .i64 0)]))) <|
some r80)) (fun t42 x43 st44 =>
some (PV.pan t42 x43, st44.back st.stk.length st.tk.length st.lp.length))) fun x36 =>
gm st.stk.length st.tk.length st.lp.length x36 r28.2.2 ((aj true 9 (aa r28.2.1 1) r28.2.2).bind fun p93 =>
fin st.stk.length st.tk.length st.lp.length [p93] r28.2.2)) fun x25 =>
gm st.stk.length st.tk.length st.lp.length x25 r21.2.2 ((aj true 9 (aa r21.2.1 1) r21.2.2).bind fun p94 =>
fin st.stk.length st.tk.length st.lp.length [p94] r21.2.2)
theorem mC (a0 : PV) (st : St) : E L (.func 187) [a0] st = qD (E L) itE a0 st := (bF (by kernel_rfl) Tryz.func187 _ _).trans (by kernel_rfl)
noncomputable def EL (call : bA) (it : bG) (a0 : PV) (st : St) : Option (PV × St) :=
(kC Tryz.prog 198 [(0, (PV.v (.string ⟨#[32, 61, 61, 32, 33, 61, 32, 60, 32, 60, 61, 32]⟩))), (1, (PV.v (.string ⟨#[32, 43, 32, 45, 32]⟩))), (2, (PV.v (.string ⟨#[32, 42, 32, 47, 32, 37, 32]⟩)))]).bind fun p1 =>
(cJ Tryz.prog 198 p1 a0).bind fun p2 =>
fin st.stk.length st.tk.length st.lp.length [p2] st
theorem EM (a0 : PV) (st : St) : E L (.func 188) [a0] st = EL (E L) itE a0 st := (bF (by kernel_rfl) Tryz.func188 _ _).trans (by kernel_rfl)
noncomputable def fi.b0 (call : bA) (it : bG) (base lb : Nat) (vs3 : List PV) (st4 : St) : Option (Ex × List PV × St) :=
(aJ Tryz.prog true .lss 3 (aa vs3 3) (PV.v (.int .i64 9))).bind fun p5 =>
aw p5 fun b6 => (bif b6 then
some (Ex.normal, [(aa vs3 0), (aa vs3 1), (aa vs3 2), (aa vs3 3)], st4)
else
some ((Ex.exit 0), [(aa vs3 0), (aa vs3 1), (aa vs3 2), (aa vs3 3)], st4)).bind fun r7 =>
bH r7.1 ((cJ Tryz.prog 126 (aa r7.2.1 2) (aa r7.2.1 3)).bind fun p9 =>
(aJ Tryz.prog false .eql 9 p9 (aa r7.2.1 0)).bind fun p10 =>
aw p10 fun b11 => (bif b11 then
some (Ex.ret, [(aa r7.2.1 0), (aa r7.2.1 3), (aa r7.2.1 2), (aa r7.2.1 3)], r7.2.2)
else
some (Ex.normal, [(aa r7.2.1 0), (aa r7.2.1 1), (aa r7.2.1 2), (aa r7.2.1 3)], r7.2.2)).bind fun r12 =>
bH (Ex.ba 1 r12.1) ((aJ Tryz.prog true .add 3 (aa r12.2.1 3) (PV.v (.int .i64 1))).bind fun p14 =>
some (Ex.normal, [(aa r12.2.1 0), (aa r12.2.1 1), (aa r12.2.1 2), p14], r12.2.2)) fun x13 =>
some (x13, [(aa r12.2.1 0), (aa r12.2.1 1), (aa r12.2.1 2), (aa r12.2.1 3)], r12.2.2)) fun x8 =>
some (x8, [(aa r7.2.1 0), (aa r7.2.1 1), (aa r7.2.1 2), (aa r7.2.1 3)], r7.2.2)
noncomputable def fi (call : bA) (it : bG) (a0 : PV) (st : St) : Option (PV × St) :=
(kC Tryz.prog 126 [(0, (PV.v (.string ⟨#[43]⟩))), (1, (PV.v (.string ⟨#[45]⟩))), (2, (PV.v (.string ⟨#[42]⟩))), (3, (PV.v (.string ⟨#[47]⟩))), (4, (PV.v (.string ⟨#[37]⟩))), (5, (PV.v (.string ⟨#[61, 61]⟩))), (6, (PV.v (.string ⟨#[33, 61]⟩))), (7, (PV.v (.string ⟨#[60]⟩))), (8, (PV.v (.string ⟨#[60, 61]⟩)))]).bind fun p1 =>
(it (fi.b0 call it st.stk.length st.lp.length) [a0, (PV.v (.int .i64 0)), p1, (PV.v (.int .i64 0))] st).bind fun r2 =>
bH (Ex.ba 0 r2.1) (fin st.stk.length st.tk.length st.lp.length [(PV.v (.int .i64 0))] r2.2.2) fun x15 =>
dw x15 (fin st.stk.length st.tk.length st.lp.length [(aa r2.2.1 1)] r2.2.2)
theorem EN (a0 : PV) (st : St) : E L (.func 189) [a0] st = fi (E L) itE a0 st := (bF (by kernel_rfl) Tryz.func189 _ _).trans (by kernel_rfl)
noncomputable def oD.b0 (call : bA) (it : bG) (base lb : Nat) (vs25 : List PV) (st26 : St) : Option (Ex × List PV × St) :=
(call (.func 67) [ai (aa vs25 0)] st26).bind fun r27 =>
let q29 : PV := .ptr false r27.2.stk.length 0
let st28 := r27.2.push [.v (.int .i64 0), .v (.string ⟨#[]⟩), .v (.int .u64 0), .v (.int .i64 0), .v (.int .i64 0)]
(au base 5 q29 r27.1 st28).bind fun st30 =>
(an q29 0).bind fun p31 =>
(aj false 1 p31 st30).bind fun p32 =>
bq (st30 = st30) <|
(aJ Tryz.prog true .neq 138 p32 (PV.v (.int .i64 5))).bind fun p33 =>
(onG p33 false (
some ((aa vs25 1), st30)) st30).bind fun r35 =>
(onG p33 false (
(call (.func 188) [ai r35.1] st30).bind fun r38 =>
some (r38.1, r38.2)) st30).bind fun r37 =>
bq (r37.2 = st30) <|
(onG p33 false (
(an q29 1).bind fun p41 =>
some (p41, st30)) st30).bind fun r40 =>
(onG p33 false (
(aj false 1 r40.1 st30).bind fun p44 =>
some (p44, st30)) st30).bind fun r43 =>
bq (r43.2 = st30) <|
(onG p33 false (
(aJ Tryz.prog true .add 9 (PV.v (.string ⟨#[32]⟩)) r43.1).bind fun p47 =>
some (p47, st30)) st30).bind fun r46 =>
(onG p33 false (
(aJ Tryz.prog true .add 9 r46.1 (PV.v (.string ⟨#[32]⟩))).bind fun p50 =>
some (p50, st30)) st30).bind fun r49 =>
(onG p33 false (
(call (.func 169) [ai r37.1, ai r49.1] st30).bind fun r53 =>
some (r53.1, r53.2)) st30).bind fun r52 =>
bq (r52.2 = st30) <|
(onG p33 false (
(aUn Tryz.prog .not r52.1).bind fun p56 =>
some (p56, st30)) st30).bind fun r55 =>
(bQ p33 (PV.v (.bool true)) r55.1).bind fun p57 =>
aw p57 fun b58 => (bif b58 then
(aj true 9 (aa vs25 3) st30).bind fun p60 =>
(au base 9 (aa vs25 2) p60 st30).bind fun st61 =>
some (Ex.ret, [(aa vs25 0), (aa vs25 1), (aa vs25 2), (aa vs25 3), q29], st61)
else
some (Ex.normal, [(aa vs25 0), (aa vs25 1), (aa vs25 2), (aa vs25 3), q29], st30)).bind fun r59 =>
bH r59.1 ((call (.func 151) [ai (aa r59.2.1 0)] r59.2.2).bind fun r63 =>
(an (aa r59.2.1 4) 1).bind fun p64 =>
(aj false 1 p64 r63.2).bind fun p65 =>
bq (r63.2 = r63.2) <|
(call (.func 189) [ai p65] r63.2).bind fun r66 =>
bq (r66.2 = r63.2) <|
(aj true 9 (aa r59.2.1 3) r63.2).bind fun p67 =>
bq (r63.2 = r63.2) <|
(aJ Tryz.prog true .add 3 (aa r59.2.1 1) (PV.v (.int .i64 1))).bind fun p68 =>
(call (.func 173) [ai (aa r59.2.1 0), ai p68] r63.2).bind fun r69 =>
aZ r69 (fun p70 st71 =>
bq (((aj true 9 (aa r59.2.1 3) st71).bind fun p75 =>
some (Rs.ret p75, st71)) = some (Rs.ret p67, st71)) <|
(aF 9 [.v (.int .i64 0), .v (.int .i64 0), .v (.int .u64 0), .v (.int .i64 0), .v (.string ⟨#[]⟩), .v (.string ⟨#[]⟩), .sl [] .nil, .v (.int .i64 0), .v (.int .i64 0)] 2 [(0, p67), (1, p70)]).bind fun p76 =>
(an (aa r59.2.1 4) 3).bind fun p77 =>
(aj false 1 p77 st71).bind fun p78 =>
bq (st71 = st71) <|
bq (((aj false 1 p77 r63.2).bind fun p79 =>
some (Rs.ret p79, r63.2)) = some (Rs.ret p78, r63.2)) <|
(an (aa r59.2.1 4) 4).bind fun p80 =>
(aj false 1 p80 st71).bind fun p81 =>
bq (st71 = st71) <|
bq (((aj false 1 p80 r63.2).bind fun p82 =>
some (Rs.ret p82, r63.2)) = some (Rs.ret p81, r63.2)) <|
(bm [(0, 1), (1, 1), (2, 1), (3, 2), (5, 1), (6, 1), (7, 1), (8, 1)] [.v (.int .i64 0), .v (.int .i64 0), .v (.int .u64 0), .v (.int .i64 0), .v (.string ⟨#[]⟩), .v (.string ⟨#[]⟩), .sl [] .nil, .v (.int .i64 0), .v (.int .i64 0)] [(0, (PV.v (.int .i64 9))), (1, r66.1), (5, p76), (6, p78), (7, p81)]).bind fun p83 =>
(au base 9 (aa r59.2.1 3) p83 st71).bind fun st84 =>
(aJ Tryz.prog true .eql 3 (aa r59.2.1 1) (PV.v (.int .i64 0))).bind fun p85 =>
aw p85 fun b86 => (bif b86 then
(aj true 9 (aa r59.2.1 3) st84).bind fun p88 =>
(au base 9 (aa r59.2.1 2) p88 st84).bind fun st89 =>
some (Ex.ret, [(aa r59.2.1 0), (aa r59.2.1 1), (aa r59.2.1 2), (aa r59.2.1 3)], st89)
else
some (Ex.normal, [(aa r59.2.1 0), (aa r59.2.1 1), (aa r59.2.1 2), (aa r59.2.1 3)], st84)).bind fun r87 =>
dU base lb st26.stk.length (Ex.ba 1 r87.1) [(aa r87.2.1 0), (aa r87.2.1 1), (aa r87.2.1 2), (aa r87.2.1 3)] r87.2.2) (fun t72 x73 st74 =>
(an (aa r59.2.1 4) 3).bind fun p90 =>
(aj false 1 p90 r63.2).bind fun p91 =>
bq (r63.2 = r63.2) <|
(an (aa r59.2.1 4) 4).bind fun p92 =>
(aj false 1 p92 r63.2).bind fun p93 =>
bq (r63.2 = r63.2) <|
dU base lb st26.stk.length (Ex.pan t72 x73) [(aa r59.2.1 0), (aa r59.2.1 1), (aa r59.2.1 2), (aa r59.2.1 3)] st74)) fun x62 =>
dU base lb st26.stk.length (Ex.ba 1 x62) [(aa r59.2.1 0), (aa r59.2.1 1), (aa r59.2.1 2), (aa r59.2.1 3)] r59.2.2
noncomputable def oD (call : bA) (it : bG) (a0 a1 : PV) (st : St) : Option (PV × St) :=
let q2 : PV := .ptr false st.stk.length 0
let st1 := st.push [.v (.int .i64 0), .v (.int .i64 0), .v (.int .u64 0), .v (.int .i64 0), .v (.string ⟨#[]⟩), .v (.string ⟨#[]⟩), .sl [] .nil, .v (.int .i64 0), .v (.int .i64 0)]
(aJ Tryz.prog true .eql 3 a1 (PV.v (.int .i64 3))).bind fun p3 =>
aw p3 fun b4 => (bif b4 then
(call (.func 187) [ai a0] st1).bind fun r6 =>
aZ r6 (fun p7 st8 =>
(au st.stk.length 9 q2 p7 st8).bind fun st12 =>
some (Ex.ret, [a0, a1, q2], st12)) (fun t9 x10 st11 =>
some ((Ex.pan t9 x10), [a0, a1, q2], st11))
else
some (Ex.normal, [a0, a1, q2], st1)).bind fun r5 =>
bH r5.1 ((aJ Tryz.prog true .add 3 (aa r5.2.1 1) (PV.v (.int .i64 1))).bind fun p14 =>
(call (.func 173) [ai (aa r5.2.1 0), ai p14] r5.2.2).bind fun r15 =>
aZ r15 (fun p16 st17 =>
let q22 : PV := .ptr false st17.stk.length 0
let st21 := st17.push [.v (.int .i64 0), .v (.int .i64 0), .v (.int .u64 0), .v (.int .i64 0), .v (.string ⟨#[]⟩), .v (.string ⟨#[]⟩), .sl [] .nil, .v (.int .i64 0), .v (.int .i64 0)]
(au st.stk.length 9 q22 p16 st21).bind fun st23 =>
(it (oD.b0 call it st.stk.length st.lp.length) [(aa r5.2.1 0), (aa r5.2.1 1), (aa r5.2.1 2), q22] st23).bind fun r24 =>
gm st.stk.length st.tk.length st.lp.length (Ex.ba 0 r24.1) r24.2.2 ((aj true 9 (aa r24.2.1 2) r24.2.2).bind fun p94 =>
fin st.stk.length st.tk.length st.lp.length [p94] r24.2.2)) (fun t18 x19 st20 =>
some (PV.pan t18 x19, st20.back st.stk.length st.tk.length st.lp.length))) fun x13 =>
gm st.stk.length st.tk.length st.lp.length x13 r5.2.2 ((aj true 9 (aa r5.2.1 2) r5.2.2).bind fun p95 =>
fin st.stk.length st.tk.length st.lp.length [p95] r5.2.2)
theorem pw (a0 a1 : PV) (st : St) : E L (.func 173) [a0, a1] st = oD (E L) itE a0 a1 st := (bF (by kernel_rfl) Tryz.func173 _ _).trans (by kernel_rfl)
noncomputable def GK (call : bA) (it : bG) (a0 : PV) (st : St) : Option (PV × St) :=
let q2 : PV := .ptr false st.stk.length 0
let st1 := st.push [.v (.int .i64 0), .v (.int .i64 0), .v (.int .u64 0), .v (.int .i64 0), .v (.string ⟨#[]⟩), .v (.string ⟨#[]⟩), .sl [] .nil, .v (.int .i64 0), .v (.int .i64 0)]
(call (.func 173) [ai a0, ai (PV.v (.int .i64 0))] st1).bind fun r3 =>
aZ r3 (fun p4 st5 =>
(au st.stk.length 9 q2 p4 st5).bind fun st9 =>
(aj true 9 q2 st9).bind fun p10 =>
fin st.stk.length st.tk.length st.lp.length [p10] st9) (fun t6 x7 st8 =>
some (PV.pan t6 x7, st8.back st.stk.length st.tk.length st.lp.length))
theorem zf (a0 : PV) (st : St) : E L (.func 157) [a0] st = GK (E L) itE a0 st := (bF (by kernel_rfl) Tryz.func157 _ _).trans (by kernel_rfl)
noncomputable def vS (call : bA) (it : bG) (a0 : PV) (st : St) : Option (PV × St) :=
let q2 : PV := .ptr false st.stk.length 0
let st1 := st.push [.v (.int .i64 0), .v (.string ⟨#[]⟩), .v (.string ⟨#[]⟩), .v (.int .i64 0), .v (.int .i64 0), .v (.int .u64 0), .v (.int .i64 0), .v (.string ⟨#[]⟩), .v (.string ⟨#[]⟩), .sl [] .nil, .v (.int .i64 0), .v (.int .i64 0), .v (.int .i64 0), .v (.int .i64 0)]
(call (.func 121) [ai a0, ai (PV.v (.int .i64 1))] st1).bind fun r3 =>
aZ r3 (fun p4 st5 =>
let q10 : PV := .ptr false st5.stk.length 0
let st9 := st5.push [.v (.int .i64 0), .v (.string ⟨#[]⟩), .v (.int .u64 0), .v (.int .i64 0), .v (.int .i64 0)]
(au st.stk.length 5 q10 p4 st9).bind fun st11 =>
(an q10 1).bind fun p12 =>
(aj false 1 p12 st11).bind fun p13 =>
(an q10 3).bind fun p14 =>
(aj false 1 p14 st11).bind fun p15 =>
(an q10 4).bind fun p16 =>
(aj false 1 p16 st11).bind fun p17 =>
(bm [(0, 1), (1, 1), (2, 1), (3, 9), (12, 1), (13, 1)] [.v (.int .i64 0), .v (.string ⟨#[]⟩), .v (.string ⟨#[]⟩), .v (.int .i64 0), .v (.int .i64 0), .v (.int .u64 0), .v (.int .i64 0), .v (.string ⟨#[]⟩), .v (.string ⟨#[]⟩), .sl [] .nil, .v (.int .i64 0), .v (.int .i64 0), .v (.int .i64 0), .v (.int .i64 0)] [(0, (PV.v (.int .i64 1))), (1, p13), (4, p15), (5, p17)]).bind fun p18 =>
let q20 : PV := .ptr false st11.stk.length 0
let st19 := st11.push [.v (.int .i64 0), .v (.string ⟨#[]⟩), .v (.string ⟨#[]⟩), .v (.int .i64 0), .v (.int .i64 0), .v (.int .u64 0), .v (.int .i64 0), .v (.string ⟨#[]⟩), .v (.string ⟨#[]⟩), .sl [] .nil, .v (.int .i64 0), .v (.int .i64 0), .v (.int .i64 0), .v (.int .i64 0)]
(au st.stk.length 14 q20 p18 st19).bind fun st21 =>
(call (.func 68) [ai a0, ai (PV.v (.string ⟨#[46]⟩))] st21).bind fun r22 =>
aw r22.1 fun b23 => (bif b23 then
(call (.func 121) [ai a0, ai (PV.v (.int .i64 1))] r22.2).bind fun r25 =>
aZ r25 (fun p26 st27 =>
(gK Tryz.prog 140 p26 1).bind fun p31 =>
(an q20 0).bind fun p32 =>
(au st.stk.length 1 p32 (PV.v (.int .i64 2)) st27).bind fun st33 =>
(an q20 2).bind fun p34 =>
(au st.stk.length 1 p34 p31 st33).bind fun st35 =>
some (Ex.normal, [q2, q20], st35)) (fun t28 x29 st30 =>
some ((Ex.pan t28 x29), [q2, q20], st30))
else
(call (.func 68) [ai a0, ai (PV.v (.string ⟨#[91]⟩))] r22.2).bind fun r36 =>
aw r36.1 fun b37 => (bif b37 then
(call (.func 157) [ai a0] r36.2).bind fun r39 =>
aZ r39 (fun p40 st41 =>
(an q20 0).bind fun p45 =>
(au st.stk.length 1 p45 (PV.v (.int .i64 3)) st41).bind fun st46 =>
(an q20 3).bind fun p47 =>
(au st.stk.length 9 p47 p40 st46).bind fun st48 =>
(call (.func 71) [ai a0, ai (PV.v (.string ⟨#[93]⟩))] st48).bind fun r49 =>
aZ r49 (fun p50 st51 =>
some (Ex.normal, [q2, q20], st51)) (fun t52 x53 st54 =>
some ((Ex.pan t52 x53), [q2, q20], st54))) (fun t42 x43 st44 =>
some ((Ex.pan t42 x43), [q2, q20], st44))
else
some (Ex.normal, [q2, q20], r36.2)).bind fun r38 =>
some (r38.1, [(aa r38.2.1 0), (aa r38.2.1 1)], r38.2.2)).bind fun r24 =>
bH (Ex.ba 0 r24.1) ((aj true 14 (aa r24.2.1 1) r24.2.2).bind fun p56 =>
(au st.stk.length 14 (aa r24.2.1 0) p56 r24.2.2).bind fun st57 =>
(aj true 14 (aa r24.2.1 0) st57).bind fun p58 =>
fin st.stk.length st.tk.length st.lp.length [p58] st57) fun x55 =>
gm st.stk.length st.tk.length st.lp.length x55 r24.2.2 ((aj true 14 (aa r24.2.1 0) r24.2.2).bind fun p59 =>
fin st.stk.length st.tk.length st.lp.length [p59] r24.2.2)) (fun t6 x7 st8 =>
some (PV.pan t6 x7, st8.back st.stk.length st.tk.length st.lp.length))
theorem mB (a0 : PV) (st : St) : E L (.func 156) [a0] st = vS (E L) itE a0 st := (bF (by kernel_rfl) Tryz.func156 _ _).trans (by kernel_rfl)
noncomputable def sh (call : bA) (it : bG) (a0 : PV) (st : St) : Option (PV × St) :=
let q2 : PV := .ptr false st.stk.length 0
let st1 := st.push [.v (.int .i64 0), .v (.int .i64 0), .v (.int .i64 0), .v (.int .u64 0), .v (.int .i64 0), .v (.string ⟨#[]⟩), .v (.string ⟨#[]⟩), .sl [] .nil, .v (.int .i64 0), .v (.int .i64 0), .v (.int .i64 0), .v (.string ⟨#[]⟩), .v (.string ⟨#[]⟩), .v (.int .i64 0), .v (.int .i64 0), .v (.int .u64 0), .v (.int .i64 0), .v (.string ⟨#[]⟩), .v (.string ⟨#[]⟩), .sl [] .nil, .v (.int .i64 0), .v (.int .i64 0), .v (.int .i64 0), .v (.int .i64 0), .v (.string ⟨#[]⟩), .v (.int .i64 0), .v (.int .i64 0)]
(call (.func 67) [ai a0] st1).bind fun r3 =>
let q5 : PV := .ptr false r3.2.stk.length 0
let st4 := r3.2.push [.v (.int .i64 0), .v (.string ⟨#[]⟩), .v (.int .u64 0), .v (.int .i64 0), .v (.int .i64 0)]
(au st.stk.length 5 q5 r3.1 st4).bind fun st6 =>
(an q5 3).bind fun p7 =>
(aj false 1 p7 st6).bind fun p8 =>
(an q5 4).bind fun p9 =>
(aj false 1 p9 st6).bind fun p10 =>
(bm [(0, 1), (1, 9), (10, 14), (24, 1), (25, 1), (26, 1)] [.v (.int .i64 0), .v (.int .i64 0), .v (.int .i64 0), .v (.int .u64 0), .v (.int .i64 0), .v (.string ⟨#[]⟩), .v (.string ⟨#[]⟩), .sl [] .nil, .v (.int .i64 0), .v (.int .i64 0), .v (.int .i64 0), .v (.string ⟨#[]⟩), .v (.string ⟨#[]⟩), .v (.int .i64 0), .v (.int .i64 0), .v (.int .u64 0), .v (.int .i64 0), .v (.string ⟨#[]⟩), .v (.string ⟨#[]⟩), .sl [] .nil, .v (.int .i64 0), .v (.int .i64 0), .v (.int .i64 0), .v (.int .i64 0), .v (.string ⟨#[]⟩), .v (.int .i64 0), .v (.int .i64 0)] [(4, p8), (5, p10)]).bind fun p11 =>
let q13 : PV := .ptr false st6.stk.length 0
let st12 := st6.push [.v (.int .i64 0), .v (.int .i64 0), .v (.int .i64 0), .v (.int .u64 0), .v (.int .i64 0), .v (.string ⟨#[]⟩), .v (.string ⟨#[]⟩), .sl [] .nil, .v (.int .i64 0), .v (.int .i64 0), .v (.int .i64 0), .v (.string ⟨#[]⟩), .v (.string ⟨#[]⟩), .v (.int .i64 0), .v (.int .i64 0), .v (.int .u64 0), .v (.int .i64 0), .v (.string ⟨#[]⟩), .v (.string ⟨#[]⟩), .sl [] .nil, .v (.int .i64 0), .v (.int .i64 0), .v (.int .i64 0), .v (.int .i64 0), .v (.string ⟨#[]⟩), .v (.int .i64 0), .v (.int .i64 0)]
(au st.stk.length 27 q13 p11 st12).bind fun st14 =>
(call (.func 68) [ai a0, ai (PV.v (.string ⟨#[108, 111, 97, 100]⟩))] st14).bind fun r15 =>
aw r15.1 fun b16 => (bif b16 then
(call (.func 156) [ai a0] r15.2).bind fun r18 =>
aZ r18 (fun p19 st20 =>
(an q13 0).bind fun p24 =>
(au st.stk.length 1 p24 (PV.v (.int .i64 2)) st20).bind fun st25 =>
(an q13 10).bind fun p26 =>
(au st.stk.length 14 p26 p19 st25).bind fun st27 =>
some (Ex.normal, [q2, q13], st27)) (fun t21 x22 st23 =>
some ((Ex.pan t21 x22), [q2, q13], st23))
else
(call (.func 68) [ai a0, ai (PV.v (.string ⟨#[115, 105, 122, 101]⟩))] r15.2).bind fun r28 =>
aw r28.1 fun b29 => (bif b29 then
(call (.func 121) [ai a0, ai (PV.v (.int .i64 1))] r28.2).bind fun r31 =>
aZ r31 (fun p32 st33 =>
(gK Tryz.prog 140 p32 1).bind fun p37 =>
(an q13 0).bind fun p38 =>
(au st.stk.length 1 p38 (PV.v (.int .i64 5)) st33).bind fun st39 =>
(an q13 24).bind fun p40 =>
(au st.stk.length 1 p40 p37 st39).bind fun st41 =>
some (Ex.normal, [q2, q13], st41)) (fun t34 x35 st36 =>
some ((Ex.pan t34 x35), [q2, q13], st36))
else
(call (.func 68) [ai a0, ai (PV.v (.string ⟨#[110, 101, 119]⟩))] r28.2).bind fun r42 =>
aw r42.1 fun b43 => (bif b43 then
(call (.func 68) [ai a0, ai (PV.v (.string ⟨#[105, 110, 116, 115]⟩))] r42.2).bind fun r45 =>
aw r45.1 fun b46 => (bif b46 then
(call (.func 157) [ai a0] r45.2).bind fun r48 =>
aZ r48 (fun p49 st50 =>
(an q13 0).bind fun p54 =>
(au st.stk.length 1 p54 (PV.v (.int .i64 4)) st50).bind fun st55 =>
(an q13 1).bind fun p56 =>
(au st.stk.length 9 p56 p49 st55).bind fun st57 =>
some (Ex.normal, [q2, q13], st57)) (fun t51 x52 st53 =>
some ((Ex.pan t51 x52), [q2, q13], st53))
else
(call (.func 121) [ai a0, ai (PV.v (.int .i64 1))] r45.2).bind fun r58 =>
aZ r58 (fun p59 st60 =>
(gK Tryz.prog 140 p59 1).bind fun p64 =>
(an q13 0).bind fun p65 =>
(au st.stk.length 1 p65 (PV.v (.int .i64 3)) st60).bind fun st66 =>
(an q13 24).bind fun p67 =>
(au st.stk.length 1 p67 p64 st66).bind fun st68 =>
some (Ex.normal, [q2, q13], st68)) (fun t61 x62 st63 =>
some ((Ex.pan t61 x62), [q2, q13], st63))).bind fun r47 =>
some (r47.1, [(aa r47.2.1 0), (aa r47.2.1 1)], r47.2.2)
else
(call (.func 157) [ai a0] r42.2).bind fun r69 =>
aZ r69 (fun p70 st71 =>
(an q13 0).bind fun p75 =>
(au st.stk.length 1 p75 (PV.v (.int .i64 1)) st71).bind fun st76 =>
(an q13 1).bind fun p77 =>
(au st.stk.length 9 p77 p70 st76).bind fun st78 =>
some (Ex.normal, [q2, q13], st78)) (fun t72 x73 st74 =>
some ((Ex.pan t72 x73), [q2, q13], st74))).bind fun r44 =>
some (r44.1, [(aa r44.2.1 0), (aa r44.2.1 1)], r44.2.2)).bind fun r30 =>
some (r30.1, [(aa r30.2.1 0), (aa r30.2.1 1)], r30.2.2)).bind fun r17 =>
bH (Ex.ba 0 r17.1) ((aj true 27 (aa r17.2.1 1) r17.2.2).bind fun p80 =>
(au st.stk.length 27 (aa r17.2.1 0) p80 r17.2.2).bind fun st81 =>
(aj true 27 (aa r17.2.1 0) st81).bind fun p82 =>
fin st.stk.length st.tk.length st.lp.length [p82] st81) fun x79 =>
gm st.stk.length st.tk.length st.lp.length x79 r17.2.2 ((aj true 27 (aa r17.2.1 0) r17.2.2).bind fun p83 =>
fin st.stk.length st.tk.length st.lp.length [p83] r17.2.2)
theorem jy (a0 : PV) (st : St) : E L (.func 155) [a0] st = sh (E L) itE a0 st := (bF (by kernel_rfl) Tryz.func155 _ _).trans (by kernel_rfl)
noncomputable def vR (call : bA) (it : bG) (a0 a1 : PV) (st : St) : Option (PV × St) :=
(cellsOf a1).bind fun b1 =>
let q3 : PV := .ptr false st.stk.length 0
let st2 := st.push b1
let q5 : PV := .ptr false st2.stk.length 0
let st4 := st2.push [.v (.int .i64 0), .v (.string ⟨#[]⟩), .v (.int .i64 0), .v (.int .i64 0), .v (.int .i64 0), .v (.int .u64 0), .v (.int .i64 0), .v (.string ⟨#[]⟩), .v (.string ⟨#[]⟩), .sl [] .nil, .v (.int .i64 0), .v (.int .i64 0), .v (.int .i64 0), .v (.string ⟨#[]⟩), .v (.string ⟨#[]⟩), .v (.int .i64 0), .v (.int .i64 0), .v (.int .u64 0), .v (.int .i64 0), .v (.string ⟨#[]⟩), .v (.string ⟨#[]⟩), .sl [] .nil, .v (.int .i64 0), .v (.int .i64 0), .v (.int .i64 0), .v (.int .i64 0), .v (.string ⟨#[]⟩), .v (.int .i64 0), .v (.int .i64 0), .v (.int .i64 0), .v (.string ⟨#[]⟩), .v (.string ⟨#[]⟩), .v (.int .i64 0), .v (.int .i64 0), .v (.int .u64 0), .v (.int .i64 0), .v (.string ⟨#[]⟩), .v (.string ⟨#[]⟩), .sl [] .nil, .v (.int .i64 0), .v (.int .i64 0), .v (.int .i64 0), .v (.int .i64 0), .v (.int .i64 0), .v (.int .i64 0), .v (.int .u64 0), .v (.int .i64 0), .v (.string ⟨#[]⟩), .v (.string ⟨#[]⟩), .sl [] .nil, .v (.int .i64 0), .v (.int .i64 0), .v (.int .i64 0), .sl [] .nil, .sl [] .nil, .sl [] .nil, .v (.int .i64 0), .v (.int .i64 0)]
(call (.func 151) [ai a0] st4).bind fun r6 =>
(gK Tryz.prog 140 r6.1 1).bind fun p7 =>
(an q3 1).bind fun p8 =>
(au st.stk.length 1 p8 p7 r6.2).bind fun st9 =>
(call (.func 68) [ai a0, ai (PV.v (.string ⟨#[58]⟩))] st9).bind fun r10 =>
aw r10.1 fun b11 => (bif b11 then
(call (.func 71) [ai a0, ai (PV.v (.string ⟨#[108, 111, 111, 112]⟩))] r10.2).bind fun r13 =>
aZ r13 (fun p14 st15 =>
(aj true 58 q3 st15).bind fun p19 =>
(call (.func 153) [ai a0, ai p19] st15).bind fun r20 =>
aZ r20 (fun p21 st22 =>
(au st.stk.length 58 q5 p21 st22).bind fun st26 =>
some (Ex.ret, [a0, q3, q5], st26)) (fun t23 x24 st25 =>
some ((Ex.pan t23 x24), [a0, q3, q5], st25))) (fun t16 x17 st18 =>
some ((Ex.pan t16 x17), [a0, q3, q5], st18))
else
some (Ex.normal, [a0, q3, q5], r10.2)).bind fun r12 =>
bH r12.1 ((an (aa r12.2.1 1) 0).bind fun p28 =>
(au st.stk.length 1 p28 (PV.v (.int .i64 3)) r12.2.2).bind fun st29 =>
(call (.func 71) [ai (aa r12.2.1 0), ai (PV.v (.string ⟨#[61]⟩))] st29).bind fun r30 =>
aZ r30 (fun p31 st32 =>
(call (.func 155) [ai (aa r12.2.1 0)] st32).bind fun r36 =>
aZ r36 (fun p37 st38 =>
(an (aa r12.2.1 1) 2).bind fun p42 =>
(au st.stk.length 27 p42 p37 st38).bind fun st43 =>
(call (.func 71) [ai (aa r12.2.1 0), ai (PV.v (.string ⟨#[59]⟩))] st43).bind fun r44 =>
aZ r44 (fun p45 st46 =>
(aj true 58 (aa r12.2.1 1) st46).bind fun p50 =>
(au st.stk.length 58 (aa r12.2.1 2) p50 st46).bind fun st51 =>
(aj true 58 (aa r12.2.1 2) st51).bind fun p52 =>
fin st.stk.length st.tk.length st.lp.length [p52] st51) (fun t47 x48 st49 =>
some (PV.pan t47 x48, st49.back st.stk.length st.tk.length st.lp.length))) (fun t39 x40 st41 =>
some (PV.pan t39 x40, st41.back st.stk.length st.tk.length st.lp.length))) (fun t33 x34 st35 =>
some (PV.pan t33 x34, st35.back st.stk.length st.tk.length st.lp.length))) fun x27 =>
gm st.stk.length st.tk.length st.lp.length x27 r12.2.2 ((aj true 58 (aa r12.2.1 2) r12.2.2).bind fun p53 =>
fin st.stk.length st.tk.length st.lp.length [p53] r12.2.2)
theorem mA (a0 a1 : PV) (st : St) : E L (.func 152) [a0, a1] st = vR (E L) itE a0 a1 st := (bF (by kernel_rfl) Tryz.func152 _ _).trans (by kernel_rfl)
noncomputable def Az (call : bA) (it : bG) (a0 a1 : PV) (st : St) : Option (PV × St) :=
(cellsOf a1).bind fun b1 =>
let q3 : PV := .ptr false st.stk.length 0
let st2 := st.push b1
let q5 : PV := .ptr false st2.stk.length 0
let st4 := st2.push [.v (.int .i64 0), .v (.string ⟨#[]⟩), .v (.int .i64 0), .v (.int .i64 0), .v (.int .i64 0), .v (.int .u64 0), .v (.int .i64 0), .v (.string ⟨#[]⟩), .v (.string ⟨#[]⟩), .sl [] .nil, .v (.int .i64 0), .v (.int .i64 0), .v (.int .i64 0), .v (.string ⟨#[]⟩), .v (.string ⟨#[]⟩), .v (.int .i64 0), .v (.int .i64 0), .v (.int .u64 0), .v (.int .i64 0), .v (.string ⟨#[]⟩), .v (.string ⟨#[]⟩), .sl [] .nil, .v (.int .i64 0), .v (.int .i64 0), .v (.int .i64 0), .v (.int .i64 0), .v (.string ⟨#[]⟩), .v (.int .i64 0), .v (.int .i64 0), .v (.int .i64 0), .v (.string ⟨#[]⟩), .v (.string ⟨#[]⟩), .v (.int .i64 0), .v (.int .i64 0), .v (.int .u64 0), .v (.int .i64 0), .v (.string ⟨#[]⟩), .v (.string ⟨#[]⟩), .sl [] .nil, .v (.int .i64 0), .v (.int .i64 0), .v (.int .i64 0), .v (.int .i64 0), .v (.int .i64 0), .v (.int .i64 0), .v (.int .u64 0), .v (.int .i64 0), .v (.string ⟨#[]⟩), .v (.string ⟨#[]⟩), .sl [] .nil, .v (.int .i64 0), .v (.int .i64 0), .v (.int .i64 0), .sl [] .nil, .sl [] .nil, .sl [] .nil, .v (.int .i64 0), .v (.int .i64 0)]
(call (.func 157) [ai a0] st4).bind fun r6 =>
aZ r6 (fun p7 st8 =>
(an q3 0).bind fun p12 =>
(au st.stk.length 1 p12 (PV.v (.int .i64 6)) st8).bind fun st13 =>
(an q3 43).bind fun p14 =>
(au st.stk.length 9 p14 p7 st13).bind fun st15 =>
(an q3 54).bind fun p16 =>
(au st.stk.length 1 p16 (PV.sl [] .nil) st15).bind fun st17 =>
(call (.func 73) [ai a0] st17).bind fun r18 =>
aZ r18 (fun p19 st20 =>
(an q3 54).bind fun p24 =>
(au st.stk.length 1 p24 p19 st20).bind fun st25 =>
(call (.func 68) [ai a0, ai (PV.v (.string ⟨#[101, 108, 115, 101]⟩))] st25).bind fun r26 =>
aw r26.1 fun b27 => (bif b27 then
(call (.func 73) [ai a0] r26.2).bind fun r29 =>
aZ r29 (fun p30 st31 =>
(an q3 55).bind fun p35 =>
(au st.stk.length 1 p35 p30 st31).bind fun st36 =>
some (Ex.normal, [q3, q5], st36)) (fun t32 x33 st34 =>
some ((Ex.pan t32 x33), [q3, q5], st34))
else
some (Ex.normal, [q3, q5], r26.2)).bind fun r28 =>
bH r28.1 ((aj true 58 (aa r28.2.1 0) r28.2.2).bind fun p38 =>
(au st.stk.length 58 (aa r28.2.1 1) p38 r28.2.2).bind fun st39 =>
(aj true 58 (aa r28.2.1 1) st39).bind fun p40 =>
fin st.stk.length st.tk.length st.lp.length [p40] st39) fun x37 =>
gm st.stk.length st.tk.length st.lp.length x37 r28.2.2 ((aj true 58 (aa r28.2.1 1) r28.2.2).bind fun p41 =>
fin st.stk.length st.tk.length st.lp.length [p41] r28.2.2)) (fun t21 x22 st23 =>
some (PV.pan t21 x22, st23.back st.stk.length st.tk.length st.lp.length))) (fun t9 x10 st11 =>
some (PV.pan t9 x10, st11.back st.stk.length st.tk.length st.lp.length))
theorem pt (a0 a1 : PV) (st : St) : E L (.func 154) [a0, a1] st = Az (E L) itE a0 a1 st := (bF (by kernel_rfl) Tryz.func154 _ _).trans (by kernel_rfl)
noncomputable def GL (call : bA) (it : bG) (a0 : PV) (st : St) : Option (PV × St) :=
(call (.func 67) [ai a0] st).bind fun r1 =>
(gK Tryz.prog 140 r1.1 0).bind fun p2 =>
(aJ Tryz.prog true .eql 138 p2 (PV.v (.int .i64 1))).bind fun p3 =>
aw p3 fun b4 => (bif b4 then
(call (.func 151) [ai a0] r1.2).bind fun r6 =>
(gK Tryz.prog 140 r6.1 1).bind fun p7 =>
some (Ex.ret, [p7], r6.2)
else
some (Ex.normal, [(PV.v (.string ⟨#[]⟩))], r1.2)).bind fun r5 =>
bH r5.1 (fin st.stk.length st.tk.length st.lp.length [(PV.v (.string ⟨#[]⟩))] r5.2.2) fun x8 =>
dw x8 (fin st.stk.length st.tk.length st.lp.length [(aa r5.2.1 0)] r5.2.2)
theorem zg (a0 : PV) (st : St) : E L (.func 158) [a0] st = GL (E L) itE a0 st := (bF (by kernel_rfl) Tryz.func158 _ _).trans (by kernel_rfl)
noncomputable def pv.b0 (call : bA) (it : bG) (base lb : Nat) (vs12 : List PV) (st13 : St) : Option (Ex × List PV × St) :=
(call (.func 157) [ai (aa vs12 0)] st13).bind fun r14 =>
aZ r14 (fun p15 st16 =>
(aF 9 [.v (.int .i64 0), .v (.int .i64 0), .v (.int .u64 0), .v (.int .i64 0), .v (.string ⟨#[]⟩), .v (.string ⟨#[]⟩), .sl [] .nil, .v (.int .i64 0), .v (.int .i64 0)] 1 [(0, p15)]).bind fun p20 =>
(bM st16 p20).bind fun ys21 =>
(cj base [.v (.int .i64 0), .v (.int .i64 0), .v (.int .u64 0), .v (.int .i64 0), .v (.string ⟨#[]⟩), .v (.string ⟨#[]⟩), .sl [] .nil, .v (.int .i64 0), .v (.int .i64 0)] 9 104 (aa vs12 2) ys21 st16).bind fun r22 =>
(call (.func 68) [ai (aa vs12 0), ai (PV.v (.string ⟨#[41]⟩))] r22.2).bind fun r23 =>
aw r23.1 fun b24 => (bif b24 then
some (Ex.ret, [(aa vs12 0), r22.1, r22.1], r23.2)
else
some (Ex.normal, [(aa vs12 0), (aa vs12 1), r22.1], r23.2)).bind fun r25 =>
bH r25.1 ((call (.func 71) [ai (aa r25.2.1 0), ai (PV.v (.string ⟨#[44]⟩))] r25.2.2).bind fun r27 =>
aZ r27 (fun p28 st29 =>
some (Ex.normal, [(aa r25.2.1 0), (aa r25.2.1 1), (aa r25.2.1 2)], st29)) (fun t30 x31 st32 =>
some ((Ex.pan t30 x31), [(aa r25.2.1 0), (aa r25.2.1 1), (aa r25.2.1 2)], st32))) fun x26 =>
some ((Ex.ba 1 x26), [(aa r25.2.1 0), (aa r25.2.1 1), (aa r25.2.1 2)], r25.2.2)) (fun t17 x18 st19 =>
some ((Ex.pan t17 x18), [(aa vs12 0), (aa vs12 1), (aa vs12 2)], st19))
noncomputable def pv (call : bA) (it : bG) (a0 : PV) (st : St) : Option (PV × St) :=
(call (.func 71) [ai a0, ai (PV.v (.string ⟨#[40]⟩))] st).bind fun r1 =>
aZ r1 (fun p2 st3 =>
(call (.func 68) [ai a0, ai (PV.v (.string ⟨#[41]⟩))] st3).bind fun r7 =>
aw r7.1 fun b8 => (bif b8 then
some (Ex.ret, [a0, (PV.sl [] .nil), (PV.sl [] .nil)], r7.2)
else
some (Ex.normal, [a0, (PV.sl [] .nil), (PV.sl [] .nil)], r7.2)).bind fun r9 =>
bH r9.1 ((it (pv.b0 call it st.stk.length st.lp.length) [(aa r9.2.1 0), (aa r9.2.1 1), (aa r9.2.1 2)] r9.2.2).bind fun r11 =>
gm st.stk.length st.tk.length st.lp.length (Ex.ba 0 r11.1) r11.2.2 (fin st.stk.length st.tk.length st.lp.length [(aa r11.2.1 1)] r11.2.2)) fun x10 =>
gm st.stk.length st.tk.length st.lp.length x10 r9.2.2 (fin st.stk.length st.tk.length st.lp.length [(aa r9.2.1 1)] r9.2.2)) (fun t4 x5 st6 =>
some (PV.pan t4 x5, st6.back st.stk.length st.tk.length st.lp.length))
theorem rR (a0 : PV) (st : St) : E L (.func 159) [a0] st = pv (E L) itE a0 st := (bF (by kernel_rfl) Tryz.func159 _ _).trans (by kernel_rfl)
noncomputable def iw (call : bA) (it : bG) (a0 : PV) (st : St) : Option (PV × St) :=
let q2 : PV := .ptr false st.stk.length 0
let st1 := st.push [.v (.int .i64 0), .v (.string ⟨#[]⟩), .v (.int .i64 0), .v (.int .i64 0), .v (.int .i64 0), .v (.int .u64 0), .v (.int .i64 0), .v (.string ⟨#[]⟩), .v (.string ⟨#[]⟩), .sl [] .nil, .v (.int .i64 0), .v (.int .i64 0), .v (.int .i64 0), .v (.string ⟨#[]⟩), .v (.string ⟨#[]⟩), .v (.int .i64 0), .v (.int .i64 0), .v (.int .u64 0), .v (.int .i64 0), .v (.string ⟨#[]⟩), .v (.string ⟨#[]⟩), .sl [] .nil, .v (.int .i64 0), .v (.int .i64 0), .v (.int .i64 0), .v (.int .i64 0), .v (.string ⟨#[]⟩), .v (.int .i64 0), .v (.int .i64 0), .v (.int .i64 0), .v (.string ⟨#[]⟩), .v (.string ⟨#[]⟩), .v (.int .i64 0), .v (.int .i64 0), .v (.int .u64 0), .v (.int .i64 0), .v (.string ⟨#[]⟩), .v (.string ⟨#[]⟩), .sl [] .nil, .v (.int .i64 0), .v (.int .i64 0), .v (.int .i64 0), .v (.int .i64 0), .v (.int .i64 0), .v (.int .i64 0), .v (.int .u64 0), .v (.int .i64 0), .v (.string ⟨#[]⟩), .v (.string ⟨#[]⟩), .sl [] .nil, .v (.int .i64 0), .v (.int .i64 0), .v (.int .i64 0), .sl [] .nil, .sl [] .nil, .sl [] .nil, .v (.int .i64 0), .v (.int .i64 0)]
(call (.func 67) [ai a0] st1).bind fun r3 =>
let q5 : PV := .ptr false r3.2.stk.length 0
let st4 := r3.2.push [.v (.int .i64 0), .v (.string ⟨#[]⟩), .v (.int .u64 0), .v (.int .i64 0), .v (.int .i64 0)]
(au st.stk.length 5 q5 r3.1 st4).bind fun st6 =>
(an q5 3).bind fun p7 =>
(aj false 1 p7 st6).bind fun p8 =>
(an q5 4).bind fun p9 =>
(aj false 1 p9 st6).bind fun p10 =>
(bm [(0, 1), (1, 1), (2, 27), (29, 14), (43, 9), (52, 1), (53, 1), (54, 1), (55, 1), (56, 1), (57, 1)] [.v (.int .i64 0), .v (.string ⟨#[]⟩), .v (.int .i64 0), .v (.int .i64 0), .v (.int .i64 0), .v (.int .u64 0), .v (.int .i64 0), .v (.string ⟨#[]⟩), .v (.string ⟨#[]⟩), .sl [] .nil, .v (.int .i64 0), .v (.int .i64 0), .v (.int .i64 0), .v (.string ⟨#[]⟩), .v (.string ⟨#[]⟩), .v (.int .i64 0), .v (.int .i64 0), .v (.int .u64 0), .v (.int .i64 0), .v (.string ⟨#[]⟩), .v (.string ⟨#[]⟩), .sl [] .nil, .v (.int .i64 0), .v (.int .i64 0), .v (.int .i64 0), .v (.int .i64 0), .v (.string ⟨#[]⟩), .v (.int .i64 0), .v (.int .i64 0), .v (.int .i64 0), .v (.string ⟨#[]⟩), .v (.string ⟨#[]⟩), .v (.int .i64 0), .v (.int .i64 0), .v (.int .u64 0), .v (.int .i64 0), .v (.string ⟨#[]⟩), .v (.string ⟨#[]⟩), .sl [] .nil, .v (.int .i64 0), .v (.int .i64 0), .v (.int .i64 0), .v (.int .i64 0), .v (.int .i64 0), .v (.int .i64 0), .v (.int .u64 0), .v (.int .i64 0), .v (.string ⟨#[]⟩), .v (.string ⟨#[]⟩), .sl [] .nil, .v (.int .i64 0), .v (.int .i64 0), .v (.int .i64 0), .sl [] .nil, .sl [] .nil, .sl [] .nil, .v (.int .i64 0), .v (.int .i64 0)] [(9, p8), (10, p10)]).bind fun p11 =>
let q13 : PV := .ptr false st6.stk.length 0
let st12 := st6.push [.v (.int .i64 0), .v (.string ⟨#[]⟩), .v (.int .i64 0), .v (.int .i64 0), .v (.int .i64 0), .v (.int .u64 0), .v (.int .i64 0), .v (.string ⟨#[]⟩), .v (.string ⟨#[]⟩), .sl [] .nil, .v (.int .i64 0), .v (.int .i64 0), .v (.int .i64 0), .v (.string ⟨#[]⟩), .v (.string ⟨#[]⟩), .v (.int .i64 0), .v (.int .i64 0), .v (.int .u64 0), .v (.int .i64 0), .v (.string ⟨#[]⟩), .v (.string ⟨#[]⟩), .sl [] .nil, .v (.int .i64 0), .v (.int .i64 0), .v (.int .i64 0), .v (.int .i64 0), .v (.string ⟨#[]⟩), .v (.int .i64 0), .v (.int .i64 0), .v (.int .i64 0), .v (.string ⟨#[]⟩), .v (.string ⟨#[]⟩), .v (.int .i64 0), .v (.int .i64 0), .v (.int .u64 0), .v (.int .i64 0), .v (.string ⟨#[]⟩), .v (.string ⟨#[]⟩), .sl [] .nil, .v (.int .i64 0), .v (.int .i64 0), .v (.int .i64 0), .v (.int .i64 0), .v (.int .i64 0), .v (.int .i64 0), .v (.int .u64 0), .v (.int .i64 0), .v (.string ⟨#[]⟩), .v (.string ⟨#[]⟩), .sl [] .nil, .v (.int .i64 0), .v (.int .i64 0), .v (.int .i64 0), .sl [] .nil, .sl [] .nil, .sl [] .nil, .v (.int .i64 0), .v (.int .i64 0)]
(au st.stk.length 58 q13 p11 st12).bind fun st14 =>
(an q5 0).bind fun p15 =>
(aj false 1 p15 st14).bind fun p16 =>
(aJ Tryz.prog true .eql 138 p16 (PV.v (.int .i64 1))).bind fun p17 =>
aw p17 fun b18 => (bif b18 then
(aj true 58 q13 st14).bind fun p20 =>
(call (.func 152) [ai a0, ai p20] st14).bind fun r21 =>
aZ r21 (fun p22 st23 =>
(au st.stk.length 58 q2 p22 st23).bind fun st27 =>
some (Ex.ret, [a0, q2, q5, q13], st27)) (fun t24 x25 st26 =>
some ((Ex.pan t24 x25), [a0, q2, q5, q13], st26))
else
some (Ex.normal, [a0, q2, q5, q13], st14)).bind fun r19 =>
bH r19.1 ((call (.func 68) [ai (aa r19.2.1 0), ai (PV.v (.string ⟨#[108, 111, 111, 112]⟩))] r19.2.2).bind fun r29 =>
aw r29.1 fun b30 => (bif b30 then
(aj true 58 (aa r19.2.1 3) r29.2).bind fun p32 =>
(call (.func 153) [ai (aa r19.2.1 0), ai p32] r29.2).bind fun r33 =>
aZ r33 (fun p34 st35 =>
(au st.stk.length 58 (aa r19.2.1 1) p34 st35).bind fun st39 =>
some (Ex.ret, [(aa r19.2.1 0), (aa r19.2.1 1), (aa r19.2.1 3)], st39)) (fun t36 x37 st38 =>
some ((Ex.pan t36 x37), [(aa r19.2.1 0), (aa r19.2.1 1), (aa r19.2.1 3)], st38))
else
(call (.func 68) [ai (aa r19.2.1 0), ai (PV.v (.string ⟨#[105, 102]⟩))] r29.2).bind fun r40 =>
aw r40.1 fun b41 => (bif b41 then
(aj true 58 (aa r19.2.1 3) r40.2).bind fun p43 =>
(call (.func 154) [ai (aa r19.2.1 0), ai p43] r40.2).bind fun r44 =>
aZ r44 (fun p45 st46 =>
(au st.stk.length 58 (aa r19.2.1 1) p45 st46).bind fun st50 =>
some (Ex.ret, [(aa r19.2.1 0), (aa r19.2.1 1), (aa r19.2.1 3)], st50)) (fun t47 x48 st49 =>
some ((Ex.pan t47 x48), [(aa r19.2.1 0), (aa r19.2.1 1), (aa r19.2.1 3)], st49))
else
(call (.func 68) [ai (aa r19.2.1 0), ai (PV.v (.string ⟨#[97, 116, 111, 109, 105, 99]⟩))] r40.2).bind fun r51 =>
aw r51.1 fun b52 => (bif b52 then
(call (.func 73) [ai (aa r19.2.1 0)] r51.2).bind fun r54 =>
aZ r54 (fun p55 st56 =>
(an (aa r19.2.1 3) 0).bind fun p60 =>
(au st.stk.length 1 p60 (PV.v (.int .i64 10)) st56).bind fun st61 =>
(an (aa r19.2.1 3) 54).bind fun p62 =>
(au st.stk.length 1 p62 p55 st61).bind fun st63 =>
(aj true 58 (aa r19.2.1 3) st63).bind fun p64 =>
(au st.stk.length 58 (aa r19.2.1 1) p64 st63).bind fun st65 =>
some (Ex.ret, [(aa r19.2.1 0), (aa r19.2.1 1), (aa r19.2.1 3)], st65)) (fun t57 x58 st59 =>
some ((Ex.pan t57 x58), [(aa r19.2.1 0), (aa r19.2.1 1), (aa r19.2.1 3)], st59))
else
(call (.func 120) [ai (aa r19.2.1 0), ai (PV.v (.string ⟨#[108, 101, 116]⟩))] r51.2).bind fun r66 =>
(onG r66.1 false (
some ((aa r19.2.1 0), r66.2)) r66.2).bind fun r68 =>
(onG r66.1 false (
(call (.func 120) [ai r68.1, ai (PV.v (.string ⟨#[118, 97, 114]⟩))] r68.2).bind fun r71 =>
some (r71.1, r71.2)) r68.2).bind fun r70 =>
(bQ r66.1 (PV.v (.bool true)) r70.1).bind fun p72 =>
aw p72 fun b73 => (bif b73 then
(an (aa r19.2.1 3) 0).bind fun p75 =>
(au st.stk.length 1 p75 (PV.v (.int .i64 1)) r70.2).bind fun st76 =>
(call (.func 151) [ai (aa r19.2.1 0)] st76).bind fun r77 =>
(gK Tryz.prog 140 r77.1 1).bind fun p78 =>
(aJ Tryz.prog true .eql 9 p78 (PV.v (.string ⟨#[118, 97, 114]⟩))).bind fun p79 =>
aw p79 fun b80 => (bif b80 then
(an (aa r19.2.1 3) 0).bind fun p82 =>
(au st.stk.length 1 p82 (PV.v (.int .i64 2)) r77.2).bind fun st83 =>
some (Ex.normal, [(aa r19.2.1 0), (aa r19.2.1 1), (aa r19.2.1 3)], st83)
else
some (Ex.normal, [(aa r19.2.1 0), (aa r19.2.1 1), (aa r19.2.1 3)], r77.2)).bind fun r81 =>
bH r81.1 ((call (.func 121) [ai (aa r81.2.1 0), ai (PV.v (.int .i64 1))] r81.2.2).bind fun r85 =>
aZ r85 (fun p86 st87 =>
(gK Tryz.prog 140 p86 1).bind fun p91 =>
(an (aa r81.2.1 2) 1).bind fun p92 =>
(au st.stk.length 1 p92 p91 st87).bind fun st93 =>
(call (.func 71) [ai (aa r81.2.1 0), ai (PV.v (.string ⟨#[61]⟩))] st93).bind fun r94 =>
aZ r94 (fun p95 st96 =>
(call (.func 155) [ai (aa r81.2.1 0)] st96).bind fun r100 =>
aZ r100 (fun p101 st102 =>
(an (aa r81.2.1 2) 2).bind fun p106 =>
(au st.stk.length 27 p106 p101 st102).bind fun st107 =>
some (Ex.normal, [(aa r81.2.1 0), (aa r81.2.1 1), (aa r81.2.1 2)], st107)) (fun t103 x104 st105 =>
some ((Ex.pan t103 x104), [(aa r81.2.1 0), (aa r81.2.1 1), (aa r81.2.1 2)], st105))) (fun t97 x98 st99 =>
some ((Ex.pan t97 x98), [(aa r81.2.1 0), (aa r81.2.1 1), (aa r81.2.1 2)], st99))) (fun t88 x89 st90 =>
some ((Ex.pan t88 x89), [(aa r81.2.1 0), (aa r81.2.1 1), (aa r81.2.1 2)], st90))) fun x84 =>
some (x84, [(aa r81.2.1 0), (aa r81.2.1 1), (aa r81.2.1 2)], r81.2.2)
else
(call (.func 68) [ai (aa r19.2.1 0), ai (PV.v (.string ⟨#[115, 101, 116]⟩))] r70.2).bind fun r108 =>
aw r108.1 fun b109 => (bif b109 then
(call (.func 156) [ai (aa r19.2.1 0)] r108.2).bind fun r111 =>
aZ r111 (fun p112 st113 =>
(an (aa r19.2.1 3) 0).bind fun p117 =>
(au st.stk.length 1 p117 (PV.v (.int .i64 4)) st113).bind fun st118 =>
(an (aa r19.2.1 3) 29).bind fun p119 =>
(au st.stk.length 14 p119 p112 st118).bind fun st120 =>
(call (.func 71) [ai (aa r19.2.1 0), ai (PV.v (.string ⟨#[61]⟩))] st120).bind fun r121 =>
aZ r121 (fun p122 st123 =>
(call (.func 157) [ai (aa r19.2.1 0)] st123).bind fun r127 =>
aZ r127 (fun p128 st129 =>
(an (aa r19.2.1 3) 43).bind fun p133 =>
(au st.stk.length 9 p133 p128 st129).bind fun st134 =>
some (Ex.normal, [(aa r19.2.1 0), (aa r19.2.1 1), (aa r19.2.1 3)], st134)) (fun t130 x131 st132 =>
some ((Ex.pan t130 x131), [(aa r19.2.1 0), (aa r19.2.1 1), (aa r19.2.1 3)], st132))) (fun t124 x125 st126 =>
some ((Ex.pan t124 x125), [(aa r19.2.1 0), (aa r19.2.1 1), (aa r19.2.1 3)], st126))) (fun t114 x115 st116 =>
some ((Ex.pan t114 x115), [(aa r19.2.1 0), (aa r19.2.1 1), (aa r19.2.1 3)], st116))
else
(call (.func 68) [ai (aa r19.2.1 0), ai (PV.v (.string ⟨#[112, 114, 105, 110, 116]⟩))] r108.2).bind fun r135 =>
aw r135.1 fun b136 => (bif b136 then
(call (.func 157) [ai (aa r19.2.1 0)] r135.2).bind fun r138 =>
aZ r138 (fun p139 st140 =>
(an (aa r19.2.1 3) 0).bind fun p144 =>
(au st.stk.length 1 p144 (PV.v (.int .i64 5)) st140).bind fun st145 =>
(an (aa r19.2.1 3) 43).bind fun p146 =>
(au st.stk.length 9 p146 p139 st145).bind fun st147 =>
some (Ex.normal, [(aa r19.2.1 0), (aa r19.2.1 1), (aa r19.2.1 3)], st147)) (fun t141 x142 st143 =>
some ((Ex.pan t141 x142), [(aa r19.2.1 0), (aa r19.2.1 1), (aa r19.2.1 3)], st143))
else
(call (.func 68) [ai (aa r19.2.1 0), ai (PV.v (.string ⟨#[98, 114, 101, 97, 107]⟩))] r135.2).bind fun r148 =>
aw r148.1 fun b149 => (bif b149 then
(call (.func 158) [ai (aa r19.2.1 0)] r148.2).bind fun r151 =>
(an (aa r19.2.1 3) 0).bind fun p152 =>
(au st.stk.length 1 p152 (PV.v (.int .i64 8)) r151.2).bind fun st153 =>
(an (aa r19.2.1 3) 1).bind fun p154 =>
(au st.stk.length 1 p154 r151.1 st153).bind fun st155 =>
some (Ex.normal, [(aa r19.2.1 0), (aa r19.2.1 1), (aa r19.2.1 3)], st155)
else
(call (.func 68) [ai (aa r19.2.1 0), ai (PV.v (.string ⟨#[99, 111, 110, 116, 105, 110, 117, 101]⟩))] r148.2).bind fun r156 =>
aw r156.1 fun b157 => (bif b157 then
(call (.func 158) [ai (aa r19.2.1 0)] r156.2).bind fun r159 =>
(an (aa r19.2.1 3) 0).bind fun p160 =>
(au st.stk.length 1 p160 (PV.v (.int .i64 9)) r159.2).bind fun st161 =>
(an (aa r19.2.1 3) 1).bind fun p162 =>
(au st.stk.length 1 p162 r159.1 st161).bind fun st163 =>
some (Ex.normal, [(aa r19.2.1 0), (aa r19.2.1 1), (aa r19.2.1 3)], st163)
else
(call (.func 68) [ai (aa r19.2.1 0), ai (PV.v (.string ⟨#[99, 97, 108, 108]⟩))] r156.2).bind fun r164 =>
aw r164.1 fun b165 => (bif b165 then
(call (.func 121) [ai (aa r19.2.1 0), ai (PV.v (.int .i64 1))] r164.2).bind fun r167 =>
aZ r167 (fun p168 st169 =>
(gK Tryz.prog 140 p168 1).bind fun p173 =>
(an (aa r19.2.1 3) 0).bind fun p174 =>
(au st.stk.length 1 p174 (PV.v (.int .i64 11)) st169).bind fun st175 =>
(an (aa r19.2.1 3) 1).bind fun p176 =>
(au st.stk.length 1 p176 p173 st175).bind fun st177 =>
(call (.func 159) [ai (aa r19.2.1 0)] st177).bind fun r178 =>
aZ r178 (fun p179 st180 =>
(an (aa r19.2.1 3) 53).bind fun p184 =>
(au st.stk.length 1 p184 p179 st180).bind fun st185 =>
some (Ex.normal, [(aa r19.2.1 0), (aa r19.2.1 1), (aa r19.2.1 3)], st185)) (fun t181 x182 st183 =>
some ((Ex.pan t181 x182), [(aa r19.2.1 0), (aa r19.2.1 1), (aa r19.2.1 3)], st183))) (fun t170 x171 st172 =>
some ((Ex.pan t170 x171), [(aa r19.2.1 0), (aa r19.2.1 1), (aa r19.2.1 3)], st172))
else
(aj true 5 (aa r19.2.1 2) r164.2).bind fun p186 =>
(call (.func 74) [ai (aa r19.2.1 0), ai (PV.v (.int .i64 4)), ai p186] r164.2).bind fun r187 =>
aZ r187 (fun p188 st189 =>
some (Ex.normal, [(aa r19.2.1 0), (aa r19.2.1 1), (aa r19.2.1 3)], st189)) (fun t190 x191 st192 =>
some ((Ex.pan t190 x191), [(aa r19.2.1 0), (aa r19.2.1 1), (aa r19.2.1 3)], st192))).bind fun r166 =>
some (r166.1, [(aa r166.2.1 0), (aa r166.2.1 1), (aa r166.2.1 2)], r166.2.2)).bind fun r158 =>
some (r158.1, [(aa r158.2.1 0), (aa r158.2.1 1), (aa r158.2.1 2)], r158.2.2)).bind fun r150 =>
some (r150.1, [(aa r150.2.1 0), (aa r150.2.1 1), (aa r150.2.1 2)], r150.2.2)).bind fun r137 =>
some (r137.1, [(aa r137.2.1 0), (aa r137.2.1 1), (aa r137.2.1 2)], r137.2.2)).bind fun r110 =>
some (r110.1, [(aa r110.2.1 0), (aa r110.2.1 1), (aa r110.2.1 2)], r110.2.2)).bind fun r74 =>
some (r74.1, [(aa r74.2.1 0), (aa r74.2.1 1), (aa r74.2.1 2)], r74.2.2)).bind fun r53 =>
some (r53.1, [(aa r53.2.1 0), (aa r53.2.1 1), (aa r53.2.1 2)], r53.2.2)).bind fun r42 =>
some (r42.1, [(aa r42.2.1 0), (aa r42.2.1 1), (aa r42.2.1 2)], r42.2.2)).bind fun r31 =>
bH (Ex.ba 0 r31.1) ((call (.func 71) [ai (aa r31.2.1 0), ai (PV.v (.string ⟨#[59]⟩))] r31.2.2).bind fun r194 =>
aZ r194 (fun p195 st196 =>
(aj true 58 (aa r31.2.1 2) st196).bind fun p200 =>
(au st.stk.length 58 (aa r31.2.1 1) p200 st196).bind fun st201 =>
(aj true 58 (aa r31.2.1 1) st201).bind fun p202 =>
fin st.stk.length st.tk.length st.lp.length [p202] st201) (fun t197 x198 st199 =>
some (PV.pan t197 x198, st199.back st.stk.length st.tk.length st.lp.length))) fun x193 =>
gm st.stk.length st.tk.length st.lp.length x193 r31.2.2 ((aj true 58 (aa r31.2.1 1) r31.2.2).bind fun p203 =>
fin st.stk.length st.tk.length st.lp.length [p203] r31.2.2)) fun x28 =>
gm st.stk.length st.tk.length st.lp.length x28 r19.2.2 ((aj true 58 (aa r19.2.1 1) r19.2.2).bind fun p204 =>
fin st.stk.length st.tk.length st.lp.length [p204] r19.2.2)
theorem dE (a0 : PV) (st : St) : E L (.func 124) [a0] st = iw (E L) itE a0 st := (bF (by kernel_rfl) Tryz.func124 _ _).trans (by kernel_rfl)
noncomputable def S73.b0 (call : bA) (it : bG) (base lb : Nat) (vs14 : List PV) (st15 : St) : Option (Ex × List PV × St) :=
(call (.func 68) [ai (aa vs14 0), ai (PV.v (.string ⟨#[125]⟩))] st15).bind fun r16 =>
(aUn Tryz.prog .not r16.1).bind fun p17 =>
aw p17 fun b18 => (bif b18 then
some (Ex.normal, [(aa vs14 0), (aa vs14 1)], r16.2)
else
some ((Ex.exit 0), [(aa vs14 0), (aa vs14 1)], r16.2)).bind fun r19 =>
bH r19.1 ((call (.func 124) [ai (aa r19.2.1 0)] r19.2.2).bind fun r21 =>
aZ r21 (fun p22 st23 =>
(aF 58 [.v (.int .i64 0), .v (.string ⟨#[]⟩), .v (.int .i64 0), .v (.int .i64 0), .v (.int .i64 0), .v (.int .u64 0), .v (.int .i64 0), .v (.string ⟨#[]⟩), .v (.string ⟨#[]⟩), .sl [] .nil, .v (.int .i64 0), .v (.int .i64 0), .v (.int .i64 0), .v (.string ⟨#[]⟩), .v (.string ⟨#[]⟩), .v (.int .i64 0), .v (.int .i64 0), .v (.int .u64 0), .v (.int .i64 0), .v (.string ⟨#[]⟩), .v (.string ⟨#[]⟩), .sl [] .nil, .v (.int .i64 0), .v (.int .i64 0), .v (.int .i64 0), .v (.int .i64 0), .v (.string ⟨#[]⟩), .v (.int .i64 0), .v (.int .i64 0), .v (.int .i64 0), .v (.string ⟨#[]⟩), .v (.string ⟨#[]⟩), .v (.int .i64 0), .v (.int .i64 0), .v (.int .u64 0), .v (.int .i64 0), .v (.string ⟨#[]⟩), .v (.string ⟨#[]⟩), .sl [] .nil, .v (.int .i64 0), .v (.int .i64 0), .v (.int .i64 0), .v (.int .i64 0), .v (.int .i64 0), .v (.int .i64 0), .v (.int .u64 0), .v (.int .i64 0), .v (.string ⟨#[]⟩), .v (.string ⟨#[]⟩), .sl [] .nil, .v (.int .i64 0), .v (.int .i64 0), .v (.int .i64 0), .sl [] .nil, .sl [] .nil, .sl [] .nil, .v (.int .i64 0), .v (.int .i64 0)] 1 [(0, p22)]).bind fun p27 =>
(bM st23 p27).bind fun ys28 =>
(cj base [.v (.int .i64 0), .v (.string ⟨#[]⟩), .v (.int .i64 0), .v (.int .i64 0), .v (.int .i64 0), .v (.int .u64 0), .v (.int .i64 0), .v (.string ⟨#[]⟩), .v (.string ⟨#[]⟩), .sl [] .nil, .v (.int .i64 0), .v (.int .i64 0), .v (.int .i64 0), .v (.string ⟨#[]⟩), .v (.string ⟨#[]⟩), .v (.int .i64 0), .v (.int .i64 0), .v (.int .u64 0), .v (.int .i64 0), .v (.string ⟨#[]⟩), .v (.string ⟨#[]⟩), .sl [] .nil, .v (.int .i64 0), .v (.int .i64 0), .v (.int .i64 0), .v (.int .i64 0), .v (.string ⟨#[]⟩), .v (.int .i64 0), .v (.int .i64 0), .v (.int .i64 0), .v (.string ⟨#[]⟩), .v (.string ⟨#[]⟩), .v (.int .i64 0), .v (.int .i64 0), .v (.int .u64 0), .v (.int .i64 0), .v (.string ⟨#[]⟩), .v (.string ⟨#[]⟩), .sl [] .nil, .v (.int .i64 0), .v (.int .i64 0), .v (.int .i64 0), .v (.int .i64 0), .v (.int .i64 0), .v (.int .i64 0), .v (.int .u64 0), .v (.int .i64 0), .v (.string ⟨#[]⟩), .v (.string ⟨#[]⟩), .sl [] .nil, .v (.int .i64 0), .v (.int .i64 0), .v (.int .i64 0), .sl [] .nil, .sl [] .nil, .sl [] .nil, .v (.int .i64 0), .v (.int .i64 0)] 58 688 (aa r19.2.1 1) ys28 st23).bind fun r29 =>
some (Ex.normal, [(aa r19.2.1 0), r29.1], r29.2)) (fun t24 x25 st26 =>
some ((Ex.pan t24 x25), [(aa r19.2.1 0), (aa r19.2.1 1)], st26))) fun x20 =>
some (x20, [(aa r19.2.1 0), (aa r19.2.1 1)], r19.2.2)
noncomputable def S73 (call : bA) (it : bG) (a0 : PV) (st : St) : Option (PV × St) :=
(call (.func 71) [ai a0, ai (PV.v (.string ⟨#[123]⟩))] st).bind fun r1 =>
aZ r1 (fun p2 st3 =>
(call (.func 123) [ai a0, ai p2] st3).bind fun r7 =>
aZ r7 (fun p8 st9 =>
(it (S73.b0 call it st.stk.length st.lp.length) [a0, (PV.sl [] .nil)] st9).bind fun r13 =>
bH (Ex.ba 0 r13.1) ((aI (aa r13.2.1 0)).bind fun p31 =>
(an p31 2).bind fun p32 =>
(aj false 1 p32 r13.2.2).bind fun p33 =>
(aJ Tryz.prog true .sub 3 p33 (PV.v (.int .i64 1))).bind fun p34 =>
(aI (aa r13.2.1 0)).bind fun p35 =>
(an p35 2).bind fun p36 =>
(au st.stk.length 1 p36 p34 r13.2.2).bind fun st37 =>
fin st.stk.length st.tk.length st.lp.length [(aa r13.2.1 1)] st37) fun x30 =>
gm st.stk.length st.tk.length st.lp.length x30 r13.2.2 (fin st.stk.length st.tk.length st.lp.length [PV.u] r13.2.2)) (fun t10 x11 st12 =>
some (PV.pan t10 x11, st12.back st.stk.length st.tk.length st.lp.length))) (fun t4 x5 st6 =>
some (PV.pan t4 x5, st6.back st.stk.length st.tk.length st.lp.length))
theorem uX (a0 : PV) (st : St) : E L (.func 73) [a0] st = S73 (E L) itE a0 st := (bF (by kernel_rfl) Tryz.func73 _ _).trans (by kernel_rfl)
noncomputable def S72.b0 (call : bA) (it : bG) (base lb : Nat) (vs33 : List PV) (st34 : St) : Option (Ex × List PV × St) :=
(an (aa vs33 2) 1).bind fun p35 =>
(aj false 1 p35 st34).bind fun p36 =>
bq (st34 = st34) <|
(call (.func 70) [ai (aa vs33 0)] st34).bind fun r37 =>
aZ r37 (fun p38 st39 =>
bq (((aj false 1 p35 st39).bind fun p43 =>
some (Rs.ret p43, st39)) = some (Rs.ret p36, st39)) <|
(aF 5 [.v (.string ⟨#[]⟩), .v (.int .i64 0), .v (.string ⟨#[]⟩), .v (.int .i64 0), .v (.int .i64 0)] 1 [(0, p38)]).bind fun p44 =>
(bM st39 p44).bind fun ys45 =>
(cj base [.v (.string ⟨#[]⟩), .v (.int .i64 0), .v (.string ⟨#[]⟩), .v (.int .i64 0), .v (.int .i64 0)] 5 56 p36 ys45 st39).bind fun r46 =>
(an (aa vs33 2) 1).bind fun p47 =>
(au base 1 p47 r46.1 r46.2).bind fun st48 =>
(call (.func 68) [ai (aa vs33 0), ai (PV.v (.string ⟨#[41]⟩))] st48).bind fun r49 =>
aw r49.1 fun b50 => (bif b50 then
some ((Ex.exit 0), [(aa vs33 0), (aa vs33 1), (aa vs33 2)], r49.2)
else
some (Ex.normal, [(aa vs33 0), (aa vs33 1), (aa vs33 2)], r49.2)).bind fun r51 =>
bH r51.1 ((call (.func 71) [ai (aa r51.2.1 0), ai (PV.v (.string ⟨#[44]⟩))] r51.2.2).bind fun r53 =>
aZ r53 (fun p54 st55 =>
some (Ex.normal, [(aa r51.2.1 0), (aa r51.2.1 1), (aa r51.2.1 2)], st55)) (fun t56 x57 st58 =>
some ((Ex.pan t56 x57), [(aa r51.2.1 0), (aa r51.2.1 1), (aa r51.2.1 2)], st58))) fun x52 =>
some ((Ex.ba 1 x52), [(aa r51.2.1 0), (aa r51.2.1 1), (aa r51.2.1 2)], r51.2.2)) (fun t40 x41 st42 =>
some ((Ex.pan t40 x41), [(aa vs33 0), (aa vs33 1), (aa vs33 2)], st42))
noncomputable def S72 (call : bA) (it : bG) (a0 : PV) (st : St) : Option (PV × St) :=
let q2 : PV := .ptr false st.stk.length 0
let st1 := st.push [.v (.string ⟨#[]⟩), .sl [] .nil, .sl [] .nil, .v (.int .i64 0), .v (.int .i64 0)]
(call (.func 121) [ai a0, ai (PV.v (.int .i64 1))] st1).bind fun r3 =>
aZ r3 (fun p4 st5 =>
let q10 : PV := .ptr false st5.stk.length 0
let st9 := st5.push [.v (.int .i64 0), .v (.string ⟨#[]⟩), .v (.int .u64 0), .v (.int .i64 0), .v (.int .i64 0)]
(au st.stk.length 5 q10 p4 st9).bind fun st11 =>
(an q10 1).bind fun p12 =>
(aj false 1 p12 st11).bind fun p13 =>
(an q10 3).bind fun p14 =>
(aj false 1 p14 st11).bind fun p15 =>
(an q10 4).bind fun p16 =>
(aj false 1 p16 st11).bind fun p17 =>
(bm [(0, 1), (1, 1), (2, 1), (3, 1), (4, 1)] [.v (.string ⟨#[]⟩), .sl [] .nil, .sl [] .nil, .v (.int .i64 0), .v (.int .i64 0)] [(0, p13), (3, p15), (4, p17)]).bind fun p18 =>
let q20 : PV := .ptr false st11.stk.length 0
let st19 := st11.push [.v (.string ⟨#[]⟩), .sl [] .nil, .sl [] .nil, .v (.int .i64 0), .v (.int .i64 0)]
(au st.stk.length 5 q20 p18 st19).bind fun st21 =>
(call (.func 71) [ai a0, ai (PV.v (.string ⟨#[40]⟩))] st21).bind fun r22 =>
aZ r22 (fun p23 st24 =>
(call (.func 68) [ai a0, ai (PV.v (.string ⟨#[41]⟩))] st24).bind fun r28 =>
(aUn Tryz.prog .not r28.1).bind fun p29 =>
aw p29 fun b30 => (bif b30 then
(it (S72.b0 call it st.stk.length st.lp.length) [a0, q2, q20] r28.2).bind fun r32 =>
some ((Ex.ba 0 r32.1), [(aa r32.2.1 0), (aa r32.2.1 1), (aa r32.2.1 2)], r32.2.2)
else
some (Ex.normal, [a0, q2, q20], r28.2)).bind fun r31 =>
bH r31.1 ((call (.func 73) [ai (aa r31.2.1 0)] r31.2.2).bind fun r60 =>
aZ r60 (fun p61 st62 =>
(an (aa r31.2.1 2) 2).bind fun p66 =>
(au st.stk.length 1 p66 p61 st62).bind fun st67 =>
(aj true 5 (aa r31.2.1 2) st67).bind fun p68 =>
(au st.stk.length 5 (aa r31.2.1 1) p68 st67).bind fun st69 =>
(aj true 5 (aa r31.2.1 1) st69).bind fun p70 =>
fin st.stk.length st.tk.length st.lp.length [p70] st69) (fun t63 x64 st65 =>
some (PV.pan t63 x64, st65.back st.stk.length st.tk.length st.lp.length))) fun x59 =>
gm st.stk.length st.tk.length st.lp.length x59 r31.2.2 ((aj true 5 (aa r31.2.1 1) r31.2.2).bind fun p71 =>
fin st.stk.length st.tk.length st.lp.length [p71] r31.2.2)) (fun t25 x26 st27 =>
some (PV.pan t25 x26, st27.back st.stk.length st.tk.length st.lp.length))) (fun t6 x7 st8 =>
some (PV.pan t6 x7, st8.back st.stk.length st.tk.length st.lp.length))
theorem oO (a0 : PV) (st : St) : E L (.func 72) [a0] st = S72 (E L) itE a0 st := (bF (by kernel_rfl) Tryz.func72 _ _).trans (by kernel_rfl)
noncomputable def S48.b0 (call : bA) (it : bG) (base lb : Nat) (vs6 : List PV) (st7 : St) : Option (Ex × List PV × St) :=
(call (.func 67) [ai (aa vs6 0)] st7).bind fun r8 =>
let q10 : PV := .ptr false r8.2.stk.length 0
let st9 := r8.2.push [.v (.int .i64 0), .v (.string ⟨#[]⟩), .v (.int .u64 0), .v (.int .i64 0), .v (.int .i64 0)]
(au base 5 q10 r8.1 st9).bind fun st11 =>
(an q10 0).bind fun p12 =>
(aj false 1 p12 st11).bind fun p13 =>
(aJ Tryz.prog true .eql 138 p13 (PV.v (.int .i64 0))).bind fun p14 =>
aw p14 fun b15 => (bif b15 then
(aj true 4 (aa vs6 2) st11).bind fun p17 =>
(au base 4 (aa vs6 1) p17 st11).bind fun st18 =>
some (Ex.ret, [(aa vs6 0), (aa vs6 1), (aa vs6 2)], st18)
else
(call (.func 68) [ai (aa vs6 0), ai (PV.v (.string ⟨#[114, 101, 99, 111, 114, 100]⟩))] st11).bind fun r19 =>
aw r19.1 fun b20 => (bif b20 then
(an (aa vs6 2) 0).bind fun p22 =>
(aj false 1 p22 r19.2).bind fun p23 =>
bq (r19.2 = r19.2) <|
(call (.func 69) [ai (aa vs6 0)] r19.2).bind fun r24 =>
aZ r24 (fun p25 st26 =>
bq (((aj false 1 p22 st26).bind fun p30 =>
some (Rs.ret p30, st26)) = some (Rs.ret p23, st26)) <|
(aF 4 [.v (.string ⟨#[]⟩), .sl [] .nil, .v (.int .i64 0), .v (.int .i64 0)] 1 [(0, p25)]).bind fun p31 =>
(bM st26 p31).bind fun ys32 =>
(cj base [.v (.string ⟨#[]⟩), .sl [] .nil, .v (.int .i64 0), .v (.int .i64 0)] 4 56 p23 ys32 st26).bind fun r33 =>
(an (aa vs6 2) 0).bind fun p34 =>
(au base 1 p34 r33.1 r33.2).bind fun st35 =>
some (Ex.normal, [(aa vs6 0), (aa vs6 1), (aa vs6 2)], st35)) (fun t27 x28 st29 =>
some ((Ex.pan t27 x28), [(aa vs6 0), (aa vs6 1), (aa vs6 2)], st29))
else
(call (.func 68) [ai (aa vs6 0), ai (PV.v (.string ⟨#[103, 108, 111, 98, 97, 108]⟩))] r19.2).bind fun r36 =>
aw r36.1 fun b37 => (bif b37 then
(an (aa vs6 2) 1).bind fun p39 =>
(aj false 1 p39 r36.2).bind fun p40 =>
bq (r36.2 = r36.2) <|
(call (.func 70) [ai (aa vs6 0)] r36.2).bind fun r41 =>
aZ r41 (fun p42 st43 =>
bq (((aj false 1 p39 st43).bind fun p47 =>
some (Rs.ret p47, st43)) = some (Rs.ret p40, st43)) <|
(aF 5 [.v (.string ⟨#[]⟩), .v (.int .i64 0), .v (.string ⟨#[]⟩), .v (.int .i64 0), .v (.int .i64 0)] 1 [(0, p42)]).bind fun p48 =>
(bM st43 p48).bind fun ys49 =>
(cj base [.v (.string ⟨#[]⟩), .v (.int .i64 0), .v (.string ⟨#[]⟩), .v (.int .i64 0), .v (.int .i64 0)] 5 56 p40 ys49 st43).bind fun r50 =>
(an (aa vs6 2) 1).bind fun p51 =>
(au base 1 p51 r50.1 r50.2).bind fun st52 =>
(call (.func 71) [ai (aa vs6 0), ai (PV.v (.string ⟨#[59]⟩))] st52).bind fun r53 =>
aZ r53 (fun p54 st55 =>
some (Ex.normal, [(aa vs6 0), (aa vs6 1), (aa vs6 2)], st55)) (fun t56 x57 st58 =>
some ((Ex.pan t56 x57), [(aa vs6 0), (aa vs6 1), (aa vs6 2)], st58))) (fun t44 x45 st46 =>
some ((Ex.pan t44 x45), [(aa vs6 0), (aa vs6 1), (aa vs6 2)], st46))
else
(call (.func 68) [ai (aa vs6 0), ai (PV.v (.string ⟨#[102, 117, 110]⟩))] r36.2).bind fun r59 =>
aw r59.1 fun b60 => (bif b60 then
(an (aa vs6 2) 2).bind fun p62 =>
(aj false 1 p62 r59.2).bind fun p63 =>
bq (r59.2 = r59.2) <|
(call (.func 72) [ai (aa vs6 0)] r59.2).bind fun r64 =>
aZ r64 (fun p65 st66 =>
bq (((aj false 1 p62 st66).bind fun p70 =>
some (Rs.ret p70, st66)) = some (Rs.ret p63, st66)) <|
(aF 5 [.v (.string ⟨#[]⟩), .sl [] .nil, .sl [] .nil, .v (.int .i64 0), .v (.int .i64 0)] 1 [(0, p65)]).bind fun p71 =>
(bM st66 p71).bind fun ys72 =>
(cj base [.v (.string ⟨#[]⟩), .sl [] .nil, .sl [] .nil, .v (.int .i64 0), .v (.int .i64 0)] 5 80 p63 ys72 st66).bind fun r73 =>
(an (aa vs6 2) 2).bind fun p74 =>
(au base 1 p74 r73.1 r73.2).bind fun st75 =>
some (Ex.normal, [(aa vs6 0), (aa vs6 1), (aa vs6 2)], st75)) (fun t67 x68 st69 =>
some ((Ex.pan t67 x68), [(aa vs6 0), (aa vs6 1), (aa vs6 2)], st69))
else
(call (.func 68) [ai (aa vs6 0), ai (PV.v (.string ⟨#[116, 104, 114, 101, 97, 100]⟩))] r59.2).bind fun r76 =>
aw r76.1 fun b77 => (bif b77 then
(an (aa vs6 2) 3).bind fun p79 =>
(aj false 1 p79 r76.2).bind fun p80 =>
bq (r76.2 = r76.2) <|
(call (.func 73) [ai (aa vs6 0)] r76.2).bind fun r81 =>
aZ r81 (fun p82 st83 =>
bq (((aj false 1 p79 st83).bind fun p87 =>
some (Rs.ret p87, st83)) = some (Rs.ret p80, st83)) <|
(an q10 3).bind fun p88 =>
(aj false 1 p88 st83).bind fun p89 =>
bq (st83 = st83) <|
bq (((aj false 1 p88 r76.2).bind fun p90 =>
some (Rs.ret p90, r76.2)) = some (Rs.ret p89, r76.2)) <|
(an q10 4).bind fun p91 =>
(aj false 1 p91 st83).bind fun p92 =>
bq (st83 = st83) <|
bq (((aj false 1 p91 r76.2).bind fun p93 =>
some (Rs.ret p93, r76.2)) = some (Rs.ret p92, r76.2)) <|
(bm [(0, 1), (1, 1), (2, 1)] [.sl [] .nil, .v (.int .i64 0), .v (.int .i64 0)] [(0, p82), (1, p89), (2, p92)]).bind fun p94 =>
(aF 3 [.sl [] .nil, .v (.int .i64 0), .v (.int .i64 0)] 1 [(0, p94)]).bind fun p95 =>
(bM st83 p95).bind fun ys96 =>
(cj base [.sl [] .nil, .v (.int .i64 0), .v (.int .i64 0)] 3 40 p80 ys96 st83).bind fun r97 =>
(an (aa vs6 2) 3).bind fun p98 =>
(au base 1 p98 r97.1 r97.2).bind fun st99 =>
some (Ex.normal, [(aa vs6 0), (aa vs6 1), (aa vs6 2)], st99)) (fun t84 x85 st86 =>
(an q10 3).bind fun p100 =>
(aj false 1 p100 r76.2).bind fun p101 =>
bq (r76.2 = r76.2) <|
(an q10 4).bind fun p102 =>
(aj false 1 p102 r76.2).bind fun p103 =>
bq (r76.2 = r76.2) <|
some ((Ex.pan t84 x85), [(aa vs6 0), (aa vs6 1), (aa vs6 2)], st86))
else
(aj true 5 q10 r76.2).bind fun p104 =>
(call (.func 74) [ai (aa vs6 0), ai (PV.v (.int .i64 4)), ai p104] r76.2).bind fun r105 =>
aZ r105 (fun p106 st107 =>
some (Ex.normal, [(aa vs6 0), (aa vs6 1), (aa vs6 2)], st107)) (fun t108 x109 st110 =>
some ((Ex.pan t108 x109), [(aa vs6 0), (aa vs6 1), (aa vs6 2)], st110))).bind fun r78 =>
some (r78.1, [(aa r78.2.1 0), (aa r78.2.1 1), (aa r78.2.1 2)], r78.2.2)).bind fun r61 =>
some (r61.1, [(aa r61.2.1 0), (aa r61.2.1 1), (aa r61.2.1 2)], r61.2.2)).bind fun r38 =>
some (r38.1, [(aa r38.2.1 0), (aa r38.2.1 1), (aa r38.2.1 2)], r38.2.2)).bind fun r21 =>
some (r21.1, [(aa r21.2.1 0), (aa r21.2.1 1), (aa r21.2.1 2)], r21.2.2)).bind fun r16 =>
dU base lb st7.stk.length (Ex.ba 1 (Ex.ba 2 r16.1)) [(aa r16.2.1 0), (aa r16.2.1 1), (aa r16.2.1 2)] r16.2.2
noncomputable def S48 (call : bA) (it : bG) (a0 : PV) (st : St) : Option (PV × St) :=
let q2 : PV := .ptr false st.stk.length 0
let st1 := st.push [.sl [] .nil, .sl [] .nil, .sl [] .nil, .sl [] .nil]
let q4 : PV := .ptr false st1.stk.length 0
let st3 := st1.push [.sl [] .nil, .sl [] .nil, .sl [] .nil, .sl [] .nil]
(it (S48.b0 call it st.stk.length st.lp.length) [a0, q2, q4] st3).bind fun r5 =>
gm st.stk.length st.tk.length st.lp.length (Ex.ba 0 r5.1) r5.2.2 ((aj true 4 (aa r5.2.1 1) r5.2.2).bind fun p111 =>
fin st.stk.length st.tk.length st.lp.length [p111] r5.2.2)
theorem B6 (a0 : PV) (st : St) : E L (.func 48) [a0] st = S48 (E L) itE a0 st := (bF (by kernel_rfl) Tryz.func48 _ _).trans (by kernel_rfl)
noncomputable def S19 (call : bA) (it : bG) (st : St) : Option (PV × St) :=
(call (.func 20) [ai (PV.v (.string ⟨#[116, 104, 114, 101, 97, 100, 32, 123, 32, 112, 114, 105, 110, 116, 32, 49, 32, 43, 32, 50, 32, 42, 32, 51, 59, 32, 125]⟩))] st).bind fun r1 =>
(aS r1.1 0).bind fun p2 =>
(aS r1.1 1).bind fun p3 =>
let q5 : PV := .ptr false r1.2.stk.length 0
let st4 := r1.2.push [.sl [] .nil, .sl [] .nil, .sl [] .nil, .sl [] .nil]
let q7 : PV := .ptr false st4.stk.length 0
let st6 := st4.push [.v (.int .i64 0), .v (.int .i64 0), .v (.int .i64 0)]
(au st.stk.length 4 q5 p2 st6).bind fun st8 =>
(au st.stk.length 3 q7 p3 st8).bind fun st9 =>
(call (.func 20) [ai (PV.v (.string ⟨#[116, 104, 114, 101, 97, 100, 32, 123, 32, 112, 114, 105, 110, 116, 32, 59, 32, 125]⟩))] st9).bind fun r10 =>
(aS r10.1 0).bind fun p11 =>
(aS r10.1 1).bind fun p12 =>
let q14 : PV := .ptr false r10.2.stk.length 0
let st13 := r10.2.push [.sl [] .nil, .sl [] .nil, .sl [] .nil, .sl [] .nil]
let q16 : PV := .ptr false st13.stk.length 0
let st15 := st13.push [.v (.int .i64 0), .v (.int .i64 0), .v (.int .i64 0)]
(au st.stk.length 4 q14 p11 st15).bind fun st17 =>
(au st.stk.length 3 q16 p12 st17).bind fun st18 =>
(aj true 3 q7 st18).bind fun p19 =>
(bm [(0, 1), (1, 1), (2, 1)] [.v (.int .i64 0), .v (.int .i64 0), .v (.int .i64 0)] []).bind fun p20 =>
(aJ Tryz.prog false .eql 54 p19 p20).bind fun p21 =>
(onG p21 true (
(an q5 3).bind fun p24 =>
some (p24, st18)) st18).bind fun r23 =>
(onG p21 true (
(aj false 1 r23.1 r23.2).bind fun p27 =>
some (p27, r23.2)) r23.2).bind fun r26 =>
(onG p21 true (
(eV Tryz.prog 27 r26.1).bind fun p30 =>
some (p30, r26.2)) r26.2).bind fun r29 =>
(onG p21 true (
(aJ Tryz.prog true .eql 3 r29.1 (PV.v (.int .i64 1))).bind fun p33 =>
some (p33, r29.2)) r29.2).bind fun r32 =>
(bQ p21 r32.1 (PV.v (.bool false))).bind fun p34 =>
(onG p34 true (
(an q5 3).bind fun p37 =>
some (p37, r32.2)) r32.2).bind fun r36 =>
(onG p34 true (
(aj false 1 r36.1 r36.2).bind fun p40 =>
some (p40, r36.2)) r36.2).bind fun r39 =>
(onG p34 true (
(bJ Tryz.prog 27 r39.1 (PV.v (.int .i64 0))).bind fun p43 =>
some (p43, r39.2)) r39.2).bind fun r42 =>
(onG p34 true (
(an r42.1 0).bind fun p46 =>
some (p46, r42.2)) r42.2).bind fun r45 =>
(onG p34 true (
(aj false 1 r45.1 r45.2).bind fun p49 =>
some (p49, r45.2)) r45.2).bind fun r48 =>
(onG p34 true (
(eV Tryz.prog 31 r48.1).bind fun p52 =>
some (p52, r48.2)) r48.2).bind fun r51 =>
(onG p34 true (
(aJ Tryz.prog true .eql 3 r51.1 (PV.v (.int .i64 1))).bind fun p55 =>
some (p55, r51.2)) r51.2).bind fun r54 =>
(bQ p34 r54.1 (PV.v (.bool false))).bind fun p56 =>
(onG p56 true (
(an q5 3).bind fun p59 =>
some (p59, r54.2)) r54.2).bind fun r58 =>
(onG p56 true (
(aj false 1 r58.1 r58.2).bind fun p62 =>
some (p62, r58.2)) r58.2).bind fun r61 =>
(onG p56 true (
(bJ Tryz.prog 27 r61.1 (PV.v (.int .i64 0))).bind fun p65 =>
some (p65, r61.2)) r61.2).bind fun r64 =>
(onG p56 true (
(an r64.1 0).bind fun p68 =>
some (p68, r64.2)) r64.2).bind fun r67 =>
(onG p56 true (
(aj false 1 r67.1 r67.2).bind fun p71 =>
some (p71, r67.2)) r67.2).bind fun r70 =>
(onG p56 true (
(bJ Tryz.prog 31 r70.1 (PV.v (.int .i64 0))).bind fun p74 =>
some (p74, r70.2)) r70.2).bind fun r73 =>
(onG p56 true (
(an r73.1 0).bind fun p77 =>
some (p77, r73.2)) r73.2).bind fun r76 =>
(onG p56 true (
(aj false 1 r76.1 r76.2).bind fun p80 =>
some (p80, r76.2)) r76.2).bind fun r79 =>
(onG p56 true (
(aJ Tryz.prog true .eql 3 r79.1 (PV.v (.int .i64 5))).bind fun p83 =>
some (p83, r79.2)) r79.2).bind fun r82 =>
(bQ p56 r82.1 (PV.v (.bool false))).bind fun p84 =>
(onG p84 true (
(an q5 3).bind fun p87 =>
some (p87, r82.2)) r82.2).bind fun r86 =>
(onG p84 true (
(aj false 1 r86.1 r86.2).bind fun p90 =>
some (p90, r86.2)) r86.2).bind fun r89 =>
(onG p84 true (
(bJ Tryz.prog 27 r89.1 (PV.v (.int .i64 0))).bind fun p93 =>
some (p93, r89.2)) r89.2).bind fun r92 =>
(onG p84 true (
(an r92.1 0).bind fun p96 =>
some (p96, r92.2)) r92.2).bind fun r95 =>
(onG p84 true (
(aj false 1 r95.1 r95.2).bind fun p99 =>
some (p99, r95.2)) r95.2).bind fun r98 =>
(onG p84 true (
(bJ Tryz.prog 31 r98.1 (PV.v (.int .i64 0))).bind fun p102 =>
some (p102, r98.2)) r98.2).bind fun r101 =>
(onG p84 true (
(an r101.1 43).bind fun p105 =>
some (p105, r101.2)) r101.2).bind fun r104 =>
(onG p84 true (
(an r104.1 6).bind fun p108 =>
some (p108, r104.2)) r104.2).bind fun r107 =>
(onG p84 true (
(aj false 1 r107.1 r107.2).bind fun p111 =>
some (p111, r107.2)) r107.2).bind fun r110 =>
(onG p84 true (
(eV Tryz.prog 37 r110.1).bind fun p114 =>
some (p114, r110.2)) r110.2).bind fun r113 =>
(onG p84 true (
(aJ Tryz.prog true .eql 3 r113.1 (PV.v (.int .i64 2))).bind fun p117 =>
some (p117, r113.2)) r113.2).bind fun r116 =>
(bQ p84 r116.1 (PV.v (.bool false))).bind fun p118 =>
(onG p118 true (
(an q5 3).bind fun p121 =>
some (p121, r116.2)) r116.2).bind fun r120 =>
(onG p118 true (
(aj false 1 r120.1 r120.2).bind fun p124 =>
some (p124, r120.2)) r120.2).bind fun r123 =>
(onG p118 true (
(bJ Tryz.prog 27 r123.1 (PV.v (.int .i64 0))).bind fun p127 =>
some (p127, r123.2)) r123.2).bind fun r126 =>
(onG p118 true (
(an r126.1 0).bind fun p130 =>
some (p130, r126.2)) r126.2).bind fun r129 =>
(onG p118 true (
(aj false 1 r129.1 r129.2).bind fun p133 =>
some (p133, r129.2)) r129.2).bind fun r132 =>
(onG p118 true (
(bJ Tryz.prog 31 r132.1 (PV.v (.int .i64 0))).bind fun p136 =>
some (p136, r132.2)) r132.2).bind fun r135 =>
(onG p118 true (
(an r135.1 43).bind fun p139 =>
some (p139, r135.2)) r135.2).bind fun r138 =>
(onG p118 true (
(an r138.1 6).bind fun p142 =>
some (p142, r138.2)) r138.2).bind fun r141 =>
(onG p118 true (
(aj false 1 r141.1 r141.2).bind fun p145 =>
some (p145, r141.2)) r141.2).bind fun r144 =>
(onG p118 true (
(bJ Tryz.prog 37 r144.1 (PV.v (.int .i64 1))).bind fun p148 =>
some (p148, r144.2)) r144.2).bind fun r147 =>
(onG p118 true (
(an r147.1 1).bind fun p151 =>
some (p151, r147.2)) r147.2).bind fun r150 =>
(onG p118 true (
(aj false 1 r150.1 r150.2).bind fun p154 =>
some (p154, r150.2)) r150.2).bind fun r153 =>
(onG p118 true (
(aJ Tryz.prog true .eql 3 r153.1 (PV.v (.int .i64 2))).bind fun p157 =>
some (p157, r153.2)) r153.2).bind fun r156 =>
(bQ p118 r156.1 (PV.v (.bool false))).bind fun p158 =>
(onG p158 true (
(aj true 3 q16 r156.2).bind fun p161 =>
some (p161, r156.2)) r156.2).bind fun r160 =>
(onG p158 true (
(bm [(0, 1), (1, 1), (2, 1)] [.v (.int .i64 0), .v (.int .i64 0), .v (.int .i64 0)] [(0, (PV.v (.int .i64 4))), (1, (PV.v (.int .i64 1))), (2, (PV.v (.int .i64 16)))]).bind fun p164 =>
some (p164, r160.2)) r160.2).bind fun r163 =>
(onG p158 true (
(aJ Tryz.prog false .eql 54 r160.1 r163.1).bind fun p167 =>
some (p167, r163.2)) r163.2).bind fun r166 =>
(bQ p158 r166.1 (PV.v (.bool false))).bind fun p168 =>
fin st.stk.length st.tk.length st.lp.length [p168] r166.2
theorem GM (st : St) : E L (.func 19) [] st = S19 (E L) itE st := (bF (by kernel_rfl) Tryz.func19 _ _).trans (by kernel_rfl)
noncomputable def S22.b0 (call : bA) (it : bG) (base lb : Nat) (vs9 : List PV) (st10 : St) : Option (Ex × List PV × St) :=
(aJ Tryz.prog false .lss 3 (aa vs9 4) (aa vs9 3)).bind fun p11 =>
aw p11 fun b12 => (bif b12 then
some (Ex.normal, [(aa vs9 0), (aa vs9 1), (aa vs9 2), (aa vs9 3), (aa vs9 4)], st10)
else
some ((Ex.exit 0), [(aa vs9 0), (aa vs9 1), (aa vs9 2), (aa vs9 3), (aa vs9 4)], st10)).bind fun r13 =>
bH r13.1 ((bJ Tryz.prog 60 (aa r13.2.1 0) (aa r13.2.1 4)).bind fun p15 =>
(aj false 1 p15 r13.2.2).bind fun p16 =>
bq (r13.2.2 = r13.2.2) <|
(bJ Tryz.prog 60 (aa r13.2.1 1) (aa r13.2.1 4)).bind fun p17 =>
(aj false 1 p17 r13.2.2).bind fun p18 =>
bq (r13.2.2 = r13.2.2) <|
(aJ Tryz.prog false .neq 9 p16 p18).bind fun p19 =>
aw p19 fun b20 => (bif b20 then
some (Ex.ret, [(aa r13.2.1 0), (aa r13.2.1 1), (PV.v (.bool false)), (aa r13.2.1 3), (aa r13.2.1 4)], r13.2.2)
else
some (Ex.normal, [(aa r13.2.1 0), (aa r13.2.1 1), (aa r13.2.1 2), (aa r13.2.1 3), (aa r13.2.1 4)], r13.2.2)).bind fun r21 =>
bH (Ex.ba 1 r21.1) ((aJ Tryz.prog true .add 3 (aa r21.2.1 4) (PV.v (.int .i64 1))).bind fun p23 =>
some (Ex.normal, [(aa r21.2.1 0), (aa r21.2.1 1), (aa r21.2.1 2), (aa r21.2.1 3), p23], r21.2.2)) fun x22 =>
some (x22, [(aa r21.2.1 0), (aa r21.2.1 1), (aa r21.2.1 2), (aa r21.2.1 3), (aa r21.2.1 4)], r21.2.2)) fun x14 =>
some (x14, [(aa r13.2.1 0), (aa r13.2.1 1), (aa r13.2.1 2), (aa r13.2.1 3), (aa r13.2.1 4)], r13.2.2)
noncomputable def S22 (call : bA) (it : bG) (a0 a1 : PV) (st : St) : Option (PV × St) :=
(eV Tryz.prog 60 a0).bind fun p1 =>
(eV Tryz.prog 60 a1).bind fun p2 =>
(aJ Tryz.prog false .neq 3 p1 p2).bind fun p3 =>
aw p3 fun b4 => (bif b4 then
some (Ex.ret, [a0, a1, (PV.v (.bool false))], st)
else
some (Ex.normal, [a0, a1, (PV.v (.bool false))], st)).bind fun r5 =>
bH r5.1 ((eV Tryz.prog 60 (aa r5.2.1 0)).bind fun p7 =>
(it (S22.b0 call it st.stk.length st.lp.length) [(aa r5.2.1 0), (aa r5.2.1 1), (aa r5.2.1 2), p7, (PV.v (.int .i64 0))] r5.2.2).bind fun r8 =>
bH (Ex.ba 0 r8.1) (fin st.stk.length st.tk.length st.lp.length [(PV.v (.bool true))] r8.2.2) fun x24 =>
dw x24 (fin st.stk.length st.tk.length st.lp.length [(aa r8.2.1 2)] r8.2.2)) fun x6 =>
dw x6 (fin st.stk.length st.tk.length st.lp.length [(aa r5.2.1 2)] r5.2.2)
theorem GN (a0 a1 : PV) (st : St) : E L (.func 22) [a0, a1] st = S22 (E L) itE a0 a1 st := (bF (by kernel_rfl) Tryz.func22 _ _).trans (by kernel_rfl)
noncomputable def S51 (call : bA) (it : bG) (a0 : PV) (st : St) : Option (PV × St) :=
(fw Tryz.prog 3 34 a0).bind fun p1 =>
(fw Tryz.prog 34 5 p1).bind fun p2 =>
(aJ Tryz.prog true .shr 34 p1 (PV.v (.int .u64 8))).bind fun p3 =>
(fw Tryz.prog 34 5 p3).bind fun p4 =>
(aJ Tryz.prog true .shr 34 p1 (PV.v (.int .u64 16))).bind fun p5 =>
(fw Tryz.prog 34 5 p5).bind fun p6 =>
(aJ Tryz.prog true .shr 34 p1 (PV.v (.int .u64 24))).bind fun p7 =>
(fw Tryz.prog 34 5 p7).bind fun p8 =>
(aJ Tryz.prog true .shr 34 p1 (PV.v (.int .u64 32))).bind fun p9 =>
(fw Tryz.prog 34 5 p9).bind fun p10 =>
(aJ Tryz.prog true .shr 34 p1 (PV.v (.int .u64 40))).bind fun p11 =>
(fw Tryz.prog 34 5 p11).bind fun p12 =>
(aJ Tryz.prog true .shr 34 p1 (PV.v (.int .u64 48))).bind fun p13 =>
(fw Tryz.prog 34 5 p13).bind fun p14 =>
(aJ Tryz.prog true .shr 34 p1 (PV.v (.int .u64 56))).bind fun p15 =>
(fw Tryz.prog 34 5 p15).bind fun p16 =>
(aF 1 [.v (.int .u8 0)] 8 [(0, p2), (1, p4), (2, p6), (3, p8), (4, p10), (5, p12), (6, p14), (7, p16)]).bind fun p17 =>
(fw Tryz.prog 91 9 p17).bind fun p18 =>
fin st.stk.length st.tk.length st.lp.length [p18] st
theorem GR (a0 : PV) (st : St) : E L (.func 51) [a0] st = S51 (E L) itE a0 st := (bF (by kernel_rfl) Tryz.func51 _ _).trans (by kernel_rfl)
noncomputable def S52.b0 (call : bA) (it : bG) (base lb : Nat) (vs6 : List PV) (st7 : St) : Option (Ex × List PV × St) :=
(aJ Tryz.prog false .lss 3 (aa vs6 3) (aa vs6 2)).bind fun p8 =>
aw p8 fun b9 => (bif b9 then
some (Ex.normal, [(aa vs6 0), (aa vs6 1), (aa vs6 2), (aa vs6 3)], st7)
else
some ((Ex.exit 0), [(aa vs6 0), (aa vs6 1), (aa vs6 2), (aa vs6 3)], st7)).bind fun r10 =>
bH r10.1 ((bJ Tryz.prog 25 (aa r10.2.1 1) (aa r10.2.1 3)).bind fun p12 =>
(aj true 5 p12 r10.2.2).bind fun p13 =>
let q15 : PV := .ptr false r10.2.2.stk.length 0
let st14 := r10.2.2.push [.v (.string ⟨#[]⟩), .v (.int .i64 0), .v (.string ⟨#[]⟩), .v (.int .i64 0), .v (.int .i64 0)]
(au base 5 q15 p13 st14).bind fun st16 =>
(an q15 0).bind fun p17 =>
(aj false 1 p17 st16).bind fun p18 =>
bq (st16 = st16) <|
(an q15 1).bind fun p19 =>
(an p19 0).bind fun p20 =>
(aj false 1 p20 st16).bind fun p21 =>
bq (st16 = st16) <|
(call (.func 51) [ai p21] st16).bind fun r22 =>
bq (r22.2 = st16) <|
(an q15 1).bind fun p23 =>
(an p23 1).bind fun p24 =>
(aj false 1 p24 st16).bind fun p25 =>
bq (st16 = st16) <|
(aF 1 [.v (.string ⟨#[]⟩)] 3 [(0, p18), (1, r22.1), (2, p25)]).bind fun p26 =>
(bM st16 p26).bind fun ys27 =>
(cj base [.v (.string ⟨#[]⟩)] 1 16 (aa r10.2.1 0) ys27 st16).bind fun r28 =>
(aJ Tryz.prog true .add 3 (aa r10.2.1 3) (PV.v (.int .i64 1))).bind fun p29 =>
dU base lb st7.stk.length Ex.normal [r28.1, (aa r10.2.1 1), (aa r10.2.1 2), p29] r28.2) fun x11 =>
dU base lb st7.stk.length x11 [(aa r10.2.1 0), (aa r10.2.1 1), (aa r10.2.1 2), (aa r10.2.1 3)] r10.2.2
noncomputable def S52 (call : bA) (it : bG) (a0 : PV) (st : St) : Option (PV × St) :=
(eV Tryz.prog 25 a0).bind fun p1 =>
(call (.func 51) [ai p1] st).bind fun r2 =>
(aF 1 [.v (.string ⟨#[]⟩)] 1 [(0, r2.1)]).bind fun p3 =>
(eV Tryz.prog 25 a0).bind fun p4 =>
(it (S52.b0 call it st.stk.length st.lp.length) [p3, a0, p4, (PV.v (.int .i64 0))] r2.2).bind fun r5 =>
bH (Ex.ba 0 r5.1) (fin st.stk.length st.tk.length st.lp.length [(aa r5.2.1 0)] r5.2.2) fun x30 =>
dw x30 (fin st.stk.length st.tk.length st.lp.length [PV.u] r5.2.2)
theorem GS (a0 : PV) (st : St) : E L (.func 52) [a0] st = S52 (E L) itE a0 st := (bF (by kernel_rfl) Tryz.func52 _ _).trans (by kernel_rfl)
noncomputable def S81.b0 (call : bA) (it : bG) (base lb : Nat) (vs32 : List PV) (st33 : St) : Option (Ex × List PV × St) :=
(aJ Tryz.prog false .lss 3 (aa vs32 3) (aa vs32 2)).bind fun p34 =>
aw p34 fun b35 => (bif b35 then
some (Ex.normal, [(aa vs32 0), (aa vs32 1), (aa vs32 2), (aa vs32 3)], st33)
else
some ((Ex.exit 0), [(aa vs32 0), (aa vs32 1), (aa vs32 2), (aa vs32 3)], st33)).bind fun r36 =>
bH r36.1 ((bJ Tryz.prog 37 (aa r36.2.1 1) (aa r36.2.1 3)).bind fun p38 =>
(aj true 9 p38 r36.2.2).bind fun p39 =>
let q41 : PV := .ptr false r36.2.2.stk.length 0
let st40 := r36.2.2.push [.v (.int .i64 0), .v (.int .i64 0), .v (.int .u64 0), .v (.int .i64 0), .v (.string ⟨#[]⟩), .v (.string ⟨#[]⟩), .sl [] .nil, .v (.int .i64 0), .v (.int .i64 0)]
(au base 9 q41 p39 st40).bind fun st42 =>
(aj true 9 q41 st42).bind fun p43 =>
(call (.func 81) [ai p43] st42).bind fun r44 =>
(bM r44.2 r44.1).bind fun ys45 =>
(cj base [.v (.string ⟨#[]⟩)] 1 16 (aa r36.2.1 0) ys45 r44.2).bind fun r46 =>
(aJ Tryz.prog true .add 3 (aa r36.2.1 3) (PV.v (.int .i64 1))).bind fun p47 =>
dU base lb st33.stk.length Ex.normal [r46.1, (aa r36.2.1 1), (aa r36.2.1 2), p47] r46.2) fun x37 =>
dU base lb st33.stk.length x37 [(aa r36.2.1 0), (aa r36.2.1 1), (aa r36.2.1 2), (aa r36.2.1 3)] r36.2.2
noncomputable def S81 (call : bA) (it : bG) (a0 : PV) (st : St) : Option (PV × St) :=
(cellsOf a0).bind fun b1 =>
let q3 : PV := .ptr false st.stk.length 0
let st2 := st.push b1
(an q3 0).bind fun p4 =>
(aj false 1 p4 st2).bind fun p5 =>
bq (st2 = st2) <|
(call (.func 51) [ai p5] st2).bind fun r6 =>
bq (r6.2 = st2) <|
(an q3 1).bind fun p7 =>
(aj false 1 p7 st2).bind fun p8 =>
bq (st2 = st2) <|
(call (.func 51) [ai p8] st2).bind fun r9 =>
bq (r9.2 = st2) <|
(an q3 2).bind fun p10 =>
(aj false 1 p10 st2).bind fun p11 =>
bq (st2 = st2) <|
(fw Tryz.prog 34 3 p11).bind fun p12 =>
(call (.func 51) [ai p12] st2).bind fun r13 =>
bq (r13.2 = st2) <|
(an q3 3).bind fun p14 =>
(an p14 0).bind fun p15 =>
(aj false 1 p15 st2).bind fun p16 =>
bq (st2 = st2) <|
(call (.func 51) [ai p16] st2).bind fun r17 =>
bq (r17.2 = st2) <|
(an q3 3).bind fun p18 =>
(an p18 1).bind fun p19 =>
(aj false 1 p19 st2).bind fun p20 =>
bq (st2 = st2) <|
(an q3 5).bind fun p21 =>
(aj false 1 p21 st2).bind fun p22 =>
bq (st2 = st2) <|
(an q3 6).bind fun p23 =>
(aj false 1 p23 st2).bind fun p24 =>
bq (st2 = st2) <|
(eV Tryz.prog 37 p24).bind fun p25 =>
(call (.func 51) [ai p25] st2).bind fun r26 =>
bq (r26.2 = st2) <|
(aF 1 [.v (.string ⟨#[]⟩)] 8 [(0, (PV.v (.string ⟨#[101, 120, 112, 114]⟩))), (1, r6.1), (2, r9.1), (3, r13.1), (4, r17.1), (5, p20), (6, p22), (7, r26.1)]).bind fun p27 =>
(an q3 6).bind fun p28 =>
(aj false 1 p28 st2).bind fun p29 =>
(eV Tryz.prog 37 p29).bind fun p30 =>
(it (S81.b0 call it st.stk.length st.lp.length) [p27, p29, p30, (PV.v (.int .i64 0))] st2).bind fun r31 =>
bH (Ex.ba 0 r31.1) (fin st.stk.length st.tk.length st.lp.length [(aa r31.2.1 0)] r31.2.2) fun x48 =>
dw x48 (fin st.stk.length st.tk.length st.lp.length [PV.u] r31.2.2)
theorem G4 (a0 : PV) (st : St) : E L (.func 81) [a0] st = S81 (E L) itE a0 st := (bF (by kernel_rfl) Tryz.func81 _ _).trans (by kernel_rfl)
noncomputable def S82 (call : bA) (it : bG) (a0 : PV) (st : St) : Option (PV × St) :=
(cellsOf a0).bind fun b1 =>
let q3 : PV := .ptr false st.stk.length 0
let st2 := st.push b1
(an q3 0).bind fun p4 =>
(aj false 1 p4 st2).bind fun p5 =>
bq (st2 = st2) <|
(call (.func 51) [ai p5] st2).bind fun r6 =>
bq (r6.2 = st2) <|
(an q3 1).bind fun p7 =>
(aj false 1 p7 st2).bind fun p8 =>
bq (st2 = st2) <|
(an q3 2).bind fun p9 =>
(aj false 1 p9 st2).bind fun p10 =>
bq (st2 = st2) <|
(aF 1 [.v (.string ⟨#[]⟩)] 4 [(0, (PV.v (.string ⟨#[112, 108, 97, 99, 101]⟩))), (1, r6.1), (2, p8), (3, p10)]).bind fun p11 =>
(an q3 3).bind fun p12 =>
(aj true 9 p12 st2).bind fun p13 =>
bq (st2 = st2) <|
(call (.func 81) [ai p13] st2).bind fun r14 =>
bq (r14.2 = st2) <|
(bM st2 r14.1).bind fun ys15 =>
(cj st.stk.length [.v (.string ⟨#[]⟩)] 1 16 p11 ys15 st2).bind fun r16 =>
fin st.stk.length st.tk.length st.lp.length [r16.1] r16.2
theorem G5 (a0 : PV) (st : St) : E L (.func 82) [a0] st = S82 (E L) itE a0 st := (bF (by kernel_rfl) Tryz.func82 _ _).trans (by kernel_rfl)
noncomputable def S53.b1 (call : bA) (it : bG) (base lb : Nat) (vs65 : List PV) (st66 : St) : Option (Ex × List PV × St) :=
(aJ Tryz.prog false .lss 3 (aa vs65 7) (aa vs65 6)).bind fun p67 =>
aw p67 fun b68 => (bif b68 then
some (Ex.normal, [(aa vs65 0), (aa vs65 1), (aa vs65 2), (aa vs65 3), (aa vs65 4), (aa vs65 5), (aa vs65 6), (aa vs65 7)], st66)
else
some ((Ex.exit 2), [(aa vs65 0), (aa vs65 1), (aa vs65 2), (aa vs65 3), (aa vs65 4), (aa vs65 5), (aa vs65 6), (aa vs65 7)], st66)).bind fun r69 =>
bH r69.1 ((bJ Tryz.prog 37 (aa r69.2.1 5) (aa r69.2.1 7)).bind fun p71 =>
(aj true 9 p71 r69.2.2).bind fun p72 =>
let q74 : PV := .ptr false r69.2.2.stk.length 0
let st73 := r69.2.2.push [.v (.int .i64 0), .v (.int .i64 0), .v (.int .u64 0), .v (.int .i64 0), .v (.string ⟨#[]⟩), .v (.string ⟨#[]⟩), .sl [] .nil, .v (.int .i64 0), .v (.int .i64 0)]
(au base 9 q74 p72 st73).bind fun st75 =>
(aj true 9 q74 st75).bind fun p76 =>
(call (.func 81) [ai p76] st75).bind fun r77 =>
(bM r77.2 r77.1).bind fun ys78 =>
(cj base [.v (.string ⟨#[]⟩)] 1 16 (aa r69.2.1 0) ys78 r77.2).bind fun r79 =>
(aJ Tryz.prog true .add 3 (aa r69.2.1 7) (PV.v (.int .i64 1))).bind fun p80 =>
dU base lb st66.stk.length Ex.normal [r79.1, (aa r69.2.1 1), (aa r69.2.1 2), (aa r69.2.1 3), (aa r69.2.1 4), (aa r69.2.1 5), (aa r69.2.1 6), p80] r79.2) fun x70 =>
dU base lb st66.stk.length x70 [(aa r69.2.1 0), (aa r69.2.1 1), (aa r69.2.1 2), (aa r69.2.1 3), (aa r69.2.1 4), (aa r69.2.1 5), (aa r69.2.1 6), (aa r69.2.1 7)] r69.2.2
noncomputable def S53.b0 (call : bA) (it : bG) (base lb : Nat) (vs6 : List PV) (st7 : St) : Option (Ex × List PV × St) :=
(aJ Tryz.prog false .lss 3 (aa vs6 3) (aa vs6 2)).bind fun p8 =>
aw p8 fun b9 => (bif b9 then
some (Ex.normal, [(aa vs6 0), (aa vs6 1), (aa vs6 2), (aa vs6 3)], st7)
else
some ((Ex.exit 0), [(aa vs6 0), (aa vs6 1), (aa vs6 2), (aa vs6 3)], st7)).bind fun r10 =>
bH r10.1 ((bJ Tryz.prog 31 (aa r10.2.1 1) (aa r10.2.1 3)).bind fun p12 =>
(aj true 58 p12 r10.2.2).bind fun p13 =>
let q15 : PV := .ptr false r10.2.2.stk.length 0
let st14 := r10.2.2.push [.v (.int .i64 0), .v (.string ⟨#[]⟩), .v (.int .i64 0), .v (.int .i64 0), .v (.int .i64 0), .v (.int .u64 0), .v (.int .i64 0), .v (.string ⟨#[]⟩), .v (.string ⟨#[]⟩), .sl [] .nil, .v (.int .i64 0), .v (.int .i64 0), .v (.int .i64 0), .v (.string ⟨#[]⟩), .v (.string ⟨#[]⟩), .v (.int .i64 0), .v (.int .i64 0), .v (.int .u64 0), .v (.int .i64 0), .v (.string ⟨#[]⟩), .v (.string ⟨#[]⟩), .sl [] .nil, .v (.int .i64 0), .v (.int .i64 0), .v (.int .i64 0), .v (.int .i64 0), .v (.string ⟨#[]⟩), .v (.int .i64 0), .v (.int .i64 0), .v (.int .i64 0), .v (.string ⟨#[]⟩), .v (.string ⟨#[]⟩), .v (.int .i64 0), .v (.int .i64 0), .v (.int .u64 0), .v (.int .i64 0), .v (.string ⟨#[]⟩), .v (.string ⟨#[]⟩), .sl [] .nil, .v (.int .i64 0), .v (.int .i64 0), .v (.int .i64 0), .v (.int .i64 0), .v (.int .i64 0), .v (.int .i64 0), .v (.int .u64 0), .v (.int .i64 0), .v (.string ⟨#[]⟩), .v (.string ⟨#[]⟩), .sl [] .nil, .v (.int .i64 0), .v (.int .i64 0), .v (.int .i64 0), .sl [] .nil, .sl [] .nil, .sl [] .nil, .v (.int .i64 0), .v (.int .i64 0)]
(au base 58 q15 p13 st14).bind fun st16 =>
(an q15 0).bind fun p17 =>
(aj false 1 p17 st16).bind fun p18 =>
bq (st16 = st16) <|
(call (.func 51) [ai p18] st16).bind fun r19 =>
bq (r19.2 = st16) <|
(an q15 1).bind fun p20 =>
(aj false 1 p20 st16).bind fun p21 =>
bq (st16 = st16) <|
(an q15 52).bind fun p22 =>
(aj false 1 p22 st16).bind fun p23 =>
bq (st16 = st16) <|
(call (.func 51) [ai p23] st16).bind fun r24 =>
bq (r24.2 = st16) <|
(an q15 2).bind fun p25 =>
(an p25 0).bind fun p26 =>
(aj false 1 p26 st16).bind fun p27 =>
bq (st16 = st16) <|
(call (.func 51) [ai p27] st16).bind fun r28 =>
bq (r28.2 = st16) <|
(an q15 2).bind fun p29 =>
(an p29 24).bind fun p30 =>
(aj false 1 p30 st16).bind fun p31 =>
bq (st16 = st16) <|
(an q15 53).bind fun p32 =>
(aj false 1 p32 st16).bind fun p33 =>
bq (st16 = st16) <|
(eV Tryz.prog 37 p33).bind fun p34 =>
(call (.func 51) [ai p34] st16).bind fun r35 =>
bq (r35.2 = st16) <|
(aF 1 [.v (.string ⟨#[]⟩)] 7 [(0, (PV.v (.string ⟨#[115, 116, 109, 116]⟩))), (1, r19.1), (2, p21), (3, r24.1), (4, r28.1), (5, p31), (6, r35.1)]).bind fun p36 =>
(bM st16 p36).bind fun ys37 =>
(cj base [.v (.string ⟨#[]⟩)] 1 16 (aa r10.2.1 0) ys37 st16).bind fun r38 =>
(an q15 2).bind fun p39 =>
(an p39 1).bind fun p40 =>
(aj true 9 p40 r38.2).bind fun p41 =>
(call (.func 81) [ai p41] r38.2).bind fun r42 =>
(bM r42.2 r42.1).bind fun ys43 =>
(cj base [.v (.string ⟨#[]⟩)] 1 16 r38.1 ys43 r42.2).bind fun r44 =>
(an q15 2).bind fun p45 =>
(an p45 10).bind fun p46 =>
(aj true 14 p46 r44.2).bind fun p47 =>
(call (.func 82) [ai p47] r44.2).bind fun r48 =>
(bM r48.2 r48.1).bind fun ys49 =>
(cj base [.v (.string ⟨#[]⟩)] 1 16 r44.1 ys49 r48.2).bind fun r50 =>
(an q15 29).bind fun p51 =>
(aj true 14 p51 r50.2).bind fun p52 =>
(call (.func 82) [ai p52] r50.2).bind fun r53 =>
(bM r53.2 r53.1).bind fun ys54 =>
(cj base [.v (.string ⟨#[]⟩)] 1 16 r50.1 ys54 r53.2).bind fun r55 =>
(an q15 43).bind fun p56 =>
(aj true 9 p56 r55.2).bind fun p57 =>
(call (.func 81) [ai p57] r55.2).bind fun r58 =>
(bM r58.2 r58.1).bind fun ys59 =>
(cj base [.v (.string ⟨#[]⟩)] 1 16 r55.1 ys59 r58.2).bind fun r60 =>
(an q15 53).bind fun p61 =>
(aj false 1 p61 r60.2).bind fun p62 =>
(eV Tryz.prog 37 p62).bind fun p63 =>
(it (S53.b1 call it base lb) [r60.1, q15, (aa r10.2.1 1), (aa r10.2.1 2), (aa r10.2.1 3), p62, p63, (PV.v (.int .i64 0))] r60.2).bind fun r64 =>
bH (Ex.ba 2 r64.1) ((an (aa r64.2.1 1) 54).bind fun p82 =>
(aj false 1 p82 r64.2.2).bind fun p83 =>
(call (.func 53) [ai p83] r64.2.2).bind fun r84 =>
(bM r84.2 r84.1).bind fun ys85 =>
(cj base [.v (.string ⟨#[]⟩)] 1 16 (aa r64.2.1 0) ys85 r84.2).bind fun r86 =>
(an (aa r64.2.1 1) 55).bind fun p87 =>
(aj false 1 p87 r86.2).bind fun p88 =>
(call (.func 53) [ai p88] r86.2).bind fun r89 =>
(bM r89.2 r89.1).bind fun ys90 =>
(cj base [.v (.string ⟨#[]⟩)] 1 16 r86.1 ys90 r89.2).bind fun r91 =>
(aJ Tryz.prog true .add 3 (aa r64.2.1 4) (PV.v (.int .i64 1))).bind fun p92 =>
dU base lb st7.stk.length Ex.normal [r91.1, (aa r64.2.1 2), (aa r64.2.1 3), p92] r91.2) fun x81 =>
bH (Ex.ba 1 x81) ((aJ Tryz.prog true .add 3 (aa r64.2.1 4) (PV.v (.int .i64 1))).bind fun p94 =>
dU base lb st7.stk.length Ex.normal [(aa r64.2.1 0), (aa r64.2.1 2), (aa r64.2.1 3), p94] r64.2.2) fun x93 =>
dU base lb st7.stk.length x93 [(aa r64.2.1 0), (aa r64.2.1 2), (aa r64.2.1 3), (aa r64.2.1 4)] r64.2.2) fun x11 =>
dU base lb st7.stk.length x11 [(aa r10.2.1 0), (aa r10.2.1 1), (aa r10.2.1 2), (aa r10.2.1 3)] r10.2.2
noncomputable def S53 (call : bA) (it : bG) (a0 : PV) (st : St) : Option (PV × St) :=
(eV Tryz.prog 31 a0).bind fun p1 =>
(call (.func 51) [ai p1] st).bind fun r2 =>
(aF 1 [.v (.string ⟨#[]⟩)] 2 [(0, (PV.v (.string ⟨#[114, 111, 119]⟩))), (1, r2.1)]).bind fun p3 =>
(eV Tryz.prog 31 a0).bind fun p4 =>
(it (S53.b0 call it st.stk.length st.lp.length) [p3, a0, p4, (PV.v (.int .i64 0))] r2.2).bind fun r5 =>
bH (Ex.ba 0 r5.1) (fin st.stk.length st.tk.length st.lp.length [(aa r5.2.1 0)] r5.2.2) fun x95 =>
dw x95 (fin st.stk.length st.tk.length st.lp.length [PV.u] r5.2.2)
theorem GU (a0 : PV) (st : St) : E L (.func 53) [a0] st = S53 (E L) itE a0 st := (bF (by kernel_rfl) Tryz.func53 _ _).trans (by kernel_rfl)
noncomputable def S23.b0 (call : bA) (it : bG) (base lb : Nat) (vs21 : List PV) (st22 : St) : Option (Ex × List PV × St) :=
(aJ Tryz.prog false .lss 3 (aa vs21 4) (aa vs21 3)).bind fun p23 =>
aw p23 fun b24 => (bif b24 then
some (Ex.normal, [(aa vs21 0), (aa vs21 1), (aa vs21 2), (aa vs21 3), (aa vs21 4)], st22)
else
some ((Ex.exit 0), [(aa vs21 0), (aa vs21 1), (aa vs21 2), (aa vs21 3), (aa vs21 4)], st22)).bind fun r25 =>
bH r25.1 ((bJ Tryz.prog 24 (aa r25.2.1 2) (aa r25.2.1 4)).bind fun p27 =>
(aj true 4 p27 r25.2.2).bind fun p28 =>
let q30 : PV := .ptr false r25.2.2.stk.length 0
let st29 := r25.2.2.push [.v (.string ⟨#[]⟩), .sl [] .nil, .v (.int .i64 0), .v (.int .i64 0)]
(au base 4 q30 p28 st29).bind fun st31 =>
(an q30 0).bind fun p32 =>
(aj false 1 p32 st31).bind fun p33 =>
bq (st31 = st31) <|
(aF 1 [.v (.string ⟨#[]⟩)] 1 [(0, p33)]).bind fun p34 =>
(bM st31 p34).bind fun ys35 =>
(cj base [.v (.string ⟨#[]⟩)] 1 16 (aa r25.2.1 1) ys35 st31).bind fun r36 =>
(an q30 1).bind fun p37 =>
(aj false 1 p37 r36.2).bind fun p38 =>
bq (r36.2 = r36.2) <|
bq (((aj false 1 p37 st31).bind fun p39 =>
some (Rs.ret p39, st31)) = some (Rs.ret p38, st31)) <|
(call (.func 52) [ai p38] r36.2).bind fun r40 =>
bq (r40.2 = r36.2) <|
(bM r36.2 r40.1).bind fun ys41 =>
(cj base [.v (.string ⟨#[]⟩)] 1 16 r36.1 ys41 r36.2).bind fun r42 =>
(aJ Tryz.prog true .add 3 (aa r25.2.1 4) (PV.v (.int .i64 1))).bind fun p43 =>
dU base lb st22.stk.length Ex.normal [(aa r25.2.1 0), r42.1, (aa r25.2.1 2), (aa r25.2.1 3), p43] r42.2) fun x26 =>
dU base lb st22.stk.length x26 [(aa r25.2.1 0), (aa r25.2.1 1), (aa r25.2.1 2), (aa r25.2.1 3), (aa r25.2.1 4)] r25.2.2
noncomputable def S23.b1 (call : bA) (it : bG) (base lb : Nat) (vs54 : List PV) (st55 : St) : Option (Ex × List PV × St) :=
(aJ Tryz.prog false .lss 3 (aa vs54 4) (aa vs54 3)).bind fun p56 =>
aw p56 fun b57 => (bif b57 then
some (Ex.normal, [(aa vs54 0), (aa vs54 1), (aa vs54 2), (aa vs54 3), (aa vs54 4)], st55)
else
some ((Ex.exit 2), [(aa vs54 0), (aa vs54 1), (aa vs54 2), (aa vs54 3), (aa vs54 4)], st55)).bind fun r58 =>
bH r58.1 ((bJ Tryz.prog 26 (aa r58.2.1 2) (aa r58.2.1 4)).bind fun p60 =>
(aj true 5 p60 r58.2.2).bind fun p61 =>
let q63 : PV := .ptr false r58.2.2.stk.length 0
let st62 := r58.2.2.push [.v (.string ⟨#[]⟩), .sl [] .nil, .sl [] .nil, .v (.int .i64 0), .v (.int .i64 0)]
(au base 5 q63 p61 st62).bind fun st64 =>
(an q63 0).bind fun p65 =>
(aj false 1 p65 st64).bind fun p66 =>
bq (st64 = st64) <|
(aF 1 [.v (.string ⟨#[]⟩)] 1 [(0, p66)]).bind fun p67 =>
(bM st64 p67).bind fun ys68 =>
(cj base [.v (.string ⟨#[]⟩)] 1 16 (aa r58.2.1 1) ys68 st64).bind fun r69 =>
(an q63 1).bind fun p70 =>
(aj false 1 p70 r69.2).bind fun p71 =>
bq (r69.2 = r69.2) <|
bq (((aj false 1 p70 st64).bind fun p72 =>
some (Rs.ret p72, st64)) = some (Rs.ret p71, st64)) <|
(call (.func 52) [ai p71] r69.2).bind fun r73 =>
bq (r73.2 = r69.2) <|
(bM r69.2 r73.1).bind fun ys74 =>
(cj base [.v (.string ⟨#[]⟩)] 1 16 r69.1 ys74 r69.2).bind fun r75 =>
(an q63 2).bind fun p76 =>
(aj false 1 p76 r75.2).bind fun p77 =>
bq (r75.2 = r75.2) <|
bq (((aj false 1 p76 r69.2).bind fun p78 =>
some (Rs.ret p78, r69.2)) = some (Rs.ret p77, r69.2)) <|
bq (((aj false 1 p76 st64).bind fun p79 =>
some (Rs.ret p79, st64)) = some (Rs.ret p77, st64)) <|
(call (.func 53) [ai p77] r75.2).bind fun r80 =>
bq (r80.2 = r75.2) <|
(bM r75.2 r80.1).bind fun ys81 =>
(cj base [.v (.string ⟨#[]⟩)] 1 16 r75.1 ys81 r75.2).bind fun r82 =>
(aJ Tryz.prog true .add 3 (aa r58.2.1 4) (PV.v (.int .i64 1))).bind fun p83 =>
dU base lb st55.stk.length Ex.normal [(aa r58.2.1 0), r82.1, (aa r58.2.1 2), (aa r58.2.1 3), p83] r82.2) fun x59 =>
dU base lb st55.stk.length x59 [(aa r58.2.1 0), (aa r58.2.1 1), (aa r58.2.1 2), (aa r58.2.1 3), (aa r58.2.1 4)] r58.2.2
noncomputable def S23.b2 (call : bA) (it : bG) (base lb : Nat) (vs89 : List PV) (st90 : St) : Option (Ex × List PV × St) :=
(aJ Tryz.prog false .lss 3 (aa vs89 3) (aa vs89 2)).bind fun p91 =>
aw p91 fun b92 => (bif b92 then
some (Ex.normal, [(aa vs89 0), (aa vs89 1), (aa vs89 2), (aa vs89 3)], st90)
else
some ((Ex.exit 4), [(aa vs89 0), (aa vs89 1), (aa vs89 2), (aa vs89 3)], st90)).bind fun r93 =>
bH r93.1 ((bJ Tryz.prog 27 (aa r93.2.1 1) (aa r93.2.1 3)).bind fun p95 =>
(aj true 3 p95 r93.2.2).bind fun p96 =>
let q98 : PV := .ptr false r93.2.2.stk.length 0
let st97 := r93.2.2.push [.sl [] .nil, .v (.int .i64 0), .v (.int .i64 0)]
(au base 3 q98 p96 st97).bind fun st99 =>
(an q98 0).bind fun p100 =>
(aj false 1 p100 st99).bind fun p101 =>
(call (.func 53) [ai p101] st99).bind fun r102 =>
(bM r102.2 r102.1).bind fun ys103 =>
(cj base [.v (.string ⟨#[]⟩)] 1 16 (aa r93.2.1 0) ys103 r102.2).bind fun r104 =>
(aJ Tryz.prog true .add 3 (aa r93.2.1 3) (PV.v (.int .i64 1))).bind fun p105 =>
dU base lb st90.stk.length Ex.normal [r104.1, (aa r93.2.1 1), (aa r93.2.1 2), p105] r104.2) fun x94 =>
dU base lb st90.stk.length x94 [(aa r93.2.1 0), (aa r93.2.1 1), (aa r93.2.1 2), (aa r93.2.1 3)] r93.2.2
noncomputable def S23 (call : bA) (it : bG) (a0 : PV) (st : St) : Option (PV × St) :=
(cellsOf a0).bind fun b1 =>
let q3 : PV := .ptr false st.stk.length 0
let st2 := st.push b1
(an q3 0).bind fun p4 =>
(aj false 1 p4 st2).bind fun p5 =>
bq (st2 = st2) <|
(eV Tryz.prog 24 p5).bind fun p6 =>
(call (.func 51) [ai p6] st2).bind fun r7 =>
bq (r7.2 = st2) <|
(an q3 2).bind fun p8 =>
(aj false 1 p8 st2).bind fun p9 =>
bq (st2 = st2) <|
(eV Tryz.prog 26 p9).bind fun p10 =>
(call (.func 51) [ai p10] st2).bind fun r11 =>
bq (r11.2 = st2) <|
(an q3 3).bind fun p12 =>
(aj false 1 p12 st2).bind fun p13 =>
bq (st2 = st2) <|
(eV Tryz.prog 27 p13).bind fun p14 =>
(call (.func 51) [ai p14] st2).bind fun r15 =>
bq (r15.2 = st2) <|
(aF 1 [.v (.string ⟨#[]⟩)] 3 [(0, r7.1), (1, r11.1), (2, r15.1)]).bind fun p16 =>
(an q3 0).bind fun p17 =>
(aj false 1 p17 st2).bind fun p18 =>
(eV Tryz.prog 24 p18).bind fun p19 =>
(it (S23.b0 call it st.stk.length st.lp.length) [q3, p16, p18, p19, (PV.v (.int .i64 0))] st2).bind fun r20 =>
bH (Ex.ba 0 r20.1) ((an (aa r20.2.1 0) 1).bind fun p45 =>
(aj false 1 p45 r20.2.2).bind fun p46 =>
(call (.func 52) [ai p46] r20.2.2).bind fun r47 =>
(bM r47.2 r47.1).bind fun ys48 =>
(cj st.stk.length [.v (.string ⟨#[]⟩)] 1 16 (aa r20.2.1 1) ys48 r47.2).bind fun r49 =>
(an (aa r20.2.1 0) 2).bind fun p50 =>
(aj false 1 p50 r49.2).bind fun p51 =>
(eV Tryz.prog 26 p51).bind fun p52 =>
(it (S23.b1 call it st.stk.length st.lp.length) [(aa r20.2.1 0), r49.1, p51, p52, (PV.v (.int .i64 0))] r49.2).bind fun r53 =>
bH (Ex.ba 2 r53.1) ((an (aa r53.2.1 0) 3).bind fun p85 =>
(aj false 1 p85 r53.2.2).bind fun p86 =>
(eV Tryz.prog 27 p86).bind fun p87 =>
(it (S23.b2 call it st.stk.length st.lp.length) [(aa r53.2.1 1), p86, p87, (PV.v (.int .i64 0))] r53.2.2).bind fun r88 =>
bH (Ex.ba 4 r88.1) (fin st.stk.length st.tk.length st.lp.length [(aa r88.2.1 0)] r88.2.2) fun x106 =>
dw x106 (fin st.stk.length st.tk.length st.lp.length [PV.u] r88.2.2)) fun x84 =>
dw x84 (fin st.stk.length st.tk.length st.lp.length [PV.u] r53.2.2)) fun x44 =>
dw x44 (fin st.stk.length st.tk.length st.lp.length [PV.u] r20.2.2)
theorem GO (a0 : PV) (st : St) : E L (.func 23) [a0] st = S23 (E L) itE a0 st := (bF (by kernel_rfl) Tryz.func23 _ _).trans (by kernel_rfl)
noncomputable def S25.b1 (call : bA) (it : bG) (base lb : Nat) (vs41 : List PV) (st42 : St) : Option (Ex × List PV × St) :=
(aJ Tryz.prog false .lss 3 (aa vs41 4) (aa vs41 3)).bind fun p43 =>
aw p43 fun b44 => (bif b44 then
some (Ex.normal, [(aa vs41 0), (aa vs41 1), (aa vs41 2), (aa vs41 3), (aa vs41 4)], st42)
else
some ((Ex.exit 2), [(aa vs41 0), (aa vs41 1), (aa vs41 2), (aa vs41 3), (aa vs41 4)], st42)).bind fun r45 =>
bH r45.1 ((bJ Tryz.prog 26 (aa r45.2.1 2) (aa r45.2.1 4)).bind fun p47 =>
(aj true 5 p47 r45.2.2).bind fun p48 =>
let q50 : PV := .ptr false r45.2.2.stk.length 0
let st49 := r45.2.2.push [.v (.string ⟨#[]⟩), .sl [] .nil, .sl [] .nil, .v (.int .i64 0), .v (.int .i64 0)]
(au base 5 q50 p48 st49).bind fun st51 =>
(an q50 3).bind fun p52 =>
(aj false 1 p52 st51).bind fun p53 =>
bq (st51 = st51) <|
(an q50 4).bind fun p54 =>
(aj false 1 p54 st51).bind fun p55 =>
bq (st51 = st51) <|
(aF 1 [.v (.int .i64 0)] 2 [(0, p53), (1, p55)]).bind fun p56 =>
(bM st51 p56).bind fun ys57 =>
(cj base [.v (.int .i64 0)] 1 8 (aa r45.2.1 1) ys57 st51).bind fun r58 =>
(an q50 1).bind fun p59 =>
(aj false 1 p59 r58.2).bind fun p60 =>
bq (r58.2 = r58.2) <|
bq (((aj false 1 p59 st51).bind fun p61 =>
some (Rs.ret p61, st51)) = some (Rs.ret p60, st51)) <|
(call (.func 54) [ai p60] r58.2).bind fun r62 =>
bq (r62.2 = r58.2) <|
(bM r58.2 r62.1).bind fun ys63 =>
(cj base [.v (.int .i64 0)] 1 8 r58.1 ys63 r58.2).bind fun r64 =>
(an q50 2).bind fun p65 =>
(aj false 1 p65 r64.2).bind fun p66 =>
bq (r64.2 = r64.2) <|
bq (((aj false 1 p65 r58.2).bind fun p67 =>
some (Rs.ret p67, r58.2)) = some (Rs.ret p66, r58.2)) <|
bq (((aj false 1 p65 st51).bind fun p68 =>
some (Rs.ret p68, st51)) = some (Rs.ret p66, st51)) <|
(call (.func 55) [ai p66] r64.2).bind fun r69 =>
bq (r69.2 = r64.2) <|
(bM r64.2 r69.1).bind fun ys70 =>
(cj base [.v (.int .i64 0)] 1 8 r64.1 ys70 r64.2).bind fun r71 =>
(aJ Tryz.prog true .add 3 (aa r45.2.1 4) (PV.v (.int .i64 1))).bind fun p72 =>
dU base lb st42.stk.length Ex.normal [(aa r45.2.1 0), r71.1, (aa r45.2.1 2), (aa r45.2.1 3), p72] r71.2) fun x46 =>
dU base lb st42.stk.length x46 [(aa r45.2.1 0), (aa r45.2.1 1), (aa r45.2.1 2), (aa r45.2.1 3), (aa r45.2.1 4)] r45.2.2
noncomputable def S7.b0 (call : bA) (it : bG) (base lb : Nat) (vs22 : List PV) (st23 : St) : Option (Ex × List PV × St) :=
(aJ Tryz.prog false .lss 3 (aa vs22 5) (aa vs22 4)).bind fun p24 =>
aw p24 fun b25 => (bif b25 then
some (Ex.normal, [(aa vs22 0), (aa vs22 1), (aa vs22 2), (aa vs22 3), (aa vs22 4), (aa vs22 5)], st23)
else
some ((Ex.exit 0), [(aa vs22 0), (aa vs22 1), (aa vs22 2), (aa vs22 3), (aa vs22 4), (aa vs22 5)], st23)).bind fun r26 =>
bH r26.1 ((bJ Tryz.prog 65 (aa r26.2.1 3) (aa r26.2.1 5)).bind fun p28 =>
(aj true 5 p28 r26.2.2).bind fun p29 =>
let q31 : PV := .ptr false r26.2.2.stk.length 0
let st30 := r26.2.2.push [.v (.int .i64 0), .v (.string ⟨#[]⟩), .v (.int .u64 0), .v (.int .i64 0), .v (.int .i64 0)]
(au base 5 q31 p29 st30).bind fun st32 =>
(an q31 1).bind fun p33 =>
(aj false 1 p33 st32).bind fun p34 =>
(aJ Tryz.prog false .add 9 (aa r26.2.1 2) p34).bind fun p35 =>
(aJ Tryz.prog true .add 9 p35 (PV.v (.string ⟨#[10]⟩))).bind fun p36 =>
(aJ Tryz.prog true .add 3 (aa r26.2.1 5) (PV.v (.int .i64 1))).bind fun p37 =>
dU base lb st23.stk.length Ex.normal [(aa r26.2.1 0), (aa r26.2.1 1), p36, (aa r26.2.1 3), (aa r26.2.1 4), p37] st32) fun x27 =>
dU base lb st23.stk.length x27 [(aa r26.2.1 0), (aa r26.2.1 1), (aa r26.2.1 2), (aa r26.2.1 3), (aa r26.2.1 4), (aa r26.2.1 5)] r26.2.2
noncomputable def S7 (call : bA) (it : bG) (a0 : PV) (st : St) : Option (PV × St) :=
(call (.func 19) [] st).bind fun r1 =>
(aUn Tryz.prog .not r1.1).bind fun p2 =>
aw p2 fun b3 => (bif b3 then
some (Ex.ret, [a0, (PV.v (.bool false))], r1.2)
else
some (Ex.normal, [a0, (PV.v (.bool false))], r1.2)).bind fun r4 =>
bH r4.1 ((eV Tryz.prog 9 (aa r4.2.1 0)).bind fun p6 =>
(aJ Tryz.prog true .gtr 3 p6 (PV.v (.int .i64 8192))).bind fun p7 =>
aw p7 fun b8 => (bif b8 then
some (Ex.ret, [(aa r4.2.1 0), (PV.v (.bool true))], r4.2.2)
else
some (Ex.normal, [(aa r4.2.1 0), (aa r4.2.1 1)], r4.2.2)).bind fun r9 =>
bH r9.1 ((call (.func 26) [ai (aa r9.2.1 0)] r9.2.2).bind fun r11 =>
(aS r11.1 0).bind fun p12 =>
(aS r11.1 1).bind fun p13 =>
(aS r11.1 2).bind fun p14 =>
(aS r11.1 3).bind fun p15 =>
(aJ Tryz.prog true .neq 3 p13 (PV.v (.int .i64 0))).bind fun p16 =>
aw p16 fun b17 => (bif b17 then
some (Ex.ret, [(aa r9.2.1 0), (PV.v (.bool true)), p12], r11.2)
else
some (Ex.normal, [(aa r9.2.1 0), (aa r9.2.1 1), p12], r11.2)).bind fun r18 =>
bH r18.1 ((eV Tryz.prog 65 (aa r18.2.1 2)).bind fun p20 =>
(it (S7.b0 call it st.stk.length st.lp.length) [(aa r18.2.1 0), (aa r18.2.1 1), (PV.v (.string ⟨#[]⟩)), (aa r18.2.1 2), p20, (PV.v (.int .i64 0))] r18.2.2).bind fun r21 =>
bH (Ex.ba 0 r21.1) ((eV Tryz.prog 9 (aa r21.2.1 2)).bind fun p39 =>
(aJ Tryz.prog true .gtr 3 p39 (PV.v (.int .i64 8192))).bind fun p40 =>
aw p40 fun b41 => (bif b41 then
some (Ex.ret, [(aa r21.2.1 0), (PV.v (.bool true)), (aa r21.2.1 2)], r21.2.2)
else
some (Ex.normal, [(aa r21.2.1 0), (aa r21.2.1 1), (aa r21.2.1 2)], r21.2.2)).bind fun r42 =>
bH r42.1 ((call (.func 20) [ai (aa r42.2.1 0)] r42.2.2).bind fun r44 =>
(aS r44.1 0).bind fun p45 =>
(aS r44.1 1).bind fun p46 =>
let q48 : PV := .ptr false r44.2.stk.length 0
let st47 := r44.2.push [.sl [] .nil, .sl [] .nil, .sl [] .nil, .sl [] .nil]
let q50 : PV := .ptr false st47.stk.length 0
let st49 := st47.push [.v (.int .i64 0), .v (.int .i64 0), .v (.int .i64 0)]
(au st.stk.length 4 q48 p45 st49).bind fun st51 =>
(au st.stk.length 3 q50 p46 st51).bind fun st52 =>
(call (.func 20) [ai (aa r42.2.1 2)] st52).bind fun r53 =>
(aS r53.1 0).bind fun p54 =>
(aS r53.1 1).bind fun p55 =>
let q57 : PV := .ptr false r53.2.stk.length 0
let st56 := r53.2.push [.sl [] .nil, .sl [] .nil, .sl [] .nil, .sl [] .nil]
let q59 : PV := .ptr false st56.stk.length 0
let st58 := st56.push [.v (.int .i64 0), .v (.int .i64 0), .v (.int .i64 0)]
(au st.stk.length 4 q57 p54 st58).bind fun st60 =>
(au st.stk.length 3 q59 p55 st60).bind fun st61 =>
(an q50 0).bind fun p62 =>
(aj false 1 p62 st61).bind fun p63 =>
bq (st61 = st61) <|
(an q59 0).bind fun p64 =>
(aj false 1 p64 st61).bind fun p65 =>
bq (st61 = st61) <|
(aJ Tryz.prog false .eql 52 p63 p65).bind fun p66 =>
(onG p66 true (
(aj true 4 q48 st61).bind fun p69 =>
some (p69, st61)) st61).bind fun r68 =>
bq (r68.2 = st61) <|
(onG p66 true (
(call (.func 23) [ai r68.1] st61).bind fun r72 =>
some (r72.1, r72.2)) st61).bind fun r71 =>
bq (r71.2 = st61) <|
(onG p66 true (
(aj true 4 q57 st61).bind fun p75 =>
some (p75, st61)) st61).bind fun r74 =>
bq (r74.2 = st61) <|
(onG p66 true (
(call (.func 23) [ai r74.1] st61).bind fun r78 =>
some (r78.1, r78.2)) st61).bind fun r77 =>
bq (r77.2 = st61) <|
(onG p66 true (
(call (.func 22) [ai r71.1, ai r77.1] st61).bind fun r81 =>
some (r81.1, r81.2)) st61).bind fun r80 =>
bq (r80.2 = st61) <|
(bQ p66 r80.1 (PV.v (.bool false))).bind fun p82 =>
fin st.stk.length st.tk.length st.lp.length [p82] st61) fun x43 =>
dw x43 (fin st.stk.length st.tk.length st.lp.length [(aa r42.2.1 1)] r42.2.2)) fun x38 =>
dw x38 (fin st.stk.length st.tk.length st.lp.length [(aa r21.2.1 1)] r21.2.2)) fun x19 =>
dw x19 (fin st.stk.length st.tk.length st.lp.length [(aa r18.2.1 1)] r18.2.2)) fun x10 =>
dw x10 (fin st.stk.length st.tk.length st.lp.length [(aa r9.2.1 1)] r9.2.2)) fun x5 =>
dw x5 (fin st.stk.length st.tk.length st.lp.length [(aa r4.2.1 1)] r4.2.2)
theorem HZ (a0 : PV) (st : St) : E L (.func 7) [a0] st = S7 (E L) itE a0 st := (bF (by kernel_rfl) Tryz.func7 _ _).trans (by kernel_rfl)
noncomputable def HQ (call : bA) (it : bG) (a0 : PV) (st : St) : Option (PV × St) :=
(aJ Tryz.prog true .neq 21 a0 (PV.v (.int .i32 10))).bind fun p1 =>
fin st.stk.length st.tk.length st.lp.length [p1] st
theorem Eo (a0 : PV) (st : St) : E L (.func 113) [a0] st = HQ (E L) itE a0 st := (bF (by kernel_rfl) Tryz.func113 _ _).trans (by kernel_rfl)
noncomputable def HV (call : bA) (it : bG) (a0 : PV) (st : St) : Option (PV × St) :=
(call (.func 115) [ai a0] st).bind fun r1 =>
(onG r1.1 false (
some (a0, r1.2)) r1.2).bind fun r3 =>
(onG r1.1 false (
(call (.func 116) [ai r3.1] r3.2).bind fun r6 =>
some (r6.1, r6.2)) r3.2).bind fun r5 =>
(bQ r1.1 (PV.v (.bool true)) r5.1).bind fun p7 =>
fin st.stk.length st.tk.length st.lp.length [p7] r5.2
theorem EE (a0 : PV) (st : St) : E L (.func 145) [a0] st = HV (E L) itE a0 st := (bF (by kernel_rfl) Tryz.func145 _ _).trans (by kernel_rfl)
noncomputable def HX (call : bA) (it : bG) (a0 : PV) (st : St) : Option (PV × St) :=
(call (.func 115) [ai a0] st).bind fun r1 =>
(onG r1.1 false (
some (a0, r1.2)) r1.2).bind fun r3 =>
(onG r1.1 false (
(call (.func 116) [ai r3.1] r3.2).bind fun r6 =>
some (r6.1, r6.2)) r3.2).bind fun r5 =>
(bQ r1.1 (PV.v (.bool true)) r5.1).bind fun p7 =>
fin st.stk.length st.tk.length st.lp.length [p7] r5.2
theorem EH (a0 : PV) (st : St) : E L (.func 149) [a0] st = HX (E L) itE a0 st := (bF (by kernel_rfl) Tryz.func149 _ _).trans (by kernel_rfl)
theorem qU : aJ Tryz.prog true .eql 128 (.v .nilIface) (.v .nilIface) = some (.v (.bool true)) := by kernel_rfl
theorem uq : aJ Tryz.prog true .neq 128 (.v .nilIface) (.v .nilIface) = some (.v (.bool false)) := by kernel_rfl
theorem uj (c : Bool) : aJ Tryz.prog c .eql 128 (.ni) (.v .nilIface) = some (.v (.bool false)) := by kernel_rfl
theorem uh (c : Bool) (a : TypeId) (x : Value) : aJ Tryz.prog c .neq 128 (.ifc a x) (.v .nilIface) = some (.v (.bool true)) := by kernel_rfl
theorem mG (n : Int) : fw Tryz.prog 3 122 (.v (.int .i64 n)) = some (.v (.int .u64 (IntKind.u64.wrap n))) := by kernel_rfl
theorem gL (n : Int) : fw Tryz.prog 3 34 (.v (.int .i64 n)) = some (.v (.int .u64 (IntKind.u64.wrap n))) := by kernel_rfl
theorem iR (n : Int) : fw Tryz.prog 3 5 (.v (.int .i64 n)) = some (.v (.int .u8 (IntKind.u8.wrap n))) := by kernel_rfl
theorem AN (n : Int) : fw Tryz.prog 34 3 (.v (.int .u64 n)) = some (.v (.int .i64 (IntKind.i64.wrap n))) := by kernel_rfl
theorem AO (n : Int) : fw Tryz.prog 34 5 (.v (.int .u64 n)) = some (.v (.int .u8 (IntKind.u8.wrap n))) := by kernel_rfl
theorem og (n : Int) : fw Tryz.prog 5 21 (.v (.int .u8 n)) = some (.v (.int .i32 (IntKind.i32.wrap n))) := by kernel_rfl
theorem gq (n : Int) : fw Tryz.prog 5 34 (.v (.int .u8 n)) = some (.v (.int .u64 (IntKind.u64.wrap n))) := by kernel_rfl
theorem lQ (s : ByteArray) : fw Tryz.prog 9 91 (.v (.string s)) = some (.sl (jA s) .dead) := by kernel_rfl
theorem AP (es : List (List PV)) (c : Cap) : fw Tryz.prog 91 9 (.sl es c) = (bytesOf es).bind fun bs => some (.v (.string ⟨bs.toArray⟩)) := by kernel_rfl
theorem ug (cs : List PV) : gK Tryz.prog 140 (.agg cs) 0 = AM.part false 1 0 cs := by kernel_rfl
theorem om (cs : List PV) : gK Tryz.prog 140 (.agg cs) 1 = AM.part false 1 1 cs := by kernel_rfl
theorem qK (cs : List PV) : gK Tryz.prog 140 (.agg cs) 2 = AM.part false 1 2 cs := by kernel_rfl
theorem Hn (es : List (List PV)) (c : Cap) (k : IntKind) (n : Int) : bJ Tryz.prog 101 (.sl es c) (.v (.int k n)) = bif dv n es.length then (es[n.toNat]?).bind fun e => bif ak e.length 5 && true then some (.fp e 0) else none else none := by kernel_rfl
theorem Ia (es : List (List PV)) (c : Cap) (k : IntKind) (n : Int) : bJ Tryz.prog 24 (.sl es c) (.v (.int k n)) = bif dv n es.length then (es[n.toNat]?).bind fun e => bif ak e.length 4 && true then some (.fp e 0) else none else none := by kernel_rfl
theorem Ib (es : List (List PV)) (c : Cap) (k : IntKind) (n : Int) : bJ Tryz.prog 25 (.sl es c) (.v (.int k n)) = bif dv n es.length then (es[n.toNat]?).bind fun e => bif ak e.length 5 && true then some (.fp e 0) else none else none := by kernel_rfl
theorem Ic (es : List (List PV)) (c : Cap) (k : IntKind) (n : Int) : bJ Tryz.prog 26 (.sl es c) (.v (.int k n)) = bif dv n es.length then (es[n.toNat]?).bind fun e => bif ak e.length 5 && true then some (.fp e 0) else none else none := by kernel_rfl
theorem F7 (es : List (List PV)) (c : Cap) (k : IntKind) (n : Int) : bJ Tryz.prog 27 (.sl es c) (.v (.int k n)) = bif dv n es.length then (es[n.toNat]?).bind fun e => bif ak e.length 3 && true then some (.fp e 0) else none else none := by kernel_rfl
theorem F8 (es : List (List PV)) (c : Cap) (k : IntKind) (n : Int) : bJ Tryz.prog 31 (.sl es c) (.v (.int k n)) = bif dv n es.length then (es[n.toNat]?).bind fun e => bif ak e.length 58 && true then some (.fp e 0) else none else none := by kernel_rfl
theorem CP (es : List (List PV)) (c : Cap) (k : IntKind) (n : Int) : bJ Tryz.prog 37 (.sl es c) (.v (.int k n)) = bif dv n es.length then (es[n.toNat]?).bind fun e => bif ak e.length 9 && true then some (.fp e 0) else none else none := by kernel_rfl
theorem CQ (es : List (List PV)) (c : Cap) (k : IntKind) (n : Int) : bJ Tryz.prog 60 (.sl es c) (.v (.int k n)) = bif dv n es.length then (es[n.toNat]?).bind fun e => bif ak e.length 1 && true then some (.fp e 0) else none else none := by kernel_rfl
theorem Ie (es : List (List PV)) (c : Cap) (k : IntKind) (n : Int) : bJ Tryz.prog 65 (.sl es c) (.v (.int k n)) = bif dv n es.length then (es[n.toNat]?).bind fun e => bif ak e.length 5 && true then some (.fp e 0) else none else none := by kernel_rfl
theorem Ig (es : List (List PV)) (c : Cap) (k : IntKind) (n : Int) : bJ Tryz.prog 91 (.sl es c) (.v (.int k n)) = bif dv n es.length then (es[n.toNat]?).bind fun e => bif ak e.length 1 && true then some (.fp e 0) else none else none := by kernel_rfl
theorem fJ (x : Value) : jh Tryz.prog 212 (.v x) = some (.ifc 212 x) := by kernel_rfl
theorem zK (x0 x1 x2 : PV) (k : IntKind) : cJ Tryz.prog 198 (.agg [x0, x1, x2]) (.v (.int k 0)) = some x0 := by kernel_rfl
theorem zM (x0 x1 x2 : PV) (k : IntKind) : cJ Tryz.prog 198 (.agg [x0, x1, x2]) (.v (.int k 1)) = some x1 := by kernel_rfl
theorem zP (x0 x1 x2 : PV) (k : IntKind) : cJ Tryz.prog 198 (.agg [x0, x1, x2]) (.v (.int k 2)) = some x2 := by kernel_rfl
theorem Fi (x0 x1 x2 x3 : PV) (k : IntKind) : cJ Tryz.prog 199 (.agg [x0, x1, x2, x3]) (.v (.int k 0)) = some x0 := by kernel_rfl
theorem zN (x0 x1 x2 x3 : PV) (k : IntKind) : cJ Tryz.prog 199 (.agg [x0, x1, x2, x3]) (.v (.int k 1)) = some x1 := by kernel_rfl
theorem zQ (x0 x1 x2 x3 : PV) (k : IntKind) : cJ Tryz.prog 199 (.agg [x0, x1, x2, x3]) (.v (.int k 2)) = some x2 := by kernel_rfl
theorem zS (x0 x1 x2 x3 : PV) (k : IntKind) : cJ Tryz.prog 199 (.agg [x0, x1, x2, x3]) (.v (.int k 3)) = some x3 := by kernel_rfl
theorem pZ {l : List UInt8} {i : Nat} (k : IntKind) (h : i < l.length) : cJ Tryz.prog 9 (str l) (.v (.int k (i : Int))) = some (.v (.int .u8 (l[i].toNat : Int))) := Fe (by kernel_rfl) k h
theorem lU (c : UInt8) (l : List UInt8) (k : IntKind) : cJ Tryz.prog 9 (str (c :: l)) (.v (.int k 0)) = some (.v (.int .u8 (c.toNat : Int))) := pZ (l := c :: l) (i := 0) k (by simp)
theorem Hr (es : List (List PV)) (c : Cap) : eV Tryz.prog 24 (.sl es c) = some (.v (.int .i64 es.length)) := by kernel_rfl
theorem Hs (es : List (List PV)) (c : Cap) : eV Tryz.prog 25 (.sl es c) = some (.v (.int .i64 es.length)) := by kernel_rfl
theorem Ht (es : List (List PV)) (c : Cap) : eV Tryz.prog 26 (.sl es c) = some (.v (.int .i64 es.length)) := by kernel_rfl
theorem CX (es : List (List PV)) (c : Cap) : eV Tryz.prog 27 (.sl es c) = some (.v (.int .i64 es.length)) := by kernel_rfl
theorem CY (es : List (List PV)) (c : Cap) : eV Tryz.prog 31 (.sl es c) = some (.v (.int .i64 es.length)) := by kernel_rfl
theorem yl (es : List (List PV)) (c : Cap) : eV Tryz.prog 37 (.sl es c) = some (.v (.int .i64 es.length)) := by kernel_rfl
theorem qN (es : List (List PV)) (c : Cap) : eV Tryz.prog 60 (.sl es c) = some (.v (.int .i64 es.length)) := by kernel_rfl
theorem CZ (es : List (List PV)) (c : Cap) : eV Tryz.prog 65 (.sl es c) = some (.v (.int .i64 es.length)) := by kernel_rfl
theorem dH (s : ByteArray) : eV Tryz.prog 9 (.v (.string s)) = some (.v (.int .i64 s.size)) := by kernel_rfl
theorem sK (es : List (List PV)) (c : Cap) : eV Tryz.prog 91 (.sl es c) = some (.v (.int .i64 es.length)) := by kernel_rfl
theorem Aj {l : List UInt8} {lo hi : Nat} (k k' : IntKind) (h : lo ≤ hi) (h' : hi ≤ l.length) : fW Tryz.prog 9 (str l) (some (.v (.int k (lo : Int)))) (some (.v (.int k' (hi : Int)))) none = some (str ((l.take hi).drop lo)) := FR (by kernel_rfl) k k' h h'
theorem DH {l : List UInt8} {lo : Nat} (k : IntKind) (h : lo ≤ l.length) : fW Tryz.prog 9 (str l) (some (.v (.int k (lo : Int)))) none none = some (str (l.drop lo)) := DI (by kernel_rfl) k h
theorem DF {l : List UInt8} {hi : Nat} (k' : IntKind) (h' : hi ≤ l.length) : fW Tryz.prog 9 (str l) none (some (.v (.int k' (hi : Int)))) none = some (str (l.take hi)) := DG (by kernel_rfl) k' h'
end Go.Proofs.YtlhlijaondmccaaGreatDoor.S
namespace Go.Proofs
open Go.Shelf
def Tryz.wN : Go.Shelf.Ren := ⟨fun | 283 => 94 | n => n, fun | 3 => 3 | 9 => 9 | 4 => 4 | n => n, fun | n => n⟩
theorem Tryz.Fm : Go.Proofs.Lays.n283 Tryz.prog Tryz.wN := {
 mixed := by kernel_rfl
 f283 := Tryz.func94.trans (congrArg some (by kernel_rfl))
 t3 := Tryz.underlying3
 a3 := Tryz.isAgg3
 z3 := Tryz.sizeOf3
 v3 := Tryz.zeroValue3
 t4 := Tryz.underlying4
 a4 := Tryz.isAgg4
 z4 := Tryz.sizeOf4
 v4 := Tryz.zeroValue4
 t9 := Tryz.underlying9
 a9 := Tryz.isAgg9
 z9 := Tryz.sizeOf9
 v9 := Tryz.zeroValue9 }
open Go.Lib in
theorem Tryz.internal_strconv_small (i : Nat) (h : i < 100) (w : World) :
 Calls Tryz.prog 94 #[.int .i64 i] w fun e w' => e = .returned (.string ⟨(Lib.decDigits i).toArray⟩) ∧ w' = w := Any.internal_strconv_small Tryz.Fm i h w
def Tryz.vr : Go.Shelf.Ren := ⟨fun | 284 => 95 | 129 => 134 | 317 => 133 | 318 => 135 | n => n, fun | 53 => 34 | 3 => 3 | 212 => 185 | 0 => 0 | 4 => 4 | 46 => 122 | 5 => 5 | 9 => 9 | n => n, fun | 17 => 0 | n => n⟩
theorem Tryz.CV : Go.Proofs.LaysM.n284 Tryz.prog Tryz.vr := {
 mixed := by kernel_rfl
 f129 := Tryz.func134.trans (congrArg some (by kernel_rfl))
 f284 := Tryz.func95.trans (congrArg some (by kernel_rfl))
 f317 := Tryz.func133.trans (congrArg some (by kernel_rfl))
 f318 := Tryz.func135.trans (congrArg some (by kernel_rfl))
 t0 := Tryz.underlying0
 a0 := Tryz.isAgg0
 z0 := Tryz.sizeOf0
 v0 := Tryz.zeroValue0
 t3 := Tryz.underlying3
 a3 := Tryz.isAgg3
 z3 := Tryz.sizeOf3
 v3 := Tryz.zeroValue3
 t4 := Tryz.underlying4
 a4 := Tryz.isAgg4
 z4 := Tryz.sizeOf4
 v4 := Tryz.zeroValue4
 t5 := Tryz.underlying5
 a5 := Tryz.isAgg5
 z5 := Tryz.sizeOf5
 v5 := Tryz.zeroValue5
 t9 := Tryz.underlying9
 a9 := Tryz.isAgg9
 z9 := Tryz.sizeOf9
 v9 := Tryz.zeroValue9
 t46 := Tryz.underlying122
 a46 := Tryz.isAgg122
 z46 := Tryz.sizeOf122
 v46 := Tryz.zeroValue122
 t53 := Tryz.underlying34
 a53 := Tryz.isAgg34
 z53 := Tryz.sizeOf34
 v53 := Tryz.zeroValue34
 t212 := Tryz.underlying185
 a212 := Tryz.isAgg185
 z212 := Tryz.sizeOf185
 v212 := Tryz.zeroValue185
 g17 := by kernel_rfl
 i0 := by kernel_rfl
 i3 := by kernel_rfl
 i4 := by kernel_rfl
 i5 := by kernel_rfl
 i9 := by kernel_rfl
 i46 := by kernel_rfl
 i53 := by kernel_rfl
 i212 := by kernel_rfl
 m17 := by kernel_rfl }
open Go.Lib in
theorem Tryz.internal_strconv_numDigits (u : Nat) (h1 : 1 ≤ u) (h2 : u < 18446744073709551616) (w : World) (htab : Lib.TabIs Tryz.prog w "internal/strconv.uint64pow10" .u64 Lib.pow10Tab) :
 Calls Tryz.prog 95 #[.int .u64 u] w fun e w' => e = .returned (.int .i64 (Lib.nDigits u)) ∧ w' = w := Any.internal_strconv_numDigits Tryz.CV u h1 h2 w htab
def Tryz.wO : Go.Shelf.Ren := ⟨fun | 285 => 96 | n => n, fun | 37 => 91 | 53 => 34 | 3 => 3 | 4 => 4 | 51 => 186 | 9 => 9 | 5 => 5 | 0 => 0 | n => n, fun | n => n⟩
theorem Tryz.Fo : Go.Proofs.Lays.n285 Tryz.prog Tryz.wO := {
 mixed := by kernel_rfl
 f285 := Tryz.func96.trans (congrArg some (by kernel_rfl))
 t0 := Tryz.underlying0
 a0 := Tryz.isAgg0
 z0 := Tryz.sizeOf0
 v0 := Tryz.zeroValue0
 t3 := Tryz.underlying3
 a3 := Tryz.isAgg3
 z3 := Tryz.sizeOf3
 v3 := Tryz.zeroValue3
 t4 := Tryz.underlying4
 a4 := Tryz.isAgg4
 z4 := Tryz.sizeOf4
 v4 := Tryz.zeroValue4
 t5 := Tryz.underlying5
 a5 := Tryz.isAgg5
 z5 := Tryz.sizeOf5
 v5 := Tryz.zeroValue5
 t9 := Tryz.underlying9
 a9 := Tryz.isAgg9
 z9 := Tryz.sizeOf9
 v9 := Tryz.zeroValue9
 t37 := Tryz.underlying91
 a37 := Tryz.isAgg91
 z37 := Tryz.sizeOf91
 v37 := Tryz.zeroValue91
 t51 := Tryz.underlying186
 a51 := Tryz.isAgg186
 z51 := Tryz.sizeOf186
 v51 := Tryz.zeroValue186
 t53 := Tryz.underlying34
 a53 := Tryz.isAgg34
 z53 := Tryz.sizeOf34
 v53 := Tryz.zeroValue34 }
open Go.RowKit Go.Sort Go.Lib in
theorem Tryz.internal_strconv_formatBase10 (blk off cap : Nat) (u : Nat) (d : Array UInt8) (w : World) (hH : Holds (fun (b : UInt8) => Value.int .u8 (b.toNat : Int)) w blk off d) (hu : u < 10 ^ d.size) (hu64 : u < 18446744073709551616) (hsz : d.size < 4611686018427387904) :
 Calls Tryz.prog 96 #[.slice (some ⟨blk, off, none⟩) d.size cap, .int .u64 u] w fun e w' =>
  e = .returned (.tuple #[]) ∧ ∃ (n v' : Nat) (dk : Array UInt8), w' = (putRow (fun (b : UInt8) => Value.int .u8 (b.toNat : Int)) w blk off dk).drewN n ∧ FmtInv d.size u 0 v' dk := Any.internal_strconv_formatBase10 Tryz.Fo blk off cap u d w hH hu hu64 hsz
def Tryz.vq : Go.Shelf.Ren := ⟨fun | 245 => 171 | 279 => 179 | 280 => 180 | 281 => 181 | 282 => 182 | 316 => 192 | 171 => 106 | 205 => 193 | 243 => 143 | 246 => 167 | 283 => 94 | 284 => 95 | 285 => 96 | 286 => 97 | 129 => 134 | 317 => 133 | 318 => 135 | 319 => 136 | 320 => 137 | 337 => 164 | 338 => 165 | n => n, fun | 9 => 9 | 3 => 3 | 75 => 128 | 167 => 212 | 4 => 4 | 168 => 214 | 210 => 226 | 37 => 91 | 0 => 0 | 127 => 133 | 145 => 232 | 143 => 230 | 2 => 2 | 171 => 161 | 53 => 34 | 5 => 5 | 173 => 164 | 212 => 185 | 51 => 186 | 20 => 20 | 213 => 187 | 46 => 122 | 232 => 210 | 233 => 211 | 80 => 76 | n => n, fun | 15 => 4 | 16 => 5 | 17 => 0 | 18 => 1 | 19 => 2 | n => n⟩
theorem Tryz.wQ : Go.Proofs.LaysC.n245 Tryz.prog Tryz.vq := {
 mixed := by kernel_rfl
 f129 := Tryz.func134.trans (congrArg some (by kernel_rfl))
 f171 := Tryz.func106.trans (congrArg some (by kernel_rfl))
 f205 := Tryz.func193.trans (congrArg some (by kernel_rfl))
 f243 := Tryz.func143.trans (congrArg some (by kernel_rfl))
 f245 := Tryz.func171.trans (congrArg some (by kernel_rfl))
 f246 := Tryz.func167.trans (congrArg some (by kernel_rfl))
 f279 := Tryz.func179.trans (congrArg some (by kernel_rfl))
 f280 := Tryz.func180.trans (congrArg some (by kernel_rfl))
 f281 := Tryz.func181.trans (congrArg some (by kernel_rfl))
 f282 := Tryz.func182.trans (congrArg some (by kernel_rfl))
 f283 := Tryz.func94.trans (congrArg some (by kernel_rfl))
 f284 := Tryz.func95.trans (congrArg some (by kernel_rfl))
 f285 := Tryz.func96.trans (congrArg some (by kernel_rfl))
 f286 := Tryz.func97.trans (congrArg some (by kernel_rfl))
 f316 := Tryz.func192.trans (congrArg some (by kernel_rfl))
 f317 := Tryz.func133.trans (congrArg some (by kernel_rfl))
 f318 := Tryz.func135.trans (congrArg some (by kernel_rfl))
 f319 := Tryz.func136.trans (congrArg some (by kernel_rfl))
 f320 := Tryz.func137.trans (congrArg some (by kernel_rfl))
 f337 := Tryz.func164.trans (congrArg some (by kernel_rfl))
 f338 := Tryz.func165.trans (congrArg some (by kernel_rfl))
 t0 := Tryz.underlying0
 a0 := Tryz.isAgg0
 z0 := Tryz.sizeOf0
 v0 := Tryz.zeroValue0
 t2 := Tryz.underlying2
 a2 := Tryz.isAgg2
 z2 := Tryz.sizeOf2
 v2 := Tryz.zeroValue2
 t3 := Tryz.underlying3
 a3 := Tryz.isAgg3
 z3 := Tryz.sizeOf3
 v3 := Tryz.zeroValue3
 t4 := Tryz.underlying4
 a4 := Tryz.isAgg4
 z4 := Tryz.sizeOf4
 v4 := Tryz.zeroValue4
 t5 := Tryz.underlying5
 a5 := Tryz.isAgg5
 z5 := Tryz.sizeOf5
 v5 := Tryz.zeroValue5
 t9 := Tryz.underlying9
 a9 := Tryz.isAgg9
 z9 := Tryz.sizeOf9
 v9 := Tryz.zeroValue9
 t20 := Tryz.underlying20
 a20 := Tryz.isAgg20
 z20 := Tryz.sizeOf20
 v20 := Tryz.zeroValue20
 t37 := Tryz.underlying91
 a37 := Tryz.isAgg91
 z37 := Tryz.sizeOf91
 v37 := Tryz.zeroValue91
 t46 := Tryz.underlying122
 a46 := Tryz.isAgg122
 z46 := Tryz.sizeOf122
 v46 := Tryz.zeroValue122
 t51 := Tryz.underlying186
 a51 := Tryz.isAgg186
 z51 := Tryz.sizeOf186
 v51 := Tryz.zeroValue186
 t53 := Tryz.underlying34
 a53 := Tryz.isAgg34
 z53 := Tryz.sizeOf34
 v53 := Tryz.zeroValue34
 t75 := Tryz.underlying128
 a75 := Tryz.isAgg128
 z75 := Tryz.sizeOf128
 v75 := Tryz.zeroValue128
 t127 := Tryz.underlying133
 a127 := Tryz.isAgg133
 z127 := Tryz.sizeOf133
 v127 := Tryz.zeroValue133
 t143 := Tryz.underlying230
 a143 := Tryz.isAgg230
 z143 := Tryz.sizeOf230
 v143 := Tryz.zeroValue230
 t145 := Tryz.underlying232
 a145 := Tryz.isAgg232
 z145 := Tryz.sizeOf232
 v145 := Tryz.zeroValue232
 t167 := Tryz.underlying212
 a167 := Tryz.isAgg212
 z167 := Tryz.sizeOf212
 v167 := Tryz.zeroValue212
 t168 := Tryz.underlying214
 a168 := Tryz.isAgg214
 z168 := Tryz.sizeOf214
 v168 := Tryz.zeroValue214
 t171 := Tryz.underlying161
 a171 := Tryz.isAgg161
 z171 := Tryz.sizeOf161
 v171 := Tryz.zeroValue161
 t173 := Tryz.underlying164
 a173 := Tryz.isAgg164
 z173 := Tryz.sizeOf164
 v173 := Tryz.zeroValue164
 t210 := Tryz.underlying226
 a210 := Tryz.isAgg226
 z210 := Tryz.sizeOf226
 v210 := Tryz.zeroValue226
 t212 := Tryz.underlying185
 a212 := Tryz.isAgg185
 z212 := Tryz.sizeOf185
 v212 := Tryz.zeroValue185
 t213 := Tryz.underlying187
 a213 := Tryz.isAgg187
 z213 := Tryz.sizeOf187
 t232 := Tryz.underlying210
 a232 := Tryz.isAgg210
 z232 := Tryz.sizeOf210
 v232 := Tryz.zeroValue210
 t233 := Tryz.underlying211
 a233 := Tryz.isAgg211
 z233 := Tryz.sizeOf211
 v233 := Tryz.zeroValue211
 g15 := by kernel_rfl
 g16 := by kernel_rfl
 g17 := by kernel_rfl
 g18 := by kernel_rfl
 g19 := by kernel_rfl
 t80 := Tryz.underlying76
 a80 := Tryz.isAgg76
 z80 := Tryz.sizeOf76
 v80 := Tryz.zeroValue76
 i0 := by kernel_rfl
 i2 := by kernel_rfl
 i3 := by kernel_rfl
 i4 := by kernel_rfl
 i5 := by kernel_rfl
 i9 := by kernel_rfl
 i20 := by kernel_rfl
 i37 := by kernel_rfl
 i46 := by kernel_rfl
 i51 := by kernel_rfl
 i53 := by kernel_rfl
 i75 := by kernel_rfl
 i80 := by kernel_rfl
 i127 := by kernel_rfl
 i143 := by kernel_rfl
 i145 := by kernel_rfl
 i167 := by kernel_rfl
 i168 := by kernel_rfl
 i171 := by kernel_rfl
 i173 := by kernel_rfl
 i210 := by kernel_rfl
 i212 := by kernel_rfl
 i232 := by kernel_rfl
 i233 := by kernel_rfl
 m15 := by kernel_rfl
 m16 := by kernel_rfl
 m17 := by kernel_rfl
 m18 := by kernel_rfl
 m19 := by kernel_rfl
 c0 := by kernel_rfl
 c2 := by kernel_rfl
 c3 := by kernel_rfl
 c4 := by kernel_rfl
 c5 := by kernel_rfl
 c9 := by kernel_rfl
 c20 := by kernel_rfl
 c37 := by kernel_rfl
 c46 := by kernel_rfl
 c51 := by kernel_rfl
 c53 := by kernel_rfl
 c75 := by kernel_rfl
 c80 := by kernel_rfl
 c127 := by kernel_rfl
 c143 := by kernel_rfl
 c145 := by kernel_rfl
 c167 := by kernel_rfl
 c168 := by kernel_rfl
 c171 := by kernel_rfl
 c173 := by kernel_rfl
 c210 := by kernel_rfl
 c212 := by kernel_rfl
 c213 := by kernel_rfl
 c232 := by kernel_rfl
 c233 := by kernel_rfl }
open Go.RowKit in
theorem Tryz.strconv_toError_syntax (fn s : ByteArray) (base bits : Int) (ev : Value) (w : World) (hlim : s.size ≤ 281474976710656) (hv : w.cell? ⟨4, 0, none⟩ = some ev) (hev : ev = .nilIface ∨ ∃ te pe, ev = .iface te pe) :
 Calls Tryz.prog 171 #[.string fn, .string s, .int .i64 base, .int .i64 bits, .iface 212 (.int .i64 2)] w fun e w' => ∃ N, e = .returned (.iface 214 (.pointer (some ⟨N, 0, none⟩))) ∧ w.heap.size ≤ N ∧ w'.heap[N]? = some (.cells #[.string fn, .string s, ev] 226 (0, 0)) ∧ Below w.heap.size w w' := Any.strconv_toError_syntax Tryz.wQ fn s base bits ev w hlim hv hev
open Go.RowKit in
theorem Tryz.strconv_toError_range (fn s : ByteArray) (base bits : Int) (ev : Value) (w : World) (hlim : s.size ≤ 281474976710656) (hv : w.cell? ⟨5, 0, none⟩ = some ev) (hev : ev = .nilIface ∨ ∃ te pe, ev = .iface te pe) :
 Calls Tryz.prog 171 #[.string fn, .string s, .int .i64 base, .int .i64 bits, .iface 212 (.int .i64 1)] w fun e w' => ∃ N, e = .returned (.iface 214 (.pointer (some ⟨N, 0, none⟩))) ∧ w.heap.size ≤ N ∧ w'.heap[N]? = some (.cells #[.string fn, .string s, ev] 226 (0, 0)) ∧ Below w.heap.size w w' := Any.strconv_toError_range Tryz.wQ fn s base bits ev w hlim hv hev
def Tryz.wM : Go.Shelf.Ren := ⟨fun | 217 => 144 | 266 => 168 | n => n, fun | 9 => 9 | 5 => 5 | 3 => 3 | n => n, fun | n => n⟩
theorem Tryz.Fl : Go.Proofs.Lays.n217 Tryz.prog Tryz.wM := {
 mixed := by kernel_rfl
 f217 := Tryz.func144.trans (congrArg some (by kernel_rfl))
 f266 := Tryz.func168.trans (congrArg some (by kernel_rfl))
 t3 := Tryz.underlying3
 a3 := Tryz.isAgg3
 z3 := Tryz.sizeOf3
 v3 := Tryz.zeroValue3
 t5 := Tryz.underlying5
 a5 := Tryz.isAgg5
 z5 := Tryz.sizeOf5
 v5 := Tryz.zeroValue5
 t9 := Tryz.underlying9
 a9 := Tryz.isAgg9
 z9 := Tryz.sizeOf9
 v9 := Tryz.zeroValue9 }
open Go.RowKit Go.Lib in
theorem Tryz.stringslite_IndexByte (s : ByteArray) (c : Int) (w : World) :
 Calls Tryz.prog 144 #[.string s, .int .u8 c] w fun e w' => e = .returned (.int .i64 (Lib.indexByte s.data.toList c.toNat.toUInt8)) ∧ w' = w := Any.stringslite_IndexByte Tryz.Fl s c w
def Tryz.wK : Go.Shelf.Ren := ⟨fun | 144 => 169 | 143 => 176 | 219 => 191 | 217 => 144 | 225 => 196 | 224 => 195 | 267 => 200 | 266 => 168 | 314 => 202 | n => n, fun | 9 => 9 | 4 => 4 | 3 => 3 | 5 => 5 | 46 => 122 | 146 => 190 | 51 => 186 | n => n, fun | 1 => 3 | n => n⟩
theorem Tryz.Fj : Go.Proofs.Lays.n144 Tryz.prog Tryz.wK := {
 mixed := by kernel_rfl
 f143 := Tryz.func176.trans (congrArg some (by kernel_rfl))
 f144 := Tryz.func169.trans (congrArg some (by kernel_rfl))
 f217 := Tryz.func144.trans (congrArg some (by kernel_rfl))
 f219 := Tryz.func191.trans (congrArg some (by kernel_rfl))
 f224 := Tryz.func195.trans (congrArg some (by kernel_rfl))
 f225 := Tryz.func196.trans (congrArg some (by kernel_rfl))
 f266 := Tryz.func168.trans (congrArg some (by kernel_rfl))
 f267 := Tryz.func200.trans (congrArg some (by kernel_rfl))
 f314 := Tryz.func202.trans (congrArg some (by kernel_rfl))
 t3 := Tryz.underlying3
 a3 := Tryz.isAgg3
 z3 := Tryz.sizeOf3
 v3 := Tryz.zeroValue3
 t4 := Tryz.underlying4
 a4 := Tryz.isAgg4
 z4 := Tryz.sizeOf4
 v4 := Tryz.zeroValue4
 t5 := Tryz.underlying5
 a5 := Tryz.isAgg5
 z5 := Tryz.sizeOf5
 v5 := Tryz.zeroValue5
 t9 := Tryz.underlying9
 a9 := Tryz.isAgg9
 z9 := Tryz.sizeOf9
 v9 := Tryz.zeroValue9
 t46 := Tryz.underlying122
 a46 := Tryz.isAgg122
 z46 := Tryz.sizeOf122
 v46 := Tryz.zeroValue122
 t51 := Tryz.underlying186
 a51 := Tryz.isAgg186
 z51 := Tryz.sizeOf186
 v51 := Tryz.zeroValue186
 t146 := Tryz.underlying190
 a146 := Tryz.isAgg190
 z146 := Tryz.sizeOf190
 v146 := Tryz.zeroValue190
 g1 := by kernel_rfl }
open Go.RowKit Go.Lib in
theorem Tryz.strings_Contains (s sub : ByteArray) (m : Int) (w : World) (hs : s.size < 4294967281) (hm : w.cell? ⟨3, 0, none⟩ = some (.int .i64 m)) :
 Calls Tryz.prog 169 #[.string s, .string sub] w fun e w' => e = .returned (.bool (Lib.contains s.data.toList sub.data.toList)) ∧ w' = w := Any.strings_Contains Tryz.Fj s sub m w hs hm
def Tryz.wL : Go.Shelf.Ren := ⟨fun | 150 => 150 | 153 => 172 | 152 => 183 | 226 => 184 | 227 => 185 | 228 => 186 | 137 => 114 | 119 => 194 | 224 => 195 | 225 => 196 | 217 => 144 | 266 => 168 | n => n, fun | 9 => 9 | 4 => 4 | 3 => 3 | 5 => 5 | 21 => 21 | 117 => 220 | 116 => 219 | 0 => 0 | 46 => 122 | 124 => 228 | n => n, fun | n => n⟩
theorem Tryz.Fk : Go.Proofs.Lays.n150 Tryz.prog Tryz.wL := {
 mixed := by kernel_rfl
 f119 := Tryz.func194.trans (congrArg some (by kernel_rfl))
 f137 := Tryz.func114.trans (congrArg some (by kernel_rfl))
 f150 := Tryz.func150.trans (congrArg some (by kernel_rfl))
 f152 := Tryz.func183.trans (congrArg some (by kernel_rfl))
 f153 := Tryz.func172.trans (congrArg some (by kernel_rfl))
 f217 := Tryz.func144.trans (congrArg some (by kernel_rfl))
 f224 := Tryz.func195.trans (congrArg some (by kernel_rfl))
 f225 := Tryz.func196.trans (congrArg some (by kernel_rfl))
 f226 := Tryz.func184.trans (congrArg some (by kernel_rfl))
 f227 := Tryz.func185.trans (congrArg some (by kernel_rfl))
 f228 := Tryz.func186.trans (congrArg some (by kernel_rfl))
 f266 := Tryz.func168.trans (congrArg some (by kernel_rfl))
 t0 := Tryz.underlying0
 a0 := Tryz.isAgg0
 z0 := Tryz.sizeOf0
 v0 := Tryz.zeroValue0
 t3 := Tryz.underlying3
 a3 := Tryz.isAgg3
 z3 := Tryz.sizeOf3
 v3 := Tryz.zeroValue3
 t4 := Tryz.underlying4
 a4 := Tryz.isAgg4
 z4 := Tryz.sizeOf4
 v4 := Tryz.zeroValue4
 t5 := Tryz.underlying5
 a5 := Tryz.isAgg5
 z5 := Tryz.sizeOf5
 v5 := Tryz.zeroValue5
 t9 := Tryz.underlying9
 a9 := Tryz.isAgg9
 z9 := Tryz.sizeOf9
 v9 := Tryz.zeroValue9
 t21 := Tryz.underlying21
 a21 := Tryz.isAgg21
 z21 := Tryz.sizeOf21
 v21 := Tryz.zeroValue21
 t46 := Tryz.underlying122
 a46 := Tryz.isAgg122
 z46 := Tryz.sizeOf122
 v46 := Tryz.zeroValue122
 t116 := Tryz.underlying219
 a116 := Tryz.isAgg219
 z116 := Tryz.sizeOf219
 t117 := Tryz.underlying220
 a117 := Tryz.isAgg220
 z117 := Tryz.sizeOf220
 v117 := Tryz.zeroValue220
 t124 := Tryz.underlying228
 a124 := Tryz.isAgg228
 z124 := Tryz.sizeOf228
 v124 := Tryz.zeroValue228 }
open Go.RowKit Go.Lib in
theorem Tryz.strings_ContainsAny_laid (s chars : ByteArray) (w : World) (hs : s.size < 4294967281) (hcs : chars.size < 4294967281) (has : ∀ (j : Nat) b, s.data.toList[j]? = some b → b.toNat < 128) (hac : ∀ (j : Nat) b, chars.data.toList[j]? = some b → b.toNat < 128) :
 Calls Tryz.prog 150 #[.string s, .string chars] w fun e w' => e = .returned (.bool (Lib.containsAny s.data.toList chars.data.toList)) ∧ Below w.heap.size w w' := Any.strings_ContainsAny_laid Tryz.Fk (by kernel_rfl) s chars w hs hcs has hac
open Go.Shelf Go.RowKit Go.Sort Go.Lib
theorem Tryz.qL (i : Nat) (hi : i < 100) (w : World) :
 Calls Tryz.prog 59 #[.int .u64 i, .int .i64 10] w fun e w' => e = .returned (.string ⟨(Lib.decDigits i).toArray⟩) ∧ w' = w := by
 go_enter Tryz.func59, Tryz.ntmps59
 go_wp2_with (go_at_call 94; refine (Tryz.internal_strconv_small i hi _).mono ?_; rintro e w' ⟨rfl, rfl⟩)
 go_ret
 exact ⟨rfl, rfl⟩
theorem Tryz.wE (w : World) (T : TypeId) (nd : Nat) (hs : nd ≤ 24) : Holds (fun (b : UInt8) => Value.int .u8 (b.toNat : Int)) (w.alloc (.cells zeros24 T)) w.heap.size 0 (Array.replicate nd (0 : UInt8)) := fun j hj => by
 simp only [Array.size_replicate] at hj; rw [show (⟨w.heap.size, 0 + j, none⟩ : Addr) = ⟨w.heap.size, j, none⟩ from by simp]; rw [World.cell?_alloc_new, zeros24_at _ (by omega), getElem!_pos _ j (by simpa using hj)]; simp
theorem u9 {B : Nat} {a w : World} (h : Below B a w) (k : Nat) : Below B a (w.drewN k) := ⟨h.os, h.tape, h.output, h.size, h.block⟩
theorem Tryz.sE (u : Nat) (hu : 100 ≤ u) (hu64 : u < 18446744073709551616) (w : World) (htab : Lib.TabIs Tryz.prog w "internal/strconv.uint64pow10" .u64 Lib.pow10Tab) :
 Calls Tryz.prog 59 #[.int .u64 u, .int .i64 10] w fun e w' => e = .returned (.string ⟨(Lib.decDigits u).toArray⟩) ∧ Below w.heap.size w w' := by
 have hu1 : 1 ≤ u := by omega
 have hnd20 : Lib.nDigits u ≤ 20 := by have := Lib.numDigits_eq u hu1 hu64; split at this <;> omega
 have hal : Tryz.prog.arrayLen 161 = 24 := by simp [Program.arrayLen, Tryz.underlying161]
 have hsl1 : ∀ W, (Instr.sliceAt 161 (.pointer (some ⟨w.heap.size, 0, none⟩)) none (some (.int .i64 (Lib.nDigits u : Int))) none).run Tryz.prog W = .ok (.slice (some ⟨w.heap.size, 0, none⟩) (Lib.nDigits u) 24) W := fun W => by
  rw [run_sliceAt_array_h W 161 ⟨w.heap.size, 0, none⟩ (by simp [Program.arrayLen, Program.elem, Tryz.underlying161]) .i64 (Lib.nDigits u : Int) (by omega) (by rw [hal]; omega)]
  go_simp
 have hH0 := Tryz.wE w 161 (Lib.nDigits u) (by omega); have hfmt := Tryz.internal_strconv_formatBase10 w.heap.size 0 24 u (Array.replicate (Lib.nDigits u) 0) (w.alloc (.cells Lib.zeros24 161)) hH0 (by rw [Array.size_replicate]; exact Lib.lt_pow_nDigits u) hu64 (by rw [Array.size_replicate]; omega); rw [Array.size_replicate] at hfmt; have HH0 := Lib.hid hH0; have Hal := Lib.hid hal; clear hH0 hal
 go_enter Tryz.func59, Tryz.ntmps59
 go_wp2_with (first
  | (go_at_call 95; refine (Tryz.internal_strconv_numDigits u hu1 hu64 _ (Lib.tabIs_alloc htab _)).mono ?_; rintro e w' ⟨rfl, rfl⟩))
 go_at_call 96
 refine hfmt.mono ?_
 rintro e w' ⟨rfl, k, v', dk, rfl, hF⟩
 have hcv : (convert 91 9 (.slice (some ⟨w.heap.size, 0, none⟩) (Lib.nDigits u) 24)).run Tryz.prog ((putRow (fun (b : UInt8) => Value.int .u8 (b.toNat : Int)) (w.alloc (.cells Lib.zeros24 161)) w.heap.size 0 dk).drewN k) = .ok (.string ⟨(Lib.decDigits u).toArray⟩) ((putRow (fun (b : UInt8) => Value.int .u8 (b.toNat : Int)) (w.alloc (.cells Lib.zeros24 161)) w.heap.size 0 dk).drewN k) := by
  have h := run_convert_bytes_back (P := Tryz.prog) ((putRow (fun (b : UInt8) => Value.int .u8 (b.toNat : Int)) (w.alloc (.cells Lib.zeros24 161)) w.heap.size 0 dk).drewN k) 91 9 5 ⟨w.heap.size, 0, none⟩ 24 (Lib.decDigits u) Tryz.underlying91 Tryz.underlying5 Tryz.underlying9 (fun j hj => by
   rw [Lib.row_is_numeral hF j hj, Lib.add_plain, World.cell?_drewN]
   exact cell?_putRow (fun (b : UInt8) => Value.int .u8 (b.toNat : Int)) _ w.heap.size 0 _ dk HH0.out (by rw [hF.size, Array.size_replicate]) j (by rw [hF.size]; rw [Lib.decDigits_length] at hj; exact hj))
  rw [Lib.decDigits_length] at h; exact h
 go_wp2
 go_ret
 refine ⟨rfl, ?_⟩; have e0 := alloc_eq_grow w (.cells Lib.zeros24 161); obtain ⟨os', _, e⟩ := putRow_grow_new (fun (b : UInt8) => Value.int .u8 (b.toNat : Int)) w #[.cells Lib.zeros24 161] w.heap.size 0 dk (ao _); rw [e0, e]; have hb : Below w.heap.size w (grow w os') := ⟨rfl, rfl, rfl, by simp [grow], fun k hk => by simp [grow, Array.getElem?_append, hk]⟩; exact u9 hb k
theorem Tryz.ya (u : Nat) (hu64 : u < 18446744073709551616) (w : World) (htab : Lib.TabIs Tryz.prog w "internal/strconv.uint64pow10" .u64 Lib.pow10Tab) :
 Calls Tryz.prog 31 #[.int .u64 u, .int .i64 10] w fun e w' => e = .returned (.string ⟨(Lib.decDigits u).toArray⟩) ∧ Below w.heap.size w w' := by
 have h : Calls Tryz.prog 59 #[.int .u64 u, .int .i64 10] w fun e w' => e = .returned (.string ⟨(Lib.decDigits u).toArray⟩) ∧ Below w.heap.size w w' := by
  by_cases hu : u < 100
  · refine (Tryz.qL u hu w).mono ?_
    rintro e w' ⟨rfl, rfl⟩
    exact ⟨rfl, Below.refl _ _⟩
  · exact Tryz.sE u (by omega) hu64 w htab
 go_enter Tryz.func31, Tryz.ntmps31
 go_wp2_with (go_at_call 59; refine h.mono ?_; rintro e w' ⟨rfl, hb⟩)
 go_ret
 exact ⟨rfl, hb⟩
end Go.Proofs
namespace Go.Proofs.YtlhlijaondmccaaGreatDoor.S
open Go Go.AM Go.Proofs Go.RowKit
structure Gvs (gv : GV) : Prop where
 len : ∃ m, gv.cell 3 0 = some (.int .i64 m)
 syn : ∃ ev, gv.cell 4 0 = some ev ∧ (ev = .nilIface ∨ ∃ te pe, ev = .iface te pe)
 rng : ∃ ev, gv.cell 5 0 = some ev ∧ (ev = .nilIface ∨ ∃ te pe, ev = .iface te pe)
 tab : Lib.TabIs Tryz.prog gv.w0 "internal/strconv.uint64pow10" .u64 Lib.pow10Tab
 six : 6 ≤ gv.w0.heap.size
theorem H7 : Tryz.prog.globalNamed "internal/strconv.uint64pow10" = some 0 := by kernel_rfl
theorem Gvs.Iv {gv : GV} (h : Gvs gv) {w : World} (hw : gv.at w) : Lib.TabIs Tryz.prog w "internal/strconv.uint64pow10" .u64 Lib.pow10Tab :=
 var?_below hw.2 H7 (by have := h.six; omega) h.tab
theorem IP {gv : GV} (hg : Gvs gv) (w : World) (vs : List Value) (p : PV) (hw : gv.at w) (h : ma vs = some p) : Calls Tryz.prog 169 vs.toArray w fun e w' => (∃ v, e = .returned v ∧ vO v p) ∧ Below w.heap.size w w' := by
 unfold ma at h; split at h
 · rename_i s t
   split at h
   · rename_i hs
     obtain rfl := Option.some.inj h; obtain ⟨m, hm⟩ := hg.len; refine (Tryz.strings_Contains s t m w hs (hw.1 _ _ _ hm)).mono ?_
     rintro e w' ⟨rfl, rfl⟩
     exact ⟨⟨_, rfl, .v⟩, Below.refl _ _⟩
   · cases h
 · cases h
theorem IQ (w : World) (vs : List Value) (p : PV) (h : kV vs = some p) : Calls Tryz.prog 144 vs.toArray w fun e w' => (∃ v, e = .returned v ∧ vO v p) ∧ Below w.heap.size w w' := by
 unfold kV at h; split at h
 · rename_i s c
   obtain rfl := Option.some.inj h; refine (Tryz.stringslite_IndexByte s c w).mono ?_
   rintro e w' ⟨rfl, rfl⟩
   exact ⟨⟨_, rfl, .v⟩, Below.refl _ _⟩
 · cases h
theorem tT {s : ByteArray} (h : oV s = true) (j : Nat) (b : UInt8) (hb : s.data.toList[j]? = some b) : b.toNat < 128 := by
 have := dK.1 h b (eN hb); simpa using this
theorem IT (w : World) (vs : List Value) (p : PV) (h : jo vs = some p) : Calls Tryz.prog 150 vs.toArray w fun e w' => (∃ v, e = .returned v ∧ vO v p) ∧ Below w.heap.size w w' := by
 unfold jo at h; split at h
 · rename_i s t
   split at h
   · rename_i hs
     obtain rfl := Option.some.inj h; refine (Tryz.strings_ContainsAny_laid s t w hs.1 hs.2.1 (tT hs.2.2.1) (tT hs.2.2.2)).mono ?_
     rintro e w' ⟨rfl, hb⟩
     exact ⟨⟨_, rfl, .v⟩, hb⟩
   · cases h
 · cases h
theorem IU {gv : GV} (hg : Gvs gv) (w : World) (vs : List Value) (p : PV) (hw : gv.at w) (h : sU 212 vs = some p) : Calls Tryz.prog 171 vs.toArray w fun e w' => (∃ v, e = .returned v ∧ vO v p) ∧ Below w.heap.size w w' := by
 unfold sU at h; split at h
 · rename_i f s b z t n
   split at h
   · rename_i hs
     obtain ⟨h1, rfl, h2⟩ := hs; obtain rfl := Option.some.inj h
     rcases h2 with rfl | rfl
     · obtain ⟨ev, he, hi⟩ := hg.rng
       refine (Tryz.strconv_toError_range f s b z ev w h1 (hw.1 _ _ _ he) hi).mono ?_
       rintro e w' ⟨N, rfl, _, _, hb⟩
       exact ⟨⟨_, rfl, .ni⟩, hb⟩
     · obtain ⟨ev, he, hi⟩ := hg.syn
       refine (Tryz.strconv_toError_syntax f s b z ev w h1 (hw.1 _ _ _ he) hi).mono ?_
       rintro e w' ⟨N, rfl, _, _, hb⟩
       exact ⟨⟨_, rfl, .ni⟩, hb⟩
   · cases h
 · cases h
theorem IS {gv : GV} (hg : Gvs gv) (w : World) (vs : List Value) (p : PV) (hw : gv.at w) (h : Bf vs = some p) : Calls Tryz.prog 31 vs.toArray w fun e w' => (∃ v, e = .returned v ∧ vO v p) ∧ Below w.heap.size w w' := by
 unfold Bf at h; split at h
 · rename_i n b
   split at h
   · rename_i hs
     obtain ⟨rfl, h1, h2⟩ := hs; obtain rfl := Option.some.inj h
     obtain ⟨u, rfl⟩ : ∃ u : Nat, n = u := ⟨n.toNat, by omega⟩
     refine (Tryz.ya u (by omega) w (hg.Iv hw)).mono ?_
     rintro e w' ⟨rfl, hb⟩
     exact ⟨⟨_, rfl, .v⟩, hb⟩
   · cases h
 · cases h
theorem C9 : (Tryz.prog.funcs.toList.all fun fn => !(fn.name == "runtime.NumGoroutine")) = true := by kernel_rfl
theorem ot (f : Nat) (fn : Func) (h : Tryz.prog.funcs[f]? = some fn) : (fn.name == "runtime.NumGoroutine") = false := by
 have h1 := dK.1 C9 fn (by
  rw [← gV] at h
  exact eN h)
 simpa using h1
theorem ok {gv : GV} (hg : Gvs gv) : vN gv L where
 gl w C _ i := .u
 name := ot
 mixed := by
  have h : Tryz.prog.follows .mixedOrders = true := by kernel_rfl
  exact h
 mR f g h := by
  have hl : zY Dl f = some g := h; simp only [Dl, zY] at hl
  cases e22 : ak 169 f with
  | true =>
   rw [e22, cond_true] at hl; obtain rfl := Option.some.inj hl; obtain rfl := ax e22
   intro call _; exact mc ⟨_, Tryz.func169, ot _ _ Tryz.func169, rfl⟩ fun w vs p hw h => IP hg w vs p hw h
  | false =>
   rw [e22, cond_false] at hl
   cases e40 : ak 144 f with
   | true =>
    rw [e40, cond_true] at hl; obtain rfl := Option.some.inj hl; obtain rfl := ax e40
    intro call _; exact mc ⟨_, Tryz.func144, ot _ _ Tryz.func144, rfl⟩ fun w vs p hw h => IQ w vs p h
   | false =>
    rw [e40, cond_false] at hl
    cases e45 : ak 150 f with
    | true =>
     rw [e45, cond_true] at hl; obtain rfl := Option.some.inj hl; obtain rfl := ax e45
     intro call _; exact mc ⟨_, Tryz.func150, ot _ _ Tryz.func150, rfl⟩ fun w vs p hw h => IT w vs p h
    | false =>
     rw [e45, cond_false] at hl
     cases e43 : ak 31 f with
     | true =>
      rw [e43, cond_true] at hl; obtain rfl := Option.some.inj hl; obtain rfl := ax e43
      intro call _; exact mc ⟨_, Tryz.func31, ot _ _ Tryz.func31, rfl⟩ fun w vs p hw h => IS hg w vs p hw h
     | false =>
      rw [e43, cond_false] at hl
      cases e49 : ak 171 f with
      | true =>
       rw [e49, cond_true] at hl; obtain rfl := Option.some.inj hl; obtain rfl := ax e49
       intro call _; exact mc ⟨_, Tryz.func171, ot _ _ Tryz.func171, rfl⟩ fun w vs p hw h => IU hg w vs p hw h
      | false =>
       rw [e49, cond_false] at hl
       cases e20 : ak 20 f with
       | true =>
        rw [e20, cond_true] at hl; obtain rfl := Option.some.inj hl; obtain rfl := ax e20
        intro call G; exact Bp (Bo fun w C _ i => .u) G
       | false =>
        rw [e20, cond_false] at hl; cases hl
end Go.Proofs.YtlhlijaondmccaaGreatDoor.S
namespace Go.Proofs.YtlhlijaondmccaaGreatDoor.S
open Go Go.AM Go.Proofs
attribute [local simp] cZ cy bX bY cz eI fu dX di dV de dW dh ft bZ hZ dR ib gU gN AM.aa aN aO ah bf aP aw AM.onG fR bH dw Ex.ba cond_true cond_false cV cU cT cS cR cX cQ cY cW dY dj dm cx da AM.du AM.cellsOf AM.an bQ beq_true dr ag aC bj bx bU decide_true decide_false bI bn br bD bg aB aA bh aD db dc fm av bE aY bR cC dQ dT cL eB eA set_set eG dB fI dC cI bK dA cH dz cG dy eF eH fE fF bO cv eu fD dZ aZ aT aI AM.aS ai dt bW aW bc aL aK AM.part aQ aM cc cn cm cr cr.eT AM.dM bu bV
def oF (n : Int) : Bool := decide (n = 95) || (decide (97 ≤ n) && decide (n ≤ 122)) || (decide (65 ≤ n) && decide (n ≤ 90))
def sx (n : Int) : Bool := decide (48 ≤ n) && decide (n ≤ 57)
theorem iW (n : Int) (st : St) : E L (.func 115) [.v (.int .i32 n)] st = some (.v (.bool (oF n)), st) := by
 rw [Er]; obtain ⟨N, T, Lb, hN, hT, hL⟩ := lens3 st
 conv => lhs; rw [← al (st)]
 by_cases h1 : n = 95
 · simp [GD, hN, hT, hL, oF, h1]
 by_cases h2 : 97 ≤ n <;> by_cases h3 : n ≤ 122 <;> by_cases h4 : 65 ≤ n <;> by_cases h5 : n ≤ 90 <;> simp [GD, hN, hT, hL, oF, h1, h2, h3, h4, h5]
theorem iX (n : Int) (st : St) : E L (.func 116) [.v (.int .i32 n)] st = some (.v (.bool (sx n)), st) := by
 rw [Es]; obtain ⟨N, T, Lb, hN, hT, hL⟩ := lens3 st
 conv => lhs; rw [← al (st)]
 by_cases h2 : 48 ≤ n <;> by_cases h3 : n ≤ 57 <;> simp [HS, hN, hT, hL, sx, h2, h3]
theorem yV (n : Int) (st : St) : E L (.func 113) [.v (.int .i32 n)] st = some (.v (.bool (!decide (n = 10))), st) := by
 rw [Eo]; obtain ⟨N, T, Lb, hN, hT, hL⟩ := lens3 st
 conv => lhs; rw [← al (st)]
 simp [HQ, hN, hT, hL]
theorem yX (n : Int) (st : St) : E L (.func 145) [.v (.int .i32 n)] st = some (.v (.bool (oF n || sx n)), st) := by
 rw [EE]; obtain ⟨N, T, Lb, hN, hT, hL⟩ := lens3 st
 conv => lhs; rw [← al (st)]
 cases h : oF n <;> simp [HV, hN, hT, hL, iW, iX, h]
theorem yZ (n : Int) (st : St) : E L (.func 149) [.v (.int .i32 n)] st = some (.v (.bool (oF n || sx n)), st) := by
 rw [EH]; obtain ⟨N, T, Lb, hN, hT, hL⟩ := lens3 st
 conv => lhs; rw [← al (st)]
 cases h : oF n <;> simp [HX, hN, hT, hL, iW, iX, h]
theorem Ea (n : Int) (st : St) : E L (.func 130) [.v (.int .u8 n)] st = some (.v (.bool (oF n)), st) := by
 rw [EA]; obtain ⟨N, T, Lb, hN, hT, hL⟩ := lens3 st
 conv => lhs; rw [← al (st)]
 by_cases h1 : n = 95
 · simp [GH, hN, hT, hL, oF, h1]
 by_cases h2 : 97 ≤ n <;> by_cases h3 : n ≤ 122 <;> by_cases h4 : 65 ≤ n <;> by_cases h5 : n ≤ 90 <;> simp [GH, hN, hT, hL, oF, h1, h2, h3, h4, h5]
theorem Eb (n : Int) (st : St) : E L (.func 131) [.v (.int .u8 n)] st = some (.v (.bool (sx n)), st) := by
 rw [EB]; obtain ⟨N, T, Lb, hN, hT, hL⟩ := lens3 st
 conv => lhs; rw [← al (st)]
 by_cases h2 : 48 ≤ n <;> by_cases h3 : n ≤ 57 <;> simp [HT, hN, hT, hL, sx, h2, h3]
def bB (q : UInt8 → Bool) (l : List UInt8) : Nat := (l.takeWhile q).length
theorem iF (q : UInt8 → Bool) (l : List UInt8) : bB q l ≤ l.length := (List.takeWhile_sublist q).length_le
theorem fG (q : UInt8 → Bool) (c : UInt8) (l : List UInt8) : bB q (c :: l) = if q c then bB q l + 1 else 0 := by
 unfold bB; rw [List.takeWhile_cons]
 split <;> simp
theorem qt {q : UInt8 → Bool} : ∀ {l : List UInt8} {n : Nat}, n ≤ l.length → (∀ j (hj : j < l.length), j < n → q l[j] = true) → (∀ h : n < l.length, q l[n] = false) → bB q l = n
 | [], n, hn, _, _ => by
  have : n = 0 := by simpa using hn
  subst this; rfl
 | c :: l, 0, hn, _, h => by
  have := h (by simp); rw [fG, if_neg]; simpa using this
 | c :: l, n + 1, hn, h1, h => by
  have h0 := h1 0 (by simp) (by omega); rw [fG, if_pos (by simpa using h0), qt (n := n) (by simpa using hn) (fun j hj hn' => by have := h1 (j + 1) (by simpa using hj) (by omega); rwa [List.getElem_cons_succ] at this) (fun hh => by have := h (by simpa using hh); rwa [List.getElem_cons_succ] at this)]
structure AA (g : Nat) (q : UInt8 → Bool) : Prop where
 lo : ∀ (c : UInt8) (st : St), c.toNat < 128 → E L (.func g) [.v (.int .i32 (c.toNat : Int))] st = some (.v (.bool (q c)), st)
 hi : ∃ b, (∀ c : UInt8, 128 ≤ c.toNat → q c = b) ∧ ∀ (n : Nat) (st : St), 128 ≤ n → E L (.func g) [.v (.int .i32 (n : Int))] st = some (.v (.bool b), st)
theorem DA {g : Nat} {q : UInt8 → Bool} (ht : AA g q) {rest : List UInt8} (hlen : rest.length < 4611686018427387904) {X : St} {N T Lb : Nat} (hN : X.stk.length = N) (hT : X.tk.length = T) (hL : X.lp.length = Lb) (ptr : PV) : ∀ (k pos : Nat), rest.length - pos = k → pos ≤ rest.length → (∀ j (hj : j < rest.length), j < pos → q rest[j] = true) → ∀ x : PV,
 ∃ pos' e y, itE (se.b0 (E L) itE N Lb) [ptr, .clo (.func g) [], x, .it Lb] (X.app [] [] [.iter (bs rest) pos]) = some (e, [ptr, .clo (.func g) [], y, .it Lb], X.app [] [] [.iter (bs rest) pos']) ∧
  ((e = .ret ∧ bB q rest < rest.length ∧ y = .v (.int .i64 (bB q rest))) ∨ (e = .exit 0 ∧ bB q rest = rest.length)) := by
 intro k
 induction k using Nat.strongRecOn with
 | ind k ih =>
 intro pos hk hp hall x
 by_cases hlt : pos < rest.length
 · by_cases hb : rest[pos].toNat < 128
   · by_cases hq : q rest[pos] = true
     · obtain ⟨pos', e, y, h1, h2⟩ := ih (rest.length - (pos + 1)) (by omega) (pos + 1) rfl (by omega) (fun j hj hj' => by
        by_cases hjp : j = pos
        · subst hjp; exact hq
        · exact hall j hj (by omega)) x
       refine ⟨pos', e, y, ?_, h2⟩; rw [bP (vs' := [ptr, .clo (.func g) [], x, .it Lb]) (st' := X.app [] [] [.iter (bs rest) (pos + 1)])]
       · exact h1
       · have hd := AM.decode_ascii hlt hb
         simp [se.b0, hN, hT, hL, hlt, hd, ht.lo rest[pos] _ hb, hq]
     · have hs : bB q rest = pos := qt hp hall fun _ => by simpa using hq
       refine ⟨pos + 1, .ret, .v (.int .i64 pos), ?_, .inl ⟨rfl, by omega, by rw [hs]⟩⟩; apply eE; have hd := AM.decode_ascii hlt hb; simp [se.b0, hN, hT, hL, hlt, hd, ht.lo rest[pos] _ hb, hq]
   · obtain ⟨hh1, hh2, hh3, hh4, hh5⟩ := AM.decode_high hlt (by omega : 128 ≤ rest[pos].toNat)
     obtain ⟨b, hb1, hb2⟩ := ht.hi
     cases b with
     | true =>
      obtain ⟨pos', e, y, h1, h2⟩ := ih (rest.length - (pos + (Utf8.decode (bs rest) pos).2)) (by omega) (pos + (Utf8.decode (bs rest) pos).2) rfl (by omega) (fun j hj hj' => by
       by_cases hjp : j < pos
       · exact hall j hj hjp
       · exact hb1 _ (hh5 j hj (by omega) hj')) x
      refine ⟨pos', e, y, ?_, h2⟩; rw [bP (vs' := [ptr, .clo (.func g) [], x, .it Lb]) (st' := X.app [] [] [.iter (bs rest) (pos + (Utf8.decode (bs rest) pos).2)])]
      · exact h1
      · simp [se.b0, hN, hT, hL, hlt, hb2 _ _ hh1]
     | false =>
      have hs : bB q rest = pos := qt hp hall fun _ => hb1 _ (by omega)
      refine ⟨pos + (Utf8.decode (bs rest) pos).2, .ret, .v (.int .i64 pos), ?_, .inl ⟨rfl, by omega, by rw [hs]⟩⟩; apply eE; simp [se.b0, hN, hT, hL, hlt, hb2 _ _ hh1]
 · have hs : bB q rest = pos := qt hp hall fun h => absurd h hlt
   refine ⟨pos, .exit 0, x, ?_, .inr ⟨rfl, by omega⟩⟩; apply fk; simp [se.b0, hN, hT, hL, hlt]
theorem D6 {g : Nat} {q : UInt8 → Bool} (ht : AA g q) {s : St} {b : Nat} {rest : List UInt8} {x y : PV} (hb : b < s.stk.length) (hlen : rest.length < 4611686018427387904) :
 E L (.func 112) [.ptr false b 0, .clo (.func g) []] (s.af false b [str rest, x, y]) = some (.v (.int .i64 (bB q rest)), s.af false b [str rest, x, y]) := by
 rw [En]; obtain ⟨N, T, Lb, hN, hT, hL⟩ := lens3 s; rw [hN] at hb
 conv => lhs; rw [← al (s.af false b [str rest, x, y])]
 have hr : ∀ X : St, X.lp.length = Lb → nw Tryz.prog 9 (str rest) (X.app [] [] []) = some (.it Lb, X.app [] [] [.iter (bs rest) 0]) := fun X h => zZ [] [] [] (by kernel_rfl) (bs rest) h
 obtain ⟨pos', e, z, h1, h2⟩ := DA ht hlen (X := s.af false b [str rest, x, y]) (N := N) (T := T) (Lb := Lb) (by rw [cL, hN]) (by rw [eB, hT]) (by rw [eA, hL]) (.ptr false b 0) rest.length 0 rfl (by omega) (fun j hj h => absurd h (by omega)) (.v (.int .i64 0))
 rcases h2 with ⟨rfl, h3, rfl⟩ | ⟨rfl, h3⟩
 · simp [se, hN, hT, hL, hb, hr, h1]
 · simp [se, hN, hT, hL, hb, hr, h1, dH, h3]
end Go.Proofs.YtlhlijaondmccaaGreatDoor.S
