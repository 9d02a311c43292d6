/- Part 6 of the proof of a law of the parser, its names made short by a program. No condition. -/
import Derived.Test.YtlhlijaondmccaaGreatDoorC5
import Derived.KernelRfl
import Derived.Test.YtlhlijaondmccaaGreatDoorRows
import Derived.WalkKit
import Derived.ProofKit
import Derived.LaidMore
import Derived.LaidLaws
import Derived.MakeChecks
import Derived.Stop.Joined
import Derived.Stop.LaidErr
import Derived.Lib.LaidTab
import Derived.OpenShut
import Derived.ShutString
import Derived.ChangeOld
import Derived.Below
import Derived.SizedLaws
import Derived.DataOpen
import Derived.ChangeSlices
set_option linter.all false
set_option maxRecDepth 100000
set_option maxHeartbeats 4000000
open _root_.Bool renaming and_eq_true → an, and_self → bn, and_true → bC, false_eq_true → ae, not_false → bf, not_true → bA, or_eq_true → iQ, true_and → bm
open _root_.Int renaming cast_ofNat_Int → aa, natCast_zero → eB
open _root_.List renaming all_cons → bq, all_nil → bT, cons_append → aA, drop_nil → bY, drop_succ_cons → aK, drop_zero → aO, getD_cons_succ → aL, getD_cons_zero → aM, getElem?_cons_succ → az, getElem?_cons_zero → aB, getElem?_eq_getElem → cO, isPrefixOf → ef, length_append → bH, length_cons → ai, length_drop → cz, length_nil → aD, length_singleton → bz, map_cons → aZ, map_nil → bc, modify_succ_cons → aI, modify_zero_cons → aJ, nil_append → bg, take_left → bB, take_nil → bM, take_succ_cons → aw, take_zero → bj, toList_toArray → aR
open _root_.Nat renaming add_zero → bu, beq → aj, ble → dI, blt → fZ, le_refl → av, reduceAdd → bP, zero_add → bh
open _root_.Option renaming bind_none → aY, bind_some → ag, map_some → aN
open _root_.Or renaming inl → dw, inr → dr
namespace Go.Proofs.YtlhlijaondmccaaGreatDoor.S
open Go Go.AM Go.Proofs
attribute [local simp] cY cu bV bW cv dS fk dY dh dW dc dX de fj bX gU dR gW gK gE AM.ab aL aM aY aN ay AM.onG fK bF dF Ex.ba cond_true cond_false cU cT cS cR cQ cW cP cX cV dZ di dj cr cZ AM.du AM.cellsOf AM.ao bE beq_true dm ai aD bh bu bP decide_true decide_false bC bm bn bA bf aB az bg aA da db fg aw bB bj bM cw dQ dU cI eu ep set_set eD dA fE dB cF bG dz cE dy cD dx eC eE fA fB bK cq eo fw ed aV aR aF AM.aQ ah dt bU aZ bc aJ aI AM.part aO aK bY cg cf cn cn.eS AM.dL bq bT dJ fQ aV laid aG aW cj
attribute [-simp] ag
attribute [local congr] dK
abbrev eP (x : Pl) : PV := .agg x.enc
abbrev fa (x : Rt) : PV := .agg x.enc
theorem fX (a b c d e : PV) : gC Tryz.prog 140 (.agg [a, b, c, d, e]) 1 = some b := by kernel_rfl
theorem ug {ts : List Tok} (hr : Row ts) {n : Nat} (ih : mX ts n) {d : Nat} {l : List Tok} {x : PR Pl} (hd12 : d ≤ 12) (h : Sfx ts l) (hx : mC n d l = some x) : Rd 156 [] ts d d l eP x := by
 unfold mC at hx; have h1 := ic hr h d 1
 cases x1 : ec 1 l with
 | bad e q =>
  obtain rfl := bZ hx x1; obtain ⟨a', d'', eb⟩ := bJ h1 x1; refine ⟨a', d'', fun b Y hb => ?_⟩; have eb := eb hb; rw [mi]; obtain ⟨N, T, Lb, hN, hT, hL⟩ := lens3 Y; rw [hN] at hb
  conv => lhs; rw [← al (Y.af false b (pc ts l d))]
  simp only [pc, pcf, aT, Tok.c, br, aa, if_true, if_false, ae, cx, eP] at eb ⊢
  generalize au ts = es at *
  simp [vG, hN, hT, hL, hb, eb, Pl.enc, X.enc, fc, x0, fX]
 | ok t1 l1 =>
  have hx := cM hx x1
  try dsimp only at hx
  have s1 := bO h1 x1
  cases i2 : isT l1 [46] with
  | true =>
   rw [if_pos i2] at hx; have s2 := s1.isT hr i2; have h3 := ic hr s2 d 1
   cases x3 : ec 1 l1.tail with
   | bad e q =>
    obtain rfl := bZ hx x3; obtain ⟨a', d'', eb⟩ := bJ h3 x3; refine ⟨a', d'', fun b Y hb => ?_⟩; have eb := eb hb; have e1 := aU h1 x1 hb; have e2 := aC (aE hr s1 d [46] (b := b)) (s := Y) hb; rw [mi]; obtain ⟨N, T, Lb, hN, hT, hL⟩ := lens3 Y; rw [hN] at hb
    conv => lhs; rw [← al (Y.af false b (pc ts l d))]
    simp only [pc, pcf, aT, Tok.c, br, aa, if_true, if_false, ae, cx, eP, i2] at e1 e2 eb ⊢
    generalize au ts = es at *
    simp [vG, hN, hT, hL, hb, e1, e2, eb, i2, Pl.enc, X.enc, fc, x0, fX]
   | ok t3 l3 =>
    have hx := cM hx x3
    try dsimp only at hx
    have s3 := bO h3 x3; obtain rfl := Option.some.inj hx; refine ⟨s3, fun b Y hb => ?_⟩; have e1 := aU h1 x1 hb; have e2 := aC (aE hr s1 d [46] (b := b)) (s := Y) hb; have e3 := aU h3 x3 hb; rw [mi]; obtain ⟨N, T, Lb, hN, hT, hL⟩ := lens3 Y; rw [hN] at hb
    conv => lhs; rw [← al (Y.af false b (pc ts l d))]
    simp only [pc, pcf, aT, Tok.c, br, aa, if_true, if_false, ae, cx, eP, i2] at e1 e2 e3 ⊢
    generalize au ts = es at *
    simp [vG, hN, hT, hL, hb, e1, e2, e3, i2, Pl.enc, X.enc, fc, x0, fX]
  | false =>
   rw [if_neg (by rw [i2]; decide)] at hx
   cases i4 : isT l1 [91] with
   | true =>
    rw [if_pos i4] at hx; have s4 := s1.isT hr i4; obtain ⟨y5, hy5⟩ := dP hx; rw [hy5] at hx; have h5 := la hr ih hd12 s4 hy5
    cases y5 with
    | bad e q =>
     obtain rfl := bZ hx rfl; obtain ⟨a', d'', eb⟩ := bJ h5 rfl; refine ⟨a', d'', fun b Y hb => ?_⟩; have eb := eb hb; have e1 := aU h1 x1 hb; have e2 := aC (aE hr s1 d [46] (b := b)) (s := Y) hb; have e4 := aC (aE hr s1 d [91] (b := b)) (s := Y) hb; rw [mi]; obtain ⟨N, T, Lb, hN, hT, hL⟩ := lens3 Y; rw [hN] at hb
     conv => lhs; rw [← al (Y.af false b (pc ts l d))]
     simp only [pc, pcf, aT, Tok.c, br, aa, if_true, if_false, ae, cx, eP, i2, i4] at e1 e2 e4 eb ⊢
     generalize au ts = es at *
     simp [vG, hN, hT, hL, hb, e1, e2, e4, eb, i2, i4, Pl.enc, X.enc, fc, x0, fX]
    | ok x5 l5 =>
     have hx := cM hx rfl
     try dsimp only at hx
     have s5 := bO h5 rfl; have h6 := eZ hr s5 d [93]
     cases x6 : cL [93] l5 with
     | bad e q =>
      obtain rfl := bZ hx x6; obtain ⟨a', d'', eb⟩ := bJ h6 x6; refine ⟨a', d'', fun b Y hb => ?_⟩; have eb := eb hb; have e1 := aU h1 x1 hb; have e2 := aC (aE hr s1 d [46] (b := b)) (s := Y) hb; have e4 := aC (aE hr s1 d [91] (b := b)) (s := Y) hb; have e5 := aU h5 rfl hb; rw [mi]; obtain ⟨N, T, Lb, hN, hT, hL⟩ := lens3 Y; rw [hN] at hb
      conv => lhs; rw [← al (Y.af false b (pc ts l d))]
      simp only [pc, pcf, aT, Tok.c, br, aa, if_true, if_false, ae, cx, eP, i2, i4] at e1 e2 e4 e5 eb ⊢; cases x5
      generalize au ts = es at *
      simp [vG, hN, hT, hL, hb, e1, e2, e4, e5, eb, i2, i4, Pl.enc, X.enc, fc, x0, fX]
     | ok u6 l6 =>
      have hx := cM hx x6
      try dsimp only at hx
      have s6 := bO h6 x6; obtain rfl := Option.some.inj hx; refine ⟨s6, fun b Y hb => ?_⟩; have e1 := aU h1 x1 hb; have e2 := aC (aE hr s1 d [46] (b := b)) (s := Y) hb; have e4 := aC (aE hr s1 d [91] (b := b)) (s := Y) hb; have e5 := aU h5 rfl hb; have e6 := aU h6 x6 hb; rw [mi]; obtain ⟨N, T, Lb, hN, hT, hL⟩ := lens3 Y; rw [hN] at hb
      conv => lhs; rw [← al (Y.af false b (pc ts l d))]
      simp only [pc, pcf, aT, Tok.c, br, aa, if_true, if_false, ae, cx, eP, i2, i4] at e1 e2 e4 e5 e6 ⊢; cases x5
      generalize au ts = es at *
      simp [vG, hN, hT, hL, hb, e1, e2, e4, e5, e6, i2, i4, Pl.enc, X.enc, fc, x0, fX]
   | false =>
    rw [if_neg (by rw [i4]; decide)] at hx; obtain rfl := Option.some.inj hx; refine ⟨s1, fun b Y hb => ?_⟩; have e1 := aU h1 x1 hb; have e2 := aC (aE hr s1 d [46] (b := b)) (s := Y) hb; have e4 := aC (aE hr s1 d [91] (b := b)) (s := Y) hb; rw [mi]; obtain ⟨N, T, Lb, hN, hT, hL⟩ := lens3 Y; rw [hN] at hb
    conv => lhs; rw [← al (Y.af false b (pc ts l d))]
    simp only [pc, pcf, aT, Tok.c, br, aa, if_true, if_false, ae, cx, eP, i2, i4] at e1 e2 e4 ⊢
    generalize au ts = es at *
    simp [vG, hN, hT, hL, hb, e1, e2, e4, i2, i4, Pl.enc, X.enc, fc, x0, fX]
theorem qM {ts : List Tok} (hr : Row ts) {n : Nat} (ih : mX ts n) {d : Nat} {l : List Tok} {x : PR Rt} (hd12 : d ≤ 12) (h : Sfx ts l) (hx : gY n d l = some x) : Rd 155 [] ts d d l fa x := by
 have e67 := fun b (Y : St) hb => aC (eg h d 0 0 0 (b := b)) (s := Y) hb
 simp only [gY] at hx
 cases i1 : isT l [108, 111, 97, 100] with
 | true =>
  rw [if_pos i1] at hx; have s1 := h.isT hr i1; obtain ⟨y2, hy2⟩ := dP hx; rw [hy2] at hx; have h2 := ug hr ih hd12 s1 hy2
  cases y2 with
  | bad e q =>
   obtain rfl := bZ hx rfl; obtain ⟨a', d'', eb⟩ := bJ h2 rfl; refine ⟨a', d'', fun b Y hb => ?_⟩; have eb := eb hb; have e67 := e67 b Y hb; have e1 := aC (aE hr h d [108, 111, 97, 100] (b := b)) (s := Y) hb; rw [jr]; obtain ⟨N, T, Lb, hN, hT, hL⟩ := lens3 Y; rw [hN] at hb
   conv => lhs; rw [← al (Y.af false b (pc ts l d))]
   simp only [pc, pcf, aT, Tok.c, br, aa, if_true, if_false, ae, cx, eP, fa, i1] at e67 e1 eb ⊢
   generalize au ts = es at *
   simp [rN, hN, hT, hL, hb, e67, e1, eb, i1, Rt.enc, Pl.enc, X.enc, fc, x0, pl0, fX]
  | ok p2 l2 =>
   have hx := cM hx rfl
   try dsimp only at hx
   have s2 := bO h2 rfl; obtain rfl := Option.some.inj hx; refine ⟨s2, fun b Y hb => ?_⟩; have e67 := e67 b Y hb; have e1 := aC (aE hr h d [108, 111, 97, 100] (b := b)) (s := Y) hb; have e2 := aU h2 rfl hb; rw [jr]; obtain ⟨N, T, Lb, hN, hT, hL⟩ := lens3 Y; rw [hN] at hb
   conv => lhs; rw [← al (Y.af false b (pc ts l d))]
   simp only [pc, pcf, aT, Tok.c, br, aa, if_true, if_false, ae, cx, eP, fa, i1] at e67 e1 e2 ⊢; obtain ⟨_, _, _, ⟨⟩, _, _⟩ := p2
   generalize au ts = es at *
   simp [rN, hN, hT, hL, hb, e67, e1, e2, i1, Rt.enc, Pl.enc, X.enc, fc, x0, pl0, fX]
 | false =>
  rw [if_neg (by rw [i1]; decide)] at hx
  cases i3 : isT l [115, 105, 122, 101] with
  | true =>
   rw [if_pos i3] at hx; have s3 := h.isT hr i3; have h4 := ic hr s3 d 1
   cases x4 : ec 1 l.tail with
   | bad e q =>
    obtain rfl := bZ hx x4; obtain ⟨a', d'', eb⟩ := bJ h4 x4; refine ⟨a', d'', fun b Y hb => ?_⟩; have eb := eb hb; have e67 := e67 b Y hb; have e1 := aC (aE hr h d [108, 111, 97, 100] (b := b)) (s := Y) hb; have e3 := aC (aE hr h d [115, 105, 122, 101] (b := b)) (s := Y) hb; rw [jr]; obtain ⟨N, T, Lb, hN, hT, hL⟩ := lens3 Y; rw [hN] at hb
    conv => lhs; rw [← al (Y.af false b (pc ts l d))]
    simp only [pc, pcf, aT, Tok.c, br, aa, if_true, if_false, ae, cx, eP, fa, i1, i3] at e67 e1 e3 eb ⊢
    generalize au ts = es at *
    simp [rN, hN, hT, hL, hb, e67, e1, e3, eb, i1, i3, Rt.enc, Pl.enc, X.enc, fc, x0, pl0, fX]
   | ok t4 l4 =>
    have hx := cM hx x4
    try dsimp only at hx
    have s4 := bO h4 x4; obtain rfl := Option.some.inj hx; refine ⟨s4, fun b Y hb => ?_⟩; have e67 := e67 b Y hb; have e1 := aC (aE hr h d [108, 111, 97, 100] (b := b)) (s := Y) hb; have e3 := aC (aE hr h d [115, 105, 122, 101] (b := b)) (s := Y) hb; have e4 := aU h4 x4 hb; rw [jr]; obtain ⟨N, T, Lb, hN, hT, hL⟩ := lens3 Y; rw [hN] at hb
    conv => lhs; rw [← al (Y.af false b (pc ts l d))]
    simp only [pc, pcf, aT, Tok.c, br, aa, if_true, if_false, ae, cx, eP, fa, i1, i3] at e67 e1 e3 e4 ⊢
    generalize au ts = es at *
    simp [rN, hN, hT, hL, hb, e67, e1, e3, e4, i1, i3, Rt.enc, Pl.enc, X.enc, fc, x0, pl0, fX]
  | false =>
   rw [if_neg (by rw [i3]; decide)] at hx
   cases i5 : isT l [110, 101, 119] with
   | true =>
    rw [if_pos i5] at hx; have s5 := h.isT hr i5
    cases i6 : isT l.tail [105, 110, 116, 115] with
    | true =>
     rw [if_pos i6] at hx; have s6 := s5.isT hr i6; obtain ⟨y7, hy7⟩ := dP hx; rw [hy7] at hx; have h7 := la hr ih hd12 s6 hy7
     cases y7 with
     | bad e q =>
      obtain rfl := bZ hx rfl; obtain ⟨a', d'', eb⟩ := bJ h7 rfl; refine ⟨a', d'', fun b Y hb => ?_⟩; have eb := eb hb; have e67 := e67 b Y hb; have e1 := aC (aE hr h d [108, 111, 97, 100] (b := b)) (s := Y) hb; have e3 := aC (aE hr h d [115, 105, 122, 101] (b := b)) (s := Y) hb; have e5 := aC (aE hr h d [110, 101, 119] (b := b)) (s := Y) hb; have e6 := aC (aE hr s5 d [105, 110, 116, 115] (b := b)) (s := Y) hb; rw [jr]; obtain ⟨N, T, Lb, hN, hT, hL⟩ := lens3 Y; rw [hN] at hb
      conv => lhs; rw [← al (Y.af false b (pc ts l d))]
      simp only [pc, pcf, aT, Tok.c, br, aa, if_true, if_false, ae, cx, eP, fa, i1, i3, i5, i6] at e67 e1 e3 e5 e6 eb ⊢
      generalize au ts = es at *
      simp [rN, hN, hT, hL, hb, e67, e1, e3, e5, e6, eb, i1, i3, i5, i6, Rt.enc, Pl.enc, X.enc, fc, x0, pl0, fX]
     | ok x7 l7 =>
      have hx := cM hx rfl
      try dsimp only at hx
      have s7 := bO h7 rfl; obtain rfl := Option.some.inj hx; refine ⟨s7, fun b Y hb => ?_⟩; have e67 := e67 b Y hb; have e1 := aC (aE hr h d [108, 111, 97, 100] (b := b)) (s := Y) hb; have e3 := aC (aE hr h d [115, 105, 122, 101] (b := b)) (s := Y) hb; have e5 := aC (aE hr h d [110, 101, 119] (b := b)) (s := Y) hb; have e6 := aC (aE hr s5 d [105, 110, 116, 115] (b := b)) (s := Y) hb; have e7 := aU h7 rfl hb; rw [jr]; obtain ⟨N, T, Lb, hN, hT, hL⟩ := lens3 Y; rw [hN] at hb
      conv => lhs; rw [← al (Y.af false b (pc ts l d))]
      simp only [pc, pcf, aT, Tok.c, br, aa, if_true, if_false, ae, cx, eP, fa, i1, i3, i5, i6] at e67 e1 e3 e5 e6 e7 ⊢; cases x7
      generalize au ts = es at *
      simp [rN, hN, hT, hL, hb, e67, e1, e3, e5, e6, e7, i1, i3, i5, i6, Rt.enc, Pl.enc, X.enc, fc, x0, pl0, fX]
    | false =>
     rw [if_neg (by rw [i6]; decide)] at hx; have h8 := ic hr s5 d 1
     cases x8 : ec 1 l.tail with
     | bad e q =>
      obtain rfl := bZ hx x8; obtain ⟨a', d'', eb⟩ := bJ h8 x8; refine ⟨a', d'', fun b Y hb => ?_⟩; have eb := eb hb; have e67 := e67 b Y hb; have e1 := aC (aE hr h d [108, 111, 97, 100] (b := b)) (s := Y) hb; have e3 := aC (aE hr h d [115, 105, 122, 101] (b := b)) (s := Y) hb; have e5 := aC (aE hr h d [110, 101, 119] (b := b)) (s := Y) hb; have e6 := aC (aE hr s5 d [105, 110, 116, 115] (b := b)) (s := Y) hb; rw [jr]; obtain ⟨N, T, Lb, hN, hT, hL⟩ := lens3 Y; rw [hN] at hb
      conv => lhs; rw [← al (Y.af false b (pc ts l d))]
      simp only [pc, pcf, aT, Tok.c, br, aa, if_true, if_false, ae, cx, eP, fa, i1, i3, i5, i6] at e67 e1 e3 e5 e6 eb ⊢
      generalize au ts = es at *
      simp [rN, hN, hT, hL, hb, e67, e1, e3, e5, e6, eb, i1, i3, i5, i6, Rt.enc, Pl.enc, X.enc, fc, x0, pl0, fX]
     | ok t8 l8 =>
      have hx := cM hx x8
      try dsimp only at hx
      have s8 := bO h8 x8; obtain rfl := Option.some.inj hx; refine ⟨s8, fun b Y hb => ?_⟩; have e67 := e67 b Y hb; have e1 := aC (aE hr h d [108, 111, 97, 100] (b := b)) (s := Y) hb; have e3 := aC (aE hr h d [115, 105, 122, 101] (b := b)) (s := Y) hb; have e5 := aC (aE hr h d [110, 101, 119] (b := b)) (s := Y) hb; have e6 := aC (aE hr s5 d [105, 110, 116, 115] (b := b)) (s := Y) hb; have e8 := aU h8 x8 hb; rw [jr]; obtain ⟨N, T, Lb, hN, hT, hL⟩ := lens3 Y; rw [hN] at hb
      conv => lhs; rw [← al (Y.af false b (pc ts l d))]
      simp only [pc, pcf, aT, Tok.c, br, aa, if_true, if_false, ae, cx, eP, fa, i1, i3, i5, i6] at e67 e1 e3 e5 e6 e8 ⊢
      generalize au ts = es at *
      simp [rN, hN, hT, hL, hb, e67, e1, e3, e5, e6, e8, i1, i3, i5, i6, Rt.enc, Pl.enc, X.enc, fc, x0, pl0, fX]
   | false =>
    rw [if_neg (by rw [i5]; decide)] at hx; obtain ⟨y9, hy9⟩ := dP hx; rw [hy9] at hx; have h9 := la hr ih hd12 h hy9
    cases y9 with
    | bad e q =>
     obtain rfl := bZ hx rfl; obtain ⟨a', d'', eb⟩ := bJ h9 rfl; refine ⟨a', d'', fun b Y hb => ?_⟩; have eb := eb hb; have e67 := e67 b Y hb; have e1 := aC (aE hr h d [108, 111, 97, 100] (b := b)) (s := Y) hb; have e3 := aC (aE hr h d [115, 105, 122, 101] (b := b)) (s := Y) hb; have e5 := aC (aE hr h d [110, 101, 119] (b := b)) (s := Y) hb; rw [jr]; obtain ⟨N, T, Lb, hN, hT, hL⟩ := lens3 Y; rw [hN] at hb
     conv => lhs; rw [← al (Y.af false b (pc ts l d))]
     simp only [pc, pcf, aT, Tok.c, br, aa, if_true, if_false, ae, cx, eP, fa, i1, i3, i5] at e67 e1 e3 e5 eb ⊢
     generalize au ts = es at *
     simp [rN, hN, hT, hL, hb, e67, e1, e3, e5, eb, i1, i3, i5, Rt.enc, Pl.enc, X.enc, fc, x0, pl0, fX]
    | ok x9 l9 =>
     have hx := cM hx rfl
     try dsimp only at hx
     have s9 := bO h9 rfl; obtain rfl := Option.some.inj hx; refine ⟨s9, fun b Y hb => ?_⟩; have e67 := e67 b Y hb; have e1 := aC (aE hr h d [108, 111, 97, 100] (b := b)) (s := Y) hb; have e3 := aC (aE hr h d [115, 105, 122, 101] (b := b)) (s := Y) hb; have e5 := aC (aE hr h d [110, 101, 119] (b := b)) (s := Y) hb; have e9 := aU h9 rfl hb; rw [jr]; obtain ⟨N, T, Lb, hN, hT, hL⟩ := lens3 Y; rw [hN] at hb
     conv => lhs; rw [← al (Y.af false b (pc ts l d))]
     simp only [pc, pcf, aT, Tok.c, br, aa, if_true, if_false, ae, cx, eP, fa, i1, i3, i5] at e67 e1 e3 e5 e9 ⊢; cases x9
     generalize au ts = es at *
     simp [rN, hN, hT, hL, hb, e67, e1, e3, e5, e9, i1, i3, i5, Rt.enc, Pl.enc, X.enc, fc, x0, pl0, fX]
end Go.Proofs.YtlhlijaondmccaaGreatDoor.S
namespace Go.Proofs.YtlhlijaondmccaaGreatDoor.S
open Go Go.AM Go.Proofs
def gz (o : Int) (nm : ByteArray) (rt pl e : List PV) (n : Int) (ar : List (List PV)) (ca : Cap) (bo : List (List PV)) (cb : Cap) (el : List (List PV)) (ce : Cap) (ln cl : Int) : List PV :=
 .v (.int .i64 o) :: .v (.string nm) :: (rt ++ (pl ++ (e ++ [.v (.int .i64 n), .sl ar ca, .sl bo cb, .sl el ce, .v (.int .i64 ln), .v (.int .i64 cl)])))
def y9 : List PV := z9
def y14 : List PV := [.v (.int .i64 0), str [], str []] ++ z9 ++ [.v (.int .i64 0), .v (.int .i64 0)]
def y27 : List PV := [.v (.int .i64 0)] ++ z9 ++ y14 ++ [str [], .v (.int .i64 0), .v (.int .i64 0)]
def y58 (ln cl : Int) : List PV := gz 0 (bs []) y27 y14 y9 0 [] .nil [] .nil [] .nil ln cl
theorem DJ : y9.length = 9 := by decide
theorem Ai : y14.length = 14 := by decide
theorem Al : y27.length = 27 := by decide
theorem DK : aG y9 = true := by decide
theorem Aj : aG y14 = true := by decide
theorem Am : aG y27 = true := by decide
theorem F7 : y9.all dL = true := by decide
theorem DG : y14.all dL = true := by decide
theorem DH : y27.all dL = true := by decide
theorem DI : y9.map bU = x0.enc := by rw [X.eL]; rfl
theorem Ah : y14.map bU = pl0.enc := by rw [Pl.enc, X.eL]; rfl
theorem Ak : y27.map bU = rt0.enc := by rw [Rt.enc, Pl.enc, X.eL, X.eL]; rfl
theorem yF : [PV.v (.int .i64 0), .v (.string (bs [])), .v (.int .i64 0), .v (.int .i64 0), .v (.int .i64 0), .v (.int .u64 0), .v (.int .i64 0), .v (.string (bs [])), .v (.string (bs [])), .sl [] .nil, .v (.int .i64 0), .v (.int .i64 0), .v (.int .i64 0), .v (.string (bs [])), .v (.string (bs [])), .v (.int .i64 0), .v (.int .i64 0), .v (.int .u64 0), .v (.int .i64 0), .v (.string (bs [])), .v (.string (bs [])), .sl [] .nil, .v (.int .i64 0), .v (.int .i64 0), .v (.int .i64 0), .v (.int .i64 0), .v (.string (bs [])), .v (.int .i64 0), .v (.int .i64 0), .v (.int .i64 0), .v (.string (bs [])), .v (.string (bs [])), .v (.int .i64 0), .v (.int .i64 0), .v (.int .u64 0), .v (.int .i64 0), .v (.string (bs [])), .v (.string (bs [])), .sl [] .nil, .v (.int .i64 0), .v (.int .i64 0), .v (.int .i64 0), .v (.int .i64 0), .v (.int .i64 0), .v (.int .i64 0), .v (.int .u64 0), .v (.int .i64 0), .v (.string (bs [])), .v (.string (bs [])), .sl [] .nil, .v (.int .i64 0), .v (.int .i64 0), .v (.int .i64 0), .sl [] .nil, .sl [] .nil, .sl [] .nil, .v (.int .i64 0), .v (.int .i64 0)] = y58 0 0 := rfl
theorem An (a b : Int) : aW [(0, 1), (1, 1), (2, 27), (29, 14), (43, 9), (52, 1), (53, 1), (54, 1), (55, 1), (56, 1), (57, 1)] (y58 0 0) [(9, .v (.int .i64 a)), (10, .v (.int .i64 b))] = some (.agg (gz 0 (bs []) y27 y14 y9 0 [] .nil [] .nil [] .nil a b)) := rfl
theorem Ap (a b : Int) : ((y58 0 0).set 56 (.v (.int .i64 a))).set 57 (.v (.int .i64 b)) = gz 0 (bs []) y27 y14 y9 0 [] .nil [] .nil [] .nil a b := rfl
theorem Ao (a b : Int) : (y58 a b).length = 58 := rfl
theorem xv (a b : Int) (cs : List PV) (h : cs.length = 58) : laid (y58 a b) 0 cs = cs := jW _ _ (by rw [h]; rfl)
section
variable {o : Int} {nm : ByteArray} {rt pl e : List PV} {n : Int} {ar : List (List PV)} {ca : Cap} {bo : List (List PV)} {cb : Cap} {el : List (List PV)} {ce : Cap} {ln cl : Int}
theorem xG (h1 : rt.length = 27) (h2 : pl.length = 14) (h3 : e.length = 9) : (gz o nm rt pl e n ar ca bo cb el ce ln cl).length = 58 := by simp [gz, h1, h2, h3]
theorem yZ (a : Int) : (gz o nm rt pl e n ar ca bo cb el ce ln cl).set 0 (.v (.int .i64 a)) = gz a nm rt pl e n ar ca bo cb el ce ln cl := rfl
theorem za (a : ByteArray) : (gz o nm rt pl e n ar ca bo cb el ce ln cl).set 1 (.v (.string a)) = gz o a rt pl e n ar ca bo cb el ce ln cl := rfl
theorem uM (h1 : rt.length = 27) (h2 : pl.length = 14) (h3 : e.length = 9) (k : Nat) (v : PV) : (gz o nm rt pl e n ar ca bo cb el ce ln cl).set (52 + k) v =
 .v (.int .i64 o) :: .v (.string nm) :: (rt ++ (pl ++ (e ++ [.v (.int .i64 n), .sl ar ca, .sl bo cb, .sl el ce, .v (.int .i64 ln), .v (.int .i64 cl)].set k v))) := by
 unfold gz; rw [show 52 + k = (50 + k) + 1 + 1 by omega, List.set_cons_succ, List.set_cons_succ, List.set_append_right _ _ (by omega), List.set_append_right _ _ (by omega), List.set_append_right _ _ (by omega), show 50 + k - rt.length - pl.length - e.length = k by omega]
theorem vN (h1 : rt.length = 27) (h2 : pl.length = 14) (h3 : e.length = 9) (a : Int) : (gz o nm rt pl e n ar ca bo cb el ce ln cl).set 52 (.v (.int .i64 a)) = gz o nm rt pl e a ar ca bo cb el ce ln cl := uM h1 h2 h3 0 _
theorem vO (h1 : rt.length = 27) (h2 : pl.length = 14) (h3 : e.length = 9) (a : List (List PV)) (c : Cap) : (gz o nm rt pl e n ar ca bo cb el ce ln cl).set 53 (.sl a c) = gz o nm rt pl e n a c bo cb el ce ln cl := uM h1 h2 h3 1 _
theorem vP (h1 : rt.length = 27) (h2 : pl.length = 14) (h3 : e.length = 9) (a : List (List PV)) (c : Cap) : (gz o nm rt pl e n ar ca bo cb el ce ln cl).set 54 (.sl a c) = gz o nm rt pl e n ar ca a c el ce ln cl := uM h1 h2 h3 2 _
theorem vQ (h1 : rt.length = 27) (h2 : pl.length = 14) (h3 : e.length = 9) (a : List (List PV)) (c : Cap) : (gz o nm rt pl e n ar ca bo cb el ce ln cl).set 55 (.sl a c) = gz o nm rt pl e n ar ca bo cb a c ln cl := uM h1 h2 h3 3 _
theorem FM (h1 : rt.length = 27) (cs : List PV) (hc : cs.length = 27) : laid (gz o nm rt pl e n ar ca bo cb el ce ln cl) 2 cs = gz o nm cs pl e n ar ca bo cb el ce ln cl := by
 have := laidB [.v (.int .i64 o), .v (.string nm)] rt (pl ++ (e ++ [.v (.int .i64 n), .sl ar ca, .sl bo cb, .sl el ce, .v (.int .i64 ln), .v (.int .i64 cl)])) cs (by omega); simpa [gz] using this
theorem BW (h1 : rt.length = 27) (h2 : pl.length = 14) (cs : List PV) (hc : cs.length = 14) : laid (gz o nm rt pl e n ar ca bo cb el ce ln cl) 29 cs = gz o nm rt cs e n ar ca bo cb el ce ln cl := by
 have := laidB (.v (.int .i64 o) :: .v (.string nm) :: rt) pl (e ++ [.v (.int .i64 n), .sl ar ca, .sl bo cb, .sl el ce, .v (.int .i64 ln), .v (.int .i64 cl)]) cs (by omega); simpa [gz, h1] using this
theorem BX (h1 : rt.length = 27) (h2 : pl.length = 14) (h3 : e.length = 9) (cs : List PV) (hc : cs.length = 9) : laid (gz o nm rt pl e n ar ca bo cb el ce ln cl) 43 cs = gz o nm rt pl cs n ar ca bo cb el ce ln cl := by
 have := laidB (.v (.int .i64 o) :: .v (.string nm) :: (rt ++ pl)) e [.v (.int .i64 n), .sl ar ca, .sl bo cb, .sl el ce, .v (.int .i64 ln), .v (.int .i64 cl)] cs (by omega); simpa [gz, h1, h2] using this
theorem zb (h1 : rt.length = 27) (h2 : pl.length = 14) (h3 : e.length = 9) : (gz o nm rt pl e n ar ca bo cb el ce ln cl).take 58 = gz o nm rt pl e n ar ca bo cb el ce ln cl := List.take_of_length_le (by rw [xG h1 h2 h3]; omega)
theorem zP : ∀ (a b : List PV), aG (a ++ b) = (aG a && aG b)
 | [], b => rfl
 | x :: a, b => by
  have := zP a b
  cases x <;> first | exact this | rfl
theorem BY (h1 : aG rt = true) (h2 : aG pl = true) (h3 : aG e = true) : aG (gz o nm rt pl e n ar ca bo cb el ce ln cl) = true := by
 simp [gz, aG, zP, h1, h2, h3]
theorem FL (h1 : rt.all dL = true) (h2 : pl.all dL = true) (h3 : e.all dL = true) : (gz o nm rt pl e n ar ca bo cb el ce ln cl).all dL = true := by
 simp only [gz, bq, List.all_append, h1, h2, h3, bT]; rfl
theorem xH : (gz o nm rt pl e n ar ca bo cb el ce ln cl).map bU = gz o nm (rt.map bU) (pl.map bU) (e.map bU) n ar .dead bo .dead el .dead ln cl := by
 simp only [gz, aZ, List.map_append, bc]; rfl
theorem BV : ah (.agg (gz o nm rt pl e n ar ca bo cb el ce ln cl)) = .agg (gz o nm (rt.map bU) (pl.map bU) (e.map bU) n ar .dead bo .dead el .dead ln cl) := by
 rw [← xH]; rfl
end
theorem S.zk (op : Int) (name : ByteArray) (r : Rt) (p : Pl) (e : X) (n : Int) (args : List X) (body els : List S) (ln cl : Int) : S.enc ⟨op, name, r, p, e, n, args, body, els, ln, cl⟩ = gz op name r.enc p.enc e.enc n (fc args) .dead (fL body) .dead (fL els) .dead ln cl := by
 simp only [S.enc, gz, List.append_assoc, aA, bg]
end Go.Proofs.YtlhlijaondmccaaGreatDoor.S
namespace Go.Proofs.YtlhlijaondmccaaGreatDoor.S
open Go Go.AM Go.Proofs
attribute [local simp] cY cu bV bW cv dS fk dY dh dW dc dX de fj bX gU dR gW gK gE AM.ab aL aM aY aN ay AM.onG fK bF dF Ex.ba cond_true cond_false cU cT cS cR cQ cW cP cX cV dZ di dj cr cZ AM.du AM.cellsOf AM.ao bE beq_true dm ai aD bh bu bP decide_true decide_false bC bm bn bA bf aB az bg aA da db fg aw bB bj bM cw dQ dU cI eu ep set_set eD dA fE dB cF bG dz cE dy cD dx eC eE fA fB bK cq eo fw ed aV aR aF AM.aQ ah dt bU aZ bc aJ aI AM.part aO aK bY cg cf cn cn.eS AM.dL bq bT dJ fQ aV laid aG aW cj
attribute [-simp] ag
attribute [local congr] dK
abbrev eH (s : S) : PV := .agg s.enc
abbrev cJ (xs : List S) : PV := .sl (fL xs) .dead
abbrev fS (xs : List X) : PV := .sl (fc xs) .dead
abbrev fH (t : Tok) (name : ByteArray) : PV := .agg (gz 0 name rt0.enc pl0.enc x0.enc 0 [] .dead [] .dead [] .dead t.p.1 t.p.2)
theorem Ce (n : Int) : ia Tryz.prog 34 3 (.v (.int .u64 n)) = some (.v (.int .i64 (IntKind.i64.wrap n))) := by kernel_rfl
theorem S.take (x : S) : x.enc.take 58 = x.enc := List.take_of_length_le (by rw [S.len]; omega)
structure rO (ts : List Tok) (n : Nat) : Prop where
 blk : ∀ d l x, d ≤ 12 → Sfx ts l → en n d l = some x → Rd 73 [] ts d d l cJ x
 lp : ∀ d t name l x, d ≤ 12 → Sfx ts l → iB n d t name l = some x → Rd 153 [fH t name] ts d d l eH x
 st : ∀ d l x, d ≤ 12 → Sfx ts l → iC n d l = some x → Rd 124 [] ts d d l eH x
attribute [local simp] xG yZ za vN vO vP vQ FM BW BX zb BY FL xH BV yF An Ap Ao xv DJ Ai Al DK Aj Am F7 DG DH DI Ah Ak X.len Pl.len Rt.len X.okc Pl.okc Rt.okc X.fl Pl.fl Rt.fl X.ly Pl.ly Rt.ly S.zk S.len S.okc S.fl S.ly S.can S.take fX qy Ce fc fL
section
variable {ts : List Tok} (hr : Row ts) {n : Nat} (ihe : mX ts n) (ih : rO ts n)
include hr ih
theorem Fa (d : Nat) (t : Tok) (name : ByteArray) (l : List Tok) (x : PR S) (hd12 : d ≤ 12) (h : Sfx ts l) (hx : iB (n + 1) d t name l = some x) : Rd 153 [fH t name] ts d d l eH x := by
 simp only [iB] at hx; have h1 := ic hr h d 3
 cases x1 : ec 3 l with
 | bad e q =>
  obtain rfl := bZ hx x1; obtain ⟨a', d'', eb⟩ := bJ h1 x1; refine ⟨a', d'', fun b Y hb => ?_⟩; have eb := eb hb; rw [uF]; obtain ⟨N, T, Lb, hN, hT, hL⟩ := lens3 Y; rw [hN] at hb
  conv => lhs; rw [← al (Y.af false b (pc ts l d))]
  simp only [pc, pcf, aT, Tok.c, br, aa, if_true, if_false, ae, cx, eP, fa, eH, cJ, fH] at eb ⊢
  generalize au ts = es at *
  simp (maxDischargeDepth := 8) [Er, hN, hT, hL, hb, eb]
 | ok u1 l1 =>
  have hx := cM hx x1
  try dsimp only at hx
  have s1 := bO h1 x1; obtain ⟨y2, hy2⟩ := dP hx; rw [hy2] at hx; have h2 := ih.blk _ _ _ hd12 s1 hy2
  cases y2 with
  | bad e q =>
   obtain rfl := bZ hx rfl; obtain ⟨a', d'', eb⟩ := bJ h2 rfl; refine ⟨a', d'', fun b Y hb => ?_⟩; have eb := eb hb; have e1 := aU h1 x1 hb; rw [uF]; obtain ⟨N, T, Lb, hN, hT, hL⟩ := lens3 Y; rw [hN] at hb
   conv => lhs; rw [← al (Y.af false b (pc ts l d))]
   simp only [pc, pcf, aT, Tok.c, br, aa, if_true, if_false, ae, cx, eP, fa, eH, cJ, fH] at e1 eb ⊢
   generalize au ts = es at *
   simp (maxDischargeDepth := 8) [Er, hN, hT, hL, hb, e1, eb]
  | ok b2 l2 =>
   have hx := cM hx rfl
   try dsimp only at hx
   have s2 := bO h2 rfl; obtain rfl := Option.some.inj hx; refine ⟨s2, fun b Y hb => ?_⟩; have e1 := aU h1 x1 hb; have e2 := aU h2 rfl hb; rw [uF]; obtain ⟨N, T, Lb, hN, hT, hL⟩ := lens3 Y; rw [hN] at hb
   conv => lhs; rw [← al (Y.af false b (pc ts l d))]
   simp only [pc, pcf, aT, Tok.c, br, aa, if_true, if_false, ae, cx, eP, fa, eH, cJ, fH] at e1 e2 ⊢
   generalize au ts = es at *
   simp (maxDischargeDepth := 8) [Er, hN, hT, hL, hb, e1, e2]
include ihe
theorem AB (d : Nat) (l : List Tok) (x : PR S) (hd12 : d ≤ 12) (h : Sfx ts l)
 (hx : (if isT (dq l) [58] then pb (some (cL [108, 111, 111, 112] (dq l).tail)) fun _ l1 => iB n d (hd l) (bs (hd l).text) l1
  else pb (some (cL [61] (dq l))) fun _ l1 => pb (gY n d l1) fun r l2 => fV (mkS (hd l) 3 (bs (hd l).text) r pl0 x0 0 [] [] []) l2) = some x) : Rd 152 [fH (hd l) (bs [])] ts d d l eH x := by
 have s0 := h.next hr
 have e151 := fun b (Y : St) hb => aC (lh hr h d (b := b)) (s := Y) hb
 cases i1 : isT (dq l) [58] with
 | true =>
  rw [if_pos i1] at hx; have s1 := s0.isT hr i1; have h2 := eZ hr s1 d [108, 111, 111, 112]
  cases x2 : cL [108, 111, 111, 112] (dq l).tail with
  | bad e q =>
   obtain rfl := bZ hx x2; obtain ⟨a', d'', eb⟩ := bJ h2 x2; refine ⟨a', d'', fun b Y hb => ?_⟩; have eb := eb hb; have e151 := e151 b Y hb; have e1 := aC (aE hr s0 d [58] (b := b)) (s := Y) hb; rw [mh]; obtain ⟨N, T, Lb, hN, hT, hL⟩ := lens3 Y; rw [hN] at hb
   conv => lhs; rw [← al (Y.af false b (pc ts l d))]
   simp only [pc, pcf, aT, Tok.c, br, aa, if_true, if_false, ae, cx, eP, fa, eH, cJ, fH, i1] at e151 e1 eb ⊢
   generalize au ts = es at *
   simp (maxDischargeDepth := 8) [vF, hN, hT, hL, hb, e151, e1, eb, i1]
  | ok u2 l2 =>
   have hx := cM hx x2
   try dsimp only at hx
   have s2 := bO h2 x2; have h3 := ih.lp _ _ _ _ _ hd12 s2 hx
   cases x with
   | bad e q =>
    obtain ⟨a', d'', eb⟩ := bJ h3 rfl; refine ⟨a', d'', fun b Y hb => ?_⟩; have eb := eb hb; have e151 := e151 b Y hb; have e1 := aC (aE hr s0 d [58] (b := b)) (s := Y) hb; have e2 := aU h2 x2 hb; rw [mh]; obtain ⟨N, T, Lb, hN, hT, hL⟩ := lens3 Y; rw [hN] at hb
    conv => lhs; rw [← al (Y.af false b (pc ts l d))]
    simp only [pc, pcf, aT, Tok.c, br, aa, if_true, if_false, ae, cx, eP, fa, eH, cJ, fH, i1] at e151 e1 e2 eb ⊢
    generalize au ts = es at *
    simp (maxDischargeDepth := 8) [vF, hN, hT, hL, hb, e151, e1, e2, eb, i1]
   | ok v3 l3 =>
    refine ⟨bO h3 rfl, fun b Y hb => ?_⟩; have e151 := e151 b Y hb; have e1 := aC (aE hr s0 d [58] (b := b)) (s := Y) hb; have e2 := aU h2 x2 hb; have e3 := aU h3 rfl hb; rw [mh]; obtain ⟨N, T, Lb, hN, hT, hL⟩ := lens3 Y; rw [hN] at hb
    conv => lhs; rw [← al (Y.af false b (pc ts l d))]
    simp only [pc, pcf, aT, Tok.c, br, aa, if_true, if_false, ae, cx, eP, fa, eH, cJ, fH, i1] at e151 e1 e2 e3 ⊢
    generalize au ts = es at *
    simp (maxDischargeDepth := 8) [vF, hN, hT, hL, hb, e151, e1, e2, e3, i1]
 | false =>
  rw [if_neg (by rw [i1]; decide)] at hx; have h4 := eZ hr s0 d [61]
  cases x4 : cL [61] (dq l) with
  | bad e q =>
   obtain rfl := bZ hx x4; obtain ⟨a', d'', eb⟩ := bJ h4 x4; refine ⟨a', d'', fun b Y hb => ?_⟩; have eb := eb hb; have e151 := e151 b Y hb; have e1 := aC (aE hr s0 d [58] (b := b)) (s := Y) hb; rw [mh]; obtain ⟨N, T, Lb, hN, hT, hL⟩ := lens3 Y; rw [hN] at hb
   conv => lhs; rw [← al (Y.af false b (pc ts l d))]
   simp only [pc, pcf, aT, Tok.c, br, aa, if_true, if_false, ae, cx, eP, fa, eH, cJ, fH, i1] at e151 e1 eb ⊢
   generalize au ts = es at *
   simp (maxDischargeDepth := 8) [vF, hN, hT, hL, hb, e151, e1, eb, i1]
  | ok u4 l4 =>
   have hx := cM hx x4
   try dsimp only at hx
   have s4 := bO h4 x4; obtain ⟨y5, hy5⟩ := dP hx; rw [hy5] at hx; have h5 := qM hr ihe hd12 s4 hy5
   cases y5 with
   | bad e q =>
    obtain rfl := bZ hx rfl; obtain ⟨a', d'', eb⟩ := bJ h5 rfl; refine ⟨a', d'', fun b Y hb => ?_⟩; have eb := eb hb; have e151 := e151 b Y hb; have e1 := aC (aE hr s0 d [58] (b := b)) (s := Y) hb; have e4 := aU h4 x4 hb; rw [mh]; obtain ⟨N, T, Lb, hN, hT, hL⟩ := lens3 Y; rw [hN] at hb
    conv => lhs; rw [← al (Y.af false b (pc ts l d))]
    simp only [pc, pcf, aT, Tok.c, br, aa, if_true, if_false, ae, cx, eP, fa, eH, cJ, fH, i1] at e151 e1 e4 eb ⊢
    generalize au ts = es at *
    simp (maxDischargeDepth := 8) [vF, hN, hT, hL, hb, e151, e1, e4, eb, i1]
   | ok r5 l5 =>
    have hx := cM hx rfl
    try dsimp only at hx
    have s5 := bO h5 rfl; unfold fV at hx; have h6 := eZ hr s5 d [59]
    cases x6 : cL [59] l5 with
    | bad e q =>
     obtain rfl := bZ hx x6; obtain ⟨a', d'', eb⟩ := bJ h6 x6; refine ⟨a', d'', fun b Y hb => ?_⟩; have eb := eb hb; have e151 := e151 b Y hb; have e1 := aC (aE hr s0 d [58] (b := b)) (s := Y) hb; have e4 := aU h4 x4 hb; have e5 := aU h5 rfl hb; rw [mh]; obtain ⟨N, T, Lb, hN, hT, hL⟩ := lens3 Y; rw [hN] at hb
     conv => lhs; rw [← al (Y.af false b (pc ts l d))]
     simp only [pc, pcf, aT, Tok.c, br, aa, if_true, if_false, ae, cx, eP, fa, eH, cJ, fH, i1] at e151 e1 e4 e5 eb ⊢
     generalize au ts = es at *
     simp (maxDischargeDepth := 8) [vF, hN, hT, hL, hb, e151, e1, e4, e5, eb, i1]
    | ok u6 l6 =>
     have hx := cM hx x6
     try dsimp only at hx
     have s6 := bO h6 x6; obtain rfl := Option.some.inj hx; refine ⟨s6, fun b Y hb => ?_⟩; have e151 := e151 b Y hb; have e1 := aC (aE hr s0 d [58] (b := b)) (s := Y) hb; have e4 := aU h4 x4 hb; have e5 := aU h5 rfl hb; have e6 := aU h6 x6 hb; rw [mh]; obtain ⟨N, T, Lb, hN, hT, hL⟩ := lens3 Y; rw [hN] at hb
     conv => lhs; rw [← al (Y.af false b (pc ts l d))]
     simp only [pc, pcf, aT, Tok.c, br, aa, if_true, if_false, ae, cx, eP, fa, eH, cJ, fH, i1] at e151 e1 e4 e5 e6 ⊢
     generalize au ts = es at *
     simp (maxDischargeDepth := 8) [vF, hN, hT, hL, hb, e151, e1, e4, e5, e6, i1]
theorem Az (d : Nat) (t : Tok) (l : List Tok) (x : PR S) (hd12 : d ≤ 12) (h : Sfx ts l)
 (hx : (pb (dG n 0 d l) fun e l1 => pb (en n d l1) fun b l2 =>
  (if isT l2 [101, 108, 115, 101] then pb (en n d l2.tail) fun c l3 => some (.ok (mkS t 6 (bs []) rt0 pl0 e 0 [] b c) l3) else some (.ok (mkS t 6 (bs []) rt0 pl0 e 0 [] b []) l2))) = some x) : Rd 154 [fH t (bs [])] ts d d l eH x := by
 obtain ⟨y1, hy1⟩ := dP hx; rw [hy1] at hx; have h1 := la hr ihe hd12 h hy1
 cases y1 with
 | bad e q =>
  obtain rfl := bZ hx rfl; obtain ⟨a', d'', eb⟩ := bJ h1 rfl; refine ⟨a', d'', fun b Y hb => ?_⟩; have eb := eb hb; rw [o8]; obtain ⟨N, T, Lb, hN, hT, hL⟩ := lens3 Y; rw [hN] at hb
  conv => lhs; rw [← al (Y.af false b (pc ts l d))]
  simp only [pc, pcf, aT, Tok.c, br, aa, if_true, if_false, ae, cx, eP, fa, eH, cJ, fH] at eb ⊢
  generalize au ts = es at *
  simp (maxDischargeDepth := 8) [As, hN, hT, hL, hb, eb]
 | ok x1 l1 =>
  have hx := cM hx rfl
  try dsimp only at hx
  have s1 := bO h1 rfl; obtain ⟨y2, hy2⟩ := dP hx; rw [hy2] at hx; have h2 := ih.blk _ _ _ hd12 s1 hy2
  cases y2 with
  | bad e q =>
   obtain rfl := bZ hx rfl; obtain ⟨a', d'', eb⟩ := bJ h2 rfl; refine ⟨a', d'', fun b Y hb => ?_⟩; have eb := eb hb; have e1 := aU h1 rfl hb; rw [o8]; obtain ⟨N, T, Lb, hN, hT, hL⟩ := lens3 Y; rw [hN] at hb
   conv => lhs; rw [← al (Y.af false b (pc ts l d))]
   simp only [pc, pcf, aT, Tok.c, br, aa, if_true, if_false, ae, cx, eP, fa, eH, cJ, fH] at e1 eb ⊢
   generalize au ts = es at *
   simp (maxDischargeDepth := 8) [As, hN, hT, hL, hb, e1, eb]
  | ok b2 l2 =>
   have hx := cM hx rfl
   try dsimp only at hx
   have s2 := bO h2 rfl
   cases i3 : isT l2 [101, 108, 115, 101] with
   | true =>
    rw [if_pos i3] at hx; have s3 := s2.isT hr i3; obtain ⟨y4, hy4⟩ := dP hx; rw [hy4] at hx; have h4 := ih.blk _ _ _ hd12 s3 hy4
    cases y4 with
    | bad e q =>
     obtain rfl := bZ hx rfl; obtain ⟨a', d'', eb⟩ := bJ h4 rfl; refine ⟨a', d'', fun b Y hb => ?_⟩; have eb := eb hb; have e1 := aU h1 rfl hb; have e2 := aU h2 rfl hb; have e3 := aC (aE hr s2 d [101, 108, 115, 101] (b := b)) (s := Y) hb; rw [o8]; obtain ⟨N, T, Lb, hN, hT, hL⟩ := lens3 Y; rw [hN] at hb
     conv => lhs; rw [← al (Y.af false b (pc ts l d))]
     simp only [pc, pcf, aT, Tok.c, br, aa, if_true, if_false, ae, cx, eP, fa, eH, cJ, fH, i3] at e1 e2 e3 eb ⊢
     generalize au ts = es at *
     simp (maxDischargeDepth := 8) [As, hN, hT, hL, hb, e1, e2, e3, eb, i3]
    | ok b4 l4 =>
     have hx := cM hx rfl
     try dsimp only at hx
     have s4 := bO h4 rfl; obtain rfl := Option.some.inj hx; refine ⟨s4, fun b Y hb => ?_⟩; have e1 := aU h1 rfl hb; have e2 := aU h2 rfl hb; have e3 := aC (aE hr s2 d [101, 108, 115, 101] (b := b)) (s := Y) hb; have e4 := aU h4 rfl hb; rw [o8]; obtain ⟨N, T, Lb, hN, hT, hL⟩ := lens3 Y; rw [hN] at hb
     conv => lhs; rw [← al (Y.af false b (pc ts l d))]
     simp only [pc, pcf, aT, Tok.c, br, aa, if_true, if_false, ae, cx, eP, fa, eH, cJ, fH, i3] at e1 e2 e3 e4 ⊢
     generalize au ts = es at *
     simp (maxDischargeDepth := 8) [As, hN, hT, hL, hb, e1, e2, e3, e4, i3]
   | false =>
    rw [if_neg (by rw [i3]; decide)] at hx; obtain rfl := Option.some.inj hx; refine ⟨s2, fun b Y hb => ?_⟩; have e1 := aU h1 rfl hb; have e2 := aU h2 rfl hb; have e3 := aC (aE hr s2 d [101, 108, 115, 101] (b := b)) (s := Y) hb; rw [o8]; obtain ⟨N, T, Lb, hN, hT, hL⟩ := lens3 Y; rw [hN] at hb
    conv => lhs; rw [← al (Y.af false b (pc ts l d))]
    simp only [pc, pcf, aT, Tok.c, br, aa, if_true, if_false, ae, cx, eP, fa, eH, cJ, fH, i3] at e1 e2 e3 ⊢
    generalize au ts = es at *
    simp (maxDischargeDepth := 8) [As, hN, hT, hL, hb, e1, e2, e3, i3]
end
end Go.Proofs.YtlhlijaondmccaaGreatDoor.S
namespace Go.Proofs.YtlhlijaondmccaaGreatDoor.S
open Go Go.AM Go.Proofs
def gZ (T : Nat) (tk : List (Nat × Nat)) (c : Cap) (n sz : Nat) : Prop := (c = .nil ∨ c = .full) ∨ ∃ j, c = .own .fr (T + j) n ∧ tk[j]? = some (n, sz)
theorem gZ.grow {T : Nat} {tk : List (Nat × Nat)} {c : Cap} {sz bytes : Nat} {es ys : List (List PV)} (h : gZ T tk c es.length sz) {b : Nat} {cs : List PV} {Y : St} (hT : Y.tk.length = T)
 (h1 : (es.length + ys.length) * bytes ≤ dO) (h2 : dm sz es = true) (h3 : dm sz ys = true) (h4 : sz ≠ 0) (h5 : bytes ≠ 0) :
 ∃ c' tk', (∀ (bl : List Blk) (lp : List Aux) (base : Nat) (z : List PV), dv base z sz bytes (.sl es c) ys ((Y.af false b cs).app bl tk lp) = some (.sl (es ++ ys) c', (Y.af false b cs).app bl tk' lp)) ∧ gZ T tk' c' (es ++ ys).length sz := by
 subst hT; exact po (s := Y.af false b cs) h h1 h2 h3 h4 h5
theorem FR {sz : Nat} {z cs cs' : List PV} (hz : z.length = sz) (hc : cs.length = sz) (hp : cC cs = some cs') (hc' : cs'.length = sz) : aX sz z 1 [(0, .agg cs)] = some (.sl [cs'] .full) := by
 have h1 : laid (gm 1 z) 0 cs = cs := by
  have := laidB [] z [] cs (by omega); simpa [gm] using this
 have h2 : dI (0 + sz) (gm 1 z).length = true := by simp [gm, hz]
 have h3 : aj cs.length sz = true := by rw [hc]; exact Nat.beq_refl _
 simp only [aX, jh, cj, AM.cellsOf, h3, Nat.zero_mul, h2, bn, cond_true, h1, ag, hp, chunks]; rw [List.take_of_length_le (by omega)]
theorem zl (l : List X) : dm 9 (fc l) = true := by rw [pE]; exact kP _ X.len l
theorem Cm (a b : List X) : fc (a ++ b) = fc a ++ fc b := by simp only [pE, List.map_append]
theorem xc (l : List S) : dm 58 (fL l) = true := by rw [oe]; exact kP _ S.len l
theorem Bd (a b : List S) : fL (a ++ b) = fL a ++ fL b := by simp only [oe, List.map_append]
attribute [local simp] cY cu bV bW cv dS fk dY dh dW dc dX de fj bX gU dR gW gK gE AM.ab aL aM aY aN ay AM.onG fK bF dF Ex.ba cond_true cond_false cU cT cS cR cQ cW cP cX cV dZ di dj cr cZ AM.du AM.cellsOf AM.ao bE beq_true dm ai aD bh bu bP decide_true decide_false bC bm bn bA bf aB az bg aA da db fg aw bB bj bM cw dQ dU cI eu ep set_set eD dA fE dB cF bG dz cE dy cD dx eC eE fA fB bK cq eo fw ed aV aR aF AM.aQ ah dt bU aZ bc aJ aI AM.part aO aK bY cg cf cn cn.eS AM.dL bq bT dJ fQ aV laid aG aW cj
attribute [-simp] ag
attribute [local congr] dK
def Hw (ts : List Tok) (d : Nat) (acc : List X) (l : List Tok) (x : PR (List X)) : Prop := match x with
 | .ok xs l' => Sfx ts l' ∧ ∀ b (Y : St), b < Y.stk.length → ∀ N T Lb, Y.stk.length = N → Y.tk.length = T → Y.lp.length = Lb → ∀ c tk q, gZ T tk c acc.length 9 → ∃ c' tk',
  itE (o9.b0 (E L) itE N Lb) [.ptr false b 0, q, .sl (fc acc) c] ((Y.af false b (pc ts l d)).app [] tk []) = some (.ret, [.ptr false b 0, .sl (fc xs) c', .sl (fc xs) c'], (Y.af false b (pc ts l' d)).app [] tk' [])
 | .bad er p => ∃ a' d'', ∀ b (Y : St), b < Y.stk.length → ∀ N T Lb, Y.stk.length = N → Y.tk.length = T → Y.lp.length = Lb → ∀ c tk q, gZ T tk c acc.length 9 → ∃ y z tk',
  itE (o9.b0 (E L) itE N Lb) [.ptr false b 0, q, .sl (fc acc) c] ((Y.af false b (pc ts l d)).app [] tk []) = some (.pan 108 (.agg #[]), [.ptr false b 0, y, z], (Y.af false b (pcf (au ts) a' d'' er p.1 p.2)).app [] tk' [])
section
variable {ts : List Tok} (hr : Row ts) {m : Nat} (ihe : mX ts m)
include hr ihe
theorem xF {d : Nat} (hd12 : d ≤ 12) : ∀ n acc l x, acc.length + n ≤ 1000000 → Sfx ts l → iH n m d acc l = some x → Hw ts d acc l x := by
 intro n
 induction n with
 | zero => intro acc l x _ _ hx; simp [iH] at hx
 | succ n ih =>
  intro acc l x hac h hx; simp only [iH] at hx; obtain ⟨y, hy⟩ := dP hx; rw [hy] at hx; have h1 := la hr ihe hd12 h hy
  cases y with
  | bad er q =>
   obtain rfl := bZ hx rfl; obtain ⟨a', d'', e1⟩ := bJ h1 rfl; refine ⟨a', d'', fun b Y hb N T Lb hN hT hL c tk q ho => ⟨q, .sl (fc acc) c, tk, ?_⟩⟩; have e1 := e1 hb; simp only [pc, pcf] at e1 ⊢
   generalize au ts = es at *
   apply jd; simp [o9.b0, hN, hT, hL, hb, e1]
  | ok e l1 =>
   have hx := cM hx rfl
   try dsimp only at hx
   have s1 := bO h1 rfl
   have own : ∀ (b : Nat) (Y : St) (T : Nat), Y.tk.length = T → ∀ c tk, gZ T tk c acc.length 9 → ∃ c' tk', (∀ (bl : List Blk) (lp : List Aux) (base : Nat) (z : List PV), dv base z 9 104 (.sl (fc acc) c) [e.enc] ((Y.af false b (pc ts l1 d)).app bl tk lp) = some (.sl (fc (acc ++ [e])) c', (Y.af false b (pc ts l1 d)).app bl tk' lp)) ∧ gZ T tk' c' (acc ++ [e]).length 9 := by
    intro b Y T hT c tk ho; rw [← nt] at ho; have := ho.grow (ys := [e.enc]) (bytes := 104) (b := b) (cs := pc ts l1 d) hT (by rw [nt, bz]; unfold dO; omega) (zl _) (by simpa [fc] using zl [e]) (by omega) (by omega); simpa [Cm, fc, nt] using this
   have hl := FR (sz := 9) (z := z9) rfl (X.len e) (X.pl e) (X.len e)
   cases i2 : isT l1 [41] with
   | true =>
    rw [if_pos i2] at hx; obtain rfl := Option.some.inj hx; refine ⟨s1.isT hr i2, fun b Y hb N T Lb hN hT hL c tk q ho => ?_⟩; obtain ⟨c', tk', ea, _⟩ := own b Y T hT c tk ho; refine ⟨c', tk', ?_⟩; have e1 := aU h1 rfl hb; have e2 := aC (aE hr s1 d [41] (b := b)) (s := Y) hb; simp only [pc, pcf, cx, i2, if_true] at e1 e2 ea ⊢
    generalize au ts = es at *
    apply eF; simp [o9.b0, hN, hT, hL, hb, e1, e2, hl, cm, ea, i2]
   | false =>
    rw [if_neg (by rw [i2]; decide)] at hx; have h3 := eZ hr s1 d [44]
    cases x3 : cL [44] l1 with
    | bad er q =>
     obtain rfl := bZ hx x3; obtain ⟨a', d'', eb⟩ := bJ h3 x3; refine ⟨a', d'', fun b Y hb N T Lb hN hT hL c tk q ho => ?_⟩; obtain ⟨c', tk', ea, _⟩ := own b Y T hT c tk ho; refine ⟨q, .sl (fc (acc ++ [e])) c', tk', ?_⟩; have e1 := aU h1 rfl hb; have e2 := aC (aE hr s1 d [41] (b := b)) (s := Y) hb; have eb := eb hb; simp only [pc, pcf, cx, aT, i2, if_false, ae] at e1 e2 ea eb ⊢
     generalize au ts = es at *
     apply jd; simp [o9.b0, hN, hT, hL, hb, e1, e2, hl, cm, ea, eb, i2]
    | ok u l3 =>
     have hx := cM hx x3
     try dsimp only at hx
     have s3 := bO h3 x3; have h4 := ih (acc ++ [e]) l3 x (by simp only [bH, bz]; omega) s3 hx
     have stp : ∀ b (Y : St), b < Y.stk.length → ∀ N T Lb, Y.stk.length = N → Y.tk.length = T → Y.lp.length = Lb → ∀ c tk q, gZ T tk c acc.length 9 → ∃ c' tk', gZ T tk' c' (acc ++ [e]).length 9 ∧
      o9.b0 (E L) itE N Lb [.ptr false b 0, q, .sl (fc acc) c] ((Y.af false b (pc ts l d)).app [] tk []) = some (.normal, [.ptr false b 0, q, .sl (fc (acc ++ [e])) c'], (Y.af false b (pc ts l3 d)).app [] tk' []) := by
      intro b Y hb N T Lb hN hT hL c tk q ho; obtain ⟨c', tk', ea, ho'⟩ := own b Y T hT c tk ho; refine ⟨c', tk', ho', ?_⟩; have e1 := aU h1 rfl hb; have e2 := aC (aE hr s1 d [41] (b := b)) (s := Y) hb; have e3 := aU h3 x3 hb; simp only [pc, pcf, cx, aT, i2, if_false, ae] at e1 e2 e3 ea ⊢
      generalize au ts = es at *
      simp [o9.b0, hN, hT, hL, hb, e1, e2, e3, hl, cm, ea, i2]
     cases x with
     | ok xs l' =>
      refine ⟨h4.1, fun b Y hb N T Lb hN hT hL c tk q ho => ?_⟩; obtain ⟨c1, tk1, ho1, hs⟩ := stp b Y hb N T Lb hN hT hL c tk q ho; obtain ⟨c', tk', hit⟩ := h4.2 b Y hb N T Lb hN hT hL c1 tk1 q ho1; exact ⟨c', tk', (bQ hs).trans hit⟩
     | bad er p =>
      obtain ⟨a', d'', h4⟩ := h4; refine ⟨a', d'', fun b Y hb N T Lb hN hT hL c tk q ho => ?_⟩; obtain ⟨c1, tk1, ho1, hs⟩ := stp b Y hb N T Lb hN hT hL c tk q ho; obtain ⟨y, z, tk', hit⟩ := h4 b Y hb N T Lb hN hT hL c1 tk1 q ho1; exact ⟨y, z, tk', (bQ hs).trans hit⟩
theorem EB {d : Nat} {l : List Tok} {x : PR (List X)} (hd12 : d ≤ 12) (hm : m ≤ 1000000) (h : Sfx ts l) (hx : qV m d l = some x) : Rd 159 [] ts d d l fS x := by
 unfold qV at hx; have h1 := eZ hr h d [40]
 cases x1 : cL [40] l with
 | bad e q =>
  obtain rfl := bZ hx x1; obtain ⟨a', d'', eb⟩ := bJ h1 x1; refine ⟨a', d'', fun b Y hb => ?_⟩; have eb := eb hb; rw [rB]; obtain ⟨N, T, Lb, hN, hT, hL⟩ := lens3 Y; rw [hN] at hb
  conv => lhs; rw [← al (Y.af false b (pc ts l d))]
  simp only [pc, pcf, aT] at eb ⊢
  generalize au ts = es at *
  simp [o9, hN, hT, hL, hb, eb]
 | ok u l1 =>
  have hx := cM hx x1
  try dsimp only at hx
  have s1 := bO h1 x1
  cases i2 : isT l1 [41] with
  | true =>
   rw [if_pos i2] at hx; obtain rfl := Option.some.inj hx; refine ⟨s1.isT hr i2, fun b Y hb => ?_⟩; have e1 := aU h1 x1 hb; have e2 := aC (aE hr s1 d [41] (b := b)) (s := Y) hb; rw [rB]; obtain ⟨N, T, Lb, hN, hT, hL⟩ := lens3 Y; rw [hN] at hb
   conv => lhs; rw [← al (Y.af false b (pc ts l d))]
   simp only [pc, pcf, aT, i2, if_true] at e1 e2 ⊢
   generalize au ts = es at *
   simp [o9, hN, hT, hL, hb, e1, e2, i2, fc]
  | false =>
   rw [if_neg (by rw [i2]; decide)] at hx; have h3 := xF hr ihe hd12 m [] l1 x (by simpa using hm) s1 hx
   cases x with
   | bad er q =>
    obtain ⟨a', d'', h3⟩ := h3; refine ⟨a', d'', fun b Y hb => ?_⟩; have e1 := aU h1 x1 hb; have e2 := aC (aE hr s1 d [41] (b := b)) (s := Y) hb; obtain ⟨y, z, tk', hit⟩ := h3 b Y hb _ _ _ rfl rfl rfl .nil [] (.sl [] .nil) (.inl (.inl rfl)); rw [rB]; obtain ⟨N, T, Lb, hN, hT, hL⟩ := lens3 Y; rw [hN] at hb; rw [hN] at hit
    conv => lhs; rw [← al (Y.af false b (pc ts l d))]
    rw [hL] at hit; simp only [pc, pcf, aT, fc, i2, if_false, ae] at e1 e2 hit ⊢
    generalize au ts = es at *
    simp [o9, hN, hT, hL, hb, e1, e2, i2, hit, Ex.ba]
   | ok xs l3 =>
    refine ⟨h3.1, fun b Y hb => ?_⟩; have e1 := aU h1 x1 hb; have e2 := aC (aE hr s1 d [41] (b := b)) (s := Y) hb; obtain ⟨c', tk', hit⟩ := h3.2 b Y hb _ _ _ rfl rfl rfl .nil [] (.sl [] .nil) (.inl (.inl rfl)); rw [rB]; obtain ⟨N, T, Lb, hN, hT, hL⟩ := lens3 Y; rw [hN] at hb; rw [hN] at hit
    conv => lhs; rw [← al (Y.af false b (pc ts l d))]
    rw [hL] at hit; simp only [pc, pcf, aT, fc, i2, if_false, ae] at e1 e2 hit ⊢
    generalize au ts = es at *
    simp [o9, hN, hT, hL, hb, e1, e2, i2, hit, Ex.ba]
end
end Go.Proofs.YtlhlijaondmccaaGreatDoor.S
namespace Go.Proofs.YtlhlijaondmccaaGreatDoor.S
open Go Go.AM Go.Proofs
attribute [local simp] cY cu bV bW cv dS fk dY dh dW dc dX de fj bX gU dR gW gK gE AM.ab aL aM aY aN ay AM.onG fK bF dF Ex.ba cond_true cond_false cU cT cS cR cQ cW cP cX cV dZ di dj cr cZ AM.du AM.cellsOf AM.ao bE beq_true dm ai aD bh bu bP decide_true decide_false bC bm bn bA bf aB az bg aA da db fg aw bB bj bM cw dQ dU cI eu ep set_set eD dA fE dB cF bG dz cE dy cD dx eC eE fA fB bK cq eo fw ed aV aR aF AM.aQ ah dt bU aZ bc aJ aI AM.part aO aK bY cg cf cn cn.eS AM.dL bq bT dJ fQ aV laid aG aW cj
attribute [-simp] ag
attribute [local congr] dK
def D4 (ts : List Tok) (d : Nat) (acc : List S) (l : List Tok) (x : PR (List S)) : Prop := match x with
 | .ok xs l' => Sfx ts l' ∧ ∀ b (Y : St), b < Y.stk.length → ∀ N T Lb, Y.stk.length = N → Y.tk.length = T → Y.lp.length = Lb → ∀ c tk, gZ T tk c acc.length 58 → ∃ c' tk',
  itE (S73.b0 (E L) itE N Lb) [.ptr false b 0, .sl (fL acc) c] ((Y.af false b (pc ts l d)).app [] tk []) = some (.exit 0, [.ptr false b 0, .sl (fL xs) c'], (Y.af false b (pc ts l' d)).app [] tk' [])
 | .bad er p => ∃ a' d'', ∀ b (Y : St), b < Y.stk.length → ∀ N T Lb, Y.stk.length = N → Y.tk.length = T → Y.lp.length = Lb → ∀ c tk, gZ T tk c acc.length 58 → ∃ z tk',
  itE (S73.b0 (E L) itE N Lb) [.ptr false b 0, .sl (fL acc) c] ((Y.af false b (pc ts l d)).app [] tk []) = some (.pan 108 (.agg #[]), [.ptr false b 0, z], (Y.af false b (pcf (au ts) a' d'' er p.1 p.2)).app [] tk' [])
section
variable {ts : List Tok} (hr : Row ts) {n : Nat} (ih : rO ts n)
include hr ih
theorem Hh (ihr : ∀ d acc l x, d ≤ 12 → acc.length + n ≤ 1000000 → Sfx ts l → j9 n d acc l = some x → D4 ts d acc l x) :
 ∀ d acc l x, d ≤ 12 → acc.length + (n + 1) ≤ 1000000 → Sfx ts l → j9 (n + 1) d acc l = some x → D4 ts d acc l x := by
 intro d acc l x hd12 hac h hx; simp only [j9] at hx
 cases i1 : isT l [125] with
 | true =>
  rw [if_pos i1] at hx; obtain rfl := Option.some.inj hx; refine ⟨h.isT hr i1, fun b Y hb N T Lb hN hT hL c tk ho => ⟨c, tk, ?_⟩⟩; have e1 := aC (aE hr h d [125] (b := b)) (s := Y) hb; simp only [pc, pcf, i1, if_true] at e1 ⊢
  generalize au ts = es at *
  apply ft; simp [S73.b0, hN, hT, hL, hb, e1, i1]
 | false =>
  rw [if_neg (by rw [i1]; decide)] at hx; obtain ⟨y, hy⟩ := dP hx; rw [hy] at hx; have h2 := ih.st d l y hd12 h hy
  cases y with
  | bad er q =>
   obtain rfl := bZ hx rfl; obtain ⟨a', d'', eb⟩ := bJ h2 rfl; refine ⟨a', d'', fun b Y hb N T Lb hN hT hL c tk ho => ⟨.sl (fL acc) c, tk, ?_⟩⟩; have e1 := aC (aE hr h d [125] (b := b)) (s := Y) hb; have eb := eb hb; simp only [pc, pcf, eH, i1, if_false, ae] at e1 eb ⊢
   generalize au ts = es at *
   apply jd; simp [S73.b0, hN, hT, hL, hb, e1, eb, i1]
  | ok s l1 =>
   have hx := cM hx rfl
   try dsimp only at hx
   have s1 := bO h2 rfl
   have own : ∀ (b : Nat) (Y : St) (T : Nat), Y.tk.length = T → ∀ c tk, gZ T tk c acc.length 58 → ∃ c' tk', (∀ (bl : List Blk) (lp : List Aux) (base : Nat) (z : List PV), dv base z 58 688 (.sl (fL acc) c) [s.enc] ((Y.af false b (pc ts l1 d)).app bl tk lp) = some (.sl (fL (acc ++ [s])) c', (Y.af false b (pc ts l1 d)).app bl tk' lp)) ∧ gZ T tk' c' (acc ++ [s]).length 58 := by
    intro b Y T hT c tk ho; rw [← mK] at ho; have := ho.grow (ys := [s.enc]) (bytes := 688) (b := b) (cs := pc ts l1 d) hT (by rw [mK, bz]; unfold dO; omega) (xc _) (by simpa [fL] using xc [s]) (by omega) (by omega); simpa [Bd, fL, mK] using this
   have hl := FR (sz := 58) (z := y58 0 0) rfl (S.len s) (S.pl s) (S.len s); have h4 := ihr d (acc ++ [s]) l1 x hd12 (by simp only [bH, bz]; omega) s1 hx
   have stp : ∀ b (Y : St), b < Y.stk.length → ∀ N T Lb, Y.stk.length = N → Y.tk.length = T → Y.lp.length = Lb → ∀ c tk, gZ T tk c acc.length 58 → ∃ c' tk', gZ T tk' c' (acc ++ [s]).length 58 ∧
    S73.b0 (E L) itE N Lb [.ptr false b 0, .sl (fL acc) c] ((Y.af false b (pc ts l d)).app [] tk []) = some (.normal, [.ptr false b 0, .sl (fL (acc ++ [s])) c'], (Y.af false b (pc ts l1 d)).app [] tk' []) := by
    intro b Y hb N T Lb hN hT hL c tk ho; obtain ⟨c', tk', ea, ho'⟩ := own b Y T hT c tk ho; refine ⟨c', tk', ho', ?_⟩; have e1 := aC (aE hr h d [125] (b := b)) (s := Y) hb; have e2 := aU h2 rfl hb; simp only [pc, pcf, eH, i1, if_false, ae] at e1 e2 ea ⊢
    generalize au ts = es at *
    simp [S73.b0, hN, hT, hL, hb, e1, e2, yF, hl, cm, ea, i1]
   cases x with
   | ok xs l' =>
    refine ⟨h4.1, fun b Y hb N T Lb hN hT hL c tk ho => ?_⟩; obtain ⟨c1, tk1, ho1, hs⟩ := stp b Y hb N T Lb hN hT hL c tk ho; obtain ⟨c', tk', hit⟩ := h4.2 b Y hb N T Lb hN hT hL c1 tk1 ho1; exact ⟨c', tk', (bQ hs).trans hit⟩
   | bad er p =>
    obtain ⟨a', d'', h4⟩ := h4; refine ⟨a', d'', fun b Y hb N T Lb hN hT hL c tk ho => ?_⟩; obtain ⟨c1, tk1, ho1, hs⟩ := stp b Y hb N T Lb hN hT hL c tk ho; obtain ⟨z, tk', hit⟩ := h4 b Y hb N T Lb hN hT hL c1 tk1 ho1; exact ⟨z, tk', (bQ hs).trans hit⟩
end
theorem B8 {ts : List Tok} (hr : Row ts) {n : Nat} (hn : n ≤ 1000000) (ihr : ∀ d acc l x, d ≤ 12 → acc.length + n ≤ 1000000 → Sfx ts l → j9 n d acc l = some x → D4 ts d acc l x) :
 ∀ d l x, d ≤ 12 → Sfx ts l → en (n + 1) d l = some x → Rd 73 [] ts d d l cJ x := by
 intro d l x hd12 h hx; simp only [en] at hx; have h1 := eZ hr h d [123]
 cases x1 : cL [123] l with
 | bad e q =>
  obtain rfl := bZ hx x1; obtain ⟨a', d'', eb⟩ := bJ h1 x1; refine ⟨a', d'', fun b Y hb => ?_⟩; have eb := eb hb; rw [uI]; obtain ⟨N, T, Lb, hN, hT, hL⟩ := lens3 Y; rw [hN] at hb
  conv => lhs; rw [← al (Y.af false b (pc ts l d))]
  simp only [pc, pcf, aT] at eb ⊢
  generalize au ts = es at *
  simp [S73, hN, hT, hL, hb, eb]
 | ok t l1 =>
  have hx := cM hx x1
  try dsimp only at hx
  have s1 := bO h1 x1; have h2 := uW s1 d t (by omega); unfold mP at hx
  by_cases hdd : 12 < d + 1
  · rw [if_pos hdd] at hx h2
    obtain rfl := Option.some.inj hx; obtain ⟨a', d'', eb⟩ := bJ h2 rfl; refine ⟨a', d'', fun b Y hb => ?_⟩; have e1 := aU h1 x1 hb; have eb := eb hb; rw [uI]; obtain ⟨N, T, Lb, hN, hT, hL⟩ := lens3 Y; rw [hN] at hb
    conv => lhs; rw [← al (Y.af false b (pc ts l d))]
    simp only [pc, pcf, aT, Tok.c, br] at e1 eb ⊢
    generalize au ts = es at *
    simp [S73, hN, hT, hL, hb, e1, eb]
  · rw [if_neg hdd] at hx h2
    have h3 := ihr (d + 1) [] l1 x (by omega) (by simpa using hn) s1 hx
    have w1 : IntKind.i64.wrap (((d + 1 : Nat) : Int) - 1) = (d : Int) := by rw [IntWalk.i64_in _ (by omega)]; omega
    cases x with
    | bad er q =>
     obtain ⟨a', d'', h3⟩ := h3; refine ⟨a', d'', fun b Y hb => ?_⟩; have e1 := aU h1 x1 hb; have e2 := aU h2 rfl hb; obtain ⟨z, tk', hit⟩ := h3 b Y hb _ _ _ rfl rfl rfl .nil [] (.inl (.inl rfl)); rw [uI]; obtain ⟨N, T, Lb, hN, hT, hL⟩ := lens3 Y; rw [hN] at hb; rw [hN] at hit
     conv => lhs; rw [← al (Y.af false b (pc ts l d))]
     rw [hL] at hit; simp only [pc, pcf, aT, Tok.c, br, fL] at e1 e2 hit ⊢
     generalize ((d + 1 : Nat) : Int) = d1 at *
     generalize au ts = es at *
     simp [S73, hN, hT, hL, hb, e1, e2, hit, Ex.ba]
    | ok xs l3 =>
     refine ⟨h3.1, fun b Y hb => ?_⟩; have e1 := aU h1 x1 hb; have e2 := aU h2 rfl hb; obtain ⟨c', tk', hit⟩ := h3.2 b Y hb _ _ _ rfl rfl rfl .nil [] (.inl (.inl rfl)); rw [uI]; obtain ⟨N, T, Lb, hN, hT, hL⟩ := lens3 Y; rw [hN] at hb; rw [hN] at hit
     conv => lhs; rw [← al (Y.af false b (pc ts l d))]
     rw [hL] at hit; simp only [pc, pcf, aT, Tok.c, br, fL] at e1 e2 hit ⊢
     generalize ((d + 1 : Nat) : Int) = d1 at *
     generalize au ts = es at *
     simp [S73, hN, hT, hL, hb, e1, e2, hit, w1, Ex.ba]
end Go.Proofs.YtlhlijaondmccaaGreatDoor.S
namespace Go.Proofs.YtlhlijaondmccaaGreatDoor.S
open Go Go.AM Go.Proofs
attribute [local simp] cY cu bV bW cv dS fk dY dh dW dc dX de fj bX gU dR gW gK gE AM.ab aL aM aY aN ay AM.onG fK bF dF Ex.ba cond_true cond_false cU cT cS cR cQ cW cP cX cV dZ di dj cr cZ AM.du AM.cellsOf AM.ao bE beq_true dm ai aD bh bu bP decide_true decide_false bC bm bn bA bf aB az bg aA da db fg aw bB bj bM cw dQ dU cI eu ep set_set eD dA fE dB cF bG dz cE dy cD dx eC eE fA fB bK cq eo fw ed aV aR aF AM.aQ ah dt bU aZ bc aJ aI AM.part aO aK bY cg cf cn cn.eS AM.dL bq bT dJ fQ aV laid aG aW cj
attribute [-simp] ag
attribute [local congr] dK
attribute [local simp] xG yZ za vN vO vP vQ FM BW BX zb BY FL xH BV yF An Ap Ao xv DJ Ai Al DK Aj Am F7 DG DH DI Ah Ak X.len Pl.len Rt.len X.okc Pl.okc Rt.okc X.fl Pl.fl Rt.fl X.ly Pl.ly Rt.ly S.zk S.len S.okc S.fl S.ly S.can S.take fX qy Ce fc fL
theorem pO {l : List Tok} {s : List UInt8} (h : isT l s = true) : (hd l).text = s := by
 unfold isT at h; simp only [an, decide_eq_true_eq] at h; exact h.2
theorem Sfx.label {ts l : List Tok} (hr : Row ts) (h : Sfx ts l) : Sfx ts (eU l).2 := by
 unfold eU; split
 · exact h.next hr
 · exact h
section
variable {ts : List Tok} (hr : Row ts) {n : Nat} (hn : n ≤ 1000000) (ihe : mX ts n) (ih : rO ts n)
include hr hn ihe ih
theorem Bo {d : Nat} {l : List Tok} {x : PR S} (hd12 : d ≤ 12) (h : Sfx ts l) (k1 : (hd l).kind = 1) (hx : (if isT (dq l) [58] then pb (some (cL [108, 111, 111, 112] (dq l).tail)) fun _ l1 => iB n d (hd l) (bs (hd l).text) l1
 else pb (some (cL [61] (dq l))) fun _ l1 => pb (gY n d l1) fun r l2 => fV (mkS (hd l) 3 (bs (hd l).text) r pl0 x0 0 [] [] []) l2) = some x) : Rd 124 [] ts d d l eH x := by
 have e67 := fun b (Y : St) hb => aC (eg h d 0 0 0 (b := b)) (s := Y) hb
 have h1 := AB hr ihe ih d l x hd12 h hx
 cases x with
 | bad e q =>
  obtain ⟨a', d'', eb⟩ := bJ h1 rfl; refine ⟨a', d'', fun b Y hb => ?_⟩; have eb := eb hb; have e67 := e67 b Y hb; rw [dD]; obtain ⟨N, T, Lb, hN, hT, hL⟩ := lens3 Y; rw [hN] at hb
  conv => lhs; rw [← al (Y.af false b (pc ts l d))]
  simp only [pc, pcf, aT, Tok.c, br, aa, if_true, if_false, ae, cx, eP, fa, eH, cJ, fH, k1] at e67 eb ⊢
  generalize au ts = es at *
  simp (maxDischargeDepth := 8) [ij, hN, hT, hL, hb, e67, eb, k1]
 | ok v1 l1 =>
  refine ⟨bO h1 rfl, fun b Y hb => ?_⟩; have e67 := e67 b Y hb; have e1 := aU h1 rfl hb; rw [dD]; obtain ⟨N, T, Lb, hN, hT, hL⟩ := lens3 Y; rw [hN] at hb
  conv => lhs; rw [← al (Y.af false b (pc ts l d))]
  simp only [pc, pcf, aT, Tok.c, br, aa, if_true, if_false, ae, cx, eP, fa, eH, cJ, fH, k1] at e67 e1 ⊢
  generalize au ts = es at *
  simp (maxDischargeDepth := 8) [ij, hN, hT, hL, hb, e67, e1, k1]
theorem Bn {d : Nat} {l : List Tok} {x : PR S} (hd12 : d ≤ 12) (h : Sfx ts l) (k1 : (hd l).kind ≠ 1)  (pk : isT l [108, 111, 111, 112] = true) (hx : iB n d (hd l) (bs []) l.tail = some x) : Rd 124 [] ts d d l eH x := by
 have e67 := fun b (Y : St) hb => aC (eg h d 0 0 0 (b := b)) (s := Y) hb
 have g0 := fun b (Y : St) hb => aC (aE hr h d [108, 111, 111, 112] (b := b)) (s := Y) hb
 have k1' : ¬ (((hd l).kind : Int) = 1) := by omega
 have s0 := h.isT hr pk; have h1 := ih.lp _ _ _ _ _ hd12 s0 hx
 cases x with
 | bad e q =>
  obtain ⟨a', d'', eb⟩ := bJ h1 rfl; refine ⟨a', d'', fun b Y hb => ?_⟩; have eb := eb hb; have e67 := e67 b Y hb; have f0 := g0 b Y hb; rw [dD]; obtain ⟨N, T, Lb, hN, hT, hL⟩ := lens3 Y; rw [hN] at hb
  conv => lhs; rw [← al (Y.af false b (pc ts l d))]
  simp only [pc, pcf, aT, Tok.c, br, aa, if_true, if_false, ae, cx, eP, fa, eH, cJ, fH, fS, pk] at e67 f0 eb ⊢
  generalize au ts = es at *
  simp (maxDischargeDepth := 8) [ij, hN, hT, hL, hb, e67, f0, eb, pk, k1, k1']
 | ok v1 l1 =>
  refine ⟨bO h1 rfl, fun b Y hb => ?_⟩; have e67 := e67 b Y hb; have f0 := g0 b Y hb; have e1 := aU h1 rfl hb; rw [dD]; obtain ⟨N, T, Lb, hN, hT, hL⟩ := lens3 Y; rw [hN] at hb
  conv => lhs; rw [← al (Y.af false b (pc ts l d))]
  simp only [pc, pcf, aT, Tok.c, br, aa, if_true, if_false, ae, cx, eP, fa, eH, cJ, fH, fS, pk] at e67 f0 e1 ⊢
  generalize au ts = es at *
  simp (maxDischargeDepth := 8) [ij, hN, hT, hL, hb, e67, f0, e1, pk, k1, k1']
theorem FC {d : Nat} {l : List Tok} {x : PR S} (hd12 : d ≤ 12) (h : Sfx ts l) (k1 : (hd l).kind ≠ 1) (p0 : isT l [108, 111, 111, 112] = false) (pk : isT l [105, 102] = true) (hx : (pb (dG n 0 d l.tail) fun e l1 => pb (en n d l1) fun b l2 =>
 (if isT l2 [101, 108, 115, 101] then pb (en n d l2.tail) fun c l3 => some (.ok (mkS (hd l) 6 (bs []) rt0 pl0 e 0 [] b c) l3) else some (.ok (mkS (hd l) 6 (bs []) rt0 pl0 e 0 [] b []) l2))) = some x) : Rd 124 [] ts d d l eH x := by
 have e67 := fun b (Y : St) hb => aC (eg h d 0 0 0 (b := b)) (s := Y) hb
 have g0 := fun b (Y : St) hb => aC (aE hr h d [108, 111, 111, 112] (b := b)) (s := Y) hb
 have g1 := fun b (Y : St) hb => aC (aE hr h d [105, 102] (b := b)) (s := Y) hb
 have k1' : ¬ (((hd l).kind : Int) = 1) := by omega
 have s0 := h.isT hr pk; have h1 := Az hr ihe ih d (hd l) l.tail x hd12 s0 hx
 cases x with
 | bad e q =>
  obtain ⟨a', d'', eb⟩ := bJ h1 rfl; refine ⟨a', d'', fun b Y hb => ?_⟩; have eb := eb hb; have e67 := e67 b Y hb; have f0 := g0 b Y hb; have f1 := g1 b Y hb; rw [dD]; obtain ⟨N, T, Lb, hN, hT, hL⟩ := lens3 Y; rw [hN] at hb
  conv => lhs; rw [← al (Y.af false b (pc ts l d))]
  simp only [pc, pcf, aT, Tok.c, br, aa, if_true, if_false, ae, cx, eP, fa, eH, cJ, fH, fS, p0, pk] at e67 f0 f1 eb ⊢
  generalize au ts = es at *
  simp (maxDischargeDepth := 8) [ij, hN, hT, hL, hb, e67, f0, f1, eb, p0, pk, k1, k1']
 | ok v1 l1 =>
  refine ⟨bO h1 rfl, fun b Y hb => ?_⟩; have e67 := e67 b Y hb; have f0 := g0 b Y hb; have f1 := g1 b Y hb; have e1 := aU h1 rfl hb; rw [dD]; obtain ⟨N, T, Lb, hN, hT, hL⟩ := lens3 Y; rw [hN] at hb
  conv => lhs; rw [← al (Y.af false b (pc ts l d))]
  simp only [pc, pcf, aT, Tok.c, br, aa, if_true, if_false, ae, cx, eP, fa, eH, cJ, fH, fS, p0, pk] at e67 f0 f1 e1 ⊢
  generalize au ts = es at *
  simp (maxDischargeDepth := 8) [ij, hN, hT, hL, hb, e67, f0, f1, e1, p0, pk, k1, k1']
theorem xi {d : Nat} {l : List Tok} {x : PR S} (hd12 : d ≤ 12) (h : Sfx ts l) (k1 : (hd l).kind ≠ 1) (p0 : isT l [108, 111, 111, 112] = false) (p1 : isT l [105, 102] = false) (pk : isT l [97, 116, 111, 109, 105, 99] = true) (hx : (pb (en n d l.tail) fun b l1 => some (.ok (mkS (hd l) 10 (bs []) rt0 pl0 x0 0 [] b []) l1)) = some x) : Rd 124 [] ts d d l eH x := by
 have e67 := fun b (Y : St) hb => aC (eg h d 0 0 0 (b := b)) (s := Y) hb
 have g0 := fun b (Y : St) hb => aC (aE hr h d [108, 111, 111, 112] (b := b)) (s := Y) hb
 have g1 := fun b (Y : St) hb => aC (aE hr h d [105, 102] (b := b)) (s := Y) hb
 have g2 := fun b (Y : St) hb => aC (aE hr h d [97, 116, 111, 109, 105, 99] (b := b)) (s := Y) hb
 have k1' : ¬ (((hd l).kind : Int) = 1) := by omega
 have s0 := h.isT hr pk; obtain ⟨y1, hy1⟩ := dP hx; rw [hy1] at hx; have h1 := ih.blk _ _ _ hd12 s0 hy1
 cases y1 with
 | bad e q =>
  obtain rfl := bZ hx rfl; obtain ⟨a', d'', eb⟩ := bJ h1 rfl; refine ⟨a', d'', fun b Y hb => ?_⟩; have eb := eb hb; have e67 := e67 b Y hb; have f0 := g0 b Y hb; have f1 := g1 b Y hb; have f2 := g2 b Y hb; rw [dD]; obtain ⟨N, T, Lb, hN, hT, hL⟩ := lens3 Y; rw [hN] at hb
  conv => lhs; rw [← al (Y.af false b (pc ts l d))]
  simp only [pc, pcf, aT, Tok.c, br, aa, if_true, if_false, ae, cx, eP, fa, eH, cJ, fH, fS, p0, p1, pk] at e67 f0 f1 f2 eb ⊢
  generalize au ts = es at *
  simp (maxDischargeDepth := 8) [ij, hN, hT, hL, hb, e67, f0, f1, f2, eb, p0, p1, pk, k1, k1']
 | ok b1 l1 =>
  have hx := cM hx rfl
  try dsimp only at hx
  have s1 := bO h1 rfl; obtain rfl := Option.some.inj hx; refine ⟨s1, fun b Y hb => ?_⟩; have e67 := e67 b Y hb; have f0 := g0 b Y hb; have f1 := g1 b Y hb; have f2 := g2 b Y hb; have e1 := aU h1 rfl hb; rw [dD]; obtain ⟨N, T, Lb, hN, hT, hL⟩ := lens3 Y; rw [hN] at hb
  conv => lhs; rw [← al (Y.af false b (pc ts l d))]
  simp only [pc, pcf, aT, Tok.c, br, aa, if_true, if_false, ae, cx, eP, fa, eH, cJ, fH, fS, p0, p1, pk] at e67 f0 f1 f2 e1 ⊢
  generalize au ts = es at *
  simp (maxDischargeDepth := 8) [ij, hN, hT, hL, hb, e67, f0, f1, f2, e1, p0, p1, pk, k1, k1']
theorem Du {d : Nat} {l : List Tok} {x : PR S} (hd12 : d ≤ 12) (h : Sfx ts l) (k1 : (hd l).kind ≠ 1) (p0 : isT l [108, 111, 111, 112] = false) (p1 : isT l [105, 102] = false) (p2 : isT l [97, 116, 111, 109, 105, 99] = false) (pk : isT l [108, 101, 116] = true) (hx : (pb (some (ec 1 (dq l))) fun u l1 => pb (some (cL [61] l1)) fun _ l2 => pb (gY n d l2) fun r l3 => fV (mkS (hd l) 1 (bs u.text) r pl0 x0 0 [] [] []) l3) = some x) : Rd 124 [] ts d d l eH x := by
 have e67 := fun b (Y : St) hb => aC (eg h d 0 0 0 (b := b)) (s := Y) hb
 have g0 := fun b (Y : St) hb => aC (aE hr h d [108, 111, 111, 112] (b := b)) (s := Y) hb
 have g1 := fun b (Y : St) hb => aC (aE hr h d [105, 102] (b := b)) (s := Y) hb
 have g2 := fun b (Y : St) hb => aC (aE hr h d [97, 116, 111, 109, 105, 99] (b := b)) (s := Y) hb
 have g3 := fun b (Y : St) hb => aC (jV h d 0 0 0 [108, 101, 116] (b := b)) (s := Y) hb
 have k1' : ¬ (((hd l).kind : Int) = 1) := by omega
 have s0 := h.next hr
 have e151 := fun b (Y : St) hb => aC (lh hr h d (b := b)) (s := Y) hb
 have kt := pO pk; have h1 := ic hr s0 d 1
 cases x1 : ec 1 (dq l) with
 | bad e q =>
  obtain rfl := bZ hx x1; obtain ⟨a', d'', eb⟩ := bJ h1 x1; refine ⟨a', d'', fun b Y hb => ?_⟩; have eb := eb hb; have e67 := e67 b Y hb; have f0 := g0 b Y hb; have f1 := g1 b Y hb; have f2 := g2 b Y hb; have f3 := g3 b Y hb; have e151 := e151 b Y hb; rw [dD]; obtain ⟨N, T, Lb, hN, hT, hL⟩ := lens3 Y; rw [hN] at hb
  conv => lhs; rw [← al (Y.af false b (pc ts l d))]
  simp only [pc, pcf, aT, Tok.c, br, aa, if_true, if_false, ae, cx, eP, fa, eH, cJ, fH, fS, p0, p1, p2, pk, kt] at e67 f0 f1 f2 f3 e151 eb ⊢
  generalize au ts = es at *
  simp (maxDischargeDepth := 8) [ij, hN, hT, hL, hb, e67, f0, f1, f2, f3, e151, eb, p0, p1, p2, pk, kt, k1, k1']
 | ok u1 l1 =>
  have hx := cM hx x1
  try dsimp only at hx
  have s1 := bO h1 x1; have h2 := eZ hr s1 d [61]
  cases x2 : cL [61] l1 with
  | bad e q =>
   obtain rfl := bZ hx x2; obtain ⟨a', d'', eb⟩ := bJ h2 x2; refine ⟨a', d'', fun b Y hb => ?_⟩; have eb := eb hb; have e67 := e67 b Y hb; have f0 := g0 b Y hb; have f1 := g1 b Y hb; have f2 := g2 b Y hb; have f3 := g3 b Y hb; have e151 := e151 b Y hb; have e1 := aU h1 x1 hb; rw [dD]; obtain ⟨N, T, Lb, hN, hT, hL⟩ := lens3 Y; rw [hN] at hb
   conv => lhs; rw [← al (Y.af false b (pc ts l d))]
   simp only [pc, pcf, aT, Tok.c, br, aa, if_true, if_false, ae, cx, eP, fa, eH, cJ, fH, fS, p0, p1, p2, pk, kt] at e67 f0 f1 f2 f3 e151 e1 eb ⊢
   generalize au ts = es at *
   simp (maxDischargeDepth := 8) [ij, hN, hT, hL, hb, e67, f0, f1, f2, f3, e151, e1, eb, p0, p1, p2, pk, kt, k1, k1']
  | ok u2 l2 =>
   have hx := cM hx x2
   try dsimp only at hx
   have s2 := bO h2 x2; obtain ⟨y3, hy3⟩ := dP hx; rw [hy3] at hx; have h3 := qM hr ihe hd12 s2 hy3
   cases y3 with
   | bad e q =>
    obtain rfl := bZ hx rfl; obtain ⟨a', d'', eb⟩ := bJ h3 rfl; refine ⟨a', d'', fun b Y hb => ?_⟩; have eb := eb hb; have e67 := e67 b Y hb; have f0 := g0 b Y hb; have f1 := g1 b Y hb; have f2 := g2 b Y hb; have f3 := g3 b Y hb; have e151 := e151 b Y hb; have e1 := aU h1 x1 hb; have e2 := aU h2 x2 hb; rw [dD]; obtain ⟨N, T, Lb, hN, hT, hL⟩ := lens3 Y; rw [hN] at hb
    conv => lhs; rw [← al (Y.af false b (pc ts l d))]
    simp only [pc, pcf, aT, Tok.c, br, aa, if_true, if_false, ae, cx, eP, fa, eH, cJ, fH, fS, p0, p1, p2, pk, kt] at e67 f0 f1 f2 f3 e151 e1 e2 eb ⊢
    generalize au ts = es at *
    simp (maxDischargeDepth := 8) [ij, hN, hT, hL, hb, e67, f0, f1, f2, f3, e151, e1, e2, eb, p0, p1, p2, pk, kt, k1, k1']
   | ok r3 l3 =>
    have hx := cM hx rfl
    try dsimp only at hx
    have s3 := bO h3 rfl; unfold fV at hx; have h4 := eZ hr s3 d [59]
    cases x4 : cL [59] l3 with
    | bad e q =>
     obtain rfl := bZ hx x4; obtain ⟨a', d'', eb⟩ := bJ h4 x4; refine ⟨a', d'', fun b Y hb => ?_⟩; have eb := eb hb; have e67 := e67 b Y hb; have f0 := g0 b Y hb; have f1 := g1 b Y hb; have f2 := g2 b Y hb; have f3 := g3 b Y hb; have e151 := e151 b Y hb; have e1 := aU h1 x1 hb; have e2 := aU h2 x2 hb; have e3 := aU h3 rfl hb; rw [dD]; obtain ⟨N, T, Lb, hN, hT, hL⟩ := lens3 Y; rw [hN] at hb
     conv => lhs; rw [← al (Y.af false b (pc ts l d))]
     simp only [pc, pcf, aT, Tok.c, br, aa, if_true, if_false, ae, cx, eP, fa, eH, cJ, fH, fS, p0, p1, p2, pk, kt] at e67 f0 f1 f2 f3 e151 e1 e2 e3 eb ⊢
     generalize au ts = es at *
     simp (maxDischargeDepth := 8) [ij, hN, hT, hL, hb, e67, f0, f1, f2, f3, e151, e1, e2, e3, eb, p0, p1, p2, pk, kt, k1, k1']
    | ok u4 l4 =>
     have hx := cM hx x4
     try dsimp only at hx
     have s4 := bO h4 x4; obtain rfl := Option.some.inj hx; refine ⟨s4, fun b Y hb => ?_⟩; have e67 := e67 b Y hb; have f0 := g0 b Y hb; have f1 := g1 b Y hb; have f2 := g2 b Y hb; have f3 := g3 b Y hb; have e151 := e151 b Y hb; have e1 := aU h1 x1 hb; have e2 := aU h2 x2 hb; have e3 := aU h3 rfl hb; have e4 := aU h4 x4 hb; rw [dD]; obtain ⟨N, T, Lb, hN, hT, hL⟩ := lens3 Y; rw [hN] at hb
     conv => lhs; rw [← al (Y.af false b (pc ts l d))]
     simp only [pc, pcf, aT, Tok.c, br, aa, if_true, if_false, ae, cx, eP, fa, eH, cJ, fH, fS, p0, p1, p2, pk, kt] at e67 f0 f1 f2 f3 e151 e1 e2 e3 e4 ⊢
     generalize au ts = es at *
     simp (maxDischargeDepth := 8) [ij, hN, hT, hL, hb, e67, f0, f1, f2, f3, e151, e1, e2, e3, e4, p0, p1, p2, pk, kt, k1, k1']
theorem Dw {d : Nat} {l : List Tok} {x : PR S} (hd12 : d ≤ 12) (h : Sfx ts l) (k1 : (hd l).kind ≠ 1) (p0 : isT l [108, 111, 111, 112] = false) (p1 : isT l [105, 102] = false) (p2 : isT l [97, 116, 111, 109, 105, 99] = false) (p3 : isT l [108, 101, 116] = false) (pk : isT l [118, 97, 114] = true) (hx : (pb (some (ec 1 (dq l))) fun u l1 => pb (some (cL [61] l1)) fun _ l2 => pb (gY n d l2) fun r l3 => fV (mkS (hd l) 2 (bs u.text) r pl0 x0 0 [] [] []) l3) = some x) : Rd 124 [] ts d d l eH x := by
 have e67 := fun b (Y : St) hb => aC (eg h d 0 0 0 (b := b)) (s := Y) hb
 have g0 := fun b (Y : St) hb => aC (aE hr h d [108, 111, 111, 112] (b := b)) (s := Y) hb
 have g1 := fun b (Y : St) hb => aC (aE hr h d [105, 102] (b := b)) (s := Y) hb
 have g2 := fun b (Y : St) hb => aC (aE hr h d [97, 116, 111, 109, 105, 99] (b := b)) (s := Y) hb
 have g3 := fun b (Y : St) hb => aC (jV h d 0 0 0 [108, 101, 116] (b := b)) (s := Y) hb
 have g4 := fun b (Y : St) hb => aC (jV h d 0 0 0 [118, 97, 114] (b := b)) (s := Y) hb
 have k1' : ¬ (((hd l).kind : Int) = 1) := by omega
 have s0 := h.next hr
 have e151 := fun b (Y : St) hb => aC (lh hr h d (b := b)) (s := Y) hb
 have kt := pO pk; have h1 := ic hr s0 d 1
 cases x1 : ec 1 (dq l) with
 | bad e q =>
  obtain rfl := bZ hx x1; obtain ⟨a', d'', eb⟩ := bJ h1 x1; refine ⟨a', d'', fun b Y hb => ?_⟩; have eb := eb hb; have e67 := e67 b Y hb; have f0 := g0 b Y hb; have f1 := g1 b Y hb; have f2 := g2 b Y hb; have f3 := g3 b Y hb; have f4 := g4 b Y hb; have e151 := e151 b Y hb; rw [dD]; obtain ⟨N, T, Lb, hN, hT, hL⟩ := lens3 Y; rw [hN] at hb
  conv => lhs; rw [← al (Y.af false b (pc ts l d))]
  simp only [pc, pcf, aT, Tok.c, br, aa, if_true, if_false, ae, cx, eP, fa, eH, cJ, fH, fS, p0, p1, p2, p3, pk, kt] at e67 f0 f1 f2 f3 f4 e151 eb ⊢
  generalize au ts = es at *
  simp (maxDischargeDepth := 8) [ij, hN, hT, hL, hb, e67, f0, f1, f2, f3, f4, e151, eb, p0, p1, p2, p3, pk, kt, k1, k1']
 | ok u1 l1 =>
  have hx := cM hx x1
  try dsimp only at hx
  have s1 := bO h1 x1; have h2 := eZ hr s1 d [61]
  cases x2 : cL [61] l1 with
  | bad e q =>
   obtain rfl := bZ hx x2; obtain ⟨a', d'', eb⟩ := bJ h2 x2; refine ⟨a', d'', fun b Y hb => ?_⟩; have eb := eb hb; have e67 := e67 b Y hb; have f0 := g0 b Y hb; have f1 := g1 b Y hb; have f2 := g2 b Y hb; have f3 := g3 b Y hb; have f4 := g4 b Y hb; have e151 := e151 b Y hb; have e1 := aU h1 x1 hb; rw [dD]; obtain ⟨N, T, Lb, hN, hT, hL⟩ := lens3 Y; rw [hN] at hb
   conv => lhs; rw [← al (Y.af false b (pc ts l d))]
   simp only [pc, pcf, aT, Tok.c, br, aa, if_true, if_false, ae, cx, eP, fa, eH, cJ, fH, fS, p0, p1, p2, p3, pk, kt] at e67 f0 f1 f2 f3 f4 e151 e1 eb ⊢
   generalize au ts = es at *
   simp (maxDischargeDepth := 8) [ij, hN, hT, hL, hb, e67, f0, f1, f2, f3, f4, e151, e1, eb, p0, p1, p2, p3, pk, kt, k1, k1']
  | ok u2 l2 =>
   have hx := cM hx x2
   try dsimp only at hx
   have s2 := bO h2 x2; obtain ⟨y3, hy3⟩ := dP hx; rw [hy3] at hx; have h3 := qM hr ihe hd12 s2 hy3
   cases y3 with
   | bad e q =>
    obtain rfl := bZ hx rfl; obtain ⟨a', d'', eb⟩ := bJ h3 rfl; refine ⟨a', d'', fun b Y hb => ?_⟩; have eb := eb hb; have e67 := e67 b Y hb; have f0 := g0 b Y hb; have f1 := g1 b Y hb; have f2 := g2 b Y hb; have f3 := g3 b Y hb; have f4 := g4 b Y hb; have e151 := e151 b Y hb; have e1 := aU h1 x1 hb; have e2 := aU h2 x2 hb; rw [dD]; obtain ⟨N, T, Lb, hN, hT, hL⟩ := lens3 Y; rw [hN] at hb
    conv => lhs; rw [← al (Y.af false b (pc ts l d))]
    simp only [pc, pcf, aT, Tok.c, br, aa, if_true, if_false, ae, cx, eP, fa, eH, cJ, fH, fS, p0, p1, p2, p3, pk, kt] at e67 f0 f1 f2 f3 f4 e151 e1 e2 eb ⊢
    generalize au ts = es at *
    simp (maxDischargeDepth := 8) [ij, hN, hT, hL, hb, e67, f0, f1, f2, f3, f4, e151, e1, e2, eb, p0, p1, p2, p3, pk, kt, k1, k1']
   | ok r3 l3 =>
    have hx := cM hx rfl
    try dsimp only at hx
    have s3 := bO h3 rfl; unfold fV at hx; have h4 := eZ hr s3 d [59]
    cases x4 : cL [59] l3 with
    | bad e q =>
     obtain rfl := bZ hx x4; obtain ⟨a', d'', eb⟩ := bJ h4 x4; refine ⟨a', d'', fun b Y hb => ?_⟩; have eb := eb hb; have e67 := e67 b Y hb; have f0 := g0 b Y hb; have f1 := g1 b Y hb; have f2 := g2 b Y hb; have f3 := g3 b Y hb; have f4 := g4 b Y hb; have e151 := e151 b Y hb; have e1 := aU h1 x1 hb; have e2 := aU h2 x2 hb; have e3 := aU h3 rfl hb; rw [dD]; obtain ⟨N, T, Lb, hN, hT, hL⟩ := lens3 Y; rw [hN] at hb
     conv => lhs; rw [← al (Y.af false b (pc ts l d))]
     simp only [pc, pcf, aT, Tok.c, br, aa, if_true, if_false, ae, cx, eP, fa, eH, cJ, fH, fS, p0, p1, p2, p3, pk, kt] at e67 f0 f1 f2 f3 f4 e151 e1 e2 e3 eb ⊢
     generalize au ts = es at *
     simp (maxDischargeDepth := 8) [ij, hN, hT, hL, hb, e67, f0, f1, f2, f3, f4, e151, e1, e2, e3, eb, p0, p1, p2, p3, pk, kt, k1, k1']
    | ok u4 l4 =>
     have hx := cM hx x4
     try dsimp only at hx
     have s4 := bO h4 x4; obtain rfl := Option.some.inj hx; refine ⟨s4, fun b Y hb => ?_⟩; have e67 := e67 b Y hb; have f0 := g0 b Y hb; have f1 := g1 b Y hb; have f2 := g2 b Y hb; have f3 := g3 b Y hb; have f4 := g4 b Y hb; have e151 := e151 b Y hb; have e1 := aU h1 x1 hb; have e2 := aU h2 x2 hb; have e3 := aU h3 rfl hb; have e4 := aU h4 x4 hb; rw [dD]; obtain ⟨N, T, Lb, hN, hT, hL⟩ := lens3 Y; rw [hN] at hb
     conv => lhs; rw [← al (Y.af false b (pc ts l d))]
     simp only [pc, pcf, aT, Tok.c, br, aa, if_true, if_false, ae, cx, eP, fa, eH, cJ, fH, fS, p0, p1, p2, p3, pk, kt] at e67 f0 f1 f2 f3 f4 e151 e1 e2 e3 e4 ⊢
     generalize au ts = es at *
     simp (maxDischargeDepth := 8) [ij, hN, hT, hL, hb, e67, f0, f1, f2, f3, f4, e151, e1, e2, e3, e4, p0, p1, p2, p3, pk, kt, k1, k1']
theorem Dv {d : Nat} {l : List Tok} {x : PR S} (hd12 : d ≤ 12) (h : Sfx ts l) (k1 : (hd l).kind ≠ 1) (p0 : isT l [108, 111, 111, 112] = false) (p1 : isT l [105, 102] = false) (p2 : isT l [97, 116, 111, 109, 105, 99] = false) (p3 : isT l [108, 101, 116] = false) (p4 : isT l [118, 97, 114] = false) (pk : isT l [115, 101, 116] = true) (hx : (pb (mC n d l.tail) fun x l1 => pb (some (cL [61] l1)) fun _ l2 => pb (dG n 0 d l2) fun e l3 => fV (mkS (hd l) 4 (bs []) rt0 x e 0 [] [] []) l3) = some x) : Rd 124 [] ts d d l eH x := by
 have e67 := fun b (Y : St) hb => aC (eg h d 0 0 0 (b := b)) (s := Y) hb
 have g0 := fun b (Y : St) hb => aC (aE hr h d [108, 111, 111, 112] (b := b)) (s := Y) hb
 have g1 := fun b (Y : St) hb => aC (aE hr h d [105, 102] (b := b)) (s := Y) hb
 have g2 := fun b (Y : St) hb => aC (aE hr h d [97, 116, 111, 109, 105, 99] (b := b)) (s := Y) hb
 have g3 := fun b (Y : St) hb => aC (jV h d 0 0 0 [108, 101, 116] (b := b)) (s := Y) hb
 have g4 := fun b (Y : St) hb => aC (jV h d 0 0 0 [118, 97, 114] (b := b)) (s := Y) hb
 have g5 := fun b (Y : St) hb => aC (aE hr h d [115, 101, 116] (b := b)) (s := Y) hb
 have k1' : ¬ (((hd l).kind : Int) = 1) := by omega
 have s0 := h.isT hr pk; obtain ⟨y1, hy1⟩ := dP hx; rw [hy1] at hx; have h1 := ug hr ihe hd12 s0 hy1
 cases y1 with
 | bad e q =>
  obtain rfl := bZ hx rfl; obtain ⟨a', d'', eb⟩ := bJ h1 rfl; refine ⟨a', d'', fun b Y hb => ?_⟩; have eb := eb hb; have e67 := e67 b Y hb; have f0 := g0 b Y hb; have f1 := g1 b Y hb; have f2 := g2 b Y hb; have f3 := g3 b Y hb; have f4 := g4 b Y hb; have f5 := g5 b Y hb; rw [dD]; obtain ⟨N, T, Lb, hN, hT, hL⟩ := lens3 Y; rw [hN] at hb
  conv => lhs; rw [← al (Y.af false b (pc ts l d))]
  simp only [pc, pcf, aT, Tok.c, br, aa, if_true, if_false, ae, cx, eP, fa, eH, cJ, fH, fS, p0, p1, p2, p3, p4, pk] at e67 f0 f1 f2 f3 f4 f5 eb ⊢
  generalize au ts = es at *
  simp (maxDischargeDepth := 8) [ij, hN, hT, hL, hb, e67, f0, f1, f2, f3, f4, f5, eb, p0, p1, p2, p3, p4, pk, k1, k1']
 | ok pl1 l1 =>
  have hx := cM hx rfl
  try dsimp only at hx
  have s1 := bO h1 rfl; have h2 := eZ hr s1 d [61]
  cases x2 : cL [61] l1 with
  | bad e q =>
   obtain rfl := bZ hx x2; obtain ⟨a', d'', eb⟩ := bJ h2 x2; refine ⟨a', d'', fun b Y hb => ?_⟩; have eb := eb hb; have e67 := e67 b Y hb; have f0 := g0 b Y hb; have f1 := g1 b Y hb; have f2 := g2 b Y hb; have f3 := g3 b Y hb; have f4 := g4 b Y hb; have f5 := g5 b Y hb; have e1 := aU h1 rfl hb; rw [dD]; obtain ⟨N, T, Lb, hN, hT, hL⟩ := lens3 Y; rw [hN] at hb
   conv => lhs; rw [← al (Y.af false b (pc ts l d))]
   simp only [pc, pcf, aT, Tok.c, br, aa, if_true, if_false, ae, cx, eP, fa, eH, cJ, fH, fS, p0, p1, p2, p3, p4, pk] at e67 f0 f1 f2 f3 f4 f5 e1 eb ⊢
   generalize au ts = es at *
   simp (maxDischargeDepth := 8) [ij, hN, hT, hL, hb, e67, f0, f1, f2, f3, f4, f5, e1, eb, p0, p1, p2, p3, p4, pk, k1, k1']
  | ok u2 l2 =>
   have hx := cM hx x2
   try dsimp only at hx
   have s2 := bO h2 x2; obtain ⟨y3, hy3⟩ := dP hx; rw [hy3] at hx; have h3 := la hr ihe hd12 s2 hy3
   cases y3 with
   | bad e q =>
    obtain rfl := bZ hx rfl; obtain ⟨a', d'', eb⟩ := bJ h3 rfl; refine ⟨a', d'', fun b Y hb => ?_⟩; have eb := eb hb; have e67 := e67 b Y hb; have f0 := g0 b Y hb; have f1 := g1 b Y hb; have f2 := g2 b Y hb; have f3 := g3 b Y hb; have f4 := g4 b Y hb; have f5 := g5 b Y hb; have e1 := aU h1 rfl hb; have e2 := aU h2 x2 hb; rw [dD]; obtain ⟨N, T, Lb, hN, hT, hL⟩ := lens3 Y; rw [hN] at hb
    conv => lhs; rw [← al (Y.af false b (pc ts l d))]
    simp only [pc, pcf, aT, Tok.c, br, aa, if_true, if_false, ae, cx, eP, fa, eH, cJ, fH, fS, p0, p1, p2, p3, p4, pk] at e67 f0 f1 f2 f3 f4 f5 e1 e2 eb ⊢
    generalize au ts = es at *
    simp (maxDischargeDepth := 8) [ij, hN, hT, hL, hb, e67, f0, f1, f2, f3, f4, f5, e1, e2, eb, p0, p1, p2, p3, p4, pk, k1, k1']
   | ok x3 l3 =>
    have hx := cM hx rfl
    try dsimp only at hx
    have s3 := bO h3 rfl; unfold fV at hx; have h4 := eZ hr s3 d [59]
    cases x4 : cL [59] l3 with
    | bad e q =>
     obtain rfl := bZ hx x4; obtain ⟨a', d'', eb⟩ := bJ h4 x4; refine ⟨a', d'', fun b Y hb => ?_⟩; have eb := eb hb; have e67 := e67 b Y hb; have f0 := g0 b Y hb; have f1 := g1 b Y hb; have f2 := g2 b Y hb; have f3 := g3 b Y hb; have f4 := g4 b Y hb; have f5 := g5 b Y hb; have e1 := aU h1 rfl hb; have e2 := aU h2 x2 hb; have e3 := aU h3 rfl hb; rw [dD]; obtain ⟨N, T, Lb, hN, hT, hL⟩ := lens3 Y; rw [hN] at hb
     conv => lhs; rw [← al (Y.af false b (pc ts l d))]
     simp only [pc, pcf, aT, Tok.c, br, aa, if_true, if_false, ae, cx, eP, fa, eH, cJ, fH, fS, p0, p1, p2, p3, p4, pk] at e67 f0 f1 f2 f3 f4 f5 e1 e2 e3 eb ⊢
     generalize au ts = es at *
     simp (maxDischargeDepth := 8) [ij, hN, hT, hL, hb, e67, f0, f1, f2, f3, f4, f5, e1, e2, e3, eb, p0, p1, p2, p3, p4, pk, k1, k1']
    | ok u4 l4 =>
     have hx := cM hx x4
     try dsimp only at hx
     have s4 := bO h4 x4; obtain rfl := Option.some.inj hx; refine ⟨s4, fun b Y hb => ?_⟩; have e67 := e67 b Y hb; have f0 := g0 b Y hb; have f1 := g1 b Y hb; have f2 := g2 b Y hb; have f3 := g3 b Y hb; have f4 := g4 b Y hb; have f5 := g5 b Y hb; have e1 := aU h1 rfl hb; have e2 := aU h2 x2 hb; have e3 := aU h3 rfl hb; have e4 := aU h4 x4 hb; rw [dD]; obtain ⟨N, T, Lb, hN, hT, hL⟩ := lens3 Y; rw [hN] at hb
     conv => lhs; rw [← al (Y.af false b (pc ts l d))]
     simp only [pc, pcf, aT, Tok.c, br, aa, if_true, if_false, ae, cx, eP, fa, eH, cJ, fH, fS, p0, p1, p2, p3, p4, pk] at e67 f0 f1 f2 f3 f4 f5 e1 e2 e3 e4 ⊢
     generalize au ts = es at *
     simp (maxDischargeDepth := 8) [ij, hN, hT, hL, hb, e67, f0, f1, f2, f3, f4, f5, e1, e2, e3, e4, p0, p1, p2, p3, p4, pk, k1, k1']
theorem yu {d : Nat} {l : List Tok} {x : PR S} (hd12 : d ≤ 12) (h : Sfx ts l) (k1 : (hd l).kind ≠ 1) (p0 : isT l [108, 111, 111, 112] = false) (p1 : isT l [105, 102] = false) (p2 : isT l [97, 116, 111, 109, 105, 99] = false) (p3 : isT l [108, 101, 116] = false) (p4 : isT l [118, 97, 114] = false) (p5 : isT l [115, 101, 116] = false) (pk : isT l [112, 114, 105, 110, 116] = true) (hx : (pb (dG n 0 d l.tail) fun e l1 => fV (mkS (hd l) 5 (bs []) rt0 pl0 e 0 [] [] []) l1) = some x) : Rd 124 [] ts d d l eH x := by
 have e67 := fun b (Y : St) hb => aC (eg h d 0 0 0 (b := b)) (s := Y) hb
 have g0 := fun b (Y : St) hb => aC (aE hr h d [108, 111, 111, 112] (b := b)) (s := Y) hb
 have g1 := fun b (Y : St) hb => aC (aE hr h d [105, 102] (b := b)) (s := Y) hb
 have g2 := fun b (Y : St) hb => aC (aE hr h d [97, 116, 111, 109, 105, 99] (b := b)) (s := Y) hb
 have g3 := fun b (Y : St) hb => aC (jV h d 0 0 0 [108, 101, 116] (b := b)) (s := Y) hb
 have g4 := fun b (Y : St) hb => aC (jV h d 0 0 0 [118, 97, 114] (b := b)) (s := Y) hb
 have g5 := fun b (Y : St) hb => aC (aE hr h d [115, 101, 116] (b := b)) (s := Y) hb
 have g6 := fun b (Y : St) hb => aC (aE hr h d [112, 114, 105, 110, 116] (b := b)) (s := Y) hb
 have k1' : ¬ (((hd l).kind : Int) = 1) := by omega
 have s0 := h.isT hr pk; obtain ⟨y1, hy1⟩ := dP hx; rw [hy1] at hx; have h1 := la hr ihe hd12 s0 hy1
 cases y1 with
 | bad e q =>
  obtain rfl := bZ hx rfl; obtain ⟨a', d'', eb⟩ := bJ h1 rfl; refine ⟨a', d'', fun b Y hb => ?_⟩; have eb := eb hb; have e67 := e67 b Y hb; have f0 := g0 b Y hb; have f1 := g1 b Y hb; have f2 := g2 b Y hb; have f3 := g3 b Y hb; have f4 := g4 b Y hb; have f5 := g5 b Y hb; have f6 := g6 b Y hb; rw [dD]; obtain ⟨N, T, Lb, hN, hT, hL⟩ := lens3 Y; rw [hN] at hb
  conv => lhs; rw [← al (Y.af false b (pc ts l d))]
  simp only [pc, pcf, aT, Tok.c, br, aa, if_true, if_false, ae, cx, eP, fa, eH, cJ, fH, fS, p0, p1, p2, p3, p4, p5, pk] at e67 f0 f1 f2 f3 f4 f5 f6 eb ⊢
  generalize au ts = es at *
  simp (maxDischargeDepth := 8) [ij, hN, hT, hL, hb, e67, f0, f1, f2, f3, f4, f5, f6, eb, p0, p1, p2, p3, p4, p5, pk, k1, k1']
 | ok x1 l1 =>
  have hx := cM hx rfl
  try dsimp only at hx
  have s1 := bO h1 rfl; unfold fV at hx; have h2 := eZ hr s1 d [59]
  cases x2 : cL [59] l1 with
  | bad e q =>
   obtain rfl := bZ hx x2; obtain ⟨a', d'', eb⟩ := bJ h2 x2; refine ⟨a', d'', fun b Y hb => ?_⟩; have eb := eb hb; have e67 := e67 b Y hb; have f0 := g0 b Y hb; have f1 := g1 b Y hb; have f2 := g2 b Y hb; have f3 := g3 b Y hb; have f4 := g4 b Y hb; have f5 := g5 b Y hb; have f6 := g6 b Y hb; have e1 := aU h1 rfl hb; rw [dD]; obtain ⟨N, T, Lb, hN, hT, hL⟩ := lens3 Y; rw [hN] at hb
   conv => lhs; rw [← al (Y.af false b (pc ts l d))]
   simp only [pc, pcf, aT, Tok.c, br, aa, if_true, if_false, ae, cx, eP, fa, eH, cJ, fH, fS, p0, p1, p2, p3, p4, p5, pk] at e67 f0 f1 f2 f3 f4 f5 f6 e1 eb ⊢
   generalize au ts = es at *
   simp (maxDischargeDepth := 8) [ij, hN, hT, hL, hb, e67, f0, f1, f2, f3, f4, f5, f6, e1, eb, p0, p1, p2, p3, p4, p5, pk, k1, k1']
  | ok u2 l2 =>
   have hx := cM hx x2
   try dsimp only at hx
   have s2 := bO h2 x2; obtain rfl := Option.some.inj hx; refine ⟨s2, fun b Y hb => ?_⟩; have e67 := e67 b Y hb; have f0 := g0 b Y hb; have f1 := g1 b Y hb; have f2 := g2 b Y hb; have f3 := g3 b Y hb; have f4 := g4 b Y hb; have f5 := g5 b Y hb; have f6 := g6 b Y hb; have e1 := aU h1 rfl hb; have e2 := aU h2 x2 hb; rw [dD]; obtain ⟨N, T, Lb, hN, hT, hL⟩ := lens3 Y; rw [hN] at hb
   conv => lhs; rw [← al (Y.af false b (pc ts l d))]
   simp only [pc, pcf, aT, Tok.c, br, aa, if_true, if_false, ae, cx, eP, fa, eH, cJ, fH, fS, p0, p1, p2, p3, p4, p5, pk] at e67 f0 f1 f2 f3 f4 f5 f6 e1 e2 ⊢
   generalize au ts = es at *
   simp (maxDischargeDepth := 8) [ij, hN, hT, hL, hb, e67, f0, f1, f2, f3, f4, f5, f6, e1, e2, p0, p1, p2, p3, p4, p5, pk, k1, k1']
theorem yq {d : Nat} {l : List Tok} {x : PR S} (hd12 : d ≤ 12) (h : Sfx ts l) (k1 : (hd l).kind ≠ 1) (p0 : isT l [108, 111, 111, 112] = false) (p1 : isT l [105, 102] = false) (p2 : isT l [97, 116, 111, 109, 105, 99] = false) (p3 : isT l [108, 101, 116] = false) (p4 : isT l [118, 97, 114] = false) (p5 : isT l [115, 101, 116] = false) (p6 : isT l [112, 114, 105, 110, 116] = false) (pk : isT l [98, 114, 101, 97, 107] = true) (hx : fV (mkS (hd l) 8 (eU l.tail).1 rt0 pl0 x0 0 [] [] []) (eU l.tail).2 = some x) : Rd 124 [] ts d d l eH x := by
 have e67 := fun b (Y : St) hb => aC (eg h d 0 0 0 (b := b)) (s := Y) hb
 have g0 := fun b (Y : St) hb => aC (aE hr h d [108, 111, 111, 112] (b := b)) (s := Y) hb
 have g1 := fun b (Y : St) hb => aC (aE hr h d [105, 102] (b := b)) (s := Y) hb
 have g2 := fun b (Y : St) hb => aC (aE hr h d [97, 116, 111, 109, 105, 99] (b := b)) (s := Y) hb
 have g3 := fun b (Y : St) hb => aC (jV h d 0 0 0 [108, 101, 116] (b := b)) (s := Y) hb
 have g4 := fun b (Y : St) hb => aC (jV h d 0 0 0 [118, 97, 114] (b := b)) (s := Y) hb
 have g5 := fun b (Y : St) hb => aC (aE hr h d [115, 101, 116] (b := b)) (s := Y) hb
 have g6 := fun b (Y : St) hb => aC (aE hr h d [112, 114, 105, 110, 116] (b := b)) (s := Y) hb
 have g7 := fun b (Y : St) hb => aC (aE hr h d [98, 114, 101, 97, 107] (b := b)) (s := Y) hb
 have k1' : ¬ (((hd l).kind : Int) = 1) := by omega
 have s0 := h.isT hr pk; have s1 := s0.label hr
 have e158 := fun b (Y : St) hb => aC (wy hr s0 d b) (s := Y) hb
 unfold fV at hx; have h1 := eZ hr s1 d [59]
 cases x1 : cL [59] (eU l.tail).2 with
 | bad e q =>
  obtain rfl := bZ hx x1; obtain ⟨a', d'', eb⟩ := bJ h1 x1; refine ⟨a', d'', fun b Y hb => ?_⟩; have eb := eb hb; have e67 := e67 b Y hb; have f0 := g0 b Y hb; have f1 := g1 b Y hb; have f2 := g2 b Y hb; have f3 := g3 b Y hb; have f4 := g4 b Y hb; have f5 := g5 b Y hb; have f6 := g6 b Y hb; have f7 := g7 b Y hb; have e158 := e158 b Y hb; rw [dD]; obtain ⟨N, T, Lb, hN, hT, hL⟩ := lens3 Y; rw [hN] at hb
  conv => lhs; rw [← al (Y.af false b (pc ts l d))]
  simp only [pc, pcf, aT, Tok.c, br, aa, if_true, if_false, ae, cx, eP, fa, eH, cJ, fH, fS, p0, p1, p2, p3, p4, p5, p6, pk] at e67 f0 f1 f2 f3 f4 f5 f6 f7 e158 eb ⊢
  generalize au ts = es at *
  simp (maxDischargeDepth := 8) [ij, hN, hT, hL, hb, e67, f0, f1, f2, f3, f4, f5, f6, f7, e158, eb, p0, p1, p2, p3, p4, p5, p6, pk, k1, k1']
 | ok u1 l1 =>
  have hx := cM hx x1
  try dsimp only at hx
  have s1 := bO h1 x1; obtain rfl := Option.some.inj hx; refine ⟨s1, fun b Y hb => ?_⟩; have e67 := e67 b Y hb; have f0 := g0 b Y hb; have f1 := g1 b Y hb; have f2 := g2 b Y hb; have f3 := g3 b Y hb; have f4 := g4 b Y hb; have f5 := g5 b Y hb; have f6 := g6 b Y hb; have f7 := g7 b Y hb; have e158 := e158 b Y hb; have e1 := aU h1 x1 hb; rw [dD]; obtain ⟨N, T, Lb, hN, hT, hL⟩ := lens3 Y; rw [hN] at hb
  conv => lhs; rw [← al (Y.af false b (pc ts l d))]
  simp only [pc, pcf, aT, Tok.c, br, aa, if_true, if_false, ae, cx, eP, fa, eH, cJ, fH, fS, p0, p1, p2, p3, p4, p5, p6, pk] at e67 f0 f1 f2 f3 f4 f5 f6 f7 e158 e1 ⊢
  generalize au ts = es at *
  simp (maxDischargeDepth := 8) [ij, hN, hT, hL, hb, e67, f0, f1, f2, f3, f4, f5, f6, f7, e158, e1, p0, p1, p2, p3, p4, p5, p6, pk, k1, k1']
theorem tz {d : Nat} {l : List Tok} {x : PR S} (hd12 : d ≤ 12) (h : Sfx ts l) (k1 : (hd l).kind ≠ 1) (p0 : isT l [108, 111, 111, 112] = false) (p1 : isT l [105, 102] = false) (p2 : isT l [97, 116, 111, 109, 105, 99] = false) (p3 : isT l [108, 101, 116] = false) (p4 : isT l [118, 97, 114] = false) (p5 : isT l [115, 101, 116] = false) (p6 : isT l [112, 114, 105, 110, 116] = false) (p7 : isT l [98, 114, 101, 97, 107] = false) (pk : isT l [99, 111, 110, 116, 105, 110, 117, 101] = true) (hx : fV (mkS (hd l) 9 (eU l.tail).1 rt0 pl0 x0 0 [] [] []) (eU l.tail).2 = some x) : Rd 124 [] ts d d l eH x := by
 have e67 := fun b (Y : St) hb => aC (eg h d 0 0 0 (b := b)) (s := Y) hb
 have g0 := fun b (Y : St) hb => aC (aE hr h d [108, 111, 111, 112] (b := b)) (s := Y) hb
 have g1 := fun b (Y : St) hb => aC (aE hr h d [105, 102] (b := b)) (s := Y) hb
 have g2 := fun b (Y : St) hb => aC (aE hr h d [97, 116, 111, 109, 105, 99] (b := b)) (s := Y) hb
 have g3 := fun b (Y : St) hb => aC (jV h d 0 0 0 [108, 101, 116] (b := b)) (s := Y) hb
 have g4 := fun b (Y : St) hb => aC (jV h d 0 0 0 [118, 97, 114] (b := b)) (s := Y) hb
 have g5 := fun b (Y : St) hb => aC (aE hr h d [115, 101, 116] (b := b)) (s := Y) hb
 have g6 := fun b (Y : St) hb => aC (aE hr h d [112, 114, 105, 110, 116] (b := b)) (s := Y) hb
 have g7 := fun b (Y : St) hb => aC (aE hr h d [98, 114, 101, 97, 107] (b := b)) (s := Y) hb
 have g8 := fun b (Y : St) hb => aC (aE hr h d [99, 111, 110, 116, 105, 110, 117, 101] (b := b)) (s := Y) hb
 have k1' : ¬ (((hd l).kind : Int) = 1) := by omega
 have s0 := h.isT hr pk; have s1 := s0.label hr
 have e158 := fun b (Y : St) hb => aC (wy hr s0 d b) (s := Y) hb
 unfold fV at hx; have h1 := eZ hr s1 d [59]
 cases x1 : cL [59] (eU l.tail).2 with
 | bad e q =>
  obtain rfl := bZ hx x1; obtain ⟨a', d'', eb⟩ := bJ h1 x1; refine ⟨a', d'', fun b Y hb => ?_⟩; have eb := eb hb; have e67 := e67 b Y hb; have f0 := g0 b Y hb; have f1 := g1 b Y hb; have f2 := g2 b Y hb; have f3 := g3 b Y hb; have f4 := g4 b Y hb; have f5 := g5 b Y hb; have f6 := g6 b Y hb; have f7 := g7 b Y hb; have f8 := g8 b Y hb; have e158 := e158 b Y hb; rw [dD]; obtain ⟨N, T, Lb, hN, hT, hL⟩ := lens3 Y; rw [hN] at hb
  conv => lhs; rw [← al (Y.af false b (pc ts l d))]
  simp only [pc, pcf, aT, Tok.c, br, aa, if_true, if_false, ae, cx, eP, fa, eH, cJ, fH, fS, p0, p1, p2, p3, p4, p5, p6, p7, pk] at e67 f0 f1 f2 f3 f4 f5 f6 f7 f8 e158 eb ⊢
  generalize au ts = es at *
  simp (maxDischargeDepth := 8) [ij, hN, hT, hL, hb, e67, f0, f1, f2, f3, f4, f5, f6, f7, f8, e158, eb, p0, p1, p2, p3, p4, p5, p6, p7, pk, k1, k1']
 | ok u1 l1 =>
  have hx := cM hx x1
  try dsimp only at hx
  have s1 := bO h1 x1; obtain rfl := Option.some.inj hx; refine ⟨s1, fun b Y hb => ?_⟩; have e67 := e67 b Y hb; have f0 := g0 b Y hb; have f1 := g1 b Y hb; have f2 := g2 b Y hb; have f3 := g3 b Y hb; have f4 := g4 b Y hb; have f5 := g5 b Y hb; have f6 := g6 b Y hb; have f7 := g7 b Y hb; have f8 := g8 b Y hb; have e158 := e158 b Y hb; have e1 := aU h1 x1 hb; rw [dD]; obtain ⟨N, T, Lb, hN, hT, hL⟩ := lens3 Y; rw [hN] at hb
  conv => lhs; rw [← al (Y.af false b (pc ts l d))]
  simp only [pc, pcf, aT, Tok.c, br, aa, if_true, if_false, ae, cx, eP, fa, eH, cJ, fH, fS, p0, p1, p2, p3, p4, p5, p6, p7, pk] at e67 f0 f1 f2 f3 f4 f5 f6 f7 f8 e158 e1 ⊢
  generalize au ts = es at *
  simp (maxDischargeDepth := 8) [ij, hN, hT, hL, hb, e67, f0, f1, f2, f3, f4, f5, f6, f7, f8, e158, e1, p0, p1, p2, p3, p4, p5, p6, p7, pk, k1, k1']
theorem Bm {d : Nat} {l : List Tok} {x : PR S} (hd12 : d ≤ 12) (h : Sfx ts l) (k1 : (hd l).kind ≠ 1) (p0 : isT l [108, 111, 111, 112] = false) (p1 : isT l [105, 102] = false) (p2 : isT l [97, 116, 111, 109, 105, 99] = false) (p3 : isT l [108, 101, 116] = false) (p4 : isT l [118, 97, 114] = false) (p5 : isT l [115, 101, 116] = false) (p6 : isT l [112, 114, 105, 110, 116] = false) (p7 : isT l [98, 114, 101, 97, 107] = false) (p8 : isT l [99, 111, 110, 116, 105, 110, 117, 101] = false) (pk : isT l [99, 97, 108, 108] = true) (hx : (pb (some (ec 1 l.tail)) fun u l1 => pb (qV n d l1) fun xs l2 => fV (mkS (hd l) 11 (bs u.text) rt0 pl0 x0 0 xs [] []) l2) = some x) : Rd 124 [] ts d d l eH x := by
 have e67 := fun b (Y : St) hb => aC (eg h d 0 0 0 (b := b)) (s := Y) hb
 have g0 := fun b (Y : St) hb => aC (aE hr h d [108, 111, 111, 112] (b := b)) (s := Y) hb
 have g1 := fun b (Y : St) hb => aC (aE hr h d [105, 102] (b := b)) (s := Y) hb
 have g2 := fun b (Y : St) hb => aC (aE hr h d [97, 116, 111, 109, 105, 99] (b := b)) (s := Y) hb
 have g3 := fun b (Y : St) hb => aC (jV h d 0 0 0 [108, 101, 116] (b := b)) (s := Y) hb
 have g4 := fun b (Y : St) hb => aC (jV h d 0 0 0 [118, 97, 114] (b := b)) (s := Y) hb
 have g5 := fun b (Y : St) hb => aC (aE hr h d [115, 101, 116] (b := b)) (s := Y) hb
 have g6 := fun b (Y : St) hb => aC (aE hr h d [112, 114, 105, 110, 116] (b := b)) (s := Y) hb
 have g7 := fun b (Y : St) hb => aC (aE hr h d [98, 114, 101, 97, 107] (b := b)) (s := Y) hb
 have g8 := fun b (Y : St) hb => aC (aE hr h d [99, 111, 110, 116, 105, 110, 117, 101] (b := b)) (s := Y) hb
 have g9 := fun b (Y : St) hb => aC (aE hr h d [99, 97, 108, 108] (b := b)) (s := Y) hb
 have k1' : ¬ (((hd l).kind : Int) = 1) := by omega
 have s0 := h.isT hr pk; have h1 := ic hr s0 d 1
 cases x1 : ec 1 l.tail with
 | bad e q =>
  obtain rfl := bZ hx x1; obtain ⟨a', d'', eb⟩ := bJ h1 x1; refine ⟨a', d'', fun b Y hb => ?_⟩; have eb := eb hb; have e67 := e67 b Y hb; have f0 := g0 b Y hb; have f1 := g1 b Y hb; have f2 := g2 b Y hb; have f3 := g3 b Y hb; have f4 := g4 b Y hb; have f5 := g5 b Y hb; have f6 := g6 b Y hb; have f7 := g7 b Y hb; have f8 := g8 b Y hb; have f9 := g9 b Y hb; rw [dD]; obtain ⟨N, T, Lb, hN, hT, hL⟩ := lens3 Y; rw [hN] at hb
  conv => lhs; rw [← al (Y.af false b (pc ts l d))]
  simp only [pc, pcf, aT, Tok.c, br, aa, if_true, if_false, ae, cx, eP, fa, eH, cJ, fH, fS, p0, p1, p2, p3, p4, p5, p6, p7, p8, pk] at e67 f0 f1 f2 f3 f4 f5 f6 f7 f8 f9 eb ⊢
  generalize au ts = es at *
  simp (maxDischargeDepth := 8) [ij, hN, hT, hL, hb, e67, f0, f1, f2, f3, f4, f5, f6, f7, f8, f9, eb, p0, p1, p2, p3, p4, p5, p6, p7, p8, pk, k1, k1']
 | ok u1 l1 =>
  have hx := cM hx x1
  try dsimp only at hx
  have s1 := bO h1 x1; obtain ⟨y2, hy2⟩ := dP hx; rw [hy2] at hx; have h2 := EB hr ihe hd12 hn s1 hy2
  cases y2 with
  | bad e q =>
   obtain rfl := bZ hx rfl; obtain ⟨a', d'', eb⟩ := bJ h2 rfl; refine ⟨a', d'', fun b Y hb => ?_⟩; have eb := eb hb; have e67 := e67 b Y hb; have f0 := g0 b Y hb; have f1 := g1 b Y hb; have f2 := g2 b Y hb; have f3 := g3 b Y hb; have f4 := g4 b Y hb; have f5 := g5 b Y hb; have f6 := g6 b Y hb; have f7 := g7 b Y hb; have f8 := g8 b Y hb; have f9 := g9 b Y hb; have e1 := aU h1 x1 hb; rw [dD]; obtain ⟨N, T, Lb, hN, hT, hL⟩ := lens3 Y; rw [hN] at hb
   conv => lhs; rw [← al (Y.af false b (pc ts l d))]
   simp only [pc, pcf, aT, Tok.c, br, aa, if_true, if_false, ae, cx, eP, fa, eH, cJ, fH, fS, p0, p1, p2, p3, p4, p5, p6, p7, p8, pk] at e67 f0 f1 f2 f3 f4 f5 f6 f7 f8 f9 e1 eb ⊢
   generalize au ts = es at *
   simp (maxDischargeDepth := 8) [ij, hN, hT, hL, hb, e67, f0, f1, f2, f3, f4, f5, f6, f7, f8, f9, e1, eb, p0, p1, p2, p3, p4, p5, p6, p7, p8, pk, k1, k1']
  | ok xs2 l2 =>
   have hx := cM hx rfl
   try dsimp only at hx
   have s2 := bO h2 rfl; unfold fV at hx; have h3 := eZ hr s2 d [59]
   cases x3 : cL [59] l2 with
   | bad e q =>
    obtain rfl := bZ hx x3; obtain ⟨a', d'', eb⟩ := bJ h3 x3; refine ⟨a', d'', fun b Y hb => ?_⟩; have eb := eb hb; have e67 := e67 b Y hb; have f0 := g0 b Y hb; have f1 := g1 b Y hb; have f2 := g2 b Y hb; have f3 := g3 b Y hb; have f4 := g4 b Y hb; have f5 := g5 b Y hb; have f6 := g6 b Y hb; have f7 := g7 b Y hb; have f8 := g8 b Y hb; have f9 := g9 b Y hb; have e1 := aU h1 x1 hb; have e2 := aU h2 rfl hb; rw [dD]; obtain ⟨N, T, Lb, hN, hT, hL⟩ := lens3 Y; rw [hN] at hb
    conv => lhs; rw [← al (Y.af false b (pc ts l d))]
    simp only [pc, pcf, aT, Tok.c, br, aa, if_true, if_false, ae, cx, eP, fa, eH, cJ, fH, fS, p0, p1, p2, p3, p4, p5, p6, p7, p8, pk] at e67 f0 f1 f2 f3 f4 f5 f6 f7 f8 f9 e1 e2 eb ⊢
    generalize au ts = es at *
    simp (maxDischargeDepth := 8) [ij, hN, hT, hL, hb, e67, f0, f1, f2, f3, f4, f5, f6, f7, f8, f9, e1, e2, eb, p0, p1, p2, p3, p4, p5, p6, p7, p8, pk, k1, k1']
   | ok u3 l3 =>
    have hx := cM hx x3
    try dsimp only at hx
    have s3 := bO h3 x3; obtain rfl := Option.some.inj hx; refine ⟨s3, fun b Y hb => ?_⟩; have e67 := e67 b Y hb; have f0 := g0 b Y hb; have f1 := g1 b Y hb; have f2 := g2 b Y hb; have f3 := g3 b Y hb; have f4 := g4 b Y hb; have f5 := g5 b Y hb; have f6 := g6 b Y hb; have f7 := g7 b Y hb; have f8 := g8 b Y hb; have f9 := g9 b Y hb; have e1 := aU h1 x1 hb; have e2 := aU h2 rfl hb; have e3 := aU h3 x3 hb; rw [dD]; obtain ⟨N, T, Lb, hN, hT, hL⟩ := lens3 Y; rw [hN] at hb
    conv => lhs; rw [← al (Y.af false b (pc ts l d))]
    simp only [pc, pcf, aT, Tok.c, br, aa, if_true, if_false, ae, cx, eP, fa, eH, cJ, fH, fS, p0, p1, p2, p3, p4, p5, p6, p7, p8, pk] at e67 f0 f1 f2 f3 f4 f5 f6 f7 f8 f9 e1 e2 e3 ⊢
    generalize au ts = es at *
    simp (maxDischargeDepth := 8) [ij, hN, hT, hL, hb, e67, f0, f1, f2, f3, f4, f5, f6, f7, f8, f9, e1, e2, e3, p0, p1, p2, p3, p4, p5, p6, p7, p8, pk, k1, k1']
theorem Bp {d : Nat} {l : List Tok} {x : PR S} (hd12 : d ≤ 12) (h : Sfx ts l) (k1 : (hd l).kind ≠ 1) (p0 : isT l [108, 111, 111, 112] = false) (p1 : isT l [105, 102] = false) (p2 : isT l [97, 116, 111, 109, 105, 99] = false) (p3 : isT l [108, 101, 116] = false) (p4 : isT l [118, 97, 114] = false) (p5 : isT l [115, 101, 116] = false) (p6 : isT l [112, 114, 105, 110, 116] = false) (p7 : isT l [98, 114, 101, 97, 107] = false) (p8 : isT l [99, 111, 110, 116, 105, 110, 117, 101] = false) (p9 : isT l [99, 97, 108, 108] = false)  (hx : some (.bad 4 (hd l).p) = some x) : Rd 124 [] ts d d l eH x := by
 have e67 := fun b (Y : St) hb => aC (eg h d 0 0 0 (b := b)) (s := Y) hb
 have k1' : ¬ (((hd l).kind : Int) = 1) := by omega
 obtain rfl := Option.some.inj hx; refine ⟨pcA ts l, d, fun b Y hb => ?_⟩; have e74 := aC (nY (au ts) (pcA ts l) d 4 (hd l) (b := b)) hb; have e67 := e67 b Y hb; have f0 := aC (aE hr h d [108, 111, 111, 112] (b := b)) (s := Y) hb; have f1 := aC (aE hr h d [105, 102] (b := b)) (s := Y) hb; have f2 := aC (aE hr h d [97, 116, 111, 109, 105, 99] (b := b)) (s := Y) hb; have f3 := aC (jV h d 0 0 0 [108, 101, 116] (b := b)) (s := Y) hb; have f4 := aC (jV h d 0 0 0 [118, 97, 114] (b := b)) (s := Y) hb; have f5 := aC (aE hr h d [115, 101, 116] (b := b)) (s := Y) hb; have f6 := aC (aE hr h d [112, 114, 105, 110, 116] (b := b)) (s := Y) hb; have f7 := aC (aE hr h d [98, 114, 101, 97, 107] (b := b)) (s := Y) hb; have f8 := aC (aE hr h d [99, 111, 110, 116, 105, 110, 117, 101] (b := b)) (s := Y) hb; have f9 := aC (aE hr h d [99, 97, 108, 108] (b := b)) (s := Y) hb; have e74 := e74; rw [dD]; obtain ⟨N, T, Lb, hN, hT, hL⟩ := lens3 Y; rw [hN] at hb
 conv => lhs; rw [← al (Y.af false b (pc ts l d))]
 simp only [pc, pcf, aT, Tok.c, br, aa, if_true, if_false, ae, cx, eP, fa, eH, cJ, fH, p0, p1, p2, p3, p4, p5, p6, p7, p8, p9] at e67 f0 f1 f2 f3 f4 f5 f6 f7 f8 f9 e74 ⊢
 generalize au ts = es at *
 simp (maxDischargeDepth := 8) [ij, hN, hT, hL, hb, e67, f0, f1, f2, f3, f4, f5, f6, f7, f8, f9, e74, p0, p1, p2, p3, p4, p5, p6, p7, p8, p9, k1, k1']
end
end Go.Proofs.YtlhlijaondmccaaGreatDoor.S
namespace Go.Proofs.YtlhlijaondmccaaGreatDoor.S
open Go Go.AM Go.Proofs
theorem FD {ts : List Tok} (hr : Row ts) {n : Nat} (hn : n ≤ 1000000) (ihe : mX ts n) (ih : rO ts n) : ∀ d l x, d ≤ 12 → Sfx ts l → iC (n + 1) d l = some x → Rd 124 [] ts d d l eH x := by
 intro d l x hd12 h hx; simp only [iC] at hx
 by_cases k1 : (hd l).kind = 1
 · rw [if_pos k1] at hx
   exact Bo hr hn ihe ih hd12 h k1 hx
 rw [if_neg k1] at hx
 cases p0 : isT l [108, 111, 111, 112] with
 | true => rw [if_pos p0] at hx; exact Bn hr hn ihe ih hd12 h k1 p0 hx
 | false =>
 rw [if_neg (by rw [p0]; decide)] at hx
 cases p1 : isT l [105, 102] with
 | true => rw [if_pos p1] at hx; exact FC hr hn ihe ih hd12 h k1 p0 p1 hx
 | false =>
 rw [if_neg (by rw [p1]; decide)] at hx
 cases p2 : isT l [97, 116, 111, 109, 105, 99] with
 | true => rw [if_pos p2] at hx; exact xi hr hn ihe ih hd12 h k1 p0 p1 p2 hx
 | false =>
 rw [if_neg (by rw [p2]; decide)] at hx
 cases p3 : isT l [108, 101, 116] with
 | true =>
  rw [if_pos (dw p3), if_neg (by rw [pO p3]; decide)] at hx; exact Du hr hn ihe ih hd12 h k1 p0 p1 p2 p3 hx
 | false =>
 cases p4 : isT l [118, 97, 114] with
 | true =>
  rw [if_pos (dr p4), if_pos (pO p4)] at hx; exact Dw hr hn ihe ih hd12 h k1 p0 p1 p2 p3 p4 hx
 | false =>
 rw [if_neg (by rw [p3, p4]; decide)] at hx
 cases p5 : isT l [115, 101, 116] with
 | true => rw [if_pos p5] at hx; exact Dv hr hn ihe ih hd12 h k1 p0 p1 p2 p3 p4 p5 hx
 | false =>
 rw [if_neg (by rw [p5]; decide)] at hx
 cases p6 : isT l [112, 114, 105, 110, 116] with
 | true => rw [if_pos p6] at hx; exact yu hr hn ihe ih hd12 h k1 p0 p1 p2 p3 p4 p5 p6 hx
 | false =>
 rw [if_neg (by rw [p6]; decide)] at hx
 cases p7 : isT l [98, 114, 101, 97, 107] with
 | true => rw [if_pos p7] at hx; exact yq hr hn ihe ih hd12 h k1 p0 p1 p2 p3 p4 p5 p6 p7 hx
 | false =>
 rw [if_neg (by rw [p7]; decide)] at hx
 cases p8 : isT l [99, 111, 110, 116, 105, 110, 117, 101] with
 | true => rw [if_pos p8] at hx; exact tz hr hn ihe ih hd12 h k1 p0 p1 p2 p3 p4 p5 p6 p7 p8 hx
 | false =>
 rw [if_neg (by rw [p8]; decide)] at hx
 cases p9 : isT l [99, 97, 108, 108] with
 | true => rw [if_pos p9] at hx; exact Bm hr hn ihe ih hd12 h k1 p0 p1 p2 p3 p4 p5 p6 p7 p8 p9 hx
 | false =>
 rw [if_neg (by rw [p9]; decide)] at hx; exact Bp hr hn ihe ih hd12 h k1 p0 p1 p2 p3 p4 p5 p6 p7 p8 p9 hx
theorem Dr {ts : List Tok} (hr : Row ts) : ∀ n, n ≤ 1000000 → rO ts n ∧ ∀ d acc l x, d ≤ 12 → acc.length + n ≤ 1000000 → Sfx ts l → j9 n d acc l = some x → D4 ts d acc l x
 | 0, _ => by
  refine ⟨⟨?_, ?_, ?_⟩, ?_⟩
  · intro d l x _ _ h; simp [en] at h
  · intro d t name l x _ _ h; simp [iB] at h
  · intro d l x _ _ h; simp [iC] at h
  · intro d acc l x _ _ _ h; simp [j9] at h
 | n + 1, hn => by
  obtain ⟨i, r⟩ := Dr hr n (by omega); obtain ⟨e, _⟩ := zm hr n; exact ⟨⟨B8 hr (by omega) r, fun d t name l x h1 h2 h3 => Fa hr i d t name l x h1 h2 h3, FD hr (by omega) e i⟩, Hh hr i r⟩
abbrev nmC (x : Nm) : List PV := [.v (.string x.name), .v (.int .i64 x.ty.kd), .v (.string x.ty.rc), .v (.int .i64 x.line), .v (.int .i64 x.col)]
def nms (l : List Nm) : List (List PV) := l.map nmC
theorem qG (l : List Nm) : dm 5 (nms l) = true := kP nmC (fun _ => rfl) l
theorem vj (a b : List Nm) : nms (a ++ b) = nms a ++ nms b := List.map_append ..
theorem gX (a : List Nm) : (nms a).length = a.length := List.length_map ..
abbrev jQ (r : Rec) : PV := .agg [.v (.string r.name), .sl (nms r.fields) .dead, .v (.int .i64 r.line), .v (.int .i64 r.col)]
attribute [local simp] cY cu bV bW cv dS fk dY dh dW dc dX de fj bX gU dR gW gK gE AM.ab aL aM aY aN ay AM.onG fK bF dF Ex.ba cond_true cond_false cU cT cS cR cQ cW cP cX cV dZ di dj cr cZ AM.du AM.cellsOf AM.ao bE beq_true dm ai aD bh bu bP decide_true decide_false bC bm bn bA bf aB az bg aA da db fg aw bB bj bM cw dQ dU cI eu ep set_set eD dA fE dB cF bG dz cE dy cD dx eC eE fA fB bK cq eo fw ed aV aR aF AM.aQ ah dt bU aZ bc aJ aI AM.part aO aK bY cg cf cn cn.eS AM.dL bq bT dJ fQ aV laid aG aW cj
attribute [-simp] ag
attribute [local congr] dK
def Gi (ts : List Tok) (d : Nat) (acc : List Nm) (l : List Tok) (x : PR (List Nm)) : Prop := match x with
 | .ok xs l' => Sfx ts l' ∧ ∀ b (Y : St), b < Y.stk.length → ∀ N T Lb, Y.stk.length = N → Y.tk.length = T → Y.lp.length = Lb → ∀ c tk (B0 B1 : List PV) (nm : ByteArray) (ln cl : Int), gZ T tk c acc.length 5 → ∃ c' tk',
  itE (S69.b0 (E L) itE N Lb) [.ptr false b 0, .ptr false N 0, .ptr false (N + 2) 0] ((Y.af false b (pc ts l d)).app [⟨B0, []⟩, ⟨B1, []⟩, ⟨[.v (.string nm), .sl (nms acc) c, .v (.int .i64 ln), .v (.int .i64 cl)], []⟩] tk []) =
   some (.exit 0, [.ptr false b 0, .ptr false N 0, .ptr false (N + 2) 0], (Y.af false b (pc ts l' d)).app [⟨B0, []⟩, ⟨B1, []⟩, ⟨[.v (.string nm), .sl (nms xs) c', .v (.int .i64 ln), .v (.int .i64 cl)], []⟩] tk' [])
 | .bad er p => ∃ a' d'', ∀ b (Y : St), b < Y.stk.length → ∀ N T Lb, Y.stk.length = N → Y.tk.length = T → Y.lp.length = Lb → ∀ c tk (B0 B1 : List PV) (nm : ByteArray) (ln cl : Int), gZ T tk c acc.length 5 → ∃ B2 tk',
  itE (S69.b0 (E L) itE N Lb) [.ptr false b 0, .ptr false N 0, .ptr false (N + 2) 0] ((Y.af false b (pc ts l d)).app [⟨B0, []⟩, ⟨B1, []⟩, ⟨[.v (.string nm), .sl (nms acc) c, .v (.int .i64 ln), .v (.int .i64 cl)], []⟩] tk []) =
   some (.pan 108 (.agg #[]), [.ptr false b 0, .ptr false N 0, .ptr false (N + 2) 0], (Y.af false b (pcf (au ts) a' d'' er p.1 p.2)).app [⟨B0, []⟩, ⟨B1, []⟩, ⟨B2, []⟩] tk' [])
section
variable {ts : List Tok} (hr : Row ts)
include hr
theorem v7 {d : Nat} : ∀ n acc l x, acc.length + n ≤ 1000000 → Sfx ts l → gj n acc l = some x → Gi ts d acc l x := by
 intro n
 induction n with
 | zero => intro acc l x _ _ hx; simp [gj] at hx
 | succ n ih =>
  intro acc l x hac h hx; simp only [gj] at hx
  cases i1 : isT l [125] with
  | true =>
   rw [if_pos i1] at hx; obtain rfl := Option.some.inj hx; refine ⟨h.isT hr i1, fun b Y hb N T Lb hN hT hL c tk B0 B1 nm ln cl ho => ⟨c, tk, ?_⟩⟩; have e1 := aC (aE hr h d [125] (b := b)) (s := Y) hb; simp only [pc, pcf, i1, if_true] at e1 ⊢
   generalize au ts = es at *
   apply ft; simp [S69.b0, hN, hT, hL, hb, e1, i1]
  | false =>
   rw [if_neg (by rw [i1]; decide)] at hx; obtain ⟨y, hy⟩ := dP hx; rw [hy] at hx; have h2 := sB hr h d hy
   cases y with
   | bad er q =>
    obtain rfl := bZ hx rfl; obtain ⟨a', d'', eb⟩ := bJ h2 rfl; refine ⟨a', d'', fun b Y hb N T Lb hN hT hL c tk B0 B1 nm ln cl ho => ⟨[.v (.string nm), .sl (nms acc) c, .v (.int .i64 ln), .v (.int .i64 cl)], tk, ?_⟩⟩; have e1 := aC (aE hr h d [125] (b := b)) (s := Y) hb; have eb := eb hb; simp only [pc, pcf, i1, if_false, ae] at e1 eb ⊢
    generalize au ts = es at *
    apply jd; simp [S69.b0, hN, hT, hL, hb, e1, eb, i1]
   | ok s l1 =>
    have hx := cM hx rfl
    try dsimp only at hx
    have s1 := bO h2 rfl
    have own : ∀ (b : Nat) (Y : St) (T : Nat), Y.tk.length = T → ∀ c tk, gZ T tk c acc.length 5 → ∃ c' tk', (∀ (bl : List Blk) (lp : List Aux) (base : Nat) (z : List PV), dv base z 5 56 (.sl (nms acc) c) [nmC s] ((Y.af false b (pc ts l1 d)).app bl tk lp) = some (.sl (nms (acc ++ [s])) c', (Y.af false b (pc ts l1 d)).app bl tk' lp)) ∧ gZ T tk' c' (acc ++ [s]).length 5 := by
     intro b Y T hT c tk ho; rw [← gX] at ho; have := ho.grow (ys := [nmC s]) (bytes := 56) (b := b) (cs := pc ts l1 d) hT (by rw [gX, bz]; unfold dO; omega) (qG _) (qG [s]) (by omega) (by omega); rw [vj]; simpa [gX, nms] using this
    have h3 := eZ hr s1 d [59]
    cases x3 : cL [59] l1 with
    | bad er q =>
     obtain rfl := bZ hx x3; obtain ⟨a', d'', eb⟩ := bJ h3 x3; refine ⟨a', d'', fun b Y hb N T Lb hN hT hL c tk B0 B1 nm ln cl ho => ?_⟩; obtain ⟨c', tk', ea, _⟩ := own b Y T hT c tk ho; refine ⟨[.v (.string nm), .sl (nms (acc ++ [s])) c', .v (.int .i64 ln), .v (.int .i64 cl)], tk', ?_⟩; have e1 := aC (aE hr h d [125] (b := b)) (s := Y) hb; have e2 := aU h2 rfl hb; have eb := eb hb; simp only [pc, pcf, aT, iJ, iK, nmC, i1, if_false, ae] at e1 e2 ea eb ⊢
     generalize au ts = es at *
     apply jd; simp [S69.b0, hN, hT, hL, hb, e1, e2, cm, ea, eb, i1, aX, jh, gm, AM.cC, AM.eR, chunks]
    | ok u l3 =>
     have hx := cM hx x3
     try dsimp only at hx
     have s3 := bO h3 x3; have h4 := ih (acc ++ [s]) l3 x (by simp only [bH, bz]; omega) s3 hx
     have stp : ∀ b (Y : St), b < Y.stk.length → ∀ N T Lb, Y.stk.length = N → Y.tk.length = T → Y.lp.length = Lb → ∀ c tk (B0 B1 : List PV) (nm : ByteArray) (ln cl : Int), gZ T tk c acc.length 5 → ∃ c' tk', gZ T tk' c' (acc ++ [s]).length 5 ∧
      S69.b0 (E L) itE N Lb [.ptr false b 0, .ptr false N 0, .ptr false (N + 2) 0] ((Y.af false b (pc ts l d)).app [⟨B0, []⟩, ⟨B1, []⟩, ⟨[.v (.string nm), .sl (nms acc) c, .v (.int .i64 ln), .v (.int .i64 cl)], []⟩] tk []) =
       some (.normal, [.ptr false b 0, .ptr false N 0, .ptr false (N + 2) 0], (Y.af false b (pc ts l3 d)).app [⟨B0, []⟩, ⟨B1, []⟩, ⟨[.v (.string nm), .sl (nms (acc ++ [s])) c', .v (.int .i64 ln), .v (.int .i64 cl)], []⟩] tk' []) := by
      intro b Y hb N T Lb hN hT hL c tk B0 B1 nm ln cl ho; obtain ⟨c', tk', ea, ho'⟩ := own b Y T hT c tk ho; refine ⟨c', tk', ho', ?_⟩; have e1 := aC (aE hr h d [125] (b := b)) (s := Y) hb; have e2 := aU h2 rfl hb; have e3 := aU h3 x3 hb; simp only [pc, pcf, aT, iJ, iK, nmC, i1, if_false, ae] at e1 e2 e3 ea ⊢
      generalize au ts = es at *
      simp [S69.b0, hN, hT, hL, hb, e1, e2, e3, cm, ea, i1, aX, jh, gm, AM.cC, AM.eR, chunks]
     cases x with
     | ok xs l' =>
      refine ⟨h4.1, fun b Y hb N T Lb hN hT hL c tk B0 B1 nm ln cl ho => ?_⟩; obtain ⟨c1, tk1, ho1, hs⟩ := stp b Y hb N T Lb hN hT hL c tk B0 B1 nm ln cl ho; obtain ⟨c', tk', hit⟩ := h4.2 b Y hb N T Lb hN hT hL c1 tk1 B0 B1 nm ln cl ho1; exact ⟨c', tk', (bQ hs).trans hit⟩
     | bad er p =>
      obtain ⟨a', d'', h4⟩ := h4; refine ⟨a', d'', fun b Y hb N T Lb hN hT hL c tk B0 B1 nm ln cl ho => ?_⟩; obtain ⟨c1, tk1, ho1, hs⟩ := stp b Y hb N T Lb hN hT hL c tk B0 B1 nm ln cl ho; obtain ⟨z, tk', hit⟩ := h4 b Y hb N T Lb hN hT hL c1 tk1 B0 B1 nm ln cl ho1; exact ⟨z, tk', (bQ hs).trans hit⟩
theorem Hg {d n : Nat} {l : List Tok} {x : PR Rec} (hn : n ≤ 1000000) (h : Sfx ts l) (hx : vq n l = some x) : Rd 69 [] ts d d l jQ x := by
 unfold vq at hx; have h1 := ic hr h d 1
 cases x1 : ec 1 l with
 | bad e q =>
  obtain rfl := bZ hx x1; obtain ⟨a', d'', eb⟩ := bJ h1 x1; refine ⟨a', d'', fun b Y hb => ?_⟩; have eb := eb hb; rw [uG]; obtain ⟨N, T, Lb, hN, hT, hL⟩ := lens3 Y; rw [hN] at hb
  conv => lhs; rw [← al (Y.af false b (pc ts l d))]
  simp only [pc, pcf, aT, Tok.c, br, aa] at eb ⊢
  generalize au ts = es at *
  simp [S69, hN, hT, hL, hb, eb]
 | ok t l1 =>
  have hx := cM hx x1
  try dsimp only at hx
  have s1 := bO h1 x1; have h2 := eZ hr s1 d [123]
  cases x2 : cL [123] l1 with
  | bad e q =>
   obtain rfl := bZ hx x2; obtain ⟨a', d'', eb⟩ := bJ h2 x2; refine ⟨a', d'', fun b Y hb => ?_⟩; have e1 := aU h1 x1 hb; have eb := eb hb; rw [uG]; obtain ⟨N, T, Lb, hN, hT, hL⟩ := lens3 Y; rw [hN] at hb
   conv => lhs; rw [← al (Y.af false b (pc ts l d))]
   simp only [pc, pcf, aT, Tok.c, br, aa] at e1 eb ⊢
   generalize au ts = es at *
   simp [S69, hN, hT, hL, hb, e1, eb]
  | ok u l2 =>
   have hx := cM hx x2
   try dsimp only at hx
   have s2 := bO h2 x2; obtain ⟨y, hy⟩ := dP hx; rw [hy] at hx; have h3 := v7 hr (d := d) n [] l2 y (by simpa using hn) s2 hy
   cases y with
   | bad er q =>
    obtain rfl := bZ hx rfl; obtain ⟨a', d'', h3⟩ := h3; refine ⟨a', d'', fun b Y hb => ?_⟩; have e1 := aU h1 x1 hb; have e2 := aU h2 x2 hb; obtain ⟨z, tk', hit⟩ := h3 b Y hb _ _ _ rfl rfl rfl .nil [] [str [], .sl [] .nil, .v (.int .i64 0), .v (.int .i64 0)] t.c (bs t.text) t.p.1 t.p.2 (.inl (.inl rfl)); rw [uG]; obtain ⟨N, T, Lb, hN, hT, hL⟩ := lens3 Y; rw [hN] at hb; rw [hN] at hit
    conv => lhs; rw [← al (Y.af false b (pc ts l d))]
    rw [hL] at hit; simp only [pc, pcf, aT, Tok.c, br, aa, nms, bc] at e1 e2 hit ⊢
    generalize au ts = es at *
    simp [S69, hN, hT, hL, hb, e1, e2, hit, Ex.ba]
   | ok fs l3 =>
    obtain rfl := Option.some.inj (cM hx rfl); refine ⟨h3.1, fun b Y hb => ?_⟩; have e1 := aU h1 x1 hb; have e2 := aU h2 x2 hb; obtain ⟨c', tk', hit⟩ := h3.2 b Y hb _ _ _ rfl rfl rfl .nil [] [str [], .sl [] .nil, .v (.int .i64 0), .v (.int .i64 0)] t.c (bs t.text) t.p.1 t.p.2 (.inl (.inl rfl)); rw [uG]; obtain ⟨N, T, Lb, hN, hT, hL⟩ := lens3 Y; rw [hN] at hb; rw [hN] at hit
    conv => lhs; rw [← al (Y.af false b (pc ts l d))]
    rw [hL] at hit; simp only [pc, pcf, aT, Tok.c, br, aa, nms, bc] at e1 e2 hit ⊢
    generalize au ts = es at *
    simp [S69, hN, hT, hL, hb, e1, e2, hit, Ex.ba]
    rfl
end
abbrev mQ (r : Fu) : PV := .agg [.v (.string r.name), .sl (nms r.params) .dead, .sl (fL r.body) .dead, .v (.int .i64 r.line), .v (.int .i64 r.col)]
attribute [local simp] cY cu bV bW cv dS fk dY dh dW dc dX de fj bX gU dR gW gK gE AM.ab aL aM aY aN ay AM.onG fK bF dF Ex.ba cond_true cond_false cU cT cS cR cQ cW cP cX cV dZ di dj cr cZ AM.du AM.cellsOf AM.ao bE beq_true dm ai aD bh bu bP decide_true decide_false bC bm bn bA bf aB az bg aA da db fg aw bB bj bM cw dQ dU cI eu ep set_set eD dA fE dB cF bG dz cE dy cD dx eC eE fA fB bK cq eo fw ed aV aR aF AM.aQ ah dt bU aZ bc aJ aI AM.part aO aK bY cg cf cn cn.eS AM.dL bq bT dJ fQ aV laid aG aW cj
attribute [local congr] dK
abbrev fuC (nm : ByteArray) (ps : List Nm) (c : Cap) (ln cl : Int) : List PV := [.v (.string nm), .sl (nms ps) c, .sl [] .nil, .v (.int .i64 ln), .v (.int .i64 cl)]
def Gm (ts : List Tok) (d : Nat) (acc : List Nm) (l : List Tok) (x : PR (List Nm)) : Prop := match x with
 | .ok xs l' => Sfx ts l' ∧ ∀ b (Y : St), b < Y.stk.length → ∀ N T Lb, Y.stk.length = N → Y.tk.length = T → Y.lp.length = Lb → ∀ c tk (B0 B1 : List PV) (nm : ByteArray) (ln cl : Int), gZ T tk c acc.length 5 → ∃ c' tk',
  itE (S72.b0 (E L) itE N Lb) [.ptr false b 0, .ptr false N 0, .ptr false (N + 2) 0] ((Y.af false b (pc ts l d)).app [⟨B0, []⟩, ⟨B1, []⟩, ⟨fuC nm acc c ln cl, []⟩] tk []) =
   some (.exit 0, [.ptr false b 0, .ptr false N 0, .ptr false (N + 2) 0], (Y.af false b (pc ts l' d)).app [⟨B0, []⟩, ⟨B1, []⟩, ⟨fuC nm xs c' ln cl, []⟩] tk' [])
 | .bad er p => ∃ a' d'', ∀ b (Y : St), b < Y.stk.length → ∀ N T Lb, Y.stk.length = N → Y.tk.length = T → Y.lp.length = Lb → ∀ c tk (B0 B1 : List PV) (nm : ByteArray) (ln cl : Int), gZ T tk c acc.length 5 → ∃ B2 tk',
  itE (S72.b0 (E L) itE N Lb) [.ptr false b 0, .ptr false N 0, .ptr false (N + 2) 0] ((Y.af false b (pc ts l d)).app [⟨B0, []⟩, ⟨B1, []⟩, ⟨fuC nm acc c ln cl, []⟩] tk []) =
   some (.pan 108 (.agg #[]), [.ptr false b 0, .ptr false N 0, .ptr false (N + 2) 0], (Y.af false b (pcf (au ts) a' d'' er p.1 p.2)).app [⟨B0, []⟩, ⟨B1, []⟩, ⟨B2, []⟩] tk' [])
section
variable {ts : List Tok} (hr : Row ts)
include hr
theorem wN {d : Nat} : ∀ n acc l x, acc.length + n ≤ 1000000 → Sfx ts l → fu n acc l = some x → Gm ts d acc l x := by
 intro n
 induction n with
 | zero => intro acc l x _ _ hx; simp [fu] at hx
 | succ n ih =>
  intro acc l x hac h hx; simp only [fu] at hx; obtain ⟨y, hy⟩ := dP hx; rw [hy] at hx; have h2 := sB hr h d hy
  cases y with
  | bad er q =>
   obtain rfl := bZ hx rfl; obtain ⟨a', d'', eb⟩ := bJ h2 rfl; refine ⟨a', d'', fun b Y hb N T Lb hN hT hL c tk B0 B1 nm ln cl ho => ⟨fuC nm acc c ln cl, tk, ?_⟩⟩; have eb := eb hb; simp only [pc, pcf, fuC] at eb ⊢
   generalize au ts = es at *
   apply jd; simp [S72.b0, hN, hT, hL, hb, eb]
  | ok s l1 =>
   have hx := cM hx rfl
   try dsimp only at hx
   have s1 := bO h2 rfl
   have own : ∀ (b : Nat) (Y : St) (T : Nat), Y.tk.length = T → ∀ c tk, gZ T tk c acc.length 5 → ∃ c' tk', (∀ (bl : List Blk) (lp : List Aux) (base : Nat) (z : List PV), dv base z 5 56 (.sl (nms acc) c) [nmC s] ((Y.af false b (pc ts l1 d)).app bl tk lp) = some (.sl (nms (acc ++ [s])) c', (Y.af false b (pc ts l1 d)).app bl tk' lp)) ∧ gZ T tk' c' (acc ++ [s]).length 5 := by
    intro b Y T hT c tk ho; rw [← gX] at ho; have := ho.grow (ys := [nmC s]) (bytes := 56) (b := b) (cs := pc ts l1 d) hT (by rw [gX, bz]; unfold dO; omega) (qG _) (qG [s]) (by omega) (by omega); rw [vj]; simpa [gX, nms] using this
   cases i1 : isT l1 [41] with
   | true =>
    rw [if_pos i1] at hx; obtain rfl := Option.some.inj hx; refine ⟨s1.isT hr i1, fun b Y hb N T Lb hN hT hL c tk B0 B1 nm ln cl ho => ?_⟩; obtain ⟨c', tk', ea, _⟩ := own b Y T hT c tk ho; refine ⟨c', tk', ?_⟩; have e1 := aC (aE hr s1 d [41] (b := b)) (s := Y) hb; have e2 := aU h2 rfl hb; simp only [pc, pcf, fuC, iJ, iK, nmC, i1, if_true] at e1 e2 ea ⊢
    generalize au ts = es at *
    apply ft; simp [S72.b0, hN, hT, hL, hb, e1, e2, cm, ea, i1, aX, jh, gm, AM.cC, AM.eR, chunks, Ex.ba]
   | false =>
    rw [if_neg (by rw [i1]; decide)] at hx; have h3 := eZ hr s1 d [44]
    cases x3 : cL [44] l1 with
    | bad er q =>
     obtain rfl := bZ hx x3; obtain ⟨a', d'', eb⟩ := bJ h3 x3; refine ⟨a', d'', fun b Y hb N T Lb hN hT hL c tk B0 B1 nm ln cl ho => ?_⟩; obtain ⟨c', tk', ea, _⟩ := own b Y T hT c tk ho; refine ⟨fuC nm (acc ++ [s]) c' ln cl, tk', ?_⟩; have e1 := aC (aE hr s1 d [41] (b := b)) (s := Y) hb; have e2 := aU h2 rfl hb; have eb := eb hb; simp only [pc, pcf, fuC, aT, iJ, iK, nmC, i1, if_false, ae] at e1 e2 ea eb ⊢
     generalize au ts = es at *
     apply jd; simp [S72.b0, hN, hT, hL, hb, e1, e2, cm, ea, eb, i1, aX, jh, gm, AM.cC, AM.eR, chunks]
    | ok u l3 =>
     have hx := cM hx x3
     try dsimp only at hx
     have s3 := bO h3 x3; have h4 := ih (acc ++ [s]) l3 x (by simp only [bH, bz]; omega) s3 hx
     have stp : ∀ b (Y : St), b < Y.stk.length → ∀ N T Lb, Y.stk.length = N → Y.tk.length = T → Y.lp.length = Lb → ∀ c tk (B0 B1 : List PV) (nm : ByteArray) (ln cl : Int), gZ T tk c acc.length 5 → ∃ c' tk', gZ T tk' c' (acc ++ [s]).length 5 ∧
      S72.b0 (E L) itE N Lb [.ptr false b 0, .ptr false N 0, .ptr false (N + 2) 0] ((Y.af false b (pc ts l d)).app [⟨B0, []⟩, ⟨B1, []⟩, ⟨fuC nm acc c ln cl, []⟩] tk []) =
       some (.normal, [.ptr false b 0, .ptr false N 0, .ptr false (N + 2) 0], (Y.af false b (pc ts l3 d)).app [⟨B0, []⟩, ⟨B1, []⟩, ⟨fuC nm (acc ++ [s]) c' ln cl, []⟩] tk' []) := by
      intro b Y hb N T Lb hN hT hL c tk B0 B1 nm ln cl ho; obtain ⟨c', tk', ea, ho'⟩ := own b Y T hT c tk ho; refine ⟨c', tk', ho', ?_⟩; have e1 := aC (aE hr s1 d [41] (b := b)) (s := Y) hb; have e2 := aU h2 rfl hb; have e3 := aU h3 x3 hb; simp only [pc, pcf, fuC, aT, iJ, iK, nmC, i1, if_false, ae] at e1 e2 e3 ea ⊢
      generalize au ts = es at *
      simp [S72.b0, hN, hT, hL, hb, e1, e2, e3, cm, ea, i1, aX, jh, gm, AM.cC, AM.eR, chunks]
     cases x with
     | ok xs l' =>
      refine ⟨h4.1, fun b Y hb N T Lb hN hT hL c tk B0 B1 nm ln cl ho => ?_⟩; obtain ⟨c1, tk1, ho1, hs⟩ := stp b Y hb N T Lb hN hT hL c tk B0 B1 nm ln cl ho; obtain ⟨c', tk', hit⟩ := h4.2 b Y hb N T Lb hN hT hL c1 tk1 B0 B1 nm ln cl ho1; exact ⟨c', tk', (bQ hs).trans hit⟩
     | bad er p =>
      obtain ⟨a', d'', h4⟩ := h4; refine ⟨a', d'', fun b Y hb N T Lb hN hT hL c tk B0 B1 nm ln cl ho => ?_⟩; obtain ⟨c1, tk1, ho1, hs⟩ := stp b Y hb N T Lb hN hT hL c tk B0 B1 nm ln cl ho; obtain ⟨z, tk', hit⟩ := h4 b Y hb N T Lb hN hT hL c1 tk1 B0 B1 nm ln cl ho1; exact ⟨z, tk', (bQ hs).trans hit⟩
end
end Go.Proofs.YtlhlijaondmccaaGreatDoor.S
namespace Go.Proofs.YtlhlijaondmccaaGreatDoor.S
open Go Go.AM Go.Proofs
attribute [local simp] cY cu bV bW cv dS fk dY dh dW dc dX de fj bX gU dR gW gK gE AM.ab aL aM aY aN ay AM.onG fK bF dF Ex.ba cond_true cond_false cU cT cS cR cQ cW cP cX cV dZ di dj cr cZ AM.du AM.cellsOf AM.ao bE beq_true dm ai aD bh bu bP decide_true decide_false bC bm bn bA bf aB az bg aA da db fg aw bB bj bM cw dQ dU cI eu ep set_set eD dA fE dB cF bG dz cE dy cD dx eC eE fA fB bK cq eo fw ed aV aR aF AM.aQ ah dt bU aZ bc aJ aI AM.part aO aK bY cg cf cn cn.eS AM.dL bq bT dJ fQ aV laid aG aW cj
attribute [-simp] ag
attribute [local congr] dK
theorem G3 {ts : List Tok} (hr : Row ts) {d n : Nat} (hd : d = 0) (hn : n ≤ 1000000) (ih : rO ts n) {l : List Tok} {x : PR Fu} (h : Sfx ts l) (hx : wj n l = some x) : Rd 72 [] ts d d l mQ x := by
 have hx : (pb (some (ec 1 l)) fun t l1 => pb (some (cL [40] l1)) fun _ l2 =>
  pb (if isT l2 [41] then some (.ok [] l2.tail) else fu n [] l2) fun ps l3 => pb (en n d l3) fun b l4 => some (.ok (⟨bs t.text, ps, b, t.p.1, t.p.2⟩ : Fu) l4)) = some x := by subst hd; exact hx
 have hd12 : d ≤ 12 := by omega
 have h1 := ic hr h d 1
 cases x1 : ec 1 l with
 | bad e q =>
  obtain rfl := bZ hx x1; obtain ⟨a', d'', eb⟩ := bJ h1 x1; refine ⟨a', d'', fun b Y hb => ?_⟩; have eb := eb hb; have eb := eb; rw [oE]; obtain ⟨N, T, Lb, hN, hT, hL⟩ := lens3 Y; rw [hN] at hb
  conv => lhs; rw [← al (Y.af false b (pc ts l d))]
  simp only [pc, pcf, aT, Tok.c, br, fuC, cJ, aa, nms, bc, if_true, if_false, ae] at eb ⊢
  generalize au ts = es at *
  simp [S72, hN, hT, hL, hb, eb, Ex.ba]
 | ok t l1 =>
  have hx := cM hx x1
  try dsimp only at hx
  have s1 := bO h1 x1; have h2 := eZ hr s1 d [40]
  cases x2 : cL [40] l1 with
  | bad e q =>
   obtain rfl := bZ hx x2; obtain ⟨a', d'', eb⟩ := bJ h2 x2; refine ⟨a', d'', fun b Y hb => ?_⟩; have eb := eb hb; have e1 := aU h1 x1 hb; have eb := eb; rw [oE]; obtain ⟨N, T, Lb, hN, hT, hL⟩ := lens3 Y; rw [hN] at hb
   conv => lhs; rw [← al (Y.af false b (pc ts l d))]
   simp only [pc, pcf, aT, Tok.c, br, fuC, cJ, aa, nms, bc, if_true, if_false, ae] at e1 eb ⊢
   generalize au ts = es at *
   simp [S72, hN, hT, hL, hb, e1, eb, Ex.ba]
  | ok u l2 =>
   have hx := cM hx x2
   try dsimp only at hx
   have s2 := bO h2 x2
   cases i3 : isT l2 [41] with
   | true =>
    rw [if_pos i3] at hx; have s3 := s2.isT hr i3; have hx := cM hx rfl
    try dsimp only at hx
    obtain ⟨z, hz⟩ := dP hx; rw [hz] at hx; have h5 := ih.blk _ _ _ hd12 s3 hz
    cases z with
    | bad e q =>
     obtain rfl := bZ hx rfl; obtain ⟨a', d'', eb⟩ := bJ h5 rfl; refine ⟨a', d'', fun b Y hb => ?_⟩; have eb := eb hb; have e1 := aU h1 x1 hb; have e2 := aU h2 x2 hb; have e3 := aC (aE hr s2 d [41] (b := b)) (s := Y) hb; have eb := eb; rw [oE]; obtain ⟨N, T, Lb, hN, hT, hL⟩ := lens3 Y; rw [hN] at hb
     conv => lhs; rw [← al (Y.af false b (pc ts l d))]
     simp only [pc, pcf, aT, Tok.c, br, fuC, cJ, aa, nms, bc, if_true, if_false, ae, i3] at e1 e2 e3 eb ⊢
     generalize au ts = es at *
     simp [S72, hN, hT, hL, hb, e1, e2, e3, eb, i3, Ex.ba]
    | ok bd l5 =>
     obtain rfl := Option.some.inj (cM hx rfl); refine ⟨bO h5 rfl, fun b Y hb => ?_⟩; have e1 := aU h1 x1 hb; have e2 := aU h2 x2 hb; have e3 := aC (aE hr s2 d [41] (b := b)) (s := Y) hb; have e5 := aU h5 rfl hb; rw [oE]; obtain ⟨N, T, Lb, hN, hT, hL⟩ := lens3 Y; rw [hN] at hb
     conv => lhs; rw [← al (Y.af false b (pc ts l d))]
     simp only [pc, pcf, aT, Tok.c, br, fuC, cJ, aa, nms, bc, if_true, if_false, ae, i3] at e1 e2 e3 e5 ⊢
     generalize au ts = es at *
     simp [S72, hN, hT, hL, hb, e1, e2, e3, e5, i3, Ex.ba]
     rfl
   | false =>
    rw [if_neg (by rw [i3]; decide)] at hx; obtain ⟨y, hy⟩ := dP hx; rw [hy] at hx; have h4 := wN hr (d := d) n [] l2 y (by simpa using hn) s2 hy
    cases y with
    | bad er q =>
     obtain rfl := bZ hx rfl; obtain ⟨a', d'', h4⟩ := h4; refine ⟨a', d'', fun b Y hb => ?_⟩; have e1 := aU h1 x1 hb; have e2 := aU h2 x2 hb; have e3 := aC (aE hr s2 d [41] (b := b)) (s := Y) hb; obtain ⟨z, tk', hit⟩ := h4 b Y hb _ _ _ rfl rfl rfl .nil [] [str [], .sl [] .nil, .sl [] .nil, .v (.int .i64 0), .v (.int .i64 0)] t.c (bs t.text) t.p.1 t.p.2 (.inl (.inl rfl)); rw [oE]; obtain ⟨N, T, Lb, hN, hT, hL⟩ := lens3 Y; rw [hN] at hb; rw [hN] at hit
     conv => lhs; rw [← al (Y.af false b (pc ts l d))]
     rw [hL] at hit; simp only [pc, pcf, aT, Tok.c, br, fuC, cJ, aa, nms, bc, if_true, if_false, ae, i3] at e1 e2 e3 hit ⊢
     generalize au ts = es at *
     simp [S72, hN, hT, hL, hb, e1, e2, e3, hit, i3, Ex.ba]
    | ok ps l4 =>
     have hx := cM hx rfl
     try dsimp only at hx
     have s4 := h4.1; obtain ⟨z, hz⟩ := dP hx; rw [hz] at hx; have h5 := ih.blk _ _ _ hd12 s4 hz
     cases z with
     | bad e q =>
      obtain rfl := bZ hx rfl; obtain ⟨a', d'', eb⟩ := bJ h5 rfl; refine ⟨a', d'', fun b Y hb => ?_⟩; have eb := eb hb; have e1 := aU h1 x1 hb; have e2 := aU h2 x2 hb; have e3 := aC (aE hr s2 d [41] (b := b)) (s := Y) hb; have eb := eb; obtain ⟨c', tk', hit⟩ := h4.2 b Y hb _ _ _ rfl rfl rfl .nil [] [str [], .sl [] .nil, .sl [] .nil, .v (.int .i64 0), .v (.int .i64 0)] t.c (bs t.text) t.p.1 t.p.2 (.inl (.inl rfl)); rw [oE]; obtain ⟨N, T, Lb, hN, hT, hL⟩ := lens3 Y; rw [hN] at hb; rw [hN] at hit
      conv => lhs; rw [← al (Y.af false b (pc ts l d))]
      rw [hL] at hit; simp only [pc, pcf, aT, Tok.c, br, fuC, cJ, aa, nms, bc, if_true, if_false, ae, i3] at e1 e2 e3 eb hit ⊢
      generalize au ts = es at *
      simp [S72, hN, hT, hL, hb, e1, e2, e3, eb, hit, i3, Ex.ba]
     | ok bd l5 =>
      obtain rfl := Option.some.inj (cM hx rfl); refine ⟨bO h5 rfl, fun b Y hb => ?_⟩; have e1 := aU h1 x1 hb; have e2 := aU h2 x2 hb; have e3 := aC (aE hr s2 d [41] (b := b)) (s := Y) hb; have e5 := aU h5 rfl hb; obtain ⟨c', tk', hit⟩ := h4.2 b Y hb _ _ _ rfl rfl rfl .nil [] [str [], .sl [] .nil, .sl [] .nil, .v (.int .i64 0), .v (.int .i64 0)] t.c (bs t.text) t.p.1 t.p.2 (.inl (.inl rfl)); rw [oE]; obtain ⟨N, T, Lb, hN, hT, hL⟩ := lens3 Y; rw [hN] at hb; rw [hN] at hit
      conv => lhs; rw [← al (Y.af false b (pc ts l d))]
      rw [hL] at hit; simp only [pc, pcf, aT, Tok.c, br, fuC, cJ, aa, nms, bc, if_true, if_false, ae, i3] at e1 e2 e3 e5 hit ⊢
      generalize au ts = es at *
      simp [S72, hN, hT, hL, hb, e1, e2, e3, e5, hit, i3, Ex.ba]
      rfl
end Go.Proofs.YtlhlijaondmccaaGreatDoor.S
namespace Go.Proofs.YtlhlijaondmccaaGreatDoor.S
open Go Go.AM Go.Proofs
theorem gZ.zr {T : Nat} {tk : List (Nat × Nat)} {c : Cap} {sz bytes : Nat} {es ys : List (List PV)} (h : gZ T tk c es.length sz) {b : Nat} {cs : List PV} {Y : St} (hT : Y.tk.length = T)
 (h1 : (es.length + ys.length) * bytes ≤ dO) (h2 : dm sz es = true) (h3 : dm sz ys = true) (h4 : sz ≠ 0) (h5 : bytes ≠ 0) :
 ∃ c' tk', (∀ (bl : List Blk) (lp : List Aux) (base : Nat) (z : List PV), dv base z sz bytes (.sl es c) ys ((Y.af false b cs).app bl tk lp) = some (.sl (es ++ ys) c', (Y.af false b cs).app bl tk' lp)) ∧ gZ T tk' c' (es ++ ys).length sz ∧
  (∀ {c2 n2 sz2}, gZ T tk c2 n2 sz2 → ql c c2 → gZ T tk' c2 n2 sz2 ∧ ql c' c2) := by
 subst hT; obtain ⟨c', tk', a, b, _, d⟩ := vI (s := Y.af false b cs) h h1 h2 h3 h4 h5; exact ⟨c', tk', a, b, d⟩
theorem gZ.sfc {T : Nat} {tk : List (Nat × Nat)} {c : Cap} {n sz : Nat} (h : gZ T tk c n sz) (m : Nat) : c.sf true m = true := by
 rcases h with (rfl | rfl) | ⟨j, rfl, _⟩ <;> rfl
abbrev recC (r : Rec) : List PV := [.v (.string r.name), .sl (nms r.fields) .dead, .v (.int .i64 r.line), .v (.int .i64 r.col)]
abbrev fuE (r : Fu) : List PV := [.v (.string r.name), .sl (nms r.params) .dead, .sl (fL r.body) .dead, .v (.int .i64 r.line), .v (.int .i64 r.col)]
abbrev thC (r : Th) : List PV := [.sl (fL r.body) .dead, .v (.int .i64 r.line), .v (.int .i64 r.col)]
def jX (l : List Rec) : List (List PV) := l.map recC
theorem wY (l : List Rec) : dm 4 (jX l) = true := kP recC (fun _ => rfl) l
theorem A6 (a b : List Rec) : jX (a ++ b) = jX a ++ jX b := List.map_append ..
theorem mG (a : List Rec) : (jX a).length = a.length := List.length_map ..
def om (l : List Fu) : List (List PV) := l.map fuE
theorem zp (l : List Fu) : dm 5 (om l) = true := kP fuE (fun _ => rfl) l
theorem Cz (a b : List Fu) : om (a ++ b) = om a ++ om b := List.map_append ..
theorem nx (a : List Fu) : (om a).length = a.length := List.length_map ..
def ot (l : List Th) : List (List PV) := l.map thC
theorem Af (l : List Th) : dm 3 (ot l) = true := kP thC (fun _ => rfl) l
theorem DA (a b : List Th) : ot (a ++ b) = ot a ++ ot b := List.map_append ..
theorem nM (a : List Th) : (ot a).length = a.length := List.length_map ..
abbrev pgC (g : Pg) (c1 c2 c3 c4 : Cap) : List PV := [.sl (jX g.gM) c1, .sl (nms g.gls) c2, .sl (om g.gJ) c3, .sl (ot g.ths) c4]
abbrev lJ (g : Pg) : PV := .agg (pgC g .dead .dead .dead .dead)
structure jM (T : Nat) (tk : List (Nat × Nat)) (c1 c2 c3 c4 : Cap) (g : Pg) : Prop where
 o1 : gZ T tk c1 g.gM.length 4
 o2 : gZ T tk c2 g.gls.length 5
 o3 : gZ T tk c3 g.gJ.length 5
 o4 : gZ T tk c4 g.ths.length 3
 d12 : ql c1 c2
 d13 : ql c1 c3
 d14 : ql c1 c4
 d23 : ql c2 c3
 d24 : ql c2 c4
 d34 : ql c3 c4
section
variable {T : Nat} {tk : List (Nat × Nat)} {c1 c2 c3 c4 : Cap} {g : Pg} (h : jM T tk c1 c2 c3 c4 g) {b : Nat} {cs : List PV} {Y : St} (hT : Y.tk.length = T)
include h hT
theorem jM.g1 (r : Rec) (hl : g.gM.length < 1000000) : ∃ c' tk', (∀ (bl : List Blk) (lp : List Aux) (base : Nat) (z : List PV), dv base z 4 56 (.sl (jX g.gM) c1) [recC r] ((Y.af false b cs).app bl tk lp) = some (.sl (jX (g.gM ++ [r])) c', (Y.af false b cs).app bl tk' lp)) ∧ jM T tk' c' c2 c3 c4 { g with gM := g.gM ++ [r] } := by
 have o := h.o1; rw [← mG] at o; obtain ⟨c', tk', a, o', r'⟩ := o.zr (ys := [recC r]) (bytes := 56) (b := b) (cs := cs) hT (by rw [mG, bz]; unfold dO; omega) (wY _) (wY [r]) (by omega) (by omega); have e : jX (g.gM ++ [r]) = jX g.gM ++ [recC r] := A6 _ _; refine ⟨c', tk', fun bl lp base z => by rw [e]; exact a bl lp base z, ?_⟩; rw [← e, mG] at o'; obtain ⟨q2, e2⟩ := r' h.o2 h.d12; obtain ⟨q3, e3⟩ := r' h.o3 h.d13; obtain ⟨q4, e4⟩ := r' h.o4 h.d14; exact ⟨o', q2, q3, q4, e2, e3, e4, h.d23, h.d24, h.d34⟩
theorem jM.g2 (r : Nm) (hl : g.gls.length < 1000000) : ∃ c' tk', (∀ (bl : List Blk) (lp : List Aux) (base : Nat) (z : List PV), dv base z 5 56 (.sl (nms g.gls) c2) [nmC r] ((Y.af false b cs).app bl tk lp) = some (.sl (nms (g.gls ++ [r])) c', (Y.af false b cs).app bl tk' lp)) ∧ jM T tk' c1 c' c3 c4 { g with gls := g.gls ++ [r] } := by
 have o := h.o2; rw [← gX] at o; obtain ⟨c', tk', a, o', r'⟩ := o.zr (ys := [nmC r]) (bytes := 56) (b := b) (cs := cs) hT (by rw [gX, bz]; unfold dO; omega) (qG _) (qG [r]) (by omega) (by omega); have e : nms (g.gls ++ [r]) = nms g.gls ++ [nmC r] := vj _ _; refine ⟨c', tk', fun bl lp base z => by rw [e]; exact a bl lp base z, ?_⟩; rw [← e, gX] at o'; obtain ⟨q1, e1⟩ := r' h.o1 (h.d12).symm; obtain ⟨q3, e3⟩ := r' h.o3 h.d23; obtain ⟨q4, e4⟩ := r' h.o4 h.d24; exact ⟨q1, o', q3, q4, (e1).symm, h.d13, h.d14, e3, e4, h.d34⟩
theorem jM.g3 (r : Fu) (hl : g.gJ.length < 1000000) : ∃ c' tk', (∀ (bl : List Blk) (lp : List Aux) (base : Nat) (z : List PV), dv base z 5 80 (.sl (om g.gJ) c3) [fuE r] ((Y.af false b cs).app bl tk lp) = some (.sl (om (g.gJ ++ [r])) c', (Y.af false b cs).app bl tk' lp)) ∧ jM T tk' c1 c2 c' c4 { g with gJ := g.gJ ++ [r] } := by
 have o := h.o3; rw [← nx] at o; obtain ⟨c', tk', a, o', r'⟩ := o.zr (ys := [fuE r]) (bytes := 80) (b := b) (cs := cs) hT (by rw [nx, bz]; unfold dO; omega) (zp _) (zp [r]) (by omega) (by omega); have e : om (g.gJ ++ [r]) = om g.gJ ++ [fuE r] := Cz _ _; refine ⟨c', tk', fun bl lp base z => by rw [e]; exact a bl lp base z, ?_⟩; rw [← e, nx] at o'; obtain ⟨q1, e1⟩ := r' h.o1 (h.d13).symm; obtain ⟨q2, e2⟩ := r' h.o2 (h.d23).symm; obtain ⟨q4, e4⟩ := r' h.o4 h.d34; exact ⟨q1, q2, o', q4, h.d12, (e1).symm, h.d14, (e2).symm, h.d24, e4⟩
theorem jM.g4 (r : Th) (hl : g.ths.length < 1000000) : ∃ c' tk', (∀ (bl : List Blk) (lp : List Aux) (base : Nat) (z : List PV), dv base z 3 40 (.sl (ot g.ths) c4) [thC r] ((Y.af false b cs).app bl tk lp) = some (.sl (ot (g.ths ++ [r])) c', (Y.af false b cs).app bl tk' lp)) ∧ jM T tk' c1 c2 c3 c' { g with ths := g.ths ++ [r] } := by
 have o := h.o4; rw [← nM] at o; obtain ⟨c', tk', a, o', r'⟩ := o.zr (ys := [thC r]) (bytes := 40) (b := b) (cs := cs) hT (by rw [nM, bz]; unfold dO; omega) (Af _) (Af [r]) (by omega) (by omega); have e : ot (g.ths ++ [r]) = ot g.ths ++ [thC r] := DA _ _; refine ⟨c', tk', fun bl lp base z => by rw [e]; exact a bl lp base z, ?_⟩; rw [← e, nM] at o'; obtain ⟨q1, e1⟩ := r' h.o1 (h.d14).symm; obtain ⟨q2, e2⟩ := r' h.o2 (h.d24).symm; obtain ⟨q3, e3⟩ := r' h.o3 (h.d34).symm; exact ⟨q1, q2, q3, o', h.d12, h.d13, (e1).symm, h.d23, (e2).symm, (e3).symm⟩
end
theorem jM.zero (T : Nat) : jM T [] .nil .nil .nil .nil ⟨[], [], [], []⟩ :=
 ⟨.inl (.inl rfl), .inl (.inl rfl), .inl (.inl rfl), .inl (.inl rfl), .inl rfl, .inl rfl, .inl rfl, .inl rfl, .inl rfl, .inl rfl⟩
end Go.Proofs.YtlhlijaondmccaaGreatDoor.S
namespace Go.Proofs.YtlhlijaondmccaaGreatDoor.S
open Go Go.AM Go.Proofs
attribute [local simp] cY cu bV bW cv dS fk dY dh dW dc dX de fj bX gU dR gW gK gE AM.ab aL aM aY aN ay AM.onG fK bF dF Ex.ba cond_true cond_false cU cT cS cR cQ cW cP cX cV dZ di dj cr cZ AM.du AM.cellsOf AM.ao bE beq_true dm ai aD bh bu bP decide_true decide_false bC bm bn bA bf aB az bg aA da db fg aw bB bj bM cw dQ dU cI eu ep set_set eD dA fE dB cF bG dz cE dy cD dx eC eE fA fB bK cq eo fw ed aV aR aF AM.aQ ah dt bU aZ bc aJ aI AM.part aO aK bY cg cf cn cn.eS AM.dL bq bT dJ fQ aV laid aG aW cj
attribute [-simp] ag
attribute [local congr] dK
abbrev z4 : List PV := [.sl [] .nil, .sl [] .nil, .sl [] .nil, .sl [] .nil]
def mO (ts : List Tok) (d : Nat) (g : Pg) (l : List Tok) (x : PR Pg) : Prop := match x with
 | .ok g' l' => Sfx ts l' ∧ ∀ b (Y : St), b < Y.stk.length → ∀ N T Lb, Y.stk.length = N → Y.tk.length = T → Y.lp.length = Lb → ∀ c1 c2 c3 c4 tk, jM T tk c1 c2 c3 c4 g → ∃ k1 k2 k3 k4 P tk',
  itE (S48.b0 (E L) itE N Lb) [.ptr false b 0, .ptr false N 0, .ptr false (N + 1) 0] ((Y.af false b (pc ts l d)).app [⟨z4, []⟩, ⟨pgC g c1 c2 c3 c4, []⟩] tk []) =
   some (.ret, [.ptr false b 0, .ptr false N 0, .ptr false (N + 1) 0], (Y.af false b (pc ts l' d)).app [⟨pgC g' k1 k2 k3 k4, []⟩, ⟨P, []⟩] tk' [])
 | .bad er p => ∃ a' d'', ∀ b (Y : St), b < Y.stk.length → ∀ N T Lb, Y.stk.length = N → Y.tk.length = T → Y.lp.length = Lb → ∀ c1 c2 c3 c4 tk, jM T tk c1 c2 c3 c4 g → ∃ P0 P1 tk',
  itE (S48.b0 (E L) itE N Lb) [.ptr false b 0, .ptr false N 0, .ptr false (N + 1) 0] ((Y.af false b (pc ts l d)).app [⟨z4, []⟩, ⟨pgC g c1 c2 c3 c4, []⟩] tk []) =
   some (.pan 108 (.agg #[]), [.ptr false b 0, .ptr false N 0, .ptr false (N + 1) 0], (Y.af false b (pcf (au ts) a' d'' er p.1 p.2)).app [⟨P0, []⟩, ⟨P1, []⟩] tk' [])
theorem kT (m : Nat) (es : List (List PV)) (c : Cap) : sf true m 4 (.sl es c) = c.sf true m := rfl
theorem jM.sfs {T : Nat} {tk : List (Nat × Nat)} {c1 c2 c3 c4 : Cap} {g : Pg} (h : jM T tk c1 c2 c3 c4 g) (m : Nat) : c1.sf true m = true ∧ c2.sf true m = true ∧ c3.sf true m = true ∧ c4.sf true m = true :=
 ⟨h.o1.sfc m, h.o2.sfc m, h.o3.sfc m, h.o4.sfc m⟩
section
variable {ts : List Tok} (hr : Row ts)
include hr
theorem C4 {d : Nat} {g : Pg} {l : List Tok} {x : PR Pg} (h : Sfx ts l) (k0 : (hd l).kind = 0) (hx : some (.ok g l) = some x) : mO ts d g l x := by
 obtain rfl := Option.some.inj hx; refine ⟨h, fun b Y hb N T Lb hN hT hL c1 c2 c3 c4 tk ho => ⟨c1, c2, c3, c4, pgC g c1 c2 c3 c4, tk, ?_⟩⟩; have e67 := aC (eg h d 0 0 0 (b := b)) (s := Y) hb; obtain ⟨f1, f2, f3, f4⟩ := ho.sfs (N + 2)
 have hb2 : b < N + 2 := by omega
 simp only [pc, pcf, aT, Tok.c, br, jQ, iJ, iK, mQ, cJ, nmC, aa, if_true, if_false, ae, k0] at e67 ⊢
 generalize au ts = es at *
 apply eF; simp [S48.b0, hN, hT, hL, hb, hb2, e67, k0, f1, f2, f3, f4, cm, aX, jh, gm, AM.cC, AM.eR, chunks, Ex.ba, cN, dS, kT]
theorem wU {d : Nat} {g : Pg} {l : List Tok} {x : PR Pg} (hd0 : d = 0) {n m : Nat} (hm : m ≤ 1000000) (ih : rO ts m) (hg : g.gM.length < 1000000) (ihp : ∀ g2 l x, g2.gM.length + g2.gls.length + g2.gJ.length + g2.ths.length = g.gM.length + g.gls.length + g.gJ.length + g.ths.length + 1 → Sfx ts l → eA n m g2 l = some x → mO ts d g2 l x) (h : Sfx ts l) (k0 : (hd l).kind ≠ 0)  (pk : isT l [114, 101, 99, 111, 114, 100] = true) (hx : (pb (vq m l.tail) fun r l1 => eA n m { g with gM := g.gM ++ [r] } l1) = some x) : mO ts d g l x := by
 have k0' : ¬ (((hd l).kind : Int) = 0) := by omega
 have s0 := h.isT hr pk; obtain ⟨y, hy⟩ := dP hx; rw [hy] at hx; have h2 := Hg hr (d := d) hm s0 hy
 cases y with
 | bad er q =>
  obtain rfl := bZ hx rfl; obtain ⟨a', d'', eb⟩ := bJ h2 rfl; refine ⟨a', d'', fun b Y hb N T Lb hN hT hL c1 c2 c3 c4 tk ho => ⟨z4, pgC g c1 c2 c3 c4, tk, ?_⟩⟩; have eb := eb hb; have e67 := aC (eg h d 0 0 0 (b := b)) (s := Y) hb; have f_0 := aC (aE hr h d [114, 101, 99, 111, 114, 100] (b := b)) (s := Y) hb; have eb := eb; obtain ⟨f1, f2, f3, f4⟩ := ho.sfs (N + 2)
  have hb2 : b < N + 2 := by omega
  simp only [pc, pcf, aT, Tok.c, br, jQ, iJ, iK, mQ, cJ, nmC, aa, if_true, if_false, ae, pk] at e67 f_0 eb ⊢
  generalize au ts = es at *
  apply jd; simp [S48.b0, hN, hT, hL, hb, hb2, e67, f_0, eb, pk, f1, f2, f3, f4, k0, k0', cm, aX, jh, gm, AM.cC, AM.eR, chunks, Ex.ba, cN, dS, kT]
 | ok r l1 =>
  have hx := cM hx rfl
  try dsimp only at hx
  have s1 := bO h2 rfl; have h4 := ihp _ l1 x (by simp only [bH, bz]; omega) s1 hx
  have stp : ∀ b (Y : St), b < Y.stk.length → ∀ N T Lb, Y.stk.length = N → Y.tk.length = T → Y.lp.length = Lb → ∀ c1 c2 c3 c4 tk, jM T tk c1 c2 c3 c4 g → ∃ c' tk', jM T tk' c' c2 c3 c4 { g with gM := g.gM ++ [r] } ∧
   S48.b0 (E L) itE N Lb [.ptr false b 0, .ptr false N 0, .ptr false (N + 1) 0] ((Y.af false b (pc ts l d)).app [⟨z4, []⟩, ⟨pgC g c1 c2 c3 c4, []⟩] tk []) = some (.normal, [.ptr false b 0, .ptr false N 0, .ptr false (N + 1) 0], (Y.af false b (pc ts l1 d)).app [⟨z4, []⟩, ⟨pgC { g with gM := g.gM ++ [r] } c' c2 c3 c4, []⟩] tk' []) := by
   intro b Y hb N T Lb hN hT hL c1 c2 c3 c4 tk ho; obtain ⟨c', tk', ea, ho'⟩ := ho.g1 (b := b) (cs := pc ts l1 d) hT r hg; refine ⟨c', tk', ho', ?_⟩; have e67 := aC (eg h d 0 0 0 (b := b)) (s := Y) hb; have f_0 := aC (aE hr h d [114, 101, 99, 111, 114, 100] (b := b)) (s := Y) hb; have e2 := aU h2 rfl hb; have ea := ea; obtain ⟨f1, f2, f3, f4⟩ := ho.sfs (N + 2); obtain ⟨f1', f2', f3', f4'⟩ := ho'.sfs (N + 2)
   have hb2 : b < N + 2 := by omega
   simp only [pc, pcf, aT, Tok.c, br, jQ, iJ, iK, mQ, cJ, nmC, aa, if_true, if_false, ae, pk] at e67 f_0 e2 ea ⊢
   generalize au ts = es at *
   simp [S48.b0, hN, hT, hL, hb, hb2, e67, f_0, e2, ea, pk, f1, f2, f3, f4, f1', f2', f3', f4', k0, k0', cm, aX, jh, gm, AM.cC, AM.eR, chunks, Ex.ba, cN, dS, kT]
  cases x with
  | ok g' l' =>
   refine ⟨h4.1, fun b Y hb N T Lb hN hT hL c1 c2 c3 c4 tk ho => ?_⟩; obtain ⟨c', tk1, ho1, hs⟩ := stp b Y hb N T Lb hN hT hL c1 c2 c3 c4 tk ho; obtain ⟨k1, k2, k3, k4, P, tk', hit⟩ := h4.2 b Y hb N T Lb hN hT hL c' c2 c3 c4 tk1 ho1; exact ⟨k1, k2, k3, k4, P, tk', (bQ hs).trans hit⟩
  | bad er p =>
   obtain ⟨a', d'', h4⟩ := h4; refine ⟨a', d'', fun b Y hb N T Lb hN hT hL c1 c2 c3 c4 tk ho => ?_⟩; obtain ⟨c', tk1, ho1, hs⟩ := stp b Y hb N T Lb hN hT hL c1 c2 c3 c4 tk ho; obtain ⟨P0, P1, tk', hit⟩ := h4 b Y hb N T Lb hN hT hL c' c2 c3 c4 tk1 ho1; exact ⟨P0, P1, tk', (bQ hs).trans hit⟩
theorem wT {d : Nat} {g : Pg} {l : List Tok} {x : PR Pg} (hd0 : d = 0) {n m : Nat} (hm : m ≤ 1000000) (ih : rO ts m) (hg : g.gls.length < 1000000) (ihp : ∀ g2 l x, g2.gM.length + g2.gls.length + g2.gJ.length + g2.ths.length = g.gM.length + g.gls.length + g.gJ.length + g.ths.length + 1 → Sfx ts l → eA n m g2 l = some x → mO ts d g2 l x) (h : Sfx ts l) (k0 : (hd l).kind ≠ 0) (p0 : isT l [114, 101, 99, 111, 114, 100] = false) (pk : isT l [103, 108, 111, 98, 97, 108] = true) (hx : (pb (jf l.tail) fun r l1 => pb (some (cL [59] l1)) fun _ l2 => eA n m { g with gls := g.gls ++ [r] } l2) = some x) : mO ts d g l x := by
 have k0' : ¬ (((hd l).kind : Int) = 0) := by omega
 have s0 := h.isT hr pk; obtain ⟨y, hy⟩ := dP hx; rw [hy] at hx; have h2 := sB hr s0 d hy
 cases y with
 | bad er q =>
  obtain rfl := bZ hx rfl; obtain ⟨a', d'', eb⟩ := bJ h2 rfl; refine ⟨a', d'', fun b Y hb N T Lb hN hT hL c1 c2 c3 c4 tk ho => ⟨z4, pgC g c1 c2 c3 c4, tk, ?_⟩⟩; have eb := eb hb; have e67 := aC (eg h d 0 0 0 (b := b)) (s := Y) hb; have f_0 := aC (aE hr h d [114, 101, 99, 111, 114, 100] (b := b)) (s := Y) hb; have f_1 := aC (aE hr h d [103, 108, 111, 98, 97, 108] (b := b)) (s := Y) hb; have eb := eb; obtain ⟨f1, f2, f3, f4⟩ := ho.sfs (N + 2)
  have hb2 : b < N + 2 := by omega
  simp only [pc, pcf, aT, Tok.c, br, jQ, iJ, iK, mQ, cJ, nmC, aa, if_true, if_false, ae, p0, pk] at e67 f_0 f_1 eb ⊢
  generalize au ts = es at *
  apply jd; simp [S48.b0, hN, hT, hL, hb, hb2, e67, f_0, f_1, eb, p0, pk, f1, f2, f3, f4, k0, k0', cm, aX, jh, gm, AM.cC, AM.eR, chunks, Ex.ba, cN, dS, kT]
 | ok r l1 =>
  have hx := cM hx rfl
  try dsimp only at hx
  have s1 := bO h2 rfl; have h3 := eZ hr s1 d [59]
  cases x3 : cL [59] l1 with
  | bad e q =>
   obtain rfl := bZ hx x3; obtain ⟨a', d'', eb⟩ := bJ h3 x3; refine ⟨a', d'', fun b Y hb N T Lb hN hT hL c1 c2 c3 c4 tk ho => ?_⟩; obtain ⟨c', tk', ea, ho'⟩ := ho.g2 (b := b) (cs := pc ts l1 d) hT r hg; refine ⟨z4, pgC { g with gls := g.gls ++ [r] } c1 c' c3 c4, tk', ?_⟩; have eb := eb hb; have e67 := aC (eg h d 0 0 0 (b := b)) (s := Y) hb; have f_0 := aC (aE hr h d [114, 101, 99, 111, 114, 100] (b := b)) (s := Y) hb; have f_1 := aC (aE hr h d [103, 108, 111, 98, 97, 108] (b := b)) (s := Y) hb; have e2 := aU h2 rfl hb; have ea := ea; have eb := eb; obtain ⟨f1, f2, f3, f4⟩ := ho.sfs (N + 2); obtain ⟨f1', f2', f3', f4'⟩ := ho'.sfs (N + 2)
   have hb2 : b < N + 2 := by omega
   simp only [pc, pcf, aT, Tok.c, br, jQ, iJ, iK, mQ, cJ, nmC, aa, if_true, if_false, ae, p0, pk] at e67 f_0 f_1 e2 ea eb ⊢
   generalize au ts = es at *
   apply jd; simp [S48.b0, hN, hT, hL, hb, hb2, e67, f_0, f_1, e2, ea, eb, p0, pk, f1, f2, f3, f4, f1', f2', f3', f4', k0, k0', cm, aX, jh, gm, AM.cC, AM.eR, chunks, Ex.ba, cN, dS, kT]
  | ok u l2 =>
   have hx := cM hx x3
   try dsimp only at hx
   have s2 := bO h3 x3; have h4 := ihp _ l2 x (by simp only [bH, bz]; omega) s2 hx
   have stp : ∀ b (Y : St), b < Y.stk.length → ∀ N T Lb, Y.stk.length = N → Y.tk.length = T → Y.lp.length = Lb → ∀ c1 c2 c3 c4 tk, jM T tk c1 c2 c3 c4 g → ∃ c' tk', jM T tk' c1 c' c3 c4 { g with gls := g.gls ++ [r] } ∧
    S48.b0 (E L) itE N Lb [.ptr false b 0, .ptr false N 0, .ptr false (N + 1) 0] ((Y.af false b (pc ts l d)).app [⟨z4, []⟩, ⟨pgC g c1 c2 c3 c4, []⟩] tk []) = some (.normal, [.ptr false b 0, .ptr false N 0, .ptr false (N + 1) 0], (Y.af false b (pc ts l2 d)).app [⟨z4, []⟩, ⟨pgC { g with gls := g.gls ++ [r] } c1 c' c3 c4, []⟩] tk' []) := by
    intro b Y hb N T Lb hN hT hL c1 c2 c3 c4 tk ho; obtain ⟨c', tk', ea, ho'⟩ := ho.g2 (b := b) (cs := pc ts l1 d) hT r hg; refine ⟨c', tk', ho', ?_⟩; have e67 := aC (eg h d 0 0 0 (b := b)) (s := Y) hb; have f_0 := aC (aE hr h d [114, 101, 99, 111, 114, 100] (b := b)) (s := Y) hb; have f_1 := aC (aE hr h d [103, 108, 111, 98, 97, 108] (b := b)) (s := Y) hb; have e2 := aU h2 rfl hb; have ea := ea; have e3 := aU h3 x3 hb; obtain ⟨f1, f2, f3, f4⟩ := ho.sfs (N + 2); obtain ⟨f1', f2', f3', f4'⟩ := ho'.sfs (N + 2)
    have hb2 : b < N + 2 := by omega
    simp only [pc, pcf, aT, Tok.c, br, jQ, iJ, iK, mQ, cJ, nmC, aa, if_true, if_false, ae, p0, pk] at e67 f_0 f_1 e2 ea e3 ⊢
    generalize au ts = es at *
    simp [S48.b0, hN, hT, hL, hb, hb2, e67, f_0, f_1, e2, ea, e3, p0, pk, f1, f2, f3, f4, f1', f2', f3', f4', k0, k0', cm, aX, jh, gm, AM.cC, AM.eR, chunks, Ex.ba, cN, dS, kT]
   cases x with
   | ok g' l' =>
    refine ⟨h4.1, fun b Y hb N T Lb hN hT hL c1 c2 c3 c4 tk ho => ?_⟩; obtain ⟨c', tk1, ho1, hs⟩ := stp b Y hb N T Lb hN hT hL c1 c2 c3 c4 tk ho; obtain ⟨k1, k2, k3, k4, P, tk', hit⟩ := h4.2 b Y hb N T Lb hN hT hL c1 c' c3 c4 tk1 ho1; exact ⟨k1, k2, k3, k4, P, tk', (bQ hs).trans hit⟩
   | bad er p =>
    obtain ⟨a', d'', h4⟩ := h4; refine ⟨a', d'', fun b Y hb N T Lb hN hT hL c1 c2 c3 c4 tk ho => ?_⟩; obtain ⟨c', tk1, ho1, hs⟩ := stp b Y hb N T Lb hN hT hL c1 c2 c3 c4 tk ho; obtain ⟨P0, P1, tk', hit⟩ := h4 b Y hb N T Lb hN hT hL c1 c' c3 c4 tk1 ho1; exact ⟨P0, P1, tk', (bQ hs).trans hit⟩
theorem AZ {d : Nat} {g : Pg} {l : List Tok} {x : PR Pg} (hd0 : d = 0) {n m : Nat} (hm : m ≤ 1000000) (ih : rO ts m) (hg : g.gJ.length < 1000000) (ihp : ∀ g2 l x, g2.gM.length + g2.gls.length + g2.gJ.length + g2.ths.length = g.gM.length + g.gls.length + g.gJ.length + g.ths.length + 1 → Sfx ts l → eA n m g2 l = some x → mO ts d g2 l x) (h : Sfx ts l) (k0 : (hd l).kind ≠ 0) (p0 : isT l [114, 101, 99, 111, 114, 100] = false) (p1 : isT l [103, 108, 111, 98, 97, 108] = false) (pk : isT l [102, 117, 110] = true) (hx : (pb (wj m l.tail) fun r l1 => eA n m { g with gJ := g.gJ ++ [r] } l1) = some x) : mO ts d g l x := by
 have k0' : ¬ (((hd l).kind : Int) = 0) := by omega
 have s0 := h.isT hr pk; obtain ⟨y, hy⟩ := dP hx; rw [hy] at hx; have h2 := G3 hr hd0 hm ih s0 hy
 cases y with
 | bad er q =>
  obtain rfl := bZ hx rfl; obtain ⟨a', d'', eb⟩ := bJ h2 rfl; refine ⟨a', d'', fun b Y hb N T Lb hN hT hL c1 c2 c3 c4 tk ho => ⟨z4, pgC g c1 c2 c3 c4, tk, ?_⟩⟩; have eb := eb hb; have e67 := aC (eg h d 0 0 0 (b := b)) (s := Y) hb; have f_0 := aC (aE hr h d [114, 101, 99, 111, 114, 100] (b := b)) (s := Y) hb; have f_1 := aC (aE hr h d [103, 108, 111, 98, 97, 108] (b := b)) (s := Y) hb; have f_2 := aC (aE hr h d [102, 117, 110] (b := b)) (s := Y) hb; have eb := eb; obtain ⟨f1, f2, f3, f4⟩ := ho.sfs (N + 2)
  have hb2 : b < N + 2 := by omega
  simp only [pc, pcf, aT, Tok.c, br, jQ, iJ, iK, mQ, cJ, nmC, aa, if_true, if_false, ae, p0, p1, pk] at e67 f_0 f_1 f_2 eb ⊢
  generalize au ts = es at *
  apply jd; simp [S48.b0, hN, hT, hL, hb, hb2, e67, f_0, f_1, f_2, eb, p0, p1, pk, f1, f2, f3, f4, k0, k0', cm, aX, jh, gm, AM.cC, AM.eR, chunks, Ex.ba, cN, dS, kT]
 | ok r l1 =>
  have hx := cM hx rfl
  try dsimp only at hx
  have s1 := bO h2 rfl; have h4 := ihp _ l1 x (by simp only [bH, bz]; omega) s1 hx
  have stp : ∀ b (Y : St), b < Y.stk.length → ∀ N T Lb, Y.stk.length = N → Y.tk.length = T → Y.lp.length = Lb → ∀ c1 c2 c3 c4 tk, jM T tk c1 c2 c3 c4 g → ∃ c' tk', jM T tk' c1 c2 c' c4 { g with gJ := g.gJ ++ [r] } ∧
   S48.b0 (E L) itE N Lb [.ptr false b 0, .ptr false N 0, .ptr false (N + 1) 0] ((Y.af false b (pc ts l d)).app [⟨z4, []⟩, ⟨pgC g c1 c2 c3 c4, []⟩] tk []) = some (.normal, [.ptr false b 0, .ptr false N 0, .ptr false (N + 1) 0], (Y.af false b (pc ts l1 d)).app [⟨z4, []⟩, ⟨pgC { g with gJ := g.gJ ++ [r] } c1 c2 c' c4, []⟩] tk' []) := by
   intro b Y hb N T Lb hN hT hL c1 c2 c3 c4 tk ho; obtain ⟨c', tk', ea, ho'⟩ := ho.g3 (b := b) (cs := pc ts l1 d) hT r hg; refine ⟨c', tk', ho', ?_⟩; have e67 := aC (eg h d 0 0 0 (b := b)) (s := Y) hb; have f_0 := aC (aE hr h d [114, 101, 99, 111, 114, 100] (b := b)) (s := Y) hb; have f_1 := aC (aE hr h d [103, 108, 111, 98, 97, 108] (b := b)) (s := Y) hb; have f_2 := aC (aE hr h d [102, 117, 110] (b := b)) (s := Y) hb; have e2 := aU h2 rfl hb; have ea := ea; obtain ⟨f1, f2, f3, f4⟩ := ho.sfs (N + 2); obtain ⟨f1', f2', f3', f4'⟩ := ho'.sfs (N + 2)
   have hb2 : b < N + 2 := by omega
   simp only [pc, pcf, aT, Tok.c, br, jQ, iJ, iK, mQ, cJ, nmC, aa, if_true, if_false, ae, p0, p1, pk] at e67 f_0 f_1 f_2 e2 ea ⊢
   generalize au ts = es at *
   simp [S48.b0, hN, hT, hL, hb, hb2, e67, f_0, f_1, f_2, e2, ea, p0, p1, pk, f1, f2, f3, f4, f1', f2', f3', f4', k0, k0', cm, aX, jh, gm, AM.cC, AM.eR, chunks, Ex.ba, cN, dS, kT]
  cases x with
  | ok g' l' =>
   refine ⟨h4.1, fun b Y hb N T Lb hN hT hL c1 c2 c3 c4 tk ho => ?_⟩; obtain ⟨c', tk1, ho1, hs⟩ := stp b Y hb N T Lb hN hT hL c1 c2 c3 c4 tk ho; obtain ⟨k1, k2, k3, k4, P, tk', hit⟩ := h4.2 b Y hb N T Lb hN hT hL c1 c2 c' c4 tk1 ho1; exact ⟨k1, k2, k3, k4, P, tk', (bQ hs).trans hit⟩
  | bad er p =>
   obtain ⟨a', d'', h4⟩ := h4; refine ⟨a', d'', fun b Y hb N T Lb hN hT hL c1 c2 c3 c4 tk ho => ?_⟩; obtain ⟨c', tk1, ho1, hs⟩ := stp b Y hb N T Lb hN hT hL c1 c2 c3 c4 tk ho; obtain ⟨P0, P1, tk', hit⟩ := h4 b Y hb N T Lb hN hT hL c1 c2 c' c4 tk1 ho1; exact ⟨P0, P1, tk', (bQ hs).trans hit⟩
theorem wV {d : Nat} {g : Pg} {l : List Tok} {x : PR Pg} (hd0 : d = 0) {n m : Nat} (hm : m ≤ 1000000) (ih : rO ts m) (hg : g.ths.length < 1000000) (ihp : ∀ g2 l x, g2.gM.length + g2.gls.length + g2.gJ.length + g2.ths.length = g.gM.length + g.gls.length + g.gJ.length + g.ths.length + 1 → Sfx ts l → eA n m g2 l = some x → mO ts d g2 l x) (h : Sfx ts l) (k0 : (hd l).kind ≠ 0) (p0 : isT l [114, 101, 99, 111, 114, 100] = false) (p1 : isT l [103, 108, 111, 98, 97, 108] = false) (p2 : isT l [102, 117, 110] = false) (pk : isT l [116, 104, 114, 101, 97, 100] = true) (hx : (pb (en m d l.tail) fun r l1 => eA n m { g with ths := g.ths ++ [⟨r, (hd l).p.1, (hd l).p.2⟩] } l1) = some x) : mO ts d g l x := by
 have k0' : ¬ (((hd l).kind : Int) = 0) := by omega
 have s0 := h.isT hr pk; obtain ⟨y, hy⟩ := dP hx; rw [hy] at hx; have h2 := ih.blk _ _ _ (by omega) s0 hy
 cases y with
 | bad er q =>
  obtain rfl := bZ hx rfl; obtain ⟨a', d'', eb⟩ := bJ h2 rfl; refine ⟨a', d'', fun b Y hb N T Lb hN hT hL c1 c2 c3 c4 tk ho => ⟨z4, pgC g c1 c2 c3 c4, tk, ?_⟩⟩; have eb := eb hb; have e67 := aC (eg h d 0 0 0 (b := b)) (s := Y) hb; have f_0 := aC (aE hr h d [114, 101, 99, 111, 114, 100] (b := b)) (s := Y) hb; have f_1 := aC (aE hr h d [103, 108, 111, 98, 97, 108] (b := b)) (s := Y) hb; have f_2 := aC (aE hr h d [102, 117, 110] (b := b)) (s := Y) hb; have f_3 := aC (aE hr h d [116, 104, 114, 101, 97, 100] (b := b)) (s := Y) hb; have eb := eb; obtain ⟨f1, f2, f3, f4⟩ := ho.sfs (N + 2)
  have hb2 : b < N + 2 := by omega
  simp only [pc, pcf, aT, Tok.c, br, jQ, iJ, iK, mQ, cJ, nmC, aa, if_true, if_false, ae, p0, p1, p2, pk] at e67 f_0 f_1 f_2 f_3 eb ⊢
  generalize au ts = es at *
  apply jd; simp [S48.b0, hN, hT, hL, hb, hb2, e67, f_0, f_1, f_2, f_3, eb, p0, p1, p2, pk, f1, f2, f3, f4, k0, k0', cm, aX, jh, gm, AM.cC, AM.eR, chunks, Ex.ba, cN, dS, kT]
 | ok r l1 =>
  have hx := cM hx rfl
  try dsimp only at hx
  have s1 := bO h2 rfl; have h4 := ihp _ l1 x (by simp only [bH, bz]; omega) s1 hx
  have stp : ∀ b (Y : St), b < Y.stk.length → ∀ N T Lb, Y.stk.length = N → Y.tk.length = T → Y.lp.length = Lb → ∀ c1 c2 c3 c4 tk, jM T tk c1 c2 c3 c4 g → ∃ c' tk', jM T tk' c1 c2 c3 c' { g with ths := g.ths ++ [⟨r, (hd l).p.1, (hd l).p.2⟩] } ∧
   S48.b0 (E L) itE N Lb [.ptr false b 0, .ptr false N 0, .ptr false (N + 1) 0] ((Y.af false b (pc ts l d)).app [⟨z4, []⟩, ⟨pgC g c1 c2 c3 c4, []⟩] tk []) = some (.normal, [.ptr false b 0, .ptr false N 0, .ptr false (N + 1) 0], (Y.af false b (pc ts l1 d)).app [⟨z4, []⟩, ⟨pgC { g with ths := g.ths ++ [⟨r, (hd l).p.1, (hd l).p.2⟩] } c1 c2 c3 c', []⟩] tk' []) := by
   intro b Y hb N T Lb hN hT hL c1 c2 c3 c4 tk ho; obtain ⟨c', tk', ea, ho'⟩ := ho.g4 (b := b) (cs := pc ts l1 d) hT ⟨r, (hd l).p.1, (hd l).p.2⟩ hg; refine ⟨c', tk', ho', ?_⟩; have e67 := aC (eg h d 0 0 0 (b := b)) (s := Y) hb; have f_0 := aC (aE hr h d [114, 101, 99, 111, 114, 100] (b := b)) (s := Y) hb; have f_1 := aC (aE hr h d [103, 108, 111, 98, 97, 108] (b := b)) (s := Y) hb; have f_2 := aC (aE hr h d [102, 117, 110] (b := b)) (s := Y) hb; have f_3 := aC (aE hr h d [116, 104, 114, 101, 97, 100] (b := b)) (s := Y) hb; have e2 := aU h2 rfl hb; have ea := ea; obtain ⟨f1, f2, f3, f4⟩ := ho.sfs (N + 2); obtain ⟨f1', f2', f3', f4'⟩ := ho'.sfs (N + 2)
   have hb2 : b < N + 2 := by omega
   simp only [pc, pcf, aT, Tok.c, br, jQ, iJ, iK, mQ, cJ, nmC, aa, if_true, if_false, ae, p0, p1, p2, pk] at e67 f_0 f_1 f_2 f_3 e2 ea ⊢
   generalize au ts = es at *
   simp [S48.b0, hN, hT, hL, hb, hb2, e67, f_0, f_1, f_2, f_3, e2, ea, p0, p1, p2, pk, f1, f2, f3, f4, f1', f2', f3', f4', k0, k0', cm, aX, jh, gm, AM.cC, AM.eR, chunks, Ex.ba, cN, dS, kT]
  cases x with
  | ok g' l' =>
   refine ⟨h4.1, fun b Y hb N T Lb hN hT hL c1 c2 c3 c4 tk ho => ?_⟩; obtain ⟨c', tk1, ho1, hs⟩ := stp b Y hb N T Lb hN hT hL c1 c2 c3 c4 tk ho; obtain ⟨k1, k2, k3, k4, P, tk', hit⟩ := h4.2 b Y hb N T Lb hN hT hL c1 c2 c3 c' tk1 ho1; exact ⟨k1, k2, k3, k4, P, tk', (bQ hs).trans hit⟩
  | bad er p =>
   obtain ⟨a', d'', h4⟩ := h4; refine ⟨a', d'', fun b Y hb N T Lb hN hT hL c1 c2 c3 c4 tk ho => ?_⟩; obtain ⟨c', tk1, ho1, hs⟩ := stp b Y hb N T Lb hN hT hL c1 c2 c3 c4 tk ho; obtain ⟨P0, P1, tk', hit⟩ := h4 b Y hb N T Lb hN hT hL c1 c2 c3 c' tk1 ho1; exact ⟨P0, P1, tk', (bQ hs).trans hit⟩
theorem A3 {d : Nat} {g : Pg} {l : List Tok} {x : PR Pg}  (h : Sfx ts l) (k0 : (hd l).kind ≠ 0) (p0 : isT l [114, 101, 99, 111, 114, 100] = false) (p1 : isT l [103, 108, 111, 98, 97, 108] = false) (p2 : isT l [102, 117, 110] = false) (p3 : isT l [116, 104, 114, 101, 97, 100] = false)  (hx : some (.bad 4 (hd l).p) = some x) : mO ts d g l x := by
 have k0' : ¬ (((hd l).kind : Int) = 0) := by omega
 obtain rfl := Option.some.inj hx; refine ⟨pcA ts l, d, fun b Y hb N T Lb hN hT hL c1 c2 c3 c4 tk ho => ⟨z4, pgC g c1 c2 c3 c4, tk, ?_⟩⟩; have e67 := aC (eg h d 0 0 0 (b := b)) (s := Y) hb; have f_0 := aC (aE hr h d [114, 101, 99, 111, 114, 100] (b := b)) (s := Y) hb; have f_1 := aC (aE hr h d [103, 108, 111, 98, 97, 108] (b := b)) (s := Y) hb; have f_2 := aC (aE hr h d [102, 117, 110] (b := b)) (s := Y) hb; have f_3 := aC (aE hr h d [116, 104, 114, 101, 97, 100] (b := b)) (s := Y) hb; have e74 := aC (nY (au ts) (pcA ts l) d 4 (hd l) (b := b)) (s := Y) hb; obtain ⟨f1, f2, f3, f4⟩ := ho.sfs (N + 2)
 have hb2 : b < N + 2 := by omega
 simp only [pc, pcf, aT, Tok.c, br, jQ, iJ, iK, mQ, cJ, nmC, aa, if_true, if_false, ae, p0, p1, p2, p3] at e67 f_0 f_1 f_2 f_3 e74 ⊢
 generalize au ts = es at *
 apply jd; simp [S48.b0, hN, hT, hL, hb, hb2, e67, f_0, f_1, f_2, f_3, e74, p0, p1, p2, p3, f1, f2, f3, f4, k0, k0', cm, aX, jh, gm, AM.cC, AM.eR, chunks, Ex.ba, cN, dS, kT]
end
abbrev pg0 : Pg := ⟨[], [], [], []⟩
theorem A1 {ts : List Tok} (hr : Row ts) {m : Nat} (hm : m ≤ 1000000) (ih : rO ts m) : ∀ n g l x, g.gM.length + g.gls.length + g.gJ.length + g.ths.length + n ≤ 1000000 → Sfx ts l → eA n m g l = some x → mO ts 0 g l x := by
 intro n
 induction n with
 | zero => intro g l x _ _ hx; simp [eA] at hx
 | succ n ihn =>
  intro g l x hg h hx; simp only [eA] at hx
  have ihp : ∀ g2 l x, g2.gM.length + g2.gls.length + g2.gJ.length + g2.ths.length = g.gM.length + g.gls.length + g.gJ.length + g.ths.length + 1 → Sfx ts l → eA n m g2 l = some x → mO ts 0 g2 l x := fun g2 l x e h hx => ihn g2 l x (by omega) h hx
  by_cases k0 : (hd l).kind = 0
  · rw [if_pos k0] at hx
    exact C4 hr h k0 hx
  rw [if_neg k0] at hx
  cases p0 : isT l [114, 101, 99, 111, 114, 100] with
  | true => rw [if_pos p0] at hx; exact wU hr rfl hm ih (by omega) ihp h k0 p0 hx
  | false =>
  rw [if_neg (by rw [p0]; decide)] at hx
  cases p1 : isT l [103, 108, 111, 98, 97, 108] with
  | true => rw [if_pos p1] at hx; exact wT hr rfl hm ih (by omega) ihp h k0 p0 p1 hx
  | false =>
  rw [if_neg (by rw [p1]; decide)] at hx
  cases p2 : isT l [102, 117, 110] with
  | true => rw [if_pos p2] at hx; exact AZ hr rfl hm ih (by omega) ihp h k0 p0 p1 p2 hx
  | false =>
  rw [if_neg (by rw [p2]; decide)] at hx
  cases p3 : isT l [116, 104, 114, 101, 97, 100] with
  | true => rw [if_pos p3] at hx; exact wV hr rfl hm ih (by omega) ihp h k0 p0 p1 p2 p3 hx
  | false =>
  rw [if_neg (by rw [p3]; decide)] at hx; exact A3 hr h k0 p0 p1 p2 p3 hx
theorem yf {ts : List Tok} (hr : Row ts) {m n : Nat} (hm : m ≤ 1000000) (hn : n ≤ 1000000) {l : List Tok} {x : PR Pg} (h : Sfx ts l) (hx : eA n m pg0 l = some x) : Rd 48 [] ts 0 0 l lJ x := by
 have h1 := A1 hr hm (Dr hr m hm).1 n pg0 l x (by simpa using hn) h hx
 cases x with
 | bad er q =>
  obtain ⟨a', d'', h1⟩ := h1; refine ⟨a', d'', fun b Y hb => ?_⟩; obtain ⟨P0, P1, tk', hit⟩ := h1 b Y hb _ _ _ rfl rfl rfl .nil .nil .nil .nil [] (jM.zero _); rw [BP]; obtain ⟨N, T, Lb, hN, hT, hL⟩ := lens3 Y; rw [hN] at hb; rw [hN] at hit
  conv => lhs; rw [← al (Y.af false b (pc ts l 0))]
  rw [hL] at hit; simp only [pc, pcf, z4, pgC, pg0, jX, nms, om, ot, bc, eB] at hit ⊢
  generalize au ts = es at *
  simp [S48, hN, hT, hL, hb, hit, Ex.ba]
 | ok g l' =>
  refine ⟨h1.1, fun b Y hb => ?_⟩; obtain ⟨k1, k2, k3, k4, P, tk', hit⟩ := h1.2 b Y hb _ _ _ rfl rfl rfl .nil .nil .nil .nil [] (jM.zero _); rw [BP]; obtain ⟨N, T, Lb, hN, hT, hL⟩ := lens3 Y; rw [hN] at hb; rw [hN] at hit
  conv => lhs; rw [← al (Y.af false b (pc ts l 0))]
  rw [hL] at hit; simp only [pc, pcf, z4, pgC, pg0, jX, nms, om, ot, bc, eB] at hit ⊢
  generalize au ts = es at *
  simp [S48, hN, hT, hL, hb, hit, Ex.ba]; exact ⟨rfl, rfl, rfl, rfl⟩
end Go.Proofs.YtlhlijaondmccaaGreatDoor.S
namespace Go.Proofs.YtlhlijaondmccaaGreatDoor.S
open Go Go.AM Go.Proofs
def Tot {α : Type} (c : α → Nat) (m : Nat) (o : Option (PR α)) : Prop := ∃ x, o = some x ∧ ∀ a l', x = .ok a l' → c a + 8 * l'.length ≤ m
section
variable {α β : Type} {c : α → Nat} {c' : β → Nat} {m m' : Nat}
theorem Tot.le {k : α → Nat} {o : Option (PR α)} (h : Tot c m o) (hm : ∀ a n, c a + 8 * n ≤ m → k a + 8 * n ≤ m') : Tot k m' o := by
 obtain ⟨x, h1, h2⟩ := h; exact ⟨x, h1, fun a l' e => hm a l'.length (h2 a l' e)⟩
theorem ew {a : α} {l : List Tok} (h : c a + 8 * l.length ≤ m) : Tot c m (some (.ok a l)) := ⟨_, rfl, fun a l' e => by cases e; exact h⟩
theorem lq {e : Nat} {q : Nat × Nat} : Tot c m (some (.bad e q : PR α)) := ⟨_, rfl, fun a l' e => by cases e⟩
theorem cy {x : Option (PR α)} {K : α → List Tok → Option (PR β)} (h : Tot c m x) (hk : ∀ a l', c a + 8 * l'.length ≤ m → Tot c' m' (K a l')) : Tot c' m' (pb x K) := by
 obtain ⟨x, rfl, h2⟩ := h
 cases x with
 | ok a l => exact hk a l (h2 a l rfl)
 | bad e q => exact lq
theorem dT {p : Prop} [Decidable p] {x y : Option (PR α)} (h : p → Tot c m x) (g : ¬ p → Tot c m y) : Tot c m (if p then x else y) := by
 split
 · exact h ‹_›
 · exact g ‹_›
theorem vA {f : α → β} {x : PR α} (h : Tot (fun a => c' (f a)) m (some x)) : Tot c' m (some (x.map f)) := by
 obtain ⟨y, h1, h2⟩ := h; obtain rfl := Option.some.inj h1
 cases x with
 | ok a l => exact ew (h2 a l rfl)
 | bad e q => exact lq
theorem td {d : Nat} {t : Tok} {x : Option (PR α)} (h : Tot c m x) : Tot c m (mP d t x) := dT (fun _ => lq) fun _ => h
end
theorem xR {l : List Tok} (h : (hd l).kind ≠ 0) : 1 ≤ l.length := by
 cases l with
 | nil => exact absurd rfl h
 | cons t r => simp
theorem CG {l : List Tok} {s : List UInt8} (h : isT l s = true) : (hd l).kind ≠ 0 := by
 unfold isT at h; simp only [an, iQ, decide_eq_true_eq] at h; omega
theorem dN {l : List Tok} {s : List UInt8} (h : isT l s = true) : 1 ≤ l.length ∧ l.tail.length = l.length - 1 := ⟨xR (CG h), List.length_tail⟩
theorem gF {l : List Tok} (h : (hd l).kind ≠ 0) : 1 ≤ l.length ∧ (dq l).length = l.length - 1 := ⟨xR h, by rw [dq, if_neg h]; exact List.length_tail⟩
theorem wK (l : List Tok) : (dq l).length ≤ l.length := by
 unfold dq; split
 · exact av _
 · rw [List.length_tail]; omega
theorem fW (s : List UInt8) (l : List Tok) : Tot (fun _ => 8) (8 * l.length) (some (cL s l)) := by
 unfold cL; split
 · rename_i h; have := dN h; exact ew (by omega)
 · exact lq
theorem gI {k : Nat} (hk : k ≠ 0) (l : List Tok) : Tot (fun _ => 8) (8 * l.length) (some (ec k l)) := by
 unfold ec; split
 · rename_i h; have := gF (l := l) (by omega); exact ew (by omega)
 · exact lq
theorem FG (l : List Tok) : Tot (fun _ => 8) (8 * l.length) (some (qj l)) := by
 unfold qj; split
 · rename_i h; have := dN h; exact ew (by omega)
 split
 · rename_i h; have := dN h; exact ew (by omega)
 split
 · rename_i h; have := dN h; exact ew (by omega)
 exact vA (gI (by omega) l)
theorem qR (l : List Tok) : Tot (fun _ => 24) (8 * l.length) (jf l) :=
 cy (gI (by omega) l) fun t l1 h1 => cy (fW _ l1) fun _ l2 h2 => cy (FG l2) fun ty l3 h3 => ew (by omega)
abbrev wX (e : X) : Nat := e.sz + 7
theorem nO : x0.sz = 1 := by simp [x0, X.sz, szs]
theorem qt (t : Tok) (op n kd : Int) (rc name : List UInt8) : (atX t op n kd rc name).sz = 1 := by simp [atX, X.sz, szs]
theorem BZ (a b c d : Int) (r n : ByteArray) (e k : X) (p q : Int) : X.sz ⟨a, b, c, d, r, n, [e, k], p, q⟩ = e.sz + k.sz + 1 := by simp [X.sz, szs]
theorem Il (a b c d : Int) (r n : ByteArray) (k : X) (p q : Int) : X.sz ⟨a, b, c, d, r, n, [k], p, q⟩ = k.sz + 1 := by simp [X.sz, szs]
structure Io (n : Nat) : Prop where
 atom : ∀ d l, 10 * l.length + 1 ≤ n → Tot wX (8 * l.length) (il n d l)
 pre : ∀ d l, 10 * l.length + 2 ≤ n → Tot wX (8 * l.length) (fv n d l)
 chain : ∀ lv d l, lv ≤ 3 → 10 * l.length + 6 ≤ n + lv → Tot wX (8 * l.length) (dG n lv d l)
 rest : ∀ lv d e l, lv < 3 → 10 * l.length + 1 ≤ n → Tot X.sz (e.sz + 8 * l.length) (ig n lv d e l)
theorem zn : ∀ n, Io n
 | 0 => ⟨fun d l h => by omega, fun d l h => by omega, fun lv d l h h' => by omega, fun lv d e l h h' => by omega⟩
 | n + 1 => by
  have ih := zn n; refine ⟨fun d l h => ?_, fun d l h => ?_, fun lv d l hlv h => ?_, fun lv d e l hlv h => ?_⟩
  · simp only [il]
    refine dT (fun k => ew ?_) fun _ => dT (fun k => ew ?_) fun _ => dT (fun k => ew ?_) fun _ => dT (fun k => ?_) fun _ => dT (fun k => ?_) fun _ => dT (fun k => ?_) fun _ => lq
    · have := gF (l := l) (by omega); simp only [wX, qt]; omega
    · have := gF (l := l) (by omega); simp only [wX, qt]; omega
    · have := gF (l := l) (by omega); simp only [wX, qt]; omega
    · have := gF (l := l) (by omega)
      exact vA ((gI (by omega) (dq l)).le fun a n h => by simp only [wX, qt]; omega)
    · have := gF (l := l) (by omega)
      refine dT (fun k => ew ?_) fun _ => vA ((gI (by omega) (dq l)).le fun a n h => by simp only [wX, qt]; omega)
      have := dN k; simp only [wX, qt]; omega
    · have := gF (l := l) (by omega)
      exact td (cy (ih.chain 0 (d + 1) (dq l) (by omega) (by omega)) fun e l1 h1 => cy (fW _ l1) fun _ l2 h2 => ew (by omega))
  · simp only [fv]
    refine dT (fun k => ih.atom d l (by omega)) fun k => ?_
    have : (hd l).kind ≠ 0 := by
     intro q; apply k; unfold fR; rw [if_neg (by omega)]
    have := gF this; exact td (cy (ih.pre (d + 1) (dq l) (by omega)) fun e l1 h1 => ew (by simp only [wX, Il] at h1 ⊢; omega))
  · simp only [dG]
    refine dT (fun k => ih.pre d l (by omega)) fun k => ?_
    exact cy (ih.chain (lv + 1) d l (by omega) (by omega)) fun e l1 h1 => (ih.rest lv d e l1 (by omega) (by simp only [wX] at h1; omega)).le fun a n h => by simp only [wX] at h1 ⊢; omega
  · simp only [ig]
    cases hs : gx lv (hd l) with
    | none => exact ew (av _)
    | some b =>
     have : (hd l).kind ≠ 0 := by
      unfold gx at hs; split at hs
      · omega
      · cases hs
     have := gF this
     exact cy (ih.chain (lv + 1) d (dq l) (by omega) (by omega)) fun k l1 h1 => dT (fun _ => ew (by simp only [wX, BZ] at h1 ⊢; omega)) fun _ => (ih.rest lv d _ l1 hlv (by simp only [wX] at h1; omega)).le fun a n h => by simp only [wX, BZ] at h1 h ⊢; omega
theorem kK {n d : Nat} {l : List Tok} (h : 10 * l.length + 6 ≤ n) : Tot wX (8 * l.length) (dG n 0 d l) := (zn n).chain 0 d l (by omega) (by omega)
abbrev wP (p : Pl) : Nat := p.index.sz + 7
theorem uh {n d : Nat} {l : List Tok} (h : 10 * l.length + 6 ≤ n) : Tot wP (8 * l.length) (mC n d l) :=
 cy (gI (by omega) l) fun t l1 h1 => dT
  (fun k => by have := dN k; exact cy (gI (by omega) l1.tail) fun u l2 h2 => ew (by simp only [wP, nO]; omega)) fun _ => dT
  (fun k => by have := dN k; exact cy (kK (by omega)) fun e l2 h2 => cy (fW _ l2) fun _ l3 h3 => ew (by simp only [wP, wX] at h2 ⊢; omega)) fun _ => ew (by simp only [wP, nO]; omega)
abbrev wR (r : Rt) : Nat := r.e.sz + r.place.index.sz + 6
theorem uk {n d : Nat} {l : List Tok} (h : 10 * l.length + 6 ≤ n) : Tot wR (8 * l.length) (gY n d l) := by
 simp only [gY]
 refine dT (fun k => ?_) fun _ => dT (fun k => ?_) fun _ => dT (fun k => dT (fun k' => ?_) fun _ => ?_) fun _ => ?_
 · have := dN k; exact cy (uh (by omega)) fun x l1 h1 => ew (by simp only [wP, wR, nO] at h1 ⊢; omega)
 · have := dN k; exact cy (gI (by omega) _) fun x l1 h1 => ew (by simp only [wR, nO, pl0]; omega)
 · have := dN k; have := dN k'; exact cy (kK (by omega)) fun x l1 h1 => ew (by simp only [wX, wR, nO, pl0] at h1 ⊢; omega)
 · have := dN k; exact cy (gI (by omega) _) fun x l1 h1 => ew (by simp only [wR, nO, pl0]; omega)
 · exact cy (kK (by omega)) fun x l1 h1 => ew (by simp only [wX, wR, nO, pl0] at h1 ⊢; omega)
theorem xj (xs : List X) (x : X) : szs (xs ++ [x]) = szs xs + x.sz := by rw [Ad]; simp [szs]
theorem Bk (xs : List S) (x : S) : iG (xs ++ [x]) = iG xs + x.sz := by rw [xf]; simp [iG]
theorem vM {m d : Nat} : ∀ (n : Nat) (acc : List X) (l : List Tok), l.length + 1 ≤ n → 10 * l.length + 6 ≤ m → Tot szs (szs acc + 8 * l.length) (iH n m d acc l)
 | 0, acc, l, h, _ => by omega
 | n + 1, acc, l, h, hm => by
  simp only [iH]
  refine cy (kK hm) fun e l1 h1 => dT (fun k => ew (by have := dN k; simp only [wX, xj] at h1 ⊢; omega)) fun _ => cy (fW _ l1) fun _ l2 h2 => ?_
  simp only [wX] at h1
  exact (vM n _ l2 (by omega) (by omega)).le fun a n h => by simp only [xj] at h ⊢; omega
theorem Av {n d : Nat} {l : List Tok} (h : 10 * l.length + 6 ≤ n) : Tot (fun xs => szs xs + 8) (8 * l.length) (qV n d l) :=
 cy (fW _ l) fun _ l1 h1 => dT (fun k => ew (by have := dN k; simp only [szs]; omega)) fun _ => (vM n [] l1 (by omega) (by omega)).le fun a n h => by simp only [szs] at h; omega
theorem kR {m : Nat} {s : S} {l : List Tok} (h : s.sz + 8 * l.length ≤ m + 8) : Tot S.sz m (fV s l) := cy (fW _ l) fun _ l1 h1 => ew (by omega)
theorem kN (t : Tok) (op : Int) (name : ByteArray) (right : Rt) (place : Pl) (e : X) (n : Int) (args : List X) (body els : List S) : (mkS t op name right place e n args body els).sz = right.e.sz + right.place.index.sz + place.index.sz + e.sz + szs args + iG body + iG els + 1 := S.F4 _
theorem Hi : rt0.e.sz = 1 ∧ rt0.place.index.sz = 1 ∧ pl0.index.sz = 1 := ⟨nO, nO, nO⟩
structure StT (n : Nat) : Prop where
 blk : ∀ d l, 10 * l.length + 7 ≤ n → Tot (fun b => iG b + 8) (8 * l.length) (en n d l)
 row : ∀ d acc l, 10 * l.length + 9 ≤ n → Tot iG (iG acc + 8 * l.length) (j9 n d acc l)
 lp : ∀ d t nm l, 10 * l.length + 8 ≤ n → Tot (fun s : S => s.sz + 1) (8 * l.length) (iB n d t nm l)
 st : ∀ d l, 10 * l.length + 8 ≤ n → Tot (fun s : S => s.sz + 1) (8 * l.length) (iC n d l)
theorem yo : ∀ n, StT n
 | 0 => ⟨fun d l h => by omega, fun d acc l h => by omega, fun d t nm l h => by omega, fun d l h => by omega⟩
 | n + 1 => by
  have ih := yo n; have z := Hi; have z0 := nO; refine ⟨fun d l h => ?_, fun d acc l h => ?_, fun d t nm l h => ?_, fun d l h => ?_⟩
  · simp only [en]
    exact cy (fW _ _) fun t l1 h1 => td ((ih.row (d + 1) [] l1 (by omega)).le fun a n h => by simp only [iG] at h; omega)
  · simp only [j9]
    refine dT (fun k => ew (by have := dN k; omega)) fun _ => cy (ih.st d l (by omega)) fun s l1 h1 => ?_
    have : 1 ≤ s.sz := by rw [S.F4]; omega
    exact (ih.row d _ l1 (by omega)).le fun a n h => by simp only [Bk] at h; omega
  · simp only [iB]
    exact cy (gI (by omega) l) fun u l1 h1 => cy (ih.blk d l1 (by omega)) fun b l2 h2 => ew (by simp only [kN, szs, iG, z, z0]; omega)
  · simp only [iC]
    refine dT (fun k => ?_) fun _ => dT (fun k => ?_) fun _ => dT (fun k => ?_) fun _ => dT (fun k => ?_) fun _ => dT (fun k => ?_) fun _ => dT (fun k => ?_) fun _ => dT (fun k => ?_) fun _ => dT (fun k => ?_) fun _ => dT (fun k => ?_) fun _ => dT (fun k => ?_) fun _ => lq
    · have := gF (l := l) (by omega)
      refine dT (fun k' => ?_) fun _ => ?_
      · have := dN k'
        exact cy (fW _ _) fun _ l1 h1 => (ih.lp d _ _ l1 (by omega)).le fun a n h => by omega
      · exact cy (fW _ _) fun _ l1 h1 => cy (uk (by omega)) fun r l2 h2 => (kR (m := 8 * l.length - 1) (by simp only [wR] at h2; simp only [kN, szs, iG, z, z0]; omega)).le fun a n h => by omega
    · have := dN k; exact (ih.lp d _ _ l.tail (by omega)).le fun a n h => by omega
    · have := dN k
      refine cy (kK (by omega)) fun e l1 h1 => ?_
      simp only [wX] at h1
      exact cy (ih.blk d l1 (by omega)) fun b l2 h2 => dT
       (fun k' => by have := dN k'; exact cy (ih.blk d l2.tail (by omega)) fun c l3 h3 => ew (by simp only [kN, szs, iG, z, z0]; omega)) fun _ => ew (by simp only [kN, szs, iG, z, z0]; omega)
    · have := dN k; exact cy (ih.blk d l.tail (by omega)) fun b l1 h1 => ew (by simp only [kN, szs, iG, z, z0]; omega)
    · have : (hd l).kind ≠ 0 := by rcases k with k | k <;> exact CG k
      have := gF this
      exact cy (gI (by omega) _) fun u l1 h1 => cy (fW _ l1) fun _ l2 h2 => cy (uk (by omega)) fun r l3 h3 => (kR (m := 8 * l.length - 1) (by simp only [wR] at h3; simp only [kN, szs, iG, z, z0]; omega)).le fun a n h => by omega
    · have := dN k
      refine cy (uh (by omega)) fun x l1 h1 => cy (fW _ l1) fun _ l2 h2 => ?_
      simp only [wP] at h1
      exact cy (kK (by omega)) fun e l3 h3 => (kR (m := 8 * l.length - 1) (by simp only [wX] at h3; simp only [kN, szs, iG, z, z0]; omega)).le fun a n h => by omega
    · have := dN k; exact cy (kK (by omega)) fun e l1 h1 => (kR (m := 8 * l.length - 1) (by simp only [wX] at h1; simp only [kN, szs, iG, z, z0]; omega)).le fun a n h => by omega
    · have := dN k
      have h2 : (eU l.tail).2.length ≤ l.tail.length := by
       unfold eU; split
       · exact wK _
       · exact av _
      exact (kR (m := 8 * l.length - 1) (by simp only [kN, szs, iG, z, z0]; omega)).le fun a n h => by omega
    · have := dN k
      have h2 : (eU l.tail).2.length ≤ l.tail.length := by
       unfold eU; split
       · exact wK _
       · exact av _
      exact (kR (m := 8 * l.length - 1) (by simp only [kN, szs, iG, z, z0]; omega)).le fun a n h => by omega
    · have := dN k
      exact cy (gI (by omega) _) fun u l1 h1 => cy (Av (by omega)) fun xs l2 h2 => (kR (m := 8 * l.length - 1) (by simp only [kN, szs, iG, z, z0]; omega)).le fun a n h => by omega
theorem se : ∀ (n : Nat) (acc : List Nm) (l : List Tok), l.length + 1 ≤ n → Tot List.length (acc.length + 8 * l.length) (gj n acc l)
 | 0, acc, l, h => by omega
 | n + 1, acc, l, h => by
  simp only [gj]
  exact dT (fun k => ew (by have := dN k; omega)) fun _ => cy (qR l) fun f l1 h1 => cy (fW _ l1) fun _ l2 h2 =>
   (se n _ l2 (by omega)).le fun a n h => by simp only [bH, bz] at h; omega
theorem Fj {n : Nat} {l : List Tok} (h : l.length + 1 ≤ n) : Tot (fun r : Rec => r.fields.length + 1) (8 * l.length) (vq n l) :=
 cy (gI (by omega) l) fun t l1 h1 => cy (fW _ l1) fun _ l2 h2 => cy (se n [] l2 (by omega)) fun fs l3 h3 => ew (by simp only [aD] at h3; show fs.length + 1 + 8 * l3.length ≤ _; omega)
theorem sH : ∀ (n : Nat) (acc : List Nm) (l : List Tok), l.length + 1 ≤ n → Tot List.length (acc.length + 8 * l.length) (fu n acc l)
 | 0, acc, l, h => by omega
 | n + 1, acc, l, h => by
  simp only [fu]
  exact cy (qR l) fun f l1 h1 => dT (fun k => ew (by have := dN k; simp only [bH, bz]; omega)) fun _ => cy (fW _ l1) fun _ l2 h2 =>
   (sH n _ l2 (by omega)).le fun a n h => by simp only [bH, bz] at h; omega
theorem ET {n : Nat} {l : List Tok} (h : 10 * l.length + 7 ≤ n) : Tot (fun f : Fu => f.params.length + iG f.body + 1) (8 * l.length) (wj n l) :=
 cy (gI (by omega) l) fun t l1 h1 => cy (fW _ l1) fun _ l2 h2 => cy (c := List.length) (m := 8 * l2.length)
  (dT (fun k => ew (by have := dN k; simp only [aD]; omega)) fun _ => (sH n [] l2 (by omega)).le fun a n h => by simpa using h) fun ps l3 h3 =>
  cy ((yo n).blk 0 l3 (by omega)) fun b l4 h4 => ew (by simp only []; omega)
def Pg.sz (g : Pg) : Nat := (g.gM.map fun r => r.fields.length + 1).sum + g.gls.length + (g.gJ.map fun f => f.params.length + iG f.body + 1).sum + (g.ths.map fun t => iG t.body + 1).sum
theorem wW {m : Nat} : ∀ (n : Nat) (g : Pg) (l : List Tok), l.length + 1 ≤ n → 10 * l.length + 7 ≤ m → Tot Pg.sz (g.sz + 8 * l.length) (eA n m g l)
 | 0, g, l, h, _ => by omega
 | n + 1, g, l, h, hm => by
  simp only [eA]
  refine dT (fun k => ew (av _)) fun k0 => ?_
  have := xR k0
  have go : ∀ g' l2, l2.length < l.length → g'.sz + 8 * l2.length ≤ g.sz + 8 * l.length → Tot Pg.sz (g.sz + 8 * l.length) (eA n m g' l2) := fun g' l2 h2 h3 => (wW n g' l2 (by omega) (by omega)).le fun a n h => by omega
  refine dT (fun k => ?_) fun _ => dT (fun k => ?_) fun _ => dT (fun k => ?_) fun _ => dT (fun k => ?_) fun _ => lq
  · have := dN k; exact cy (Fj (by omega)) fun r l1 h1 => go _ _ (by omega) (by simp only [Pg.sz, List.map_append, List.sum_append, aZ, bc, List.sum_cons, List.sum_nil] at h1 ⊢; omega)
  · have := dN k; exact cy (qR _) fun r l1 h1 => cy (fW _ l1) fun _ l2 h2 => go _ _ (by omega) (by simp only [Pg.sz, bH, bz]; omega)
  · have := dN k; exact cy (ET (by omega)) fun r l1 h1 => go _ _ (by omega) (by simp only [Pg.sz, List.map_append, List.sum_append, aZ, bc, List.sum_cons, List.sum_nil] at h1 ⊢; omega)
  · have := dN k; exact cy ((yo m).blk 0 l.tail (by omega)) fun r l1 h1 => go _ _ (by omega) (by simp only [Pg.sz, List.map_append, List.sum_append, aZ, bc, List.sum_cons, List.sum_nil] at h1 ⊢; omega)
theorem CJ : ∀ (k : Nat) (rest : List UInt8) (p : Nat × Nat), rest.length = k → ∀ ts, gd rest p = .ok ts → ts.length ≤ rest.length + 1 ∧ ∀ t ∈ ts, t.text.length ≤ rest.length := by
 intro k
 induction k using Nat.strongRecOn with
 | ind k ih =>
  intro rest p hk ts h
  cases rest with
  | nil =>
   rw [lN] at h; obtain rfl := LR.ok.inj h; exact ⟨by simp, by simp⟩
  | cons c l =>
   by_cases hb : eO (c :: l) = 0
   · cases ht : (dp (c :: l)).2.2.2 with
     | false => rw [nB hb ht] at h; cases h
     | true =>
      rw [lO hb ht] at h; have hpos := kV ht; have hdl : ((c :: l).drop (dp (c :: l)).2.1).length = (c :: l).length - (dp (c :: l)).2.1 := cz ..
      cases hr : gd ((c :: l).drop (dp (c :: l)).2.1) (adv ((c :: l).take (dp (c :: l)).2.1) p) with
      | err q => rw [hr] at h; cases h
      | ok ts' =>
       rw [hr] at h; obtain rfl := LR.ok.inj h; simp only [ai] at hdl hk; obtain ⟨h1, h2⟩ := ih _ (by omega) _ _ rfl ts' hr; refine ⟨by simp only [ai]; omega, fun t hm => ?_⟩
       rcases List.mem_cons.1 hm with rfl | hm
       · simp only [iY]; exact Nat.le_trans (List.length_take_le _ _) (og c l)
       · have := h2 t hm; simp only [ai]; omega
   · rw [jo hb] at h
     have hdl : ((c :: l).drop (eO (c :: l))).length = (c :: l).length - eO (c :: l) := cz ..; simp only [ai] at hdl hk; obtain ⟨h1, h2⟩ := ih _ (by omega) _ _ rfl ts h; exact ⟨by simp only [ai]; omega, fun t hm => by have := h2 t hm; simp only [ai]; omega⟩
theorem yC : ∀ w ∈ iy, ∀ lv, lv < 3 → (gy lv).contains w = false := by
 intro w hw lv hlv
 have : lv = 0 ∨ lv = 1 ∨ lv = 2 := by omega
 rcases this with rfl | rfl | rfl <;> revert w <;> decide
theorem nN {t : Tok} (h : Tk t) : t.kind ≠ 0 ∧ (t.n < 9223372036854775808 ∨ t.kind = 4) ∧ (t.kind = 5 → ∀ c ∈ t.text, c ≠ 32) ∧ (t.kind = 2 → ix t.text = true) := by
 obtain ⟨a, l, h1, h2, h3⟩ := h.ex; have hk := Bx (c := a) (l := l) (by rw [h3]); rw [h3] at hk; refine ⟨hk, ?_⟩; rw [h1]
 cases ha : cd a with
 | true =>
  rw [gr ha] at h3; obtain ⟨e1, e2⟩ := Prod.mk.inj h3; obtain ⟨e2, e3⟩ := Prod.mk.inj e2; obtain ⟨e3, e4⟩ := Prod.mk.inj e3; rw [e2, List.take_length] at e1 e3; unfold jY at e1 e3
  cases hw : ix (a :: l) with
  | true =>
   simp only [hw, if_true] at e1 e3; exact ⟨.inl (by omega), fun q => by omega, fun _ => rfl⟩
  | false =>
   cases hn : lg (a :: l) with
   | true =>
    simp only [hw, hn, if_true, if_false, ae] at e1 e3; exact ⟨.inl (by omega), fun q => by omega, fun q => by omega⟩
   | false =>
    simp only [hw, hn, if_false, ae] at e1 e3; have := zT (a :: l); exact ⟨.inl (by omega), fun q => by omega, fun q => by omega⟩
 | false =>
  by_cases hc : a = 35
  · subst hc
    rw [fM] at h3; obtain ⟨e1, e2⟩ := Prod.mk.inj h3; exact ⟨.inr e1.symm, fun q => by omega, fun q => by omega⟩
  · rw [fD ha hc] at h3
    obtain ⟨e1, e2⟩ := Prod.mk.inj h3; obtain ⟨e2, e3⟩ := Prod.mk.inj e2; obtain ⟨e3, e4⟩ := Prod.mk.inj e3; refine ⟨.inl (by omega), fun _ => ?_, fun q => by omega⟩; unfold eQ at e2; split at e2
    · rename_i hp
      have : ∃ b, l = [b] := by
       cases l with
       | nil => simp at e2
       | cons b l => cases l with
        | nil => exact ⟨b, rfl⟩
        | cons _ _ => simp at e2
      obtain ⟨b, rfl⟩ := this; simp only [iQ, ef, an, beq_iff_eq] at hp; intro c hm; simp only [List.mem_cons, List.not_mem_nil, or_false] at hm
      rcases hp with (⟨rfl, rfl, _⟩ | ⟨rfl, rfl, _⟩) | ⟨rfl, rfl, _⟩ <;> rcases hm with rfl | rfl <;> decide
    · simp only at e2
      split at e2
      · rename_i hs
        have : l = [] := List.length_eq_zero_iff.1 (by simp only [ai] at e2; omega); subst this; intro c hm; rw [List.mem_singleton] at hm; subst hm
        rintro rfl
        revert hs
        decide
      · simp at e2
theorem E9 {l : List UInt8} (hl : l.length ≤ 8192) {p : Nat × Nat} {ts : List Tok} (h : gd l p = .ok ts) : Row ts ∧ Gl ts ∧ ts.length ≤ l.length + 1 := by
 obtain ⟨t0, h1, h2⟩ := su l.length l p rfl ts h; obtain ⟨h3, h4⟩ := CJ l.length l p rfl ts h
 have hm : ∀ t ∈ ts, Tk t ∨ t = ⟨0, [], 0, adv l p⟩ := by
  intro t ht; rw [h2] at ht
  rcases List.mem_append.1 ht with ht | ht
  · exact .inl (h1 t ht)
  · exact .inr (List.mem_singleton.1 ht)
 refine ⟨⟨by omega, ⟨t0, adv l p, h2, fun t ht => (nN (h1 t ht)).1⟩, fun t ht => ?_, fun t ht => by have := h4 t ht; omega, fun t ht k => ?_⟩, fun t ht k => ?_, h3⟩
 · rcases hm t ht with q | rfl
   · exact (nN q).2.1
   · exact .inl (by simp)
 · rcases hm t ht with q | rfl
   · exact (nN q).2.2.1 k
   · simp at k
 · rcases hm t ht with q | rfl
   · have := (nN q).2.2.2 k
     exact yC _ (by simpa [ix] using this)
   · simp at k
def hZ (ts : List Tok) : PR Pg := ((eA 10000 100000 ⟨[], [], [], []⟩ ts).getD (.bad 0 (0, 0)))
theorem mA {ts : List Tok} (h : ts.length ≤ 8193) : eA 10000 100000 ⟨[], [], [], []⟩ ts = some (hZ ts) ∧ ∀ g l', hZ ts = .ok g l' → g.sz ≤ 70000 := by
 obtain ⟨x, h1, h2⟩ := wW (m := 100000) 10000 ⟨[], [], [], []⟩ ts (by omega) (by omega); unfold hZ; rw [h1]; refine ⟨rfl, fun g l' e => ?_⟩; have := h2 g l' e; simp only [Pg.sz, bc, List.sum_nil, aD] at this; simp only [Pg.sz]; omega
def iS (l : List UInt8) : Pg × Nat × Nat × Nat := if (mV l).1 = 0 then match hZ (sv l) with | .ok g _ => (g, 0, 0, 0) | .bad e q => (pg0, e, q.1, q.2) else (pg0, mV l)
def AY {R : Type} (x : Ex) (A B : Option R) : Option R := match x with
 | .normal => A
 | .ret => B
 | _ => none
noncomputable def H47 (a0 a1 a2 : PV) (st : St) : Option St :=
(aW [(0, 1), (1, 1), (2, 1), (3, 1)] [.sl [] .nil, .sl [] .nil, .sl [] .nil, .sl [] .nil] []).bind fun p1 =>
(ak false 1 a0 st).bind fun p2 =>
(aF p2).bind fun p3 =>
(ao p3 3).bind fun p4 =>
(ak true 3 p4 st).bind fun p5 =>
(aq st.stk.length 4 a1 p1 st).bind fun st6 =>
(aq st.stk.length 3 a2 p5 st6).bind fun st7 =>
some st7
theorem Gj (a0 a1 a2 : PV) (st : St) : CB [a0, a1, a2] 108 (.agg #[]) st = H47 a0 a1 a2 st := by kernel_rfl
noncomputable def S20 (call : bD) (a0 : PV) (st : St) : Option (PV × St) :=
let q2 : PV := .ptr false st.stk.length 0
let st1 := st.push [.sl [] .nil, .sl [] .nil, .sl [] .nil, .sl [] .nil]
let q4 : PV := .ptr false st1.stk.length 0
let st3 := st1.push [.v (.int .i64 0), .v (.int .i64 0), .v (.int .i64 0)]
(call (.func 46) [ah a0] st3).bind fun r5 =>
(aQ r5.1 0).bind fun p6 =>
(aQ r5.1 1).bind fun p7 =>
let q9 : PV := .ptr false r5.2.stk.length 0
let st8 := r5.2.push [.v (.int .i64 0), .v (.int .i64 0), .v (.int .i64 0)]
(aq st.stk.length 3 q9 p7 st8).bind fun st10 =>
(ak true 3 q9 st10).bind fun p11 =>
(aW [(0, 1), (1, 1), (2, 1)] [.v (.int .i64 0), .v (.int .i64 0), .v (.int .i64 0)] []).bind fun p12 =>
(aH Tryz.prog false .neq 54 p11 p12).bind fun p13 =>
ay p13 fun b14 => (bif b14 then
(aW [(0, 1), (1, 1), (2, 1), (3, 1)] [.sl [] .nil, .sl [] .nil, .sl [] .nil, .sl [] .nil] []).bind fun p16 =>
(ak true 3 q9 st10).bind fun p17 =>
bR (st10 = st10) <|
(aq st.stk.length 4 q2 p16 st10).bind fun st18 =>
bR (((ak true 3 q9 st18).bind fun p19 =>
some (Rs.ret p19, st18)) = some (Rs.ret p17, st18)) <|
(aq st.stk.length 3 q4 p17 st18).bind fun st20 =>
some (Ex.ret, [q2, q4, p6], st20)
else
some (Ex.normal, [q2, q4, p6], st10)).bind fun r15 =>
AY r15.1 ((aW [(0, 1), (1, 1), (2, 1), (3, 3)] [.sl [] .nil, .v (.int .i64 0), .v (.int .i64 0), .v (.int .i64 0), .v (.int .i64 0), .v (.int .i64 0)] [(0, (ab r15.2.1 2))]).bind fun p21 =>
(cellsOf p21).bind fun b22 =>
let q24 : PV := .ptr false r15.2.2.stk.length 0
let st23 := r15.2.2.push b22
let q26 : PV := .ptr false st23.stk.length 0
let st25 := st23.push [.v (.pointer none)]
(aq st.stk.length 1 q26 q24 st25).bind fun st27 =>
(lF (Fn.func 47) true [q26, (ab r15.2.1 0), (ab r15.2.1 1)]).bind fun p28 =>
sD 47 3 p28 fun cs29 =>
(ak false 1 q26 st27).bind fun p30 =>
(call (.func 48) [ah p30] st27).bind fun r31 =>
aV r31 (fun p32 st33 =>
(aW [(0, 1), (1, 1), (2, 1)] [.v (.int .i64 0), .v (.int .i64 0), .v (.int .i64 0)] []).bind fun p37 =>
(aq st.stk.length 4 (ab r15.2.1 0) p32 st33).bind fun st38 =>
(aq st.stk.length 3 (ab r15.2.1 1) p37 st38).bind fun st39 =>
(ak true 4 (ab r15.2.1 0) st39).bind fun p40 =>
(ak true 3 (ab r15.2.1 1) st39).bind fun p41 =>
fin st.stk.length st.tk.length st.lp.length [p40, p41] st39) (fun t34 x35 st36 =>
(CB cs29 t34 x35 st36).bind fun st42 =>
(ak true 4 (ab r15.2.1 0) st42).bind fun p43 =>
(ak true 3 (ab r15.2.1 1) st42).bind fun p44 =>
fin st.stk.length st.tk.length st.lp.length [p43, p44] st42)) ((ak true 4 (ab r15.2.1 0) r15.2.2).bind fun p45 =>
(ak true 3 (ab r15.2.1 1) r15.2.2).bind fun p46 =>
fin st.stk.length st.tk.length st.lp.length [p45, p46] r15.2.2)
theorem xA (a0 : PV) (st : St) : E L (.func 20) [a0] st = S20 (E L) a0 st := (yI (L := L) (q := jS.mD) (by kernel_rfl) _ _).trans (by kernel_rfl)
theorem Ds {s : St} {N : Nat} (hN : s.stk.length = N) {j off base sz : Nat} {bl : List Blk} {x : Blk} {cs : List PV} {tk : List (Nat × Nat)} {lp : List Aux} (hj : bl[j]? = some x) (hb : N + j < base) (hl : off + cs.length ≤ x.cs.length) (hz : cs.length = sz) (h0 : sz ≠ 0) (hs : cs.all qP = true) (hk : aG cs = true) :
 aq base sz (.ptr false (N + j) off) (.agg cs) (s.app bl tk lp) = some (s.app (bl.modify j fun y => ⟨laid x.cs off cs, y.tk⟩) tk lp) := by
 subst hN
 have h1 : (s.app bl tk lp).blk false (s.stk.length + j) = some x.cs := by
  show ((s.stk ++ bl)[s.stk.length + j]?).map Blk.cs = _
  rw [List.getElem?_append_right (by omega), show s.stk.length + j - s.stk.length = j by omega, hj]
  rfl
 have h3 : dI (off + cs.length) x.cs.length = true := by rw [Nat.ble_eq]; exact hl
 have h5 : (aj cs.length sz && !aj sz 0) = true := by
  rw [hz, Nat.beq_refl]
  cases sz with
  | zero => exact absurd rfl h0
  | succ n => rfl
 have h6 : fZ (s.stk.length + j) base = true := by rw [Nat.blt_eq]; exact hb
 simp only [aq, AM.cellsOf, ag, putCells, h1, h3, hk, h5, h6, bn, cond_true, Bool.or_true, Bool.false_or, j8 hs, jq]
attribute [local simp] cY cu bV bW cv dS fk dY dh dW dc dX de fj bX gU dR gW gK gE AM.ab aL aM aY aN ay AM.onG fK bF dF Ex.ba cond_true cond_false cU cT cS cR cQ cW cP cX cV dZ di dj cr cZ AM.du AM.cellsOf AM.ao bE beq_true dm ai aD bh bu bP decide_true decide_false bC bm bn bA bf aB az bg aA da db fg aw bB bj bM cw dQ dU cI eu ep set_set eD dA fE dB cF bG dz cE dy cD dx eC eE fA fB bK cq eo fw ed aV aR aF AM.aQ ah dt bU aZ bc aJ aI AM.part aO aK bY cg cf cn cn.eS AM.dL bq bT dJ fQ aV laid aG aW cj
attribute [-simp] ag
attribute [local congr] dK
theorem j6 (b : Bool) (x y z u v w : Int) : aH Tryz.prog b .neq 54 (.agg [.v (.int .i64 x), .v (.int .i64 y), .v (.int .i64 z)]) (.agg [.v (.int .i64 u), .v (.int .i64 v), .v (.int .i64 w)]) = some (.v (.bool (!((x == u) && ((y == v) && ((z == w) && true)))))) := by kernel_rfl
abbrev z3 : List PV := [.v (.int .i64 0), .v (.int .i64 0), .v (.int .i64 0)]
abbrev mU (A B F : List PV) (p : List PV) (N : Nat) : List Blk := [⟨A, []⟩, ⟨B, []⟩, ⟨F, []⟩, ⟨p, []⟩, ⟨[.ptr false (N + 3) 0], []⟩]
theorem Gk {s : St} {N T Lb : Nat} (hN : s.stk.length = N) (hT : s.tk.length = T) (hL : s.lp.length = Lb) (F : List PV) (es : List (List PV)) (a d e q1 q2 : Int) :
 H47 (.ptr false (N + 4) 0) (.ptr false N 0) (.ptr false (N + 1) 0) (s.app (mU z4 z3 F (pcf es a d e q1 q2) N) [] []) = some (s.app (mU z4 [.v (.int .i64 e), .v (.int .i64 q1), .v (.int .i64 q2)] F (pcf es a d e q1 q2) N) [] []) := by
 have hlen : (s.app (mU z4 z3 F (pcf es a d e q1 q2) N) [] []).stk.length = N + 5 := by rw [cw, hN]; rfl
 have s1 := Ds hN (j := 0) (off := 0) (base := N + 5) (sz := 4) (bl := mU z4 z3 F (pcf es a d e q1 q2) N) (x := ⟨z4, []⟩) (cs := z4) (tk := []) (lp := []) rfl (by omega) (by decide) rfl (by decide) rfl rfl; have s2 := Ds hN (j := 1) (off := 0) (base := N + 5) (sz := 3) (bl := mU z4 z3 F (pcf es a d e q1 q2) N) (x := ⟨z3, []⟩) (cs := [.v (.int .i64 e), .v (.int .i64 q1), .v (.int .i64 q2)]) (tk := []) (lp := []) rfl (by omega) (av 3) rfl (by decide) rfl rfl; have m1 : (mU z4 z3 F (pcf es a d e q1 q2) N).modify 0 (fun y => ⟨laid (⟨z4, []⟩ : Blk).cs 0 z4, y.tk⟩) = mU z4 z3 F (pcf es a d e q1 q2) N := rfl; have m2 : (mU z4 z3 F (pcf es a d e q1 q2) N).modify 1 (fun y => ⟨laid (⟨z3, []⟩ : Blk).cs 0 [.v (.int .i64 e), .v (.int .i64 q1), .v (.int .i64 q2)], y.tk⟩) = mU z4 [.v (.int .i64 e), .v (.int .i64 q1), .v (.int .i64 q2)] F (pcf es a d e q1 q2) N := rfl; rw [m1] at s1; rw [m2] at s2; unfold H47; rw [hlen]; simp only [mU, pcf, z4, z3, bu] at s1 s2 ⊢; simp [hN, hT, hL, s1, s2, aW, cj]
theorem uC {l : List UInt8} (hl : l.length < 100000) (st : St) : E L (.func 20) [str l] st = some (.tup [lJ (iS l).1, .agg (sh (iS l).2)], st) := by
 have e46 := Gb (l := l) (by omega); unfold iS
 by_cases h0 : (mV l).1 = 0
 · rw [if_pos h0]
   have hlen : l.length ≤ 8192 := by
    have := h0; unfold mV at this; split at this
    · simp at this
    · omega
   obtain ⟨ts, hts⟩ : ∃ ts, gd l (1, 1) = .ok ts := by
    cases hL : gd l (1, 1) with
    | ok ts => exact ⟨ts, rfl⟩
    | err q => have := (wI hlen hL).2; rw [this] at h0; simp at h0
   have hlt := ve hlen hts; rw [hlt.1] at e46 ⊢; rw [hlt.2] at e46; obtain ⟨hr, hns, hn⟩ := E9 hlen hts
   have hne : ts ≠ [] := by
    obtain ⟨t0, q, e, _⟩ := hr.shape
    rw [e]; simp
   have hp := (mA (ts := ts) (by omega)).1; have h1 := yf hr (m := 100000) (n := 10000) (by omega) (by omega) ⟨hne, [], rfl⟩ hp
   have hA : pcA ts ts = 0 := by simp [pcA]
   cases hq : hZ ts with
   | ok g l' =>
    rw [hq] at h1; rw [xA]; obtain ⟨N, T, Lb, hN, hT, hL⟩ := lens3 st
    conv => lhs; rw [← al st]
    have e48 := h1.2 (N + 3) (st.app (mU z4 z3 z3 (pc ts ts 0) N) [] []) (by rw [cw, hN]; show N + 3 < N + 5; omega)
    have m1 : ∀ cs, (st.app (mU z4 z3 z3 (pc ts ts 0) N) [] []).af false (N + 3) cs = st.app (mU z4 z3 z3 cs N) [] [] := fun cs => by subst hN; exact jq st _ [] [] 3 cs
    rw [m1, m1] at e48; simp only [pc, pcf, mU, z3, z4, hA, lJ, eB] at e46 e48 ⊢
    generalize au ts = es at *
    generalize jX g.gM = rs at *
    generalize nms g.gls = gs at *
    generalize om g.gJ = fs at *
    generalize ot g.ths = hs at *
    simp [S20, j6, hN, hT, hL, e46, e48, AY, aW, cj, lF, sD, fi]
   | bad er q =>
    rw [hq] at h1; obtain ⟨a', d'', h1⟩ := h1; rw [xA]; obtain ⟨N, T, Lb, hN, hT, hL⟩ := lens3 st
    conv => lhs; rw [← al st]
    have e48 := h1 (N + 3) (st.app (mU z4 z3 z3 (pc ts ts 0) N) [] []) (by rw [cw, hN]; show N + 3 < N + 5; omega)
    have m1 : ∀ cs, (st.app (mU z4 z3 z3 (pc ts ts 0) N) [] []).af false (N + 3) cs = st.app (mU z4 z3 z3 cs N) [] [] := fun cs => by subst hN; exact jq st _ [] [] 3 cs
    rw [m1, m1] at e48; have e47 := Gk hN hT hL z3 (au ts) a' d'' er q.1 q.2; rw [← Gj] at e47; have ez : (jX pg0.gM = [] ∧ nms pg0.gls = []) ∧ om pg0.gJ = [] ∧ ot pg0.ths = [] := ⟨⟨rfl, rfl⟩, rfl, rfl⟩; simp only [pc, pcf, mU, z3, z4, hA, lJ, ez, eB] at e46 e47 e48 ⊢
    generalize au ts = es at *
    simp [S20, j6, hN, hT, hL, e46, e47, e48, AY, aW, cj, lF, sD, fi]; exact ⟨rfl, rfl, rfl, rfl⟩
 · rw [if_neg h0]
   have h0' : ¬ (((mV l).1 : Int) = 0) := by omega
   rw [xA]; obtain ⟨N, T, Lb, hN, hT, hL⟩ := lens3 st
   conv => lhs; rw [← al st]
   have ez : (jX pg0.gM = [] ∧ nms pg0.gls = []) ∧ om pg0.gJ = [] ∧ ot pg0.ths = [] := ⟨⟨rfl, rfl⟩, rfl, rfl⟩
   generalize mV l = f at *
   simp only [lJ, ez]; simp [S20, j6, hN, hT, hL, e46, h0, h0', AY, aW, cj]; exact ⟨rfl, rfl, rfl, rfl⟩
end Go.Proofs.YtlhlijaondmccaaGreatDoor.S
namespace Go.Proofs.YtlhlijaondmccaaGreatDoor.S
open Go Go.AM Go.Proofs
attribute [local simp] cY cu bV bW cv dS fk dY dh dW dc dX de fj bX gU dR gW gK gE AM.ab aL aM ag aY aN ay AM.onG fK bF dF Ex.ba cond_true cond_false cU cT cS cR cQ cW cP cX cV dZ di dj cr cw dQ dU nC n7 cZ lX mL lM my AM.du AM.cellsOf AM.ao bE zo u0 beq_true dm ai aD bh bu bP decide_true decide_false bC bm bn bA bf aB az bg aA u5 xT xS da db sj fg aw bB bj bM
def nmT (n : Nm) : List ByteArray := [n.name, gL n.ty.kd, n.ty.rc]
def AQ (l : List Nm) : List ByteArray := gL l.length :: l.flatMap nmT
def Rec.tx (r : Rec) : List ByteArray := r.name :: AQ r.fields
def Fu.tx (r : Fu) : List ByteArray := r.name :: (AQ r.params ++ sO r.body)
def Th.tx (r : Th) : List ByteArray := sO r.body
def Pg.hd (p : Pg) : List ByteArray := [gL p.gM.length, gL p.gJ.length, gL p.ths.length]
def Pg.tx (p : Pg) : List ByteArray := p.hd ++ p.gM.flatMap Rec.tx ++ AQ p.gls ++ p.gJ.flatMap Fu.tx ++ p.ths.flatMap Th.tx
end Go.Proofs.YtlhlijaondmccaaGreatDoor.S
namespace Go.Proofs.YtlhlijaondmccaaGreatDoor.S
open Go Go.AM Go.Proofs
attribute [local simp] cY cu bV bW cv dS fk dY dh dW dc dX de fj bX gU dR gW gK gE AM.ab aL aM aY aN ay AM.onG fK bF dF Ex.ba cond_true cond_false cU cT cS cR cQ cW cP cX cV dZ di dj cr cZ AM.du AM.cellsOf AM.ao bE beq_true dm ai aD bh bu bP decide_true decide_false bC bm bn bA bf aB az bg aA da db fg aw bB bj bM cw dQ dU cI eu ep set_set eD dA fE dB cF bG dz cE dy cD dx eC eE fA fB bK cq eo fw ed aV aR aF AM.aQ ah dt bU aZ bc aJ aI AM.part aO aK bY cg cf cn cn.eS AM.dL bq bT dJ fQ aV laid aG aW cj
attribute [-simp] ag
attribute [local congr] dK
abbrev cA : List UInt8 := [116, 104, 114, 101, 97, 100, 32, 123, 32, 112, 114, 105, 110, 116, 32, 49, 32, 43, 32, 50, 32, 42, 32, 51, 59, 32, 125]
abbrev cB : List UInt8 := [116, 104, 114, 101, 97, 100, 32, 123, 32, 112, 114, 105, 110, 116, 32, 59, 32, 125]
def G7 : PV → List (List PV)
 | .sl es _ => es
 | _ => []
def SA : List PV := ((iS cA).1.ths.flatMap fun t => fL t.body).flatten
def KA (i : Nat) : List PV := (G7 (SA.getD 49 .u)).getD i []
theorem pA : (lJ (iS cA).1, (iS cA).2) = (.agg [.sl [] .dead, .sl [] .dead, .sl [] .dead, .sl [[.sl [SA] .dead, int 1, int 1]] .dead], (0, 0, 0)) := by kernel_rfl
theorem pB : (lJ (iS cB).1, (iS cB).2) = (.agg [.sl [] .dead, .sl [] .dead, .sl [] .dead, .sl [] .dead], (4, 1, 16)) := by kernel_rfl
theorem sA0 : SA[0]? = some (int 5) := by kernel_rfl
theorem IH : SA[49]? = some (.sl [KA 0, KA 1] .dead) := by kernel_rfl
theorem sAl : SA.length = 58 := by kernel_rfl
theorem kAl : (KA 1).length = 9 := by kernel_rfl
theorem kA1 : (KA 1)[1]? = some (int 2) := by kernel_rfl
theorem ES (b : Bool) (x y z u v w : Int) : aH Tryz.prog b .eql 54 (.agg [.v (.int .i64 x), .v (.int .i64 y), .v (.int .i64 z)]) (.agg [.v (.int .i64 u), .v (.int .i64 v), .v (.int .i64 w)]) = some (.v (.bool ((x == u) && ((y == v) && ((z == w) && true))))) := by kernel_rfl
theorem oD (st : St) : E L (.func 19) [] st = some (.v (.bool true), st) := by
 rw [Gx]; obtain ⟨N, T, Lb, hN, hT, hL⟩ := lens3 st
 conv => lhs; rw [← al (st)]
 have e1 : ∀ X, E L (.func 20) [str cA] X = _ := uC (by decide)
 have e2 : ∀ X, E L (.func 20) [str cB] X = _ := uC (by decide)
 have a1 := congrArg Prod.fst pA; have a2 := congrArg Prod.snd pA; have b1 := congrArg Prod.fst pB; have b2 := congrArg Prod.snd pB; simp only at a1 a2 b1 b2; rw [a1, a2] at e1; rw [b1, b2] at e2; clear a1 a2 b1 b2; have s0 := sA0; have s49 := IH; have k1 := kA1; have sl := sAl; have kl := kAl
 generalize SA = s at *
 generalize KA 0 = k0 at *
 generalize KA 1 = k1' at *
 simp only [sh, aa, eB] at e1 e2
 have s0' : ∀ h : 0 < s.length, s[0] = int 5 := fun h => (List.getElem_eq_iff h).2 s0
 have s49' : ∀ h : 49 < s.length, s[49] = .sl [k0, k1'] .dead := fun h => (List.getElem_eq_iff h).2 s49
 have k1q : ∀ h : 1 < k1'.length, k1'[1] = int 2 := fun h => (List.getElem_eq_iff h).2 k1
 simp [S19, s0', s49', k1q, ES, e1, e2, s0, s49, k1, sl, kl, Ha, Hb, Hc, HU, HV, HW, aW, cj, AM.part, eM]
end Go.Proofs.YtlhlijaondmccaaGreatDoor.S
namespace Go.Proofs.YtlhlijaondmccaaGreatDoor.S
open Go Go.AM Go.Proofs
abbrev Bq (l l' : List Tok) : Prop := l.map Tok.bare = l'.map Tok.bare
abbrev Tq (t u : Tok) : Prop := t.bare = u.bare
theorem Tq.k {t u : Tok} (h : Tq t u) : t.kind = u.kind := congrArg (fun x => x.1) h
theorem Tq.t {t u : Tok} (h : Tq t u) : t.text = u.text := congrArg (fun x => x.2.1) h
theorem Tq.m {t u : Tok} (h : Tq t u) : t.n = u.n := congrArg (fun x => x.2.2) h
theorem Bq.hd {l l' : List Tok} (h : Bq l l') : Tq (hd l) (hd l') := by
 cases l with
 | nil => cases l' with
  | nil => rfl
  | cons a l' => exact absurd (congrArg List.length h) (by simp)
 | cons a l => cases l' with
  | nil => exact absurd (congrArg List.length h) (by simp)
  | cons a' l' => simp only [Bq, aZ, List.cons.injEq] at h; exact h.1
theorem Bq.tail {l l' : List Tok} (h : Bq l l') : Bq l.tail l'.tail := by
 cases l with
 | nil => cases l' with
  | nil => rfl
  | cons a l' => exact absurd (congrArg List.length h) (by simp)
 | cons a l => cases l' with
  | nil => exact absurd (congrArg List.length h) (by simp)
  | cons a' l' => simp only [Bq, aZ, List.cons.injEq] at h; exact h.2
theorem Bq.isT {l l' : List Tok} (h : Bq l l') (s : List UInt8) : isT l s = isT l' s := by unfold S.isT; rw [h.hd.k, h.hd.t]
theorem Bq.next {l l' : List Tok} (h : Bq l l') : Bq (dq l) (dq l') := by
 unfold dq; rw [h.hd.k]; split
 · exact h
 · exact h.tail
inductive Pq {α : Type} (R : α → α → Prop) : Option (PR α) → Option (PR α) → Prop
 | none : Pq R none none
 | bad (e : Nat) (q q' : Nat × Nat) (he : e ≠ 0 := by decide) : Pq R (some (.bad e q)) (some (.bad e q'))
 | ok {a b : α} {l l' : List Tok} (h : R a b) (h' : Bq l l') : Pq R (some (.ok a l)) (some (.ok b l'))
theorem Pq.pb {α β : Type} {R : α → α → Prop} {T : β → β → Prop} {x y : Option (PR α)} (h : Pq R x y) {K K' : α → List Tok → Option (PR β)}
 (hk : ∀ a b l l', R a b → Bq l l' → Pq T (K a l) (K' b l')) : Pq T (S.pb x K) (S.pb y K') := by
 cases h with
 | none => exact .none
 | bad e q q' he => exact .bad e q q' he
 | ok h h' => exact hk _ _ _ _ h h'
theorem Pq.ite {α : Type} {R : α → α → Prop} {x y x' y' : Option (PR α)} {c c' : Prop} [Decidable c] [Decidable c'] (hc : c ↔ c') (h : Pq R x y) (h' : Pq R x' y') : Pq R (if c then x else x') (if c' then y else y') := by
 by_cases h0 : c
 · rw [if_pos h0, if_pos (hc.1 h0)]; exact h
 · rw [if_neg h0, if_neg fun e => h0 (hc.2 e)]; exact h'
theorem Pq.it {α : Type} {R : α → α → Prop} {x y x' y' : Option (PR α)} {l l' : List Tok} (hl : Bq l l') (s : List UInt8) (h : Pq R x y) (h' : Pq R x' y') : Pq R (if isT l s then x else x') (if isT l' s then y else y') := .ite (by rw [hl.isT]) h h'
theorem Pq.down {α : Type} {R : α → α → Prop} {x y : Option (PR α)} {d : Nat} {t u : Tok} (h : Pq R x y) : Pq R (mP d t x) (mP d u y) := .ite Iff.rfl (.bad ..) h
theorem jm (k : Nat) {l l' : List Tok} (h : Bq l l') : Pq Tq (some (ec k l)) (some (ec k l')) := by
 unfold ec; rw [h.hd.k]; split
 · exact .ok h.hd h.next
 · exact .bad ..
theorem iE (s : List UInt8) {l l' : List Tok} (h : Bq l l') : Pq Tq (some (cL s l)) (some (cL s l')) := by
 unfold cL; rw [h.isT]; split
 · exact .ok h.hd h.tail
 · exact .bad ..
theorem Ik {l l' : List Tok} (h : Bq l l') : Pq Eq (some (qj l)) (some (qj l')) := by
 unfold qj; simp only [h.isT]; split
 · exact .ok rfl h.tail
 split
 · exact .ok rfl h.tail
 split
 · exact .ok rfl h.tail
 have := jm 1 h
 generalize ec 1 l = x at *
 generalize ec 1 l' = y at *
 cases this with
 | bad e q q' he => exact .bad _ _ _ he
 | ok h1 h2 => exact .ok (by simp only [h1.t]) h2
abbrev Nq (a b : Nm) : Prop := nmT a = nmT b
theorem vi {l l' : List Tok} (h : Bq l l') : Pq Nq (jf l) (jf l') :=
 (jm 1 h).pb fun t u l1 l1' ht h1 => (iE _ h1).pb fun _ _ l2 l2' _ h2 => (Ik h2).pb fun ty ty' l3 l3' hty h3 => .ok (by subst hty; simp only [Nq, nmT, ht.t]) h3
abbrev XqT (a b : X) : Prop := a.text = b.text
theorem tF {t u : Tok} (op : Int) {n n' kd kd' : Int} {rc rc' name name' : List UInt8} (h1 : n = n') (h2 : kd = kd') (h3 : rc = rc') (h4 : name = name') : XqT (atX t op n kd rc name) (atX u op n' kd' rc' name') := by
 subst h1 h2 h3 h4; simp only [XqT, X.vy]; rfl
theorem X.Dz {op bin n kd : Int} {rc name : ByteArray} {ks ks' : List X} {p p' : Int × Int} (h : iz ks = iz ks') (hl : ks.length = ks'.length) : XqT ⟨op, bin, n, kd, rc, name, ks, p.1, p.2⟩ ⟨op, bin, n, kd, rc, name, ks', p'.1, p'.2⟩ := by
 rw [XqT, X.vy, X.vy]; exact (congr (congrArg (fun (a : Nat) (b : List ByteArray) => [⟨#[101, 120, 112, 114]⟩, gL op, gL bin, gL (w64 n), gL kd, rc, name, gL a] ++ b) hl) h :)
theorem Hl {t u : Tok} (lv : Nat) (h : Tq t u) : gx lv t = gx lv u := by unfold gx; rw [h.k, h.t]
theorem FH {t u : Tok} (h : Tq t u) : fR t = fR u := by unfold fR; rw [h.k, h.t]
theorem Cr : ∀ n : Nat, (∀ d {l l'}, Bq l l' → Pq XqT (il n d l) (il n d l')) ∧ (∀ d {l l'}, Bq l l' → Pq XqT (fv n d l) (fv n d l')) ∧
 (∀ lv d {l l'}, Bq l l' → Pq XqT (dG n lv d l) (dG n lv d l')) ∧ (∀ lv d {e e' l l'}, XqT e e' → Bq l l' → Pq XqT (ig n lv d e l) (ig n lv d e' l'))
 | 0 => by
  refine ⟨fun d l l' h => ?_, fun d l l' h => ?_, fun lv d l l' h => ?_, fun lv d e e' l l' _ h => ?_⟩
  · rw [il, il]; exact .none
  · rw [fv, fv]; exact .none
  · rw [dG, dG]; exact .none
  · rw [ig, ig]; exact .none
 | n + 1 => by
  obtain ⟨hA, hP, hC, hR⟩ := Cr n; refine ⟨fun d l l' h => ?_, fun d l l' h => ?_, fun lv d l l' h => ?_, fun lv d e e' l l' he h => ?_⟩
  · rw [il, il]
    have k := h.hd.k; have t := h.hd.t; have m := h.hd.m; refine .ite (by rw [k]) (.ok (tF _ (by rw [m]) rfl rfl rfl) h.next) ?_; refine .ite (by rw [k]) (.ok (tF _ (by rw [m]) rfl rfl rfl) h.next) ?_; refine .ite (by rw [k]) (.ok (tF _ rfl rfl rfl (by rw [t])) h.next) ?_; refine .ite (by rw [k, t]) ?_ ?_
    · have := jm 3 h.next
      generalize ec 3 (dq l) = x at *
      generalize ec 3 (dq l') = y at *
      cases this with
      | bad e q q' he => exact .bad _ _ _ he
      | ok h1 h2 => exact .ok (tF _ (by rw [h1.m]) rfl rfl rfl) h2
    refine .ite (by rw [k, t]) ?_ ?_
    · refine .it h.next _ (.ok (tF _ rfl rfl rfl rfl) h.next.tail) ?_
      have := jm 1 h.next
      generalize ec 1 (dq l) = x at *
      generalize ec 1 (dq l') = y at *
      cases this with
      | bad e q q' he => exact .bad _ _ _ he
      | ok h1 h2 => exact .ok (tF _ rfl rfl (by rw [h1.t]) rfl) h2
    refine .ite (by rw [k, t]) (.down ((hC _ _ h.next).pb fun e e' l1 l1' he h1 => (iE _ h1).pb fun _ _ l2 l2' _ h2 => .ok he h2)) (.bad ..)
  · rw [fv, fv]
    have e := FH h.hd; refine .ite (by rw [e]) (hA _ h) (.down ((hP _ h.next).pb fun k k' l1 l1' hk h1 => .ok ?_ h1)); rw [e]; exact X.Dz (p := ((hd l).p.1, (hd l).p.2)) (p' := ((hd l').p.1, (hd l').p.2)) (by simp only [iz]; rw [hk]) rfl
  · rw [dG, dG]
    exact .ite Iff.rfl (hP _ h) ((hC _ _ h).pb fun e e' l1 l1' he h1 => hR _ _ he h1)
  · rw [ig, ig]
    simp only [Hl lv h.hd]
    cases gx lv (hd l') with
    | none => exact .ok he h
    | some b =>
     refine (hC _ _ h.next).pb fun k k' l1 l1' hk h1 => ?_
     have hn : ∀ p p' : Int × Int, XqT ⟨9, b, 0, 0, bs [], bs [], [e, k], p.1, p.2⟩ ⟨9, b, 0, 0, bs [], bs [], [e', k'], p'.1, p'.2⟩ := fun p p' => X.Dz (by simp only [iz]; rw [hk, he]) rfl
     exact .ite Iff.rfl (.ok (hn ((hd l).p.1, (hd l).p.2) ((hd l').p.1, (hd l').p.2)) h1) (hR _ _ (hn ((hd l).p.1, (hd l).p.2) ((hd l').p.1, (hd l').p.2)) h1)
theorem mm (n lv d : Nat) {l l' : List Tok} (h : Bq l l') : Pq XqT (dG n lv d l) (dG n lv d l') := (Cr n).2.2.1 lv d h
abbrev Lq (a b : Pl) : Prop := a.tx = b.tx
theorem zS (n d : Nat) {l l' : List Tok} (h : Bq l l') : Pq Lq (mC n d l) (mC n d l') :=
 (jm 1 h).pb fun t u l1 l1' ht h1 => by
  refine .it h1 _ ((jm 1 h1.tail).pb fun v w l2 l2' hv h2 => .ok ?_ h2) (.it h1 _ ((mm n 0 d h1.tail).pb fun e e' l2 l2' he h2 => (iE _ h2).pb fun _ _ l3 l3' _ h3 => .ok ?_ h3) (.ok ?_ h1))
  · simp only [Lq, Pl.tx, ht.t, hv.t]
  · simp only [Lq, Pl.tx, ht.t]; rw [he]
  · simp only [Lq, Pl.tx, ht.t]
def rtT (r : Rt) : ByteArray × Int × List ByteArray × List ByteArray := (r.name, r.op, r.e.text, r.place.tx)
abbrev RqT (a b : Rt) : Prop := rtT a = rtT b
theorem zX (n d : Nat) {l l' : List Tok} (h : Bq l l') : Pq RqT (gY n d l) (gY n d l') := by
 unfold gY; refine .it h _ ((zS n d h.tail).pb fun x y l1 l1' hx h1 => .ok ?_ h1) ?_
 · simp only [RqT, rtT]; rw [hx]
 refine .it h _ ((jm 1 h.tail).pb fun x y l1 l1' hx h1 => .ok ?_ h1) ?_
 · simp only [RqT, rtT]; rw [hx.t]
 refine .it h _ (.it h.tail _ ((mm n 0 d h.tail.tail).pb fun x y l1 l1' hx h1 => .ok ?_ h1) ((jm 1 h.tail).pb fun x y l1 l1' hx h1 => .ok ?_ h1)) ((mm n 0 d h).pb fun x y l1 l1' hx h1 => .ok ?_ h1)
 · simp only [RqT, rtT]; rw [hx]
 · simp only [RqT, rtT]; rw [hx.t]
 · simp only [RqT, rtT]; rw [hx]
abbrev Aq (a b : List X) : Prop := iz a = iz b ∧ a.length = b.length
theorem nQ : ∀ (p : List X) (x : X), iz (p ++ [x]) = iz p ++ x.text
 | [], x => by simp [iz]
 | y :: p, x => by simp [iz, nQ p x]
theorem Aq.add {a b : List X} (h : Aq a b) {x y : X} (hx : XqT x y) : Aq (a ++ [x]) (b ++ [y]) := by
 refine ⟨?_, by simp [h.2]⟩; rw [nQ, nQ, h.1, hx]
theorem BT : ∀ (n m d : Nat) {a a' : List X} {l l' : List Tok}, Aq a a' → Bq l l' → Pq Aq (iH n m d a l) (iH n m d a' l')
 | 0, _, _, _, _, _, _, _, _ => by rw [iH, iH]; exact .none
 | n + 1, m, d, a, a', l, l', ha, h => by
  rw [iH, iH]
  exact (mm m 0 d h).pb fun e e' l1 l1' he h1 => .it h1 _ (.ok (ha.add he) h1.tail) ((iE _ h1).pb fun _ _ l2 l2' _ h2 => BT n m d (ha.add he) h2)
theorem EA (n d : Nat) {l l' : List Tok} (h : Bq l l') : Pq Aq (qV n d l) (qV n d l') :=
 (iE _ h).pb fun _ _ l1 l1' _ h1 => .it h1 _ (.ok ⟨rfl, rfl⟩ h1.tail) (BT n n d ⟨rfl, rfl⟩ h1)
abbrev Sq (a b : S) : Prop := a.tx = b.tx
abbrev Wq (a b : List S) : Prop := tA a = tA b ∧ a.length = b.length
theorem Wq.row {a b : List S} (h : Wq a b) : sO a = sO b := by unfold sO; rw [h.1, h.2]
theorem Wq.add {a b : List S} (h : Wq a b) {x y : S} (hx : Sq x y) : Wq (a ++ [x]) (b ++ [y]) := by
 refine ⟨?_, by simp [h.2]⟩; rw [qQ, qQ, h.1, hx]
theorem nD {t u : Tok} (op : Int) {nm nm' : ByteArray} {r r' : Rt} {p p' : Pl} {e e' : X} {n n' : Int} {a a' : List X} {b b' c c' : List S} (h1 : nm = nm') (h2 : RqT r r') (h3 : Lq p p') (h4 : XqT e e') (h5 : n = n') (h6 : Aq a a') (h7 : Wq b b') (h8 : Wq c c') :
 Sq (mkS t op nm r p e n a b c) (mkS u op nm' r' p' e' n' a' b' c') := by
 subst h1 h5; simp only [RqT, rtT, Prod.mk.injEq] at h2; obtain ⟨q1, q2, q3, q4⟩ := h2; rw [Sq, S.F6, S.F6]
 show [⟨#[115, 116, 109, 116]⟩, gL op, nm, gL n, gL r.op, r.name, gL a.length] ++ r.e.text ++ r.place.tx ++ p.tx ++ e.text ++ iz a ++ sO b ++ sO c = [⟨#[115, 116, 109, 116]⟩, gL op, nm, gL n, gL r'.op, r'.name, gL a'.length] ++ r'.e.text ++ r'.place.tx ++ p'.tx ++ e'.text ++ iz a' ++ sO b' ++ sO c'
 rw [q1, q2, q3, q4, h6.1, h6.2, h7.row, h8.row, h3, h4]
theorem Wq.nil : Wq [] [] := ⟨rfl, rfl⟩
theorem Aq.nil : Aq [] [] := ⟨rfl, rfl⟩
theorem oZ {s s' : S} {l l' : List Tok} (hs : Sq s s') (h : Bq l l') : Pq Sq (fV s l) (fV s' l') := (iE _ h).pb fun _ _ l1 l1' _ h1 => .ok hs h1
theorem rH {l l' : List Tok} (h : Bq l l') : (eU l).1 = (eU l').1 ∧ Bq (eU l).2 (eU l').2 := by
 unfold eU; rw [h.hd.k, h.hd.t]; split
 · exact ⟨rfl, h.next⟩
 · exact ⟨rfl, h⟩
theorem yw : ∀ n : Nat, (∀ d {l l'}, Bq l l' → Pq Wq (en n d l) (en n d l')) ∧ (∀ d {a a' l l'}, Wq a a' → Bq l l' → Pq Wq (j9 n d a l) (j9 n d a' l')) ∧
 (∀ d {t u} (nm : ByteArray) {l l'}, Bq l l' → Pq Sq (iB n d t nm l) (iB n d u nm l')) ∧ (∀ d {l l'}, Bq l l' → Pq Sq (iC n d l) (iC n d l'))
 | 0 => by
  refine ⟨fun d l l' h => ?_, fun d a a' l l' _ h => ?_, fun d t u nm l l' h => ?_, fun d l l' h => ?_⟩
  · rw [en, en]; exact .none
  · rw [j9, j9]; exact .none
  · rw [iB, iB]; exact .none
  · rw [iC, iC]; exact .none
 | n + 1 => by
  obtain ⟨hB, hW, hL, hS⟩ := yw n; refine ⟨fun d l l' h => ?_, fun d a a' l l' ha h => ?_, fun d t u nm l l' h => ?_, fun d l l' h => ?_⟩
  · rw [en, en]
    exact (iE _ h).pb fun t u l1 l1' _ h1 => .down (hW _ .nil h1)
  · rw [j9, j9]
    exact .it h _ (.ok ha h.tail) ((hS d h).pb fun s s' l1 l1' hs h1 => hW _ (ha.add hs) h1)
  · rw [iB, iB]
    exact (jm 3 h).pb fun v w l1 l1' hv h1 => (hB d h1).pb fun b b' l2 l2' hb h2 => .ok (nD _ rfl rfl rfl rfl (by rw [hv.m]) .nil hb .nil) h2
  · rw [iC, iC]
    have k := h.hd.k; have t := h.hd.t; refine .ite (by rw [k]) (.it h.next _ ((iE _ h.next.tail).pb fun _ _ l1 l1' _ h1 => by rw [t]; exact hL d _ h1) ((iE _ h.next).pb fun _ _ l1 l1' _ h1 => (zX n d h1).pb fun r r' l2 l2' hr h2 => oZ (nD _ (by rw [t]) hr rfl rfl rfl .nil .nil .nil) h2)) ?_; refine .it h _ (hL d _ h.tail) ?_; refine .it h _ ((mm n 0 d h.tail).pb fun e e' l1 l1' he h1 => (hB d h1).pb fun b b' l2 l2' hb h2 => .it h2 _ ((hB d h2.tail).pb fun c c' l3 l3' hc h3 => .ok (nD _ rfl rfl rfl he rfl .nil hb hc) h3) (.ok (nD _ rfl rfl rfl he rfl .nil hb .nil) h2)) ?_; refine .it h _ ((hB d h.tail).pb fun b b' l1 l1' hb h1 => .ok (nD _ rfl rfl rfl rfl rfl .nil hb .nil) h1) ?_; refine .ite (by rw [h.isT, h.isT]) ((jm 1 h.next).pb fun v w l1 l1' hv h1 => (iE _ h1).pb fun _ _ l2 l2' _ h2 => (zX n d h2).pb fun r r' l3 l3' hr h3 => oZ (by rw [t]; exact nD _ (by rw [hv.t]) hr rfl rfl rfl .nil .nil .nil) h3) ?_; refine .it h _ ((zS n d h.tail).pb fun x x' l1 l1' hx h1 => (iE _ h1).pb fun _ _ l2 l2' _ h2 => (mm n 0 d h2).pb fun e e' l3 l3' he h3 => oZ (nD _ rfl rfl hx he rfl .nil .nil .nil) h3) ?_; refine .it h _ ((mm n 0 d h.tail).pb fun e e' l1 l1' he h1 => oZ (nD _ rfl rfl rfl he rfl .nil .nil .nil) h1) ?_; refine .it h _ (oZ (nD _ (rH h.tail).1 rfl rfl rfl rfl .nil .nil .nil) (rH h.tail).2) ?_; refine .it h _ (oZ (nD _ (rH h.tail).1 rfl rfl rfl rfl .nil .nil .nil) (rH h.tail).2) ?_; exact .it h _ ((jm 1 h.tail).pb fun v w l1 l1' hv h1 => (EA n d h1).pb fun xs xs' l2 l2' hx h2 => oZ (nD _ (by rw [hv.t]) rfl rfl rfl rfl hx .nil .nil) h2) (.bad ..)
abbrev Mq (a b : List Nm) : Prop := a.flatMap nmT = b.flatMap nmT ∧ a.length = b.length
theorem Mq.add {a b : List Nm} (h : Mq a b) {x y : Nm} (hx : Nq x y) : Mq (a ++ [x]) (b ++ [y]) := by
 refine ⟨?_, by simp [h.2]⟩; simp only [List.flatMap_append, h.1, List.flatMap_cons, List.flatMap_nil]; rw [hx]
theorem Mq.row {a b : List Nm} (h : Mq a b) : AQ a = AQ b := by unfold AQ; rw [h.1, h.2]
theorem v8 : ∀ (n : Nat) {a a' : List Nm} {l l' : List Tok}, Mq a a' → Bq l l' → Pq Mq (gj n a l) (gj n a' l')
 | 0, _, _, _, _, _, _ => by rw [gj, gj]; exact .none
 | n + 1, a, a', l, l', ha, h => by
  rw [gj, gj]; exact .it h _ (.ok ha h.tail) ((vi h).pb fun f f' l1 l1' hf h1 => (iE _ h1).pb fun _ _ l2 l2' _ h2 => v8 n (ha.add hf) h2)
abbrev Cq (a b : Rec) : Prop := a.tx = b.tx
theorem H9 (n : Nat) {l l' : List Tok} (h : Bq l l') : Pq Cq (vq n l) (vq n l') :=
 (jm 1 h).pb fun t u l1 l1' ht h1 => (iE _ h1).pb fun _ _ l2 l2' _ h2 => (v8 n ⟨rfl, rfl⟩ h2).pb fun fs fs' l3 l3' hf h3 => .ok (by simp only [Cq, Rec.tx, ht.t, hf.row]) h3
theorem wO : ∀ (n : Nat) {a a' : List Nm} {l l' : List Tok}, Mq a a' → Bq l l' → Pq Mq (fu n a l) (fu n a' l')
 | 0, _, _, _, _, _, _ => by rw [fu, fu]; exact .none
 | n + 1, a, a', l, l', ha, h => by
  rw [fu, fu]
  exact (vi h).pb fun f f' l1 l1' hf h1 => .it h1 _ (.ok (ha.add hf) h1.tail) ((iE _ h1).pb fun _ _ l2 l2' _ h2 => wO n (ha.add hf) h2)
abbrev Uq (a b : Fu) : Prop := a.tx = b.tx
theorem HO (n : Nat) {l l' : List Tok} (h : Bq l l') : Pq Uq (wj n l) (wj n l') :=
 (jm 1 h).pb fun t u l1 l1' ht h1 => (iE _ h1).pb fun _ _ l2 l2' _ h2 => (Pq.it (R := Mq) h2 _ (.ok ⟨rfl, rfl⟩ h2.tail) (wO n ⟨rfl, rfl⟩ h2)).pb fun ps ps' l3 l3' hp h3 =>
  ((yw n).1 0 h3).pb fun b b' l4 l4' hb h4 => .ok (by simp only [Uq, Fu.tx, ht.t, hp.row, hb.row]) h4
structure Gq (a b : Pg) : Prop where
 rl : a.gM.length = b.gM.length
 r : a.gM.flatMap Rec.tx = b.gM.flatMap Rec.tx
 g : Mq a.gls b.gls
 fl : a.gJ.length = b.gJ.length
 f : a.gJ.flatMap Fu.tx = b.gJ.flatMap Fu.tx
 tl : a.ths.length = b.ths.length
 t : a.ths.flatMap Th.tx = b.ths.flatMap Th.tx
theorem Gq.tx {a b : Pg} (h : Gq a b) : a.tx = b.tx := by unfold Pg.tx Pg.hd; rw [h.rl, h.r, h.g.row, h.fl, h.f, h.tl, h.t]
theorem fm1 {α β : Type} (f : α → List β) {a b : List α} {x y : α} (h : a.flatMap f = b.flatMap f) (hx : f x = f y) : (a ++ [x]).flatMap f = (b ++ [y]).flatMap f := by
 simp only [List.flatMap_append, h, List.flatMap_cons, List.flatMap_nil, hx]
theorem G9 {α : Type} {a b : List α} {x y : α} (h : a.length = b.length) : (a ++ [x]).length = (b ++ [y]).length := by simp [h]
theorem qK : ∀ (n m : Nat) {g g' : Pg} {l l' : List Tok}, Gq g g' → Bq l l' → Pq Gq (eA n m g l) (eA n m g' l')
 | 0, _, _, _, _, _, _, _ => by rw [eA, eA]; exact .none
 | n + 1, m, g, g', l, l', hg, h => by
  rw [eA, eA]; refine .ite (by rw [h.hd.k]) (.ok hg h) ?_; refine .it h _ ((H9 m h.tail).pb fun r r' l1 l1' hr h1 => qK n m ⟨G9 hg.rl, fm1 _ hg.r hr, hg.g, hg.fl, hg.f, hg.tl, hg.t⟩ h1) ?_; refine .it h _ ((vi h.tail).pb fun r r' l1 l1' hr h1 => (iE _ h1).pb fun _ _ l2 l2' _ h2 => qK n m ⟨hg.rl, hg.r, hg.g.add hr, hg.fl, hg.f, hg.tl, hg.t⟩ h2) ?_; refine .it h _ ((HO m h.tail).pb fun r r' l1 l1' hr h1 => qK n m ⟨hg.rl, hg.r, hg.g, G9 hg.fl, fm1 _ hg.f hr, hg.tl, hg.t⟩ h1) ?_; exact .it h _ (((yw m).1 0 h.tail).pb fun b b' l1 l1' hb h1 => qK n m ⟨hg.rl, hg.r, hg.g, hg.fl, hg.f, G9 hg.tl, fm1 _ hg.t (by simp only [Th.tx]; exact hb.row)⟩ h1) (.bad ..)
theorem Gq.refl (g : Pg) : Gq g g := ⟨rfl, rfl, ⟨rfl, rfl⟩, rfl, rfl, rfl, rfl⟩
theorem Fg {ts us : List Tok} (h : Bq ts us) : (∃ g g' l l', hZ ts = .ok g l ∧ hZ us = .ok g' l' ∧ g.tx = g'.tx) ∨ ∃ e q q', hZ ts = .bad e q ∧ hZ us = .bad e q' := by
 have := qK 10000 100000 (.refl ⟨[], [], [], []⟩) h; unfold hZ
 generalize eA 10000 100000 ⟨[], [], [], []⟩ ts = x at *
 generalize eA 10000 100000 ⟨[], [], [], []⟩ us = y at *
 cases this with
 | none => exact .inr ⟨_, _, _, rfl, rfl⟩
 | bad e q q' _ => exact .inr ⟨_, _, _, rfl, rfl⟩
 | ok h1 h2 => exact .inl ⟨_, _, _, _, rfl, rfl, h1.tx⟩
theorem AX {ts : List Tok} (h : ts.length ≤ 8193) {e : Nat} {q : Nat × Nat} (hb : hZ ts = .bad e q) : e ≠ 0 := by
 have h1 := qK 10000 100000 (.refl ⟨[], [], [], []⟩) (rfl : Bq ts ts); rw [(mA h).1, hb] at h1
 cases h1 with
 | bad _ _ _ he => exact he
def txl : List Tok → Nat
 | [] => 0
 | t :: r => t.text.length + txl r
theorem wH : ∀ (k : Nat) (rest : List UInt8) (p : Nat × Nat), rest.length = k → ∀ ts, gd rest p = .ok ts → txl ts ≤ rest.length ∧ ts.length ≤ rest.length + 1 := by
 intro k
 induction k using Nat.strongRecOn with
 | ind k ih =>
  intro rest p hk ts h
  cases rest with
  | nil =>
   rw [lN] at h; obtain rfl := LR.ok.inj h; exact ⟨av _, av _⟩
  | cons c l =>
   by_cases hb : eO (c :: l) = 0
   · cases ht : (dp (c :: l)).2.2.2 with
     | false => rw [nB hb ht] at h; cases h
     | true =>
      rw [lO hb ht] at h; have hpos := kV ht; have hle := og c l; have hdl : ((c :: l).drop (dp (c :: l)).2.1).length = (c :: l).length - (dp (c :: l)).2.1 := cz ..
      have htl : ((c :: l).take (dp (c :: l)).2.1).length = (dp (c :: l)).2.1 := by rw [List.length_take]; omega
      cases hr : gd ((c :: l).drop (dp (c :: l)).2.1) (adv ((c :: l).take (dp (c :: l)).2.1) p) with
      | err q => rw [hr] at h; cases h
      | ok ts' =>
       rw [hr] at h; obtain rfl := LR.ok.inj h; have := ih _ (by simp only [ai] at hdl hk; omega) _ _ rfl ts' hr; simp only [txl, iY, ai] at this hdl htl hle ⊢; omega
   · rw [jo hb] at h
     have hle := nU (c :: l); have hdl : ((c :: l).drop (eO (c :: l))).length = (c :: l).length - eO (c :: l) := cz ..; have := ih _ (by simp only [ai] at hdl hk; omega) _ _ rfl ts h; omega
theorem ue {l : List UInt8} {ts : List Tok} (hl : l.length ≤ 8192) (h : gd l (1, 1) = .ok ts) : iS l = match hZ ts with | .ok g _ => (g, 0, 0, 0) | .bad e q => (pg0, e, q.1, q.2) := by
 have := ve hl h; unfold iS; rw [this.1, this.2]
 rfl
theorem IB {ts : List Tok} {i : Nat} {c : Cap} (k : IntKind) (h : i < ts.length) : cc Tryz.prog 65 (.sl (au ts) c) (.v (.int k (i : Int))) = some (.fp (Tok.c ts[i]) 0) := by
 rw [HY]
 have h1 : eM (i : Int) (au ts).length = true := by simp [eM, fN, h]
 rw [h1, cond_true, Int.toNat_natCast, au, List.getElem?_map, cO h]
 rfl
section
attribute [local simp] cY cu bV bW cv dS fk dY dh dW dc dX de fj bX gU dR gW gK gE AM.ab aL aM aY aN ay AM.onG fK bF dF Ex.ba cond_true cond_false cU cT cS cR cQ cW cP cX cV dZ di dj cr cZ AM.du AM.cellsOf AM.ao bE beq_true dm ai aD bh bu bP decide_true decide_false bC bm bn bA bf aB az bg aA da db fg aw bB bj bM cw dQ dU cI eu ep set_set eD dA fE dB cF bG dz cE dy cD dx eC eE fA fB bK cq eo fw ed aV aR aF AM.aQ ah dt bU aZ bc aJ aI AM.part aO aK bY cg cf cn cn.eS AM.dL bq bT dJ fQ aV laid aG aW cj
attribute [-simp] ag
attribute [local congr] dK
end
end Go.Proofs.YtlhlijaondmccaaGreatDoor.S
namespace Go.Proofs.YtlhlijaondmccaaGreatDoor
open Go Go.AM Go.ChangeShapes Go.WideShapes Go.ChangeAt Go.RowKit
theorem own : ownKnob Tryz.prog.godebug = none := by kernel_rfl
theorem tp {H : Type} {enc : TypeId × Value → H} {a : Assume} {C : Checked} {os : Os} {f : FuncId} {fn : Func} {s : ChangeSpec} {conds : List PathCond} {apart fresh handsOn again : Bool} {X : World → Array Value → Prop}
 (hX : ∀ (w w' : World) (args : Array Value), w.heap = w'.heap → X w args → X w' args)
 (own : ownKnob C.prog.godebug = none) (started : os.Started) (noInit : C.prog.inits.idxOf? f = none) (hfn : C.prog.funcs[f]? = some fn)
 (witness : ∃ (w : World) (tape : Tape) (i : Input), w.os = os ∧ (w.forCall tape i).Shaped C.prog ∧ i.vars = [] ∧ Input.okWide C.prog (w.forCall tape i) .any w.heap.size f i ∧
  ((s.pre enc C.prog fn conds apart (w.forCall tape i).memory i.args ∧ X (w.forCall tape i).memory i.args) ∧ sizedMet enc C.prog fn (OpenSpec.ofChange s) apart (w.forCall tape i).memory i.args) ∧ a.holds C.prog (lone (Frame.enter C.prog f i.args .normal) [] (w.forCall tape i)))
 (contract : ∀ (W : World) (base : Nat) (args : Array Value) (ds gs : List (DataW H)) (before : List MemPlace),
  (∀ (j : Nat) t v, fn.params[j]? = some t → args[j]? = some v → Value.okWide C.prog W .any base t v) →
  DataW.Whole enc C.prog fn.params.toList s.vars apart W args.toList ds gs before → X W args → W.ShapedOpen C.prog →
  Calls C.prog f args W fun e W' => ∃ v, e = .returned v ∧ s.post enc C.prog fn apart fresh handsOn again W args v W') :
 ReturnsInHanded a C os f .any (fun w args => (s.pre enc C.prog fn conds apart w args ∧ X w args) ∧ sizedMet enc C.prog fn (OpenSpec.ofChange s) apart w args) (s.post enc C.prog fn apart fresh handsOn again) := by
 refine returnsInHanded_of_calls own started noInit witness ?_; intro w tape i _ hsh _ hok hpre _; obtain ⟨_, _, _, fn', hfn', _, _, _, _, hval⟩ := hok; have e : fn' = fn := Option.some.inj (hfn'.symm.trans hfn); subst e; obtain ⟨⟨⟨ds, gs, before, hw, hc⟩, hx⟩, hz⟩ := hpre; have hw' := DataW.Whole.of_heap (w' := w.forCall tape i) (by rfl) hw
 refine (contract (w.forCall tape i) w.heap.size i.args ds gs before hval hw' (hX _ _ _ (by rfl) hx) hsh).mono fun e W' ⟨v, he, hp⟩ => ?_
 subst he; exact ChangeSpec.post_blind hp
theorem HQ : Tryz.prog.globalNamed "strconv.ErrSyntax" = some 4 := by kernel_rfl
theorem HP : Tryz.prog.globalNamed "strconv.ErrRange" = some 5 := by kernel_rfl
theorem Ig : (Tryz.prog.globals[4]?).map (·.type) = some 128 := by kernel_rfl
theorem Ie : (Tryz.prog.globals[5]?).map (·.type) = some 128 := by kernel_rfl
theorem IA : Tryz.prog.globalNamed "internal/strconv.uint64pow10" = some 0 := by kernel_rfl
theorem Ih : (Tryz.prog.globals[0]?).map (·.type) = some 185 := by kernel_rfl
theorem star : "*errors.errorString" = "*" ++ "errors.errorString" := by decide
theorem FZ (u : TypeId) (h : Tryz.prog.typeName? 3 u = some "*errors.errorString") : u = 230 :=
 typeName_ptr_named (nm := "errors.errorString") (by rw [← star]; kernel_rfl) (by kernel_rfl) (by decide) u (by rw [← star]; exact h)
theorem zg {W : World} {g o : Nat} {v : Value} (h : W.cell? ⟨g, o, none⟩ = some v) : g < W.heap.size := by
 unfold World.cell? at h
 cases hb : W.heap[g]? with
 | none => simp [hb] at h
 | some x => exact (Array.getElem?_eq_some_iff.1 hb).1
theorem G5 {W : World} (hs : W.ShapedOpen Tryz.prog) (hL : laidMetH Tryz.prog Rows.parseBlanksRow.laid W) : ∃ gv : GV, S.Gvs gv ∧ mY gv W (Cg W) := by
 rw [MakeChecks.laidMetH_plain _ _ _ (by kernel_rfl)] at hL
 have hT : Lib.TabIs Tryz.prog W "internal/strconv.uint64pow10" .u64 Lib.pow10Tab := Lib.tabIs_of_head IA Ih Tryz.underlying185 Tryz.underlying34 (by kernel_rfl) (by kernel_rfl) hL.tail.tail
 obtain ⟨a1, s1, hv1, _⟩ := laid_sentinel hL.tail.tail.tail HP Ie Tryz.underlying128 FZ Tryz.underlying230 Tryz.underlying232 rfl rfl Tryz.underlying9 (by kernel_rfl) (by kernel_rfl); obtain ⟨a2, s2, hv2, _⟩ := laid_sentinel hL.tail.tail.tail.tail HQ Ig Tryz.underlying128 FZ Tryz.underlying230 Tryz.underlying232 rfl rfl Tryz.underlying9 (by kernel_rfl) (by kernel_rfl); obtain ⟨m, hm⟩ := cell_of_shapedOpen_int (g := 3) (k := .i64) (zero := #[.int .i64 0]) (t := 3) hs (of_decide_eq_true (by kernel_rfl)) (by kernel_rfl) rfl (by kernel_rfl) (by kernel_rfl) Tryz.underlying3
 have c1 : W.cell? ⟨4, 0, none⟩ = some (.iface 230 (.pointer (some a2))) := by simpa using World.var?_cell HQ hv2 0
 have c2 : W.cell? ⟨5, 0, none⟩ = some (.iface 230 (.pointer (some a1))) := by simpa using World.var?_cell HP hv1 0
 refine ⟨⟨fun g o => if g < 6 ∧ o = 0 then W.cell? ⟨g, o, none⟩ else none, W⟩, ⟨⟨m, ?_⟩, ⟨.iface 230 (.pointer (some a2)), ?_, .inr ⟨230, .pointer (some a2), rfl⟩⟩, ⟨.iface 230 (.pointer (some a1)), ?_, .inr ⟨230, .pointer (some a1), rfl⟩⟩, hT, ?_⟩, fun g o v h => ?_, av _, Below.refl _ _⟩
 · show (if 3 < 6 ∧ 0 = 0 then W.cell? ⟨3, 0, none⟩ else none) = _
   rw [if_pos (by omega)]; exact hm
 · show (if 4 < 6 ∧ 0 = 0 then W.cell? ⟨4, 0, none⟩ else none) = _
   rw [if_pos (by omega)]; exact c1
 · show (if 5 < 6 ∧ 0 = 0 then W.cell? ⟨5, 0, none⟩ else none) = _
   rw [if_pos (by omega)]; exact c2
 · exact zg c2
 · have h' : (if g < 6 ∧ o = 0 then W.cell? ⟨g, o, none⟩ else none) = some v := h
   split at h'
   · exact ⟨zg h', h'⟩
   · cases h'
theorem Cj (os : Os) (args : Array Value) : laidMetH Tryz.prog Rows.parseBlanksRow.laid ((World.doorLaid Tryz.prog 128 os).forCall (fun _ _ => 0) ⟨#[], args, []⟩).memory :=
 laidMetH_of_parts3 (fuel := 8) (laidMet_of_run' 65 (by kernel_rfl) (by kernel_rfl)) (by kernel_rfl) (by kernel_rfl)
end Go.Proofs.YtlhlijaondmccaaGreatDoor
namespace Go.Proofs.YtlhlijaondmccaaGreatDoor.S
open Go Go.AM Go.Proofs
section
variable {E : Tok} {B : List Tok} {α β : Type} {A : List Tok}
def Lk (E : Tok) (B : List Tok) (c k : Bool) (A : List Tok) (x y : Option (PR α)) : Prop :=
 ∀ a l', x = some (.ok a l') → ∃ C A', A = C ++ A' ∧ l' = A' ++ [E] ∧ (c = true → C ≠ []) ∧ ((k = true ∨ A' ≠ []) → y = some (.ok a (A' ++ B)))
theorem Lk.any {c : Bool} {x y y' : Option (PR α)} (h : Lk E B c false [] x y) : Lk E B c false [] x y' := fun a l' e =>
 let ⟨C, A', h1, h2, h3, h4⟩ := h a l' e
 ⟨C, A', h1, h2, h3, fun q => by
  rcases q with q | q
  · cases q
  · exact absurd (List.append_eq_nil_iff.1 h1.symm).2 q⟩
variable (hE : E.kind = 0)
include hE
theorem tU (s : List UInt8) : isT [E] s = false := by simp [isT, hd, hE]
omit hE in
theorem ff {t : Tok} {l : List Tok} (h : t.kind ≠ 0) : dq (t :: l) = l := if_neg h
end
noncomputable def S5.c (call : bD) (it : bN) (base lb m : Nat) (v4 v11 v12 v13 v15 v48 v49 v50 : PV) (s : St) : Option (Ex × List PV × St) :=
(ao v15 1).bind fun p60 =>
(ak false 1 p60 s).bind fun p61 =>
(aH Tryz.prog false .add 9 v11 p61).bind fun p62 =>
(aH Tryz.prog true .add 9 p62 (PV.v (.string ⟨#[32]⟩))).bind fun p63 =>
(ao v15 1).bind fun p64 =>
(ak false 1 p64 s).bind fun p65 =>
(aH Tryz.prog true .eql 9 p65 (PV.v (.string ⟨#[114, 101, 99, 111, 114, 100]⟩))).bind fun p66 =>
(onG p66 false (
(ao v15 1).bind fun p69 =>
some (p69, s)) s).bind fun r68 =>
(onG p66 false (
(ak false 1 r68.1 r68.2).bind fun p72 =>
some (p72, r68.2)) r68.2).bind fun r71 =>
(onG p66 false (
(aH Tryz.prog true .eql 9 r71.1 (PV.v (.string ⟨#[103, 108, 111, 98, 97, 108]⟩))).bind fun p75 =>
some (p75, r71.2)) r71.2).bind fun r74 =>
(bE p66 (PV.v (.bool true)) r74.1).bind fun p76 =>
(onG p76 false (
(ao v15 1).bind fun p79 =>
some (p79, r74.2)) r74.2).bind fun r78 =>
(onG p76 false (
(ak false 1 r78.1 r78.2).bind fun p82 =>
some (p82, r78.2)) r78.2).bind fun r81 =>
(onG p76 false (
(aH Tryz.prog true .eql 9 r81.1 (PV.v (.string ⟨#[102, 117, 110]⟩))).bind fun p85 =>
some (p85, r81.2)) r81.2).bind fun r84 =>
(bE p76 (PV.v (.bool true)) r84.1).bind fun p86 =>
(onG p86 false (
(ao v15 1).bind fun p89 =>
some (p89, r84.2)) r84.2).bind fun r88 =>
(onG p86 false (
(ak false 1 r88.1 r88.2).bind fun p92 =>
some (p92, r88.2)) r88.2).bind fun r91 =>
(onG p86 false (
(aH Tryz.prog true .eql 9 r91.1 (PV.v (.string ⟨#[116, 104, 114, 101, 97, 100]⟩))).bind fun p95 =>
some (p95, r91.2)) r91.2).bind fun r94 =>
(bE p86 (PV.v (.bool true)) r94.1).bind fun p96 =>
ay p96 fun b97 => (bif b97 then
some (Ex.normal, [v4, p63, v12, (PV.v (.bool true)), v15, v48, v49, v50], r94.2)
else
some (Ex.normal, [v4, p63, v12, v13, v15, v48, v49, v50], r94.2)).bind fun r98 =>
bF r98.1 ((ao (ab r98.2.1 4) 1).bind fun p100 =>
(ak false 1 p100 r98.2.2).bind fun p101 =>
(aH Tryz.prog true .eql 9 p101 (PV.v (.string ⟨#[123]⟩))).bind fun p102 =>
ay p102 fun b103 => (bif b103 then
(aH Tryz.prog true .add 3 (ab r98.2.1 2) (PV.v (.int .i64 1))).bind fun p105 =>
some (Ex.normal, [(ab r98.2.1 0), (ab r98.2.1 1), p105, (ab r98.2.1 3), (ab r98.2.1 4), (ab r98.2.1 5), (ab r98.2.1 6), (ab r98.2.1 7)], r98.2.2)
else
some (Ex.normal, [(ab r98.2.1 0), (ab r98.2.1 1), (ab r98.2.1 2), (ab r98.2.1 3), (ab r98.2.1 4), (ab r98.2.1 5), (ab r98.2.1 6), (ab r98.2.1 7)], r98.2.2)).bind fun r104 =>
bF r104.1 ((ao (ab r104.2.1 4) 1).bind fun p107 =>
(ak false 1 p107 r104.2.2).bind fun p108 =>
(aH Tryz.prog true .eql 9 p108 (PV.v (.string ⟨#[125]⟩))).bind fun p109 =>
ay p109 fun b110 => (bif b110 then
(aH Tryz.prog true .sub 3 (ab r104.2.1 2) (PV.v (.int .i64 1))).bind fun p112 =>
(onG (ab r104.2.1 3) true (
some (p112, r104.2.2)) r104.2.2).bind fun r114 =>
(onG (ab r104.2.1 3) true (
(aH Tryz.prog true .gtr 3 r114.1 (PV.v (.int .i64 0))).bind fun p117 =>
some (p117, r114.2)) r114.2).bind fun r116 =>
(bE (ab r104.2.1 3) r116.1 (PV.v (.bool false))).bind fun p118 =>
some (Ex.normal, [(ab r104.2.1 0), (ab r104.2.1 1), p112, p118, (ab r104.2.1 4), (ab r104.2.1 5), (ab r104.2.1 6), (ab r104.2.1 7)], r116.2)
else
some (Ex.normal, [(ab r104.2.1 0), (ab r104.2.1 1), (ab r104.2.1 2), (ab r104.2.1 3), (ab r104.2.1 4), (ab r104.2.1 5), (ab r104.2.1 6), (ab r104.2.1 7)], r104.2.2)).bind fun r111 =>
bF r111.1 ((ao (ab r111.2.1 4) 1).bind fun p120 =>
(ak false 1 p120 r111.2.2).bind fun p121 =>
(aH Tryz.prog true .eql 9 p121 (PV.v (.string ⟨#[59]⟩))).bind fun p122 =>
(onG p122 true (
some ((ab r111.2.1 2), r111.2.2)) r111.2.2).bind fun r124 =>
(onG p122 true (
(aH Tryz.prog true .eql 3 r124.1 (PV.v (.int .i64 0))).bind fun p127 =>
some (p127, r124.2)) r124.2).bind fun r126 =>
(bE p122 r126.1 (PV.v (.bool false))).bind fun p128 =>
ay p128 fun b129 => (bif b129 then
some (Ex.normal, [(ab r111.2.1 0), (ab r111.2.1 1), (ab r111.2.1 2), (PV.v (.bool false)), (ab r111.2.1 5), (ab r111.2.1 6), (ab r111.2.1 7)], r126.2)
else
some (Ex.normal, [(ab r111.2.1 0), (ab r111.2.1 1), (ab r111.2.1 2), (ab r111.2.1 3), (ab r111.2.1 5), (ab r111.2.1 6), (ab r111.2.1 7)], r126.2)).bind fun r130 =>
bF (Ex.ba 1 r130.1) ((aH Tryz.prog true .add 3 (ab r130.2.1 6) (PV.v (.int .i64 1))).bind fun p132 =>
eN base lb m Ex.normal [(ab r130.2.1 0), (ab r130.2.1 1), (ab r130.2.1 2), (ab r130.2.1 3), (ab r130.2.1 4), (ab r130.2.1 5), p132] r130.2.2) fun x131 =>
eN base lb m x131 [(ab r130.2.1 0), (ab r130.2.1 1), (ab r130.2.1 2), (ab r130.2.1 3), (ab r130.2.1 4), (ab r130.2.1 5), (ab r130.2.1 6)] r130.2.2) fun x119 =>
bF (Ex.ba 1 x119) ((aH Tryz.prog true .add 3 (ab r111.2.1 7) (PV.v (.int .i64 1))).bind fun p134 =>
eN base lb m Ex.normal [(ab r111.2.1 0), (ab r111.2.1 1), (ab r111.2.1 2), (ab r111.2.1 3), (ab r111.2.1 5), (ab r111.2.1 6), p134] r111.2.2) fun x133 =>
eN base lb m x133 [(ab r111.2.1 0), (ab r111.2.1 1), (ab r111.2.1 2), (ab r111.2.1 3), (ab r111.2.1 5), (ab r111.2.1 6), (ab r111.2.1 7)] r111.2.2) fun x106 =>
bF (Ex.ba 1 x106) ((aH Tryz.prog true .add 3 (ab r104.2.1 7) (PV.v (.int .i64 1))).bind fun p136 =>
eN base lb m Ex.normal [(ab r104.2.1 0), (ab r104.2.1 1), (ab r104.2.1 2), (ab r104.2.1 3), (ab r104.2.1 5), (ab r104.2.1 6), p136] r104.2.2) fun x135 =>
eN base lb m x135 [(ab r104.2.1 0), (ab r104.2.1 1), (ab r104.2.1 2), (ab r104.2.1 3), (ab r104.2.1 5), (ab r104.2.1 6), (ab r104.2.1 7)] r104.2.2) fun x99 =>
bF (Ex.ba 1 x99) ((aH Tryz.prog true .add 3 (ab r98.2.1 7) (PV.v (.int .i64 1))).bind fun p138 =>
eN base lb m Ex.normal [(ab r98.2.1 0), (ab r98.2.1 1), (ab r98.2.1 2), (ab r98.2.1 3), (ab r98.2.1 5), (ab r98.2.1 6), p138] r98.2.2) fun x137 =>
eN base lb m x137 [(ab r98.2.1 0), (ab r98.2.1 1), (ab r98.2.1 2), (ab r98.2.1 3), (ab r98.2.1 5), (ab r98.2.1 6), (ab r98.2.1 7)] r98.2.2
noncomputable def S5.b0 (call : bD) (it : bN) (base lb : Nat) (vs49 : List PV) (st50 : St) : Option (Ex × List PV × St) :=
(aH Tryz.prog false .lss 3 (ab vs49 6) (ab vs49 5)).bind fun p51 =>
ay p51 fun b52 => (bif b52 then
some (Ex.normal, [(ab vs49 0), (ab vs49 1), (ab vs49 2), (ab vs49 3), (ab vs49 4), (ab vs49 5), (ab vs49 6)], st50)
else
some ((Ex.exit 0), [(ab vs49 0), (ab vs49 1), (ab vs49 2), (ab vs49 3), (ab vs49 4), (ab vs49 5), (ab vs49 6)], st50)).bind fun r53 =>
bF r53.1 ((cc Tryz.prog 65 (ab r53.2.1 4) (ab r53.2.1 6)).bind fun p55 =>
(ak true 5 p55 r53.2.2).bind fun p56 =>
let q58 : PV := .ptr false r53.2.2.stk.length 0
let st57 := r53.2.2.push [.v (.int .i64 0), .v (.string ⟨#[]⟩), .v (.int .u64 0), .v (.int .i64 0), .v (.int .i64 0)]
(aq base 5 q58 p56 st57).bind fun st59 =>
S5.c call it base lb st50.stk.length (ab r53.2.1 0) (ab r53.2.1 1) (ab r53.2.1 2) (ab r53.2.1 3) q58 (ab r53.2.1 4) (ab r53.2.1 5) (ab r53.2.1 6) st59) fun x54 =>
eN base lb st50.stk.length x54 [(ab r53.2.1 0), (ab r53.2.1 1), (ab r53.2.1 2), (ab r53.2.1 3), (ab r53.2.1 4), (ab r53.2.1 5), (ab r53.2.1 6)] r53.2.2
noncomputable def S5 (call : bD) (it : bN) (a0 a1 : PV) (st : St) : Option (PV × St) :=
(call (.func 19) [] st).bind fun r1 =>
(aUn Tryz.prog .not r1.1).bind fun p2 =>
ay p2 fun b3 => (bif b3 then
some (Ex.ret, [a0, a1, (PV.v (.bool false))], r1.2)
else
some (Ex.normal, [a0, a1, (PV.v (.bool false))], r1.2)).bind fun r4 =>
bF r4.1 ((gh Tryz.prog 9 (ab r4.2.1 0)).bind fun p6 =>
(aH Tryz.prog true .gtr 3 p6 (PV.v (.int .i64 8192))).bind fun p7 =>
ay p7 fun b8 => (bif b8 then
some (Ex.ret, [(ab r4.2.1 0), (ab r4.2.1 1), (PV.v (.bool true))], r4.2.2)
else
some (Ex.normal, [(ab r4.2.1 0), (ab r4.2.1 1), (ab r4.2.1 2)], r4.2.2)).bind fun r9 =>
bF r9.1 ((call (.func 20) [ah (ab r9.2.1 0)] r9.2.2).bind fun r11 =>
(aQ r11.1 0).bind fun p12 =>
(aQ r11.1 1).bind fun p13 =>
let q15 : PV := .ptr false r11.2.stk.length 0
let st14 := r11.2.push [.sl [] .nil, .sl [] .nil, .sl [] .nil, .sl [] .nil]
let q17 : PV := .ptr false st14.stk.length 0
let st16 := st14.push [.v (.int .i64 0), .v (.int .i64 0), .v (.int .i64 0)]
(aq st.stk.length 4 q15 p12 st16).bind fun st18 =>
(aq st.stk.length 3 q17 p13 st18).bind fun st19 =>
(ak true 3 q17 st19).bind fun p20 =>
(aW [(0, 1), (1, 1), (2, 1)] [.v (.int .i64 0), .v (.int .i64 0), .v (.int .i64 0)] []).bind fun p21 =>
(aH Tryz.prog false .neq 54 p20 p21).bind fun p22 =>
ay p22 fun b23 => (bif b23 then
some (Ex.ret, [(ab r9.2.1 0), (ab r9.2.1 1), (PV.v (.bool true))], st19)
else
some (Ex.normal, [(ab r9.2.1 0), (ab r9.2.1 1), (ab r9.2.1 2)], st19)).bind fun r24 =>
bF r24.1 ((call (.func 26) [ah (ab r24.2.1 0)] r24.2.2).bind fun r26 =>
(aQ r26.1 0).bind fun p27 =>
(aQ r26.1 1).bind fun p28 =>
(aQ r26.1 2).bind fun p29 =>
(aQ r26.1 3).bind fun p30 =>
(aH Tryz.prog true .lss 3 (ab r24.2.1 1) (PV.v (.int .i64 0))).bind fun p31 =>
(onG p31 false (
some ((ab r24.2.1 1), r26.2)) r26.2).bind fun r33 =>
(onG p31 false (
some (p27, r33.2)) r33.2).bind fun r35 =>
(onG p31 false (
(gh Tryz.prog 65 r35.1).bind fun p38 =>
some (p38, r35.2)) r35.2).bind fun r37 =>
(onG p31 false (
(aH Tryz.prog false .geq 3 r33.1 r37.1).bind fun p41 =>
some (p41, r37.2)) r37.2).bind fun r40 =>
(bE p31 (PV.v (.bool true)) r40.1).bind fun p42 =>
ay p42 fun b43 => (bif b43 then
some (Ex.ret, [(ab r24.2.1 1), (PV.v (.bool true)), p27], r40.2)
else
some (Ex.normal, [(ab r24.2.1 1), (ab r24.2.1 2), p27], r40.2)).bind fun r44 =>
bF r44.1 ((fm Tryz.prog 65 (ab r44.2.1 2) none (some (ab r44.2.1 0)) none).bind fun p46 =>
(gh Tryz.prog 65 p46).bind fun p47 =>
(it (S5.b0 call it st.stk.length st.lp.length) [(ab r44.2.1 1), (PV.v (.string ⟨#[]⟩)), (PV.v (.int .i64 0)), (PV.v (.bool false)), p46, p47, (PV.v (.int .i64 0))] r44.2.2).bind fun r48 =>
bF (Ex.ba 0 r48.1) ((gh Tryz.prog 9 (ab r48.2.1 1)).bind fun p140 =>
(aH Tryz.prog true .gtr 3 p140 (PV.v (.int .i64 8192))).bind fun p141 =>
ay p141 fun b142 => (bif b142 then
some (Ex.ret, [(PV.v (.bool true)), (ab r48.2.1 1), (ab r48.2.1 3)], r48.2.2)
else
some (Ex.normal, [(ab r48.2.1 0), (ab r48.2.1 1), (ab r48.2.1 3)], r48.2.2)).bind fun r143 =>
bF r143.1 ((call (.func 20) [ah (ab r143.2.1 1)] r143.2.2).bind fun r145 =>
(aQ r145.1 0).bind fun p146 =>
(aQ r145.1 1).bind fun p147 =>
let q149 : PV := .ptr false r145.2.stk.length 0
let st148 := r145.2.push [.sl [] .nil, .sl [] .nil, .sl [] .nil, .sl [] .nil]
let q151 : PV := .ptr false st148.stk.length 0
let st150 := st148.push [.v (.int .i64 0), .v (.int .i64 0), .v (.int .i64 0)]
(aq st.stk.length 4 q149 p146 st150).bind fun st152 =>
(aq st.stk.length 3 q151 p147 st152).bind fun st153 =>
(aUn Tryz.prog .not (ab r143.2.1 2)).bind fun p154 =>
ay p154 fun b155 => (bif b155 then
(ak true 3 q151 st153).bind fun p157 =>
(aW [(0, 1), (1, 1), (2, 1)] [.v (.int .i64 0), .v (.int .i64 0), .v (.int .i64 0)] []).bind fun p158 =>
(aH Tryz.prog false .eql 54 p157 p158).bind fun p159 =>
some (Ex.ret, [p159, (ab r143.2.1 1), q151], st153)
else
some (Ex.normal, [(ab r143.2.1 0), (ab r143.2.1 1), q151], st153)).bind fun r156 =>
bF r156.1 ((ao (ab r156.2.1 2) 0).bind fun p161 =>
(ak false 1 p161 r156.2.2).bind fun p162 =>
(aH Tryz.prog true .eql 52 p162 (PV.v (.int .i64 4))).bind fun p163 =>
(onG p163 true (
(ao (ab r156.2.1 2) 1).bind fun p166 =>
some (p166, r156.2.2)) r156.2.2).bind fun r165 =>
(onG p163 true (
(ak false 1 r165.1 r165.2).bind fun p169 =>
some (p169, r165.2)) r165.2).bind fun r168 =>
(onG p163 true (
(aH Tryz.prog true .eql 3 r168.1 (PV.v (.int .i64 1))).bind fun p172 =>
some (p172, r168.2)) r168.2).bind fun r171 =>
(bE p163 r171.1 (PV.v (.bool false))).bind fun p173 =>
(onG p173 true (
(ao (ab r156.2.1 2) 2).bind fun p176 =>
some (p176, r171.2)) r171.2).bind fun r175 =>
(onG p173 true (
(ak false 1 r175.1 r175.2).bind fun p179 =>
some (p179, r175.2)) r175.2).bind fun r178 =>
(onG p173 true (
some ((ab r156.2.1 1), r178.2)) r178.2).bind fun r181 =>
(onG p173 true (
(gh Tryz.prog 9 r181.1).bind fun p184 =>
some (p184, r181.2)) r181.2).bind fun r183 =>
(onG p173 true (
(aH Tryz.prog true .add 3 r183.1 (PV.v (.int .i64 1))).bind fun p187 =>
some (p187, r183.2)) r183.2).bind fun r186 =>
(onG p173 true (
(aH Tryz.prog false .eql 3 r178.1 r186.1).bind fun p190 =>
some (p190, r186.2)) r186.2).bind fun r189 =>
(bE p173 r189.1 (PV.v (.bool false))).bind fun p191 =>
fin st.stk.length st.tk.length st.lp.length [p191] r189.2) fun x160 =>
dF x160 (fin st.stk.length st.tk.length st.lp.length [(ab r156.2.1 0)] r156.2.2)) fun x144 =>
dF x144 (fin st.stk.length st.tk.length st.lp.length [(ab r143.2.1 0)] r143.2.2)) fun x139 =>
dF x139 (fin st.stk.length st.tk.length st.lp.length [(ab r48.2.1 0)] r48.2.2)) fun x45 =>
dF x45 (fin st.stk.length st.tk.length st.lp.length [(ab r44.2.1 1)] r44.2.2)) fun x25 =>
dF x25 (fin st.stk.length st.tk.length st.lp.length [(ab r24.2.1 2)] r24.2.2)) fun x10 =>
dF x10 (fin st.stk.length st.tk.length st.lp.length [(ab r9.2.1 2)] r9.2.2)) fun x5 =>
dF x5 (fin st.stk.length st.tk.length st.lp.length [(ab r4.2.1 2)] r4.2.2)
noncomputable def C5 : Code := (Tryz.f5.body.getD .skip).r.r.r.r.r.r.r.r.l.r.l.l
noncomputable def A5 : Ann := (L.ann 5).y.y.y.y.y.y.y.y.x.y.x.x
noncomputable abbrev g5 (base lb : Nat) : Cfg := ⟨Tryz.prog, E L, 129, base, itE, L.imp, L.md 5, none, lb, L.gl, L.pn⟩
theorem HL (base lb m : Nat) (e : Env) (s : St) : dV (g5 base lb) C5.r.r.l.l.r A5.y.y.x.x.y e s (fun x e s => bF (x.ba 1) (dV (g5 base lb) C5.r.r.r A5.y.y.y e s (oR true base lb m [4, 11, 12, 13, 48, 49, 50])) fun y => oR true base lb m [4, 11, 12, 13, 48, 49, 50] y e s) = S5.c (E L) itE base lb m (e 4) (e 11) (e 12) (e 13) (e 15) (e 48) (e 49) (e 50) s := by kernel_rfl
theorem BF : C5 = .seq C5.l (.seq C5.r.l (.seq (.block 1 (.seq C5.r.r.l.l.l C5.r.r.l.l.r)) C5.r.r.r)) := by kernel_rfl
theorem G2 {R : Type} (C : Cfg) (a b : Code) (A : Ann) (e : Env) (st : St) (K : Ex → Env → St → Option R) : dV C (.seq a b) A e st K = dV C a A.x e st fun x e' st' => bF x (dV C b A.y e' st' K) fun y => K y e' st' := by rw [dV]
theorem G0 {R : Type} (C : Cfg) (i : Nat) (c : Code) (A : Ann) (e : Env) (st : St) (K : Ex → Env → St → Option R) : dV C (.block i c) A e st K = dV C c A.x e st fun x e' st' => K (x.ba i) e' st' := by rw [dV]
theorem Fy {R : Type} {x : Ex} (h : x = .normal) (A : Option R) (B : Ex → Option R) : bF x A B = A := by subst h; rfl
theorem Hk {R : Type} (A : Option R) (B : Ex → Option R) : bF .normal A B = A := Fy rfl A B
theorem It (base lb : Nat) (e : Env) (s : St) {R : Type} (K : Ex → Env → St → Option R) : dV (g5 base lb) C5.l A5.x e s K = (aH Tryz.prog false .lss 3 (e 50) (e 49)).bind fun p51 => K .normal (put 129 e (some 51) p51) s := by kernel_rfl
theorem Iu (base lb : Nat) (e : Env) (s : St) {R : Type} (K : Ex → Env → St → Option R) : dV (g5 base lb) C5.r.l A5.y.x e s K = ay (e 51) fun b52 => (bif b52 then some (.normal, [e 4, e 11, e 12, e 13, e 48, e 49, e 50], s) else some (.exit 0, [e 4, e 11, e 12, e 13, e 48, e 49, e 50], s)).bind fun r => K r.1 (fe [4, 11, 12, 13, 48, 49, 50] r.2.1) r.2.2 := by kernel_rfl
theorem Iv (base lb : Nat) (e : Env) (s : St) {R : Type} (K : Ex → Env → St → Option R) : dV (g5 base lb) C5.r.r.l.l.l A5.y.y.x.x.x e s K = (cc Tryz.prog 65 (e 48) (e 50)).bind fun p55 => (ak true 5 p55 s).bind fun p56 => (aq base 5 (.ptr false s.stk.length 0) p56 (s.push [.v (.int .i64 0), .v (.string ⟨#[]⟩), .v (.int .u64 0), .v (.int .i64 0), .v (.int .i64 0)])).bind fun st59 => K .normal (put 129 (put 129 (put 129 e (some 52) p55) (some 53) p56) (some 15) (.ptr false s.stk.length 0)) st59 := by kernel_rfl
theorem Iw (e : Env) (p q r : PV) : put 129 (put 129 (put 129 e (some 52) p) (some 53) q) (some 15) r 4 = e 4 ∧ put 129 (put 129 (put 129 e (some 52) p) (some 53) q) (some 15) r 11 = e 11 ∧ put 129 (put 129 (put 129 e (some 52) p) (some 53) q) (some 15) r 12 = e 12 ∧ put 129 (put 129 (put 129 e (some 52) p) (some 53) q) (some 15) r 13 = e 13 ∧ put 129 (put 129 (put 129 e (some 52) p) (some 53) q) (some 15) r 48 = e 48 ∧ put 129 (put 129 (put 129 e (some 52) p) (some 53) q) (some 15) r 49 = e 49 ∧ put 129 (put 129 (put 129 e (some 52) p) (some 53) q) (some 15) r 50 = e 50 ∧ put 129 (put 129 (put 129 e (some 52) p) (some 53) q) (some 15) r 15 = r := ⟨rfl, rfl, rfl, rfl, rfl, rfl, rfl, rfl⟩
theorem Ix (e : Env) (p : PV) : put 129 e (some 51) p 4 = e 4 ∧ put 129 e (some 51) p 11 = e 11 ∧ put 129 e (some 51) p 12 = e 12 ∧ put 129 e (some 51) p 13 = e 13 ∧ put 129 e (some 51) p 48 = e 48 ∧ put 129 e (some 51) p 49 = e 49 ∧ put 129 e (some 51) p 50 = e 50 ∧ put 129 e (some 51) p 51 = p := ⟨rfl, rfl, rfl, rfl, rfl, rfl, rfl, rfl⟩
theorem Iy (vs : List PV) : fe [4, 11, 12, 13, 48, 49, 50] vs 4 = ab vs 0 ∧ fe [4, 11, 12, 13, 48, 49, 50] vs 11 = ab vs 1 ∧ fe [4, 11, 12, 13, 48, 49, 50] vs 12 = ab vs 2 ∧ fe [4, 11, 12, 13, 48, 49, 50] vs 13 = ab vs 3 ∧ fe [4, 11, 12, 13, 48, 49, 50] vs 48 = ab vs 4 ∧ fe [4, 11, 12, 13, 48, 49, 50] vs 49 = ab vs 5 ∧ fe [4, 11, 12, 13, 48, 49, 50] vs 50 = ab vs 6 := ⟨rfl, rfl, rfl, rfl, rfl, rfl, rfl⟩
theorem HI (base lb : Nat) (vs : List PV) (s : St) : dV (g5 base lb) C5 A5 (fe [4, 11, 12, 13, 48, 49, 50] vs) s (oR true base lb s.stk.length [4, 11, 12, 13, 48, 49, 50]) = S5.b0 (E L) itE base lb vs s := by
 rw [BF]; simp only [G2, G0, It, Iu, Iv, Hk]; simp only [HL, Iw, Ix, Iy]
 rfl
theorem Ip (a0 a1 : PV) (st : St) : E L (.func 5) [a0, a1] st = S5 (E L) (fun b vs s => itE (fun vs s => dV (g5 st.stk.length st.lp.length) C5 A5 (fe [4, 11, 12, 13, 48, 49, 50] vs) s (oR true st.stk.length st.lp.length s.stk.length [4, 11, 12, 13, 48, 49, 50])) vs s) a0 a1 st := (bL (by kernel_rfl) Tryz.func5 _ _).trans (by kernel_rfl)
theorem HH (a0 a1 : PV) (st : St) : E L (.func 5) [a0, a1] st = S5 (E L) itE a0 a1 st := by
 rw [Ip]
 have : (fun vs s => dV (g5 st.stk.length st.lp.length) C5 A5 (fe [4, 11, 12, 13, 48, 49, 50] vs) s (oR true st.stk.length st.lp.length s.stk.length [4, 11, 12, 13, 48, 49, 50])) = S5.b0 (E L) itE st.stk.length st.lp.length := funext fun vs => funext fun s => HI ..
 rw [this]
 rfl
theorem AW {l : List UInt8} (hl : l.length ≤ 8192) : (∃ ts g k, gd l (1, 1) = .ok ts ∧ hZ ts = .ok g k ∧ iS l = (g, 0, 0, 0)) ∨ ((iS l).1 = pg0 ∧ (iS l).2.1 ≠ 0) := by
 cases hx : gd l (1, 1) with
 | err q =>
  refine .inr ?_; have := wI hl hx; unfold iS; rw [this.2]; exact ⟨rfl, fun h => nomatch (show (3 : Nat) = 0 from h)⟩
 | ok ts =>
  rw [ue hl hx]; have hn := (wH _ _ _ rfl ts hx).2
  cases hp : hZ ts with
  | ok g k => exact .inl ⟨ts, g, k, rfl, hp, rfl⟩
  | bad e q => exact .inr ⟨rfl, AX (by omega) hp⟩
attribute [local simp] cY cu bV bW cv dS fk dY dh dW dc dX de fj bX gU dR gW gK gE AM.ab aL aM aY aN ay AM.onG fK bF dF Ex.ba cond_true cond_false cU cT cS cR cQ cW cP cX cV dZ di dj cr cZ AM.du AM.cellsOf AM.ao bE beq_true dm ai aD bh bu bP decide_true decide_false bC bm bn bA bf aB az bg aA da db fg aw bB bj bM cw dQ dU cI eu ep set_set eD dA fE dB cF bG dz cE dy cD dx eC eE fA fB bK cq eo fw ed aV aR aF AM.aQ ah dt bU aZ bc aJ aI AM.part aO aK bY cg cf cn cn.eS AM.dL bq bT dJ fQ aV laid aG aW cj
attribute [-simp] ag
attribute [local congr] dK
theorem wg (b : Bool) (x y z u v w : Int) : aH Tryz.prog b .eql 54 (.agg [.v (.int .i64 x), .v (.int .i64 y), .v (.int .i64 z)]) (.agg [.v (.int .i64 u), .v (.int .i64 v), .v (.int .i64 w)]) = some (.v (.bool ((x == u) && ((y == v) && ((z == w) && true))))) := by kernel_rfl
end Go.Proofs.YtlhlijaondmccaaGreatDoor.S
