/- Part 6 of the proof of a law of the parser, its names made short by a program. No condition. -/
import Derived.Test.YtlhlijaondmccaaGreatDoorH5
import Derived.KernelRfl
set_option linter.all false
set_option maxRecDepth 100000
set_option maxHeartbeats 4000000
open _root_.Bool renaming and_eq_true → aq, and_self → br, and_true → bI, false_eq_true → ae, not_false → bg, not_true → bD, true_and → bn
open _root_.Int renaming cast_ofNat_Int → ab, natCast_zero → eD
open _root_.List renaming all_cons → bu, all_nil → bV, cons_append → aD, drop_nil → cc, drop_succ_cons → aM, drop_zero → aQ, getD_cons_succ → aN, getD_cons_zero → aO, getElem?_cons_succ → aA, getElem?_cons_zero → aB, isPrefixOf → ed, length → gG, length_append → ay, length_cons → ag, length_drop → cF, length_nil → aC, length_singleton → bC, map_cons → aW, map_nil → bc, mem_cons_of_mem → cf, mem_cons_self → bL, modify_succ_cons → aK, modify_zero_cons → aL, nil_append → bh, take_left → bE, take_length → gg, take_nil → bR, take_succ_cons → av, take_zero → aY, toList_toArray → aT
open _root_.Nat renaming add_zero → bx, beq → ak, ble → dL, blt → gn, le_refl → ao, reduceAdd → bU, zero_add → bj
open _root_.Option renaming bind_none → bf, bind_some → ah, map_some → aP
open _root_.Or renaming inl → dx, inr → dq
namespace Go.Proofs.YtlhlijaondmccaaGreatDoor.S
open Go Go.AM Go.Proofs
attribute [local simp] cZ cy bX bY cz eI fu dX di dV de dW dh ft bZ hZ dR ib gU gN AM.aa aN aO bf aP aw AM.onG fR bH dw Ex.ba cond_true cond_false cV cU cT cS cR cX cQ cY cW dY dj dm cx da AM.du AM.cellsOf AM.an bQ beq_true dr ag aC bj bx bU decide_true decide_false bI bn br bD bg aB aA bh aD db dc fm av bE aY bR cC dQ dT cL eB eA set_set eG dB fI dC cI bK dA cH dz cG dy eF eH fE fF bO cv eu fD dZ aZ aT aI AM.aS ai dt bW aW bc aL aK AM.part aQ aM cc cn cm cr cr.eT AM.dM bu bV eg gm aZ laid aH bm cq
attribute [-simp] ah
attribute [local congr] ej
abbrev cD (x : X) : PV := .agg x.enc
abbrev z9 : List PV := [.v (.int .i64 0), .v (.int .i64 0), .v (.int .u64 0), .v (.int .i64 0), str [], str [], .sl [] .nil, .v (.int .i64 0), .v (.int .i64 0)]
theorem n7 (x : X) : x.enc.take 9 = x.enc := List.take_of_length_le (by rw [X.len]; omega)
structure nq (ts : List Tok) (n : Nat) : Prop where
 atom : ∀ d l x, d ≤ 12 → Sfx ts l → lO n d l = some x → Rd 198 [] ts d d l cD x
 pre : ∀ d l x, d ≤ 12 → Sfx ts l → iv n d l = some x → Rd 187 [] ts d d l cD x
 chain : ∀ lv d l x, lv ≤ 3 → d ≤ 12 → Sfx ts l → ff n lv d l = some x → Rd 173 [.v (.int .i64 (lv : Int))] ts d d l cD x
section
variable {ts : List Tok} (hr : Row ts) {n : Nat} (ih : nq ts n)
include hr ih
theorem lj {d : Nat} {l : List Tok} {x : PR X} (hd12 : d ≤ 12) (h : Sfx ts l) (hx : ff n 0 d l = some x) : Rd 157 [] ts d d l cD x := by
 have h1 := ih.chain 0 d l x (by omega) hd12 h hx
 cases x with
 | bad e q =>
  obtain ⟨a', d'', e1⟩ := bN h1 rfl; refine ⟨a', d'', fun b Y hb => ?_⟩; have e1 := e1 hb; rw [zf]; obtain ⟨N, T, Lb, hN, hT, hL⟩ := lens3 Y; rw [hN] at hb
  conv => lhs; rw [← al (Y.af false b (pc ts l d))]
  simp only [pc, pcf, eD] at e1 ⊢
  generalize az ts = es at *
  simp [GK, hN, hT, hL, hb, e1]
 | ok a l' =>
  refine ⟨bS h1 rfl, fun b Y hb => ?_⟩; have e1 := aX h1 rfl hb; rw [zf]; obtain ⟨N, T, Lb, hN, hT, hL⟩ := lens3 Y; rw [hN] at hb
  conv => lhs; rw [← al (Y.af false b (pc ts l d))]
  simp only [pc, pcf, cD, eD] at e1 ⊢
  generalize az ts = es at *
  simp [GK, hN, hT, hL, hb, e1, X.len, n7, X.okc, X.can, X.lC, X.fl, iA]
theorem ET : ∀ d l x, d ≤ 12 → Sfx ts l → lO (n + 1) d l = some x → Rd 198 [] ts d d l cD x := by
 intro d l x hd12 h hx; have s1 := h.next hr
 have e151 := fun b (Y : St) hb => aE (lr hr h d (b := b)) (s := Y) hb
 simp only [lO] at hx
 by_cases k3 : (hd l).kind = 3
 · rw [if_pos k3] at hx
   obtain rfl := Option.some.inj hx; refine ⟨s1, fun b Y hb => ?_⟩; have e151 := e151 b Y hb; rw [iL]; obtain ⟨N, T, Lb, hN, hT, hL⟩ := lens3 Y; rw [hN] at hb
   conv => lhs; rw [← al (Y.af false b (pc ts l d))]
   simp only [pc, pcf, cD, atX, Tok.c, bw, ab] at e151 ⊢
   generalize hd l = t at *
   generalize az ts = es at *
   simp [oE, hN, hT, hL, hb, e151, k3, X.enc, eL]
 rw [if_neg k3] at hx
 have k3' : ¬ (((hd l).kind : Int) = 3) := by omega
 by_cases k4 : (hd l).kind = 4
 · rw [if_pos k4] at hx
   obtain rfl := Option.some.inj hx; refine ⟨s1, fun b Y hb => ?_⟩; have e151 := e151 b Y hb; rw [iL]; obtain ⟨N, T, Lb, hN, hT, hL⟩ := lens3 Y; rw [hN] at hb
   conv => lhs; rw [← al (Y.af false b (pc ts l d))]
   simp only [pc, pcf, cD, atX, Tok.c, bw, ab] at e151 ⊢
   generalize hd l = t at *
   generalize az ts = es at *
   simp [oE, hN, hT, hL, hb, e151, k4, X.enc, eL]
 rw [if_neg k4] at hx
 have k4' : ¬ (((hd l).kind : Int) = 4) := by omega
 by_cases k1 : (hd l).kind = 1
 · rw [if_pos k1] at hx
   obtain rfl := Option.some.inj hx; refine ⟨s1, fun b Y hb => ?_⟩; have e151 := e151 b Y hb; rw [iL]; obtain ⟨N, T, Lb, hN, hT, hL⟩ := lens3 Y; rw [hN] at hb
   conv => lhs; rw [← al (Y.af false b (pc ts l d))]
   simp only [pc, pcf, cD, atX, Tok.c, bw, ab] at e151 ⊢
   generalize hd l = t at *
   generalize az ts = es at *
   simp [oE, hN, hT, hL, hb, e151, k1, X.enc, eL]
 rw [if_neg k1] at hx
 have k1' : ¬ (((hd l).kind : Int) = 1) := by omega
 by_cases ki : (hd l).kind = 2 ∧ (hd l).text = [105, 110, 112, 117, 116]
 · rw [if_pos ki] at hx
   obtain ⟨k2, kt⟩ := ki; have h1 := ir hr s1 d 3
   cases x1 : eU 3 (dI l) with
   | bad e q =>
    simp only [x1, PR.map] at hx; obtain rfl := Option.some.inj hx; obtain ⟨a', d'', e1⟩ := bN h1 x1; refine ⟨a', d'', fun b Y hb => ?_⟩; have e1 := e1 hb; have e151 := e151 b Y hb; rw [iL]; obtain ⟨N, T, Lb, hN, hT, hL⟩ := lens3 Y; rw [hN] at hb
    conv => lhs; rw [← al (Y.af false b (pc ts l d))]
    simp only [pc, pcf, cD, atX, Tok.c, bw, ab] at e151 e1 ⊢
    generalize hd l = t at *
    generalize az ts = es at *
    simp [oE, hN, hT, hL, hb, e151, e1, k2, kt]
   | ok u l1 =>
    simp only [x1, PR.map] at hx; obtain rfl := Option.some.inj hx; refine ⟨bS h1 x1, fun b Y hb => ?_⟩; have e1 := aX h1 x1 hb; have e151 := e151 b Y hb; rw [iL]; obtain ⟨N, T, Lb, hN, hT, hL⟩ := lens3 Y; rw [hN] at hb
    conv => lhs; rw [← al (Y.af false b (pc ts l d))]
    simp only [pc, pcf, cD, aV, atX, Tok.c, bw, ab] at e151 e1 ⊢
    generalize hd l = t at *
    generalize az ts = es at *
    simp [oE, hN, hT, hL, hb, e151, e1, k2, kt, qK, X.enc, eL]
 rw [if_neg ki] at hx
 by_cases kn : (hd l).kind = 2 ∧ (hd l).text = [110, 105, 108]
 · rw [if_pos kn] at hx
   obtain ⟨k2, kt⟩ := kn
   have e68 := fun b (Y : St) hb => aE (aG hr s1 d [105, 110, 116, 115] (b := b)) (s := Y) hb
   cases hi : isT (dI l) [105, 110, 116, 115] with
   | true =>
    rw [hi] at hx e68; simp only [if_true] at hx e68; obtain rfl := Option.some.inj hx; refine ⟨s1.isT hr hi, fun b Y hb => ?_⟩; have e68 := e68 b Y hb; have e151 := e151 b Y hb; rw [iL]; obtain ⟨N, T, Lb, hN, hT, hL⟩ := lens3 Y; rw [hN] at hb
    conv => lhs; rw [← al (Y.af false b (pc ts l d))]
    simp only [pc, pcf, cD, aV, atX, Tok.c, bw, ab] at e151 e68 ⊢
    generalize hd l = t at *
    generalize az ts = es at *
    simp [oE, hN, hT, hL, hb, e151, e68, k2, kt, X.enc, eL]
   | false =>
    rw [hi] at hx e68; simp only [ae, if_false] at hx e68; have h1 := ir hr s1 d 1
    cases x1 : eU 1 (dI l) with
    | bad e q =>
     simp only [x1, PR.map] at hx; obtain rfl := Option.some.inj hx; obtain ⟨a', d'', e1⟩ := bN h1 x1; refine ⟨a', d'', fun b Y hb => ?_⟩; have e1 := e1 hb; have e68 := e68 b Y hb; have e151 := e151 b Y hb; rw [iL]; obtain ⟨N, T, Lb, hN, hT, hL⟩ := lens3 Y; rw [hN] at hb
     conv => lhs; rw [← al (Y.af false b (pc ts l d))]
     simp only [pc, pcf, cD, atX, Tok.c, bw, ab] at e151 e68 e1 ⊢
     generalize hd l = t at *
     generalize az ts = es at *
     simp [oE, hN, hT, hL, hb, e151, e68, e1, k2, kt]
    | ok u l1 =>
     simp only [x1, PR.map] at hx; obtain rfl := Option.some.inj hx; refine ⟨bS h1 x1, fun b Y hb => ?_⟩; have e1 := aX h1 x1 hb; have e68 := e68 b Y hb; have e151 := e151 b Y hb; rw [iL]; obtain ⟨N, T, Lb, hN, hT, hL⟩ := lens3 Y; rw [hN] at hb
     conv => lhs; rw [← al (Y.af false b (pc ts l d))]
     simp only [pc, pcf, cD, aV, atX, Tok.c, bw, ab] at e151 e68 e1 ⊢
     generalize hd l = t at *
     generalize az ts = es at *
     simp [oE, hN, hT, hL, hb, e151, e68, e1, k2, kt, om, X.enc, eL]
 rw [if_neg kn] at hx
 have ki' : (hd l).kind = 2 → (hd l).text ≠ [105, 110, 112, 117, 116] := fun a b => ki ⟨a, b⟩
 have kn' : (hd l).kind = 2 → (hd l).text ≠ [110, 105, 108] := fun a b => kn ⟨a, b⟩
 by_cases kp : (hd l).kind = 5 ∧ (hd l).text = [40]
 · rw [if_pos kp] at hx
   obtain ⟨k5, kt⟩ := kp; have h1 := vh s1 d (hd l) (by omega); unfold pL at hx
   by_cases hdd : 12 < d + 1
   · rw [if_pos hdd] at hx h1
     obtain rfl := Option.some.inj hx; obtain ⟨a', d'', e1⟩ := bN h1 rfl; refine ⟨a', d'', fun b Y hb => ?_⟩; have e1 := e1 hb; have e151 := e151 b Y hb; rw [iL]; obtain ⟨N, T, Lb, hN, hT, hL⟩ := lens3 Y; rw [hN] at hb
     conv => lhs; rw [← al (Y.af false b (pc ts l d))]
     simp only [pc, pcf, cD, atX, Tok.c, bw, k5, kt, ab] at e151 e1 ⊢
     generalize hd l = t at *
     generalize az ts = es at *
     simp [oE, hN, hT, hL, hb, e151, e1, k5, kt]
   · rw [if_neg hdd] at hx h1
     obtain ⟨y, hy⟩ := dP hx; rw [hy] at hx; have h2 := lj hr ih (d := d + 1) (by omega) s1 hy
     have w1 : IntKind.i64.wrap (((d + 1 : Nat) : Int) - 1) = (d : Int) := by rw [IntWalk.i64_in _ (by omega)]; omega
     cases y with
     | bad e q =>
      obtain rfl := cd hx rfl; obtain ⟨a', d'', e2⟩ := bN h2 rfl; refine ⟨a', d'', fun b Y hb => ?_⟩; have e2 := e2 hb; have e1 := aX h1 rfl hb; have e151 := e151 b Y hb; rw [iL]; obtain ⟨N, T, Lb, hN, hT, hL⟩ := lens3 Y; rw [hN] at hb
      conv => lhs; rw [← al (Y.af false b (pc ts l d))]
      simp only [pc, pcf, cD, atX, Tok.c, bw, k5, kt, ab] at e151 e1 e2 ⊢
      generalize ((d + 1 : Nat) : Int) = d1 at *
      generalize hd l = t at *
      generalize az ts = es at *
      simp [oE, hN, hT, hL, hb, e151, e1, e2, k5, kt]
     | ok v l1 =>
      have hx := cO hx rfl; have s2 := bS h2 rfl; have h3 := fe hr s2 (d + 1) [41]
      cases x3 : dJ [41] l1 with
      | bad e q =>
       obtain rfl := cd hx x3; obtain ⟨a', d'', e3⟩ := bN h3 x3; refine ⟨a', d'', fun b Y hb => ?_⟩; have e3 := e3 hb; have e2 := aX h2 rfl hb; have e1 := aX h1 rfl hb; have e151 := e151 b Y hb; rw [iL]; obtain ⟨N, T, Lb, hN, hT, hL⟩ := lens3 Y; rw [hN] at hb
       conv => lhs; rw [← al (Y.af false b (pc ts l d))]
       simp only [pc, pcf, cD, aV, atX, Tok.c, bw, k5, kt, ab] at e151 e1 e2 e3 ⊢
       generalize ((d + 1 : Nat) : Int) = d1 at *
       generalize hd l = t at *
       generalize az ts = es at *
       simp [oE, hN, hT, hL, hb, e151, e1, e2, e3, k5, kt, X.len, n7, X.okc, X.can, iA]
      | ok u l2 =>
       obtain rfl := Option.some.inj (cO hx x3); refine ⟨bS h3 x3, fun b Y hb => ?_⟩; have e3 := aX h3 x3 hb; have e2 := aX h2 rfl hb; have e1 := aX h1 rfl hb; have e151 := e151 b Y hb; rw [iL]; obtain ⟨N, T, Lb, hN, hT, hL⟩ := lens3 Y; rw [hN] at hb
       conv => lhs; rw [← al (Y.af false b (pc ts l d))]
       simp only [pc, pcf, cD, aV, atX, Tok.c, bw, k5, kt, ab] at e151 e1 e2 e3 ⊢
       generalize ((d + 1 : Nat) : Int) = d1 at *
       generalize hd l = t at *
       generalize az ts = es at *
       simp [oE, hN, hT, hL, hb, e151, e1, e2, e3, k5, kt, w1, X.len, n7, X.okc, X.can, X.lC, X.fl, iA]
 rw [if_neg kp] at hx; obtain rfl := Option.some.inj hx; refine ⟨pcA ts (dI l), d, fun b Y hb => ?_⟩; have e74 := aE (oi (az ts) (pcA ts (dI l)) d 4 (hd l) (b := b)) hb; have e151 := e151 b Y hb; rw [iL]; obtain ⟨N, T, Lb, hN, hT, hL⟩ := lens3 Y; rw [hN] at hb
 conv => lhs; rw [← al (Y.af false b (pc ts l d))]
 by_cases k2 : (hd l).kind = 2
 · have ki := ki' k2
   have kn := kn' k2; simp only [pc, pcf, cD, atX, Tok.c, bw, k2, ab] at e151 e74 ⊢
   generalize hd l = t at *
   generalize az ts = es at *
   simp [oE, hN, hT, hL, hb, e151, e74, k2, ki, kn]
 · have k2' : ¬ (((hd l).kind : Int) = 2) := by omega
   by_cases k5 : (hd l).kind = 5
   · have kt : (hd l).text ≠ [40] := fun a => kp ⟨k5, a⟩
     simp only [pc, pcf, cD, atX, Tok.c, bw, k5, ab] at e151 e74 ⊢
     generalize hd l = t at *
     generalize az ts = es at *
     simp [oE, hN, hT, hL, hb, e151, e74, k5, kt]
   · have k5' : ¬ (((hd l).kind : Int) = 5) := by omega
     simp only [pc, pcf, cD, atX, Tok.c, bw, ab] at e151 e74 ⊢
     generalize hd l = t at *
     generalize az ts = es at *
     simp [oE, hN, hT, hL, hb, e151, e74, k1, k1', k2, k2', k3, k3', k4, k4', k5, k5']
end
section
variable {ts : List Tok} (hr : Row ts) {n : Nat} (ih : nq ts n)
include hr ih
theorem Hx : ∀ d l x, d ≤ 12 → Sfx ts l → iv (n + 1) d l = some x → Rd 187 [] ts d d l cD x := by
 intro d l x hd12 h hx; have s1 := h.next hr
 have e67 := fun b (Y : St) hb => aE (ef h d 0 0 0 (b := b)) (s := Y) hb
 have e151 := fun b (Y : St) hb => aE (lr hr h d (b := b)) (s := Y) hb
 simp only [iv] at hx
 by_cases hw : (hd l).kind = 2 ∨ (hd l).kind = 5
 · have e197 : ∀ Z, E L (.func 197) [str (hd l).text] Z = some (.v (.int .i64 (iI (hd l))), Z) := fun Z => by
    rw [DW, iI, if_pos hw]
   by_cases hu : iI (hd l) = 0
   · rw [if_pos hu] at hx
     have h1 := ih.atom d l x hd12 h hx; rw [hu] at e197
     cases x with
     | bad e q =>
      obtain ⟨a', d'', e1⟩ := bN h1 rfl; refine ⟨a', d'', fun b Y hb => ?_⟩; have e1 := e1 hb; have e67 := e67 b Y hb; rw [mC]; obtain ⟨N, T, Lb, hN, hT, hL⟩ := lens3 Y; rw [hN] at hb
      conv => lhs; rw [← al (Y.af false b (pc ts l d))]
      rcases hw with k | k
      · simp only [pc, pcf, cD, Tok.c, bw, k, ab] at e67 e1 ⊢
        generalize hd l = t at *
        generalize az ts = es at *
        simp [qD, hN, hT, hL, hb, e67, e1, e197]
      · simp only [pc, pcf, cD, Tok.c, bw, k, ab] at e67 e1 ⊢
        generalize hd l = t at *
        generalize az ts = es at *
        simp [qD, hN, hT, hL, hb, e67, e1, e197]
     | ok v l1 =>
      refine ⟨bS h1 rfl, fun b Y hb => ?_⟩; have e1 := aX h1 rfl hb; have e67 := e67 b Y hb; rw [mC]; obtain ⟨N, T, Lb, hN, hT, hL⟩ := lens3 Y; rw [hN] at hb
      conv => lhs; rw [← al (Y.af false b (pc ts l d))]
      rcases hw with k | k
      · simp only [pc, pcf, cD, Tok.c, bw, k, ab] at e67 e1 ⊢
        generalize hd l = t at *
        generalize az ts = es at *
        simp [qD, hN, hT, hL, hb, e67, e1, e197, X.len, n7, X.okc, X.can, X.lC, X.fl, iA]
      · simp only [pc, pcf, cD, Tok.c, bw, k, ab] at e67 e1 ⊢
        generalize hd l = t at *
        generalize az ts = es at *
        simp [qD, hN, hT, hL, hb, e67, e1, e197, X.len, n7, X.okc, X.can, X.lC, X.fl, iA]
   · rw [if_neg hu] at hx
     have h1 := vh s1 d (hd l) (by omega); unfold pL at hx
     by_cases hdd : 12 < d + 1
     · rw [if_pos hdd] at hx h1
       obtain rfl := Option.some.inj hx; obtain ⟨a', d'', e1⟩ := bN h1 rfl; refine ⟨a', d'', fun b Y hb => ?_⟩; have e1 := e1 hb; have e67 := e67 b Y hb; have e151 := e151 b Y hb; rw [mC]; obtain ⟨N, T, Lb, hN, hT, hL⟩ := lens3 Y; rw [hN] at hb
       conv => lhs; rw [← al (Y.af false b (pc ts l d))]
       rcases hw with k | k
       · simp only [pc, pcf, cD, Tok.c, bw, k, ab] at e67 e151 e1 ⊢
         generalize iI (hd l) = u at *
         generalize hd l = t at *
         generalize az ts = es at *
         simp [qD, hN, hT, hL, hb, e67, e151, e1, e197, hu]
       · simp only [pc, pcf, cD, Tok.c, bw, k, ab] at e67 e151 e1 ⊢
         generalize iI (hd l) = u at *
         generalize hd l = t at *
         generalize az ts = es at *
         simp [qD, hN, hT, hL, hb, e67, e151, e1, e197, hu]
     · rw [if_neg hdd] at hx h1
       obtain ⟨y, hy⟩ := dP hx; rw [hy] at hx; have h2 := ih.pre (d + 1) (dI l) y (by omega) s1 hy
       have w1 : IntKind.i64.wrap (((d + 1 : Nat) : Int) - 1) = (d : Int) := by rw [IntWalk.i64_in _ (by omega)]; omega
       cases y with
       | bad e q =>
        obtain rfl := cd hx rfl; obtain ⟨a', d'', e2⟩ := bN h2 rfl; refine ⟨a', d'', fun b Y hb => ?_⟩; have e2 := e2 hb; have e1 := aX h1 rfl hb; have e67 := e67 b Y hb; have e151 := e151 b Y hb; rw [mC]; obtain ⟨N, T, Lb, hN, hT, hL⟩ := lens3 Y; rw [hN] at hb
        conv => lhs; rw [← al (Y.af false b (pc ts l d))]
        rcases hw with k | k
        · simp only [pc, pcf, cD, Tok.c, bw, k, ab] at e67 e151 e1 e2 ⊢
          generalize ((d + 1 : Nat) : Int) = d1 at *
          generalize iI (hd l) = u at *
          generalize hd l = t at *
          generalize az ts = es at *
          simp [qD, hN, hT, hL, hb, e67, e151, e1, e2, e197, hu]
        · simp only [pc, pcf, cD, Tok.c, bw, k, ab] at e67 e151 e1 e2 ⊢
          generalize ((d + 1 : Nat) : Int) = d1 at *
          generalize iI (hd l) = u at *
          generalize hd l = t at *
          generalize az ts = es at *
          simp [qD, hN, hT, hL, hb, e67, e151, e1, e2, e197, hu]
       | ok v l1 =>
        obtain rfl := Option.some.inj (cO hx rfl); refine ⟨bS h2 rfl, fun b Y hb => ?_⟩; have e2 := aX h2 rfl hb; have e1 := aX h1 rfl hb; have e67 := e67 b Y hb; have e151 := e151 b Y hb; rw [mC]; obtain ⟨N, T, Lb, hN, hT, hL⟩ := lens3 Y; rw [hN] at hb
        conv => lhs; rw [← al (Y.af false b (pc ts l d))]
        rcases hw with k | k
        · simp only [pc, pcf, cD, Tok.c, bw, k, ab] at e67 e151 e1 e2 ⊢
          generalize ((d + 1 : Nat) : Int) = d1 at *
          generalize iI (hd l) = u at *
          generalize hd l = t at *
          generalize az ts = es at *
          simp [qD, hN, hT, hL, hb, e67, e151, e1, e2, e197, hu, w1, aF, iP, fZ, AM.cw, AM.ec, chunks, X.len, n7, X.okc, X.can, X.lC, X.fl, X.pl, X.enc, eL, iA]
        · simp only [pc, pcf, cD, Tok.c, bw, k, ab] at e67 e151 e1 e2 ⊢
          generalize ((d + 1 : Nat) : Int) = d1 at *
          generalize iI (hd l) = u at *
          generalize hd l = t at *
          generalize az ts = es at *
          simp [qD, hN, hT, hL, hb, e67, e151, e1, e2, e197, hu, w1, aF, iP, fZ, AM.cw, AM.ec, chunks, X.len, n7, X.okc, X.can, X.lC, X.fl, X.pl, X.enc, eL, iA]
 · have hu : iI (hd l) = 0 := by rw [iI, if_neg hw]
   rw [if_pos hu] at hx; have h1 := ih.atom d l x hd12 h hx
   have k2 : ¬ (((hd l).kind : Int) = 2) := by omega
   have k5 : ¬ (((hd l).kind : Int) = 5) := by omega
   have k2' : ¬ ((hd l).kind = 2) := by omega
   have k5' : ¬ ((hd l).kind = 5) := by omega
   cases x with
   | bad e q =>
    obtain ⟨a', d'', e1⟩ := bN h1 rfl; refine ⟨a', d'', fun b Y hb => ?_⟩; have e1 := e1 hb; have e67 := e67 b Y hb; rw [mC]; obtain ⟨N, T, Lb, hN, hT, hL⟩ := lens3 Y; rw [hN] at hb
    conv => lhs; rw [← al (Y.af false b (pc ts l d))]
    simp only [pc, pcf, cD, Tok.c, bw, ab] at e67 e1 ⊢
    generalize hd l = t at *
    generalize az ts = es at *
    simp [qD, hN, hT, hL, hb, e67, e1, k2, k5, k2', k5']
   | ok v l1 =>
    refine ⟨bS h1 rfl, fun b Y hb => ?_⟩; have e1 := aX h1 rfl hb; have e67 := e67 b Y hb; rw [mC]; obtain ⟨N, T, Lb, hN, hT, hL⟩ := lens3 Y; rw [hN] at hb
    conv => lhs; rw [← al (Y.af false b (pc ts l d))]
    simp only [pc, pcf, cD, Tok.c, bw, ab] at e67 e1 ⊢
    generalize hd l = t at *
    generalize az ts = es at *
    simp [qD, hN, hT, hL, hb, e67, e1, k2, k5, k2', k5', X.len, n7, X.okc, X.can, X.lC, X.fl, iA]
end
end Go.Proofs.YtlhlijaondmccaaGreatDoor.S
namespace Go.Proofs.YtlhlijaondmccaaGreatDoor.S
open Go Go.AM Go.Proofs
theorem jk {b : List PV → St → Option (Ex × List PV × St)} {vs vs' : List PV} {st st' : St} {t : TypeId} {v : Value} (h : b vs st = some (.pan t v, vs', st')) : itE b vs st = some (.pan t v, vs', st') := by
 rw [mL, h]; rfl
theorem FO {P : Program} {cst : Bool} {t : TypeId} {a b : List UInt8} (h : a.length + b.length < 4611686018427387904) : aJ P cst .add t (str a) (str b) = some (str (a ++ b)) := by
 rw [sb _ _ _ _ _ (by rw [cv, cv]; omega), oe]
theorem rD : ∀ {l m l' m' : List PV}, cw l = some l' → cw m = some m' → cw (l ++ m) = some (l' ++ m')
 | [], m, l', m', hl, hm => by obtain rfl := Option.some.inj hl; exact hm
 | a :: l, m, l', m', hl, hm => by
  simp only [cw] at hl
  cases ha : ec a with
  | none => rw [ha] at hl; cases hl
  | some a' =>
   rw [ha] at hl
   cases hl' : cw l with
   | none => rw [hl'] at hl; cases hl
   | some l2 =>
    rw [hl'] at hl; obtain rfl := Option.some.inj hl; simp only [aD, cw, ha, rD hl' hm, ah]
theorem Gc {sz : Nat} {z cs ds cs' ds' : List PV} (hz : z.length = sz) (hc : cs.length = sz) (hd : ds.length = sz) (hp : cw cs = some cs') (hq : cw ds = some ds') (hc' : cs'.length = sz) (hd' : ds'.length = sz) : aF sz z 2 [(0, .agg cs), (1, .agg ds)] = some (.sl [cs', ds'] .full) := by
 have h1 : laid (fZ 2 z) 0 cs = cs ++ z := by
  have := laidB [] z z cs (by omega); simpa [fZ] using this
 have h1' : laid (cs ++ z) sz ds = cs ++ ds := by
  have := laidB cs z [] ds (by omega); simpa [hc] using this
 have h2 : dL (0 + sz) (fZ 2 z).length = true := by simp [fZ, hz]
 have h2' : dL (1 * sz + sz) (cs ++ z).length = true := by simp [hz, hc]
 have h3 : ak cs.length sz = true := by rw [hc]; exact Nat.beq_refl _
 have h3' : ak ds.length sz = true := by rw [hd]; exact Nat.beq_refl _
 simp only [aF, iP, cq, AM.cellsOf, h3, Nat.zero_mul, h2, h3', br, cond_true, h1, ah, Nat.one_mul] at h2' ⊢; simp only [h2', h1', br, cond_true, cq, ah, rD hp hq, chunks]; rw [List.take_append_of_le_length (by omega), List.take_of_length_le (by omega), List.drop_append_of_le_length (by omega), List.drop_of_length_le (by omega)]; simp [List.take_of_length_le, hd']
attribute [local simp] cZ cy bX bY cz eI fu dX di dV de dW dh ft bZ hZ dR ib gU gN AM.aa aN aO bf aP aw AM.onG fR bH dw Ex.ba cond_true cond_false cV cU cT cS cR cX cQ cY cW dY dj dm cx da AM.du AM.cellsOf AM.an bQ beq_true dr ag aC bj bx bU decide_true decide_false bI bn br bD bg aB aA bh aD db dc fm av bE aY bR cC dQ dT cL eB eA set_set eG dB fI dC cI bK dA cH dz cG dy eF eH fE fF bO cv eu fD dZ aZ aT aI AM.aS ai dt bW aW bc aL aK AM.part aQ aM cc cn cm cr cr.eT AM.dM bu bV eg gm aZ laid aH bm cq
attribute [-simp] ah
attribute [local congr] ej
def X.kJ (x : X) (c : Cap) : List PV := [.v (.int .i64 x.op), .v (.int .i64 x.bin), .v (.int .u64 x.n), .v (.int .i64 x.kd), .v (.string x.rc), .v (.string x.name), .sl (eL x.kids) c, .v (.int .i64 x.line), .v (.int .i64 x.col)]
theorem AS (x : X) (c : Cap) : laid z9 0 (x.kJ c) = x.kJ c := iA _ _ rfl
theorem qH (x : X) : laid z9 0 x.enc = x.enc := iA _ _ (X.len x).symm
theorem uc (x : X) (c : Cap) (a0 a1 a2 a3 a4 a5 a6 a7 a8 : PV) : (((((((((x.kJ c).set 0 a0).set 1 a1).set 2 a2).set 3 a3).set 4 a4).set 5 a5).set 6 a6).set 7 a7).set 8 a8 = [a0, a1, a2, a3, a4, a5, a6, a7, a8] := rfl
abbrev Ek (c : Cap) : Prop := c = .dead ∨ c = .full
theorem ub (x : X) : x.kJ .dead = x.enc := by rw [X.bT]; rfl
theorem jF (x : X) (c : Cap) : (x.kJ c).length = 9 := rfl
theorem kx (x : X) (c : Cap) : (x.kJ c).take 9 = x.kJ c := rfl
theorem lR (x : X) (c : Cap) : aH (x.kJ c) = true := rfl
theorem zw (x : X) (c : Cap) : cw (x.kJ c) = some x.enc := by rw [X.bT]; rfl
theorem E2 (x : X) (c : Cap) : (x.kJ c).all dM = true := rfl
theorem AR (x : X) (c : Cap) : (x.kJ c).map bW = x.enc := by rw [X.bT]; rfl
theorem vj (x : X) {c : Cap} (hc : Ek c) (m : Nat) : (x.kJ c).all (sf true m 4) = true := by rcases hc with rfl | rfl <;> rfl
abbrev mkB (e k : X) (b : Int) (t : Tok) : X := ⟨9, b, 0, 0, bs [], bs [], [e, k], t.p.1, t.p.2⟩
theorem Cz (e k : X) (b : Int) (t : Tok) (c : Cap) : (mkB e k b t).kJ c = [.v (.int .i64 9), .v (.int .i64 b), .v (.int .u64 0), .v (.int .i64 0), str [], str [], .sl [e.enc, k.enc] c, .v (.int .i64 (t.p.1 : Int)), .v (.int .i64 (t.p.2 : Int))] := by
 simp only [X.kJ, mkB, X.op, X.bin, X.n, X.kd, X.rc, X.name, X.kids, X.line, X.col, eL]
def zb (ts : List Tok) (lv d : Nat) (e : X) (l : List Tok) (x : PR X) : Prop := match x with
 | .ok a l' => Sfx ts l' ∧ ∀ b (Y : St), b < Y.stk.length → ∀ N T Lb, Y.stk.length = N → Y.tk.length = T → Y.lp.length = Lb → ∀ c, Ek c → ∃ c1 c2,
  itE (oD.b0 (E L) itE N Lb) [.ptr false b 0, .v (.int .i64 (lv : Int)), .ptr false N 0, .ptr false (N + 1) 0] ((Y.af false b (pc ts l d)).app [⟨z9, []⟩, ⟨e.kJ c, []⟩] [] []) =
   some (.ret, [.ptr false b 0, .v (.int .i64 (lv : Int)), .ptr false N 0, .ptr false (N + 1) 0], (Y.af false b (pc ts l' d)).app [⟨a.kJ c2, []⟩, ⟨c1, []⟩] [] [])
 | .bad er q => ∃ a' d'', ∀ b (Y : St), b < Y.stk.length → ∀ N T Lb, Y.stk.length = N → Y.tk.length = T → Y.lp.length = Lb → ∀ c, Ek c → ∃ c1 c2,
  itE (oD.b0 (E L) itE N Lb) [.ptr false b 0, .v (.int .i64 (lv : Int)), .ptr false N 0, .ptr false (N + 1) 0] ((Y.af false b (pc ts l d)).app [⟨z9, []⟩, ⟨e.kJ c, []⟩] [] []) =
   some (.pan 108 (.agg #[]), [.ptr false b 0, .v (.int .i64 (lv : Int)), .ptr false N 0, .ptr false (N + 1) 0], (Y.af false b (pcf (az ts) a' d'' er q.1 q.2)).app [⟨c1, []⟩, ⟨c2, []⟩] [] [])
section
variable {ts : List Tok} (hr : Row ts) {n : Nat} (ih : nq ts n)
include hr ih
theorem FM (ihr : ∀ lv d e l x, lv < 3 → d ≤ 12 → Sfx ts l → j9 n lv d e l = some x → zb ts lv d e l x) : ∀ lv d e l x, lv < 3 → d ≤ 12 → Sfx ts l → j9 (n + 1) lv d e l = some x → zb ts lv d e l x := by
 intro lv d e l x hlv hd12 h hx; have elz := AS e; have s1 := h.next hr
 have e67 := fun b (Y : St) hb => aE (ef h d 0 0 0 (b := b)) (s := Y) hb
 have e151 := fun b (Y : St) hb => aE (lr hr h d (b := b)) (s := Y) hb
 have e188 := DE lv hlv
 have hmem : hd l ∈ ts := by
  obtain ⟨t, r, rfl⟩ := h.cons; obtain ⟨_, dn, rfl⟩ := h; simp [hd]
 have htx := hr.txt _ hmem
 have sg1 : aJ Tryz.prog true .add 9 (str [32]) (str (hd l).text) = some (str (32 :: (hd l).text)) := by
  rw [FO (by simp only [bC]; omega)]; rfl
 have sg2 : aJ Tryz.prog true .add 9 (str (32 :: (hd l).text)) (str [32]) = some (str (32 :: ((hd l).text ++ [32]))) := by
  rw [FO (by simp only [bC, ag, aC]; omega)]; rfl
 have e189 := Hf (hd l).text; simp only [j9] at hx
 by_cases k5 : (hd l).kind = 5
 · have e169 : ∀ Z, E L (.func 169) [str (32 :: ja (im lv)), str (32 :: ((hd l).text ++ [32]))] Z = some (.v (.bool ((im lv).contains (hd l).text)), Z) := fun Z => by
    rw [uO (by
     obtain rfl | rfl | rfl : lv = 0 ∨ lv = 1 ∨ lv = 2 := by omega
     all_goals simp [im, ja]), By (hr.sign _ hmem k5)]
   cases hc0 : (im lv).contains (hd l).text with
   | false =>
    rw [hc0] at e169; rw [lH, if_neg (by rw [hc0]; simp)] at hx; obtain rfl := Option.some.inj hx; refine ⟨h, fun b Y hb N T Lb hN hT hL c hc => ⟨e.kJ c, c, ?_⟩⟩; have e67 := e67 b Y hb
    have hb2 : b < N + 2 := by omega
    have hsf := vj e hc; simp only [pc, pcf, cD, Tok.c, bw, k5, ab] at e67 ⊢
    generalize ja (im lv) = sg at *
    generalize hd l = t at *
    generalize az ts = es at *
    apply eE; simp [oD.b0, hN, hT, hL, hb, hb2, elz, e67, e188, sg1, sg2, e169, jF, kx, lR, hsf, iA, dG, eI]
   | true =>
    rw [hc0] at e169; rw [lH, if_pos ⟨k5, hc0⟩] at hx; simp only at hx; obtain ⟨y, hy⟩ := dP hx; rw [hy] at hx; have h1 := ih.chain (lv + 1) d (dI l) y (by omega) hd12 s1 hy
    have w1 : IntKind.i64.wrap ((lv : Int) + 1) = ((lv + 1 : Nat) : Int) := by rw [IntWalk.i64_in _ (by omega)]; omega
    cases y with
    | bad er q =>
     obtain rfl := cd hx rfl; obtain ⟨a', d'', e1⟩ := bN h1 rfl; refine ⟨a', d'', fun b Y hb N T Lb hN hT hL c hc => ⟨z9, e.kJ c, ?_⟩⟩; have e1 := e1 hb; have e67 := e67 b Y hb; have e151 := e151 b Y hb
     have hb2 : b < N + 2 := by omega
     have hsf := vj e hc; simp only [pc, pcf, cD, Tok.c, bw, k5, ab] at e67 e151 e1 ⊢
     generalize ((lv + 1 : Nat) : Int) = lv1 at *
     generalize ja (im lv) = sg at *
     generalize wj (hd l).text = bt at *
     generalize hd l = t at *
     generalize az ts = es at *
     apply jk; simp [oD.b0, hN, hT, hL, hb, hb2, elz, e67, e151, e188, e189, e1, sg1, sg2, e169, w1, jF, kx, lR, hsf, iA, dG, eI]
    | ok k l1 =>
     have hx := cO hx rfl; have s2 := bS h1 rfl
     by_cases h0 : lv = 0
     · subst h0
       simp only [if_true] at hx; obtain rfl := Option.some.inj hx; refine ⟨s2, fun b Y hb N T Lb hN hT hL c hc => ⟨(mkB e k (wj (hd l).text) (hd l)).kJ .full, .full, ?_⟩⟩; have e1 := aX h1 rfl hb; have e67 := e67 b Y hb; have e151 := e151 b Y hb
       have hb2 : b < N + 2 := by omega
       have hl2 := Gc (sz := 9) (z := z9) rfl (jF e c) (X.len k) (zw e c) (X.pl k) (X.len e) (X.len k); simp only [pc, pcf, cD, Cz, Tok.c, bw, k5, eD, ab] at e67 e151 e1 e188 w1 ⊢
       generalize ((0 + 1 : Nat) : Int) = lv1 at *
       generalize ja (im 0) = sg at *
       generalize wj (hd l).text = bt at *
       generalize hd l = t at *
       generalize az ts = es at *
       apply eE; simp only [Int.zero_add] at w1; simp [oD.b0, hN, hT, hL, hb, hb2, elz, e67, e151, e188, e189, e1, sg1, sg2, e169, w1, uc, hl2, jF, kx, lR, iA, dG, eI]
     · rw [if_neg h0] at hx
       have h2 := ihr lv d _ l1 x hlv hd12 s2 hx
       have h0' : ¬ ((lv : Int) = 0) := by omega
       have stp : ∀ b (Y : St), b < Y.stk.length → ∀ N T Lb, Y.stk.length = N → Y.tk.length = T → Y.lp.length = Lb → ∀ c, Ek c →
        oD.b0 (E L) itE N Lb [.ptr false b 0, .v (.int .i64 (lv : Int)), .ptr false N 0, .ptr false (N + 1) 0] ((Y.af false b (pc ts l d)).app [⟨z9, []⟩, ⟨e.kJ c, []⟩] [] []) =
         some (.normal, [.ptr false b 0, .v (.int .i64 (lv : Int)), .ptr false N 0, .ptr false (N + 1) 0], (Y.af false b (pc ts l1 d)).app [⟨z9, []⟩, ⟨(mkB e k (wj (hd l).text) (hd l)).kJ .full, []⟩] [] []) := by
        intro b Y hb N T Lb hN hT hL c hc; have e1 := aX h1 rfl hb; have e67 := e67 b Y hb; have e151 := e151 b Y hb
        have hb2 : b < N + 2 := by omega
        have hl2 := Gc (sz := 9) (z := z9) rfl (jF e c) (X.len k) (zw e c) (X.pl k) (X.len e) (X.len k); simp only [pc, pcf, cD, Cz, Tok.c, bw, k5, ab] at e67 e151 e1 ⊢
        generalize ((lv + 1 : Nat) : Int) = lv1 at *
        generalize ja (im lv) = sg at *
        generalize wj (hd l).text = bt at *
        generalize hd l = t at *
        generalize az ts = es at *
        simp [oD.b0, hN, hT, hL, hb, hb2, elz, e67, e151, e188, e189, e1, sg1, sg2, e169, w1, h0, h0', uc, hl2, jF, kx, lR, iA, dG, eI]
       cases x with
       | ok a l2 =>
        refine ⟨h2.1, fun b Y hb N T Lb hN hT hL c hc => ?_⟩; obtain ⟨c1, c2, hit⟩ := h2.2 b Y hb N T Lb hN hT hL .full (.inr rfl); exact ⟨c1, c2, (bP (stp b Y hb N T Lb hN hT hL c hc)).trans hit⟩
       | bad er q =>
        obtain ⟨a', d'', h2⟩ := h2; refine ⟨a', d'', fun b Y hb N T Lb hN hT hL c hc => ?_⟩; obtain ⟨c1, c2, hit⟩ := h2 b Y hb N T Lb hN hT hL .full (.inr rfl); exact ⟨c1, c2, (bP (stp b Y hb N T Lb hN hT hL c hc)).trans hit⟩
 · rw [lH, if_neg (fun q => k5 q.1)] at hx
   obtain rfl := Option.some.inj hx; refine ⟨h, fun b Y hb N T Lb hN hT hL c hc => ⟨e.kJ c, c, ?_⟩⟩; have e67 := e67 b Y hb
   have hb2 : b < N + 2 := by omega
   have hsf := vj e hc
   have k5' : ¬ (((hd l).kind : Int) = 5) := by omega
   simp only [pc, pcf, cD, Tok.c, bw, ab] at e67 ⊢
   generalize hd l = t at *
   generalize az ts = es at *
   apply eE; simp [oD.b0, hN, hT, hL, hb, hb2, elz, e67, k5, k5', jF, kx, lR, hsf, iA, dG, eI]
end
end Go.Proofs.YtlhlijaondmccaaGreatDoor.S
namespace Go.Proofs.YtlhlijaondmccaaGreatDoor.S
open Go Go.AM Go.Proofs
attribute [local simp] cZ cy bX bY cz eI fu dX di dV de dW dh ft bZ hZ dR ib gU gN AM.aa aN aO bf aP aw AM.onG fR bH dw Ex.ba cond_true cond_false cV cU cT cS cR cX cQ cY cW dY dj dm cx da AM.du AM.cellsOf AM.an bQ beq_true dr ag aC bj bx bU decide_true decide_false bI bn br bD bg aB aA bh aD db dc fm av bE aY bR cC dQ dT cL eB eA set_set eG dB fI dC cI bK dA cH dz cG dy eF eH fE fF bO cv eu fD dZ aZ aT aI AM.aS ai dt bW aW bc aL aK AM.part aQ aM cc cn cm cr cr.eT AM.dM bu bV eg gm aZ laid aH bm cq
attribute [-simp] ah
attribute [local congr] ej
section
variable {ts : List Tok} (hr : Row ts) {n : Nat} (ih : nq ts n)
include hr ih
theorem Ct (ihr : ∀ lv d e l x, lv < 3 → d ≤ 12 → Sfx ts l → j9 n lv d e l = some x → zb ts lv d e l x) : ∀ lv d l x, lv ≤ 3 → d ≤ 12 → Sfx ts l → ff (n + 1) lv d l = some x → Rd 173 [.v (.int .i64 (lv : Int))] ts d d l cD x := by
 intro lv d l x hlv hd12 h hx; simp only [ff] at hx
 by_cases k3 : lv = 3
 · subst k3
   rw [if_pos rfl] at hx; have h1 := ih.pre d l x hd12 h hx
   cases x with
   | bad er q =>
    obtain ⟨a', d'', e1⟩ := bN h1 rfl; refine ⟨a', d'', fun b Y hb => ?_⟩; have e1 := e1 hb; rw [pw]; obtain ⟨N, T, Lb, hN, hT, hL⟩ := lens3 Y; rw [hN] at hb
    conv => lhs; rw [← al (Y.af false b (pc ts l d))]
    simp only [pc, pcf, cD, ab] at e1 ⊢
    generalize az ts = es at *
    simp [oD, hN, hT, hL, hb, e1]
   | ok a l' =>
    refine ⟨bS h1 rfl, fun b Y hb => ?_⟩; have e1 := aX h1 rfl hb; rw [pw]; obtain ⟨N, T, Lb, hN, hT, hL⟩ := lens3 Y; rw [hN] at hb
    conv => lhs; rw [← al (Y.af false b (pc ts l d))]
    simp only [pc, pcf, cD, ab] at e1 ⊢
    generalize az ts = es at *
    simp [oD, hN, hT, hL, hb, e1, X.len, n7, X.okc, X.can, X.lC, X.fl, qH]
 rw [if_neg k3] at hx; obtain ⟨y, hy⟩ := dP hx; rw [hy] at hx; have h1 := ih.chain (lv + 1) d l y (by omega) hd12 h hy
 have w1 : IntKind.i64.wrap ((lv : Int) + 1) = ((lv + 1 : Nat) : Int) := by rw [IntWalk.i64_in _ (by omega)]; omega
 have k3' : ¬ ((lv : Int) = 3) := by omega
 cases y with
 | bad er q =>
  obtain rfl := cd hx rfl; obtain ⟨a', d'', e1⟩ := bN h1 rfl; refine ⟨a', d'', fun b Y hb => ?_⟩; have e1 := e1 hb; rw [pw]; obtain ⟨N, T, Lb, hN, hT, hL⟩ := lens3 Y; rw [hN] at hb
  conv => lhs; rw [← al (Y.af false b (pc ts l d))]
  simp only [pc, pcf, cD, ab] at e1 ⊢
  generalize ((lv + 1 : Nat) : Int) = lv1 at *
  generalize az ts = es at *
  simp [oD, hN, hT, hL, hb, e1, w1, k3, k3']
 | ok e l1 =>
  have hx := cO hx rfl; have s1 := bS h1 rfl; have h2 := ihr lv d e l1 x (by omega) hd12 s1 hx
  cases x with
  | bad er q =>
   obtain ⟨a', d'', h2⟩ := h2; refine ⟨a', d'', fun b Y hb => ?_⟩; have e1 := aX h1 rfl hb; obtain ⟨c1, c2, hit⟩ := h2 b Y hb _ _ _ rfl rfl rfl .dead (.inl rfl); rw [ub] at hit; rw [pw]; obtain ⟨N, T, Lb, hN, hT, hL⟩ := lens3 Y; rw [hN] at hb; rw [hN] at hit
   conv => lhs; rw [← al (Y.af false b (pc ts l d))]
   rw [hL] at hit
   have hb2 : b < N + 2 := by omega
   simp only [pc, pcf, cD, ab] at e1 hit ⊢
   generalize ((lv + 1 : Nat) : Int) = lv1 at *
   generalize az ts = es at *
   simp [oD, hN, hT, hL, hb, hb2, e1, w1, k3, k3', X.len, n7, X.okc, X.can, X.lC, X.fl, qH, hit, Ex.ba]
  | ok a l2 =>
   refine ⟨h2.1, fun b Y hb => ?_⟩; have e1 := aX h1 rfl hb; obtain ⟨c1, c2, hit⟩ := h2.2 b Y hb _ _ _ rfl rfl rfl .dead (.inl rfl); have hfl := E2 a c2; rw [ub] at hit; rw [pw]; obtain ⟨N, T, Lb, hN, hT, hL⟩ := lens3 Y; rw [hN] at hb; rw [hN] at hit
   conv => lhs; rw [← al (Y.af false b (pc ts l d))]
   rw [hL] at hit
   have hb2 : b < N + 2 := by omega
   simp only [pc, pcf, cD, ab] at e1 hit ⊢
   generalize ((lv + 1 : Nat) : Int) = lv1 at *
   generalize az ts = es at *
   simp [oD, hN, hT, hL, hb, hb2, e1, w1, k3, k3', X.len, n7, X.okc, X.can, X.lC, X.fl, qH, hit, Ex.ba, jF, kx, lR, hfl, AR]
end
theorem zA {ts : List Tok} (hr : Row ts) : ∀ n, nq ts n ∧ ∀ lv d e l x, lv < 3 → d ≤ 12 → Sfx ts l → j9 n lv d e l = some x → zb ts lv d e l x
 | 0 => by
  refine ⟨⟨?_, ?_, ?_⟩, ?_⟩
  · intro d l x _ _ h; simp [lO] at h
  · intro d l x _ _ h; simp [iv] at h
  · intro lv d l x _ _ _ h; simp [ff] at h
  · intro lv d e l x _ _ _ h; simp [j9] at h
 | n + 1 => by
  obtain ⟨i, r⟩ := zA hr n; exact ⟨⟨ET hr i, Hx hr i, Ct hr i r⟩, FM hr i r⟩
abbrev eQ (x : Pl) : PV := .agg x.enc
abbrev fg (x : Rt) : PV := .agg x.enc
theorem gi (a b c d e : PV) : gK Tryz.prog 140 (.agg [a, b, c, d, e]) 1 = some b := by kernel_rfl
theorem uz {ts : List Tok} (hr : Row ts) {n : Nat} (ih : nq ts n) {d : Nat} {l : List Tok} {x : PR Pl} (hd12 : d ≤ 12) (h : Sfx ts l) (hx : nQ n d l = some x) : Rd 156 [] ts d d l eQ x := by
 unfold nQ at hx; have h1 := ir hr h d 1
 cases x1 : eU 1 l with
 | bad e q =>
  obtain rfl := cd hx x1; obtain ⟨a', d'', eb⟩ := bN h1 x1; refine ⟨a', d'', fun b Y hb => ?_⟩; have eb := eb hb; rw [mB]; obtain ⟨N, T, Lb, hN, hT, hL⟩ := lens3 Y; rw [hN] at hb
  conv => lhs; rw [← al (Y.af false b (pc ts l d))]
  simp only [pc, pcf, aV, Tok.c, bw, ab, if_true, if_false, ae, cD, eQ] at eb ⊢
  generalize az ts = es at *
  simp [vS, hN, hT, hL, hb, eb, Pl.enc, X.enc, eL, x0, gi]
 | ok t1 l1 =>
  have hx := cO hx x1
  try dsimp only at hx
  have s1 := bS h1 x1
  cases i2 : isT l1 [46] with
  | true =>
   rw [if_pos i2] at hx; have s2 := s1.isT hr i2; have h3 := ir hr s2 d 1
   cases x3 : eU 1 l1.tail with
   | bad e q =>
    obtain rfl := cd hx x3; obtain ⟨a', d'', eb⟩ := bN h3 x3; refine ⟨a', d'', fun b Y hb => ?_⟩; have eb := eb hb; have e1 := aX h1 x1 hb; have e2 := aE (aG hr s1 d [46] (b := b)) (s := Y) hb; rw [mB]; obtain ⟨N, T, Lb, hN, hT, hL⟩ := lens3 Y; rw [hN] at hb
    conv => lhs; rw [← al (Y.af false b (pc ts l d))]
    simp only [pc, pcf, aV, Tok.c, bw, ab, if_true, if_false, ae, cD, eQ, i2] at e1 e2 eb ⊢
    generalize az ts = es at *
    simp [vS, hN, hT, hL, hb, e1, e2, eb, i2, Pl.enc, X.enc, eL, x0, gi]
   | ok t3 l3 =>
    have hx := cO hx x3
    try dsimp only at hx
    have s3 := bS h3 x3; obtain rfl := Option.some.inj hx; refine ⟨s3, fun b Y hb => ?_⟩; have e1 := aX h1 x1 hb; have e2 := aE (aG hr s1 d [46] (b := b)) (s := Y) hb; have e3 := aX h3 x3 hb; rw [mB]; obtain ⟨N, T, Lb, hN, hT, hL⟩ := lens3 Y; rw [hN] at hb
    conv => lhs; rw [← al (Y.af false b (pc ts l d))]
    simp only [pc, pcf, aV, Tok.c, bw, ab, if_true, if_false, ae, cD, eQ, i2] at e1 e2 e3 ⊢
    generalize az ts = es at *
    simp [vS, hN, hT, hL, hb, e1, e2, e3, i2, Pl.enc, X.enc, eL, x0, gi]
  | false =>
   rw [if_neg (by rw [i2]; decide)] at hx
   cases i4 : isT l1 [91] with
   | true =>
    rw [if_pos i4] at hx; have s4 := s1.isT hr i4; obtain ⟨y5, hy5⟩ := dP hx; rw [hy5] at hx; have h5 := lj hr ih hd12 s4 hy5
    cases y5 with
    | bad e q =>
     obtain rfl := cd hx rfl; obtain ⟨a', d'', eb⟩ := bN h5 rfl; refine ⟨a', d'', fun b Y hb => ?_⟩; have eb := eb hb; have e1 := aX h1 x1 hb; have e2 := aE (aG hr s1 d [46] (b := b)) (s := Y) hb; have e4 := aE (aG hr s1 d [91] (b := b)) (s := Y) hb; rw [mB]; obtain ⟨N, T, Lb, hN, hT, hL⟩ := lens3 Y; rw [hN] at hb
     conv => lhs; rw [← al (Y.af false b (pc ts l d))]
     simp only [pc, pcf, aV, Tok.c, bw, ab, if_true, if_false, ae, cD, eQ, i2, i4] at e1 e2 e4 eb ⊢
     generalize az ts = es at *
     simp [vS, hN, hT, hL, hb, e1, e2, e4, eb, i2, i4, Pl.enc, X.enc, eL, x0, gi]
    | ok x5 l5 =>
     have hx := cO hx rfl
     try dsimp only at hx
     have s5 := bS h5 rfl; have h6 := fe hr s5 d [93]
     cases x6 : dJ [93] l5 with
     | bad e q =>
      obtain rfl := cd hx x6; obtain ⟨a', d'', eb⟩ := bN h6 x6; refine ⟨a', d'', fun b Y hb => ?_⟩; have eb := eb hb; have e1 := aX h1 x1 hb; have e2 := aE (aG hr s1 d [46] (b := b)) (s := Y) hb; have e4 := aE (aG hr s1 d [91] (b := b)) (s := Y) hb; have e5 := aX h5 rfl hb; rw [mB]; obtain ⟨N, T, Lb, hN, hT, hL⟩ := lens3 Y; rw [hN] at hb
      conv => lhs; rw [← al (Y.af false b (pc ts l d))]
      simp only [pc, pcf, aV, Tok.c, bw, ab, if_true, if_false, ae, cD, eQ, i2, i4] at e1 e2 e4 e5 eb ⊢; cases x5
      generalize az ts = es at *
      simp [vS, hN, hT, hL, hb, e1, e2, e4, e5, eb, i2, i4, Pl.enc, X.enc, eL, x0, gi]
     | ok u6 l6 =>
      have hx := cO hx x6
      try dsimp only at hx
      have s6 := bS h6 x6; obtain rfl := Option.some.inj hx; refine ⟨s6, fun b Y hb => ?_⟩; have e1 := aX h1 x1 hb; have e2 := aE (aG hr s1 d [46] (b := b)) (s := Y) hb; have e4 := aE (aG hr s1 d [91] (b := b)) (s := Y) hb; have e5 := aX h5 rfl hb; have e6 := aX h6 x6 hb; rw [mB]; obtain ⟨N, T, Lb, hN, hT, hL⟩ := lens3 Y; rw [hN] at hb
      conv => lhs; rw [← al (Y.af false b (pc ts l d))]
      simp only [pc, pcf, aV, Tok.c, bw, ab, if_true, if_false, ae, cD, eQ, i2, i4] at e1 e2 e4 e5 e6 ⊢; cases x5
      generalize az ts = es at *
      simp [vS, hN, hT, hL, hb, e1, e2, e4, e5, e6, i2, i4, Pl.enc, X.enc, eL, x0, gi]
   | false =>
    rw [if_neg (by rw [i4]; decide)] at hx; obtain rfl := Option.some.inj hx; refine ⟨s1, fun b Y hb => ?_⟩; have e1 := aX h1 x1 hb; have e2 := aE (aG hr s1 d [46] (b := b)) (s := Y) hb; have e4 := aE (aG hr s1 d [91] (b := b)) (s := Y) hb; rw [mB]; obtain ⟨N, T, Lb, hN, hT, hL⟩ := lens3 Y; rw [hN] at hb
    conv => lhs; rw [← al (Y.af false b (pc ts l d))]
    simp only [pc, pcf, aV, Tok.c, bw, ab, if_true, if_false, ae, cD, eQ, i2, i4] at e1 e2 e4 ⊢
    generalize az ts = es at *
    simp [vS, hN, hT, hL, hb, e1, e2, e4, i2, i4, Pl.enc, X.enc, eL, x0, gi]
theorem qY {ts : List Tok} (hr : Row ts) {n : Nat} (ih : nq ts n) {d : Nat} {l : List Tok} {x : PR Rt} (hd12 : d ≤ 12) (h : Sfx ts l) (hx : jw n d l = some x) : Rd 155 [] ts d d l fg x := by
 have e67 := fun b (Y : St) hb => aE (ef h d 0 0 0 (b := b)) (s := Y) hb
 simp only [jw] at hx
 cases i1 : isT l [108, 111, 97, 100] with
 | true =>
  rw [if_pos i1] at hx; have s1 := h.isT hr i1; obtain ⟨y2, hy2⟩ := dP hx; rw [hy2] at hx; have h2 := uz hr ih hd12 s1 hy2
  cases y2 with
  | bad e q =>
   obtain rfl := cd hx rfl; obtain ⟨a', d'', eb⟩ := bN h2 rfl; refine ⟨a', d'', fun b Y hb => ?_⟩; have eb := eb hb; have e67 := e67 b Y hb; have e1 := aE (aG hr h d [108, 111, 97, 100] (b := b)) (s := Y) hb; rw [jy]; obtain ⟨N, T, Lb, hN, hT, hL⟩ := lens3 Y; rw [hN] at hb
   conv => lhs; rw [← al (Y.af false b (pc ts l d))]
   simp only [pc, pcf, aV, Tok.c, bw, ab, if_true, if_false, ae, cD, eQ, fg, i1] at e67 e1 eb ⊢
   generalize az ts = es at *
   simp [sh, hN, hT, hL, hb, e67, e1, eb, i1, Rt.enc, Pl.enc, X.enc, eL, x0, pl0, gi]
  | ok p2 l2 =>
   have hx := cO hx rfl
   try dsimp only at hx
   have s2 := bS h2 rfl; obtain rfl := Option.some.inj hx; refine ⟨s2, fun b Y hb => ?_⟩; have e67 := e67 b Y hb; have e1 := aE (aG hr h d [108, 111, 97, 100] (b := b)) (s := Y) hb; have e2 := aX h2 rfl hb; rw [jy]; obtain ⟨N, T, Lb, hN, hT, hL⟩ := lens3 Y; rw [hN] at hb
   conv => lhs; rw [← al (Y.af false b (pc ts l d))]
   simp only [pc, pcf, aV, Tok.c, bw, ab, if_true, if_false, ae, cD, eQ, fg, i1] at e67 e1 e2 ⊢; obtain ⟨_, _, _, ⟨⟩, _, _⟩ := p2
   generalize az ts = es at *
   simp [sh, hN, hT, hL, hb, e67, e1, e2, i1, Rt.enc, Pl.enc, X.enc, eL, x0, pl0, gi]
 | false =>
  rw [if_neg (by rw [i1]; decide)] at hx
  cases i3 : isT l [115, 105, 122, 101] with
  | true =>
   rw [if_pos i3] at hx; have s3 := h.isT hr i3; have h4 := ir hr s3 d 1
   cases x4 : eU 1 l.tail with
   | bad e q =>
    obtain rfl := cd hx x4; obtain ⟨a', d'', eb⟩ := bN h4 x4; refine ⟨a', d'', fun b Y hb => ?_⟩; have eb := eb hb; have e67 := e67 b Y hb; have e1 := aE (aG hr h d [108, 111, 97, 100] (b := b)) (s := Y) hb; have e3 := aE (aG hr h d [115, 105, 122, 101] (b := b)) (s := Y) hb; rw [jy]; obtain ⟨N, T, Lb, hN, hT, hL⟩ := lens3 Y; rw [hN] at hb
    conv => lhs; rw [← al (Y.af false b (pc ts l d))]
    simp only [pc, pcf, aV, Tok.c, bw, ab, if_true, if_false, ae, cD, eQ, fg, i1, i3] at e67 e1 e3 eb ⊢
    generalize az ts = es at *
    simp [sh, hN, hT, hL, hb, e67, e1, e3, eb, i1, i3, Rt.enc, Pl.enc, X.enc, eL, x0, pl0, gi]
   | ok t4 l4 =>
    have hx := cO hx x4
    try dsimp only at hx
    have s4 := bS h4 x4; obtain rfl := Option.some.inj hx; refine ⟨s4, fun b Y hb => ?_⟩; have e67 := e67 b Y hb; have e1 := aE (aG hr h d [108, 111, 97, 100] (b := b)) (s := Y) hb; have e3 := aE (aG hr h d [115, 105, 122, 101] (b := b)) (s := Y) hb; have e4 := aX h4 x4 hb; rw [jy]; obtain ⟨N, T, Lb, hN, hT, hL⟩ := lens3 Y; rw [hN] at hb
    conv => lhs; rw [← al (Y.af false b (pc ts l d))]
    simp only [pc, pcf, aV, Tok.c, bw, ab, if_true, if_false, ae, cD, eQ, fg, i1, i3] at e67 e1 e3 e4 ⊢
    generalize az ts = es at *
    simp [sh, hN, hT, hL, hb, e67, e1, e3, e4, i1, i3, Rt.enc, Pl.enc, X.enc, eL, x0, pl0, gi]
  | false =>
   rw [if_neg (by rw [i3]; decide)] at hx
   cases i5 : isT l [110, 101, 119] with
   | true =>
    rw [if_pos i5] at hx; have s5 := h.isT hr i5
    cases i6 : isT l.tail [105, 110, 116, 115] with
    | true =>
     rw [if_pos i6] at hx; have s6 := s5.isT hr i6; obtain ⟨y7, hy7⟩ := dP hx; rw [hy7] at hx; have h7 := lj hr ih hd12 s6 hy7
     cases y7 with
     | bad e q =>
      obtain rfl := cd hx rfl; obtain ⟨a', d'', eb⟩ := bN h7 rfl; refine ⟨a', d'', fun b Y hb => ?_⟩; have eb := eb hb; have e67 := e67 b Y hb; have e1 := aE (aG hr h d [108, 111, 97, 100] (b := b)) (s := Y) hb; have e3 := aE (aG hr h d [115, 105, 122, 101] (b := b)) (s := Y) hb; have e5 := aE (aG hr h d [110, 101, 119] (b := b)) (s := Y) hb; have e6 := aE (aG hr s5 d [105, 110, 116, 115] (b := b)) (s := Y) hb; rw [jy]; obtain ⟨N, T, Lb, hN, hT, hL⟩ := lens3 Y; rw [hN] at hb
      conv => lhs; rw [← al (Y.af false b (pc ts l d))]
      simp only [pc, pcf, aV, Tok.c, bw, ab, if_true, if_false, ae, cD, eQ, fg, i1, i3, i5, i6] at e67 e1 e3 e5 e6 eb ⊢
      generalize az ts = es at *
      simp [sh, hN, hT, hL, hb, e67, e1, e3, e5, e6, eb, i1, i3, i5, i6, Rt.enc, Pl.enc, X.enc, eL, x0, pl0, gi]
     | ok x7 l7 =>
      have hx := cO hx rfl
      try dsimp only at hx
      have s7 := bS h7 rfl; obtain rfl := Option.some.inj hx; refine ⟨s7, fun b Y hb => ?_⟩; have e67 := e67 b Y hb; have e1 := aE (aG hr h d [108, 111, 97, 100] (b := b)) (s := Y) hb; have e3 := aE (aG hr h d [115, 105, 122, 101] (b := b)) (s := Y) hb; have e5 := aE (aG hr h d [110, 101, 119] (b := b)) (s := Y) hb; have e6 := aE (aG hr s5 d [105, 110, 116, 115] (b := b)) (s := Y) hb; have e7 := aX h7 rfl hb; rw [jy]; obtain ⟨N, T, Lb, hN, hT, hL⟩ := lens3 Y; rw [hN] at hb
      conv => lhs; rw [← al (Y.af false b (pc ts l d))]
      simp only [pc, pcf, aV, Tok.c, bw, ab, if_true, if_false, ae, cD, eQ, fg, i1, i3, i5, i6] at e67 e1 e3 e5 e6 e7 ⊢; cases x7
      generalize az ts = es at *
      simp [sh, hN, hT, hL, hb, e67, e1, e3, e5, e6, e7, i1, i3, i5, i6, Rt.enc, Pl.enc, X.enc, eL, x0, pl0, gi]
    | false =>
     rw [if_neg (by rw [i6]; decide)] at hx; have h8 := ir hr s5 d 1
     cases x8 : eU 1 l.tail with
     | bad e q =>
      obtain rfl := cd hx x8; obtain ⟨a', d'', eb⟩ := bN h8 x8; refine ⟨a', d'', fun b Y hb => ?_⟩; have eb := eb hb; have e67 := e67 b Y hb; have e1 := aE (aG hr h d [108, 111, 97, 100] (b := b)) (s := Y) hb; have e3 := aE (aG hr h d [115, 105, 122, 101] (b := b)) (s := Y) hb; have e5 := aE (aG hr h d [110, 101, 119] (b := b)) (s := Y) hb; have e6 := aE (aG hr s5 d [105, 110, 116, 115] (b := b)) (s := Y) hb; rw [jy]; obtain ⟨N, T, Lb, hN, hT, hL⟩ := lens3 Y; rw [hN] at hb
      conv => lhs; rw [← al (Y.af false b (pc ts l d))]
      simp only [pc, pcf, aV, Tok.c, bw, ab, if_true, if_false, ae, cD, eQ, fg, i1, i3, i5, i6] at e67 e1 e3 e5 e6 eb ⊢
      generalize az ts = es at *
      simp [sh, hN, hT, hL, hb, e67, e1, e3, e5, e6, eb, i1, i3, i5, i6, Rt.enc, Pl.enc, X.enc, eL, x0, pl0, gi]
     | ok t8 l8 =>
      have hx := cO hx x8
      try dsimp only at hx
      have s8 := bS h8 x8; obtain rfl := Option.some.inj hx; refine ⟨s8, fun b Y hb => ?_⟩; have e67 := e67 b Y hb; have e1 := aE (aG hr h d [108, 111, 97, 100] (b := b)) (s := Y) hb; have e3 := aE (aG hr h d [115, 105, 122, 101] (b := b)) (s := Y) hb; have e5 := aE (aG hr h d [110, 101, 119] (b := b)) (s := Y) hb; have e6 := aE (aG hr s5 d [105, 110, 116, 115] (b := b)) (s := Y) hb; have e8 := aX h8 x8 hb; rw [jy]; obtain ⟨N, T, Lb, hN, hT, hL⟩ := lens3 Y; rw [hN] at hb
      conv => lhs; rw [← al (Y.af false b (pc ts l d))]
      simp only [pc, pcf, aV, Tok.c, bw, ab, if_true, if_false, ae, cD, eQ, fg, i1, i3, i5, i6] at e67 e1 e3 e5 e6 e8 ⊢
      generalize az ts = es at *
      simp [sh, hN, hT, hL, hb, e67, e1, e3, e5, e6, e8, i1, i3, i5, i6, Rt.enc, Pl.enc, X.enc, eL, x0, pl0, gi]
   | false =>
    rw [if_neg (by rw [i5]; decide)] at hx; obtain ⟨y9, hy9⟩ := dP hx; rw [hy9] at hx; have h9 := lj hr ih hd12 h hy9
    cases y9 with
    | bad e q =>
     obtain rfl := cd hx rfl; obtain ⟨a', d'', eb⟩ := bN h9 rfl; refine ⟨a', d'', fun b Y hb => ?_⟩; have eb := eb hb; have e67 := e67 b Y hb; have e1 := aE (aG hr h d [108, 111, 97, 100] (b := b)) (s := Y) hb; have e3 := aE (aG hr h d [115, 105, 122, 101] (b := b)) (s := Y) hb; have e5 := aE (aG hr h d [110, 101, 119] (b := b)) (s := Y) hb; rw [jy]; obtain ⟨N, T, Lb, hN, hT, hL⟩ := lens3 Y; rw [hN] at hb
     conv => lhs; rw [← al (Y.af false b (pc ts l d))]
     simp only [pc, pcf, aV, Tok.c, bw, ab, if_true, if_false, ae, cD, eQ, fg, i1, i3, i5] at e67 e1 e3 e5 eb ⊢
     generalize az ts = es at *
     simp [sh, hN, hT, hL, hb, e67, e1, e3, e5, eb, i1, i3, i5, Rt.enc, Pl.enc, X.enc, eL, x0, pl0, gi]
    | ok x9 l9 =>
     have hx := cO hx rfl
     try dsimp only at hx
     have s9 := bS h9 rfl; obtain rfl := Option.some.inj hx; refine ⟨s9, fun b Y hb => ?_⟩; have e67 := e67 b Y hb; have e1 := aE (aG hr h d [108, 111, 97, 100] (b := b)) (s := Y) hb; have e3 := aE (aG hr h d [115, 105, 122, 101] (b := b)) (s := Y) hb; have e5 := aE (aG hr h d [110, 101, 119] (b := b)) (s := Y) hb; have e9 := aX h9 rfl hb; rw [jy]; obtain ⟨N, T, Lb, hN, hT, hL⟩ := lens3 Y; rw [hN] at hb
     conv => lhs; rw [← al (Y.af false b (pc ts l d))]
     simp only [pc, pcf, aV, Tok.c, bw, ab, if_true, if_false, ae, cD, eQ, fg, i1, i3, i5] at e67 e1 e3 e5 e9 ⊢; cases x9
     generalize az ts = es at *
     simp [sh, hN, hT, hL, hb, e67, e1, e3, e5, e9, i1, i3, i5, Rt.enc, Pl.enc, X.enc, eL, x0, pl0, gi]
end Go.Proofs.YtlhlijaondmccaaGreatDoor.S
namespace Go.Proofs.YtlhlijaondmccaaGreatDoor.S
open Go Go.AM Go.Proofs
def gH (o : Int) (nm : ByteArray) (rt pl e : List PV) (n : Int) (ar : List (List PV)) (ca : Cap) (bo : List (List PV)) (cb : Cap) (el : List (List PV)) (ce : Cap) (ln cl : Int) : List PV :=
 .v (.int .i64 o) :: .v (.string nm) :: (rt ++ (pl ++ (e ++ [.v (.int .i64 n), .sl ar ca, .sl bo cb, .sl el ce, .v (.int .i64 ln), .v (.int .i64 cl)])))
def y9 : List PV := z9
def y14 : List PV := [.v (.int .i64 0), str [], str []] ++ z9 ++ [.v (.int .i64 0), .v (.int .i64 0)]
def y27 : List PV := [.v (.int .i64 0)] ++ z9 ++ y14 ++ [str [], .v (.int .i64 0), .v (.int .i64 0)]
def y58 (ln cl : Int) : List PV := gH 0 (bs []) y27 y14 y9 0 [] .nil [] .nil [] .nil ln cl
theorem D0 : y9.length = 9 := by decide
theorem Ap : y14.length = 14 := by decide
theorem At : y27.length = 27 := by decide
theorem D3 : aH y9 = true := by decide
theorem Ar : aH y14 = true := by decide
theorem Au : aH y27 = true := by decide
theorem Gl : y9.all dM = true := by decide
theorem DX : y14.all dM = true := by decide
theorem DY : y27.all dM = true := by decide
theorem DZ : y9.map bW = x0.enc := by rw [X.bT]; rfl
theorem Ao : y14.map bW = pl0.enc := by rw [Pl.enc, X.bT]; rfl
theorem As : y27.map bW = rt0.enc := by rw [Rt.enc, Pl.enc, X.bT, X.bT]; rfl
theorem yR : [PV.v (.int .i64 0), .v (.string (bs [])), .v (.int .i64 0), .v (.int .i64 0), .v (.int .i64 0), .v (.int .u64 0), .v (.int .i64 0), .v (.string (bs [])), .v (.string (bs [])), .sl [] .nil, .v (.int .i64 0), .v (.int .i64 0), .v (.int .i64 0), .v (.string (bs [])), .v (.string (bs [])), .v (.int .i64 0), .v (.int .i64 0), .v (.int .u64 0), .v (.int .i64 0), .v (.string (bs [])), .v (.string (bs [])), .sl [] .nil, .v (.int .i64 0), .v (.int .i64 0), .v (.int .i64 0), .v (.int .i64 0), .v (.string (bs [])), .v (.int .i64 0), .v (.int .i64 0), .v (.int .i64 0), .v (.string (bs [])), .v (.string (bs [])), .v (.int .i64 0), .v (.int .i64 0), .v (.int .u64 0), .v (.int .i64 0), .v (.string (bs [])), .v (.string (bs [])), .sl [] .nil, .v (.int .i64 0), .v (.int .i64 0), .v (.int .i64 0), .v (.int .i64 0), .v (.int .i64 0), .v (.int .i64 0), .v (.int .u64 0), .v (.int .i64 0), .v (.string (bs [])), .v (.string (bs [])), .sl [] .nil, .v (.int .i64 0), .v (.int .i64 0), .v (.int .i64 0), .sl [] .nil, .sl [] .nil, .sl [] .nil, .v (.int .i64 0), .v (.int .i64 0)] = y58 0 0 := rfl
theorem Av (a b : Int) : bm [(0, 1), (1, 1), (2, 27), (29, 14), (43, 9), (52, 1), (53, 1), (54, 1), (55, 1), (56, 1), (57, 1)] (y58 0 0) [(9, .v (.int .i64 a)), (10, .v (.int .i64 b))] = some (.agg (gH 0 (bs []) y27 y14 y9 0 [] .nil [] .nil [] .nil a b)) := rfl
theorem Ax (a b : Int) : ((y58 0 0).set 56 (.v (.int .i64 a))).set 57 (.v (.int .i64 b)) = gH 0 (bs []) y27 y14 y9 0 [] .nil [] .nil [] .nil a b := rfl
theorem Aw (a b : Int) : (y58 a b).length = 58 := rfl
theorem xI (a b : Int) (cs : List PV) (h : cs.length = 58) : laid (y58 a b) 0 cs = cs := iA _ _ (by rw [h]; rfl)
section
variable {o : Int} {nm : ByteArray} {rt pl e : List PV} {n : Int} {ar : List (List PV)} {ca : Cap} {bo : List (List PV)} {cb : Cap} {el : List (List PV)} {ce : Cap} {ln cl : Int}
theorem xS (h1 : rt.length = 27) (h2 : pl.length = 14) (h3 : e.length = 9) : (gH o nm rt pl e n ar ca bo cb el ce ln cl).length = 58 := by simp [gH, h1, h2, h3]
theorem zl (a : Int) : (gH o nm rt pl e n ar ca bo cb el ce ln cl).set 0 (.v (.int .i64 a)) = gH a nm rt pl e n ar ca bo cb el ce ln cl := rfl
theorem zm (a : ByteArray) : (gH o nm rt pl e n ar ca bo cb el ce ln cl).set 1 (.v (.string a)) = gH o a rt pl e n ar ca bo cb el ce ln cl := rfl
theorem u5 (h1 : rt.length = 27) (h2 : pl.length = 14) (h3 : e.length = 9) (k : Nat) (v : PV) : (gH o nm rt pl e n ar ca bo cb el ce ln cl).set (52 + k) v =
 .v (.int .i64 o) :: .v (.string nm) :: (rt ++ (pl ++ (e ++ [.v (.int .i64 n), .sl ar ca, .sl bo cb, .sl el ce, .v (.int .i64 ln), .v (.int .i64 cl)].set k v))) := by
 unfold gH; rw [show 52 + k = (50 + k) + 1 + 1 by omega, List.set_cons_succ, List.set_cons_succ, List.set_append_right _ _ (by omega), List.set_append_right _ _ (by omega), List.set_append_right _ _ (by omega), show 50 + k - rt.length - pl.length - e.length = k by omega]
theorem vZ (h1 : rt.length = 27) (h2 : pl.length = 14) (h3 : e.length = 9) (a : Int) : (gH o nm rt pl e n ar ca bo cb el ce ln cl).set 52 (.v (.int .i64 a)) = gH o nm rt pl e a ar ca bo cb el ce ln cl := u5 h1 h2 h3 0 _
theorem v7 (h1 : rt.length = 27) (h2 : pl.length = 14) (h3 : e.length = 9) (a : List (List PV)) (c : Cap) : (gH o nm rt pl e n ar ca bo cb el ce ln cl).set 53 (.sl a c) = gH o nm rt pl e n a c bo cb el ce ln cl := u5 h1 h2 h3 1 _
theorem v8 (h1 : rt.length = 27) (h2 : pl.length = 14) (h3 : e.length = 9) (a : List (List PV)) (c : Cap) : (gH o nm rt pl e n ar ca bo cb el ce ln cl).set 54 (.sl a c) = gH o nm rt pl e n ar ca a c el ce ln cl := u5 h1 h2 h3 2 _
theorem we (h1 : rt.length = 27) (h2 : pl.length = 14) (h3 : e.length = 9) (a : List (List PV)) (c : Cap) : (gH o nm rt pl e n ar ca bo cb el ce ln cl).set 55 (.sl a c) = gH o nm rt pl e n ar ca bo cb a c ln cl := u5 h1 h2 h3 3 _
theorem F4 (h1 : rt.length = 27) (cs : List PV) (hc : cs.length = 27) : laid (gH o nm rt pl e n ar ca bo cb el ce ln cl) 2 cs = gH o nm cs pl e n ar ca bo cb el ce ln cl := by
 have := laidB [.v (.int .i64 o), .v (.string nm)] rt (pl ++ (e ++ [.v (.int .i64 n), .sl ar ca, .sl bo cb, .sl el ce, .v (.int .i64 ln), .v (.int .i64 cl)])) cs (by omega); simpa [gH] using this
theorem Cc (h1 : rt.length = 27) (h2 : pl.length = 14) (cs : List PV) (hc : cs.length = 14) : laid (gH o nm rt pl e n ar ca bo cb el ce ln cl) 29 cs = gH o nm rt cs e n ar ca bo cb el ce ln cl := by
 have := laidB (.v (.int .i64 o) :: .v (.string nm) :: rt) pl (e ++ [.v (.int .i64 n), .sl ar ca, .sl bo cb, .sl el ce, .v (.int .i64 ln), .v (.int .i64 cl)]) cs (by omega); simpa [gH, h1] using this
theorem Cd (h1 : rt.length = 27) (h2 : pl.length = 14) (h3 : e.length = 9) (cs : List PV) (hc : cs.length = 9) : laid (gH o nm rt pl e n ar ca bo cb el ce ln cl) 43 cs = gH o nm rt pl cs n ar ca bo cb el ce ln cl := by
 have := laidB (.v (.int .i64 o) :: .v (.string nm) :: (rt ++ pl)) e [.v (.int .i64 n), .sl ar ca, .sl bo cb, .sl el ce, .v (.int .i64 ln), .v (.int .i64 cl)] cs (by omega); simpa [gH, h1, h2] using this
theorem zn (h1 : rt.length = 27) (h2 : pl.length = 14) (h3 : e.length = 9) : (gH o nm rt pl e n ar ca bo cb el ce ln cl).take 58 = gH o nm rt pl e n ar ca bo cb el ce ln cl := List.take_of_length_le (by rw [xS h1 h2 h3]; omega)
theorem Aa : ∀ (a b : List PV), aH (a ++ b) = (aH a && aH b)
 | [], b => rfl
 | x :: a, b => by
  have := Aa a b
  cases x <;> first | exact this | rfl
theorem Ce (h1 : aH rt = true) (h2 : aH pl = true) (h3 : aH e = true) : aH (gH o nm rt pl e n ar ca bo cb el ce ln cl) = true := by
 simp [gH, aH, Aa, h1, h2, h3]
theorem F3 (h1 : rt.all dM = true) (h2 : pl.all dM = true) (h3 : e.all dM = true) : (gH o nm rt pl e n ar ca bo cb el ce ln cl).all dM = true := by
 simp only [gH, bu, List.all_append, h1, h2, h3, bV]; rfl
theorem xT : (gH o nm rt pl e n ar ca bo cb el ce ln cl).map bW = gH o nm (rt.map bW) (pl.map bW) (e.map bW) n ar .dead bo .dead el .dead ln cl := by
 simp only [gH, aW, List.map_append, bc]; rfl
theorem Cb : ai (.agg (gH o nm rt pl e n ar ca bo cb el ce ln cl)) = .agg (gH o nm (rt.map bW) (pl.map bW) (e.map bW) n ar .dead bo .dead el .dead ln cl) := by
 rw [← xT]; rfl
end
theorem S.zx (op : Int) (name : ByteArray) (r : Rt) (p : Pl) (e : X) (n : Int) (args : List X) (body els : List S) (ln cl : Int) : S.enc ⟨op, name, r, p, e, n, args, body, els, ln, cl⟩ = gH op name r.enc p.enc e.enc n (eL args) .dead (ep body) .dead (ep els) .dead ln cl := by
 simp only [S.enc, gH, List.append_assoc, aD, bh]
end Go.Proofs.YtlhlijaondmccaaGreatDoor.S
namespace Go.Proofs.YtlhlijaondmccaaGreatDoor.S
open Go Go.AM Go.Proofs
attribute [local simp] cZ cy bX bY cz eI fu dX di dV de dW dh ft bZ hZ dR ib gU gN AM.aa aN aO bf aP aw AM.onG fR bH dw Ex.ba cond_true cond_false cV cU cT cS cR cX cQ cY cW dY dj dm cx da AM.du AM.cellsOf AM.an bQ beq_true dr ag aC bj bx bU decide_true decide_false bI bn br bD bg aB aA bh aD db dc fm av bE aY bR cC dQ dT cL eB eA set_set eG dB fI dC cI bK dA cH dz cG dy eF eH fE fF bO cv eu fD dZ aZ aT aI AM.aS ai dt bW aW bc aL aK AM.part aQ aM cc cn cm cr cr.eT AM.dM bu bV eg gm aZ laid aH bm cq
attribute [-simp] ah
attribute [local congr] ej
abbrev eK (s : S) : PV := .agg s.enc
abbrev cM (xs : List S) : PV := .sl (ep xs) .dead
abbrev ga (xs : List X) : PV := .sl (eL xs) .dead
abbrev fK (t : Tok) (name : ByteArray) : PV := .agg (gH 0 name rt0.enc pl0.enc x0.enc 0 [] .dead [] .dead [] .dead t.p.1 t.p.2)
theorem Cv (n : Int) : fw Tryz.prog 34 3 (.v (.int .u64 n)) = some (.v (.int .i64 (IntKind.i64.wrap n))) := by kernel_rfl
theorem S.take (x : S) : x.enc.take 58 = x.enc := List.take_of_length_le (by rw [S.len]; omega)
structure si (ts : List Tok) (n : Nat) : Prop where
 blk : ∀ d l x, d ≤ 12 → Sfx ts l → fX n d l = some x → Rd 73 [] ts d d l cM x
 lp : ∀ d t name l x, d ≤ 12 → Sfx ts l → jI n d t name l = some x → Rd 153 [fK t name] ts d d l eK x
 st : ∀ d l x, d ≤ 12 → Sfx ts l → mm n d l = some x → Rd 124 [] ts d d l eK x
attribute [local simp] xS zl zm vZ v7 v8 we F4 Cc Cd zn Ce F3 xT Cb yR Av Ax Aw xI D0 Ap At D3 Ar Au Gl DX DY DZ Ao As X.len Pl.len Rt.len X.okc Pl.okc Rt.okc X.fl Pl.fl Rt.fl X.lC Pl.lC Rt.lC S.zx S.len S.okc S.fl S.lC S.can S.take gi qK Cv eL ep
section
variable {ts : List Tok} (hr : Row ts) {n : Nat} (ihe : nq ts n) (ih : si ts n)
include hr ih
theorem Ft (d : Nat) (t : Tok) (name : ByteArray) (l : List Tok) (x : PR S) (hd12 : d ≤ 12) (h : Sfx ts l) (hx : jI (n + 1) d t name l = some x) : Rd 153 [fK t name] ts d d l eK x := by
 simp only [jI] at hx; have h1 := ir hr h d 3
 cases x1 : eU 3 l with
 | bad e q =>
  obtain rfl := cd hx x1; obtain ⟨a', d'', eb⟩ := bN h1 x1; refine ⟨a', d'', fun b Y hb => ?_⟩; have eb := eb hb; rw [uU]; obtain ⟨N, T, Lb, hN, hT, hL⟩ := lens3 Y; rw [hN] at hb
  conv => lhs; rw [← al (Y.af false b (pc ts l d))]
  simp only [pc, pcf, aV, Tok.c, bw, ab, if_true, if_false, ae, cD, eQ, fg, eK, cM, fK] at eb ⊢
  generalize az ts = es at *
  simp (maxDischargeDepth := 8) [EJ, hN, hT, hL, hb, eb]
 | ok u1 l1 =>
  have hx := cO hx x1
  try dsimp only at hx
  have s1 := bS h1 x1; obtain ⟨y2, hy2⟩ := dP hx; rw [hy2] at hx; have h2 := ih.blk _ _ _ hd12 s1 hy2
  cases y2 with
  | bad e q =>
   obtain rfl := cd hx rfl; obtain ⟨a', d'', eb⟩ := bN h2 rfl; refine ⟨a', d'', fun b Y hb => ?_⟩; have eb := eb hb; have e1 := aX h1 x1 hb; rw [uU]; obtain ⟨N, T, Lb, hN, hT, hL⟩ := lens3 Y; rw [hN] at hb
   conv => lhs; rw [← al (Y.af false b (pc ts l d))]
   simp only [pc, pcf, aV, Tok.c, bw, ab, if_true, if_false, ae, cD, eQ, fg, eK, cM, fK] at e1 eb ⊢
   generalize az ts = es at *
   simp (maxDischargeDepth := 8) [EJ, hN, hT, hL, hb, e1, eb]
  | ok b2 l2 =>
   have hx := cO hx rfl
   try dsimp only at hx
   have s2 := bS h2 rfl; obtain rfl := Option.some.inj hx; refine ⟨s2, fun b Y hb => ?_⟩; have e1 := aX h1 x1 hb; have e2 := aX h2 rfl hb; rw [uU]; obtain ⟨N, T, Lb, hN, hT, hL⟩ := lens3 Y; rw [hN] at hb
   conv => lhs; rw [← al (Y.af false b (pc ts l d))]
   simp only [pc, pcf, aV, Tok.c, bw, ab, if_true, if_false, ae, cD, eQ, fg, eK, cM, fK] at e1 e2 ⊢
   generalize az ts = es at *
   simp (maxDischargeDepth := 8) [EJ, hN, hT, hL, hb, e1, e2]
include ihe
theorem AK (d : Nat) (l : List Tok) (x : PR S) (hd12 : d ≤ 12) (h : Sfx ts l)
 (hx : (if isT (dI l) [58] then pb (some (dJ [108, 111, 111, 112] (dI l).tail)) fun _ l1 => jI n d (hd l) (bs (hd l).text) l1
  else pb (some (dJ [61] (dI l))) fun _ l1 => pb (jw n d l1) fun r l2 => gQ (mkS (hd l) 3 (bs (hd l).text) r pl0 x0 0 [] [] []) l2) = some x) : Rd 152 [fK (hd l) (bs [])] ts d d l eK x := by
 have s0 := h.next hr
 have e151 := fun b (Y : St) hb => aE (lr hr h d (b := b)) (s := Y) hb
 cases i1 : isT (dI l) [58] with
 | true =>
  rw [if_pos i1] at hx; have s1 := s0.isT hr i1; have h2 := fe hr s1 d [108, 111, 111, 112]
  cases x2 : dJ [108, 111, 111, 112] (dI l).tail with
  | bad e q =>
   obtain rfl := cd hx x2; obtain ⟨a', d'', eb⟩ := bN h2 x2; refine ⟨a', d'', fun b Y hb => ?_⟩; have eb := eb hb; have e151 := e151 b Y hb; have e1 := aE (aG hr s0 d [58] (b := b)) (s := Y) hb; rw [mA]; obtain ⟨N, T, Lb, hN, hT, hL⟩ := lens3 Y; rw [hN] at hb
   conv => lhs; rw [← al (Y.af false b (pc ts l d))]
   simp only [pc, pcf, aV, Tok.c, bw, ab, if_true, if_false, ae, cD, eQ, fg, eK, cM, fK, i1] at e151 e1 eb ⊢
   generalize az ts = es at *
   simp (maxDischargeDepth := 8) [vR, hN, hT, hL, hb, e151, e1, eb, i1]
  | ok u2 l2 =>
   have hx := cO hx x2
   try dsimp only at hx
   have s2 := bS h2 x2; have h3 := ih.lp _ _ _ _ _ hd12 s2 hx
   cases x with
   | bad e q =>
    obtain ⟨a', d'', eb⟩ := bN h3 rfl; refine ⟨a', d'', fun b Y hb => ?_⟩; have eb := eb hb; have e151 := e151 b Y hb; have e1 := aE (aG hr s0 d [58] (b := b)) (s := Y) hb; have e2 := aX h2 x2 hb; rw [mA]; obtain ⟨N, T, Lb, hN, hT, hL⟩ := lens3 Y; rw [hN] at hb
    conv => lhs; rw [← al (Y.af false b (pc ts l d))]
    simp only [pc, pcf, aV, Tok.c, bw, ab, if_true, if_false, ae, cD, eQ, fg, eK, cM, fK, i1] at e151 e1 e2 eb ⊢
    generalize az ts = es at *
    simp (maxDischargeDepth := 8) [vR, hN, hT, hL, hb, e151, e1, e2, eb, i1]
   | ok v3 l3 =>
    refine ⟨bS h3 rfl, fun b Y hb => ?_⟩; have e151 := e151 b Y hb; have e1 := aE (aG hr s0 d [58] (b := b)) (s := Y) hb; have e2 := aX h2 x2 hb; have e3 := aX h3 rfl hb; rw [mA]; obtain ⟨N, T, Lb, hN, hT, hL⟩ := lens3 Y; rw [hN] at hb
    conv => lhs; rw [← al (Y.af false b (pc ts l d))]
    simp only [pc, pcf, aV, Tok.c, bw, ab, if_true, if_false, ae, cD, eQ, fg, eK, cM, fK, i1] at e151 e1 e2 e3 ⊢
    generalize az ts = es at *
    simp (maxDischargeDepth := 8) [vR, hN, hT, hL, hb, e151, e1, e2, e3, i1]
 | false =>
  rw [if_neg (by rw [i1]; decide)] at hx; have h4 := fe hr s0 d [61]
  cases x4 : dJ [61] (dI l) with
  | bad e q =>
   obtain rfl := cd hx x4; obtain ⟨a', d'', eb⟩ := bN h4 x4; refine ⟨a', d'', fun b Y hb => ?_⟩; have eb := eb hb; have e151 := e151 b Y hb; have e1 := aE (aG hr s0 d [58] (b := b)) (s := Y) hb; rw [mA]; obtain ⟨N, T, Lb, hN, hT, hL⟩ := lens3 Y; rw [hN] at hb
   conv => lhs; rw [← al (Y.af false b (pc ts l d))]
   simp only [pc, pcf, aV, Tok.c, bw, ab, if_true, if_false, ae, cD, eQ, fg, eK, cM, fK, i1] at e151 e1 eb ⊢
   generalize az ts = es at *
   simp (maxDischargeDepth := 8) [vR, hN, hT, hL, hb, e151, e1, eb, i1]
  | ok u4 l4 =>
   have hx := cO hx x4
   try dsimp only at hx
   have s4 := bS h4 x4; obtain ⟨y5, hy5⟩ := dP hx; rw [hy5] at hx; have h5 := qY hr ihe hd12 s4 hy5
   cases y5 with
   | bad e q =>
    obtain rfl := cd hx rfl; obtain ⟨a', d'', eb⟩ := bN h5 rfl; refine ⟨a', d'', fun b Y hb => ?_⟩; have eb := eb hb; have e151 := e151 b Y hb; have e1 := aE (aG hr s0 d [58] (b := b)) (s := Y) hb; have e4 := aX h4 x4 hb; rw [mA]; obtain ⟨N, T, Lb, hN, hT, hL⟩ := lens3 Y; rw [hN] at hb
    conv => lhs; rw [← al (Y.af false b (pc ts l d))]
    simp only [pc, pcf, aV, Tok.c, bw, ab, if_true, if_false, ae, cD, eQ, fg, eK, cM, fK, i1] at e151 e1 e4 eb ⊢
    generalize az ts = es at *
    simp (maxDischargeDepth := 8) [vR, hN, hT, hL, hb, e151, e1, e4, eb, i1]
   | ok r5 l5 =>
    have hx := cO hx rfl
    try dsimp only at hx
    have s5 := bS h5 rfl; unfold gQ at hx; have h6 := fe hr s5 d [59]
    cases x6 : dJ [59] l5 with
    | bad e q =>
     obtain rfl := cd hx x6; obtain ⟨a', d'', eb⟩ := bN h6 x6; refine ⟨a', d'', fun b Y hb => ?_⟩; have eb := eb hb; have e151 := e151 b Y hb; have e1 := aE (aG hr s0 d [58] (b := b)) (s := Y) hb; have e4 := aX h4 x4 hb; have e5 := aX h5 rfl hb; rw [mA]; obtain ⟨N, T, Lb, hN, hT, hL⟩ := lens3 Y; rw [hN] at hb
     conv => lhs; rw [← al (Y.af false b (pc ts l d))]
     simp only [pc, pcf, aV, Tok.c, bw, ab, if_true, if_false, ae, cD, eQ, fg, eK, cM, fK, i1] at e151 e1 e4 e5 eb ⊢
     generalize az ts = es at *
     simp (maxDischargeDepth := 8) [vR, hN, hT, hL, hb, e151, e1, e4, e5, eb, i1]
    | ok u6 l6 =>
     have hx := cO hx x6
     try dsimp only at hx
     have s6 := bS h6 x6; obtain rfl := Option.some.inj hx; refine ⟨s6, fun b Y hb => ?_⟩; have e151 := e151 b Y hb; have e1 := aE (aG hr s0 d [58] (b := b)) (s := Y) hb; have e4 := aX h4 x4 hb; have e5 := aX h5 rfl hb; have e6 := aX h6 x6 hb; rw [mA]; obtain ⟨N, T, Lb, hN, hT, hL⟩ := lens3 Y; rw [hN] at hb
     conv => lhs; rw [← al (Y.af false b (pc ts l d))]
     simp only [pc, pcf, aV, Tok.c, bw, ab, if_true, if_false, ae, cD, eQ, fg, eK, cM, fK, i1] at e151 e1 e4 e5 e6 ⊢
     generalize az ts = es at *
     simp (maxDischargeDepth := 8) [vR, hN, hT, hL, hb, e151, e1, e4, e5, e6, i1]
theorem AI (d : Nat) (t : Tok) (l : List Tok) (x : PR S) (hd12 : d ≤ 12) (h : Sfx ts l)
 (hx : (pb (ff n 0 d l) fun e l1 => pb (fX n d l1) fun b l2 =>
  (if isT l2 [101, 108, 115, 101] then pb (fX n d l2.tail) fun c l3 => some (.ok (mkS t 6 (bs []) rt0 pl0 e 0 [] b c) l3) else some (.ok (mkS t 6 (bs []) rt0 pl0 e 0 [] b []) l2))) = some x) : Rd 154 [fK t (bs [])] ts d d l eK x := by
 obtain ⟨y1, hy1⟩ := dP hx; rw [hy1] at hx; have h1 := lj hr ihe hd12 h hy1
 cases y1 with
 | bad e q =>
  obtain rfl := cd hx rfl; obtain ⟨a', d'', eb⟩ := bN h1 rfl; refine ⟨a', d'', fun b Y hb => ?_⟩; have eb := eb hb; rw [pt]; obtain ⟨N, T, Lb, hN, hT, hL⟩ := lens3 Y; rw [hN] at hb
  conv => lhs; rw [← al (Y.af false b (pc ts l d))]
  simp only [pc, pcf, aV, Tok.c, bw, ab, if_true, if_false, ae, cD, eQ, fg, eK, cM, fK] at eb ⊢
  generalize az ts = es at *
  simp (maxDischargeDepth := 8) [Az, hN, hT, hL, hb, eb]
 | ok x1 l1 =>
  have hx := cO hx rfl
  try dsimp only at hx
  have s1 := bS h1 rfl; obtain ⟨y2, hy2⟩ := dP hx; rw [hy2] at hx; have h2 := ih.blk _ _ _ hd12 s1 hy2
  cases y2 with
  | bad e q =>
   obtain rfl := cd hx rfl; obtain ⟨a', d'', eb⟩ := bN h2 rfl; refine ⟨a', d'', fun b Y hb => ?_⟩; have eb := eb hb; have e1 := aX h1 rfl hb; rw [pt]; obtain ⟨N, T, Lb, hN, hT, hL⟩ := lens3 Y; rw [hN] at hb
   conv => lhs; rw [← al (Y.af false b (pc ts l d))]
   simp only [pc, pcf, aV, Tok.c, bw, ab, if_true, if_false, ae, cD, eQ, fg, eK, cM, fK] at e1 eb ⊢
   generalize az ts = es at *
   simp (maxDischargeDepth := 8) [Az, hN, hT, hL, hb, e1, eb]
  | ok b2 l2 =>
   have hx := cO hx rfl
   try dsimp only at hx
   have s2 := bS h2 rfl
   cases i3 : isT l2 [101, 108, 115, 101] with
   | true =>
    rw [if_pos i3] at hx; have s3 := s2.isT hr i3; obtain ⟨y4, hy4⟩ := dP hx; rw [hy4] at hx; have h4 := ih.blk _ _ _ hd12 s3 hy4
    cases y4 with
    | bad e q =>
     obtain rfl := cd hx rfl; obtain ⟨a', d'', eb⟩ := bN h4 rfl; refine ⟨a', d'', fun b Y hb => ?_⟩; have eb := eb hb; have e1 := aX h1 rfl hb; have e2 := aX h2 rfl hb; have e3 := aE (aG hr s2 d [101, 108, 115, 101] (b := b)) (s := Y) hb; rw [pt]; obtain ⟨N, T, Lb, hN, hT, hL⟩ := lens3 Y; rw [hN] at hb
     conv => lhs; rw [← al (Y.af false b (pc ts l d))]
     simp only [pc, pcf, aV, Tok.c, bw, ab, if_true, if_false, ae, cD, eQ, fg, eK, cM, fK, i3] at e1 e2 e3 eb ⊢
     generalize az ts = es at *
     simp (maxDischargeDepth := 8) [Az, hN, hT, hL, hb, e1, e2, e3, eb, i3]
    | ok b4 l4 =>
     have hx := cO hx rfl
     try dsimp only at hx
     have s4 := bS h4 rfl; obtain rfl := Option.some.inj hx; refine ⟨s4, fun b Y hb => ?_⟩; have e1 := aX h1 rfl hb; have e2 := aX h2 rfl hb; have e3 := aE (aG hr s2 d [101, 108, 115, 101] (b := b)) (s := Y) hb; have e4 := aX h4 rfl hb; rw [pt]; obtain ⟨N, T, Lb, hN, hT, hL⟩ := lens3 Y; rw [hN] at hb
     conv => lhs; rw [← al (Y.af false b (pc ts l d))]
     simp only [pc, pcf, aV, Tok.c, bw, ab, if_true, if_false, ae, cD, eQ, fg, eK, cM, fK, i3] at e1 e2 e3 e4 ⊢
     generalize az ts = es at *
     simp (maxDischargeDepth := 8) [Az, hN, hT, hL, hb, e1, e2, e3, e4, i3]
   | false =>
    rw [if_neg (by rw [i3]; decide)] at hx; obtain rfl := Option.some.inj hx; refine ⟨s2, fun b Y hb => ?_⟩; have e1 := aX h1 rfl hb; have e2 := aX h2 rfl hb; have e3 := aE (aG hr s2 d [101, 108, 115, 101] (b := b)) (s := Y) hb; rw [pt]; obtain ⟨N, T, Lb, hN, hT, hL⟩ := lens3 Y; rw [hN] at hb
    conv => lhs; rw [← al (Y.af false b (pc ts l d))]
    simp only [pc, pcf, aV, Tok.c, bw, ab, if_true, if_false, ae, cD, eQ, fg, eK, cM, fK, i3] at e1 e2 e3 ⊢
    generalize az ts = es at *
    simp (maxDischargeDepth := 8) [Az, hN, hT, hL, hb, e1, e2, e3, i3]
end
end Go.Proofs.YtlhlijaondmccaaGreatDoor.S
namespace Go.Proofs.YtlhlijaondmccaaGreatDoor.S
open Go Go.AM Go.Proofs
def ig (T : Nat) (tk : List (Nat × Nat)) (c : Cap) (n sz : Nat) : Prop := (c = .nil ∨ c = .full) ∨ ∃ j, c = .own .fr (T + j) n ∧ tk[j]? = some (n, sz)
theorem ig.grow {T : Nat} {tk : List (Nat × Nat)} {c : Cap} {sz bytes : Nat} {es ys : List (List PV)} (h : ig T tk c es.length sz) {b : Nat} {cs : List PV} {Y : St} (hT : Y.tk.length = T)
 (h1 : (es.length + ys.length) * bytes ≤ cu) (h2 : dr sz es = true) (h3 : dr sz ys = true) (h4 : sz ≠ 0) (h5 : bytes ≠ 0) :
 ∃ c' tk', (∀ (bl : List Blk) (lp : List Aux) (base : Nat) (z : List PV), cj base z sz bytes (.sl es c) ys ((Y.af false b cs).app bl tk lp) = some (.sl (es ++ ys) c', (Y.af false b cs).app bl tk' lp)) ∧ ig T tk' c' (es ++ ys).length sz := by
 subst hT; exact fj (s := Y.af false b cs) h h1 h2 h3 h4 h5
theorem Gb {sz : Nat} {z cs cs' : List PV} (hz : z.length = sz) (hc : cs.length = sz) (hp : cw cs = some cs') (hc' : cs'.length = sz) : aF sz z 1 [(0, .agg cs)] = some (.sl [cs'] .full) := by
 have h1 : laid (fZ 1 z) 0 cs = cs := by
  have := laidB [] z [] cs (by omega); simpa [fZ] using this
 have h2 : dL (0 + sz) (fZ 1 z).length = true := by simp [fZ, hz]
 have h3 : ak cs.length sz = true := by rw [hc]; exact Nat.beq_refl _
 simp only [aF, iP, cq, AM.cellsOf, h3, Nat.zero_mul, h2, br, cond_true, h1, ah, hp, chunks]; rw [List.take_of_length_le (by omega)]
theorem zy (l : List X) : dr 9 (eL l) = true := by rw [nG]; exact jJ _ X.len l
theorem CA (a b : List X) : eL (a ++ b) = eL a ++ eL b := by simp only [nG, List.map_append]
theorem xn (l : List S) : dr 58 (ep l) = true := by rw [mi]; exact jJ _ S.len l
theorem Bt (a b : List S) : ep (a ++ b) = ep a ++ ep b := by simp only [mi, List.map_append]
attribute [local simp] cZ cy bX bY cz eI fu dX di dV de dW dh ft bZ hZ dR ib gU gN AM.aa aN aO bf aP aw AM.onG fR bH dw Ex.ba cond_true cond_false cV cU cT cS cR cX cQ cY cW dY dj dm cx da AM.du AM.cellsOf AM.an bQ beq_true dr ag aC bj bx bU decide_true decide_false bI bn br bD bg aB aA bh aD db dc fm av bE aY bR cC dQ dT cL eB eA set_set eG dB fI dC cI bK dA cH dz cG dy eF eH fE fF bO cv eu fD dZ aZ aT aI AM.aS ai dt bW aW bc aL aK AM.part aQ aM cc cn cm cr cr.eT AM.dM bu bV eg gm aZ laid aH bm cq
attribute [-simp] ah
attribute [local congr] ej
def HO (ts : List Tok) (d : Nat) (acc : List X) (l : List Tok) (x : PR (List X)) : Prop := match x with
 | .ok xs l' => Sfx ts l' ∧ ∀ b (Y : St), b < Y.stk.length → ∀ N T Lb, Y.stk.length = N → Y.tk.length = T → Y.lp.length = Lb → ∀ c tk q, ig T tk c acc.length 9 → ∃ c' tk',
  itE (pv.b0 (E L) itE N Lb) [.ptr false b 0, q, .sl (eL acc) c] ((Y.af false b (pc ts l d)).app [] tk []) = some (.ret, [.ptr false b 0, .sl (eL xs) c', .sl (eL xs) c'], (Y.af false b (pc ts l' d)).app [] tk' [])
 | .bad er p => ∃ a' d'', ∀ b (Y : St), b < Y.stk.length → ∀ N T Lb, Y.stk.length = N → Y.tk.length = T → Y.lp.length = Lb → ∀ c tk q, ig T tk c acc.length 9 → ∃ y z tk',
  itE (pv.b0 (E L) itE N Lb) [.ptr false b 0, q, .sl (eL acc) c] ((Y.af false b (pc ts l d)).app [] tk []) = some (.pan 108 (.agg #[]), [.ptr false b 0, y, z], (Y.af false b (pcf (az ts) a' d'' er p.1 p.2)).app [] tk' [])
section
variable {ts : List Tok} (hr : Row ts) {m : Nat} (ihe : nq ts m)
include hr ihe
theorem xR {d : Nat} (hd12 : d ≤ 12) : ∀ n acc l x, acc.length + n ≤ 1000000 → Sfx ts l → lN n m d acc l = some x → HO ts d acc l x := by
 intro n
 induction n with
 | zero => intro acc l x _ _ hx; simp [lN] at hx
 | succ n ih =>
  intro acc l x hac h hx; simp only [lN] at hx; obtain ⟨y, hy⟩ := dP hx; rw [hy] at hx; have h1 := lj hr ihe hd12 h hy
  cases y with
  | bad er q =>
   obtain rfl := cd hx rfl; obtain ⟨a', d'', e1⟩ := bN h1 rfl; refine ⟨a', d'', fun b Y hb N T Lb hN hT hL c tk q ho => ⟨q, .sl (eL acc) c, tk, ?_⟩⟩; have e1 := e1 hb; simp only [pc, pcf] at e1 ⊢
   generalize az ts = es at *
   apply jk; simp [pv.b0, hN, hT, hL, hb, e1]
  | ok e l1 =>
   have hx := cO hx rfl
   try dsimp only at hx
   have s1 := bS h1 rfl
   have own : ∀ (b : Nat) (Y : St) (T : Nat), Y.tk.length = T → ∀ c tk, ig T tk c acc.length 9 → ∃ c' tk', (∀ (bl : List Blk) (lp : List Aux) (base : Nat) (z : List PV), cj base z 9 104 (.sl (eL acc) c) [e.enc] ((Y.af false b (pc ts l1 d)).app bl tk lp) = some (.sl (eL (acc ++ [e])) c', (Y.af false b (pc ts l1 d)).app bl tk' lp)) ∧ ig T tk' c' (acc ++ [e]).length 9 := by
    intro b Y T hT c tk ho; rw [← iy] at ho; have := ho.grow (ys := [e.enc]) (bytes := 104) (b := b) (cs := pc ts l1 d) hT (by rw [iy, bC]; unfold cu; omega) (zy _) (by simpa [eL] using zy [e]) (by omega) (by omega); simpa [CA, eL, iy] using this
   have hl := Gb (sz := 9) (z := z9) rfl (X.len e) (X.pl e) (X.len e)
   cases i2 : isT l1 [41] with
   | true =>
    rw [if_pos i2] at hx; obtain rfl := Option.some.inj hx; refine ⟨s1.isT hr i2, fun b Y hb N T Lb hN hT hL c tk q ho => ?_⟩; obtain ⟨c', tk', ea, _⟩ := own b Y T hT c tk ho; refine ⟨c', tk', ?_⟩; have e1 := aX h1 rfl hb; have e2 := aE (aG hr s1 d [41] (b := b)) (s := Y) hb; simp only [pc, pcf, cD, i2, if_true] at e1 e2 ea ⊢
    generalize az ts = es at *
    apply eE; simp [pv.b0, hN, hT, hL, hb, e1, e2, hl, bM, ea, i2]
   | false =>
    rw [if_neg (by rw [i2]; decide)] at hx; have h3 := fe hr s1 d [44]
    cases x3 : dJ [44] l1 with
    | bad er q =>
     obtain rfl := cd hx x3; obtain ⟨a', d'', eb⟩ := bN h3 x3; refine ⟨a', d'', fun b Y hb N T Lb hN hT hL c tk q ho => ?_⟩; obtain ⟨c', tk', ea, _⟩ := own b Y T hT c tk ho; refine ⟨q, .sl (eL (acc ++ [e])) c', tk', ?_⟩; have e1 := aX h1 rfl hb; have e2 := aE (aG hr s1 d [41] (b := b)) (s := Y) hb; have eb := eb hb; simp only [pc, pcf, cD, aV, i2, if_false, ae] at e1 e2 ea eb ⊢
     generalize az ts = es at *
     apply jk; simp [pv.b0, hN, hT, hL, hb, e1, e2, hl, bM, ea, eb, i2]
    | ok u l3 =>
     have hx := cO hx x3
     try dsimp only at hx
     have s3 := bS h3 x3; have h4 := ih (acc ++ [e]) l3 x (by simp only [ay, bC]; omega) s3 hx
     have stp : ∀ b (Y : St), b < Y.stk.length → ∀ N T Lb, Y.stk.length = N → Y.tk.length = T → Y.lp.length = Lb → ∀ c tk q, ig T tk c acc.length 9 → ∃ c' tk', ig T tk' c' (acc ++ [e]).length 9 ∧
      pv.b0 (E L) itE N Lb [.ptr false b 0, q, .sl (eL acc) c] ((Y.af false b (pc ts l d)).app [] tk []) = some (.normal, [.ptr false b 0, q, .sl (eL (acc ++ [e])) c'], (Y.af false b (pc ts l3 d)).app [] tk' []) := by
      intro b Y hb N T Lb hN hT hL c tk q ho; obtain ⟨c', tk', ea, ho'⟩ := own b Y T hT c tk ho; refine ⟨c', tk', ho', ?_⟩; have e1 := aX h1 rfl hb; have e2 := aE (aG hr s1 d [41] (b := b)) (s := Y) hb; have e3 := aX h3 x3 hb; simp only [pc, pcf, cD, aV, i2, if_false, ae] at e1 e2 e3 ea ⊢
      generalize az ts = es at *
      simp [pv.b0, hN, hT, hL, hb, e1, e2, e3, hl, bM, ea, i2]
     cases x with
     | ok xs l' =>
      refine ⟨h4.1, fun b Y hb N T Lb hN hT hL c tk q ho => ?_⟩; obtain ⟨c1, tk1, ho1, hs⟩ := stp b Y hb N T Lb hN hT hL c tk q ho; obtain ⟨c', tk', hit⟩ := h4.2 b Y hb N T Lb hN hT hL c1 tk1 q ho1; exact ⟨c', tk', (bP hs).trans hit⟩
     | bad er p =>
      obtain ⟨a', d'', h4⟩ := h4; refine ⟨a', d'', fun b Y hb N T Lb hN hT hL c tk q ho => ?_⟩; obtain ⟨c1, tk1, ho1, hs⟩ := stp b Y hb N T Lb hN hT hL c tk q ho; obtain ⟨y, z, tk', hit⟩ := h4 b Y hb N T Lb hN hT hL c1 tk1 q ho1; exact ⟨y, z, tk', (bP hs).trans hit⟩
theorem ES {d : Nat} {l : List Tok} {x : PR (List X)} (hd12 : d ≤ 12) (hm : m ≤ 1000000) (h : Sfx ts l) (hx : sn m d l = some x) : Rd 159 [] ts d d l ga x := by
 unfold sn at hx; have h1 := fe hr h d [40]
 cases x1 : dJ [40] l with
 | bad e q =>
  obtain rfl := cd hx x1; obtain ⟨a', d'', eb⟩ := bN h1 x1; refine ⟨a', d'', fun b Y hb => ?_⟩; have eb := eb hb; rw [rR]; obtain ⟨N, T, Lb, hN, hT, hL⟩ := lens3 Y; rw [hN] at hb
  conv => lhs; rw [← al (Y.af false b (pc ts l d))]
  simp only [pc, pcf, aV] at eb ⊢
  generalize az ts = es at *
  simp [pv, hN, hT, hL, hb, eb]
 | ok u l1 =>
  have hx := cO hx x1
  try dsimp only at hx
  have s1 := bS h1 x1
  cases i2 : isT l1 [41] with
  | true =>
   rw [if_pos i2] at hx; obtain rfl := Option.some.inj hx; refine ⟨s1.isT hr i2, fun b Y hb => ?_⟩; have e1 := aX h1 x1 hb; have e2 := aE (aG hr s1 d [41] (b := b)) (s := Y) hb; rw [rR]; obtain ⟨N, T, Lb, hN, hT, hL⟩ := lens3 Y; rw [hN] at hb
   conv => lhs; rw [← al (Y.af false b (pc ts l d))]
   simp only [pc, pcf, aV, i2, if_true] at e1 e2 ⊢
   generalize az ts = es at *
   simp [pv, hN, hT, hL, hb, e1, e2, i2, eL]
  | false =>
   rw [if_neg (by rw [i2]; decide)] at hx; have h3 := xR hr ihe hd12 m [] l1 x (by simpa using hm) s1 hx
   cases x with
   | bad er q =>
    obtain ⟨a', d'', h3⟩ := h3; refine ⟨a', d'', fun b Y hb => ?_⟩; have e1 := aX h1 x1 hb; have e2 := aE (aG hr s1 d [41] (b := b)) (s := Y) hb; obtain ⟨y, z, tk', hit⟩ := h3 b Y hb _ _ _ rfl rfl rfl .nil [] (.sl [] .nil) (.inl (.inl rfl)); rw [rR]; obtain ⟨N, T, Lb, hN, hT, hL⟩ := lens3 Y; rw [hN] at hb; rw [hN] at hit
    conv => lhs; rw [← al (Y.af false b (pc ts l d))]
    rw [hL] at hit; simp only [pc, pcf, aV, eL, i2, if_false, ae] at e1 e2 hit ⊢
    generalize az ts = es at *
    simp [pv, hN, hT, hL, hb, e1, e2, i2, hit, Ex.ba]
   | ok xs l3 =>
    refine ⟨h3.1, fun b Y hb => ?_⟩; have e1 := aX h1 x1 hb; have e2 := aE (aG hr s1 d [41] (b := b)) (s := Y) hb; obtain ⟨c', tk', hit⟩ := h3.2 b Y hb _ _ _ rfl rfl rfl .nil [] (.sl [] .nil) (.inl (.inl rfl)); rw [rR]; obtain ⟨N, T, Lb, hN, hT, hL⟩ := lens3 Y; rw [hN] at hb; rw [hN] at hit
    conv => lhs; rw [← al (Y.af false b (pc ts l d))]
    rw [hL] at hit; simp only [pc, pcf, aV, eL, i2, if_false, ae] at e1 e2 hit ⊢
    generalize az ts = es at *
    simp [pv, hN, hT, hL, hb, e1, e2, i2, hit, Ex.ba]
end
end Go.Proofs.YtlhlijaondmccaaGreatDoor.S
namespace Go.Proofs.YtlhlijaondmccaaGreatDoor.S
open Go Go.AM Go.Proofs
attribute [local simp] cZ cy bX bY cz eI fu dX di dV de dW dh ft bZ hZ dR ib gU gN AM.aa aN aO bf aP aw AM.onG fR bH dw Ex.ba cond_true cond_false cV cU cT cS cR cX cQ cY cW dY dj dm cx da AM.du AM.cellsOf AM.an bQ beq_true dr ag aC bj bx bU decide_true decide_false bI bn br bD bg aB aA bh aD db dc fm av bE aY bR cC dQ dT cL eB eA set_set eG dB fI dC cI bK dA cH dz cG dy eF eH fE fF bO cv eu fD dZ aZ aT aI AM.aS ai dt bW aW bc aL aK AM.part aQ aM cc cn cm cr cr.eT AM.dM bu bV eg gm aZ laid aH bm cq
attribute [-simp] ah
attribute [local congr] ej
def El (ts : List Tok) (d : Nat) (acc : List S) (l : List Tok) (x : PR (List S)) : Prop := match x with
 | .ok xs l' => Sfx ts l' ∧ ∀ b (Y : St), b < Y.stk.length → ∀ N T Lb, Y.stk.length = N → Y.tk.length = T → Y.lp.length = Lb → ∀ c tk, ig T tk c acc.length 58 → ∃ c' tk',
  itE (S73.b0 (E L) itE N Lb) [.ptr false b 0, .sl (ep acc) c] ((Y.af false b (pc ts l d)).app [] tk []) = some (.exit 0, [.ptr false b 0, .sl (ep xs) c'], (Y.af false b (pc ts l' d)).app [] tk' [])
 | .bad er p => ∃ a' d'', ∀ b (Y : St), b < Y.stk.length → ∀ N T Lb, Y.stk.length = N → Y.tk.length = T → Y.lp.length = Lb → ∀ c tk, ig T tk c acc.length 58 → ∃ z tk',
  itE (S73.b0 (E L) itE N Lb) [.ptr false b 0, .sl (ep acc) c] ((Y.af false b (pc ts l d)).app [] tk []) = some (.pan 108 (.agg #[]), [.ptr false b 0, z], (Y.af false b (pcf (az ts) a' d'' er p.1 p.2)).app [] tk' [])
section
variable {ts : List Tok} (hr : Row ts) {n : Nat} (ih : si ts n)
include hr ih
theorem Hz (ihr : ∀ d acc l x, d ≤ 12 → acc.length + n ≤ 1000000 → Sfx ts l → oH n d acc l = some x → El ts d acc l x) :
 ∀ d acc l x, d ≤ 12 → acc.length + (n + 1) ≤ 1000000 → Sfx ts l → oH (n + 1) d acc l = some x → El ts d acc l x := by
 intro d acc l x hd12 hac h hx; simp only [oH] at hx
 cases i1 : isT l [125] with
 | true =>
  rw [if_pos i1] at hx; obtain rfl := Option.some.inj hx; refine ⟨h.isT hr i1, fun b Y hb N T Lb hN hT hL c tk ho => ⟨c, tk, ?_⟩⟩; have e1 := aE (aG hr h d [125] (b := b)) (s := Y) hb; simp only [pc, pcf, i1, if_true] at e1 ⊢
  generalize az ts = es at *
  apply fk; simp [S73.b0, hN, hT, hL, hb, e1, i1]
 | false =>
  rw [if_neg (by rw [i1]; decide)] at hx; obtain ⟨y, hy⟩ := dP hx; rw [hy] at hx; have h2 := ih.st d l y hd12 h hy
  cases y with
  | bad er q =>
   obtain rfl := cd hx rfl; obtain ⟨a', d'', eb⟩ := bN h2 rfl; refine ⟨a', d'', fun b Y hb N T Lb hN hT hL c tk ho => ⟨.sl (ep acc) c, tk, ?_⟩⟩; have e1 := aE (aG hr h d [125] (b := b)) (s := Y) hb; have eb := eb hb; simp only [pc, pcf, eK, i1, if_false, ae] at e1 eb ⊢
   generalize az ts = es at *
   apply jk; simp [S73.b0, hN, hT, hL, hb, e1, eb, i1]
  | ok s l1 =>
   have hx := cO hx rfl
   try dsimp only at hx
   have s1 := bS h2 rfl
   have own : ∀ (b : Nat) (Y : St) (T : Nat), Y.tk.length = T → ∀ c tk, ig T tk c acc.length 58 → ∃ c' tk', (∀ (bl : List Blk) (lp : List Aux) (base : Nat) (z : List PV), cj base z 58 688 (.sl (ep acc) c) [s.enc] ((Y.af false b (pc ts l1 d)).app bl tk lp) = some (.sl (ep (acc ++ [s])) c', (Y.af false b (pc ts l1 d)).app bl tk' lp)) ∧ ig T tk' c' (acc ++ [s]).length 58 := by
    intro b Y T hT c tk ho; rw [← jq] at ho; have := ho.grow (ys := [s.enc]) (bytes := 688) (b := b) (cs := pc ts l1 d) hT (by rw [jq, bC]; unfold cu; omega) (xn _) (by simpa [ep] using xn [s]) (by omega) (by omega); simpa [Bt, ep, jq] using this
   have hl := Gb (sz := 58) (z := y58 0 0) rfl (S.len s) (S.pl s) (S.len s); have h4 := ihr d (acc ++ [s]) l1 x hd12 (by simp only [ay, bC]; omega) s1 hx
   have stp : ∀ b (Y : St), b < Y.stk.length → ∀ N T Lb, Y.stk.length = N → Y.tk.length = T → Y.lp.length = Lb → ∀ c tk, ig T tk c acc.length 58 → ∃ c' tk', ig T tk' c' (acc ++ [s]).length 58 ∧
    S73.b0 (E L) itE N Lb [.ptr false b 0, .sl (ep acc) c] ((Y.af false b (pc ts l d)).app [] tk []) = some (.normal, [.ptr false b 0, .sl (ep (acc ++ [s])) c'], (Y.af false b (pc ts l1 d)).app [] tk' []) := by
    intro b Y hb N T Lb hN hT hL c tk ho; obtain ⟨c', tk', ea, ho'⟩ := own b Y T hT c tk ho; refine ⟨c', tk', ho', ?_⟩; have e1 := aE (aG hr h d [125] (b := b)) (s := Y) hb; have e2 := aX h2 rfl hb; simp only [pc, pcf, eK, i1, if_false, ae] at e1 e2 ea ⊢
    generalize az ts = es at *
    simp [S73.b0, hN, hT, hL, hb, e1, e2, yR, hl, bM, ea, i1]
   cases x with
   | ok xs l' =>
    refine ⟨h4.1, fun b Y hb N T Lb hN hT hL c tk ho => ?_⟩; obtain ⟨c1, tk1, ho1, hs⟩ := stp b Y hb N T Lb hN hT hL c tk ho; obtain ⟨c', tk', hit⟩ := h4.2 b Y hb N T Lb hN hT hL c1 tk1 ho1; exact ⟨c', tk', (bP hs).trans hit⟩
   | bad er p =>
    obtain ⟨a', d'', h4⟩ := h4; refine ⟨a', d'', fun b Y hb N T Lb hN hT hL c tk ho => ?_⟩; obtain ⟨c1, tk1, ho1, hs⟩ := stp b Y hb N T Lb hN hT hL c tk ho; obtain ⟨z, tk', hit⟩ := h4 b Y hb N T Lb hN hT hL c1 tk1 ho1; exact ⟨z, tk', (bP hs).trans hit⟩
end
theorem Cp {ts : List Tok} (hr : Row ts) {n : Nat} (hn : n ≤ 1000000) (ihr : ∀ d acc l x, d ≤ 12 → acc.length + n ≤ 1000000 → Sfx ts l → oH n d acc l = some x → El ts d acc l x) :
 ∀ d l x, d ≤ 12 → Sfx ts l → fX (n + 1) d l = some x → Rd 73 [] ts d d l cM x := by
 intro d l x hd12 h hx; simp only [fX] at hx; have h1 := fe hr h d [123]
 cases x1 : dJ [123] l with
 | bad e q =>
  obtain rfl := cd hx x1; obtain ⟨a', d'', eb⟩ := bN h1 x1; refine ⟨a', d'', fun b Y hb => ?_⟩; have eb := eb hb; rw [uX]; obtain ⟨N, T, Lb, hN, hT, hL⟩ := lens3 Y; rw [hN] at hb
  conv => lhs; rw [← al (Y.af false b (pc ts l d))]
  simp only [pc, pcf, aV] at eb ⊢
  generalize az ts = es at *
  simp [S73, hN, hT, hL, hb, eb]
 | ok t l1 =>
  have hx := cO hx x1
  try dsimp only at hx
  have s1 := bS h1 x1; have h2 := vh s1 d t (by omega); unfold pL at hx
  by_cases hdd : 12 < d + 1
  · rw [if_pos hdd] at hx h2
    obtain rfl := Option.some.inj hx; obtain ⟨a', d'', eb⟩ := bN h2 rfl; refine ⟨a', d'', fun b Y hb => ?_⟩; have e1 := aX h1 x1 hb; have eb := eb hb; rw [uX]; obtain ⟨N, T, Lb, hN, hT, hL⟩ := lens3 Y; rw [hN] at hb
    conv => lhs; rw [← al (Y.af false b (pc ts l d))]
    simp only [pc, pcf, aV, Tok.c, bw] at e1 eb ⊢
    generalize az ts = es at *
    simp [S73, hN, hT, hL, hb, e1, eb]
  · rw [if_neg hdd] at hx h2
    have h3 := ihr (d + 1) [] l1 x (by omega) (by simpa using hn) s1 hx
    have w1 : IntKind.i64.wrap (((d + 1 : Nat) : Int) - 1) = (d : Int) := by rw [IntWalk.i64_in _ (by omega)]; omega
    cases x with
    | bad er q =>
     obtain ⟨a', d'', h3⟩ := h3; refine ⟨a', d'', fun b Y hb => ?_⟩; have e1 := aX h1 x1 hb; have e2 := aX h2 rfl hb; obtain ⟨z, tk', hit⟩ := h3 b Y hb _ _ _ rfl rfl rfl .nil [] (.inl (.inl rfl)); rw [uX]; obtain ⟨N, T, Lb, hN, hT, hL⟩ := lens3 Y; rw [hN] at hb; rw [hN] at hit
     conv => lhs; rw [← al (Y.af false b (pc ts l d))]
     rw [hL] at hit; simp only [pc, pcf, aV, Tok.c, bw, ep] at e1 e2 hit ⊢
     generalize ((d + 1 : Nat) : Int) = d1 at *
     generalize az ts = es at *
     simp [S73, hN, hT, hL, hb, e1, e2, hit, Ex.ba]
    | ok xs l3 =>
     refine ⟨h3.1, fun b Y hb => ?_⟩; have e1 := aX h1 x1 hb; have e2 := aX h2 rfl hb; obtain ⟨c', tk', hit⟩ := h3.2 b Y hb _ _ _ rfl rfl rfl .nil [] (.inl (.inl rfl)); rw [uX]; obtain ⟨N, T, Lb, hN, hT, hL⟩ := lens3 Y; rw [hN] at hb; rw [hN] at hit
     conv => lhs; rw [← al (Y.af false b (pc ts l d))]
     rw [hL] at hit; simp only [pc, pcf, aV, Tok.c, bw, ep] at e1 e2 hit ⊢
     generalize ((d + 1 : Nat) : Int) = d1 at *
     generalize az ts = es at *
     simp [S73, hN, hT, hL, hb, e1, e2, hit, w1, Ex.ba]
end Go.Proofs.YtlhlijaondmccaaGreatDoor.S
namespace Go.Proofs.YtlhlijaondmccaaGreatDoor.S
open Go Go.AM Go.Proofs
attribute [local simp] cZ cy bX bY cz eI fu dX di dV de dW dh ft bZ hZ dR ib gU gN AM.aa aN aO bf aP aw AM.onG fR bH dw Ex.ba cond_true cond_false cV cU cT cS cR cX cQ cY cW dY dj dm cx da AM.du AM.cellsOf AM.an bQ beq_true dr ag aC bj bx bU decide_true decide_false bI bn br bD bg aB aA bh aD db dc fm av bE aY bR cC dQ dT cL eB eA set_set eG dB fI dC cI bK dA cH dz cG dy eF eH fE fF bO cv eu fD dZ aZ aT aI AM.aS ai dt bW aW bc aL aK AM.part aQ aM cc cn cm cr cr.eT AM.dM bu bV eg gm aZ laid aH bm cq
attribute [-simp] ah
attribute [local congr] ej
attribute [local simp] xS zl zm vZ v7 v8 we F4 Cc Cd zn Ce F3 xT Cb yR Av Ax Aw xI D0 Ap At D3 Ar Au Gl DX DY DZ Ao As X.len Pl.len Rt.len X.okc Pl.okc Rt.okc X.fl Pl.fl Rt.fl X.lC Pl.lC Rt.lC S.zx S.len S.okc S.fl S.lC S.can S.take gi qK Cv eL ep
theorem pY {l : List Tok} {s : List UInt8} (h : isT l s = true) : (hd l).text = s := by
 unfold isT at h; simp only [aq, decide_eq_true_eq] at h; exact h.2
theorem Sfx.label {ts l : List Tok} (hr : Row ts) (h : Sfx ts l) : Sfx ts (gj l).2 := by
 unfold gj; split
 · exact h.next hr
 · exact h
section
variable {ts : List Tok} (hr : Row ts) {n : Nat} (hn : n ≤ 1000000) (ihe : nq ts n) (ih : si ts n)
include hr hn ihe ih
theorem BF {d : Nat} {l : List Tok} {x : PR S} (hd12 : d ≤ 12) (h : Sfx ts l) (k1 : (hd l).kind = 1) (hx : (if isT (dI l) [58] then pb (some (dJ [108, 111, 111, 112] (dI l).tail)) fun _ l1 => jI n d (hd l) (bs (hd l).text) l1
 else pb (some (dJ [61] (dI l))) fun _ l1 => pb (jw n d l1) fun r l2 => gQ (mkS (hd l) 3 (bs (hd l).text) r pl0 x0 0 [] [] []) l2) = some x) : Rd 124 [] ts d d l eK x := by
 have e67 := fun b (Y : St) hb => aE (ef h d 0 0 0 (b := b)) (s := Y) hb
 have h1 := AK hr ihe ih d l x hd12 h hx
 cases x with
 | bad e q =>
  obtain ⟨a', d'', eb⟩ := bN h1 rfl; refine ⟨a', d'', fun b Y hb => ?_⟩; have eb := eb hb; have e67 := e67 b Y hb; rw [dE]; obtain ⟨N, T, Lb, hN, hT, hL⟩ := lens3 Y; rw [hN] at hb
  conv => lhs; rw [← al (Y.af false b (pc ts l d))]
  simp only [pc, pcf, aV, Tok.c, bw, ab, if_true, if_false, ae, cD, eQ, fg, eK, cM, fK, k1] at e67 eb ⊢
  generalize az ts = es at *
  simp (maxDischargeDepth := 8) [iw, hN, hT, hL, hb, e67, eb, k1]
 | ok v1 l1 =>
  refine ⟨bS h1 rfl, fun b Y hb => ?_⟩; have e67 := e67 b Y hb; have e1 := aX h1 rfl hb; rw [dE]; obtain ⟨N, T, Lb, hN, hT, hL⟩ := lens3 Y; rw [hN] at hb
  conv => lhs; rw [← al (Y.af false b (pc ts l d))]
  simp only [pc, pcf, aV, Tok.c, bw, ab, if_true, if_false, ae, cD, eQ, fg, eK, cM, fK, k1] at e67 e1 ⊢
  generalize az ts = es at *
  simp (maxDischargeDepth := 8) [iw, hN, hT, hL, hb, e67, e1, k1]
theorem BE {d : Nat} {l : List Tok} {x : PR S} (hd12 : d ≤ 12) (h : Sfx ts l) (k1 : (hd l).kind ≠ 1)  (pk : isT l [108, 111, 111, 112] = true) (hx : jI n d (hd l) (bs []) l.tail = some x) : Rd 124 [] ts d d l eK x := by
 have e67 := fun b (Y : St) hb => aE (ef h d 0 0 0 (b := b)) (s := Y) hb
 have g0 := fun b (Y : St) hb => aE (aG hr h d [108, 111, 111, 112] (b := b)) (s := Y) hb
 have k1' : ¬ (((hd l).kind : Int) = 1) := by omega
 have s0 := h.isT hr pk; have h1 := ih.lp _ _ _ _ _ hd12 s0 hx
 cases x with
 | bad e q =>
  obtain ⟨a', d'', eb⟩ := bN h1 rfl; refine ⟨a', d'', fun b Y hb => ?_⟩; have eb := eb hb; have e67 := e67 b Y hb; have f0 := g0 b Y hb; rw [dE]; obtain ⟨N, T, Lb, hN, hT, hL⟩ := lens3 Y; rw [hN] at hb
  conv => lhs; rw [← al (Y.af false b (pc ts l d))]
  simp only [pc, pcf, aV, Tok.c, bw, ab, if_true, if_false, ae, cD, eQ, fg, eK, cM, fK, ga, pk] at e67 f0 eb ⊢
  generalize az ts = es at *
  simp (maxDischargeDepth := 8) [iw, hN, hT, hL, hb, e67, f0, eb, pk, k1, k1']
 | ok v1 l1 =>
  refine ⟨bS h1 rfl, fun b Y hb => ?_⟩; have e67 := e67 b Y hb; have f0 := g0 b Y hb; have e1 := aX h1 rfl hb; rw [dE]; obtain ⟨N, T, Lb, hN, hT, hL⟩ := lens3 Y; rw [hN] at hb
  conv => lhs; rw [← al (Y.af false b (pc ts l d))]
  simp only [pc, pcf, aV, Tok.c, bw, ab, if_true, if_false, ae, cD, eQ, fg, eK, cM, fK, ga, pk] at e67 f0 e1 ⊢
  generalize az ts = es at *
  simp (maxDischargeDepth := 8) [iw, hN, hT, hL, hb, e67, f0, e1, pk, k1, k1']
theorem FT {d : Nat} {l : List Tok} {x : PR S} (hd12 : d ≤ 12) (h : Sfx ts l) (k1 : (hd l).kind ≠ 1) (p0 : isT l [108, 111, 111, 112] = false) (pk : isT l [105, 102] = true) (hx : (pb (ff n 0 d l.tail) fun e l1 => pb (fX n d l1) fun b l2 =>
 (if isT l2 [101, 108, 115, 101] then pb (fX n d l2.tail) fun c l3 => some (.ok (mkS (hd l) 6 (bs []) rt0 pl0 e 0 [] b c) l3) else some (.ok (mkS (hd l) 6 (bs []) rt0 pl0 e 0 [] b []) l2))) = some x) : Rd 124 [] ts d d l eK x := by
 have e67 := fun b (Y : St) hb => aE (ef h d 0 0 0 (b := b)) (s := Y) hb
 have g0 := fun b (Y : St) hb => aE (aG hr h d [108, 111, 111, 112] (b := b)) (s := Y) hb
 have g1 := fun b (Y : St) hb => aE (aG hr h d [105, 102] (b := b)) (s := Y) hb
 have k1' : ¬ (((hd l).kind : Int) = 1) := by omega
 have s0 := h.isT hr pk; have h1 := AI hr ihe ih d (hd l) l.tail x hd12 s0 hx
 cases x with
 | bad e q =>
  obtain ⟨a', d'', eb⟩ := bN h1 rfl; refine ⟨a', d'', fun b Y hb => ?_⟩; have eb := eb hb; have e67 := e67 b Y hb; have f0 := g0 b Y hb; have f1 := g1 b Y hb; rw [dE]; obtain ⟨N, T, Lb, hN, hT, hL⟩ := lens3 Y; rw [hN] at hb
  conv => lhs; rw [← al (Y.af false b (pc ts l d))]
  simp only [pc, pcf, aV, Tok.c, bw, ab, if_true, if_false, ae, cD, eQ, fg, eK, cM, fK, ga, p0, pk] at e67 f0 f1 eb ⊢
  generalize az ts = es at *
  simp (maxDischargeDepth := 8) [iw, hN, hT, hL, hb, e67, f0, f1, eb, p0, pk, k1, k1']
 | ok v1 l1 =>
  refine ⟨bS h1 rfl, fun b Y hb => ?_⟩; have e67 := e67 b Y hb; have f0 := g0 b Y hb; have f1 := g1 b Y hb; have e1 := aX h1 rfl hb; rw [dE]; obtain ⟨N, T, Lb, hN, hT, hL⟩ := lens3 Y; rw [hN] at hb
  conv => lhs; rw [← al (Y.af false b (pc ts l d))]
  simp only [pc, pcf, aV, Tok.c, bw, ab, if_true, if_false, ae, cD, eQ, fg, eK, cM, fK, ga, p0, pk] at e67 f0 f1 e1 ⊢
  generalize az ts = es at *
  simp (maxDischargeDepth := 8) [iw, hN, hT, hL, hb, e67, f0, f1, e1, p0, pk, k1, k1']
theorem xw {d : Nat} {l : List Tok} {x : PR S} (hd12 : d ≤ 12) (h : Sfx ts l) (k1 : (hd l).kind ≠ 1) (p0 : isT l [108, 111, 111, 112] = false) (p1 : isT l [105, 102] = false) (pk : isT l [97, 116, 111, 109, 105, 99] = true) (hx : (pb (fX n d l.tail) fun b l1 => some (.ok (mkS (hd l) 10 (bs []) rt0 pl0 x0 0 [] b []) l1)) = some x) : Rd 124 [] ts d d l eK x := by
 have e67 := fun b (Y : St) hb => aE (ef h d 0 0 0 (b := b)) (s := Y) hb
 have g0 := fun b (Y : St) hb => aE (aG hr h d [108, 111, 111, 112] (b := b)) (s := Y) hb
 have g1 := fun b (Y : St) hb => aE (aG hr h d [105, 102] (b := b)) (s := Y) hb
 have g2 := fun b (Y : St) hb => aE (aG hr h d [97, 116, 111, 109, 105, 99] (b := b)) (s := Y) hb
 have k1' : ¬ (((hd l).kind : Int) = 1) := by omega
 have s0 := h.isT hr pk; obtain ⟨y1, hy1⟩ := dP hx; rw [hy1] at hx; have h1 := ih.blk _ _ _ hd12 s0 hy1
 cases y1 with
 | bad e q =>
  obtain rfl := cd hx rfl; obtain ⟨a', d'', eb⟩ := bN h1 rfl; refine ⟨a', d'', fun b Y hb => ?_⟩; have eb := eb hb; have e67 := e67 b Y hb; have f0 := g0 b Y hb; have f1 := g1 b Y hb; have f2 := g2 b Y hb; rw [dE]; obtain ⟨N, T, Lb, hN, hT, hL⟩ := lens3 Y; rw [hN] at hb
  conv => lhs; rw [← al (Y.af false b (pc ts l d))]
  simp only [pc, pcf, aV, Tok.c, bw, ab, if_true, if_false, ae, cD, eQ, fg, eK, cM, fK, ga, p0, p1, pk] at e67 f0 f1 f2 eb ⊢
  generalize az ts = es at *
  simp (maxDischargeDepth := 8) [iw, hN, hT, hL, hb, e67, f0, f1, f2, eb, p0, p1, pk, k1, k1']
 | ok b1 l1 =>
  have hx := cO hx rfl
  try dsimp only at hx
  have s1 := bS h1 rfl; obtain rfl := Option.some.inj hx; refine ⟨s1, fun b Y hb => ?_⟩; have e67 := e67 b Y hb; have f0 := g0 b Y hb; have f1 := g1 b Y hb; have f2 := g2 b Y hb; have e1 := aX h1 rfl hb; rw [dE]; obtain ⟨N, T, Lb, hN, hT, hL⟩ := lens3 Y; rw [hN] at hb
  conv => lhs; rw [← al (Y.af false b (pc ts l d))]
  simp only [pc, pcf, aV, Tok.c, bw, ab, if_true, if_false, ae, cD, eQ, fg, eK, cM, fK, ga, p0, p1, pk] at e67 f0 f1 f2 e1 ⊢
  generalize az ts = es at *
  simp (maxDischargeDepth := 8) [iw, hN, hT, hL, hb, e67, f0, f1, f2, e1, p0, p1, pk, k1, k1']
theorem DL {d : Nat} {l : List Tok} {x : PR S} (hd12 : d ≤ 12) (h : Sfx ts l) (k1 : (hd l).kind ≠ 1) (p0 : isT l [108, 111, 111, 112] = false) (p1 : isT l [105, 102] = false) (p2 : isT l [97, 116, 111, 109, 105, 99] = false) (pk : isT l [108, 101, 116] = true) (hx : (pb (some (eU 1 (dI l))) fun u l1 => pb (some (dJ [61] l1)) fun _ l2 => pb (jw n d l2) fun r l3 => gQ (mkS (hd l) 1 (bs u.text) r pl0 x0 0 [] [] []) l3) = some x) : Rd 124 [] ts d d l eK x := by
 have e67 := fun b (Y : St) hb => aE (ef h d 0 0 0 (b := b)) (s := Y) hb
 have g0 := fun b (Y : St) hb => aE (aG hr h d [108, 111, 111, 112] (b := b)) (s := Y) hb
 have g1 := fun b (Y : St) hb => aE (aG hr h d [105, 102] (b := b)) (s := Y) hb
 have g2 := fun b (Y : St) hb => aE (aG hr h d [97, 116, 111, 109, 105, 99] (b := b)) (s := Y) hb
 have g3 := fun b (Y : St) hb => aE (j8 h d 0 0 0 [108, 101, 116] (b := b)) (s := Y) hb
 have k1' : ¬ (((hd l).kind : Int) = 1) := by omega
 have s0 := h.next hr
 have e151 := fun b (Y : St) hb => aE (lr hr h d (b := b)) (s := Y) hb
 have kt := pY pk; have h1 := ir hr s0 d 1
 cases x1 : eU 1 (dI l) with
 | bad e q =>
  obtain rfl := cd hx x1; obtain ⟨a', d'', eb⟩ := bN h1 x1; refine ⟨a', d'', fun b Y hb => ?_⟩; have eb := eb hb; have e67 := e67 b Y hb; have f0 := g0 b Y hb; have f1 := g1 b Y hb; have f2 := g2 b Y hb; have f3 := g3 b Y hb; have e151 := e151 b Y hb; rw [dE]; obtain ⟨N, T, Lb, hN, hT, hL⟩ := lens3 Y; rw [hN] at hb
  conv => lhs; rw [← al (Y.af false b (pc ts l d))]
  simp only [pc, pcf, aV, Tok.c, bw, ab, if_true, if_false, ae, cD, eQ, fg, eK, cM, fK, ga, p0, p1, p2, pk, kt] at e67 f0 f1 f2 f3 e151 eb ⊢
  generalize az ts = es at *
  simp (maxDischargeDepth := 8) [iw, hN, hT, hL, hb, e67, f0, f1, f2, f3, e151, eb, p0, p1, p2, pk, kt, k1, k1']
 | ok u1 l1 =>
  have hx := cO hx x1
  try dsimp only at hx
  have s1 := bS h1 x1; have h2 := fe hr s1 d [61]
  cases x2 : dJ [61] l1 with
  | bad e q =>
   obtain rfl := cd hx x2; obtain ⟨a', d'', eb⟩ := bN h2 x2; refine ⟨a', d'', fun b Y hb => ?_⟩; have eb := eb hb; have e67 := e67 b Y hb; have f0 := g0 b Y hb; have f1 := g1 b Y hb; have f2 := g2 b Y hb; have f3 := g3 b Y hb; have e151 := e151 b Y hb; have e1 := aX h1 x1 hb; rw [dE]; obtain ⟨N, T, Lb, hN, hT, hL⟩ := lens3 Y; rw [hN] at hb
   conv => lhs; rw [← al (Y.af false b (pc ts l d))]
   simp only [pc, pcf, aV, Tok.c, bw, ab, if_true, if_false, ae, cD, eQ, fg, eK, cM, fK, ga, p0, p1, p2, pk, kt] at e67 f0 f1 f2 f3 e151 e1 eb ⊢
   generalize az ts = es at *
   simp (maxDischargeDepth := 8) [iw, hN, hT, hL, hb, e67, f0, f1, f2, f3, e151, e1, eb, p0, p1, p2, pk, kt, k1, k1']
  | ok u2 l2 =>
   have hx := cO hx x2
   try dsimp only at hx
   have s2 := bS h2 x2; obtain ⟨y3, hy3⟩ := dP hx; rw [hy3] at hx; have h3 := qY hr ihe hd12 s2 hy3
   cases y3 with
   | bad e q =>
    obtain rfl := cd hx rfl; obtain ⟨a', d'', eb⟩ := bN h3 rfl; refine ⟨a', d'', fun b Y hb => ?_⟩; have eb := eb hb; have e67 := e67 b Y hb; have f0 := g0 b Y hb; have f1 := g1 b Y hb; have f2 := g2 b Y hb; have f3 := g3 b Y hb; have e151 := e151 b Y hb; have e1 := aX h1 x1 hb; have e2 := aX h2 x2 hb; rw [dE]; obtain ⟨N, T, Lb, hN, hT, hL⟩ := lens3 Y; rw [hN] at hb
    conv => lhs; rw [← al (Y.af false b (pc ts l d))]
    simp only [pc, pcf, aV, Tok.c, bw, ab, if_true, if_false, ae, cD, eQ, fg, eK, cM, fK, ga, p0, p1, p2, pk, kt] at e67 f0 f1 f2 f3 e151 e1 e2 eb ⊢
    generalize az ts = es at *
    simp (maxDischargeDepth := 8) [iw, hN, hT, hL, hb, e67, f0, f1, f2, f3, e151, e1, e2, eb, p0, p1, p2, pk, kt, k1, k1']
   | ok r3 l3 =>
    have hx := cO hx rfl
    try dsimp only at hx
    have s3 := bS h3 rfl; unfold gQ at hx; have h4 := fe hr s3 d [59]
    cases x4 : dJ [59] l3 with
    | bad e q =>
     obtain rfl := cd hx x4; obtain ⟨a', d'', eb⟩ := bN h4 x4; refine ⟨a', d'', fun b Y hb => ?_⟩; have eb := eb hb; have e67 := e67 b Y hb; have f0 := g0 b Y hb; have f1 := g1 b Y hb; have f2 := g2 b Y hb; have f3 := g3 b Y hb; have e151 := e151 b Y hb; have e1 := aX h1 x1 hb; have e2 := aX h2 x2 hb; have e3 := aX h3 rfl hb; rw [dE]; obtain ⟨N, T, Lb, hN, hT, hL⟩ := lens3 Y; rw [hN] at hb
     conv => lhs; rw [← al (Y.af false b (pc ts l d))]
     simp only [pc, pcf, aV, Tok.c, bw, ab, if_true, if_false, ae, cD, eQ, fg, eK, cM, fK, ga, p0, p1, p2, pk, kt] at e67 f0 f1 f2 f3 e151 e1 e2 e3 eb ⊢
     generalize az ts = es at *
     simp (maxDischargeDepth := 8) [iw, hN, hT, hL, hb, e67, f0, f1, f2, f3, e151, e1, e2, e3, eb, p0, p1, p2, pk, kt, k1, k1']
    | ok u4 l4 =>
     have hx := cO hx x4
     try dsimp only at hx
     have s4 := bS h4 x4; obtain rfl := Option.some.inj hx; refine ⟨s4, fun b Y hb => ?_⟩; have e67 := e67 b Y hb; have f0 := g0 b Y hb; have f1 := g1 b Y hb; have f2 := g2 b Y hb; have f3 := g3 b Y hb; have e151 := e151 b Y hb; have e1 := aX h1 x1 hb; have e2 := aX h2 x2 hb; have e3 := aX h3 rfl hb; have e4 := aX h4 x4 hb; rw [dE]; obtain ⟨N, T, Lb, hN, hT, hL⟩ := lens3 Y; rw [hN] at hb
     conv => lhs; rw [← al (Y.af false b (pc ts l d))]
     simp only [pc, pcf, aV, Tok.c, bw, ab, if_true, if_false, ae, cD, eQ, fg, eK, cM, fK, ga, p0, p1, p2, pk, kt] at e67 f0 f1 f2 f3 e151 e1 e2 e3 e4 ⊢
     generalize az ts = es at *
     simp (maxDischargeDepth := 8) [iw, hN, hT, hL, hb, e67, f0, f1, f2, f3, e151, e1, e2, e3, e4, p0, p1, p2, pk, kt, k1, k1']
theorem DN {d : Nat} {l : List Tok} {x : PR S} (hd12 : d ≤ 12) (h : Sfx ts l) (k1 : (hd l).kind ≠ 1) (p0 : isT l [108, 111, 111, 112] = false) (p1 : isT l [105, 102] = false) (p2 : isT l [97, 116, 111, 109, 105, 99] = false) (p3 : isT l [108, 101, 116] = false) (pk : isT l [118, 97, 114] = true) (hx : (pb (some (eU 1 (dI l))) fun u l1 => pb (some (dJ [61] l1)) fun _ l2 => pb (jw n d l2) fun r l3 => gQ (mkS (hd l) 2 (bs u.text) r pl0 x0 0 [] [] []) l3) = some x) : Rd 124 [] ts d d l eK x := by
 have e67 := fun b (Y : St) hb => aE (ef h d 0 0 0 (b := b)) (s := Y) hb
 have g0 := fun b (Y : St) hb => aE (aG hr h d [108, 111, 111, 112] (b := b)) (s := Y) hb
 have g1 := fun b (Y : St) hb => aE (aG hr h d [105, 102] (b := b)) (s := Y) hb
 have g2 := fun b (Y : St) hb => aE (aG hr h d [97, 116, 111, 109, 105, 99] (b := b)) (s := Y) hb
 have g3 := fun b (Y : St) hb => aE (j8 h d 0 0 0 [108, 101, 116] (b := b)) (s := Y) hb
 have g4 := fun b (Y : St) hb => aE (j8 h d 0 0 0 [118, 97, 114] (b := b)) (s := Y) hb
 have k1' : ¬ (((hd l).kind : Int) = 1) := by omega
 have s0 := h.next hr
 have e151 := fun b (Y : St) hb => aE (lr hr h d (b := b)) (s := Y) hb
 have kt := pY pk; have h1 := ir hr s0 d 1
 cases x1 : eU 1 (dI l) with
 | bad e q =>
  obtain rfl := cd hx x1; obtain ⟨a', d'', eb⟩ := bN h1 x1; refine ⟨a', d'', fun b Y hb => ?_⟩; have eb := eb hb; have e67 := e67 b Y hb; have f0 := g0 b Y hb; have f1 := g1 b Y hb; have f2 := g2 b Y hb; have f3 := g3 b Y hb; have f4 := g4 b Y hb; have e151 := e151 b Y hb; rw [dE]; obtain ⟨N, T, Lb, hN, hT, hL⟩ := lens3 Y; rw [hN] at hb
  conv => lhs; rw [← al (Y.af false b (pc ts l d))]
  simp only [pc, pcf, aV, Tok.c, bw, ab, if_true, if_false, ae, cD, eQ, fg, eK, cM, fK, ga, p0, p1, p2, p3, pk, kt] at e67 f0 f1 f2 f3 f4 e151 eb ⊢
  generalize az ts = es at *
  simp (maxDischargeDepth := 8) [iw, hN, hT, hL, hb, e67, f0, f1, f2, f3, f4, e151, eb, p0, p1, p2, p3, pk, kt, k1, k1']
 | ok u1 l1 =>
  have hx := cO hx x1
  try dsimp only at hx
  have s1 := bS h1 x1; have h2 := fe hr s1 d [61]
  cases x2 : dJ [61] l1 with
  | bad e q =>
   obtain rfl := cd hx x2; obtain ⟨a', d'', eb⟩ := bN h2 x2; refine ⟨a', d'', fun b Y hb => ?_⟩; have eb := eb hb; have e67 := e67 b Y hb; have f0 := g0 b Y hb; have f1 := g1 b Y hb; have f2 := g2 b Y hb; have f3 := g3 b Y hb; have f4 := g4 b Y hb; have e151 := e151 b Y hb; have e1 := aX h1 x1 hb; rw [dE]; obtain ⟨N, T, Lb, hN, hT, hL⟩ := lens3 Y; rw [hN] at hb
   conv => lhs; rw [← al (Y.af false b (pc ts l d))]
   simp only [pc, pcf, aV, Tok.c, bw, ab, if_true, if_false, ae, cD, eQ, fg, eK, cM, fK, ga, p0, p1, p2, p3, pk, kt] at e67 f0 f1 f2 f3 f4 e151 e1 eb ⊢
   generalize az ts = es at *
   simp (maxDischargeDepth := 8) [iw, hN, hT, hL, hb, e67, f0, f1, f2, f3, f4, e151, e1, eb, p0, p1, p2, p3, pk, kt, k1, k1']
  | ok u2 l2 =>
   have hx := cO hx x2
   try dsimp only at hx
   have s2 := bS h2 x2; obtain ⟨y3, hy3⟩ := dP hx; rw [hy3] at hx; have h3 := qY hr ihe hd12 s2 hy3
   cases y3 with
   | bad e q =>
    obtain rfl := cd hx rfl; obtain ⟨a', d'', eb⟩ := bN h3 rfl; refine ⟨a', d'', fun b Y hb => ?_⟩; have eb := eb hb; have e67 := e67 b Y hb; have f0 := g0 b Y hb; have f1 := g1 b Y hb; have f2 := g2 b Y hb; have f3 := g3 b Y hb; have f4 := g4 b Y hb; have e151 := e151 b Y hb; have e1 := aX h1 x1 hb; have e2 := aX h2 x2 hb; rw [dE]; obtain ⟨N, T, Lb, hN, hT, hL⟩ := lens3 Y; rw [hN] at hb
    conv => lhs; rw [← al (Y.af false b (pc ts l d))]
    simp only [pc, pcf, aV, Tok.c, bw, ab, if_true, if_false, ae, cD, eQ, fg, eK, cM, fK, ga, p0, p1, p2, p3, pk, kt] at e67 f0 f1 f2 f3 f4 e151 e1 e2 eb ⊢
    generalize az ts = es at *
    simp (maxDischargeDepth := 8) [iw, hN, hT, hL, hb, e67, f0, f1, f2, f3, f4, e151, e1, e2, eb, p0, p1, p2, p3, pk, kt, k1, k1']
   | ok r3 l3 =>
    have hx := cO hx rfl
    try dsimp only at hx
    have s3 := bS h3 rfl; unfold gQ at hx; have h4 := fe hr s3 d [59]
    cases x4 : dJ [59] l3 with
    | bad e q =>
     obtain rfl := cd hx x4; obtain ⟨a', d'', eb⟩ := bN h4 x4; refine ⟨a', d'', fun b Y hb => ?_⟩; have eb := eb hb; have e67 := e67 b Y hb; have f0 := g0 b Y hb; have f1 := g1 b Y hb; have f2 := g2 b Y hb; have f3 := g3 b Y hb; have f4 := g4 b Y hb; have e151 := e151 b Y hb; have e1 := aX h1 x1 hb; have e2 := aX h2 x2 hb; have e3 := aX h3 rfl hb; rw [dE]; obtain ⟨N, T, Lb, hN, hT, hL⟩ := lens3 Y; rw [hN] at hb
     conv => lhs; rw [← al (Y.af false b (pc ts l d))]
     simp only [pc, pcf, aV, Tok.c, bw, ab, if_true, if_false, ae, cD, eQ, fg, eK, cM, fK, ga, p0, p1, p2, p3, pk, kt] at e67 f0 f1 f2 f3 f4 e151 e1 e2 e3 eb ⊢
     generalize az ts = es at *
     simp (maxDischargeDepth := 8) [iw, hN, hT, hL, hb, e67, f0, f1, f2, f3, f4, e151, e1, e2, e3, eb, p0, p1, p2, p3, pk, kt, k1, k1']
    | ok u4 l4 =>
     have hx := cO hx x4
     try dsimp only at hx
     have s4 := bS h4 x4; obtain rfl := Option.some.inj hx; refine ⟨s4, fun b Y hb => ?_⟩; have e67 := e67 b Y hb; have f0 := g0 b Y hb; have f1 := g1 b Y hb; have f2 := g2 b Y hb; have f3 := g3 b Y hb; have f4 := g4 b Y hb; have e151 := e151 b Y hb; have e1 := aX h1 x1 hb; have e2 := aX h2 x2 hb; have e3 := aX h3 rfl hb; have e4 := aX h4 x4 hb; rw [dE]; obtain ⟨N, T, Lb, hN, hT, hL⟩ := lens3 Y; rw [hN] at hb
     conv => lhs; rw [← al (Y.af false b (pc ts l d))]
     simp only [pc, pcf, aV, Tok.c, bw, ab, if_true, if_false, ae, cD, eQ, fg, eK, cM, fK, ga, p0, p1, p2, p3, pk, kt] at e67 f0 f1 f2 f3 f4 e151 e1 e2 e3 e4 ⊢
     generalize az ts = es at *
     simp (maxDischargeDepth := 8) [iw, hN, hT, hL, hb, e67, f0, f1, f2, f3, f4, e151, e1, e2, e3, e4, p0, p1, p2, p3, pk, kt, k1, k1']
theorem DM {d : Nat} {l : List Tok} {x : PR S} (hd12 : d ≤ 12) (h : Sfx ts l) (k1 : (hd l).kind ≠ 1) (p0 : isT l [108, 111, 111, 112] = false) (p1 : isT l [105, 102] = false) (p2 : isT l [97, 116, 111, 109, 105, 99] = false) (p3 : isT l [108, 101, 116] = false) (p4 : isT l [118, 97, 114] = false) (pk : isT l [115, 101, 116] = true) (hx : (pb (nQ n d l.tail) fun x l1 => pb (some (dJ [61] l1)) fun _ l2 => pb (ff n 0 d l2) fun e l3 => gQ (mkS (hd l) 4 (bs []) rt0 x e 0 [] [] []) l3) = some x) : Rd 124 [] ts d d l eK x := by
 have e67 := fun b (Y : St) hb => aE (ef h d 0 0 0 (b := b)) (s := Y) hb
 have g0 := fun b (Y : St) hb => aE (aG hr h d [108, 111, 111, 112] (b := b)) (s := Y) hb
 have g1 := fun b (Y : St) hb => aE (aG hr h d [105, 102] (b := b)) (s := Y) hb
 have g2 := fun b (Y : St) hb => aE (aG hr h d [97, 116, 111, 109, 105, 99] (b := b)) (s := Y) hb
 have g3 := fun b (Y : St) hb => aE (j8 h d 0 0 0 [108, 101, 116] (b := b)) (s := Y) hb
 have g4 := fun b (Y : St) hb => aE (j8 h d 0 0 0 [118, 97, 114] (b := b)) (s := Y) hb
 have g5 := fun b (Y : St) hb => aE (aG hr h d [115, 101, 116] (b := b)) (s := Y) hb
 have k1' : ¬ (((hd l).kind : Int) = 1) := by omega
 have s0 := h.isT hr pk; obtain ⟨y1, hy1⟩ := dP hx; rw [hy1] at hx; have h1 := uz hr ihe hd12 s0 hy1
 cases y1 with
 | bad e q =>
  obtain rfl := cd hx rfl; obtain ⟨a', d'', eb⟩ := bN h1 rfl; refine ⟨a', d'', fun b Y hb => ?_⟩; have eb := eb hb; have e67 := e67 b Y hb; have f0 := g0 b Y hb; have f1 := g1 b Y hb; have f2 := g2 b Y hb; have f3 := g3 b Y hb; have f4 := g4 b Y hb; have f5 := g5 b Y hb; rw [dE]; obtain ⟨N, T, Lb, hN, hT, hL⟩ := lens3 Y; rw [hN] at hb
  conv => lhs; rw [← al (Y.af false b (pc ts l d))]
  simp only [pc, pcf, aV, Tok.c, bw, ab, if_true, if_false, ae, cD, eQ, fg, eK, cM, fK, ga, p0, p1, p2, p3, p4, pk] at e67 f0 f1 f2 f3 f4 f5 eb ⊢
  generalize az ts = es at *
  simp (maxDischargeDepth := 8) [iw, hN, hT, hL, hb, e67, f0, f1, f2, f3, f4, f5, eb, p0, p1, p2, p3, p4, pk, k1, k1']
 | ok pl1 l1 =>
  have hx := cO hx rfl
  try dsimp only at hx
  have s1 := bS h1 rfl; have h2 := fe hr s1 d [61]
  cases x2 : dJ [61] l1 with
  | bad e q =>
   obtain rfl := cd hx x2; obtain ⟨a', d'', eb⟩ := bN h2 x2; refine ⟨a', d'', fun b Y hb => ?_⟩; have eb := eb hb; have e67 := e67 b Y hb; have f0 := g0 b Y hb; have f1 := g1 b Y hb; have f2 := g2 b Y hb; have f3 := g3 b Y hb; have f4 := g4 b Y hb; have f5 := g5 b Y hb; have e1 := aX h1 rfl hb; rw [dE]; obtain ⟨N, T, Lb, hN, hT, hL⟩ := lens3 Y; rw [hN] at hb
   conv => lhs; rw [← al (Y.af false b (pc ts l d))]
   simp only [pc, pcf, aV, Tok.c, bw, ab, if_true, if_false, ae, cD, eQ, fg, eK, cM, fK, ga, p0, p1, p2, p3, p4, pk] at e67 f0 f1 f2 f3 f4 f5 e1 eb ⊢
   generalize az ts = es at *
   simp (maxDischargeDepth := 8) [iw, hN, hT, hL, hb, e67, f0, f1, f2, f3, f4, f5, e1, eb, p0, p1, p2, p3, p4, pk, k1, k1']
  | ok u2 l2 =>
   have hx := cO hx x2
   try dsimp only at hx
   have s2 := bS h2 x2; obtain ⟨y3, hy3⟩ := dP hx; rw [hy3] at hx; have h3 := lj hr ihe hd12 s2 hy3
   cases y3 with
   | bad e q =>
    obtain rfl := cd hx rfl; obtain ⟨a', d'', eb⟩ := bN h3 rfl; refine ⟨a', d'', fun b Y hb => ?_⟩; have eb := eb hb; have e67 := e67 b Y hb; have f0 := g0 b Y hb; have f1 := g1 b Y hb; have f2 := g2 b Y hb; have f3 := g3 b Y hb; have f4 := g4 b Y hb; have f5 := g5 b Y hb; have e1 := aX h1 rfl hb; have e2 := aX h2 x2 hb; rw [dE]; obtain ⟨N, T, Lb, hN, hT, hL⟩ := lens3 Y; rw [hN] at hb
    conv => lhs; rw [← al (Y.af false b (pc ts l d))]
    simp only [pc, pcf, aV, Tok.c, bw, ab, if_true, if_false, ae, cD, eQ, fg, eK, cM, fK, ga, p0, p1, p2, p3, p4, pk] at e67 f0 f1 f2 f3 f4 f5 e1 e2 eb ⊢
    generalize az ts = es at *
    simp (maxDischargeDepth := 8) [iw, hN, hT, hL, hb, e67, f0, f1, f2, f3, f4, f5, e1, e2, eb, p0, p1, p2, p3, p4, pk, k1, k1']
   | ok x3 l3 =>
    have hx := cO hx rfl
    try dsimp only at hx
    have s3 := bS h3 rfl; unfold gQ at hx; have h4 := fe hr s3 d [59]
    cases x4 : dJ [59] l3 with
    | bad e q =>
     obtain rfl := cd hx x4; obtain ⟨a', d'', eb⟩ := bN h4 x4; refine ⟨a', d'', fun b Y hb => ?_⟩; have eb := eb hb; have e67 := e67 b Y hb; have f0 := g0 b Y hb; have f1 := g1 b Y hb; have f2 := g2 b Y hb; have f3 := g3 b Y hb; have f4 := g4 b Y hb; have f5 := g5 b Y hb; have e1 := aX h1 rfl hb; have e2 := aX h2 x2 hb; have e3 := aX h3 rfl hb; rw [dE]; obtain ⟨N, T, Lb, hN, hT, hL⟩ := lens3 Y; rw [hN] at hb
     conv => lhs; rw [← al (Y.af false b (pc ts l d))]
     simp only [pc, pcf, aV, Tok.c, bw, ab, if_true, if_false, ae, cD, eQ, fg, eK, cM, fK, ga, p0, p1, p2, p3, p4, pk] at e67 f0 f1 f2 f3 f4 f5 e1 e2 e3 eb ⊢
     generalize az ts = es at *
     simp (maxDischargeDepth := 8) [iw, hN, hT, hL, hb, e67, f0, f1, f2, f3, f4, f5, e1, e2, e3, eb, p0, p1, p2, p3, p4, pk, k1, k1']
    | ok u4 l4 =>
     have hx := cO hx x4
     try dsimp only at hx
     have s4 := bS h4 x4; obtain rfl := Option.some.inj hx; refine ⟨s4, fun b Y hb => ?_⟩; have e67 := e67 b Y hb; have f0 := g0 b Y hb; have f1 := g1 b Y hb; have f2 := g2 b Y hb; have f3 := g3 b Y hb; have f4 := g4 b Y hb; have f5 := g5 b Y hb; have e1 := aX h1 rfl hb; have e2 := aX h2 x2 hb; have e3 := aX h3 rfl hb; have e4 := aX h4 x4 hb; rw [dE]; obtain ⟨N, T, Lb, hN, hT, hL⟩ := lens3 Y; rw [hN] at hb
     conv => lhs; rw [← al (Y.af false b (pc ts l d))]
     simp only [pc, pcf, aV, Tok.c, bw, ab, if_true, if_false, ae, cD, eQ, fg, eK, cM, fK, ga, p0, p1, p2, p3, p4, pk] at e67 f0 f1 f2 f3 f4 f5 e1 e2 e3 e4 ⊢
     generalize az ts = es at *
     simp (maxDischargeDepth := 8) [iw, hN, hT, hL, hb, e67, f0, f1, f2, f3, f4, f5, e1, e2, e3, e4, p0, p1, p2, p3, p4, pk, k1, k1']
theorem yH {d : Nat} {l : List Tok} {x : PR S} (hd12 : d ≤ 12) (h : Sfx ts l) (k1 : (hd l).kind ≠ 1) (p0 : isT l [108, 111, 111, 112] = false) (p1 : isT l [105, 102] = false) (p2 : isT l [97, 116, 111, 109, 105, 99] = false) (p3 : isT l [108, 101, 116] = false) (p4 : isT l [118, 97, 114] = false) (p5 : isT l [115, 101, 116] = false) (pk : isT l [112, 114, 105, 110, 116] = true) (hx : (pb (ff n 0 d l.tail) fun e l1 => gQ (mkS (hd l) 5 (bs []) rt0 pl0 e 0 [] [] []) l1) = some x) : Rd 124 [] ts d d l eK x := by
 have e67 := fun b (Y : St) hb => aE (ef h d 0 0 0 (b := b)) (s := Y) hb
 have g0 := fun b (Y : St) hb => aE (aG hr h d [108, 111, 111, 112] (b := b)) (s := Y) hb
 have g1 := fun b (Y : St) hb => aE (aG hr h d [105, 102] (b := b)) (s := Y) hb
 have g2 := fun b (Y : St) hb => aE (aG hr h d [97, 116, 111, 109, 105, 99] (b := b)) (s := Y) hb
 have g3 := fun b (Y : St) hb => aE (j8 h d 0 0 0 [108, 101, 116] (b := b)) (s := Y) hb
 have g4 := fun b (Y : St) hb => aE (j8 h d 0 0 0 [118, 97, 114] (b := b)) (s := Y) hb
 have g5 := fun b (Y : St) hb => aE (aG hr h d [115, 101, 116] (b := b)) (s := Y) hb
 have g6 := fun b (Y : St) hb => aE (aG hr h d [112, 114, 105, 110, 116] (b := b)) (s := Y) hb
 have k1' : ¬ (((hd l).kind : Int) = 1) := by omega
 have s0 := h.isT hr pk; obtain ⟨y1, hy1⟩ := dP hx; rw [hy1] at hx; have h1 := lj hr ihe hd12 s0 hy1
 cases y1 with
 | bad e q =>
  obtain rfl := cd hx rfl; obtain ⟨a', d'', eb⟩ := bN h1 rfl; refine ⟨a', d'', fun b Y hb => ?_⟩; have eb := eb hb; have e67 := e67 b Y hb; have f0 := g0 b Y hb; have f1 := g1 b Y hb; have f2 := g2 b Y hb; have f3 := g3 b Y hb; have f4 := g4 b Y hb; have f5 := g5 b Y hb; have f6 := g6 b Y hb; rw [dE]; obtain ⟨N, T, Lb, hN, hT, hL⟩ := lens3 Y; rw [hN] at hb
  conv => lhs; rw [← al (Y.af false b (pc ts l d))]
  simp only [pc, pcf, aV, Tok.c, bw, ab, if_true, if_false, ae, cD, eQ, fg, eK, cM, fK, ga, p0, p1, p2, p3, p4, p5, pk] at e67 f0 f1 f2 f3 f4 f5 f6 eb ⊢
  generalize az ts = es at *
  simp (maxDischargeDepth := 8) [iw, hN, hT, hL, hb, e67, f0, f1, f2, f3, f4, f5, f6, eb, p0, p1, p2, p3, p4, p5, pk, k1, k1']
 | ok x1 l1 =>
  have hx := cO hx rfl
  try dsimp only at hx
  have s1 := bS h1 rfl; unfold gQ at hx; have h2 := fe hr s1 d [59]
  cases x2 : dJ [59] l1 with
  | bad e q =>
   obtain rfl := cd hx x2; obtain ⟨a', d'', eb⟩ := bN h2 x2; refine ⟨a', d'', fun b Y hb => ?_⟩; have eb := eb hb; have e67 := e67 b Y hb; have f0 := g0 b Y hb; have f1 := g1 b Y hb; have f2 := g2 b Y hb; have f3 := g3 b Y hb; have f4 := g4 b Y hb; have f5 := g5 b Y hb; have f6 := g6 b Y hb; have e1 := aX h1 rfl hb; rw [dE]; obtain ⟨N, T, Lb, hN, hT, hL⟩ := lens3 Y; rw [hN] at hb
   conv => lhs; rw [← al (Y.af false b (pc ts l d))]
   simp only [pc, pcf, aV, Tok.c, bw, ab, if_true, if_false, ae, cD, eQ, fg, eK, cM, fK, ga, p0, p1, p2, p3, p4, p5, pk] at e67 f0 f1 f2 f3 f4 f5 f6 e1 eb ⊢
   generalize az ts = es at *
   simp (maxDischargeDepth := 8) [iw, hN, hT, hL, hb, e67, f0, f1, f2, f3, f4, f5, f6, e1, eb, p0, p1, p2, p3, p4, p5, pk, k1, k1']
  | ok u2 l2 =>
   have hx := cO hx x2
   try dsimp only at hx
   have s2 := bS h2 x2; obtain rfl := Option.some.inj hx; refine ⟨s2, fun b Y hb => ?_⟩; have e67 := e67 b Y hb; have f0 := g0 b Y hb; have f1 := g1 b Y hb; have f2 := g2 b Y hb; have f3 := g3 b Y hb; have f4 := g4 b Y hb; have f5 := g5 b Y hb; have f6 := g6 b Y hb; have e1 := aX h1 rfl hb; have e2 := aX h2 x2 hb; rw [dE]; obtain ⟨N, T, Lb, hN, hT, hL⟩ := lens3 Y; rw [hN] at hb
   conv => lhs; rw [← al (Y.af false b (pc ts l d))]
   simp only [pc, pcf, aV, Tok.c, bw, ab, if_true, if_false, ae, cD, eQ, fg, eK, cM, fK, ga, p0, p1, p2, p3, p4, p5, pk] at e67 f0 f1 f2 f3 f4 f5 f6 e1 e2 ⊢
   generalize az ts = es at *
   simp (maxDischargeDepth := 8) [iw, hN, hT, hL, hb, e67, f0, f1, f2, f3, f4, f5, f6, e1, e2, p0, p1, p2, p3, p4, p5, pk, k1, k1']
theorem yG {d : Nat} {l : List Tok} {x : PR S} (hd12 : d ≤ 12) (h : Sfx ts l) (k1 : (hd l).kind ≠ 1) (p0 : isT l [108, 111, 111, 112] = false) (p1 : isT l [105, 102] = false) (p2 : isT l [97, 116, 111, 109, 105, 99] = false) (p3 : isT l [108, 101, 116] = false) (p4 : isT l [118, 97, 114] = false) (p5 : isT l [115, 101, 116] = false) (p6 : isT l [112, 114, 105, 110, 116] = false) (pk : isT l [98, 114, 101, 97, 107] = true) (hx : gQ (mkS (hd l) 8 (gj l.tail).1 rt0 pl0 x0 0 [] [] []) (gj l.tail).2 = some x) : Rd 124 [] ts d d l eK x := by
 have e67 := fun b (Y : St) hb => aE (ef h d 0 0 0 (b := b)) (s := Y) hb
 have g0 := fun b (Y : St) hb => aE (aG hr h d [108, 111, 111, 112] (b := b)) (s := Y) hb
 have g1 := fun b (Y : St) hb => aE (aG hr h d [105, 102] (b := b)) (s := Y) hb
 have g2 := fun b (Y : St) hb => aE (aG hr h d [97, 116, 111, 109, 105, 99] (b := b)) (s := Y) hb
 have g3 := fun b (Y : St) hb => aE (j8 h d 0 0 0 [108, 101, 116] (b := b)) (s := Y) hb
 have g4 := fun b (Y : St) hb => aE (j8 h d 0 0 0 [118, 97, 114] (b := b)) (s := Y) hb
 have g5 := fun b (Y : St) hb => aE (aG hr h d [115, 101, 116] (b := b)) (s := Y) hb
 have g6 := fun b (Y : St) hb => aE (aG hr h d [112, 114, 105, 110, 116] (b := b)) (s := Y) hb
 have g7 := fun b (Y : St) hb => aE (aG hr h d [98, 114, 101, 97, 107] (b := b)) (s := Y) hb
 have k1' : ¬ (((hd l).kind : Int) = 1) := by omega
 have s0 := h.isT hr pk; have s1 := s0.label hr
 have e158 := fun b (Y : St) hb => aE (wI hr s0 d b) (s := Y) hb
 unfold gQ at hx; have h1 := fe hr s1 d [59]
 cases x1 : dJ [59] (gj l.tail).2 with
 | bad e q =>
  obtain rfl := cd hx x1; obtain ⟨a', d'', eb⟩ := bN h1 x1; refine ⟨a', d'', fun b Y hb => ?_⟩; have eb := eb hb; have e67 := e67 b Y hb; have f0 := g0 b Y hb; have f1 := g1 b Y hb; have f2 := g2 b Y hb; have f3 := g3 b Y hb; have f4 := g4 b Y hb; have f5 := g5 b Y hb; have f6 := g6 b Y hb; have f7 := g7 b Y hb; have e158 := e158 b Y hb; rw [dE]; obtain ⟨N, T, Lb, hN, hT, hL⟩ := lens3 Y; rw [hN] at hb
  conv => lhs; rw [← al (Y.af false b (pc ts l d))]
  simp only [pc, pcf, aV, Tok.c, bw, ab, if_true, if_false, ae, cD, eQ, fg, eK, cM, fK, ga, p0, p1, p2, p3, p4, p5, p6, pk] at e67 f0 f1 f2 f3 f4 f5 f6 f7 e158 eb ⊢
  generalize az ts = es at *
  simp (maxDischargeDepth := 8) [iw, hN, hT, hL, hb, e67, f0, f1, f2, f3, f4, f5, f6, f7, e158, eb, p0, p1, p2, p3, p4, p5, p6, pk, k1, k1']
 | ok u1 l1 =>
  have hx := cO hx x1
  try dsimp only at hx
  have s1 := bS h1 x1; obtain rfl := Option.some.inj hx; refine ⟨s1, fun b Y hb => ?_⟩; have e67 := e67 b Y hb; have f0 := g0 b Y hb; have f1 := g1 b Y hb; have f2 := g2 b Y hb; have f3 := g3 b Y hb; have f4 := g4 b Y hb; have f5 := g5 b Y hb; have f6 := g6 b Y hb; have f7 := g7 b Y hb; have e158 := e158 b Y hb; have e1 := aX h1 x1 hb; rw [dE]; obtain ⟨N, T, Lb, hN, hT, hL⟩ := lens3 Y; rw [hN] at hb
  conv => lhs; rw [← al (Y.af false b (pc ts l d))]
  simp only [pc, pcf, aV, Tok.c, bw, ab, if_true, if_false, ae, cD, eQ, fg, eK, cM, fK, ga, p0, p1, p2, p3, p4, p5, p6, pk] at e67 f0 f1 f2 f3 f4 f5 f6 f7 e158 e1 ⊢
  generalize az ts = es at *
  simp (maxDischargeDepth := 8) [iw, hN, hT, hL, hb, e67, f0, f1, f2, f3, f4, f5, f6, f7, e158, e1, p0, p1, p2, p3, p4, p5, p6, pk, k1, k1']
theorem tP {d : Nat} {l : List Tok} {x : PR S} (hd12 : d ≤ 12) (h : Sfx ts l) (k1 : (hd l).kind ≠ 1) (p0 : isT l [108, 111, 111, 112] = false) (p1 : isT l [105, 102] = false) (p2 : isT l [97, 116, 111, 109, 105, 99] = false) (p3 : isT l [108, 101, 116] = false) (p4 : isT l [118, 97, 114] = false) (p5 : isT l [115, 101, 116] = false) (p6 : isT l [112, 114, 105, 110, 116] = false) (p7 : isT l [98, 114, 101, 97, 107] = false) (pk : isT l [99, 111, 110, 116, 105, 110, 117, 101] = true) (hx : gQ (mkS (hd l) 9 (gj l.tail).1 rt0 pl0 x0 0 [] [] []) (gj l.tail).2 = some x) : Rd 124 [] ts d d l eK x := by
 have e67 := fun b (Y : St) hb => aE (ef h d 0 0 0 (b := b)) (s := Y) hb
 have g0 := fun b (Y : St) hb => aE (aG hr h d [108, 111, 111, 112] (b := b)) (s := Y) hb
 have g1 := fun b (Y : St) hb => aE (aG hr h d [105, 102] (b := b)) (s := Y) hb
 have g2 := fun b (Y : St) hb => aE (aG hr h d [97, 116, 111, 109, 105, 99] (b := b)) (s := Y) hb
 have g3 := fun b (Y : St) hb => aE (j8 h d 0 0 0 [108, 101, 116] (b := b)) (s := Y) hb
 have g4 := fun b (Y : St) hb => aE (j8 h d 0 0 0 [118, 97, 114] (b := b)) (s := Y) hb
 have g5 := fun b (Y : St) hb => aE (aG hr h d [115, 101, 116] (b := b)) (s := Y) hb
 have g6 := fun b (Y : St) hb => aE (aG hr h d [112, 114, 105, 110, 116] (b := b)) (s := Y) hb
 have g7 := fun b (Y : St) hb => aE (aG hr h d [98, 114, 101, 97, 107] (b := b)) (s := Y) hb
 have g8 := fun b (Y : St) hb => aE (aG hr h d [99, 111, 110, 116, 105, 110, 117, 101] (b := b)) (s := Y) hb
 have k1' : ¬ (((hd l).kind : Int) = 1) := by omega
 have s0 := h.isT hr pk; have s1 := s0.label hr
 have e158 := fun b (Y : St) hb => aE (wI hr s0 d b) (s := Y) hb
 unfold gQ at hx; have h1 := fe hr s1 d [59]
 cases x1 : dJ [59] (gj l.tail).2 with
 | bad e q =>
  obtain rfl := cd hx x1; obtain ⟨a', d'', eb⟩ := bN h1 x1; refine ⟨a', d'', fun b Y hb => ?_⟩; have eb := eb hb; have e67 := e67 b Y hb; have f0 := g0 b Y hb; have f1 := g1 b Y hb; have f2 := g2 b Y hb; have f3 := g3 b Y hb; have f4 := g4 b Y hb; have f5 := g5 b Y hb; have f6 := g6 b Y hb; have f7 := g7 b Y hb; have f8 := g8 b Y hb; have e158 := e158 b Y hb; rw [dE]; obtain ⟨N, T, Lb, hN, hT, hL⟩ := lens3 Y; rw [hN] at hb
  conv => lhs; rw [← al (Y.af false b (pc ts l d))]
  simp only [pc, pcf, aV, Tok.c, bw, ab, if_true, if_false, ae, cD, eQ, fg, eK, cM, fK, ga, p0, p1, p2, p3, p4, p5, p6, p7, pk] at e67 f0 f1 f2 f3 f4 f5 f6 f7 f8 e158 eb ⊢
  generalize az ts = es at *
  simp (maxDischargeDepth := 8) [iw, hN, hT, hL, hb, e67, f0, f1, f2, f3, f4, f5, f6, f7, f8, e158, eb, p0, p1, p2, p3, p4, p5, p6, p7, pk, k1, k1']
 | ok u1 l1 =>
  have hx := cO hx x1
  try dsimp only at hx
  have s1 := bS h1 x1; obtain rfl := Option.some.inj hx; refine ⟨s1, fun b Y hb => ?_⟩; have e67 := e67 b Y hb; have f0 := g0 b Y hb; have f1 := g1 b Y hb; have f2 := g2 b Y hb; have f3 := g3 b Y hb; have f4 := g4 b Y hb; have f5 := g5 b Y hb; have f6 := g6 b Y hb; have f7 := g7 b Y hb; have f8 := g8 b Y hb; have e158 := e158 b Y hb; have e1 := aX h1 x1 hb; rw [dE]; obtain ⟨N, T, Lb, hN, hT, hL⟩ := lens3 Y; rw [hN] at hb
  conv => lhs; rw [← al (Y.af false b (pc ts l d))]
  simp only [pc, pcf, aV, Tok.c, bw, ab, if_true, if_false, ae, cD, eQ, fg, eK, cM, fK, ga, p0, p1, p2, p3, p4, p5, p6, p7, pk] at e67 f0 f1 f2 f3 f4 f5 f6 f7 f8 e158 e1 ⊢
  generalize az ts = es at *
  simp (maxDischargeDepth := 8) [iw, hN, hT, hL, hb, e67, f0, f1, f2, f3, f4, f5, f6, f7, f8, e158, e1, p0, p1, p2, p3, p4, p5, p6, p7, pk, k1, k1']
theorem BD {d : Nat} {l : List Tok} {x : PR S} (hd12 : d ≤ 12) (h : Sfx ts l) (k1 : (hd l).kind ≠ 1) (p0 : isT l [108, 111, 111, 112] = false) (p1 : isT l [105, 102] = false) (p2 : isT l [97, 116, 111, 109, 105, 99] = false) (p3 : isT l [108, 101, 116] = false) (p4 : isT l [118, 97, 114] = false) (p5 : isT l [115, 101, 116] = false) (p6 : isT l [112, 114, 105, 110, 116] = false) (p7 : isT l [98, 114, 101, 97, 107] = false) (p8 : isT l [99, 111, 110, 116, 105, 110, 117, 101] = false) (pk : isT l [99, 97, 108, 108] = true) (hx : (pb (some (eU 1 l.tail)) fun u l1 => pb (sn n d l1) fun xs l2 => gQ (mkS (hd l) 11 (bs u.text) rt0 pl0 x0 0 xs [] []) l2) = some x) : Rd 124 [] ts d d l eK x := by
 have e67 := fun b (Y : St) hb => aE (ef h d 0 0 0 (b := b)) (s := Y) hb
 have g0 := fun b (Y : St) hb => aE (aG hr h d [108, 111, 111, 112] (b := b)) (s := Y) hb
 have g1 := fun b (Y : St) hb => aE (aG hr h d [105, 102] (b := b)) (s := Y) hb
 have g2 := fun b (Y : St) hb => aE (aG hr h d [97, 116, 111, 109, 105, 99] (b := b)) (s := Y) hb
 have g3 := fun b (Y : St) hb => aE (j8 h d 0 0 0 [108, 101, 116] (b := b)) (s := Y) hb
 have g4 := fun b (Y : St) hb => aE (j8 h d 0 0 0 [118, 97, 114] (b := b)) (s := Y) hb
 have g5 := fun b (Y : St) hb => aE (aG hr h d [115, 101, 116] (b := b)) (s := Y) hb
 have g6 := fun b (Y : St) hb => aE (aG hr h d [112, 114, 105, 110, 116] (b := b)) (s := Y) hb
 have g7 := fun b (Y : St) hb => aE (aG hr h d [98, 114, 101, 97, 107] (b := b)) (s := Y) hb
 have g8 := fun b (Y : St) hb => aE (aG hr h d [99, 111, 110, 116, 105, 110, 117, 101] (b := b)) (s := Y) hb
 have g9 := fun b (Y : St) hb => aE (aG hr h d [99, 97, 108, 108] (b := b)) (s := Y) hb
 have k1' : ¬ (((hd l).kind : Int) = 1) := by omega
 have s0 := h.isT hr pk; have h1 := ir hr s0 d 1
 cases x1 : eU 1 l.tail with
 | bad e q =>
  obtain rfl := cd hx x1; obtain ⟨a', d'', eb⟩ := bN h1 x1; refine ⟨a', d'', fun b Y hb => ?_⟩; have eb := eb hb; have e67 := e67 b Y hb; have f0 := g0 b Y hb; have f1 := g1 b Y hb; have f2 := g2 b Y hb; have f3 := g3 b Y hb; have f4 := g4 b Y hb; have f5 := g5 b Y hb; have f6 := g6 b Y hb; have f7 := g7 b Y hb; have f8 := g8 b Y hb; have f9 := g9 b Y hb; rw [dE]; obtain ⟨N, T, Lb, hN, hT, hL⟩ := lens3 Y; rw [hN] at hb
  conv => lhs; rw [← al (Y.af false b (pc ts l d))]
  simp only [pc, pcf, aV, Tok.c, bw, ab, if_true, if_false, ae, cD, eQ, fg, eK, cM, fK, ga, p0, p1, p2, p3, p4, p5, p6, p7, p8, pk] at e67 f0 f1 f2 f3 f4 f5 f6 f7 f8 f9 eb ⊢
  generalize az ts = es at *
  simp (maxDischargeDepth := 8) [iw, hN, hT, hL, hb, e67, f0, f1, f2, f3, f4, f5, f6, f7, f8, f9, eb, p0, p1, p2, p3, p4, p5, p6, p7, p8, pk, k1, k1']
 | ok u1 l1 =>
  have hx := cO hx x1
  try dsimp only at hx
  have s1 := bS h1 x1; obtain ⟨y2, hy2⟩ := dP hx; rw [hy2] at hx; have h2 := ES hr ihe hd12 hn s1 hy2
  cases y2 with
  | bad e q =>
   obtain rfl := cd hx rfl; obtain ⟨a', d'', eb⟩ := bN h2 rfl; refine ⟨a', d'', fun b Y hb => ?_⟩; have eb := eb hb; have e67 := e67 b Y hb; have f0 := g0 b Y hb; have f1 := g1 b Y hb; have f2 := g2 b Y hb; have f3 := g3 b Y hb; have f4 := g4 b Y hb; have f5 := g5 b Y hb; have f6 := g6 b Y hb; have f7 := g7 b Y hb; have f8 := g8 b Y hb; have f9 := g9 b Y hb; have e1 := aX h1 x1 hb; rw [dE]; obtain ⟨N, T, Lb, hN, hT, hL⟩ := lens3 Y; rw [hN] at hb
   conv => lhs; rw [← al (Y.af false b (pc ts l d))]
   simp only [pc, pcf, aV, Tok.c, bw, ab, if_true, if_false, ae, cD, eQ, fg, eK, cM, fK, ga, p0, p1, p2, p3, p4, p5, p6, p7, p8, pk] at e67 f0 f1 f2 f3 f4 f5 f6 f7 f8 f9 e1 eb ⊢
   generalize az ts = es at *
   simp (maxDischargeDepth := 8) [iw, hN, hT, hL, hb, e67, f0, f1, f2, f3, f4, f5, f6, f7, f8, f9, e1, eb, p0, p1, p2, p3, p4, p5, p6, p7, p8, pk, k1, k1']
  | ok xs2 l2 =>
   have hx := cO hx rfl
   try dsimp only at hx
   have s2 := bS h2 rfl; unfold gQ at hx; have h3 := fe hr s2 d [59]
   cases x3 : dJ [59] l2 with
   | bad e q =>
    obtain rfl := cd hx x3; obtain ⟨a', d'', eb⟩ := bN h3 x3; refine ⟨a', d'', fun b Y hb => ?_⟩; have eb := eb hb; have e67 := e67 b Y hb; have f0 := g0 b Y hb; have f1 := g1 b Y hb; have f2 := g2 b Y hb; have f3 := g3 b Y hb; have f4 := g4 b Y hb; have f5 := g5 b Y hb; have f6 := g6 b Y hb; have f7 := g7 b Y hb; have f8 := g8 b Y hb; have f9 := g9 b Y hb; have e1 := aX h1 x1 hb; have e2 := aX h2 rfl hb; rw [dE]; obtain ⟨N, T, Lb, hN, hT, hL⟩ := lens3 Y; rw [hN] at hb
    conv => lhs; rw [← al (Y.af false b (pc ts l d))]
    simp only [pc, pcf, aV, Tok.c, bw, ab, if_true, if_false, ae, cD, eQ, fg, eK, cM, fK, ga, p0, p1, p2, p3, p4, p5, p6, p7, p8, pk] at e67 f0 f1 f2 f3 f4 f5 f6 f7 f8 f9 e1 e2 eb ⊢
    generalize az ts = es at *
    simp (maxDischargeDepth := 8) [iw, hN, hT, hL, hb, e67, f0, f1, f2, f3, f4, f5, f6, f7, f8, f9, e1, e2, eb, p0, p1, p2, p3, p4, p5, p6, p7, p8, pk, k1, k1']
   | ok u3 l3 =>
    have hx := cO hx x3
    try dsimp only at hx
    have s3 := bS h3 x3; obtain rfl := Option.some.inj hx; refine ⟨s3, fun b Y hb => ?_⟩; have e67 := e67 b Y hb; have f0 := g0 b Y hb; have f1 := g1 b Y hb; have f2 := g2 b Y hb; have f3 := g3 b Y hb; have f4 := g4 b Y hb; have f5 := g5 b Y hb; have f6 := g6 b Y hb; have f7 := g7 b Y hb; have f8 := g8 b Y hb; have f9 := g9 b Y hb; have e1 := aX h1 x1 hb; have e2 := aX h2 rfl hb; have e3 := aX h3 x3 hb; rw [dE]; obtain ⟨N, T, Lb, hN, hT, hL⟩ := lens3 Y; rw [hN] at hb
    conv => lhs; rw [← al (Y.af false b (pc ts l d))]
    simp only [pc, pcf, aV, Tok.c, bw, ab, if_true, if_false, ae, cD, eQ, fg, eK, cM, fK, ga, p0, p1, p2, p3, p4, p5, p6, p7, p8, pk] at e67 f0 f1 f2 f3 f4 f5 f6 f7 f8 f9 e1 e2 e3 ⊢
    generalize az ts = es at *
    simp (maxDischargeDepth := 8) [iw, hN, hT, hL, hb, e67, f0, f1, f2, f3, f4, f5, f6, f7, f8, f9, e1, e2, e3, p0, p1, p2, p3, p4, p5, p6, p7, p8, pk, k1, k1']
theorem BG {d : Nat} {l : List Tok} {x : PR S} (hd12 : d ≤ 12) (h : Sfx ts l) (k1 : (hd l).kind ≠ 1) (p0 : isT l [108, 111, 111, 112] = false) (p1 : isT l [105, 102] = false) (p2 : isT l [97, 116, 111, 109, 105, 99] = false) (p3 : isT l [108, 101, 116] = false) (p4 : isT l [118, 97, 114] = false) (p5 : isT l [115, 101, 116] = false) (p6 : isT l [112, 114, 105, 110, 116] = false) (p7 : isT l [98, 114, 101, 97, 107] = false) (p8 : isT l [99, 111, 110, 116, 105, 110, 117, 101] = false) (p9 : isT l [99, 97, 108, 108] = false)  (hx : some (.bad 4 (hd l).p) = some x) : Rd 124 [] ts d d l eK x := by
 have e67 := fun b (Y : St) hb => aE (ef h d 0 0 0 (b := b)) (s := Y) hb
 have k1' : ¬ (((hd l).kind : Int) = 1) := by omega
 obtain rfl := Option.some.inj hx; refine ⟨pcA ts l, d, fun b Y hb => ?_⟩; have e74 := aE (oi (az ts) (pcA ts l) d 4 (hd l) (b := b)) hb; have e67 := e67 b Y hb; have f0 := aE (aG hr h d [108, 111, 111, 112] (b := b)) (s := Y) hb; have f1 := aE (aG hr h d [105, 102] (b := b)) (s := Y) hb; have f2 := aE (aG hr h d [97, 116, 111, 109, 105, 99] (b := b)) (s := Y) hb; have f3 := aE (j8 h d 0 0 0 [108, 101, 116] (b := b)) (s := Y) hb; have f4 := aE (j8 h d 0 0 0 [118, 97, 114] (b := b)) (s := Y) hb; have f5 := aE (aG hr h d [115, 101, 116] (b := b)) (s := Y) hb; have f6 := aE (aG hr h d [112, 114, 105, 110, 116] (b := b)) (s := Y) hb; have f7 := aE (aG hr h d [98, 114, 101, 97, 107] (b := b)) (s := Y) hb; have f8 := aE (aG hr h d [99, 111, 110, 116, 105, 110, 117, 101] (b := b)) (s := Y) hb; have f9 := aE (aG hr h d [99, 97, 108, 108] (b := b)) (s := Y) hb; have e74 := e74; rw [dE]; obtain ⟨N, T, Lb, hN, hT, hL⟩ := lens3 Y; rw [hN] at hb
 conv => lhs; rw [← al (Y.af false b (pc ts l d))]
 simp only [pc, pcf, aV, Tok.c, bw, ab, if_true, if_false, ae, cD, eQ, fg, eK, cM, fK, p0, p1, p2, p3, p4, p5, p6, p7, p8, p9] at e67 f0 f1 f2 f3 f4 f5 f6 f7 f8 f9 e74 ⊢
 generalize az ts = es at *
 simp (maxDischargeDepth := 8) [iw, hN, hT, hL, hb, e67, f0, f1, f2, f3, f4, f5, f6, f7, f8, f9, e74, p0, p1, p2, p3, p4, p5, p6, p7, p8, p9, k1, k1']
end
end Go.Proofs.YtlhlijaondmccaaGreatDoor.S
namespace Go.Proofs.YtlhlijaondmccaaGreatDoor.S
open Go Go.AM Go.Proofs
theorem FU {ts : List Tok} (hr : Row ts) {n : Nat} (hn : n ≤ 1000000) (ihe : nq ts n) (ih : si ts n) : ∀ d l x, d ≤ 12 → Sfx ts l → mm (n + 1) d l = some x → Rd 124 [] ts d d l eK x := by
 intro d l x hd12 h hx; simp only [mm] at hx
 by_cases k1 : (hd l).kind = 1
 · rw [if_pos k1] at hx
   exact BF hr hn ihe ih hd12 h k1 hx
 rw [if_neg k1] at hx
 cases p0 : isT l [108, 111, 111, 112] with
 | true => rw [if_pos p0] at hx; exact BE hr hn ihe ih hd12 h k1 p0 hx
 | false =>
 rw [if_neg (by rw [p0]; decide)] at hx
 cases p1 : isT l [105, 102] with
 | true => rw [if_pos p1] at hx; exact FT hr hn ihe ih hd12 h k1 p0 p1 hx
 | false =>
 rw [if_neg (by rw [p1]; decide)] at hx
 cases p2 : isT l [97, 116, 111, 109, 105, 99] with
 | true => rw [if_pos p2] at hx; exact xw hr hn ihe ih hd12 h k1 p0 p1 p2 hx
 | false =>
 rw [if_neg (by rw [p2]; decide)] at hx
 cases p3 : isT l [108, 101, 116] with
 | true =>
  rw [if_pos (dx p3), if_neg (by rw [pY p3]; decide)] at hx; exact DL hr hn ihe ih hd12 h k1 p0 p1 p2 p3 hx
 | false =>
 cases p4 : isT l [118, 97, 114] with
 | true =>
  rw [if_pos (dq p4), if_pos (pY p4)] at hx; exact DN hr hn ihe ih hd12 h k1 p0 p1 p2 p3 p4 hx
 | false =>
 rw [if_neg (by rw [p3, p4]; decide)] at hx
 cases p5 : isT l [115, 101, 116] with
 | true => rw [if_pos p5] at hx; exact DM hr hn ihe ih hd12 h k1 p0 p1 p2 p3 p4 p5 hx
 | false =>
 rw [if_neg (by rw [p5]; decide)] at hx
 cases p6 : isT l [112, 114, 105, 110, 116] with
 | true => rw [if_pos p6] at hx; exact yH hr hn ihe ih hd12 h k1 p0 p1 p2 p3 p4 p5 p6 hx
 | false =>
 rw [if_neg (by rw [p6]; decide)] at hx
 cases p7 : isT l [98, 114, 101, 97, 107] with
 | true => rw [if_pos p7] at hx; exact yG hr hn ihe ih hd12 h k1 p0 p1 p2 p3 p4 p5 p6 p7 hx
 | false =>
 rw [if_neg (by rw [p7]; decide)] at hx
 cases p8 : isT l [99, 111, 110, 116, 105, 110, 117, 101] with
 | true => rw [if_pos p8] at hx; exact tP hr hn ihe ih hd12 h k1 p0 p1 p2 p3 p4 p5 p6 p7 p8 hx
 | false =>
 rw [if_neg (by rw [p8]; decide)] at hx
 cases p9 : isT l [99, 97, 108, 108] with
 | true => rw [if_pos p9] at hx; exact BD hr hn ihe ih hd12 h k1 p0 p1 p2 p3 p4 p5 p6 p7 p8 p9 hx
 | false =>
 rw [if_neg (by rw [p9]; decide)] at hx; exact BG hr hn ihe ih hd12 h k1 p0 p1 p2 p3 p4 p5 p6 p7 p8 p9 hx
theorem DJ {ts : List Tok} (hr : Row ts) : ∀ n, n ≤ 1000000 → si ts n ∧ ∀ d acc l x, d ≤ 12 → acc.length + n ≤ 1000000 → Sfx ts l → oH n d acc l = some x → El ts d acc l x
 | 0, _ => by
  refine ⟨⟨?_, ?_, ?_⟩, ?_⟩
  · intro d l x _ _ h; simp [fX] at h
  · intro d t name l x _ _ h; simp [jI] at h
  · intro d l x _ _ h; simp [mm] at h
  · intro d acc l x _ _ _ h; simp [oH] at h
 | n + 1, hn => by
  obtain ⟨i, r⟩ := DJ hr n (by omega); obtain ⟨e, _⟩ := zA hr n; exact ⟨⟨Cp hr (by omega) r, fun d t name l x h1 h2 h3 => Ft hr i d t name l x h1 h2 h3, FU hr (by omega) e i⟩, Hz hr i r⟩
abbrev nmC (x : Nm) : List PV := [.v (.string x.name), .v (.int .i64 x.ty.kd), .v (.string x.ty.rc), .v (.int .i64 x.line), .v (.int .i64 x.col)]
def nms (l : List Nm) : List (List PV) := l.map nmC
theorem qT (l : List Nm) : dr 5 (nms l) = true := jJ nmC (fun _ => rfl) l
theorem vz (a b : List Nm) : nms (a ++ b) = nms a ++ nms b := List.map_append ..
theorem fY (a : List Nm) : (nms a).length = a.length := List.length_map ..
abbrev jZ (r : Rec) : PV := .agg [.v (.string r.name), .sl (nms r.fields) .dead, .v (.int .i64 r.line), .v (.int .i64 r.col)]
attribute [local simp] cZ cy bX bY cz eI fu dX di dV de dW dh ft bZ hZ dR ib gU gN AM.aa aN aO bf aP aw AM.onG fR bH dw Ex.ba cond_true cond_false cV cU cT cS cR cX cQ cY cW dY dj dm cx da AM.du AM.cellsOf AM.an bQ beq_true dr ag aC bj bx bU decide_true decide_false bI bn br bD bg aB aA bh aD db dc fm av bE aY bR cC dQ dT cL eB eA set_set eG dB fI dC cI bK dA cH dz cG dy eF eH fE fF bO cv eu fD dZ aZ aT aI AM.aS ai dt bW aW bc aL aK AM.part aQ aM cc cn cm cr cr.eT AM.dM bu bV eg gm aZ laid aH bm cq
attribute [-simp] ah
attribute [local congr] ej
def Gy (ts : List Tok) (d : Nat) (acc : List Nm) (l : List Tok) (x : PR (List Nm)) : Prop := match x with
 | .ok xs l' => Sfx ts l' ∧ ∀ b (Y : St), b < Y.stk.length → ∀ N T Lb, Y.stk.length = N → Y.tk.length = T → Y.lp.length = Lb → ∀ c tk (B0 B1 : List PV) (nm : ByteArray) (ln cl : Int), ig T tk c acc.length 5 → ∃ c' tk',
  itE (S69.b0 (E L) itE N Lb) [.ptr false b 0, .ptr false N 0, .ptr false (N + 2) 0] ((Y.af false b (pc ts l d)).app [⟨B0, []⟩, ⟨B1, []⟩, ⟨[.v (.string nm), .sl (nms acc) c, .v (.int .i64 ln), .v (.int .i64 cl)], []⟩] tk []) =
   some (.exit 0, [.ptr false b 0, .ptr false N 0, .ptr false (N + 2) 0], (Y.af false b (pc ts l' d)).app [⟨B0, []⟩, ⟨B1, []⟩, ⟨[.v (.string nm), .sl (nms xs) c', .v (.int .i64 ln), .v (.int .i64 cl)], []⟩] tk' [])
 | .bad er p => ∃ a' d'', ∀ b (Y : St), b < Y.stk.length → ∀ N T Lb, Y.stk.length = N → Y.tk.length = T → Y.lp.length = Lb → ∀ c tk (B0 B1 : List PV) (nm : ByteArray) (ln cl : Int), ig T tk c acc.length 5 → ∃ B2 tk',
  itE (S69.b0 (E L) itE N Lb) [.ptr false b 0, .ptr false N 0, .ptr false (N + 2) 0] ((Y.af false b (pc ts l d)).app [⟨B0, []⟩, ⟨B1, []⟩, ⟨[.v (.string nm), .sl (nms acc) c, .v (.int .i64 ln), .v (.int .i64 cl)], []⟩] tk []) =
   some (.pan 108 (.agg #[]), [.ptr false b 0, .ptr false N 0, .ptr false (N + 2) 0], (Y.af false b (pcf (az ts) a' d'' er p.1 p.2)).app [⟨B0, []⟩, ⟨B1, []⟩, ⟨B2, []⟩] tk' [])
section
variable {ts : List Tok} (hr : Row ts)
include hr
theorem wz {d : Nat} : ∀ n acc l x, acc.length + n ≤ 1000000 → Sfx ts l → iM n acc l = some x → Gy ts d acc l x := by
 intro n
 induction n with
 | zero => intro acc l x _ _ hx; simp [iM] at hx
 | succ n ih =>
  intro acc l x hac h hx; simp only [iM] at hx
  cases i1 : isT l [125] with
  | true =>
   rw [if_pos i1] at hx; obtain rfl := Option.some.inj hx; refine ⟨h.isT hr i1, fun b Y hb N T Lb hN hT hL c tk B0 B1 nm ln cl ho => ⟨c, tk, ?_⟩⟩; have e1 := aE (aG hr h d [125] (b := b)) (s := Y) hb; simp only [pc, pcf, i1, if_true] at e1 ⊢
   generalize az ts = es at *
   apply fk; simp [S69.b0, hN, hT, hL, hb, e1, i1]
  | false =>
   rw [if_neg (by rw [i1]; decide)] at hx; obtain ⟨y, hy⟩ := dP hx; rw [hy] at hx; have h2 := sP hr h d hy
   cases y with
   | bad er q =>
    obtain rfl := cd hx rfl; obtain ⟨a', d'', eb⟩ := bN h2 rfl; refine ⟨a', d'', fun b Y hb N T Lb hN hT hL c tk B0 B1 nm ln cl ho => ⟨[.v (.string nm), .sl (nms acc) c, .v (.int .i64 ln), .v (.int .i64 cl)], tk, ?_⟩⟩; have e1 := aE (aG hr h d [125] (b := b)) (s := Y) hb; have eb := eb hb; simp only [pc, pcf, i1, if_false, ae] at e1 eb ⊢
    generalize az ts = es at *
    apply jk; simp [S69.b0, hN, hT, hL, hb, e1, eb, i1]
   | ok s l1 =>
    have hx := cO hx rfl
    try dsimp only at hx
    have s1 := bS h2 rfl
    have own : ∀ (b : Nat) (Y : St) (T : Nat), Y.tk.length = T → ∀ c tk, ig T tk c acc.length 5 → ∃ c' tk', (∀ (bl : List Blk) (lp : List Aux) (base : Nat) (z : List PV), cj base z 5 56 (.sl (nms acc) c) [nmC s] ((Y.af false b (pc ts l1 d)).app bl tk lp) = some (.sl (nms (acc ++ [s])) c', (Y.af false b (pc ts l1 d)).app bl tk' lp)) ∧ ig T tk' c' (acc ++ [s]).length 5 := by
     intro b Y T hT c tk ho; rw [← fY] at ho; have := ho.grow (ys := [nmC s]) (bytes := 56) (b := b) (cs := pc ts l1 d) hT (by rw [fY, bC]; unfold cu; omega) (qT _) (qT [s]) (by omega) (by omega); rw [vz]; simpa [fY, nms] using this
    have h3 := fe hr s1 d [59]
    cases x3 : dJ [59] l1 with
    | bad er q =>
     obtain rfl := cd hx x3; obtain ⟨a', d'', eb⟩ := bN h3 x3; refine ⟨a', d'', fun b Y hb N T Lb hN hT hL c tk B0 B1 nm ln cl ho => ?_⟩; obtain ⟨c', tk', ea, _⟩ := own b Y T hT c tk ho; refine ⟨[.v (.string nm), .sl (nms (acc ++ [s])) c', .v (.int .i64 ln), .v (.int .i64 cl)], tk', ?_⟩; have e1 := aE (aG hr h d [125] (b := b)) (s := Y) hb; have e2 := aX h2 rfl hb; have eb := eb hb; simp only [pc, pcf, aV, iS, iT, nmC, i1, if_false, ae] at e1 e2 ea eb ⊢
     generalize az ts = es at *
     apply jk; simp [S69.b0, hN, hT, hL, hb, e1, e2, bM, ea, eb, i1, aF, iP, fZ, AM.cw, AM.ec, chunks]
    | ok u l3 =>
     have hx := cO hx x3
     try dsimp only at hx
     have s3 := bS h3 x3; have h4 := ih (acc ++ [s]) l3 x (by simp only [ay, bC]; omega) s3 hx
     have stp : ∀ b (Y : St), b < Y.stk.length → ∀ N T Lb, Y.stk.length = N → Y.tk.length = T → Y.lp.length = Lb → ∀ c tk (B0 B1 : List PV) (nm : ByteArray) (ln cl : Int), ig T tk c acc.length 5 → ∃ c' tk', ig T tk' c' (acc ++ [s]).length 5 ∧
      S69.b0 (E L) itE N Lb [.ptr false b 0, .ptr false N 0, .ptr false (N + 2) 0] ((Y.af false b (pc ts l d)).app [⟨B0, []⟩, ⟨B1, []⟩, ⟨[.v (.string nm), .sl (nms acc) c, .v (.int .i64 ln), .v (.int .i64 cl)], []⟩] tk []) =
       some (.normal, [.ptr false b 0, .ptr false N 0, .ptr false (N + 2) 0], (Y.af false b (pc ts l3 d)).app [⟨B0, []⟩, ⟨B1, []⟩, ⟨[.v (.string nm), .sl (nms (acc ++ [s])) c', .v (.int .i64 ln), .v (.int .i64 cl)], []⟩] tk' []) := by
      intro b Y hb N T Lb hN hT hL c tk B0 B1 nm ln cl ho; obtain ⟨c', tk', ea, ho'⟩ := own b Y T hT c tk ho; refine ⟨c', tk', ho', ?_⟩; have e1 := aE (aG hr h d [125] (b := b)) (s := Y) hb; have e2 := aX h2 rfl hb; have e3 := aX h3 x3 hb; simp only [pc, pcf, aV, iS, iT, nmC, i1, if_false, ae] at e1 e2 e3 ea ⊢
      generalize az ts = es at *
      simp [S69.b0, hN, hT, hL, hb, e1, e2, e3, bM, ea, i1, aF, iP, fZ, AM.cw, AM.ec, chunks]
     cases x with
     | ok xs l' =>
      refine ⟨h4.1, fun b Y hb N T Lb hN hT hL c tk B0 B1 nm ln cl ho => ?_⟩; obtain ⟨c1, tk1, ho1, hs⟩ := stp b Y hb N T Lb hN hT hL c tk B0 B1 nm ln cl ho; obtain ⟨c', tk', hit⟩ := h4.2 b Y hb N T Lb hN hT hL c1 tk1 B0 B1 nm ln cl ho1; exact ⟨c', tk', (bP hs).trans hit⟩
     | bad er p =>
      obtain ⟨a', d'', h4⟩ := h4; refine ⟨a', d'', fun b Y hb N T Lb hN hT hL c tk B0 B1 nm ln cl ho => ?_⟩; obtain ⟨c1, tk1, ho1, hs⟩ := stp b Y hb N T Lb hN hT hL c tk B0 B1 nm ln cl ho; obtain ⟨z, tk', hit⟩ := h4 b Y hb N T Lb hN hT hL c1 tk1 B0 B1 nm ln cl ho1; exact ⟨z, tk', (bP hs).trans hit⟩
theorem Hy {d n : Nat} {l : List Tok} {x : PR Rec} (hn : n ≤ 1000000) (h : Sfx ts l) (hx : yA n l = some x) : Rd 69 [] ts d d l jZ x := by
 unfold yA at hx; have h1 := ir hr h d 1
 cases x1 : eU 1 l with
 | bad e q =>
  obtain rfl := cd hx x1; obtain ⟨a', d'', eb⟩ := bN h1 x1; refine ⟨a', d'', fun b Y hb => ?_⟩; have eb := eb hb; rw [uV]; obtain ⟨N, T, Lb, hN, hT, hL⟩ := lens3 Y; rw [hN] at hb
  conv => lhs; rw [← al (Y.af false b (pc ts l d))]
  simp only [pc, pcf, aV, Tok.c, bw, ab] at eb ⊢
  generalize az ts = es at *
  simp [S69, hN, hT, hL, hb, eb]
 | ok t l1 =>
  have hx := cO hx x1
  try dsimp only at hx
  have s1 := bS h1 x1; have h2 := fe hr s1 d [123]
  cases x2 : dJ [123] l1 with
  | bad e q =>
   obtain rfl := cd hx x2; obtain ⟨a', d'', eb⟩ := bN h2 x2; refine ⟨a', d'', fun b Y hb => ?_⟩; have e1 := aX h1 x1 hb; have eb := eb hb; rw [uV]; obtain ⟨N, T, Lb, hN, hT, hL⟩ := lens3 Y; rw [hN] at hb
   conv => lhs; rw [← al (Y.af false b (pc ts l d))]
   simp only [pc, pcf, aV, Tok.c, bw, ab] at e1 eb ⊢
   generalize az ts = es at *
   simp [S69, hN, hT, hL, hb, e1, eb]
  | ok u l2 =>
   have hx := cO hx x2
   try dsimp only at hx
   have s2 := bS h2 x2; obtain ⟨y, hy⟩ := dP hx; rw [hy] at hx; have h3 := wz hr (d := d) n [] l2 y (by simpa using hn) s2 hy
   cases y with
   | bad er q =>
    obtain rfl := cd hx rfl; obtain ⟨a', d'', h3⟩ := h3; refine ⟨a', d'', fun b Y hb => ?_⟩; have e1 := aX h1 x1 hb; have e2 := aX h2 x2 hb; obtain ⟨z, tk', hit⟩ := h3 b Y hb _ _ _ rfl rfl rfl .nil [] [str [], .sl [] .nil, .v (.int .i64 0), .v (.int .i64 0)] t.c (bs t.text) t.p.1 t.p.2 (.inl (.inl rfl)); rw [uV]; obtain ⟨N, T, Lb, hN, hT, hL⟩ := lens3 Y; rw [hN] at hb; rw [hN] at hit
    conv => lhs; rw [← al (Y.af false b (pc ts l d))]
    rw [hL] at hit; simp only [pc, pcf, aV, Tok.c, bw, ab, nms, bc] at e1 e2 hit ⊢
    generalize az ts = es at *
    simp [S69, hN, hT, hL, hb, e1, e2, hit, Ex.ba]
   | ok fs l3 =>
    obtain rfl := Option.some.inj (cO hx rfl); refine ⟨h3.1, fun b Y hb => ?_⟩; have e1 := aX h1 x1 hb; have e2 := aX h2 x2 hb; obtain ⟨c', tk', hit⟩ := h3.2 b Y hb _ _ _ rfl rfl rfl .nil [] [str [], .sl [] .nil, .v (.int .i64 0), .v (.int .i64 0)] t.c (bs t.text) t.p.1 t.p.2 (.inl (.inl rfl)); rw [uV]; obtain ⟨N, T, Lb, hN, hT, hL⟩ := lens3 Y; rw [hN] at hb; rw [hN] at hit
    conv => lhs; rw [← al (Y.af false b (pc ts l d))]
    rw [hL] at hit; simp only [pc, pcf, aV, Tok.c, bw, ab, nms, bc] at e1 e2 hit ⊢
    generalize az ts = es at *
    simp [S69, hN, hT, hL, hb, e1, e2, hit, Ex.ba]
    rfl
end
abbrev nf (r : Fu) : PV := .agg [.v (.string r.name), .sl (nms r.params) .dead, .sl (ep r.body) .dead, .v (.int .i64 r.line), .v (.int .i64 r.col)]
attribute [local simp] cZ cy bX bY cz eI fu dX di dV de dW dh ft bZ hZ dR ib gU gN AM.aa aN aO bf aP aw AM.onG fR bH dw Ex.ba cond_true cond_false cV cU cT cS cR cX cQ cY cW dY dj dm cx da AM.du AM.cellsOf AM.an bQ beq_true dr ag aC bj bx bU decide_true decide_false bI bn br bD bg aB aA bh aD db dc fm av bE aY bR cC dQ dT cL eB eA set_set eG dB fI dC cI bK dA cH dz cG dy eF eH fE fF bO cv eu fD dZ aZ aT aI AM.aS ai dt bW aW bc aL aK AM.part aQ aM cc cn cm cr cr.eT AM.dM bu bV eg gm aZ laid aH bm cq
attribute [local congr] ej
abbrev fuC (nm : ByteArray) (ps : List Nm) (c : Cap) (ln cl : Int) : List PV := [.v (.string nm), .sl (nms ps) c, .sl [] .nil, .v (.int .i64 ln), .v (.int .i64 cl)]
def GC (ts : List Tok) (d : Nat) (acc : List Nm) (l : List Tok) (x : PR (List Nm)) : Prop := match x with
 | .ok xs l' => Sfx ts l' ∧ ∀ b (Y : St), b < Y.stk.length → ∀ N T Lb, Y.stk.length = N → Y.tk.length = T → Y.lp.length = Lb → ∀ c tk (B0 B1 : List PV) (nm : ByteArray) (ln cl : Int), ig T tk c acc.length 5 → ∃ c' tk',
  itE (S72.b0 (E L) itE N Lb) [.ptr false b 0, .ptr false N 0, .ptr false (N + 2) 0] ((Y.af false b (pc ts l d)).app [⟨B0, []⟩, ⟨B1, []⟩, ⟨fuC nm acc c ln cl, []⟩] tk []) =
   some (.exit 0, [.ptr false b 0, .ptr false N 0, .ptr false (N + 2) 0], (Y.af false b (pc ts l' d)).app [⟨B0, []⟩, ⟨B1, []⟩, ⟨fuC nm xs c' ln cl, []⟩] tk' [])
 | .bad er p => ∃ a' d'', ∀ b (Y : St), b < Y.stk.length → ∀ N T Lb, Y.stk.length = N → Y.tk.length = T → Y.lp.length = Lb → ∀ c tk (B0 B1 : List PV) (nm : ByteArray) (ln cl : Int), ig T tk c acc.length 5 → ∃ B2 tk',
  itE (S72.b0 (E L) itE N Lb) [.ptr false b 0, .ptr false N 0, .ptr false (N + 2) 0] ((Y.af false b (pc ts l d)).app [⟨B0, []⟩, ⟨B1, []⟩, ⟨fuC nm acc c ln cl, []⟩] tk []) =
   some (.pan 108 (.agg #[]), [.ptr false b 0, .ptr false N 0, .ptr false (N + 2) 0], (Y.af false b (pcf (az ts) a' d'' er p.1 p.2)).app [⟨B0, []⟩, ⟨B1, []⟩, ⟨B2, []⟩] tk' [])
section
variable {ts : List Tok} (hr : Row ts)
include hr
theorem wZ {d : Nat} : ∀ n acc l x, acc.length + n ≤ 1000000 → Sfx ts l → iu n acc l = some x → GC ts d acc l x := by
 intro n
 induction n with
 | zero => intro acc l x _ _ hx; simp [iu] at hx
 | succ n ih =>
  intro acc l x hac h hx; simp only [iu] at hx; obtain ⟨y, hy⟩ := dP hx; rw [hy] at hx; have h2 := sP hr h d hy
  cases y with
  | bad er q =>
   obtain rfl := cd hx rfl; obtain ⟨a', d'', eb⟩ := bN h2 rfl; refine ⟨a', d'', fun b Y hb N T Lb hN hT hL c tk B0 B1 nm ln cl ho => ⟨fuC nm acc c ln cl, tk, ?_⟩⟩; have eb := eb hb; simp only [pc, pcf, fuC] at eb ⊢
   generalize az ts = es at *
   apply jk; simp [S72.b0, hN, hT, hL, hb, eb]
  | ok s l1 =>
   have hx := cO hx rfl
   try dsimp only at hx
   have s1 := bS h2 rfl
   have own : ∀ (b : Nat) (Y : St) (T : Nat), Y.tk.length = T → ∀ c tk, ig T tk c acc.length 5 → ∃ c' tk', (∀ (bl : List Blk) (lp : List Aux) (base : Nat) (z : List PV), cj base z 5 56 (.sl (nms acc) c) [nmC s] ((Y.af false b (pc ts l1 d)).app bl tk lp) = some (.sl (nms (acc ++ [s])) c', (Y.af false b (pc ts l1 d)).app bl tk' lp)) ∧ ig T tk' c' (acc ++ [s]).length 5 := by
    intro b Y T hT c tk ho; rw [← fY] at ho; have := ho.grow (ys := [nmC s]) (bytes := 56) (b := b) (cs := pc ts l1 d) hT (by rw [fY, bC]; unfold cu; omega) (qT _) (qT [s]) (by omega) (by omega); rw [vz]; simpa [fY, nms] using this
   cases i1 : isT l1 [41] with
   | true =>
    rw [if_pos i1] at hx; obtain rfl := Option.some.inj hx; refine ⟨s1.isT hr i1, fun b Y hb N T Lb hN hT hL c tk B0 B1 nm ln cl ho => ?_⟩; obtain ⟨c', tk', ea, _⟩ := own b Y T hT c tk ho; refine ⟨c', tk', ?_⟩; have e1 := aE (aG hr s1 d [41] (b := b)) (s := Y) hb; have e2 := aX h2 rfl hb; simp only [pc, pcf, fuC, iS, iT, nmC, i1, if_true] at e1 e2 ea ⊢
    generalize az ts = es at *
    apply fk; simp [S72.b0, hN, hT, hL, hb, e1, e2, bM, ea, i1, aF, iP, fZ, AM.cw, AM.ec, chunks, Ex.ba]
   | false =>
    rw [if_neg (by rw [i1]; decide)] at hx; have h3 := fe hr s1 d [44]
    cases x3 : dJ [44] l1 with
    | bad er q =>
     obtain rfl := cd hx x3; obtain ⟨a', d'', eb⟩ := bN h3 x3; refine ⟨a', d'', fun b Y hb N T Lb hN hT hL c tk B0 B1 nm ln cl ho => ?_⟩; obtain ⟨c', tk', ea, _⟩ := own b Y T hT c tk ho; refine ⟨fuC nm (acc ++ [s]) c' ln cl, tk', ?_⟩; have e1 := aE (aG hr s1 d [41] (b := b)) (s := Y) hb; have e2 := aX h2 rfl hb; have eb := eb hb; simp only [pc, pcf, fuC, aV, iS, iT, nmC, i1, if_false, ae] at e1 e2 ea eb ⊢
     generalize az ts = es at *
     apply jk; simp [S72.b0, hN, hT, hL, hb, e1, e2, bM, ea, eb, i1, aF, iP, fZ, AM.cw, AM.ec, chunks]
    | ok u l3 =>
     have hx := cO hx x3
     try dsimp only at hx
     have s3 := bS h3 x3; have h4 := ih (acc ++ [s]) l3 x (by simp only [ay, bC]; omega) s3 hx
     have stp : ∀ b (Y : St), b < Y.stk.length → ∀ N T Lb, Y.stk.length = N → Y.tk.length = T → Y.lp.length = Lb → ∀ c tk (B0 B1 : List PV) (nm : ByteArray) (ln cl : Int), ig T tk c acc.length 5 → ∃ c' tk', ig T tk' c' (acc ++ [s]).length 5 ∧
      S72.b0 (E L) itE N Lb [.ptr false b 0, .ptr false N 0, .ptr false (N + 2) 0] ((Y.af false b (pc ts l d)).app [⟨B0, []⟩, ⟨B1, []⟩, ⟨fuC nm acc c ln cl, []⟩] tk []) =
       some (.normal, [.ptr false b 0, .ptr false N 0, .ptr false (N + 2) 0], (Y.af false b (pc ts l3 d)).app [⟨B0, []⟩, ⟨B1, []⟩, ⟨fuC nm (acc ++ [s]) c' ln cl, []⟩] tk' []) := by
      intro b Y hb N T Lb hN hT hL c tk B0 B1 nm ln cl ho; obtain ⟨c', tk', ea, ho'⟩ := own b Y T hT c tk ho; refine ⟨c', tk', ho', ?_⟩; have e1 := aE (aG hr s1 d [41] (b := b)) (s := Y) hb; have e2 := aX h2 rfl hb; have e3 := aX h3 x3 hb; simp only [pc, pcf, fuC, aV, iS, iT, nmC, i1, if_false, ae] at e1 e2 e3 ea ⊢
      generalize az ts = es at *
      simp [S72.b0, hN, hT, hL, hb, e1, e2, e3, bM, ea, i1, aF, iP, fZ, AM.cw, AM.ec, chunks]
     cases x with
     | ok xs l' =>
      refine ⟨h4.1, fun b Y hb N T Lb hN hT hL c tk B0 B1 nm ln cl ho => ?_⟩; obtain ⟨c1, tk1, ho1, hs⟩ := stp b Y hb N T Lb hN hT hL c tk B0 B1 nm ln cl ho; obtain ⟨c', tk', hit⟩ := h4.2 b Y hb N T Lb hN hT hL c1 tk1 B0 B1 nm ln cl ho1; exact ⟨c', tk', (bP hs).trans hit⟩
     | bad er p =>
      obtain ⟨a', d'', h4⟩ := h4; refine ⟨a', d'', fun b Y hb N T Lb hN hT hL c tk B0 B1 nm ln cl ho => ?_⟩; obtain ⟨c1, tk1, ho1, hs⟩ := stp b Y hb N T Lb hN hT hL c tk B0 B1 nm ln cl ho; obtain ⟨z, tk', hit⟩ := h4 b Y hb N T Lb hN hT hL c1 tk1 B0 B1 nm ln cl ho1; exact ⟨z, tk', (bP hs).trans hit⟩
end
end Go.Proofs.YtlhlijaondmccaaGreatDoor.S
namespace Go.Proofs.YtlhlijaondmccaaGreatDoor.S
open Go Go.AM Go.Proofs
attribute [local simp] cZ cy bX bY cz eI fu dX di dV de dW dh ft bZ hZ dR ib gU gN AM.aa aN aO bf aP aw AM.onG fR bH dw Ex.ba cond_true cond_false cV cU cT cS cR cX cQ cY cW dY dj dm cx da AM.du AM.cellsOf AM.an bQ beq_true dr ag aC bj bx bU decide_true decide_false bI bn br bD bg aB aA bh aD db dc fm av bE aY bR cC dQ dT cL eB eA set_set eG dB fI dC cI bK dA cH dz cG dy eF eH fE fF bO cv eu fD dZ aZ aT aI AM.aS ai dt bW aW bc aL aK AM.part aQ aM cc cn cm cr cr.eT AM.dM bu bV eg gm aZ laid aH bm cq
attribute [-simp] ah
attribute [local congr] ej
theorem Hl {ts : List Tok} (hr : Row ts) {d n : Nat} (hd : d = 0) (hn : n ≤ 1000000) (ih : si ts n) {l : List Tok} {x : PR Fu} (h : Sfx ts l) (hx : AW n l = some x) : Rd 72 [] ts d d l nf x := by
 have hx : (pb (some (eU 1 l)) fun t l1 => pb (some (dJ [40] l1)) fun _ l2 =>
  pb (if isT l2 [41] then some (.ok [] l2.tail) else iu n [] l2) fun ps l3 => pb (fX n d l3) fun b l4 => some (.ok (⟨bs t.text, ps, b, t.p.1, t.p.2⟩ : Fu) l4)) = some x := by subst hd; exact hx
 have hd12 : d ≤ 12 := by omega
 have h1 := ir hr h d 1
 cases x1 : eU 1 l with
 | bad e q =>
  obtain rfl := cd hx x1; obtain ⟨a', d'', eb⟩ := bN h1 x1; refine ⟨a', d'', fun b Y hb => ?_⟩; have eb := eb hb; have eb := eb; rw [oO]; obtain ⟨N, T, Lb, hN, hT, hL⟩ := lens3 Y; rw [hN] at hb
  conv => lhs; rw [← al (Y.af false b (pc ts l d))]
  simp only [pc, pcf, aV, Tok.c, bw, fuC, cM, ab, nms, bc, if_true, if_false, ae] at eb ⊢
  generalize az ts = es at *
  simp [S72, hN, hT, hL, hb, eb, Ex.ba]
 | ok t l1 =>
  have hx := cO hx x1
  try dsimp only at hx
  have s1 := bS h1 x1; have h2 := fe hr s1 d [40]
  cases x2 : dJ [40] l1 with
  | bad e q =>
   obtain rfl := cd hx x2; obtain ⟨a', d'', eb⟩ := bN h2 x2; refine ⟨a', d'', fun b Y hb => ?_⟩; have eb := eb hb; have e1 := aX h1 x1 hb; have eb := eb; rw [oO]; obtain ⟨N, T, Lb, hN, hT, hL⟩ := lens3 Y; rw [hN] at hb
   conv => lhs; rw [← al (Y.af false b (pc ts l d))]
   simp only [pc, pcf, aV, Tok.c, bw, fuC, cM, ab, nms, bc, if_true, if_false, ae] at e1 eb ⊢
   generalize az ts = es at *
   simp [S72, hN, hT, hL, hb, e1, eb, Ex.ba]
  | ok u l2 =>
   have hx := cO hx x2
   try dsimp only at hx
   have s2 := bS h2 x2
   cases i3 : isT l2 [41] with
   | true =>
    rw [if_pos i3] at hx; have s3 := s2.isT hr i3; have hx := cO hx rfl
    try dsimp only at hx
    obtain ⟨z, hz⟩ := dP hx; rw [hz] at hx; have h5 := ih.blk _ _ _ hd12 s3 hz
    cases z with
    | bad e q =>
     obtain rfl := cd hx rfl; obtain ⟨a', d'', eb⟩ := bN h5 rfl; refine ⟨a', d'', fun b Y hb => ?_⟩; have eb := eb hb; have e1 := aX h1 x1 hb; have e2 := aX h2 x2 hb; have e3 := aE (aG hr s2 d [41] (b := b)) (s := Y) hb; have eb := eb; rw [oO]; obtain ⟨N, T, Lb, hN, hT, hL⟩ := lens3 Y; rw [hN] at hb
     conv => lhs; rw [← al (Y.af false b (pc ts l d))]
     simp only [pc, pcf, aV, Tok.c, bw, fuC, cM, ab, nms, bc, if_true, if_false, ae, i3] at e1 e2 e3 eb ⊢
     generalize az ts = es at *
     simp [S72, hN, hT, hL, hb, e1, e2, e3, eb, i3, Ex.ba]
    | ok bd l5 =>
     obtain rfl := Option.some.inj (cO hx rfl); refine ⟨bS h5 rfl, fun b Y hb => ?_⟩; have e1 := aX h1 x1 hb; have e2 := aX h2 x2 hb; have e3 := aE (aG hr s2 d [41] (b := b)) (s := Y) hb; have e5 := aX h5 rfl hb; rw [oO]; obtain ⟨N, T, Lb, hN, hT, hL⟩ := lens3 Y; rw [hN] at hb
     conv => lhs; rw [← al (Y.af false b (pc ts l d))]
     simp only [pc, pcf, aV, Tok.c, bw, fuC, cM, ab, nms, bc, if_true, if_false, ae, i3] at e1 e2 e3 e5 ⊢
     generalize az ts = es at *
     simp [S72, hN, hT, hL, hb, e1, e2, e3, e5, i3, Ex.ba]
     rfl
   | false =>
    rw [if_neg (by rw [i3]; decide)] at hx; obtain ⟨y, hy⟩ := dP hx; rw [hy] at hx; have h4 := wZ hr (d := d) n [] l2 y (by simpa using hn) s2 hy
    cases y with
    | bad er q =>
     obtain rfl := cd hx rfl; obtain ⟨a', d'', h4⟩ := h4; refine ⟨a', d'', fun b Y hb => ?_⟩; have e1 := aX h1 x1 hb; have e2 := aX h2 x2 hb; have e3 := aE (aG hr s2 d [41] (b := b)) (s := Y) hb; obtain ⟨z, tk', hit⟩ := h4 b Y hb _ _ _ rfl rfl rfl .nil [] [str [], .sl [] .nil, .sl [] .nil, .v (.int .i64 0), .v (.int .i64 0)] t.c (bs t.text) t.p.1 t.p.2 (.inl (.inl rfl)); rw [oO]; obtain ⟨N, T, Lb, hN, hT, hL⟩ := lens3 Y; rw [hN] at hb; rw [hN] at hit
     conv => lhs; rw [← al (Y.af false b (pc ts l d))]
     rw [hL] at hit; simp only [pc, pcf, aV, Tok.c, bw, fuC, cM, ab, nms, bc, if_true, if_false, ae, i3] at e1 e2 e3 hit ⊢
     generalize az ts = es at *
     simp [S72, hN, hT, hL, hb, e1, e2, e3, hit, i3, Ex.ba]
    | ok ps l4 =>
     have hx := cO hx rfl
     try dsimp only at hx
     have s4 := h4.1; obtain ⟨z, hz⟩ := dP hx; rw [hz] at hx; have h5 := ih.blk _ _ _ hd12 s4 hz
     cases z with
     | bad e q =>
      obtain rfl := cd hx rfl; obtain ⟨a', d'', eb⟩ := bN h5 rfl; refine ⟨a', d'', fun b Y hb => ?_⟩; have eb := eb hb; have e1 := aX h1 x1 hb; have e2 := aX h2 x2 hb; have e3 := aE (aG hr s2 d [41] (b := b)) (s := Y) hb; have eb := eb; obtain ⟨c', tk', hit⟩ := h4.2 b Y hb _ _ _ rfl rfl rfl .nil [] [str [], .sl [] .nil, .sl [] .nil, .v (.int .i64 0), .v (.int .i64 0)] t.c (bs t.text) t.p.1 t.p.2 (.inl (.inl rfl)); rw [oO]; obtain ⟨N, T, Lb, hN, hT, hL⟩ := lens3 Y; rw [hN] at hb; rw [hN] at hit
      conv => lhs; rw [← al (Y.af false b (pc ts l d))]
      rw [hL] at hit; simp only [pc, pcf, aV, Tok.c, bw, fuC, cM, ab, nms, bc, if_true, if_false, ae, i3] at e1 e2 e3 eb hit ⊢
      generalize az ts = es at *
      simp [S72, hN, hT, hL, hb, e1, e2, e3, eb, hit, i3, Ex.ba]
     | ok bd l5 =>
      obtain rfl := Option.some.inj (cO hx rfl); refine ⟨bS h5 rfl, fun b Y hb => ?_⟩; have e1 := aX h1 x1 hb; have e2 := aX h2 x2 hb; have e3 := aE (aG hr s2 d [41] (b := b)) (s := Y) hb; have e5 := aX h5 rfl hb; obtain ⟨c', tk', hit⟩ := h4.2 b Y hb _ _ _ rfl rfl rfl .nil [] [str [], .sl [] .nil, .sl [] .nil, .v (.int .i64 0), .v (.int .i64 0)] t.c (bs t.text) t.p.1 t.p.2 (.inl (.inl rfl)); rw [oO]; obtain ⟨N, T, Lb, hN, hT, hL⟩ := lens3 Y; rw [hN] at hb; rw [hN] at hit
      conv => lhs; rw [← al (Y.af false b (pc ts l d))]
      rw [hL] at hit; simp only [pc, pcf, aV, Tok.c, bw, fuC, cM, ab, nms, bc, if_true, if_false, ae, i3] at e1 e2 e3 e5 hit ⊢
      generalize az ts = es at *
      simp [S72, hN, hT, hL, hb, e1, e2, e3, e5, hit, i3, Ex.ba]
      rfl
end Go.Proofs.YtlhlijaondmccaaGreatDoor.S
namespace Go.Proofs.YtlhlijaondmccaaGreatDoor.S
open Go Go.AM Go.Proofs
theorem ig.zG {T : Nat} {tk : List (Nat × Nat)} {c : Cap} {sz bytes : Nat} {es ys : List (List PV)} (h : ig T tk c es.length sz) {b : Nat} {cs : List PV} {Y : St} (hT : Y.tk.length = T)
 (h1 : (es.length + ys.length) * bytes ≤ cu) (h2 : dr sz es = true) (h3 : dr sz ys = true) (h4 : sz ≠ 0) (h5 : bytes ≠ 0) :
 ∃ c' tk', (∀ (bl : List Blk) (lp : List Aux) (base : Nat) (z : List PV), cj base z sz bytes (.sl es c) ys ((Y.af false b cs).app bl tk lp) = some (.sl (es ++ ys) c', (Y.af false b cs).app bl tk' lp)) ∧ ig T tk' c' (es ++ ys).length sz ∧
  (∀ {c2 n2 sz2}, ig T tk c2 n2 sz2 → qA c c2 → ig T tk' c2 n2 sz2 ∧ qA c' c2) := by
 subst hT; obtain ⟨c', tk', a, b, _, d⟩ := vU (s := Y.af false b cs) h h1 h2 h3 h4 h5; exact ⟨c', tk', a, b, d⟩
theorem ig.sfc {T : Nat} {tk : List (Nat × Nat)} {c : Cap} {n sz : Nat} (h : ig T tk c n sz) (m : Nat) : c.sf true m = true := by
 rcases h with (rfl | rfl) | ⟨j, rfl, _⟩ <;> rfl
abbrev recC (r : Rec) : List PV := [.v (.string r.name), .sl (nms r.fields) .dead, .v (.int .i64 r.line), .v (.int .i64 r.col)]
abbrev fuE (r : Fu) : List PV := [.v (.string r.name), .sl (nms r.params) .dead, .sl (ep r.body) .dead, .v (.int .i64 r.line), .v (.int .i64 r.col)]
abbrev thC (r : Th) : List PV := [.sl (ep r.body) .dead, .v (.int .i64 r.line), .v (.int .i64 r.col)]
def iV (l : List Rec) : List (List PV) := l.map recC
theorem xe (l : List Rec) : dr 4 (iV l) = true := jJ recC (fun _ => rfl) l
theorem Bl (a b : List Rec) : iV (a ++ b) = iV a ++ iV b := List.map_append ..
theorem gB (a : List Rec) : (iV a).length = a.length := List.length_map ..
def lG (l : List Fu) : List (List PV) := l.map fuE
theorem zE (l : List Fu) : dr 5 (lG l) = true := jJ fuE (fun _ => rfl) l
theorem CL (a b : List Fu) : lG (a ++ b) = lG a ++ lG b := List.map_append ..
theorem gX (a : List Fu) : (lG a).length = a.length := List.length_map ..
def lK (l : List Th) : List (List PV) := l.map thC
theorem Am (l : List Th) : dr 3 (lK l) = true := jJ thC (fun _ => rfl) l
theorem DR (a b : List Th) : lK (a ++ b) = lK a ++ lK b := List.map_append ..
theorem hG (a : List Th) : (lK a).length = a.length := List.length_map ..
abbrev pgC (g : Pg) (c1 c2 c3 c4 : Cap) : List PV := [.sl (iV g.fO) c1, .sl (nms g.gls) c2, .sl (lG g.fQ) c3, .sl (lK g.ths) c4]
abbrev nF (g : Pg) : PV := .agg (pgC g .dead .dead .dead .dead)
structure jV (T : Nat) (tk : List (Nat × Nat)) (c1 c2 c3 c4 : Cap) (g : Pg) : Prop where
 o1 : ig T tk c1 g.fO.length 4
 o2 : ig T tk c2 g.gls.length 5
 o3 : ig T tk c3 g.fQ.length 5
 o4 : ig T tk c4 g.ths.length 3
 d12 : qA c1 c2
 d13 : qA c1 c3
 d14 : qA c1 c4
 d23 : qA c2 c3
 d24 : qA c2 c4
 d34 : qA c3 c4
section
variable {T : Nat} {tk : List (Nat × Nat)} {c1 c2 c3 c4 : Cap} {g : Pg} (h : jV T tk c1 c2 c3 c4 g) {b : Nat} {cs : List PV} {Y : St} (hT : Y.tk.length = T)
include h hT
theorem jV.g1 (r : Rec) (hl : g.fO.length < 1000000) : ∃ c' tk', (∀ (bl : List Blk) (lp : List Aux) (base : Nat) (z : List PV), cj base z 4 56 (.sl (iV g.fO) c1) [recC r] ((Y.af false b cs).app bl tk lp) = some (.sl (iV (g.fO ++ [r])) c', (Y.af false b cs).app bl tk' lp)) ∧ jV T tk' c' c2 c3 c4 { g with fO := g.fO ++ [r] } := by
 have o := h.o1; rw [← gB] at o; obtain ⟨c', tk', a, o', r'⟩ := o.zG (ys := [recC r]) (bytes := 56) (b := b) (cs := cs) hT (by rw [gB, bC]; unfold cu; omega) (xe _) (xe [r]) (by omega) (by omega); have e : iV (g.fO ++ [r]) = iV g.fO ++ [recC r] := Bl _ _; refine ⟨c', tk', fun bl lp base z => by rw [e]; exact a bl lp base z, ?_⟩; rw [← e, gB] at o'; obtain ⟨q2, e2⟩ := r' h.o2 h.d12; obtain ⟨q3, e3⟩ := r' h.o3 h.d13; obtain ⟨q4, e4⟩ := r' h.o4 h.d14; exact ⟨o', q2, q3, q4, e2, e3, e4, h.d23, h.d24, h.d34⟩
theorem jV.g2 (r : Nm) (hl : g.gls.length < 1000000) : ∃ c' tk', (∀ (bl : List Blk) (lp : List Aux) (base : Nat) (z : List PV), cj base z 5 56 (.sl (nms g.gls) c2) [nmC r] ((Y.af false b cs).app bl tk lp) = some (.sl (nms (g.gls ++ [r])) c', (Y.af false b cs).app bl tk' lp)) ∧ jV T tk' c1 c' c3 c4 { g with gls := g.gls ++ [r] } := by
 have o := h.o2; rw [← fY] at o; obtain ⟨c', tk', a, o', r'⟩ := o.zG (ys := [nmC r]) (bytes := 56) (b := b) (cs := cs) hT (by rw [fY, bC]; unfold cu; omega) (qT _) (qT [r]) (by omega) (by omega); have e : nms (g.gls ++ [r]) = nms g.gls ++ [nmC r] := vz _ _; refine ⟨c', tk', fun bl lp base z => by rw [e]; exact a bl lp base z, ?_⟩; rw [← e, fY] at o'; obtain ⟨q1, e1⟩ := r' h.o1 (h.d12).symm; obtain ⟨q3, e3⟩ := r' h.o3 h.d23; obtain ⟨q4, e4⟩ := r' h.o4 h.d24; exact ⟨q1, o', q3, q4, (e1).symm, h.d13, h.d14, e3, e4, h.d34⟩
theorem jV.g3 (r : Fu) (hl : g.fQ.length < 1000000) : ∃ c' tk', (∀ (bl : List Blk) (lp : List Aux) (base : Nat) (z : List PV), cj base z 5 80 (.sl (lG g.fQ) c3) [fuE r] ((Y.af false b cs).app bl tk lp) = some (.sl (lG (g.fQ ++ [r])) c', (Y.af false b cs).app bl tk' lp)) ∧ jV T tk' c1 c2 c' c4 { g with fQ := g.fQ ++ [r] } := by
 have o := h.o3; rw [← gX] at o; obtain ⟨c', tk', a, o', r'⟩ := o.zG (ys := [fuE r]) (bytes := 80) (b := b) (cs := cs) hT (by rw [gX, bC]; unfold cu; omega) (zE _) (zE [r]) (by omega) (by omega); have e : lG (g.fQ ++ [r]) = lG g.fQ ++ [fuE r] := CL _ _; refine ⟨c', tk', fun bl lp base z => by rw [e]; exact a bl lp base z, ?_⟩; rw [← e, gX] at o'; obtain ⟨q1, e1⟩ := r' h.o1 (h.d13).symm; obtain ⟨q2, e2⟩ := r' h.o2 (h.d23).symm; obtain ⟨q4, e4⟩ := r' h.o4 h.d34; exact ⟨q1, q2, o', q4, h.d12, (e1).symm, h.d14, (e2).symm, h.d24, e4⟩
theorem jV.g4 (r : Th) (hl : g.ths.length < 1000000) : ∃ c' tk', (∀ (bl : List Blk) (lp : List Aux) (base : Nat) (z : List PV), cj base z 3 40 (.sl (lK g.ths) c4) [thC r] ((Y.af false b cs).app bl tk lp) = some (.sl (lK (g.ths ++ [r])) c', (Y.af false b cs).app bl tk' lp)) ∧ jV T tk' c1 c2 c3 c' { g with ths := g.ths ++ [r] } := by
 have o := h.o4; rw [← hG] at o; obtain ⟨c', tk', a, o', r'⟩ := o.zG (ys := [thC r]) (bytes := 40) (b := b) (cs := cs) hT (by rw [hG, bC]; unfold cu; omega) (Am _) (Am [r]) (by omega) (by omega); have e : lK (g.ths ++ [r]) = lK g.ths ++ [thC r] := DR _ _; refine ⟨c', tk', fun bl lp base z => by rw [e]; exact a bl lp base z, ?_⟩; rw [← e, hG] at o'; obtain ⟨q1, e1⟩ := r' h.o1 (h.d14).symm; obtain ⟨q2, e2⟩ := r' h.o2 (h.d24).symm; obtain ⟨q3, e3⟩ := r' h.o3 (h.d34).symm; exact ⟨q1, q2, q3, o', h.d12, h.d13, (e1).symm, h.d23, (e2).symm, (e3).symm⟩
end
theorem jV.zero (T : Nat) : jV T [] .nil .nil .nil .nil ⟨[], [], [], []⟩ :=
 ⟨.inl (.inl rfl), .inl (.inl rfl), .inl (.inl rfl), .inl (.inl rfl), .inl rfl, .inl rfl, .inl rfl, .inl rfl, .inl rfl, .inl rfl⟩
end Go.Proofs.YtlhlijaondmccaaGreatDoor.S
namespace Go.Proofs.YtlhlijaondmccaaGreatDoor.S
open Go Go.AM Go.Proofs
attribute [local simp] cZ cy bX bY cz eI fu dX di dV de dW dh ft bZ hZ dR ib gU gN AM.aa aN aO bf aP aw AM.onG fR bH dw Ex.ba cond_true cond_false cV cU cT cS cR cX cQ cY cW dY dj dm cx da AM.du AM.cellsOf AM.an bQ beq_true dr ag aC bj bx bU decide_true decide_false bI bn br bD bg aB aA bh aD db dc fm av bE aY bR cC dQ dT cL eB eA set_set eG dB fI dC cI bK dA cH dz cG dy eF eH fE fF bO cv eu fD dZ aZ aT aI AM.aS ai dt bW aW bc aL aK AM.part aQ aM cc cn cm cr cr.eT AM.dM bu bV eg gm aZ laid aH bm cq
attribute [-simp] ah
attribute [local congr] ej
abbrev z4 : List PV := [.sl [] .nil, .sl [] .nil, .sl [] .nil, .sl [] .nil]
def nc (ts : List Tok) (d : Nat) (g : Pg) (l : List Tok) (x : PR Pg) : Prop := match x with
 | .ok g' l' => Sfx ts l' ∧ ∀ b (Y : St), b < Y.stk.length → ∀ N T Lb, Y.stk.length = N → Y.tk.length = T → Y.lp.length = Lb → ∀ c1 c2 c3 c4 tk, jV T tk c1 c2 c3 c4 g → ∃ k1 k2 k3 k4 P tk',
  itE (S48.b0 (E L) itE N Lb) [.ptr false b 0, .ptr false N 0, .ptr false (N + 1) 0] ((Y.af false b (pc ts l d)).app [⟨z4, []⟩, ⟨pgC g c1 c2 c3 c4, []⟩] tk []) =
   some (.ret, [.ptr false b 0, .ptr false N 0, .ptr false (N + 1) 0], (Y.af false b (pc ts l' d)).app [⟨pgC g' k1 k2 k3 k4, []⟩, ⟨P, []⟩] tk' [])
 | .bad er p => ∃ a' d'', ∀ b (Y : St), b < Y.stk.length → ∀ N T Lb, Y.stk.length = N → Y.tk.length = T → Y.lp.length = Lb → ∀ c1 c2 c3 c4 tk, jV T tk c1 c2 c3 c4 g → ∃ P0 P1 tk',
  itE (S48.b0 (E L) itE N Lb) [.ptr false b 0, .ptr false N 0, .ptr false (N + 1) 0] ((Y.af false b (pc ts l d)).app [⟨z4, []⟩, ⟨pgC g c1 c2 c3 c4, []⟩] tk []) =
   some (.pan 108 (.agg #[]), [.ptr false b 0, .ptr false N 0, .ptr false (N + 1) 0], (Y.af false b (pcf (az ts) a' d'' er p.1 p.2)).app [⟨P0, []⟩, ⟨P1, []⟩] tk' [])
theorem kZ (m : Nat) (es : List (List PV)) (c : Cap) : sf true m 4 (.sl es c) = c.sf true m := rfl
theorem jV.sfs {T : Nat} {tk : List (Nat × Nat)} {c1 c2 c3 c4 : Cap} {g : Pg} (h : jV T tk c1 c2 c3 c4 g) (m : Nat) : c1.sf true m = true ∧ c2.sf true m = true ∧ c3.sf true m = true ∧ c4.sf true m = true :=
 ⟨h.o1.sfc m, h.o2.sfc m, h.o3.sfc m, h.o4.sfc m⟩
section
variable {ts : List Tok} (hr : Row ts)
include hr
theorem Dm {d : Nat} {g : Pg} {l : List Tok} {x : PR Pg} (h : Sfx ts l) (k0 : (hd l).kind = 0) (hx : some (.ok g l) = some x) : nc ts d g l x := by
 obtain rfl := Option.some.inj hx; refine ⟨h, fun b Y hb N T Lb hN hT hL c1 c2 c3 c4 tk ho => ⟨c1, c2, c3, c4, pgC g c1 c2 c3 c4, tk, ?_⟩⟩; have e67 := aE (ef h d 0 0 0 (b := b)) (s := Y) hb; obtain ⟨f1, f2, f3, f4⟩ := ho.sfs (N + 2)
 have hb2 : b < N + 2 := by omega
 simp only [pc, pcf, aV, Tok.c, bw, jZ, iS, iT, nf, cM, nmC, ab, if_true, if_false, ae, k0] at e67 ⊢
 generalize az ts = es at *
 apply eE; simp [S48.b0, hN, hT, hL, hb, hb2, e67, k0, f1, f2, f3, f4, bM, aF, iP, fZ, AM.cw, AM.ec, chunks, Ex.ba, dG, eI, kZ]
theorem xb {d : Nat} {g : Pg} {l : List Tok} {x : PR Pg} (hd0 : d = 0) {n m : Nat} (hm : m ≤ 1000000) (ih : si ts m) (hg : g.fO.length < 1000000) (ihp : ∀ g2 l x, g2.fO.length + g2.gls.length + g2.fQ.length + g2.ths.length = g.fO.length + g.gls.length + g.fQ.length + g.ths.length + 1 → Sfx ts l → gz n m g2 l = some x → nc ts d g2 l x) (h : Sfx ts l) (k0 : (hd l).kind ≠ 0)  (pk : isT l [114, 101, 99, 111, 114, 100] = true) (hx : (pb (yA m l.tail) fun r l1 => gz n m { g with fO := g.fO ++ [r] } l1) = some x) : nc ts d g l x := by
 have k0' : ¬ (((hd l).kind : Int) = 0) := by omega
 have s0 := h.isT hr pk; obtain ⟨y, hy⟩ := dP hx; rw [hy] at hx; have h2 := Hy hr (d := d) hm s0 hy
 cases y with
 | bad er q =>
  obtain rfl := cd hx rfl; obtain ⟨a', d'', eb⟩ := bN h2 rfl; refine ⟨a', d'', fun b Y hb N T Lb hN hT hL c1 c2 c3 c4 tk ho => ⟨z4, pgC g c1 c2 c3 c4, tk, ?_⟩⟩; have eb := eb hb; have e67 := aE (ef h d 0 0 0 (b := b)) (s := Y) hb; have f_0 := aE (aG hr h d [114, 101, 99, 111, 114, 100] (b := b)) (s := Y) hb; have eb := eb; obtain ⟨f1, f2, f3, f4⟩ := ho.sfs (N + 2)
  have hb2 : b < N + 2 := by omega
  simp only [pc, pcf, aV, Tok.c, bw, jZ, iS, iT, nf, cM, nmC, ab, if_true, if_false, ae, pk] at e67 f_0 eb ⊢
  generalize az ts = es at *
  apply jk; simp [S48.b0, hN, hT, hL, hb, hb2, e67, f_0, eb, pk, f1, f2, f3, f4, k0, k0', bM, aF, iP, fZ, AM.cw, AM.ec, chunks, Ex.ba, dG, eI, kZ]
 | ok r l1 =>
  have hx := cO hx rfl
  try dsimp only at hx
  have s1 := bS h2 rfl; have h4 := ihp _ l1 x (by simp only [ay, bC]; omega) s1 hx
  have stp : ∀ b (Y : St), b < Y.stk.length → ∀ N T Lb, Y.stk.length = N → Y.tk.length = T → Y.lp.length = Lb → ∀ c1 c2 c3 c4 tk, jV T tk c1 c2 c3 c4 g → ∃ c' tk', jV T tk' c' c2 c3 c4 { g with fO := g.fO ++ [r] } ∧
   S48.b0 (E L) itE N Lb [.ptr false b 0, .ptr false N 0, .ptr false (N + 1) 0] ((Y.af false b (pc ts l d)).app [⟨z4, []⟩, ⟨pgC g c1 c2 c3 c4, []⟩] tk []) = some (.normal, [.ptr false b 0, .ptr false N 0, .ptr false (N + 1) 0], (Y.af false b (pc ts l1 d)).app [⟨z4, []⟩, ⟨pgC { g with fO := g.fO ++ [r] } c' c2 c3 c4, []⟩] tk' []) := by
   intro b Y hb N T Lb hN hT hL c1 c2 c3 c4 tk ho; obtain ⟨c', tk', ea, ho'⟩ := ho.g1 (b := b) (cs := pc ts l1 d) hT r hg; refine ⟨c', tk', ho', ?_⟩; have e67 := aE (ef h d 0 0 0 (b := b)) (s := Y) hb; have f_0 := aE (aG hr h d [114, 101, 99, 111, 114, 100] (b := b)) (s := Y) hb; have e2 := aX h2 rfl hb; have ea := ea; obtain ⟨f1, f2, f3, f4⟩ := ho.sfs (N + 2); obtain ⟨f1', f2', f3', f4'⟩ := ho'.sfs (N + 2)
   have hb2 : b < N + 2 := by omega
   simp only [pc, pcf, aV, Tok.c, bw, jZ, iS, iT, nf, cM, nmC, ab, if_true, if_false, ae, pk] at e67 f_0 e2 ea ⊢
   generalize az ts = es at *
   simp [S48.b0, hN, hT, hL, hb, hb2, e67, f_0, e2, ea, pk, f1, f2, f3, f4, f1', f2', f3', f4', k0, k0', bM, aF, iP, fZ, AM.cw, AM.ec, chunks, Ex.ba, dG, eI, kZ]
  cases x with
  | ok g' l' =>
   refine ⟨h4.1, fun b Y hb N T Lb hN hT hL c1 c2 c3 c4 tk ho => ?_⟩; obtain ⟨c', tk1, ho1, hs⟩ := stp b Y hb N T Lb hN hT hL c1 c2 c3 c4 tk ho; obtain ⟨k1, k2, k3, k4, P, tk', hit⟩ := h4.2 b Y hb N T Lb hN hT hL c' c2 c3 c4 tk1 ho1; exact ⟨k1, k2, k3, k4, P, tk', (bP hs).trans hit⟩
  | bad er p =>
   obtain ⟨a', d'', h4⟩ := h4; refine ⟨a', d'', fun b Y hb N T Lb hN hT hL c1 c2 c3 c4 tk ho => ?_⟩; obtain ⟨c', tk1, ho1, hs⟩ := stp b Y hb N T Lb hN hT hL c1 c2 c3 c4 tk ho; obtain ⟨P0, P1, tk', hit⟩ := h4 b Y hb N T Lb hN hT hL c' c2 c3 c4 tk1 ho1; exact ⟨P0, P1, tk', (bP hs).trans hit⟩
theorem xa {d : Nat} {g : Pg} {l : List Tok} {x : PR Pg} (hd0 : d = 0) {n m : Nat} (hm : m ≤ 1000000) (ih : si ts m) (hg : g.gls.length < 1000000) (ihp : ∀ g2 l x, g2.fO.length + g2.gls.length + g2.fQ.length + g2.ths.length = g.fO.length + g.gls.length + g.fQ.length + g.ths.length + 1 → Sfx ts l → gz n m g2 l = some x → nc ts d g2 l x) (h : Sfx ts l) (k0 : (hd l).kind ≠ 0) (p0 : isT l [114, 101, 99, 111, 114, 100] = false) (pk : isT l [103, 108, 111, 98, 97, 108] = true) (hx : (pb (mO l.tail) fun r l1 => pb (some (dJ [59] l1)) fun _ l2 => gz n m { g with gls := g.gls ++ [r] } l2) = some x) : nc ts d g l x := by
 have k0' : ¬ (((hd l).kind : Int) = 0) := by omega
 have s0 := h.isT hr pk; obtain ⟨y, hy⟩ := dP hx; rw [hy] at hx; have h2 := sP hr s0 d hy
 cases y with
 | bad er q =>
  obtain rfl := cd hx rfl; obtain ⟨a', d'', eb⟩ := bN h2 rfl; refine ⟨a', d'', fun b Y hb N T Lb hN hT hL c1 c2 c3 c4 tk ho => ⟨z4, pgC g c1 c2 c3 c4, tk, ?_⟩⟩; have eb := eb hb; have e67 := aE (ef h d 0 0 0 (b := b)) (s := Y) hb; have f_0 := aE (aG hr h d [114, 101, 99, 111, 114, 100] (b := b)) (s := Y) hb; have f_1 := aE (aG hr h d [103, 108, 111, 98, 97, 108] (b := b)) (s := Y) hb; have eb := eb; obtain ⟨f1, f2, f3, f4⟩ := ho.sfs (N + 2)
  have hb2 : b < N + 2 := by omega
  simp only [pc, pcf, aV, Tok.c, bw, jZ, iS, iT, nf, cM, nmC, ab, if_true, if_false, ae, p0, pk] at e67 f_0 f_1 eb ⊢
  generalize az ts = es at *
  apply jk; simp [S48.b0, hN, hT, hL, hb, hb2, e67, f_0, f_1, eb, p0, pk, f1, f2, f3, f4, k0, k0', bM, aF, iP, fZ, AM.cw, AM.ec, chunks, Ex.ba, dG, eI, kZ]
 | ok r l1 =>
  have hx := cO hx rfl
  try dsimp only at hx
  have s1 := bS h2 rfl; have h3 := fe hr s1 d [59]
  cases x3 : dJ [59] l1 with
  | bad e q =>
   obtain rfl := cd hx x3; obtain ⟨a', d'', eb⟩ := bN h3 x3; refine ⟨a', d'', fun b Y hb N T Lb hN hT hL c1 c2 c3 c4 tk ho => ?_⟩; obtain ⟨c', tk', ea, ho'⟩ := ho.g2 (b := b) (cs := pc ts l1 d) hT r hg; refine ⟨z4, pgC { g with gls := g.gls ++ [r] } c1 c' c3 c4, tk', ?_⟩; have eb := eb hb; have e67 := aE (ef h d 0 0 0 (b := b)) (s := Y) hb; have f_0 := aE (aG hr h d [114, 101, 99, 111, 114, 100] (b := b)) (s := Y) hb; have f_1 := aE (aG hr h d [103, 108, 111, 98, 97, 108] (b := b)) (s := Y) hb; have e2 := aX h2 rfl hb; have ea := ea; have eb := eb; obtain ⟨f1, f2, f3, f4⟩ := ho.sfs (N + 2); obtain ⟨f1', f2', f3', f4'⟩ := ho'.sfs (N + 2)
   have hb2 : b < N + 2 := by omega
   simp only [pc, pcf, aV, Tok.c, bw, jZ, iS, iT, nf, cM, nmC, ab, if_true, if_false, ae, p0, pk] at e67 f_0 f_1 e2 ea eb ⊢
   generalize az ts = es at *
   apply jk; simp [S48.b0, hN, hT, hL, hb, hb2, e67, f_0, f_1, e2, ea, eb, p0, pk, f1, f2, f3, f4, f1', f2', f3', f4', k0, k0', bM, aF, iP, fZ, AM.cw, AM.ec, chunks, Ex.ba, dG, eI, kZ]
  | ok u l2 =>
   have hx := cO hx x3
   try dsimp only at hx
   have s2 := bS h3 x3; have h4 := ihp _ l2 x (by simp only [ay, bC]; omega) s2 hx
   have stp : ∀ b (Y : St), b < Y.stk.length → ∀ N T Lb, Y.stk.length = N → Y.tk.length = T → Y.lp.length = Lb → ∀ c1 c2 c3 c4 tk, jV T tk c1 c2 c3 c4 g → ∃ c' tk', jV T tk' c1 c' c3 c4 { g with gls := g.gls ++ [r] } ∧
    S48.b0 (E L) itE N Lb [.ptr false b 0, .ptr false N 0, .ptr false (N + 1) 0] ((Y.af false b (pc ts l d)).app [⟨z4, []⟩, ⟨pgC g c1 c2 c3 c4, []⟩] tk []) = some (.normal, [.ptr false b 0, .ptr false N 0, .ptr false (N + 1) 0], (Y.af false b (pc ts l2 d)).app [⟨z4, []⟩, ⟨pgC { g with gls := g.gls ++ [r] } c1 c' c3 c4, []⟩] tk' []) := by
    intro b Y hb N T Lb hN hT hL c1 c2 c3 c4 tk ho; obtain ⟨c', tk', ea, ho'⟩ := ho.g2 (b := b) (cs := pc ts l1 d) hT r hg; refine ⟨c', tk', ho', ?_⟩; have e67 := aE (ef h d 0 0 0 (b := b)) (s := Y) hb; have f_0 := aE (aG hr h d [114, 101, 99, 111, 114, 100] (b := b)) (s := Y) hb; have f_1 := aE (aG hr h d [103, 108, 111, 98, 97, 108] (b := b)) (s := Y) hb; have e2 := aX h2 rfl hb; have ea := ea; have e3 := aX h3 x3 hb; obtain ⟨f1, f2, f3, f4⟩ := ho.sfs (N + 2); obtain ⟨f1', f2', f3', f4'⟩ := ho'.sfs (N + 2)
    have hb2 : b < N + 2 := by omega
    simp only [pc, pcf, aV, Tok.c, bw, jZ, iS, iT, nf, cM, nmC, ab, if_true, if_false, ae, p0, pk] at e67 f_0 f_1 e2 ea e3 ⊢
    generalize az ts = es at *
    simp [S48.b0, hN, hT, hL, hb, hb2, e67, f_0, f_1, e2, ea, e3, p0, pk, f1, f2, f3, f4, f1', f2', f3', f4', k0, k0', bM, aF, iP, fZ, AM.cw, AM.ec, chunks, Ex.ba, dG, eI, kZ]
   cases x with
   | ok g' l' =>
    refine ⟨h4.1, fun b Y hb N T Lb hN hT hL c1 c2 c3 c4 tk ho => ?_⟩; obtain ⟨c', tk1, ho1, hs⟩ := stp b Y hb N T Lb hN hT hL c1 c2 c3 c4 tk ho; obtain ⟨k1, k2, k3, k4, P, tk', hit⟩ := h4.2 b Y hb N T Lb hN hT hL c1 c' c3 c4 tk1 ho1; exact ⟨k1, k2, k3, k4, P, tk', (bP hs).trans hit⟩
   | bad er p =>
    obtain ⟨a', d'', h4⟩ := h4; refine ⟨a', d'', fun b Y hb N T Lb hN hT hL c1 c2 c3 c4 tk ho => ?_⟩; obtain ⟨c', tk1, ho1, hs⟩ := stp b Y hb N T Lb hN hT hL c1 c2 c3 c4 tk ho; obtain ⟨P0, P1, tk', hit⟩ := h4 b Y hb N T Lb hN hT hL c1 c' c3 c4 tk1 ho1; exact ⟨P0, P1, tk', (bP hs).trans hit⟩
theorem Bh {d : Nat} {g : Pg} {l : List Tok} {x : PR Pg} (hd0 : d = 0) {n m : Nat} (hm : m ≤ 1000000) (ih : si ts m) (hg : g.fQ.length < 1000000) (ihp : ∀ g2 l x, g2.fO.length + g2.gls.length + g2.fQ.length + g2.ths.length = g.fO.length + g.gls.length + g.fQ.length + g.ths.length + 1 → Sfx ts l → gz n m g2 l = some x → nc ts d g2 l x) (h : Sfx ts l) (k0 : (hd l).kind ≠ 0) (p0 : isT l [114, 101, 99, 111, 114, 100] = false) (p1 : isT l [103, 108, 111, 98, 97, 108] = false) (pk : isT l [102, 117, 110] = true) (hx : (pb (AW m l.tail) fun r l1 => gz n m { g with fQ := g.fQ ++ [r] } l1) = some x) : nc ts d g l x := by
 have k0' : ¬ (((hd l).kind : Int) = 0) := by omega
 have s0 := h.isT hr pk; obtain ⟨y, hy⟩ := dP hx; rw [hy] at hx; have h2 := Hl hr hd0 hm ih s0 hy
 cases y with
 | bad er q =>
  obtain rfl := cd hx rfl; obtain ⟨a', d'', eb⟩ := bN h2 rfl; refine ⟨a', d'', fun b Y hb N T Lb hN hT hL c1 c2 c3 c4 tk ho => ⟨z4, pgC g c1 c2 c3 c4, tk, ?_⟩⟩; have eb := eb hb; have e67 := aE (ef h d 0 0 0 (b := b)) (s := Y) hb; have f_0 := aE (aG hr h d [114, 101, 99, 111, 114, 100] (b := b)) (s := Y) hb; have f_1 := aE (aG hr h d [103, 108, 111, 98, 97, 108] (b := b)) (s := Y) hb; have f_2 := aE (aG hr h d [102, 117, 110] (b := b)) (s := Y) hb; have eb := eb; obtain ⟨f1, f2, f3, f4⟩ := ho.sfs (N + 2)
  have hb2 : b < N + 2 := by omega
  simp only [pc, pcf, aV, Tok.c, bw, jZ, iS, iT, nf, cM, nmC, ab, if_true, if_false, ae, p0, p1, pk] at e67 f_0 f_1 f_2 eb ⊢
  generalize az ts = es at *
  apply jk; simp [S48.b0, hN, hT, hL, hb, hb2, e67, f_0, f_1, f_2, eb, p0, p1, pk, f1, f2, f3, f4, k0, k0', bM, aF, iP, fZ, AM.cw, AM.ec, chunks, Ex.ba, dG, eI, kZ]
 | ok r l1 =>
  have hx := cO hx rfl
  try dsimp only at hx
  have s1 := bS h2 rfl; have h4 := ihp _ l1 x (by simp only [ay, bC]; omega) s1 hx
  have stp : ∀ b (Y : St), b < Y.stk.length → ∀ N T Lb, Y.stk.length = N → Y.tk.length = T → Y.lp.length = Lb → ∀ c1 c2 c3 c4 tk, jV T tk c1 c2 c3 c4 g → ∃ c' tk', jV T tk' c1 c2 c' c4 { g with fQ := g.fQ ++ [r] } ∧
   S48.b0 (E L) itE N Lb [.ptr false b 0, .ptr false N 0, .ptr false (N + 1) 0] ((Y.af false b (pc ts l d)).app [⟨z4, []⟩, ⟨pgC g c1 c2 c3 c4, []⟩] tk []) = some (.normal, [.ptr false b 0, .ptr false N 0, .ptr false (N + 1) 0], (Y.af false b (pc ts l1 d)).app [⟨z4, []⟩, ⟨pgC { g with fQ := g.fQ ++ [r] } c1 c2 c' c4, []⟩] tk' []) := by
   intro b Y hb N T Lb hN hT hL c1 c2 c3 c4 tk ho; obtain ⟨c', tk', ea, ho'⟩ := ho.g3 (b := b) (cs := pc ts l1 d) hT r hg; refine ⟨c', tk', ho', ?_⟩; have e67 := aE (ef h d 0 0 0 (b := b)) (s := Y) hb; have f_0 := aE (aG hr h d [114, 101, 99, 111, 114, 100] (b := b)) (s := Y) hb; have f_1 := aE (aG hr h d [103, 108, 111, 98, 97, 108] (b := b)) (s := Y) hb; have f_2 := aE (aG hr h d [102, 117, 110] (b := b)) (s := Y) hb; have e2 := aX h2 rfl hb; have ea := ea; obtain ⟨f1, f2, f3, f4⟩ := ho.sfs (N + 2); obtain ⟨f1', f2', f3', f4'⟩ := ho'.sfs (N + 2)
   have hb2 : b < N + 2 := by omega
   simp only [pc, pcf, aV, Tok.c, bw, jZ, iS, iT, nf, cM, nmC, ab, if_true, if_false, ae, p0, p1, pk] at e67 f_0 f_1 f_2 e2 ea ⊢
   generalize az ts = es at *
   simp [S48.b0, hN, hT, hL, hb, hb2, e67, f_0, f_1, f_2, e2, ea, p0, p1, pk, f1, f2, f3, f4, f1', f2', f3', f4', k0, k0', bM, aF, iP, fZ, AM.cw, AM.ec, chunks, Ex.ba, dG, eI, kZ]
  cases x with
  | ok g' l' =>
   refine ⟨h4.1, fun b Y hb N T Lb hN hT hL c1 c2 c3 c4 tk ho => ?_⟩; obtain ⟨c', tk1, ho1, hs⟩ := stp b Y hb N T Lb hN hT hL c1 c2 c3 c4 tk ho; obtain ⟨k1, k2, k3, k4, P, tk', hit⟩ := h4.2 b Y hb N T Lb hN hT hL c1 c2 c' c4 tk1 ho1; exact ⟨k1, k2, k3, k4, P, tk', (bP hs).trans hit⟩
  | bad er p =>
   obtain ⟨a', d'', h4⟩ := h4; refine ⟨a', d'', fun b Y hb N T Lb hN hT hL c1 c2 c3 c4 tk ho => ?_⟩; obtain ⟨c', tk1, ho1, hs⟩ := stp b Y hb N T Lb hN hT hL c1 c2 c3 c4 tk ho; obtain ⟨P0, P1, tk', hit⟩ := h4 b Y hb N T Lb hN hT hL c1 c2 c' c4 tk1 ho1; exact ⟨P0, P1, tk', (bP hs).trans hit⟩
theorem xc {d : Nat} {g : Pg} {l : List Tok} {x : PR Pg} (hd0 : d = 0) {n m : Nat} (hm : m ≤ 1000000) (ih : si ts m) (hg : g.ths.length < 1000000) (ihp : ∀ g2 l x, g2.fO.length + g2.gls.length + g2.fQ.length + g2.ths.length = g.fO.length + g.gls.length + g.fQ.length + g.ths.length + 1 → Sfx ts l → gz n m g2 l = some x → nc ts d g2 l x) (h : Sfx ts l) (k0 : (hd l).kind ≠ 0) (p0 : isT l [114, 101, 99, 111, 114, 100] = false) (p1 : isT l [103, 108, 111, 98, 97, 108] = false) (p2 : isT l [102, 117, 110] = false) (pk : isT l [116, 104, 114, 101, 97, 100] = true) (hx : (pb (fX m d l.tail) fun r l1 => gz n m { g with ths := g.ths ++ [⟨r, (hd l).p.1, (hd l).p.2⟩] } l1) = some x) : nc ts d g l x := by
 have k0' : ¬ (((hd l).kind : Int) = 0) := by omega
 have s0 := h.isT hr pk; obtain ⟨y, hy⟩ := dP hx; rw [hy] at hx; have h2 := ih.blk _ _ _ (by omega) s0 hy
 cases y with
 | bad er q =>
  obtain rfl := cd hx rfl; obtain ⟨a', d'', eb⟩ := bN h2 rfl; refine ⟨a', d'', fun b Y hb N T Lb hN hT hL c1 c2 c3 c4 tk ho => ⟨z4, pgC g c1 c2 c3 c4, tk, ?_⟩⟩; have eb := eb hb; have e67 := aE (ef h d 0 0 0 (b := b)) (s := Y) hb; have f_0 := aE (aG hr h d [114, 101, 99, 111, 114, 100] (b := b)) (s := Y) hb; have f_1 := aE (aG hr h d [103, 108, 111, 98, 97, 108] (b := b)) (s := Y) hb; have f_2 := aE (aG hr h d [102, 117, 110] (b := b)) (s := Y) hb; have f_3 := aE (aG hr h d [116, 104, 114, 101, 97, 100] (b := b)) (s := Y) hb; have eb := eb; obtain ⟨f1, f2, f3, f4⟩ := ho.sfs (N + 2)
  have hb2 : b < N + 2 := by omega
  simp only [pc, pcf, aV, Tok.c, bw, jZ, iS, iT, nf, cM, nmC, ab, if_true, if_false, ae, p0, p1, p2, pk] at e67 f_0 f_1 f_2 f_3 eb ⊢
  generalize az ts = es at *
  apply jk; simp [S48.b0, hN, hT, hL, hb, hb2, e67, f_0, f_1, f_2, f_3, eb, p0, p1, p2, pk, f1, f2, f3, f4, k0, k0', bM, aF, iP, fZ, AM.cw, AM.ec, chunks, Ex.ba, dG, eI, kZ]
 | ok r l1 =>
  have hx := cO hx rfl
  try dsimp only at hx
  have s1 := bS h2 rfl; have h4 := ihp _ l1 x (by simp only [ay, bC]; omega) s1 hx
  have stp : ∀ b (Y : St), b < Y.stk.length → ∀ N T Lb, Y.stk.length = N → Y.tk.length = T → Y.lp.length = Lb → ∀ c1 c2 c3 c4 tk, jV T tk c1 c2 c3 c4 g → ∃ c' tk', jV T tk' c1 c2 c3 c' { g with ths := g.ths ++ [⟨r, (hd l).p.1, (hd l).p.2⟩] } ∧
   S48.b0 (E L) itE N Lb [.ptr false b 0, .ptr false N 0, .ptr false (N + 1) 0] ((Y.af false b (pc ts l d)).app [⟨z4, []⟩, ⟨pgC g c1 c2 c3 c4, []⟩] tk []) = some (.normal, [.ptr false b 0, .ptr false N 0, .ptr false (N + 1) 0], (Y.af false b (pc ts l1 d)).app [⟨z4, []⟩, ⟨pgC { g with ths := g.ths ++ [⟨r, (hd l).p.1, (hd l).p.2⟩] } c1 c2 c3 c', []⟩] tk' []) := by
   intro b Y hb N T Lb hN hT hL c1 c2 c3 c4 tk ho; obtain ⟨c', tk', ea, ho'⟩ := ho.g4 (b := b) (cs := pc ts l1 d) hT ⟨r, (hd l).p.1, (hd l).p.2⟩ hg; refine ⟨c', tk', ho', ?_⟩; have e67 := aE (ef h d 0 0 0 (b := b)) (s := Y) hb; have f_0 := aE (aG hr h d [114, 101, 99, 111, 114, 100] (b := b)) (s := Y) hb; have f_1 := aE (aG hr h d [103, 108, 111, 98, 97, 108] (b := b)) (s := Y) hb; have f_2 := aE (aG hr h d [102, 117, 110] (b := b)) (s := Y) hb; have f_3 := aE (aG hr h d [116, 104, 114, 101, 97, 100] (b := b)) (s := Y) hb; have e2 := aX h2 rfl hb; have ea := ea; obtain ⟨f1, f2, f3, f4⟩ := ho.sfs (N + 2); obtain ⟨f1', f2', f3', f4'⟩ := ho'.sfs (N + 2)
   have hb2 : b < N + 2 := by omega
   simp only [pc, pcf, aV, Tok.c, bw, jZ, iS, iT, nf, cM, nmC, ab, if_true, if_false, ae, p0, p1, p2, pk] at e67 f_0 f_1 f_2 f_3 e2 ea ⊢
   generalize az ts = es at *
   simp [S48.b0, hN, hT, hL, hb, hb2, e67, f_0, f_1, f_2, f_3, e2, ea, p0, p1, p2, pk, f1, f2, f3, f4, f1', f2', f3', f4', k0, k0', bM, aF, iP, fZ, AM.cw, AM.ec, chunks, Ex.ba, dG, eI, kZ]
  cases x with
  | ok g' l' =>
   refine ⟨h4.1, fun b Y hb N T Lb hN hT hL c1 c2 c3 c4 tk ho => ?_⟩; obtain ⟨c', tk1, ho1, hs⟩ := stp b Y hb N T Lb hN hT hL c1 c2 c3 c4 tk ho; obtain ⟨k1, k2, k3, k4, P, tk', hit⟩ := h4.2 b Y hb N T Lb hN hT hL c1 c2 c3 c' tk1 ho1; exact ⟨k1, k2, k3, k4, P, tk', (bP hs).trans hit⟩
  | bad er p =>
   obtain ⟨a', d'', h4⟩ := h4; refine ⟨a', d'', fun b Y hb N T Lb hN hT hL c1 c2 c3 c4 tk ho => ?_⟩; obtain ⟨c', tk1, ho1, hs⟩ := stp b Y hb N T Lb hN hT hL c1 c2 c3 c4 tk ho; obtain ⟨P0, P1, tk', hit⟩ := h4 b Y hb N T Lb hN hT hL c1 c2 c3 c' tk1 ho1; exact ⟨P0, P1, tk', (bP hs).trans hit⟩
theorem Bj {d : Nat} {g : Pg} {l : List Tok} {x : PR Pg}  (h : Sfx ts l) (k0 : (hd l).kind ≠ 0) (p0 : isT l [114, 101, 99, 111, 114, 100] = false) (p1 : isT l [103, 108, 111, 98, 97, 108] = false) (p2 : isT l [102, 117, 110] = false) (p3 : isT l [116, 104, 114, 101, 97, 100] = false)  (hx : some (.bad 4 (hd l).p) = some x) : nc ts d g l x := by
 have k0' : ¬ (((hd l).kind : Int) = 0) := by omega
 obtain rfl := Option.some.inj hx; refine ⟨pcA ts l, d, fun b Y hb N T Lb hN hT hL c1 c2 c3 c4 tk ho => ⟨z4, pgC g c1 c2 c3 c4, tk, ?_⟩⟩; have e67 := aE (ef h d 0 0 0 (b := b)) (s := Y) hb; have f_0 := aE (aG hr h d [114, 101, 99, 111, 114, 100] (b := b)) (s := Y) hb; have f_1 := aE (aG hr h d [103, 108, 111, 98, 97, 108] (b := b)) (s := Y) hb; have f_2 := aE (aG hr h d [102, 117, 110] (b := b)) (s := Y) hb; have f_3 := aE (aG hr h d [116, 104, 114, 101, 97, 100] (b := b)) (s := Y) hb; have e74 := aE (oi (az ts) (pcA ts l) d 4 (hd l) (b := b)) (s := Y) hb; obtain ⟨f1, f2, f3, f4⟩ := ho.sfs (N + 2)
 have hb2 : b < N + 2 := by omega
 simp only [pc, pcf, aV, Tok.c, bw, jZ, iS, iT, nf, cM, nmC, ab, if_true, if_false, ae, p0, p1, p2, p3] at e67 f_0 f_1 f_2 f_3 e74 ⊢
 generalize az ts = es at *
 apply jk; simp [S48.b0, hN, hT, hL, hb, hb2, e67, f_0, f_1, f_2, f_3, e74, p0, p1, p2, p3, f1, f2, f3, f4, k0, k0', bM, aF, iP, fZ, AM.cw, AM.ec, chunks, Ex.ba, dG, eI, kZ]
end
abbrev pg0 : Pg := ⟨[], [], [], []⟩
theorem Bi {ts : List Tok} (hr : Row ts) {m : Nat} (hm : m ≤ 1000000) (ih : si ts m) : ∀ n g l x, g.fO.length + g.gls.length + g.fQ.length + g.ths.length + n ≤ 1000000 → Sfx ts l → gz n m g l = some x → nc ts 0 g l x := by
 intro n
 induction n with
 | zero => intro g l x _ _ hx; simp [gz] at hx
 | succ n ihn =>
  intro g l x hg h hx; simp only [gz] at hx
  have ihp : ∀ g2 l x, g2.fO.length + g2.gls.length + g2.fQ.length + g2.ths.length = g.fO.length + g.gls.length + g.fQ.length + g.ths.length + 1 → Sfx ts l → gz n m g2 l = some x → nc ts 0 g2 l x := fun g2 l x e h hx => ihn g2 l x (by omega) h hx
  by_cases k0 : (hd l).kind = 0
  · rw [if_pos k0] at hx
    exact Dm hr h k0 hx
  rw [if_neg k0] at hx
  cases p0 : isT l [114, 101, 99, 111, 114, 100] with
  | true => rw [if_pos p0] at hx; exact xb hr rfl hm ih (by omega) ihp h k0 p0 hx
  | false =>
  rw [if_neg (by rw [p0]; decide)] at hx
  cases p1 : isT l [103, 108, 111, 98, 97, 108] with
  | true => rw [if_pos p1] at hx; exact xa hr rfl hm ih (by omega) ihp h k0 p0 p1 hx
  | false =>
  rw [if_neg (by rw [p1]; decide)] at hx
  cases p2 : isT l [102, 117, 110] with
  | true => rw [if_pos p2] at hx; exact Bh hr rfl hm ih (by omega) ihp h k0 p0 p1 p2 hx
  | false =>
  rw [if_neg (by rw [p2]; decide)] at hx
  cases p3 : isT l [116, 104, 114, 101, 97, 100] with
  | true => rw [if_pos p3] at hx; exact xc hr rfl hm ih (by omega) ihp h k0 p0 p1 p2 p3 hx
  | false =>
  rw [if_neg (by rw [p3]; decide)] at hx; exact Bj hr h k0 p0 p1 p2 p3 hx
theorem yx {ts : List Tok} (hr : Row ts) {m n : Nat} (hm : m ≤ 1000000) (hn : n ≤ 1000000) {l : List Tok} {x : PR Pg} (h : Sfx ts l) (hx : gz n m pg0 l = some x) : Rd 48 [] ts 0 0 l nF x := by
 have h1 := Bi hr hm (DJ hr m hm).1 n pg0 l x (by simpa using hn) h hx
 cases x with
 | bad er q =>
  obtain ⟨a', d'', h1⟩ := h1; refine ⟨a', d'', fun b Y hb => ?_⟩; obtain ⟨P0, P1, tk', hit⟩ := h1 b Y hb _ _ _ rfl rfl rfl .nil .nil .nil .nil [] (jV.zero _); rw [B6]; obtain ⟨N, T, Lb, hN, hT, hL⟩ := lens3 Y; rw [hN] at hb; rw [hN] at hit
  conv => lhs; rw [← al (Y.af false b (pc ts l 0))]
  rw [hL] at hit; simp only [pc, pcf, z4, pgC, pg0, iV, nms, lG, lK, bc, eD] at hit ⊢
  generalize az ts = es at *
  simp [S48, hN, hT, hL, hb, hit, Ex.ba]
 | ok g l' =>
  refine ⟨h1.1, fun b Y hb => ?_⟩; obtain ⟨k1, k2, k3, k4, P, tk', hit⟩ := h1.2 b Y hb _ _ _ rfl rfl rfl .nil .nil .nil .nil [] (jV.zero _); rw [B6]; obtain ⟨N, T, Lb, hN, hT, hL⟩ := lens3 Y; rw [hN] at hb; rw [hN] at hit
  conv => lhs; rw [← al (Y.af false b (pc ts l 0))]
  rw [hL] at hit; simp only [pc, pcf, z4, pgC, pg0, iV, nms, lG, lK, bc, eD] at hit ⊢
  generalize az ts = es at *
  simp [S48, hN, hT, hL, hb, hit, Ex.ba]; exact ⟨rfl, rfl, rfl, rfl⟩
end Go.Proofs.YtlhlijaondmccaaGreatDoor.S
namespace Go.Proofs.YtlhlijaondmccaaGreatDoor.S
open Go Go.AM Go.Proofs
def Tot {α : Type} (c : α → Nat) (m : Nat) (o : Option (PR α)) : Prop := ∃ x, o = some x ∧ ∀ a l', x = .ok a l' → c a + 8 * l'.length ≤ m
section
variable {α β : Type} {c : α → Nat} {c' : β → Nat} {m m' : Nat}
theorem Tot.le {k : α → Nat} {o : Option (PR α)} (h : Tot c m o) (hm : ∀ a n, c a + 8 * n ≤ m → k a + 8 * n ≤ m') : Tot k m' o := by
 obtain ⟨x, h1, h2⟩ := h; exact ⟨x, h1, fun a l' e => hm a l'.length (h2 a l' e)⟩
theorem eC {a : α} {l : List Tok} (h : c a + 8 * l.length ≤ m) : Tot c m (some (.ok a l)) := ⟨_, rfl, fun a l' e => by cases e; exact h⟩
theorem lz {e : Nat} {q : Nat × Nat} : Tot c m (some (.bad e q : PR α)) := ⟨_, rfl, fun a l' e => by cases e⟩
theorem cE {x : Option (PR α)} {K : α → List Tok → Option (PR β)} (h : Tot c m x) (hk : ∀ a l', c a + 8 * l'.length ≤ m → Tot c' m' (K a l')) : Tot c' m' (pb x K) := by
 obtain ⟨x, rfl, h2⟩ := h
 cases x with
 | ok a l => exact hk a l (h2 a l rfl)
 | bad e q => exact lz
theorem dS {p : Prop} [Decidable p] {x y : Option (PR α)} (h : p → Tot c m x) (g : ¬ p → Tot c m y) : Tot c m (if p then x else y) := by
 split
 · exact h ‹_›
 · exact g ‹_›
theorem vL {f : α → β} {x : PR α} (h : Tot (fun a => c' (f a)) m (some x)) : Tot c' m (some (x.map f)) := by
 obtain ⟨y, h1, h2⟩ := h; obtain rfl := Option.some.inj h1
 cases x with
 | ok a l => exact eC (h2 a l rfl)
 | bad e q => exact lz
theorem tE {d : Nat} {t : Tok} {x : Option (PR α)} (h : Tot c m x) : Tot c m (pL d t x) := dS (fun _ => lz) fun _ => h
end
theorem yd {l : List Tok} (h : (hd l).kind ≠ 0) : 1 ≤ l.length := by
 cases l with
 | nil => exact absurd rfl h
 | cons t r => simp
theorem CT {l : List Tok} {s : List UInt8} (h : isT l s = true) : (hd l).kind ≠ 0 := by
 unfold isT at h; simp only [aq, Bool.or_eq_true, decide_eq_true_eq] at h; omega
theorem dO {l : List Tok} {s : List UInt8} (h : isT l s = true) : 1 ≤ l.length ∧ l.tail.length = l.length - 1 := ⟨yd (CT h), List.length_tail⟩
theorem gO {l : List Tok} (h : (hd l).kind ≠ 0) : 1 ≤ l.length ∧ (dI l).length = l.length - 1 := ⟨yd h, by rw [dI, if_neg h]; exact List.length_tail⟩
theorem wW (l : List Tok) : (dI l).length ≤ l.length := by
 unfold dI; split
 · exact ao _
 · rw [List.length_tail]; omega
theorem gf (s : List UInt8) (l : List Tok) : Tot (fun _ => 8) (8 * l.length) (some (dJ s l)) := by
 unfold dJ; split
 · rename_i h; have := dO h; exact eC (by omega)
 · exact lz
theorem gT {k : Nat} (hk : k ≠ 0) (l : List Tok) : Tot (fun _ => 8) (8 * l.length) (some (eU k l)) := by
 unfold eU; split
 · rename_i h; have := gO (l := l) (by omega); exact eC (by omega)
 · exact lz
theorem FY (l : List Tok) : Tot (fun _ => 8) (8 * l.length) (some (vM l)) := by
 unfold vM; split
 · rename_i h; have := dO h; exact eC (by omega)
 split
 · rename_i h; have := dO h; exact eC (by omega)
 split
 · rename_i h; have := dO h; exact eC (by omega)
 exact vL (gT (by omega) l)
theorem re (l : List Tok) : Tot (fun _ => 24) (8 * l.length) (mO l) :=
 cE (gT (by omega) l) fun t l1 h1 => cE (gf _ l1) fun _ l2 h2 => cE (FY l2) fun ty l3 h3 => eC (by omega)
abbrev wX (e : X) : Nat := e.sz + 7
theorem nZ : x0.sz = 1 := by simp [x0, X.sz, szs]
theorem qF (t : Tok) (op n kd : Int) (rc name : List UInt8) : (atX t op n kd rc name).sz = 1 := by simp [atX, X.sz, szs]
theorem Ch (a b c d : Int) (r n : ByteArray) (e k : X) (p q : Int) : X.sz ⟨a, b, c, d, r, n, [e, k], p, q⟩ = e.sz + k.sz + 1 := by simp [X.sz, szs]
theorem IB (a b c d : Int) (r n : ByteArray) (k : X) (p q : Int) : X.sz ⟨a, b, c, d, r, n, [k], p, q⟩ = k.sz + 1 := by simp [X.sz, szs]
structure ID (n : Nat) : Prop where
 atom : ∀ d l, 10 * l.length + 1 ≤ n → Tot wX (8 * l.length) (lO n d l)
 pre : ∀ d l, 10 * l.length + 2 ≤ n → Tot wX (8 * l.length) (iv n d l)
 chain : ∀ lv d l, lv ≤ 3 → 10 * l.length + 6 ≤ n + lv → Tot wX (8 * l.length) (ff n lv d l)
 rest : ∀ lv d e l, lv < 3 → 10 * l.length + 1 ≤ n → Tot X.sz (e.sz + 8 * l.length) (j9 n lv d e l)
theorem zB : ∀ n, ID n
 | 0 => ⟨fun d l h => by omega, fun d l h => by omega, fun lv d l h h' => by omega, fun lv d e l h h' => by omega⟩
 | n + 1 => by
  have ih := zB n; refine ⟨fun d l h => ?_, fun d l h => ?_, fun lv d l hlv h => ?_, fun lv d e l hlv h => ?_⟩
  · simp only [lO]
    refine dS (fun k => eC ?_) fun _ => dS (fun k => eC ?_) fun _ => dS (fun k => eC ?_) fun _ => dS (fun k => ?_) fun _ => dS (fun k => ?_) fun _ => dS (fun k => ?_) fun _ => lz
    · have := gO (l := l) (by omega); simp only [wX, qF]; omega
    · have := gO (l := l) (by omega); simp only [wX, qF]; omega
    · have := gO (l := l) (by omega); simp only [wX, qF]; omega
    · have := gO (l := l) (by omega)
      exact vL ((gT (by omega) (dI l)).le fun a n h => by simp only [wX, qF]; omega)
    · have := gO (l := l) (by omega)
      refine dS (fun k => eC ?_) fun _ => vL ((gT (by omega) (dI l)).le fun a n h => by simp only [wX, qF]; omega)
      have := dO k; simp only [wX, qF]; omega
    · have := gO (l := l) (by omega)
      exact tE (cE (ih.chain 0 (d + 1) (dI l) (by omega) (by omega)) fun e l1 h1 => cE (gf _ l1) fun _ l2 h2 => eC (by omega))
  · simp only [iv]
    refine dS (fun k => ih.atom d l (by omega)) fun k => ?_
    have : (hd l).kind ≠ 0 := by
     intro q; apply k; unfold iI; rw [if_neg (by omega)]
    have := gO this; exact tE (cE (ih.pre (d + 1) (dI l) (by omega)) fun e l1 h1 => eC (by simp only [wX, IB] at h1 ⊢; omega))
  · simp only [ff]
    refine dS (fun k => ih.pre d l (by omega)) fun k => ?_
    exact cE (ih.chain (lv + 1) d l (by omega) (by omega)) fun e l1 h1 => (ih.rest lv d e l1 (by omega) (by simp only [wX] at h1; omega)).le fun a n h => by simp only [wX] at h1 ⊢; omega
  · simp only [j9]
    cases hs : lH lv (hd l) with
    | none => exact eC (ao _)
    | some b =>
     have : (hd l).kind ≠ 0 := by
      unfold lH at hs; split at hs
      · omega
      · cases hs
     have := gO this
     exact cE (ih.chain (lv + 1) d (dI l) (by omega) (by omega)) fun k l1 h1 => dS (fun _ => eC (by simp only [wX, Ch] at h1 ⊢; omega)) fun _ => (ih.rest lv d _ l1 hlv (by simp only [wX] at h1; omega)).le fun a n h => by simp only [wX, Ch] at h1 h ⊢; omega
theorem kQ {n d : Nat} {l : List Tok} (h : 10 * l.length + 6 ≤ n) : Tot wX (8 * l.length) (ff n 0 d l) := (zB n).chain 0 d l (by omega) (by omega)
abbrev wP (p : Pl) : Nat := p.index.sz + 7
theorem uA {n d : Nat} {l : List Tok} (h : 10 * l.length + 6 ≤ n) : Tot wP (8 * l.length) (nQ n d l) :=
 cE (gT (by omega) l) fun t l1 h1 => dS
  (fun k => by have := dO k; exact cE (gT (by omega) l1.tail) fun u l2 h2 => eC (by simp only [wP, nZ]; omega)) fun _ => dS
  (fun k => by have := dO k; exact cE (kQ (by omega)) fun e l2 h2 => cE (gf _ l2) fun _ l3 h3 => eC (by simp only [wP, wX] at h2 ⊢; omega)) fun _ => eC (by simp only [wP, nZ]; omega)
abbrev wR (r : Rt) : Nat := r.e.sz + r.place.index.sz + 6
theorem uD {n d : Nat} {l : List Tok} (h : 10 * l.length + 6 ≤ n) : Tot wR (8 * l.length) (jw n d l) := by
 simp only [jw]
 refine dS (fun k => ?_) fun _ => dS (fun k => ?_) fun _ => dS (fun k => dS (fun k' => ?_) fun _ => ?_) fun _ => ?_
 · have := dO k; exact cE (uA (by omega)) fun x l1 h1 => eC (by simp only [wP, wR, nZ] at h1 ⊢; omega)
 · have := dO k; exact cE (gT (by omega) _) fun x l1 h1 => eC (by simp only [wR, nZ, pl0]; omega)
 · have := dO k; have := dO k'; exact cE (kQ (by omega)) fun x l1 h1 => eC (by simp only [wX, wR, nZ, pl0] at h1 ⊢; omega)
 · have := dO k; exact cE (gT (by omega) _) fun x l1 h1 => eC (by simp only [wR, nZ, pl0]; omega)
 · exact cE (kQ (by omega)) fun x l1 h1 => eC (by simp only [wX, wR, nZ, pl0] at h1 ⊢; omega)
theorem xy (xs : List X) (x : X) : szs (xs ++ [x]) = szs xs + x.sz := by rw [qv]; simp [szs]
theorem BB (xs : List S) (x : S) : fv (xs ++ [x]) = fv xs + x.sz := by rw [tu]; simp [fv]
theorem vY {m d : Nat} : ∀ (n : Nat) (acc : List X) (l : List Tok), l.length + 1 ≤ n → 10 * l.length + 6 ≤ m → Tot szs (szs acc + 8 * l.length) (lN n m d acc l)
 | 0, acc, l, h, _ => by omega
 | n + 1, acc, l, h, hm => by
  simp only [lN]
  refine cE (kQ hm) fun e l1 h1 => dS (fun k => eC (by have := dO k; simp only [wX, xy] at h1 ⊢; omega)) fun _ => cE (gf _ l1) fun _ l2 h2 => ?_
  simp only [wX] at h1
  exact (vY n _ l2 (by omega) (by omega)).le fun a n h => by simp only [xy] at h ⊢; omega
theorem AD {n d : Nat} {l : List Tok} (h : 10 * l.length + 6 ≤ n) : Tot (fun xs => szs xs + 8) (8 * l.length) (sn n d l) :=
 cE (gf _ l) fun _ l1 h1 => dS (fun k => eC (by have := dO k; simp only [szs]; omega)) fun _ => (vY n [] l1 (by omega) (by omega)).le fun a n h => by simp only [szs] at h; omega
theorem kX {m : Nat} {s : S} {l : List Tok} (h : s.sz + 8 * l.length ≤ m + 8) : Tot S.sz m (gQ s l) := cE (gf _ l) fun _ l1 h1 => eC (by omega)
theorem kT (t : Tok) (op : Int) (name : ByteArray) (right : Rt) (place : Pl) (e : X) (n : Int) (args : List X) (body els : List S) : (mkS t op name right place e n args body els).sz = right.e.sz + right.place.index.sz + place.index.sz + e.sz + szs args + fv body + fv els + 1 := S.rH _
theorem HA : rt0.e.sz = 1 ∧ rt0.place.index.sz = 1 ∧ pl0.index.sz = 1 := ⟨nZ, nZ, nZ⟩
structure StT (n : Nat) : Prop where
 blk : ∀ d l, 10 * l.length + 7 ≤ n → Tot (fun b => fv b + 8) (8 * l.length) (fX n d l)
 row : ∀ d acc l, 10 * l.length + 9 ≤ n → Tot fv (fv acc + 8 * l.length) (oH n d acc l)
 lp : ∀ d t nm l, 10 * l.length + 8 ≤ n → Tot (fun s : S => s.sz + 1) (8 * l.length) (jI n d t nm l)
 st : ∀ d l, 10 * l.length + 8 ≤ n → Tot (fun s : S => s.sz + 1) (8 * l.length) (mm n d l)
theorem yE : ∀ n, StT n
 | 0 => ⟨fun d l h => by omega, fun d acc l h => by omega, fun d t nm l h => by omega, fun d l h => by omega⟩
 | n + 1 => by
  have ih := yE n; have z := HA; have z0 := nZ; refine ⟨fun d l h => ?_, fun d acc l h => ?_, fun d t nm l h => ?_, fun d l h => ?_⟩
  · simp only [fX]
    exact cE (gf _ _) fun t l1 h1 => tE ((ih.row (d + 1) [] l1 (by omega)).le fun a n h => by simp only [fv] at h; omega)
  · simp only [oH]
    refine dS (fun k => eC (by have := dO k; omega)) fun _ => cE (ih.st d l (by omega)) fun s l1 h1 => ?_
    have : 1 ≤ s.sz := by rw [S.rH]; omega
    exact (ih.row d _ l1 (by omega)).le fun a n h => by simp only [BB] at h; omega
  · simp only [jI]
    exact cE (gT (by omega) l) fun u l1 h1 => cE (ih.blk d l1 (by omega)) fun b l2 h2 => eC (by simp only [kT, szs, fv, z, z0]; omega)
  · simp only [mm]
    refine dS (fun k => ?_) fun _ => dS (fun k => ?_) fun _ => dS (fun k => ?_) fun _ => dS (fun k => ?_) fun _ => dS (fun k => ?_) fun _ => dS (fun k => ?_) fun _ => dS (fun k => ?_) fun _ => dS (fun k => ?_) fun _ => dS (fun k => ?_) fun _ => dS (fun k => ?_) fun _ => lz
    · have := gO (l := l) (by omega)
      refine dS (fun k' => ?_) fun _ => ?_
      · have := dO k'
        exact cE (gf _ _) fun _ l1 h1 => (ih.lp d _ _ l1 (by omega)).le fun a n h => by omega
      · exact cE (gf _ _) fun _ l1 h1 => cE (uD (by omega)) fun r l2 h2 => (kX (m := 8 * l.length - 1) (by simp only [wR] at h2; simp only [kT, szs, fv, z, z0]; omega)).le fun a n h => by omega
    · have := dO k; exact (ih.lp d _ _ l.tail (by omega)).le fun a n h => by omega
    · have := dO k
      refine cE (kQ (by omega)) fun e l1 h1 => ?_
      simp only [wX] at h1
      exact cE (ih.blk d l1 (by omega)) fun b l2 h2 => dS
       (fun k' => by have := dO k'; exact cE (ih.blk d l2.tail (by omega)) fun c l3 h3 => eC (by simp only [kT, szs, fv, z, z0]; omega)) fun _ => eC (by simp only [kT, szs, fv, z, z0]; omega)
    · have := dO k; exact cE (ih.blk d l.tail (by omega)) fun b l1 h1 => eC (by simp only [kT, szs, fv, z, z0]; omega)
    · have : (hd l).kind ≠ 0 := by rcases k with k | k <;> exact CT k
      have := gO this
      exact cE (gT (by omega) _) fun u l1 h1 => cE (gf _ l1) fun _ l2 h2 => cE (uD (by omega)) fun r l3 h3 => (kX (m := 8 * l.length - 1) (by simp only [wR] at h3; simp only [kT, szs, fv, z, z0]; omega)).le fun a n h => by omega
    · have := dO k
      refine cE (uA (by omega)) fun x l1 h1 => cE (gf _ l1) fun _ l2 h2 => ?_
      simp only [wP] at h1
      exact cE (kQ (by omega)) fun e l3 h3 => (kX (m := 8 * l.length - 1) (by simp only [wX] at h3; simp only [kT, szs, fv, z, z0]; omega)).le fun a n h => by omega
    · have := dO k; exact cE (kQ (by omega)) fun e l1 h1 => (kX (m := 8 * l.length - 1) (by simp only [wX] at h1; simp only [kT, szs, fv, z, z0]; omega)).le fun a n h => by omega
    · have := dO k
      have h2 : (gj l.tail).2.length ≤ l.tail.length := by
       unfold gj; split
       · exact wW _
       · exact ao _
      exact (kX (m := 8 * l.length - 1) (by simp only [kT, szs, fv, z, z0]; omega)).le fun a n h => by omega
    · have := dO k
      have h2 : (gj l.tail).2.length ≤ l.tail.length := by
       unfold gj; split
       · exact wW _
       · exact ao _
      exact (kX (m := 8 * l.length - 1) (by simp only [kT, szs, fv, z, z0]; omega)).le fun a n h => by omega
    · have := dO k
      exact cE (gT (by omega) _) fun u l1 h1 => cE (AD (by omega)) fun xs l2 h2 => (kX (m := 8 * l.length - 1) (by simp only [kT, szs, fv, z, z0]; omega)).le fun a n h => by omega
theorem sD : ∀ (n : Nat) (acc : List Nm) (l : List Tok), l.length + 1 ≤ n → Tot gG (acc.length + 8 * l.length) (iM n acc l)
 | 0, acc, l, h => by omega
 | n + 1, acc, l, h => by
  simp only [iM]
  exact dS (fun k => eC (by have := dO k; omega)) fun _ => cE (re l) fun f l1 h1 => cE (gf _ l1) fun _ l2 h2 =>
   (sD n _ l2 (by omega)).le fun a n h => by simp only [ay, bC] at h; omega
theorem FE {n : Nat} {l : List Tok} (h : l.length + 1 ≤ n) : Tot (fun r : Rec => r.fields.length + 1) (8 * l.length) (yA n l) :=
 cE (gT (by omega) l) fun t l1 h1 => cE (gf _ l1) fun _ l2 h2 => cE (sD n [] l2 (by omega)) fun fs l3 h3 => eC (by simp only [aC] at h3; show fs.length + 1 + 8 * l3.length ≤ _; omega)
theorem sV : ∀ (n : Nat) (acc : List Nm) (l : List Tok), l.length + 1 ≤ n → Tot gG (acc.length + 8 * l.length) (iu n acc l)
 | 0, acc, l, h => by omega
 | n + 1, acc, l, h => by
  simp only [iu]
  exact cE (re l) fun f l1 h1 => dS (fun k => eC (by have := dO k; simp only [ay, bC]; omega)) fun _ => cE (gf _ l1) fun _ l2 h2 =>
   (sV n _ l2 (by omega)).le fun a n h => by simp only [ay, bC] at h; omega
theorem E9 {n : Nat} {l : List Tok} (h : 10 * l.length + 7 ≤ n) : Tot (fun f : Fu => f.params.length + fv f.body + 1) (8 * l.length) (AW n l) :=
 cE (gT (by omega) l) fun t l1 h1 => cE (gf _ l1) fun _ l2 h2 => cE (c := gG) (m := 8 * l2.length)
  (dS (fun k => eC (by have := dO k; simp only [aC]; omega)) fun _ => (sV n [] l2 (by omega)).le fun a n h => by simpa using h) fun ps l3 h3 =>
  cE ((yE n).blk 0 l3 (by omega)) fun b l4 h4 => eC (by simp only []; omega)
def Pg.sz (g : Pg) : Nat := (g.fO.map fun r => r.fields.length + 1).sum + g.gls.length + (g.fQ.map fun f => f.params.length + fv f.body + 1).sum + (g.ths.map fun t => fv t.body + 1).sum
theorem xd {m : Nat} : ∀ (n : Nat) (g : Pg) (l : List Tok), l.length + 1 ≤ n → 10 * l.length + 7 ≤ m → Tot Pg.sz (g.sz + 8 * l.length) (gz n m g l)
 | 0, g, l, h, _ => by omega
 | n + 1, g, l, h, hm => by
  simp only [gz]
  refine dS (fun k => eC (ao _)) fun k0 => ?_
  have := yd k0
  have go : ∀ g' l2, l2.length < l.length → g'.sz + 8 * l2.length ≤ g.sz + 8 * l.length → Tot Pg.sz (g.sz + 8 * l.length) (gz n m g' l2) := fun g' l2 h2 h3 => (xd n g' l2 (by omega) (by omega)).le fun a n h => by omega
  refine dS (fun k => ?_) fun _ => dS (fun k => ?_) fun _ => dS (fun k => ?_) fun _ => dS (fun k => ?_) fun _ => lz
  · have := dO k; exact cE (FE (by omega)) fun r l1 h1 => go _ _ (by omega) (by simp only [Pg.sz, List.map_append, List.sum_append, aW, bc, List.sum_cons, List.sum_nil] at h1 ⊢; omega)
  · have := dO k; exact cE (re _) fun r l1 h1 => cE (gf _ l1) fun _ l2 h2 => go _ _ (by omega) (by simp only [Pg.sz, ay, bC]; omega)
  · have := dO k; exact cE (E9 (by omega)) fun r l1 h1 => go _ _ (by omega) (by simp only [Pg.sz, List.map_append, List.sum_append, aW, bc, List.sum_cons, List.sum_nil] at h1 ⊢; omega)
  · have := dO k; exact cE ((yE m).blk 0 l.tail (by omega)) fun r l1 h1 => go _ _ (by omega) (by simp only [Pg.sz, List.map_append, List.sum_append, aW, bc, List.sum_cons, List.sum_nil] at h1 ⊢; omega)
theorem C3 : ∀ (k : Nat) (rest : List UInt8) (p : Nat × Nat), rest.length = k → ∀ ts, fM rest p = .ok ts → ts.length ≤ rest.length + 1 ∧ ∀ t ∈ ts, t.text.length ≤ rest.length := by
 intro k
 induction k using Nat.strongRecOn with
 | ind k ih =>
  intro rest p hk ts h
  cases rest with
  | nil =>
   rw [lX] at h; obtain rfl := LR.ok.inj h; exact ⟨by simp, by simp⟩
  | cons c l =>
   by_cases hb : eP (c :: l) = 0
   · cases ht : (dp (c :: l)).2.2.2 with
     | false => rw [nM hb ht] at h; cases h
     | true =>
      rw [lY hb ht] at h; have hpos := la ht; have hdl : ((c :: l).drop (dp (c :: l)).2.1).length = (c :: l).length - (dp (c :: l)).2.1 := cF ..
      cases hr : fM ((c :: l).drop (dp (c :: l)).2.1) (adv ((c :: l).take (dp (c :: l)).2.1) p) with
      | err q => rw [hr] at h; cases h
      | ok ts' =>
       rw [hr] at h; obtain rfl := LR.ok.inj h; simp only [ag] at hdl hk; obtain ⟨h1, h2⟩ := ih _ (by omega) _ _ rfl ts' hr; refine ⟨by simp only [ag]; omega, fun t hm => ?_⟩
       rcases List.mem_cons.1 hm with rfl | hm
       · simp only [je]; exact Nat.le_trans (List.length_take_le _ _) (oB c l)
       · have := h2 t hm; simp only [ag]; omega
   · rw [jv hb] at h
     have hdl : ((c :: l).drop (eP (c :: l))).length = (c :: l).length - eP (c :: l) := cF ..; simp only [ag] at hdl hk; obtain ⟨h1, h2⟩ := ih _ (by omega) _ _ rfl ts h; exact ⟨by simp only [ag]; omega, fun t hm => by have := h2 t hm; simp only [ag]; omega⟩
theorem yO : ∀ w ∈ iK, ∀ lv, lv < 3 → (im lv).contains w = false := by
 intro w hw lv hlv
 have : lv = 0 ∨ lv = 1 ∨ lv = 2 := by omega
 rcases this with rfl | rfl | rfl <;> revert w <;> decide
theorem qx {t : Tok} (h : Tk t) : t.kind ≠ 0 ∧ (t.n < 9223372036854775808 ∨ t.kind = 4) ∧ (t.kind = 5 → ∀ c ∈ t.text, c ≠ 32) ∧ (t.kind = 2 → iJ t.text = true) := by
 obtain ⟨a, l, h1, h2, h3⟩ := h.ex; have hk := BN (c := a) (l := l) (by rw [h3]); rw [h3] at hk; refine ⟨hk, ?_⟩; rw [h1]
 cases ha : cg a with
 | true =>
  rw [gC ha] at h3; obtain ⟨e1, e2⟩ := Prod.mk.inj h3; obtain ⟨e2, e3⟩ := Prod.mk.inj e2; obtain ⟨e3, e4⟩ := Prod.mk.inj e3; rw [e2, gg] at e1 e3; unfold kc at e1 e3
  cases hw : iJ (a :: l) with
  | true =>
   simp only [hw, if_true] at e1 e3; exact ⟨.inl (by omega), fun q => by omega, fun _ => rfl⟩
  | false =>
   cases hn : lq (a :: l) with
   | true =>
    simp only [hw, hn, if_true, if_false, ae] at e1 e3; exact ⟨.inl (by omega), fun q => by omega, fun q => by omega⟩
   | false =>
    simp only [hw, hn, if_false, ae] at e1 e3; have := Ad (a :: l); exact ⟨.inl (by omega), fun q => by omega, fun q => by omega⟩
 | false =>
  by_cases hc : a = 35
  · subst hc
    rw [fT] at h3; obtain ⟨e1, e2⟩ := Prod.mk.inj h3; exact ⟨.inr e1.symm, fun q => by omega, fun q => by omega⟩
  · rw [fH ha hc] at h3
    obtain ⟨e1, e2⟩ := Prod.mk.inj h3; obtain ⟨e2, e3⟩ := Prod.mk.inj e2; obtain ⟨e3, e4⟩ := Prod.mk.inj e3; refine ⟨.inl (by omega), fun _ => ?_, fun q => by omega⟩; unfold eR at e2; split at e2
    · rename_i hp
      have : ∃ b, l = [b] := by
       cases l with
       | nil => simp at e2
       | cons b l => cases l with
        | nil => exact ⟨b, rfl⟩
        | cons _ _ => simp at e2
      obtain ⟨b, rfl⟩ := this; simp only [Bool.or_eq_true, ed, aq, beq_iff_eq] at hp; intro c hm; simp only [List.mem_cons, List.not_mem_nil, or_false] at hm
      rcases hp with (⟨rfl, rfl, _⟩ | ⟨rfl, rfl, _⟩) | ⟨rfl, rfl, _⟩ <;> rcases hm with rfl | rfl <;> decide
    · simp only at e2
      split at e2
      · rename_i hs
        have : l = [] := List.length_eq_zero_iff.1 (by simp only [ag] at e2; omega); subst this; intro c hm; rw [List.mem_singleton] at hm; subst hm
        rintro rfl
        revert hs
        decide
      · simp at e2
theorem Fs {l : List UInt8} (hl : l.length ≤ 8192) {p : Nat × Nat} {ts : List Tok} (h : fM l p = .ok ts) : Row ts ∧ GB ts ∧ ts.length ≤ l.length + 1 := by
 obtain ⟨t0, h1, h2⟩ := sL l.length l p rfl ts h; obtain ⟨h3, h4⟩ := C3 l.length l p rfl ts h
 have hm : ∀ t ∈ ts, Tk t ∨ t = ⟨0, [], 0, adv l p⟩ := by
  intro t ht; rw [h2] at ht
  rcases List.mem_append.1 ht with ht | ht
  · exact .inl (h1 t ht)
  · exact .inr (List.mem_singleton.1 ht)
 refine ⟨⟨by omega, ⟨t0, adv l p, h2, fun t ht => (qx (h1 t ht)).1⟩, fun t ht => ?_, fun t ht => by have := h4 t ht; omega, fun t ht k => ?_⟩, fun t ht k => ?_, h3⟩
 · rcases hm t ht with q | rfl
   · exact (qx q).2.1
   · exact .inl (by simp)
 · rcases hm t ht with q | rfl
   · exact (qx q).2.2.1 k
   · simp at k
 · rcases hm t ht with q | rfl
   · have := (qx q).2.2.2 k
     exact yO _ (by simpa [iJ] using this)
   · simp at k
def kW (ts : List Tok) : PR Pg := ((gz 10000 100000 ⟨[], [], [], []⟩ ts).getD (.bad 0 (0, 0)))
theorem sX {ts : List Tok} (h : ts.length ≤ 8193) : gz 10000 100000 ⟨[], [], [], []⟩ ts = some (kW ts) ∧ ∀ g l', kW ts = .ok g l' → g.sz ≤ 70000 := by
 obtain ⟨x, h1, h2⟩ := xd (m := 100000) 10000 ⟨[], [], [], []⟩ ts (by omega) (by omega); unfold kW; rw [h1]; refine ⟨rfl, fun g l' e => ?_⟩; have := h2 g l' e; simp only [Pg.sz, bc, List.sum_nil, aC] at this; simp only [Pg.sz]; omega
def ic (l : List UInt8) : Pg × Nat × Nat × Nat := if (lW l).1 = 0 then match kW (qP l) with | .ok g _ => (g, 0, 0, 0) | .bad e q => (pg0, e, q.1, q.2) else (pg0, lW l)
def Bg {R : Type} (x : Ex) (A B : Option R) : Option R := match x with
 | .normal => A
 | .ret => B
 | _ => none
noncomputable def H47 (a0 a1 a2 : PV) (st : St) : Option St :=
(bm [(0, 1), (1, 1), (2, 1), (3, 1)] [.sl [] .nil, .sl [] .nil, .sl [] .nil, .sl [] .nil] []).bind fun p1 =>
(aj false 1 a0 st).bind fun p2 =>
(aI p2).bind fun p3 =>
(an p3 3).bind fun p4 =>
(aj true 3 p4 st).bind fun p5 =>
(au st.stk.length 4 a1 p1 st).bind fun st6 =>
(au st.stk.length 3 a2 p5 st6).bind fun st7 =>
some st7
theorem Gz (a0 a1 a2 : PV) (st : St) : CN [a0, a1, a2] 108 (.agg #[]) st = H47 a0 a1 a2 st := by kernel_rfl
noncomputable def S20 (call : bA) (a0 : PV) (st : St) : Option (PV × St) :=
let q2 : PV := .ptr false st.stk.length 0
let st1 := st.push [.sl [] .nil, .sl [] .nil, .sl [] .nil, .sl [] .nil]
let q4 : PV := .ptr false st1.stk.length 0
let st3 := st1.push [.v (.int .i64 0), .v (.int .i64 0), .v (.int .i64 0)]
(call (.func 46) [ai a0] st3).bind fun r5 =>
(aS r5.1 0).bind fun p6 =>
(aS r5.1 1).bind fun p7 =>
let q9 : PV := .ptr false r5.2.stk.length 0
let st8 := r5.2.push [.v (.int .i64 0), .v (.int .i64 0), .v (.int .i64 0)]
(au st.stk.length 3 q9 p7 st8).bind fun st10 =>
(aj true 3 q9 st10).bind fun p11 =>
(bm [(0, 1), (1, 1), (2, 1)] [.v (.int .i64 0), .v (.int .i64 0), .v (.int .i64 0)] []).bind fun p12 =>
(aJ Tryz.prog false .neq 54 p11 p12).bind fun p13 =>
aw p13 fun b14 => (bif b14 then
(bm [(0, 1), (1, 1), (2, 1), (3, 1)] [.sl [] .nil, .sl [] .nil, .sl [] .nil, .sl [] .nil] []).bind fun p16 =>
(aj true 3 q9 st10).bind fun p17 =>
bq (st10 = st10) <|
(au st.stk.length 4 q2 p16 st10).bind fun st18 =>
bq (((aj true 3 q9 st18).bind fun p19 =>
some (Rs.ret p19, st18)) = some (Rs.ret p17, st18)) <|
(au st.stk.length 3 q4 p17 st18).bind fun st20 =>
some (Ex.ret, [q2, q4, p6], st20)
else
some (Ex.normal, [q2, q4, p6], st10)).bind fun r15 =>
Bg r15.1 ((bm [(0, 1), (1, 1), (2, 1), (3, 3)] [.sl [] .nil, .v (.int .i64 0), .v (.int .i64 0), .v (.int .i64 0), .v (.int .i64 0), .v (.int .i64 0)] [(0, (aa r15.2.1 2))]).bind fun p21 =>
(cellsOf p21).bind fun b22 =>
let q24 : PV := .ptr false r15.2.2.stk.length 0
let st23 := r15.2.2.push b22
let q26 : PV := .ptr false st23.stk.length 0
let st25 := st23.push [.v (.pointer none)]
(au st.stk.length 1 q26 q24 st25).bind fun st27 =>
(lM (Fn.func 47) true [q26, (aa r15.2.1 0), (aa r15.2.1 1)]).bind fun p28 =>
sR 47 3 p28 fun cs29 =>
(aj false 1 q26 st27).bind fun p30 =>
(call (.func 48) [ai p30] st27).bind fun r31 =>
aZ r31 (fun p32 st33 =>
(bm [(0, 1), (1, 1), (2, 1)] [.v (.int .i64 0), .v (.int .i64 0), .v (.int .i64 0)] []).bind fun p37 =>
(au st.stk.length 4 (aa r15.2.1 0) p32 st33).bind fun st38 =>
(au st.stk.length 3 (aa r15.2.1 1) p37 st38).bind fun st39 =>
(aj true 4 (aa r15.2.1 0) st39).bind fun p40 =>
(aj true 3 (aa r15.2.1 1) st39).bind fun p41 =>
fin st.stk.length st.tk.length st.lp.length [p40, p41] st39) (fun t34 x35 st36 =>
(CN cs29 t34 x35 st36).bind fun st42 =>
(aj true 4 (aa r15.2.1 0) st42).bind fun p43 =>
(aj true 3 (aa r15.2.1 1) st42).bind fun p44 =>
fin st.stk.length st.tk.length st.lp.length [p43, p44] st42)) ((aj true 4 (aa r15.2.1 0) r15.2.2).bind fun p45 =>
(aj true 3 (aa r15.2.1 1) r15.2.2).bind fun p46 =>
fin st.stk.length st.tk.length st.lp.length [p45, p46] r15.2.2)
theorem xM (a0 : PV) (st : St) : E L (.func 20) [a0] st = S20 (E L) a0 st := (yU (L := L) (q := j5.mR) (by kernel_rfl) _ _).trans (by kernel_rfl)
theorem DK {s : St} {N : Nat} (hN : s.stk.length = N) {j off base sz : Nat} {bl : List Blk} {x : Blk} {cs : List PV} {tk : List (Nat × Nat)} {lp : List Aux} (hj : bl[j]? = some x) (hb : N + j < base) (hl : off + cs.length ≤ x.cs.length) (hz : cs.length = sz) (h0 : sz ≠ 0) (hs : cs.all ra = true) (hk : aH cs = true) :
 au base sz (.ptr false (N + j) off) (.agg cs) (s.app bl tk lp) = some (s.app (bl.modify j fun y => ⟨laid x.cs off cs, y.tk⟩) tk lp) := by
 subst hN
 have h1 : (s.app bl tk lp).blk false (s.stk.length + j) = some x.cs := by
  show ((s.stk ++ bl)[s.stk.length + j]?).map Blk.cs = _
  rw [List.getElem?_append_right (by omega), show s.stk.length + j - s.stk.length = j by omega, hj]
  rfl
 have h3 : dL (off + cs.length) x.cs.length = true := by rw [Nat.ble_eq]; exact hl
 have h5 : (ak cs.length sz && !ak sz 0) = true := by
  rw [hz, Nat.beq_refl]
  cases sz with
  | zero => exact absurd rfl h0
  | succ n => rfl
 have h6 : gn (s.stk.length + j) base = true := by rw [Nat.blt_eq]; exact hb
 simp only [au, AM.cellsOf, ah, putCells, h1, h3, hk, h5, h6, br, cond_true, Bool.or_true, Bool.false_or, ko hs, jx]
attribute [local simp] cZ cy bX bY cz eI fu dX di dV de dW dh ft bZ hZ dR ib gU gN AM.aa aN aO bf aP aw AM.onG fR bH dw Ex.ba cond_true cond_false cV cU cT cS cR cX cQ cY cW dY dj dm cx da AM.du AM.cellsOf AM.an bQ beq_true dr ag aC bj bx bU decide_true decide_false bI bn br bD bg aB aA bh aD db dc fm av bE aY bR cC dQ dT cL eB eA set_set eG dB fI dC cI bK dA cH dz cG dy eF eH fE fF bO cv eu fD dZ aZ aT aI AM.aS ai dt bW aW bc aL aK AM.part aQ aM cc cn cm cr cr.eT AM.dM bu bV eg gm aZ laid aH bm cq
attribute [-simp] ah
attribute [local congr] ej
theorem vm (b : Bool) (x y z u v w : Int) : aJ Tryz.prog b .neq 54 (.agg [.v (.int .i64 x), .v (.int .i64 y), .v (.int .i64 z)]) (.agg [.v (.int .i64 u), .v (.int .i64 v), .v (.int .i64 w)]) = some (.v (.bool (!((x == u) && ((y == v) && ((z == w) && true)))))) := by kernel_rfl
abbrev z3 : List PV := [.v (.int .i64 0), .v (.int .i64 0), .v (.int .i64 0)]
abbrev nk (A B F : List PV) (p : List PV) (N : Nat) : List Blk := [⟨A, []⟩, ⟨B, []⟩, ⟨F, []⟩, ⟨p, []⟩, ⟨[.ptr false (N + 3) 0], []⟩]
theorem GA {s : St} {N T Lb : Nat} (hN : s.stk.length = N) (hT : s.tk.length = T) (hL : s.lp.length = Lb) (F : List PV) (es : List (List PV)) (a d e q1 q2 : Int) :
 H47 (.ptr false (N + 4) 0) (.ptr false N 0) (.ptr false (N + 1) 0) (s.app (nk z4 z3 F (pcf es a d e q1 q2) N) [] []) = some (s.app (nk z4 [.v (.int .i64 e), .v (.int .i64 q1), .v (.int .i64 q2)] F (pcf es a d e q1 q2) N) [] []) := by
 have hlen : (s.app (nk z4 z3 F (pcf es a d e q1 q2) N) [] []).stk.length = N + 5 := by rw [cC, hN]; rfl
 have s1 := DK hN (j := 0) (off := 0) (base := N + 5) (sz := 4) (bl := nk z4 z3 F (pcf es a d e q1 q2) N) (x := ⟨z4, []⟩) (cs := z4) (tk := []) (lp := []) rfl (by omega) (by decide) rfl (by decide) rfl rfl; have s2 := DK hN (j := 1) (off := 0) (base := N + 5) (sz := 3) (bl := nk z4 z3 F (pcf es a d e q1 q2) N) (x := ⟨z3, []⟩) (cs := [.v (.int .i64 e), .v (.int .i64 q1), .v (.int .i64 q2)]) (tk := []) (lp := []) rfl (by omega) (ao 3) rfl (by decide) rfl rfl; have m1 : (nk z4 z3 F (pcf es a d e q1 q2) N).modify 0 (fun y => ⟨laid (⟨z4, []⟩ : Blk).cs 0 z4, y.tk⟩) = nk z4 z3 F (pcf es a d e q1 q2) N := rfl; have m2 : (nk z4 z3 F (pcf es a d e q1 q2) N).modify 1 (fun y => ⟨laid (⟨z3, []⟩ : Blk).cs 0 [.v (.int .i64 e), .v (.int .i64 q1), .v (.int .i64 q2)], y.tk⟩) = nk z4 [.v (.int .i64 e), .v (.int .i64 q1), .v (.int .i64 q2)] F (pcf es a d e q1 q2) N := rfl; rw [m1] at s1; rw [m2] at s2; unfold H47; rw [hlen]; simp only [nk, pcf, z4, z3, bx] at s1 s2 ⊢; simp [hN, hT, hL, s1, s2, bm, cq]
theorem uR {l : List UInt8} (hl : l.length < 100000) (st : St) : E L (.func 20) [str l] st = some (.tup [nF (ic l).1, .agg (AV (ic l).2)], st) := by
 have e46 := Gr (l := l) (by omega); unfold ic
 by_cases h0 : (lW l).1 = 0
 · rw [if_pos h0]
   have hlen : l.length ≤ 8192 := by
    have := h0; unfold lW at this; split at this
    · simp at this
    · omega
   obtain ⟨ts, hts⟩ : ∃ ts, fM l (1, 1) = .ok ts := by
    cases hL : fM l (1, 1) with
    | ok ts => exact ⟨ts, rfl⟩
    | err q => have := (qc hlen hL).2; rw [this] at h0; simp at h0
   have hlt := mN hlen hts; rw [hlt.1] at e46 ⊢; rw [hlt.2] at e46; obtain ⟨hr, hns, hn⟩ := Fs hlen hts
   have hne : ts ≠ [] := by
    obtain ⟨t0, q, e, _⟩ := hr.shape
    rw [e]; simp
   have hp := (sX (ts := ts) (by omega)).1; have h1 := yx hr (m := 100000) (n := 10000) (by omega) (by omega) ⟨hne, [], rfl⟩ hp
   have hA : pcA ts ts = 0 := by simp [pcA]
   cases hq : kW ts with
   | ok g l' =>
    rw [hq] at h1; rw [xM]; obtain ⟨N, T, Lb, hN, hT, hL⟩ := lens3 st
    conv => lhs; rw [← al st]
    have e48 := h1.2 (N + 3) (st.app (nk z4 z3 z3 (pc ts ts 0) N) [] []) (by rw [cC, hN]; show N + 3 < N + 5; omega)
    have m1 : ∀ cs, (st.app (nk z4 z3 z3 (pc ts ts 0) N) [] []).af false (N + 3) cs = st.app (nk z4 z3 z3 cs N) [] [] := fun cs => by subst hN; exact jx st _ [] [] 3 cs
    rw [m1, m1] at e48; simp only [pc, pcf, nk, z3, z4, hA, nF, eD] at e46 e48 ⊢
    generalize az ts = es at *
    generalize iV g.fO = rs at *
    generalize nms g.gls = gs at *
    generalize lG g.fQ = fs at *
    generalize lK g.ths = hs at *
    simp [S20, vm, hN, hT, hL, e46, e48, Bg, bm, cq, lM, sR, fo]
   | bad er q =>
    rw [hq] at h1; obtain ⟨a', d'', h1⟩ := h1; rw [xM]; obtain ⟨N, T, Lb, hN, hT, hL⟩ := lens3 st
    conv => lhs; rw [← al st]
    have e48 := h1 (N + 3) (st.app (nk z4 z3 z3 (pc ts ts 0) N) [] []) (by rw [cC, hN]; show N + 3 < N + 5; omega)
    have m1 : ∀ cs, (st.app (nk z4 z3 z3 (pc ts ts 0) N) [] []).af false (N + 3) cs = st.app (nk z4 z3 z3 cs N) [] [] := fun cs => by subst hN; exact jx st _ [] [] 3 cs
    rw [m1, m1] at e48; have e47 := GA hN hT hL z3 (az ts) a' d'' er q.1 q.2; rw [← Gz] at e47; have ez : (iV pg0.fO = [] ∧ nms pg0.gls = []) ∧ lG pg0.fQ = [] ∧ lK pg0.ths = [] := ⟨⟨rfl, rfl⟩, rfl, rfl⟩; simp only [pc, pcf, nk, z3, z4, hA, nF, ez, eD] at e46 e47 e48 ⊢
    generalize az ts = es at *
    simp [S20, vm, hN, hT, hL, e46, e47, e48, Bg, bm, cq, lM, sR, fo]; exact ⟨rfl, rfl, rfl, rfl⟩
 · rw [if_neg h0]
   have h0' : ¬ (((lW l).1 : Int) = 0) := by omega
   rw [xM]; obtain ⟨N, T, Lb, hN, hT, hL⟩ := lens3 st
   conv => lhs; rw [← al st]
   have ez : (iV pg0.fO = [] ∧ nms pg0.gls = []) ∧ lG pg0.fQ = [] ∧ lK pg0.ths = [] := ⟨⟨rfl, rfl⟩, rfl, rfl⟩
   generalize lW l = f at *
   simp only [nF, ez]; simp [S20, vm, hN, hT, hL, e46, h0, h0', Bg, bm, cq]; exact ⟨rfl, rfl, rfl, rfl⟩
end Go.Proofs.YtlhlijaondmccaaGreatDoor.S
namespace Go.Proofs.YtlhlijaondmccaaGreatDoor.S
open Go Go.AM Go.Proofs
attribute [local simp] cZ cy bX bY cz eI fu dX di dV de dW dh ft bZ hZ dR ib gU gN AM.aa aN aO ah bf aP aw AM.onG fR bH dw Ex.ba cond_true cond_false cV cU cT cS cR cX cQ cY cW dY dj dm cx cC dQ dT nN oo da mn mX lV mM AM.du AM.cellsOf AM.an bQ zC vl beq_true dr ag aC bj bx bU decide_true decide_false bI bn br bD bg aB aA bh aD vo yf ye db dc sF fm av bE aY bR
theorem vp {σ : Type} {b : List PV → St → Option (Ex × List PV × St)} {n : Nat} {P : Nat → σ → Prop} {vs : Nat → σ → List PV} {st : Nat → σ → St} {e : Nat}
 (step : ∀ i a, i < n → P i a → ∃ a', P (i + 1) a' ∧ b (vs i a) (st i a) = some (.normal, vs (i + 1) a', st (i + 1) a'))
 (stop : ∀ a, P n a → b (vs n a) (st n a) = some (.exit e, vs n a, st n a)) (a : σ) (h : P 0 a) : ∃ a', P n a' ∧ itE b (vs 0 a) (st 0 a) = some (.exit e, vs n a', st n a') := by
 have go : ∀ k i a, i + k = n → P i a → ∃ a', P n a' ∧ itE b (vs i a) (st i a) = some (.exit e, vs n a', st n a') := by
  intro k
  induction k with
  | zero =>
   intro i a hi ha
   obtain rfl : i = n := by omega
   exact ⟨a, ha, fk (stop a ha)⟩
  | succ k ih =>
   intro i a hi ha; obtain ⟨a1, h1, h2⟩ := step i a (by omega) ha; obtain ⟨a2, h3, h4⟩ := ih (i + 1) a1 (by omega) h1; exact ⟨a2, h3, by rw [bP h2, h4]⟩
 exact go n 0 a (by omega) h
theorem pW {α β : Type} (f : α → List β) (l : List α) (i : Nat) (h : i < l.length) : (l.take (i + 1)).flatMap f = (l.take i).flatMap f ++ f l[i] := by
 rw [List.take_succ_eq_append_getElem h, List.flatMap_append]; simp
theorem zD {α β : Type} (f : α → List β) (l : List α) (i : Nat) (h : i < l.length) : ((l.take i).flatMap f).length + (f l[i]).length ≤ (l.flatMap f).length := by
 rw [← ay, ← pW f l i h]
 have e : l.flatMap f = (l.take (i + 1)).flatMap f ++ (l.drop (i + 1)).flatMap f := by rw [← List.flatMap_append, List.take_append_drop]
 rw [e, ay]; omega
theorem Ff {n i : Nat} (h : i < n) : dv (i : Int) n = true := by simp [dv]; omega
def nmT (n : Nm) : List ByteArray := [n.name, fc n.ty.kd, n.ty.rc]
def kU (l : List Nm) : List ByteArray := fc l.length :: l.flatMap nmT
theorem jm (l : List Nm) : (kU l).length = 1 + 3 * l.length := by
 have : (l.flatMap nmT).length = 3 * l.length := by
  induction l with
  | nil => rfl
  | cons x l ih => simp only [List.flatMap_cons, ay, ih, ag]; simp [nmT]; omega
 simp only [kU, ag, this]; omega
theorem vy (l : List Nm) (hl : l.length ≤ 100000) (st : St) : E L (.func 52) [.sl (nms l) .dead] st = some (.sl (strs (kU l)) .dead, st) := by
 obtain ⟨s, rfl⟩ : ∃ s : St, st = s.app [] [] [] := ⟨st, (al st).symm⟩
 have hT := jm l
 obtain ⟨⟨c, tk⟩, ho, hit⟩ := vp (b := S52.b0 (E L) itE s.stk.length s.lp.length) (n := l.length) (e := 0) (P := fun i a => Own s a.2 a.1 (strs (fc l.length :: (l.take i).flatMap nmT)).length 1)
  (vs := fun i a => [.sl (strs (fc l.length :: (l.take i).flatMap nmT)) a.1, .sl (nms l) .dead, int l.length, int i]) (st := fun i a => s.app [] a.2 [])
  (fun i a hi ho => by
   obtain ⟨c, tk⟩ := a
   have hlt : (i : Int) < (l.length : Int) := by omega
   have g1 : (nms l)[i]? = some (nmC l[i]) := by simp [nms, hi]
   have w1 : IntKind.i64.wrap ((i : Int) + 1) = ((i + 1 : Nat) : Int) := IntWalk.i64_in _ (by omega); have hle := zD nmT l i hi
   have hlT : (l.flatMap nmT).length = 3 * l.length := by simp only [kU, ag] at hT; omega
   obtain ⟨c1, tk1, e1, o1⟩ := fj (ys := strs (nmT l[i])) (bytes := 16) ho (by simp only [eS, ag, cu]; omega) (dD _) (dD _) (by decide) (by decide); rw [fP, aD, ← pW nmT l i hi] at e1 o1; refine ⟨(c1, tk1), o1, ?_⟩; have el : (nmC l[i]).length = 5 := rfl; have ew : AM.part true 5 0 (nmC l[i]) = some (.agg (nmC l[i])) := rfl; have eo : aH (nmC l[i]) = true := rfl; have p0 : AM.part false 1 0 (nmC l[i]) = some (gR (l[i]).name) := rfl; have p1 : AM.part false 1 1 (nmC l[i]) = some (int (l[i]).ty.kd) := rfl; have p2 : AM.part false 1 2 (nmC l[i]) = some (gR (l[i]).ty.rc) := rfl; have hb : aF 1 [.v (.string ⟨#[]⟩)] 3 [(0, gR (l[i]).name), (1, gR (fc (l[i]).ty.kd)), (2, gR (l[i]).ty.rc)] = some (.sl (strs (nmT l[i])) .full) := rfl; have rr := Ff hi
   generalize fc l.length :: (l.take (i + 1)).flatMap nmT = A at *
   generalize fc l.length :: (l.take i).flatMap nmT = B at *
   simp [S52.b0, hlt, Ib, fY, rr, gB, gX, hG, g1, el, ew, eo, iA, p0, p1, p2, mZ, hb, e1, w1, o1.sfc])
  (fun a ho => by
   obtain ⟨c, tk⟩ := a
   simp [S52.b0, Own.sfc ho]) (.full, []) (Own.full ..)
 simp only [aY, List.flatMap_nil, gg] at hit; rw [show ((0 : Nat) : Int) = 0 from rfl] at hit; rw [GS]; have hb : aF 1 [.v (.string ⟨#[]⟩)] 1 [(0, gR (fc l.length))] = some (.sl (strs [fc l.length]) .full) := rfl; simp [S52, Hs, fY, mZ, hb, hit, kU]
def Rec.tx (r : Rec) : List ByteArray := r.name :: kU r.fields
def Fu.tx (r : Fu) : List ByteArray := r.name :: (kU r.params ++ iD r.body)
def Th.tx (r : Th) : List ByteArray := iD r.body
def Pg.hd (p : Pg) : List ByteArray := [fc p.fO.length, fc p.fQ.length, fc p.ths.length]
def Pg.tx (p : Pg) : List ByteArray := p.hd ++ p.fO.flatMap Rec.tx ++ kU p.gls ++ p.fQ.flatMap Fu.tx ++ p.ths.flatMap Th.tx
theorem lT {α β : Type} (f : α → List β) (k : Nat) : ∀ (l : List α), (∀ x ∈ l, (f x).length ≤ k) → (l.flatMap f).length ≤ l.length * k
 | [], _ => by simp
 | x :: l, h => by
  have h1 := h x bL
  have h2 := lT f k l fun y hy => h y (cf _ hy)
  simp only [List.flatMap_cons, ay, ag, Nat.add_mul]; omega
theorem FF (s : St) (pb : Blk) (hpb : pb.cs.all (sf true (s.stk.length + 1) 4) = true) (l : List Rec) (hb : ∀ x ∈ l, x.fields.length ≤ 100000) (hl : l.length ≤ 100000) (A : List ByteArray) (hA : A.length ≤ 1000) (c0 : Cap) (tk0 : List (Nat × Nat)) (h0 : Own s tk0 c0 (strs A).length 1) :
 ∃ c tk, Own s tk c (strs (A ++ l.flatMap Rec.tx)).length 1 ∧ itE (S23.b0 (E L) itE s.stk.length s.lp.length) [.ptr false s.stk.length 0, .sl (strs A) c0, .sl (iV l) .dead, int l.length, int 0] (s.app [pb] tk0 []) =
  some (.exit 0, [.ptr false s.stk.length 0, .sl (strs (A ++ l.flatMap Rec.tx)) c, .sl (iV l) .dead, int l.length, int l.length], s.app [pb] tk []) := by
 have hT : (l.flatMap Rec.tx).length ≤ l.length * 300002 := lT _ _ _ fun x hx => by have := hb x hx; have := jm x.fields; simp only [Rec.tx, ag]; omega
 obtain ⟨⟨c, tk⟩, ho, hit⟩ := vp (b := S23.b0 (E L) itE s.stk.length s.lp.length) (n := l.length) (e := 0) (P := fun i a => Own s a.2 a.1 (strs (A ++ (l.take i).flatMap Rec.tx)).length 1)
  (vs := fun i a => [.ptr false s.stk.length 0, .sl (strs (A ++ (l.take i).flatMap Rec.tx)) a.1, .sl (iV l) .dead, int l.length, int i]) (st := fun i a => s.app [pb] a.2 [])
  (fun i a hi ho => by
   obtain ⟨c, tk⟩ := a
   have hlt : (i : Int) < (l.length : Int) := by omega
   have g1 : (iV l)[i]? = some (recC l[i]) := by simp [iV, hi]
   have w1 : IntKind.i64.wrap ((i : Int) + 1) = ((i + 1 : Nat) : Int) := IntWalk.i64_in _ (by omega); have hle := zD Rec.tx l i hi
   have hlx : (Rec.tx l[i]).length = 1 + (kU (l[i]).fields).length := by simp only [Rec.tx, ag]; omega
   obtain ⟨c1, tk1, e1, o1⟩ := fj (ys := strs [(l[i]).name]) (bytes := 16) ho (by simp only [eS, ay, ag, aC, cu]; omega) (dD _) (dD _) (by decide) (by decide); rw [fP] at e1 o1; obtain ⟨c2, tk2, e2, o2⟩ := fj (ys := strs (kU (l[i]).fields)) (bytes := 16) o1 (by simp only [eS, ay, ag, aC, cu]; omega) (dD _) (dD _) (by decide) (by decide)
   have ex : A ++ (l.take i).flatMap Rec.tx ++ [(l[i]).name] ++ kU (l[i]).fields = A ++ (l.take (i + 1)).flatMap Rec.tx := by rw [pW _ _ _ hi]; simp [Rec.tx]
   rw [fP, ex] at e2 o2; refine ⟨(c2, tk2), o2, ?_⟩; have el : (recC l[i]).length = 4 := rfl; have ew : AM.part true 4 0 (recC l[i]) = some (.agg (recC l[i])) := rfl; have eo : aH (recC l[i]) = true := rfl; have p0 : AM.part false 1 0 (recC l[i]) = some (gR (l[i]).name) := rfl; have p1 : AM.part false 1 1 (recC l[i]) = some (.sl (nms (l[i]).fields) .dead) := rfl; have hbs : aF 1 [.v (.string ⟨#[]⟩)] 1 [(0, gR (l[i]).name)] = some (.sl (strs [(l[i]).name]) .full) := rfl; have rr := Ff hi; have nm := vy (l[i]).fields (hb _ (List.getElem_mem hi))
   generalize A ++ (l.take (i + 1)).flatMap Rec.tx = B at *
   generalize A ++ (l.take i).flatMap Rec.tx ++ [(l[i]).name] = D at *
   generalize A ++ (l.take i).flatMap Rec.tx = B' at *
   simp [S23.b0, hlt, Ia, rr, gB, gX, hG, g1, el, ew, eo, iA, p0, p1, nm, hbs, e1, e2, w1, o2.sfc, hpb])
  (fun a ho => by
   obtain ⟨c, tk⟩ := a
   simp [S23.b0, Own.sfc ho, hpb]) (c0, tk0) (by simpa using h0)
 simp only [aY, List.flatMap_nil, gg, List.append_nil] at hit ho; rw [show ((0 : Nat) : Int) = 0 from rfl] at hit; exact ⟨c, tk, ho, hit⟩
theorem Fa (s : St) (pb : Blk) (hpb : pb.cs.all (sf true (s.stk.length + 1) 4) = true) (l : List Fu) (hb : ∀ x ∈ l, x.params.length ≤ 100000) (hb2 : ∀ x ∈ l, fv x.body ≤ 100000) (hl : l.length ≤ 100000) (A : List ByteArray) (hA : A.length ≤ 100000000000) (c0 : Cap) (tk0 : List (Nat × Nat)) (h0 : Own s tk0 c0 (strs A).length 1) :
 ∃ c tk, Own s tk c (strs (A ++ l.flatMap Fu.tx)).length 1 ∧ itE (S23.b1 (E L) itE s.stk.length s.lp.length) [.ptr false s.stk.length 0, .sl (strs A) c0, .sl (lG l) .dead, int l.length, int 0] (s.app [pb] tk0 []) =
  some (.exit 2, [.ptr false s.stk.length 0, .sl (strs (A ++ l.flatMap Fu.tx)) c, .sl (lG l) .dead, int l.length, int l.length], s.app [pb] tk []) := by
 have hT : (l.flatMap Fu.tx).length ≤ l.length * 5000000 := lT _ _ _ fun x hx => by
  have := hb x hx; have := hb2 x hx; have := jm x.params; have := iG x.body; have := nV x.body
  simp only [Fu.tx, ag, ay]; omega
 obtain ⟨⟨c, tk⟩, ho, hit⟩ := vp (b := S23.b1 (E L) itE s.stk.length s.lp.length) (n := l.length) (e := 2) (P := fun i a => Own s a.2 a.1 (strs (A ++ (l.take i).flatMap Fu.tx)).length 1)
  (vs := fun i a => [.ptr false s.stk.length 0, .sl (strs (A ++ (l.take i).flatMap Fu.tx)) a.1, .sl (lG l) .dead, int l.length, int i]) (st := fun i a => s.app [pb] a.2 [])
  (fun i a hi ho => by
   obtain ⟨c, tk⟩ := a
   have hlt : (i : Int) < (l.length : Int) := by omega
   have g1 : (lG l)[i]? = some (fuE l[i]) := by simp [lG, hi]
   have w1 : IntKind.i64.wrap ((i : Int) + 1) = ((i + 1 : Nat) : Int) := IntWalk.i64_in _ (by omega); have hle := zD Fu.tx l i hi
   have hlx : (Fu.tx l[i]).length = 1 + (kU (l[i]).params).length + (iD (l[i]).body).length := by simp only [Fu.tx, ag, ay]; omega
   obtain ⟨c1, tk1, e1, o1⟩ := fj (ys := strs [(l[i]).name]) (bytes := 16) ho (by simp only [eS, ay, ag, aC, cu]; omega) (dD _) (dD _) (by decide) (by decide); rw [fP] at e1 o1; obtain ⟨c2, tk2, e2, o2⟩ := fj (ys := strs (kU (l[i]).params)) (bytes := 16) o1 (by simp only [eS, ay, ag, aC, cu]; omega) (dD _) (dD _) (by decide) (by decide); rw [fP] at e2 o2; obtain ⟨c3, tk3, e3, o3⟩ := fj (ys := strs (iD (l[i]).body)) (bytes := 16) o2 (by simp only [eS, ay, ag, aC, cu]; omega) (dD _) (dD _) (by decide) (by decide)
   have ex : A ++ (l.take i).flatMap Fu.tx ++ [(l[i]).name] ++ kU (l[i]).params ++ iD (l[i]).body = A ++ (l.take (i + 1)).flatMap Fu.tx := by rw [pW _ _ _ hi]; simp [Fu.tx]
   rw [fP, ex] at e3 o3; refine ⟨(c3, tk3), o3, ?_⟩; have el : (fuE l[i]).length = 5 := rfl; have ew : AM.part true 5 0 (fuE l[i]) = some (.agg (fuE l[i])) := rfl; have eo : aH (fuE l[i]) = true := rfl; have p0 : AM.part false 1 0 (fuE l[i]) = some (gR (l[i]).name) := rfl; have p1 : AM.part false 1 1 (fuE l[i]) = some (.sl (nms (l[i]).params) .dead) := rfl; have p2 : AM.part false 1 2 (fuE l[i]) = some (.sl (ep (l[i]).body) .dead) := rfl; have hbs : aF 1 [.v (.string ⟨#[]⟩)] 1 [(0, gR (l[i]).name)] = some (.sl (strs [(l[i]).name]) .full) := rfl; have rr := Ff hi; have nm := vy (l[i]).params (hb _ (List.getElem_mem hi)); have rv := Dy _ (l[i]).body (ao _) (by have := hb2 _ (List.getElem_mem hi); omega)
   generalize A ++ (l.take (i + 1)).flatMap Fu.tx = B at *
   generalize A ++ (l.take i).flatMap Fu.tx ++ [(l[i]).name] ++ kU (l[i]).params = D2 at *
   generalize A ++ (l.take i).flatMap Fu.tx ++ [(l[i]).name] = D at *
   generalize A ++ (l.take i).flatMap Fu.tx = B' at *
   simp [S23.b1, hlt, Ic, rr, gB, gX, hG, g1, el, ew, eo, iA, p0, p1, p2, nm, rv, hbs, e1, e2, e3, w1, o3.sfc, hpb])
  (fun a ho => by
   obtain ⟨c, tk⟩ := a
   simp [S23.b1, Own.sfc ho, hpb]) (c0, tk0) (by simpa using h0)
 simp only [aY, List.flatMap_nil, gg, List.append_nil] at hit ho; rw [show ((0 : Nat) : Int) = 0 from rfl] at hit; exact ⟨c, tk, ho, hit⟩
theorem FV (s : St) (pb : Blk) (hpb : pb.cs.all (sf true (s.stk.length + 1) 4) = true) (l : List Th) (hb2 : ∀ x ∈ l, fv x.body ≤ 100000) (hl : l.length ≤ 100000) (A : List ByteArray) (hA : A.length ≤ 4000000000000) (c0 : Cap) (tk0 : List (Nat × Nat)) (h0 : Own s tk0 c0 (strs A).length 1) :
 ∃ c tk, Own s tk c (strs (A ++ l.flatMap Th.tx)).length 1 ∧ itE (S23.b2 (E L) itE s.stk.length s.lp.length) [.sl (strs A) c0, .sl (lK l) .dead, int l.length, int 0] (s.app [pb] tk0 []) =
  some (.exit 4, [.sl (strs (A ++ l.flatMap Th.tx)) c, .sl (lK l) .dead, int l.length, int l.length], s.app [pb] tk []) := by
 have hT : (l.flatMap Th.tx).length ≤ l.length * 5000000 := lT _ _ _ fun x hx => by
  have := hb2 x hx; have := iG x.body; have := nV x.body
  simp only [Th.tx]; omega
 obtain ⟨⟨c, tk⟩, ho, hit⟩ := vp (b := S23.b2 (E L) itE s.stk.length s.lp.length) (n := l.length) (e := 4) (P := fun i a => Own s a.2 a.1 (strs (A ++ (l.take i).flatMap Th.tx)).length 1)
  (vs := fun i a => [.sl (strs (A ++ (l.take i).flatMap Th.tx)) a.1, .sl (lK l) .dead, int l.length, int i]) (st := fun i a => s.app [pb] a.2 [])
  (fun i a hi ho => by
   obtain ⟨c, tk⟩ := a
   have hlt : (i : Int) < (l.length : Int) := by omega
   have g1 : (lK l)[i]? = some (thC l[i]) := by simp [lK, hi]
   have w1 : IntKind.i64.wrap ((i : Int) + 1) = ((i + 1 : Nat) : Int) := IntWalk.i64_in _ (by omega); have hle := zD Th.tx l i hi; have hlx : (Th.tx l[i]).length = (iD (l[i]).body).length := rfl; obtain ⟨c3, tk3, e3, o3⟩ := fj (ys := strs (iD (l[i]).body)) (bytes := 16) ho (by simp only [eS, ay, ag, aC, cu]; omega) (dD _) (dD _) (by decide) (by decide)
   have ex : A ++ (l.take i).flatMap Th.tx ++ iD (l[i]).body = A ++ (l.take (i + 1)).flatMap Th.tx := by rw [pW _ _ _ hi]; simp [Th.tx]
   rw [fP, ex] at e3 o3; refine ⟨(c3, tk3), o3, ?_⟩; have el : (thC l[i]).length = 3 := rfl; have ew : AM.part true 3 0 (thC l[i]) = some (.agg (thC l[i])) := rfl; have eo : aH (thC l[i]) = true := rfl; have p2 : AM.part false 1 0 (thC l[i]) = some (.sl (ep (l[i]).body) .dead) := rfl; have rr := Ff hi; have rv := Dy _ (l[i]).body (ao _) (by have := hb2 _ (List.getElem_mem hi); omega)
   generalize A ++ (l.take (i + 1)).flatMap Th.tx = B at *
   generalize A ++ (l.take i).flatMap Th.tx = B' at *
   simp [S23.b2, hlt, F7, rr, gB, gX, hG, g1, el, ew, eo, iA, p2, rv, e3, w1, o3.sfc, hpb])
  (fun a ho => by
   obtain ⟨c, tk⟩ := a
   simp [S23.b2, Own.sfc ho, hpb]) (c0, tk0) (by simpa using h0)
 simp only [aY, List.flatMap_nil, gg, List.append_nil] at hit ho; rw [show ((0 : Nat) : Int) = 0 from rfl] at hit; exact ⟨c, tk, ho, hit⟩
structure Pg.small (p : Pg) : Prop where
 rl : p.fO.length ≤ 100000
 rr : ∀ x ∈ p.fO, x.fields.length ≤ 100000
 gl : p.gls.length ≤ 100000
 fl : p.fQ.length ≤ 100000
 fp : ∀ x ∈ p.fQ, x.params.length ≤ 100000
 fb : ∀ x ∈ p.fQ, fv x.body ≤ 100000
 tl : p.ths.length ≤ 100000
 tb : ∀ x ∈ p.ths, fv x.body ≤ 100000
theorem w9 (p : Pg) (h : p.small) (st : St) : E L (.func 23) [nF p] st = some (.sl (strs p.tx) .dead, st) := by
 obtain ⟨s, rfl⟩ : ∃ s : St, st = s.app [] [] [] := ⟨st, (al st).symm⟩
 have hpb : (⟨(pgC p .dead .dead .dead .dead), []⟩ : Blk).cs.all (sf true (s.stk.length + 1) 4) = true := rfl
 have hT1 : (p.fO.flatMap Rec.tx).length ≤ p.fO.length * 300002 := lT _ _ _ fun x hx => by have := h.rr x hx; have := jm x.fields; simp only [Rec.tx, ag]; omega
 have hT2 : (p.fQ.flatMap Fu.tx).length ≤ p.fQ.length * 5000000 := lT _ _ _ fun x hx => by
  have := h.fp x hx; have := h.fb x hx; have := jm x.params; have := iG x.body; have := nV x.body
  simp only [Fu.tx, ag, ay]; omega
 have hl1 := h.rl; have hl2 := h.fl; have hl3 := h.gl; have hgl := jm p.gls; obtain ⟨c1, k1, o1, e1⟩ := FF s ⟨(pgC p .dead .dead .dead .dead), []⟩ hpb p.fO h.rr h.rl p.hd (by show 3 ≤ 1000; decide) .full [] (Own.full ..); obtain ⟨c2, k2, e2, o2⟩ := fj (ys := strs (kU p.gls)) (bytes := 16) o1 (by simp only [eS, ay, ag, aC, cu]; have : p.hd.length = 3 := rfl; omega) (dD _) (dD _) (by decide) (by decide); rw [fP] at e2 o2; obtain ⟨c3, k3, o3, e3⟩ := Fa s ⟨(pgC p .dead .dead .dead .dead), []⟩ hpb p.fQ h.fp h.fb h.fl _ (by simp only [ay]; have : p.hd.length = 3 := rfl; omega) c2 k2 o2; obtain ⟨c4, k4, o4, e4⟩ := FV s ⟨(pgC p .dead .dead .dead .dead), []⟩ hpb p.ths h.tb h.tl _ (by simp only [ay]; have : p.hd.length = 3 := rfl; omega) c3 k3 o3; have hbs : aF 1 [.v (.string ⟨#[]⟩)] 3 [(0, gR (fc p.fO.length)), (1, gR (fc p.fQ.length)), (2, gR (fc p.ths.length))] = some (.sl (strs p.hd) .full) := rfl; have p0 : AM.part false 1 0 (pgC p .dead .dead .dead .dead) = some (.sl (iV p.fO) .dead) := rfl; have p1 : AM.part false 1 1 (pgC p .dead .dead .dead .dead) = some (.sl (nms p.gls) .dead) := rfl; have p2 : AM.part false 1 2 (pgC p .dead .dead .dead .dead) = some (.sl (lG p.fQ) .dead) := rfl; have p3 : AM.part false 1 3 (pgC p .dead .dead .dead .dead) = some (.sl (lK p.ths) .dead) := rfl; have nm := vy p.gls (by have := h.gl; omega); rw [GO, show Pg.tx p = p.hd ++ p.fO.flatMap Rec.tx ++ kU p.gls ++ p.fQ.flatMap Fu.tx ++ p.ths.flatMap Th.tx from rfl]
 generalize p.hd ++ p.fO.flatMap Rec.tx ++ kU p.gls ++ p.fQ.flatMap Fu.tx ++ p.ths.flatMap Th.tx = A4 at *
 generalize p.hd ++ p.fO.flatMap Rec.tx ++ kU p.gls ++ p.fQ.flatMap Fu.tx = A3 at *
 generalize p.hd ++ p.fO.flatMap Rec.tx ++ kU p.gls = A2 at *
 generalize p.hd ++ p.fO.flatMap Rec.tx = A1 at *
 simp [S23, gB, gX, hG, fY, p0, p1, p2, p3, Hr, Ht, CX, mZ, hbs, e1, nm, e2, e3, e4]
end Go.Proofs.YtlhlijaondmccaaGreatDoor.S
