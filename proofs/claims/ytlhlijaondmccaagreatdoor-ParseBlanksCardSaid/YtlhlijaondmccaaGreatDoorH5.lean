/- Part 5 of the proof of a law of the parser, its names made short by a program. No condition. -/
import Derived.Test.YtlhlijaondmccaaGreatDoorH4
set_option linter.all false
set_option maxRecDepth 100000
set_option maxHeartbeats 4000000
open _root_.Bool renaming and_eq_true → aq, and_self → br, and_true → bI, false_eq_true → ae, not_false → bg, not_true → bD, true_and → bn
open _root_.Int renaming cast_ofNat_Int → ab, natCast_zero → eD
open _root_.List renaming all_cons → bu, all_eq_true → dK, all_nil → bV, cons_append → aD, drop_nil → cc, drop_succ_cons → aM, drop_zero → aQ, getD_cons_succ → aN, getD_cons_zero → aO, getElem?_cons_succ → aA, getElem?_cons_zero → aB, getElem?_eq_getElem → cP, isPrefixOf → ed, length → gG, length_append → ay, length_cons → ag, length_drop → cF, length_nil → aC, length_singleton → bC, map_cons → aW, map_nil → bc, mem_cons_of_mem → cf, mem_cons_self → bL, modify_succ_cons → aK, modify_zero_cons → aL, nil_append → bh, take_left → bE, take_length → gg, take_nil → bR, take_succ_cons → av, take_zero → aY, toList_toArray → aT
open _root_.Nat renaming add_zero → bx, beq → ak, ble → dL, blt → gn, le_refl → ao, reduceAdd → bU, zero_add → bj, zero_le → dF
open _root_.Option renaming bind_none → bf, bind_some → ah, map_some → aP
namespace Go.Proofs.YtlhlijaondmccaaGreatDoor.S
open Go Go.AM Go.Proofs
attribute [local simp] cZ cy bX bY cz eI fu dX di dV de dW dh ft bZ hZ dR ib gU gN AM.aa aN aO ah bf aP aw AM.onG fR bH dw Ex.ba cond_true cond_false cV cU cT cS cR cX cQ cY cW dY dj dm cx da AM.du AM.cellsOf AM.an bQ beq_true dr ag aC bj bx bU decide_true decide_false bI bn br bD bg aB aA bh aD db dc fm av bE aY bR cC dQ dT cL eB eA set_set eG dB fI dC cI bK dA cH dz cG dy eF eH fE fF bO cv eu fD dZ aZ aT aI AM.aS ai dt bW aW bc aL aK AM.part aQ aM cc cn cm cr cr.eT AM.dM bu bV
def adv : List UInt8 → Nat × Nat → Nat × Nat
 | [], p => p
 | c :: l, p => adv l (if c = 10 then (p.1 + 1, 1) else (p.1, p.2 + 1))
theorem js (a b : List UInt8) (p : Nat × Nat) : adv (a ++ b) p = adv b (adv a p) := by
 induction a generalizing p with
 | nil => rfl
 | cons c a ih => exact ih _
theorem rT : ∀ (l : List UInt8) (p : Nat × Nat), 1 ≤ p.2 → p.1 ≤ (adv l p).1 ∧ (adv l p).1 ≤ p.1 + l.length ∧ 1 ≤ (adv l p).2 ∧ (adv l p).2 ≤ p.2 + l.length
 | [], p, h => by simp [adv, h]
 | c :: l, p, h => by
  simp only [adv, ag]; split
  · have := rT l (p.1 + 1, 1) (by simp)
    simp only at this; omega
  · have := rT l (p.1, p.2 + 1) (by simp)
    simp only at this; omega
abbrev rdc (rest : List UInt8) (p : Nat × Nat) : List PV := [str rest, .v (.int .i64 (p.1 : Int)), .v (.int .i64 (p.2 : Int))]
def gW (c : UInt8) : List PV := [.v (.int .u8 (c.toNat : Int))]
theorem kE (l : List UInt8) : jA (bs l) = l.map gW := rfl
theorem Fb {l : List UInt8} {i : Nat} {c : Cap} (k : IntKind) (h : i < l.length) : bJ Tryz.prog 91 (.sl (l.map gW) c) (.v (.int k (i : Int))) = some (.fp (gW l[i]) 0) := by
 rw [Ig]
 have h1 : dv (i : Int) (l.map gW).length = true := by simp [dv, h]
 rw [h1, cond_true, Int.toNat_natCast, List.getElem?_map, cP h]
 rfl
theorem BA {X : St} {N T Lb b : Nat} (hN : X.stk.length = N) (hT : X.tk.length = T) (hL : X.lp.length = Lb) (hb : b < N) {rest t : List UInt8} {p : Nat × Nat} (hp : 1 ≤ p.2) (h1 : p.1 + t.length < 4611686018427387904) (h2 : p.2 + t.length < 4611686018427387904) :
 ∀ (suf pre : List UInt8), t = pre ++ suf →
  itE (vQ.b0 (E L) itE N Lb) [.ptr false b 0, str t, .sl (t.map gW) .dead, .v (.int .i64 (t.length : Int)), .v (.int .i64 (pre.length : Int))] ((X.af false b (rdc rest (adv pre p))).app [] [] []) =
   some (.exit 0, [.ptr false b 0, str t, .sl (t.map gW) .dead, .v (.int .i64 (t.length : Int)), .v (.int .i64 (t.length : Int))], (X.af false b (rdc rest (adv t p))).app [] [] []) := by
 intro suf
 induction suf with
 | nil =>
  intro pre ht
  have ht : t = pre := by simpa using ht
  subst ht; apply fk; simp [vQ.b0, hN, hT, hL]
 | cons c suf ih =>
  intro pre ht
  have ht' : t = (pre ++ [c]) ++ suf := by simp [ht]
  have hl : pre.length < t.length := by rw [ht]; simp
  have hg : t[pre.length] = c := by simp [ht]
  have hb1 := rT pre p hp; have w0 : IntKind.i64.wrap ((pre.length : Int) + 1) = (pre.length : Int) + 1 := IntWalk.i64_in _ (by omega); have w1 : IntKind.i64.wrap (((adv pre p).1 : Int) + 1) = ((adv pre p).1 : Int) + 1 := IntWalk.i64_in _ (by omega); have w2 : IntKind.i64.wrap (((adv pre p).2 : Int) + 1) = ((adv pre p).2 : Int) + 1 := IntWalk.i64_in _ (by omega); have hi := Fb (l := t) (c := .dead) .i64 hl; rw [hg] at hi
  have ha : adv (pre ++ [c]) p = if c = 10 then ((adv pre p).1 + 1, 1) else ((adv pre p).1, (adv pre p).2 + 1) := by rw [js]; rfl
  have ih := ih (pre ++ [c]) ht'; rw [ha] at ih
  have hlt : (pre.length : Int) < (t.length : Int) := by omega
  by_cases hc : c = 10
  · subst hc
    rw [bP (vs' := [.ptr false b 0, str t, .sl (t.map gW) .dead, .v (.int .i64 (t.length : Int)), .v (.int .i64 ((pre ++ [(10 : UInt8)]).length : Int))]) (st' := (X.af false b (rdc rest ((adv pre p).1 + 1, 1))).app [] [] [])]
    · simpa using ih
    · simp [vQ.b0, hN, hT, hL, hb, hlt, hi, gW, rdc, w0, w1, w2]
  · have hc' : ¬ ((c.toNat : Int) = 10) := fun h => hc (UInt8.toNat_inj.1 (by simpa using Int.ofNat_inj.1 h))
    rw [bP (vs' := [.ptr false b 0, str t, .sl (t.map gW) .dead, .v (.int .i64 (t.length : Int)), .v (.int .i64 ((pre ++ [c]).length : Int))]) (st' := (X.af false b (rdc rest ((adv pre p).1, (adv pre p).2 + 1))).app [] [] [])]
    · rw [if_neg hc] at ih
      exact ih
    · simp [vQ.b0, hN, hT, hL, hb, hlt, hi, gW, rdc, w0, w1, w2, hc']
theorem D5 {s : St} {b n : Nat} {rest : List UInt8} {p : Nat × Nat} (hb : b < s.stk.length) (hn : n ≤ rest.length) (hp : 1 ≤ p.2) (h1 : p.1 + rest.length < 4611686018427387904) (h2 : p.2 + rest.length < 4611686018427387904) :
 E L (.func 111) [.ptr false b 0, .v (.int .i64 (n : Int))] (s.af false b (rdc rest p)) = some (str (rest.take n), s.af false b (rdc (rest.drop n) (adv (rest.take n) p))) := by
 rw [Em]; obtain ⟨N, T, Lb, hN, hT, hL⟩ := lens3 s; rw [hN] at hb
 conv => lhs; rw [← al (s.af false b (rdc rest p))]
 have hl : (rest.take n).length ≤ rest.length := by simp; omega
 have h := BA hN hT hL hb (rest := rest.drop n) (t := rest.take n) hp (by omega) (by omega) (rest.take n) [] rfl; simp only [adv, aC] at h; have e1 := DF (l := rest) .i64 hn; have e2 := DH (l := rest) .i64 hn; generalize rest.take n = t at h e1 ⊢; generalize rest.drop n = r at h e2 ⊢; simp only [rdc, eD] at h; simp [vQ, hN, hT, hL, hb, rdc, e1, e2, lQ, kE, sK, h]
theorem contains_nil (sub : List UInt8) : Lib.contains [] sub = sub.isEmpty := by
 cases sub <;> simp [Lib.contains, Lib.index]
theorem index_ge (sub : List UInt8) : ∀ l : List UInt8, -1 ≤ Lib.index l sub
 | [] => by simp only [Lib.index]; split <;> omega
 | b :: l => by
  have ih := index_ge sub l; simp only [Lib.index]; split
  · omega
  · split
    · omega
    · omega
theorem contains_cons (b : UInt8) (l sub : List UInt8) : Lib.contains (b :: l) sub = (sub.isPrefixOf (b :: l) || Lib.contains l sub) := by
 have h := index_ge sub l; simp only [Lib.contains, Lib.index]
 by_cases h1 : sub.isPrefixOf (b :: l) = true
 · simp [h1]
 · simp only [h1, ae, if_false, Bool.false_or]
   by_cases h2 : Lib.index l sub = -1
   · simp [h2]
   · have : (Lib.index l sub == -1) = false := by simpa using h2
     rw [this]; simp only [ae, if_false, decide_eq_decide]; omega
def ja : List (List UInt8) → List UInt8
 | [] => []
 | w :: ws => w ++ 32 :: ja ws
theorem Dk {s w : List UInt8} {R : List UInt8} (hs : ∀ c ∈ s, c ≠ 32) (hw : ∀ c ∈ w, c ≠ 32) : (s ++ [32]).isPrefixOf (w ++ 32 :: R) = decide (s = w) := by
 induction s generalizing w with
 | nil =>
  cases w with
  | nil => simp
  | cons c w =>
   have : c ≠ 32 := hw c (by simp); simp [ed, Ne.symm this]
 | cons a s ih =>
  have ha : a ≠ 32 := hs a (by simp)
  cases w with
  | nil => simp [ed, ha]
  | cons c w =>
   have := ih (w := w) (fun c h => hs c (by simp [h])) (fun c h => hw c (by simp [h])); simp only [aD, ed, this, List.cons.injEq]
   by_cases hac : a = c <;> simp [hac]
theorem tI {s w R : List UInt8} (hw : ∀ c ∈ w, c ≠ 32) : Lib.contains (w ++ 32 :: R) (32 :: s) = Lib.contains (32 :: R) (32 :: s) := by
 induction w with
 | nil => rfl
 | cons c w ih =>
  have hc : c ≠ 32 := hw c (by simp); rw [aD, contains_cons, ih fun c h => hw c (by simp [h])]; simp [ed, Ne.symm hc]
theorem kF {s : List UInt8} (hs : ∀ c ∈ s, c ≠ 32) : ∀ ws : List (List UInt8), (∀ w ∈ ws, ∀ c ∈ w, c ≠ 32) → Lib.contains (32 :: ja ws) (32 :: (s ++ [32])) = ws.contains s
 | [], _ => by
  rw [contains_cons, ja, contains_nil]
  cases s <;> simp [ed]
 | w :: ws, h => by
  have hw := h w (by simp); rw [contains_cons, ja, tI hw, kF hs ws fun w hw => h w (by simp [hw])]; simp only [ed, beq_self_eq_true, bn, Dk hs hw, List.contains_cons, Bool.beq_eq_decide_eq]
theorem vf (l : List UInt8) (c : UInt8) : Lib.contains l [c] = l.contains c := by
 induction l with
 | nil => rfl
 | cons b l ih =>
  rw [contains_cons, ih, List.contains_cons]; simp [ed]
theorem uO {a b : List UInt8} (h : a.length < 4294967281) (st : St) : E L (.func 169) [str a, str b] st = some (.v (.bool (Lib.contains a b)), st) := by
 rw [sd (L := L) (f := 169) (g := jK ma) (by kernel_rfl)]; simp [AM.jK, AM.lL, AM.valOf, ma, cv, h, nR, jr, mo]
def iK : List (List UInt8) := [[114, 101, 99, 111, 114, 100], [103, 108, 111, 98, 97, 108], [102, 117, 110], [116, 104, 114, 101, 97, 100], [108, 101, 116], [118, 97, 114], [115, 101, 116], [112, 114, 105, 110, 116], [105, 102], [101, 108, 115, 101], [108, 111, 111, 112], [98, 114, 101, 97, 107], [99, 111, 110, 116, 105, 110, 117, 101], [97, 116, 111, 109, 105, 99], [99, 97, 108, 108], [108, 111, 97, 100], [110, 101, 119], [115, 105, 122, 101], [105, 110, 116], [114, 101, 97, 108], [105, 110, 116, 115], [110, 105, 108], [105, 110, 112, 117, 116], [116, 114, 117, 110, 99]]
def iJ (l : List UInt8) : Bool := iK.contains l
theorem uL : ∀ w ∈ iK, (∀ c ∈ w, c ≠ 32) ∧ w ≠ [] := by decide
theorem yN : ([32, 114, 101, 99, 111, 114, 100, 32, 103, 108, 111, 98, 97, 108, 32, 102, 117, 110, 32, 116, 104, 114, 101, 97, 100, 32, 108, 101, 116, 32, 118, 97, 114, 32, 115, 101, 116, 32, 112, 114, 105, 110, 116, 32, 105, 102, 32, 101, 108, 115, 101, 32, 108, 111, 111, 112, 32, 98, 114, 101, 97, 107, 32, 99, 111, 110, 116, 105, 110, 117, 101, 32, 97, 116, 111, 109, 105, 99, 32, 99, 97, 108, 108, 32, 108, 111, 97, 100, 32, 110, 101, 119, 32, 115, 105, 122, 101, 32, 105, 110, 116, 32, 114, 101, 97, 108, 32, 105, 110, 116, 115, 32, 110, 105, 108, 32, 105, 110, 112, 117, 116, 32, 116, 114, 117, 110, 99, 32] : List UInt8) = 32 :: ja iK := by decide
theorem BS : (32 :: ja iK).length = 128 := by decide
theorem BR (l : List UInt8) : iJ l = (!decide (l = []) && !l.contains 32 && Lib.contains (32 :: ja iK) (32 :: (l ++ [32]))) := by
 by_cases h0 : l = []
 · subst h0; simp [iJ]; decide
 by_cases h1 : l.contains 32 = true
 · have : iJ l = false := by
    cases h : iJ l with
    | false => rfl
    | true =>
     have hm : l ∈ iK := by simpa [iJ] using h
     have hc : (32 : UInt8) ∈ l := by simpa using h1
     exact absurd rfl ((uL l hm).1 32 hc)
   have hm1 : (32 : UInt8) ∈ l := by simpa using h1
   simp [this, hm1]
 · have h2 : ∀ c ∈ l, c ≠ 32 := fun c hc e => h1 (by subst e; simpa using hc)
   rw [kF h2 iK fun w hw => (uL w hw).1]
   have hm1 : (32 : UInt8) ∉ l := by simpa using h1
   simp [iJ, h0, hm1]
theorem yY {l : List UInt8} (h : l.length < 2147483648) (st : St) : E L (.func 146) [str l] st = some (.v (.bool (iJ l)), st) := by
 rw [EF]; obtain ⟨N, T, Lb, hN, hT, hL⟩ := lens3 st
 conv => lhs; rw [← al (st)]
 have e1 : ∀ X : St, E L (.func 169) [str l, str [32]] X = some (.v (.bool (l.contains 32)), X) := fun X => by rw [uO (by omega), vf]
 have e2 : ∀ X : St, E L (.func 169) [str (32 :: ja iK), str (32 :: (l ++ [32]))] X = some (.v (.bool (Lib.contains (32 :: ja iK) (32 :: (l ++ [32])))), X) := fun X => by rw [uO (by rw [BS]; omega)]
 have e3 : aJ Tryz.prog true .add 9 (str [32]) (str l) = some (str (32 :: l)) := by rw [sb _ _ _ _ _ (by simp [cv]; omega), oe]; rfl
 have e4 : aJ Tryz.prog true .add 9 (str (32 :: l)) (str [32]) = some (str (32 :: (l ++ [32]))) := by rw [sb _ _ _ _ _ (by simp [cv]; omega), oe]; rfl
 have e5 : (bs l = bs []) = (l = []) := propext eu; rw [BR]
 by_cases h0 : l = [] <;> cases h1 : l.contains 32 <;> simp only [HW, fD, aT, yN, cZ, cy, bX, bY, cz, eI, fu, dX, di, dV, de, dW, dh, ft, bZ, hZ, dR, ib, gU, gN, AM.aa, aN, aO, ah, bf, aP, aw, AM.onG, fR, bH, dw, Ex.ba, cond_true, cond_false, cV, cU, cT, cS, cR, cX, cQ, cY, cW, dY, dj, dm, cx, da, AM.du, AM.cellsOf, AM.an, bQ, beq_true, dr, ag, aC, bj, bx, bU, decide_true, decide_false, bI, bn, br, bD, bg, aB, aA, bh, aD, db, dc, fm, av, bE, aY, bR, cC, dQ, dT, cL, eB, eA, set_set, eG, dB, fI, dC, cI, bK, dA, cH, dz, cG, dy, eF, eH, fE, fF, bO, cv, eu, fD, dZ, aZ, hN, hT, hL, aT, aI, AM.aS, ai, dt, bW, aW, bc, aL, aK, AM.part, aQ, aM, cc, cn, cm, cr, cr.eT, AM.dM, bu, bV, e1, e2, e3, e4, h0, h1]
 all_goals rfl
def qO (c : UInt8) : Bool := oF (c.toNat : Int)
def jY (c : UInt8) : Bool := sx (c.toNat : Int)
def cg (c : UInt8) : Bool := qO c || jY c
def tN (i : Nat) (c : UInt8) : Bool := qO c || (!decide (i = 0) && jY c)
def nh : List UInt8 → Bool
 | [] => true
 | c :: r => qO c && r.all cg
def lq (l : List UInt8) : Bool := !decide (l = []) && nh l && !iJ l
theorem qS (l : List UInt8) : nh l = true ↔ ∀ i (h : i < l.length), tN i l[i] = true := by
 cases l with
 | nil => simp [nh]
 | cons c r =>
  simp only [nh, aq, dK]
  constructor
  · rintro ⟨h1, h2⟩ i hi
    cases i with
    | zero => simp [tN, h1]
    | succ i =>
     have := h2 (r[i]'(by simpa using hi)) (List.getElem_mem _); simpa [tN, cg] using this
  · intro h
    refine ⟨by have := h 0 (by simp); rw [List.getElem_cons_zero] at this; simpa [tN] using this, fun x hx => ?_⟩; obtain ⟨i, hi, rfl⟩ := List.mem_iff_getElem.1 hx; have := h (i + 1) (by simpa using hi); rw [List.getElem_cons_succ] at this; simpa [tN, cg] using this
theorem kR {n : Int} (h : 128 ≤ n) : oF n = false := by simp [oF]; omega
theorem kH {n : Int} (h : 128 ≤ n) : sx n = false := by simp [sx]; omega
theorem Ba {l : List UInt8} (hlen : l.length < 4611686018427387904) {X : St} {N T Lb : Nat} (hN : X.stk.length = N) (hT : X.tk.length = T) (hL : X.lp.length = Lb) : ∀ (k pos : Nat), l.length - pos = k → pos ≤ l.length → (∀ j (hj : j < l.length), j < pos → tN j l[j] = true) →
 ∃ pos', itE (pr.b0 (E L) itE N Lb) [str l, .v (.bool false), .it Lb] (X.app [] [] [.iter (bs l) pos]) = some (bif nh l then .exit 0 else .ret, [str l, .v (.bool false), .it Lb], X.app [] [] [.iter (bs l) pos']) := by
 intro k
 induction k using Nat.strongRecOn with
 | ind k ih =>
 intro pos hk hp hall
 by_cases hlt : pos < l.length
 · by_cases hb : l[pos].toNat < 128
   · have hd := AM.decode_ascii hlt hb
     have h0 : ((pos : Int) = 0) = (pos = 0) := propext (by omega)
     by_cases hq : tN pos l[pos] = true
     · obtain ⟨pos', h1⟩ := ih (l.length - (pos + 1)) (by omega) (pos + 1) rfl (by omega) (fun j hj hj' => by
        by_cases hjp : j = pos
        · subst hjp; exact hq
        · exact hall j hj (by omega))
       refine ⟨pos', ?_⟩; rw [bP (vs' := [str l, .v (.bool false), .it Lb]) (st' := X.app [] [] [.iter (bs l) (pos + 1)])]
       · exact h1
       · simp only [tN, qO, jY] at hq
         cases hl : oF (l[pos].toNat : Int) with
         | true => simp [pr.b0, hN, hT, hL, hlt, hd, iW, iX, hl]
         | false =>
          rw [hl] at hq; simp only [Bool.false_or, aq, Bool.not_eq_true', decide_eq_false_iff_not] at hq; simp [pr.b0, hN, hT, hL, hlt, hd, iW, iX, hl, h0, hq.1, hq.2]
     · have hn : nh l = false := by
        cases h : nh l with
        | false => rfl
        | true => exact absurd ((qS l).1 h pos hlt) hq
       refine ⟨pos + 1, ?_⟩; rw [hn, cond_false]; apply eE; simp only [tN, qO, jY, Bool.or_eq_true, not_or, Bool.not_eq_true] at hq
       by_cases hz : pos = 0
       · subst hz
         simp [pr.b0, hN, hT, hL, hlt, hd, iW, iX, hq.1]
       · have hq2 := hq.2
         simp only [hz, decide_false, bg, bn] at hq2; simp [pr.b0, hN, hT, hL, hlt, hd, iW, iX, hq.1, h0, hz, hq2]
   · have hb' : 128 ≤ l[pos].toNat := by omega
     obtain ⟨hh1, hh2, hh3, hh4, hh5⟩ := AM.decode_high hlt hb'
     have hn : nh l = false := by
      cases h : nh l with
      | false => rfl
      | true =>
       have := (qS l).1 h pos hlt; simp [tN, qO, jY, kR (show (128 : Int) ≤ (l[pos].toNat : Int) by omega), kH (show (128 : Int) ≤ (l[pos].toNat : Int) by omega)] at this
     refine ⟨pos + (Utf8.decode (bs l) pos).2, ?_⟩; rw [hn, cond_false]; apply eE; have e1 := kR (show (128 : Int) ≤ ((Utf8.decode (bs l) pos).1 : Int) by omega); have e2 := kH (show (128 : Int) ≤ ((Utf8.decode (bs l) pos).1 : Int) by omega); have h0 : ((pos : Int) = 0) = (pos = 0) := propext (by omega)
     by_cases hz : pos = 0
     · subst hz
       simp [pr.b0, hN, hT, hL, hlt, iW, iX, e1, e2]
     · simp [pr.b0, hN, hT, hL, hlt, iW, iX, e1, e2, h0, hz]
 · have hn : nh l = true := (qS l).2 fun i hi => hall i hi (by omega)
   refine ⟨pos, ?_⟩; rw [hn, cond_true]; apply fk; simp [pr.b0, hN, hT, hL, hlt]
theorem Ee {l : List UInt8} (h : l.length < 2147483648) (st : St) : E L (.func 147) [str l] st = some (.v (.bool (lq l)), st) := by
 rw [EG]; obtain ⟨N, T, Lb, hN, hT, hL⟩ := lens3 st
 conv => lhs; rw [← al (st)]
 have hr : ∀ X : St, X.lp.length = Lb → nw Tryz.prog 9 (str l) (X.app [] [] []) = some (.it Lb, X.app [] [] [.iter (bs l) 0]) := fun X h => zZ [] [] [] (by kernel_rfl) (bs l) h
 obtain ⟨pos', h1⟩ := Ba (l := l) (by omega) hN hT hL l.length 0 rfl (by omega) (fun j hj h => absurd h (by omega))
 have hw : ∀ X : St, E L (.func 146) [str l] X = some (.v (.bool (iJ l)), X) := yY h
 cases hn : nh l with
 | true =>
  rw [hn, cond_true] at h1
  by_cases h0 : l = []
  · subst h0
    simp [pr, hN, hT, hL, hr, h1, lq]
  · simp [pr, hN, hT, hL, hr, h1, lq, h0, hn, hw]
 | false =>
  rw [hn, cond_false] at h1; simp [pr, hN, hT, hL, hr, h1, lq, hn]
theorem EV (P : Program) (cst : Bool) (t : TypeId) (a b : UInt8) : aJ P cst .or t (.v (.int .u8 (a.toNat : Int))) (.v (.int .u8 (b.toNat : Int))) = some (.v (.int .u8 ((a ||| b).toNat : Int))) := by
 have h : binOp .or t (.int .u8 (a.toNat : Int)) (.int .u8 (b.toNat : Int)) = pure (.int .u8 ((a ||| b).toNat : Int)) := by
  have e : ∀ x : UInt8, BitVec.ofInt 8 (x.toNat : Int) = x.toBitVec := fun x => by
   rw [BitVec.ofInt_natCast]; exact BitVec.eq_of_toNat_eq (by simp)
  have e2 : (BitVec.ofInt IntKind.u8.bits (a.toNat : Int) ||| BitVec.ofInt IntKind.u8.bits (b.toNat : Int)).toNat = (a ||| b).toNat := by
   show (BitVec.ofInt 8 (a.toNat : Int) ||| BitVec.ofInt 8 (b.toNat : Int)).toNat = _
   rw [e, e]; rfl
  have e3 : IntKind.u8.wrap ((a ||| b).toNat : Int) = ((a ||| b).toNat : Int) := IntWalk.u8_in _ (by have := (a ||| b).toNat_lt; omega)
  show (pure (.int .u8 (IntKind.u8.wrap ((BitVec.ofInt IntKind.u8.bits (a.toNat : Int) ||| BitVec.ofInt IntKind.u8.bits (b.toNat : Int)).toNat : Int))) : Sem Value) = _
  rw [e2, e3]
 rw [pD, h]; exact fS P _ rfl
theorem uP (c : UInt8) (st : St) : E L (.func 177) [.v (.int .u8 (c.toNat : Int))] st = some (.v (.int .u8 ((c ||| 32).toNat : Int)), st) := by
 rw [EK]; obtain ⟨N, T, Lb, hN, hT, hL⟩ := lens3 st
 conv => lhs; rw [← al (st)]
 have h := EV Tryz.prog true 5 c 32; simp only [show ((32 : UInt8).toNat : Int) = 32 from rfl] at h; simp [HY, hN, hT, hL, h]
def kI (c : UInt8) : Nat := if 48 ≤ c.toNat ∧ c.toNat ≤ 57 then c.toNat - 48 else if 97 ≤ (c ||| 32).toNat ∧ (c ||| 32).toNat ≤ 122 then (c ||| 32).toNat - 87 else 255
def pu (B cut mx : Nat) : List UInt8 → Nat → Nat × Option Nat
 | [], n => (n, none)
 | c :: t, n => if B ≤ kI c then (0, some 2) else if cut ≤ n then (mx, some 1) else if mx < n * B + kI c then (mx, some 1) else pu B cut mx t (n * B + kI c)
theorem lA (n : Int) : IntKind.u64.wrap n = n % 18446744073709551616 := by
 simp [IntKind.wrap, IntKind.bits, IntKind.signed]
abbrev pV (B cut mx : Nat) (t s0 : List UInt8) (n i : Nat) : List PV := [PV.v (.int .i64 (B : Int)), .v (.int .u64 0), .v .nilIface, .v (.bool false), str s0, .v (.int .u64 (cut : Int)), .v (.int .u64 (mx : Int)), .v (.bool false), .v (.int .u64 (n : Int)), .sl (t.map gW) .dead, .v (.int .i64 (t.length : Int)), .v (.int .i64 (i : Int))]
theorem w6 {t s0 : List UInt8} {B cut mx n i d : Nat} (hB : 2 ≤ B ∧ B ≤ 36) (hcut : ∀ n, n < cut → n * B < 18446744073709551616) (hmx : mx < 18446744073709551616) (hc64 : cut < 18446744073709551616) {X : St} {N T Lb : Nat} (hN : X.stk.length = N) (hT : X.tk.length = T) (hL : X.lp.length = Lb) (hi : i < t.length) (hlen : t.length < 4611686018427387904) (ht : 48 ≤ t[i].toNat ∧ t[i].toNat ≤ 57) (hd : d = t[i].toNat - 48) :
 ∃ vs, jg.b0 (E L) itE N Lb (pV B cut mx t s0 n i) (X.app [] [] []) = some (if B ≤ d ∨ cut ≤ n ∨ mx < n * B + d then .ret else .normal, vs, X.app [] [] []) ∧
  (if B ≤ d then AM.aa vs 1 = .v (.int .u64 0) ∧ AM.aa vs 2 = .ifc 212 (.int .i64 2) else if cut ≤ n ∨ mx < n * B + d then AM.aa vs 1 = .v (.int .u64 (mx : Int)) ∧ AM.aa vs 2 = .ifc 212 (.int .i64 1) else vs = pV B cut mx t s0 (n * B + d) (i + 1)) := by
 have hx := Fb (l := t) (c := .dead) .i64 hi
 generalize t[i] = c at *
 have clt := c.toNat_lt
 have hlt : (i : Int) < (t.length : Int) := by omega
 have wi : IntKind.i64.wrap ((i : Int) + 1) = (i : Int) + 1 := IntWalk.i64_in _ (by omega); have wB8 : IntKind.u8.wrap (B : Int) = B := IntWalk.u8_in _ (by omega); have wB64 : IntKind.u64.wrap (B : Int) = B := IntWalk.u64_in _ (by omega)
 have i95 : ¬ ((c.toNat : Int) = 95) := by omega
 have i1 : (48 : Int) ≤ (c.toNat : Int) := by omega
 have i2 : (c.toNat : Int) ≤ 57 := by omega
 have wd : IntKind.u8.wrap ((c.toNat : Int) - 48) = (d : Int) := by rw [IntWalk.u8_in _ (by omega)]; omega
 have wd64 : IntKind.u64.wrap (d : Int) = d := IntWalk.u64_in _ (by omega)
 by_cases g1 : B ≤ d
 · have j1 : (B : Int) ≤ (d : Int) := by omega
   simp [jg.b0, hN, hT, hL, hlt, hx, gW, i95, i1, i2, wd, fJ, iR, gL, gq, wB8, wB64, wd64, wi, g1, j1]
 have j1 : ¬ ((B : Int) ≤ (d : Int)) := by omega
 by_cases g2 : cut ≤ n
 · have j2 : (cut : Int) ≤ (n : Int) := by omega
   simp [jg.b0, hN, hT, hL, hlt, hx, gW, i95, i1, i2, wd, fJ, iR, gL, gq, wB8, wB64, wd64, wi, g1, j1, g2, j2]
 have j2 : ¬ ((cut : Int) ≤ (n : Int)) := by omega
 have hm := hcut n (by omega)
 have wm : IntKind.u64.wrap ((n : Int) * (B : Int)) = ((n * B : Nat) : Int) := by rw [← Int.natCast_mul]; exact IntWalk.u64_in _ (by omega)
 generalize n * B = m at *
 by_cases g3 : mx < m + d
 · by_cases g4 : m + d < 18446744073709551616
   · have wa : IntKind.u64.wrap ((m : Int) + (d : Int)) = (m : Int) + (d : Int) := IntWalk.u64_in _ (by omega)
     have j3 : ¬ ((m : Int) + (d : Int) < (m : Int)) := by omega
     have j4 : (mx : Int) < (m : Int) + (d : Int) := by omega
     simp [jg.b0, hN, hT, hL, hlt, hx, gW, i95, i1, i2, wd, fJ, iR, gL, gq, wB8, wB64, wd64, wi, g1, j1, g2, j2, wm, wa, g3, j3, j4]
   · have wa : IntKind.u64.wrap ((m : Int) + (d : Int)) = (m : Int) + (d : Int) - 18446744073709551616 := by rw [lA]; omega
     have j3 : (m : Int) + (d : Int) - 18446744073709551616 < (m : Int) := by omega
     simp [jg.b0, hN, hT, hL, hlt, hx, gW, i95, i1, i2, wd, fJ, iR, gL, gq, wB8, wB64, wd64, wi, g1, j1, g2, j2, wm, wa, g3, j3]
 · have wa : IntKind.u64.wrap ((m : Int) + (d : Int)) = (m : Int) + (d : Int) := IntWalk.u64_in _ (by omega)
   have j3 : ¬ ((m : Int) + (d : Int) < (m : Int)) := by omega
   have j4 : ¬ ((mx : Int) < (m : Int) + (d : Int)) := by omega
   simp [jg.b0, hN, hT, hL, hlt, hx, gW, i95, i1, i2, wd, fJ, iR, gL, gq, wB8, wB64, wd64, wi, g1, j1, g2, j2, wm, wa, g3, j3, j4]
theorem vD {t s0 : List UInt8} {B cut mx n i d : Nat} (hB : 2 ≤ B ∧ B ≤ 36) (hcut : ∀ n, n < cut → n * B < 18446744073709551616) (hmx : mx < 18446744073709551616) (hc64 : cut < 18446744073709551616) {X : St} {N T Lb : Nat} (hN : X.stk.length = N) (hT : X.tk.length = T) (hL : X.lp.length = Lb) (hi : i < t.length) (hlen : t.length < 4611686018427387904) (h57 : 57 < t[i].toNat) (h95 : t[i].toNat ≠ 95) (ht : 97 ≤ (t[i] ||| 32).toNat ∧ (t[i] ||| 32).toNat ≤ 122) (hd : d = (t[i] ||| 32).toNat - 87) :
 ∃ vs, jg.b0 (E L) itE N Lb (pV B cut mx t s0 n i) (X.app [] [] []) = some (if B ≤ d ∨ cut ≤ n ∨ mx < n * B + d then .ret else .normal, vs, X.app [] [] []) ∧
  (if B ≤ d then AM.aa vs 1 = .v (.int .u64 0) ∧ AM.aa vs 2 = .ifc 212 (.int .i64 2) else if cut ≤ n ∨ mx < n * B + d then AM.aa vs 1 = .v (.int .u64 (mx : Int)) ∧ AM.aa vs 2 = .ifc 212 (.int .i64 1) else vs = pV B cut mx t s0 (n * B + d) (i + 1)) := by
 have hx := Fb (l := t) (c := .dead) .i64 hi
 generalize t[i] = c at *
 have clt := c.toNat_lt
 have hlt : (i : Int) < (t.length : Int) := by omega
 have wi : IntKind.i64.wrap ((i : Int) + 1) = (i : Int) + 1 := IntWalk.i64_in _ (by omega); have wB8 : IntKind.u8.wrap (B : Int) = B := IntWalk.u8_in _ (by omega); have wB64 : IntKind.u64.wrap (B : Int) = B := IntWalk.u64_in _ (by omega)
 have i95 : ¬ ((c.toNat : Int) = 95) := by omega
 have i1 : (48 : Int) ≤ (c.toNat : Int) := by omega
 have i2 : ¬ ((c.toNat : Int) ≤ 57) := by omega
 have hl := uP c
 generalize (c ||| 32).toNat = lo at *
 have i3 : (97 : Int) ≤ (lo : Int) := by omega
 have i4 : (lo : Int) ≤ 122 := by omega
 have wd0 : IntKind.u8.wrap ((lo : Int) - 97) = (lo : Int) - 97 := IntWalk.u8_in _ (by omega)
 have wd : IntKind.u8.wrap ((lo : Int) - 97 + 10) = (d : Int) := by rw [IntWalk.u8_in _ (by omega)]; omega
 have wd64 : IntKind.u64.wrap (d : Int) = d := IntWalk.u64_in _ (by omega)
 by_cases g1 : B ≤ d
 · have j1 : (B : Int) ≤ (d : Int) := by omega
   simp [jg.b0, hN, hT, hL, hlt, hx, gW, i95, i1, i2, hl, i3, i4, wd0, wd, fJ, iR, gL, gq, wB8, wB64, wd64, wi, g1, j1]
 have j1 : ¬ ((B : Int) ≤ (d : Int)) := by omega
 by_cases g2 : cut ≤ n
 · have j2 : (cut : Int) ≤ (n : Int) := by omega
   simp [jg.b0, hN, hT, hL, hlt, hx, gW, i95, i1, i2, hl, i3, i4, wd0, wd, fJ, iR, gL, gq, wB8, wB64, wd64, wi, g1, j1, g2, j2]
 have j2 : ¬ ((cut : Int) ≤ (n : Int)) := by omega
 have hm := hcut n (by omega)
 have wm : IntKind.u64.wrap ((n : Int) * (B : Int)) = ((n * B : Nat) : Int) := by rw [← Int.natCast_mul]; exact IntWalk.u64_in _ (by omega)
 generalize n * B = m at *
 by_cases g3 : mx < m + d
 · by_cases g4 : m + d < 18446744073709551616
   · have wa : IntKind.u64.wrap ((m : Int) + (d : Int)) = (m : Int) + (d : Int) := IntWalk.u64_in _ (by omega)
     have j3 : ¬ ((m : Int) + (d : Int) < (m : Int)) := by omega
     have j4 : (mx : Int) < (m : Int) + (d : Int) := by omega
     simp [jg.b0, hN, hT, hL, hlt, hx, gW, i95, i1, i2, hl, i3, i4, wd0, wd, fJ, iR, gL, gq, wB8, wB64, wd64, wi, g1, j1, g2, j2, wm, wa, g3, j3, j4]
   · have wa : IntKind.u64.wrap ((m : Int) + (d : Int)) = (m : Int) + (d : Int) - 18446744073709551616 := by rw [lA]; omega
     have j3 : (m : Int) + (d : Int) - 18446744073709551616 < (m : Int) := by omega
     simp [jg.b0, hN, hT, hL, hlt, hx, gW, i95, i1, i2, hl, i3, i4, wd0, wd, fJ, iR, gL, gq, wB8, wB64, wd64, wi, g1, j1, g2, j2, wm, wa, g3, j3]
 · have wa : IntKind.u64.wrap ((m : Int) + (d : Int)) = (m : Int) + (d : Int) := IntWalk.u64_in _ (by omega)
   have j3 : ¬ ((m : Int) + (d : Int) < (m : Int)) := by omega
   have j4 : ¬ ((mx : Int) < (m : Int) + (d : Int)) := by omega
   simp [jg.b0, hN, hT, hL, hlt, hx, gW, i95, i1, i2, hl, i3, i4, wd0, wd, fJ, iR, gL, gq, wB8, wB64, wd64, wi, g1, j1, g2, j2, wm, wa, g3, j3, j4]
theorem yu {t s0 : List UInt8} {B cut mx n i : Nat} (hB : 2 ≤ B ∧ B ≤ 36) (hcut : ∀ n, n < cut → n * B < 18446744073709551616) (hmx : mx < 18446744073709551616) (hc64 : cut < 18446744073709551616) {X : St} {N T Lb : Nat} (hN : X.stk.length = N) (hT : X.tk.length = T) (hL : X.lp.length = Lb) (hi : i < t.length) (hlen : t.length < 4611686018427387904) (ht : ¬ (48 ≤ t[i].toNat ∧ t[i].toNat ≤ 57)) (ht' : ¬ (97 ≤ (t[i] ||| 32).toNat ∧ (t[i] ||| 32).toNat ≤ 122)) :
 ∃ vs, jg.b0 (E L) itE N Lb (pV B cut mx t s0 n i) (X.app [] [] []) = some (.ret, vs, X.app [] [] []) ∧ AM.aa vs 1 = .v (.int .u64 0) ∧ AM.aa vs 2 = .ifc 212 (.int .i64 2) := by
 have hx := Fb (l := t) (c := .dead) .i64 hi
 generalize t[i] = c at *
 have clt := c.toNat_lt
 have hlt : (i : Int) < (t.length : Int) := by omega
 have wi : IntKind.i64.wrap ((i : Int) + 1) = (i : Int) + 1 := IntWalk.i64_in _ (by omega); have wB8 : IntKind.u8.wrap (B : Int) = B := IntWalk.u8_in _ (by omega); have wB64 : IntKind.u64.wrap (B : Int) = B := IntWalk.u64_in _ (by omega)
 by_cases h95 : c = 95
 · subst h95
   have hl : ∀ st, E L (.func 177) [.v (.int .u8 95)] st = some (.v (.int .u8 127), st) := fun st => uP 95 st
   simp [jg.b0, hN, hT, hL, hlt, hx, gW, fJ, hl]
 have i95 : ¬ ((c.toNat : Int) = 95) := fun h => h95 (UInt8.toNat_inj.1 (by simpa using Int.ofNat_inj.1 h))
 have hl := uP c
 generalize (c ||| 32).toNat = lo at *
 by_cases i1 : (48 : Int) ≤ (c.toNat : Int)
 · have i2 : ¬ ((c.toNat : Int) ≤ 57) := by omega
   by_cases i3 : (97 : Int) ≤ (lo : Int)
   · have i4 : ¬ ((lo : Int) ≤ 122) := by omega
     simp [jg.b0, hN, hT, hL, hlt, hx, gW, fJ, hl, i95, i1, i2, i3, i4]
   · simp [jg.b0, hN, hT, hL, hlt, hx, gW, fJ, hl, i95, i1, i2, i3]
 · by_cases i3 : (97 : Int) ≤ (lo : Int)
   · have i4 : ¬ ((lo : Int) ≤ 122) := by omega
     simp [jg.b0, hN, hT, hL, hlt, hx, gW, fJ, hl, i95, i1, i3, i4]
   · simp [jg.b0, hN, hT, hL, hlt, hx, gW, fJ, hl, i95, i1, i3]
theorem um (c : UInt8) (h : 97 ≤ (c ||| 32).toNat ∧ (c ||| 32).toNat ≤ 122) : 57 < c.toNat ∧ c.toNat ≠ 95 := by
 have key : ∀ n, n < 256 → 97 ≤ (UInt8.ofNat n ||| 32).toNat ∧ (UInt8.ofNat n ||| 32).toNat ≤ 122 → 57 < (UInt8.ofNat n).toNat ∧ (UInt8.ofNat n).toNat ≠ 95 := by decide +kernel
 have := key c.toNat c.toNat_lt; rw [UInt8.ofNat_toNat] at this; exact this h
def PLo (t s0 : List UInt8) (B cut mx : Nat) (X : St) (N Lb : Nat) (suf : List UInt8) (n i : Nat) : Prop :=
 ∃ x vs, itE (jg.b0 (E L) itE N Lb) (pV B cut mx t s0 n i) (X.app [] [] []) = some (x, vs, X.app [] [] []) ∧
  (match (pu B cut mx suf n).2 with
   | none => x = .exit 3 ∧ vs = pV B cut mx t s0 (pu B cut mx suf n).1 t.length
   | some k => x = .ret ∧ AM.aa vs 1 = .v (.int .u64 ((pu B cut mx suf n).1 : Int)) ∧ AM.aa vs 2 = .ifc 212 (.int .i64 (k : Int)))
theorem sW {t s0 : List UInt8} {B cut mx : Nat} (hB : 2 ≤ B ∧ B ≤ 36) (hcut : ∀ n, n < cut → n * B < 18446744073709551616) (hmx : mx < 18446744073709551616) (hc64 : cut < 18446744073709551616) {X : St} {N T Lb : Nat} (hN : X.stk.length = N) (hT : X.tk.length = T) (hL : X.lp.length = Lb) (hlen : t.length < 4611686018427387904) :
 ∀ (suf pre : List UInt8) (n : Nat), t = pre ++ suf →
 PLo t s0 B cut mx X N Lb suf n pre.length := by
 intro suf
 induction suf with
 | nil =>
  intro pre n ht
  have ht : t = pre := by simpa using ht
  subst ht; refine ⟨.exit 3, pV B cut mx t s0 n t.length, ?_, rfl, rfl⟩; apply fk; simp [jg.b0, hN, hT, hL]
 | cons c suf ih =>
  intro pre n ht
  have ht' : t = (pre ++ [c]) ++ suf := by simp [ht]
  have hl : pre.length < t.length := by rw [ht]; simp
  have hg : t[pre.length] = c := by simp [ht]
  have fin : ∀ d, d = kI c → (∃ vs, jg.b0 (E L) itE N Lb (pV B cut mx t s0 n pre.length) (X.app [] [] []) = some (if B ≤ d ∨ cut ≤ n ∨ mx < n * B + d then .ret else .normal, vs, X.app [] [] []) ∧
   (if B ≤ d then AM.aa vs 1 = .v (.int .u64 0) ∧ AM.aa vs 2 = .ifc 212 (.int .i64 2) else if cut ≤ n ∨ mx < n * B + d then AM.aa vs 1 = .v (.int .u64 (mx : Int)) ∧ AM.aa vs 2 = .ifc 212 (.int .i64 1) else vs = pV B cut mx t s0 (n * B + d) (pre.length + 1))) → PLo t s0 B cut mx X N Lb (c :: suf) n pre.length := by
   intro d hd h; obtain ⟨vs, h1, h2⟩ := h; subst hd; simp only [PLo, pu]
   by_cases g1 : B ≤ kI c
   · rw [if_pos (.inl g1)] at h1
     rw [if_pos g1] at h2; rw [if_pos g1]; exact ⟨.ret, vs, eE h1, rfl, h2.1, h2.2⟩
   · rw [if_neg g1] at h2
     rw [if_neg g1]
     by_cases g2 : cut ≤ n ∨ mx < n * B + kI c
     · rw [if_pos (.inr g2)] at h1
       rw [if_pos g2] at h2; refine ⟨.ret, vs, eE h1, ?_⟩
       by_cases g3 : cut ≤ n
       · rw [if_pos g3]; exact ⟨rfl, h2.1, h2.2⟩
       · rw [if_neg g3, if_pos (g2.resolve_left g3)]; exact ⟨rfl, h2.1, h2.2⟩
     · rw [if_neg (by rw [not_or]; exact ⟨g1, g2⟩)] at h1
       rw [if_neg g2] at h2; subst h2; rw [if_neg (fun h => g2 (.inl h)), if_neg (fun h => g2 (.inr h)), bP h1]; have := ih (pre ++ [c]) (n * B + kI c) ht'; rw [ay, bC] at this; simp only [PLo] at this; exact this
  by_cases h1 : 48 ≤ c.toNat ∧ c.toNat ≤ 57
  · exact fin (c.toNat - 48) (by rw [kI, if_pos h1]) (w6 hB hcut hmx hc64 hN hT hL hl hlen (by rw [hg]; exact h1) (by rw [hg]))
  · by_cases h2 : 97 ≤ (c ||| 32).toNat ∧ (c ||| 32).toNat ≤ 122
    · exact fin ((c ||| 32).toNat - 87) (by rw [kI, if_neg h1, if_pos h2]) (vD hB hcut hmx hc64 hN hT hL hl hlen (by rw [hg]; exact (um c h2).1) (by rw [hg]; exact (um c h2).2) (by rw [hg]; exact h2) (by rw [hg]))
    · have hd : kI c = 255 := by rw [kI, if_neg h1, if_neg h2]
      obtain ⟨vs, e1, e2, e3⟩ := yu (s0 := s0) (n := n) hB hcut hmx hc64 hN hT hL hl hlen (by rw [hg]; exact h1) (by rw [hg]; exact h2); simp only [PLo, pu, hd]; rw [if_pos (by omega)]; exact ⟨.ret, vs, eE e1, rfl, e2, e3⟩
def puR (B cut mx : Nat) (t : List UInt8) : Nat × Option Nat := if t = [] then (0, some 2) else pu B cut mx t 0
def lh : Option Nat → PV
 | none => .v .nilIface
 | some k => .ifc 212 (.int .i64 (k : Int))
theorem Gj : aJ Tryz.prog true .shl 34 (.v (.int .u64 1)) (.v (.int .u64 63)) = some (.v (.int .u64 9223372036854775808)) := by kernel_rfl
theorem Ei {t : List UInt8} (h : t.length < 2147483648) (st : St) : E L (.func 170) [str t, .v (.int .i64 10), .v (.int .i64 63)] st = some (.tup [.v (.int .u64 ((puR 10 1844674407370955162 9223372036854775807 t).1 : Int)), lh (puR 10 1844674407370955162 9223372036854775807 t).2], st) := by
 rw [zh]; obtain ⟨N, T, Lb, hN, hT, hL⟩ := lens3 st
 conv => lhs; rw [← al (st)]
 by_cases h0 : t = []
 · subst h0
   simp [jg, hN, hT, hL, fJ, puR, lh]
 have wb : IntKind.u64.wrap 63 = 63 := IntWalk.u64_in _ (by omega)
 have wm : IntKind.u64.wrap 9223372036854775807 = 9223372036854775807 := by exact IntWalk.u64_in _ (by omega)
 obtain ⟨x, vs, h1, h2⟩ := sW (t := t) (s0 := t) (B := 10) (cut := 1844674407370955162) (mx := 9223372036854775807) (by omega) (fun n h => by omega) (by omega) (by omega) hN hT hL (by omega) t [] 0 rfl
 have e0 : puR 10 1844674407370955162 9223372036854775807 t = pu 10 1844674407370955162 9223372036854775807 t 0 := by rw [puR, if_neg h0]
 rw [e0]; generalize pu 10 1844674407370955162 9223372036854775807 t 0 = q at h2 ⊢; obtain ⟨r, k⟩ := q; simp only [aC, pV, eD, ab] at h1 h2
 cases k with
 | none =>
  obtain ⟨rfl, rfl⟩ := h2; simp [jg, hN, hT, hL, fJ, h0, mG, lQ, kE, sK, Gj, wb, wm, h1, lh]
 | some k =>
  obtain ⟨rfl, h3, h4⟩ := h2; simp [AM.aa] at h3 h4; simp [jg, hN, hT, hL, fJ, h0, mG, lQ, kE, sK, Gj, wb, wm, h1, lh, h3, h4]
theorem Gk : aJ Tryz.prog true .shl 34 (.v (.int .u64 1)) (.v (.int .u64 64)) = some (.v (.int .u64 0)) := by kernel_rfl
theorem Ej {t : List UInt8} (h : t.length < 2147483648) (st : St) : E L (.func 170) [str t, .v (.int .i64 16), .v (.int .i64 64)] st = some (.tup [.v (.int .u64 ((puR 16 1152921504606846976 18446744073709551615 t).1 : Int)), lh (puR 16 1152921504606846976 18446744073709551615 t).2], st) := by
 rw [zh]; obtain ⟨N, T, Lb, hN, hT, hL⟩ := lens3 st
 conv => lhs; rw [← al (st)]
 by_cases h0 : t = []
 · subst h0
   simp [jg, hN, hT, hL, fJ, puR, lh]
 have wb : IntKind.u64.wrap 64 = 64 := IntWalk.u64_in _ (by omega)
 have wm : IntKind.u64.wrap (-1) = 18446744073709551615 := by rw [lA]; omega
 obtain ⟨x, vs, h1, h2⟩ := sW (t := t) (s0 := t) (B := 16) (cut := 1152921504606846976) (mx := 18446744073709551615) (by omega) (fun n h => by omega) (by omega) (by omega) hN hT hL (by omega) t [] 0 rfl
 have e0 : puR 16 1152921504606846976 18446744073709551615 t = pu 16 1152921504606846976 18446744073709551615 t 0 := by rw [puR, if_neg h0]
 rw [e0]; generalize pu 16 1152921504606846976 18446744073709551615 t 0 = q at h2 ⊢; obtain ⟨r, k⟩ := q; simp only [aC, pV, eD, ab] at h1 h2
 cases k with
 | none =>
  obtain ⟨rfl, rfl⟩ := h2; simp [jg, hN, hT, hL, fJ, h0, mG, lQ, kE, sK, Gk, wb, wm, h1, lh]
 | some k =>
  obtain ⟨rfl, h3, h4⟩ := h2; simp [AM.aa] at h3 h4; simp [jg, hN, hT, hL, fJ, h0, mG, lQ, kE, sK, Gk, wb, wm, h1, lh, h3, h4]
theorem Dp {g : List Value → Option PV} {args : List PV} {vs : List Value} {p : PV} (h1 : lL args = some vs) (h2 : g vs = some p) (h3 : nR p = true) (st : St) : jK g args st = some (p, st) := by
 simp only [AM.jK, h1, h2, ah, h3, cond_true]
theorem za {f t : List UInt8} {b z : Int} {k : Nat} (h : t.length < 2147483648) (hk : k = 1 ∨ k = 2) (st : St) : E L (.func 171) [str f, str t, .v (.int .i64 b), .v (.int .i64 z), .ifc 212 (.int .i64 (k : Int))] st = some (.ni, st) := by
 rw [sd (L := L) (f := 171) (g := jK (sU 212)) (by kernel_rfl)]
 have h1 : t.length ≤ 281474976710656 := by omega
 have h2 : (k : Int) = 1 ∨ (k : Int) = 2 := by omega
 simp [AM.jK, AM.lL, AM.valOf, sU, cv, h1, h2, nR]
theorem Gp {n : Nat} (h : n < 18446744073709551616) (st : St) : E L (.func 31) [.v (.int .u64 (n : Int)), .v (.int .i64 10)] st = some (str (Lib.decDigits n), st) := by
 rw [sd (L := L) (f := 31) (g := jK Bf) (by kernel_rfl)]
 have h1 : (n : Int) < 18446744073709551616 := by omega
 have h0 : (0 : Int) ≤ (n : Int) := by omega
 have e : Bf [.int .u64 (n : Int), .int .i64 10] = some (str (Lib.decDigits n)) := by
  unfold Bf
  show (if (10 : Int) = 10 ∧ 0 ≤ (n : Int) ∧ (n : Int) < 18446744073709551616 then some (PV.v (.string ⟨(Lib.decDigits (n : Int).toNat).toArray⟩)) else none) = _
  rw [if_pos ⟨rfl, h0, h1⟩, Int.toNat_natCast]
  rfl
 exact Dp rfl e rfl st
theorem Ed (l : List UInt8) (c : UInt8) (st : St) : E L (.func 144) [str l, .v (.int .u8 (c.toNat : Int))] st = some (.v (.int .i64 (Lib.indexByte l c)), st) := by
 rw [sd (L := L) (f := 144) (g := jK kV) (by kernel_rfl)]; simp [AM.jK, AM.lL, AM.valOf, kV, nR, jr, mo]
theorem Eh {a b : List UInt8} (h : a.length < 4294967281) (hb : b.length < 4294967281) (h1 : ∀ c ∈ a, c.toNat < 128) (h2 : ∀ c ∈ b, c.toNat < 128) (st : St) : E L (.func 150) [str a, str b] st = some (.v (.bool (Lib.containsAny a b)), st) := by
 rw [sd (L := L) (f := 150) (g := jK jo) (by kernel_rfl)]
 have e1 : oV (bs a) = true := by simpa [oV, mo] using h1
 have e2 : oV (bs b) = true := by simpa [oV, mo] using h2
 simp [AM.jK, AM.lL, AM.valOf, jo, cv, h, hb, e1, e2, nR, jr, mo]
theorem uN (l : List UInt8) (c : UInt8) (st : St) : E L (.func 114) [str l, .v (.int .u8 (c.toNat : Int))] st = some (.v (.int .i64 (Lib.indexByte l c)), st) := by
 rw [Ep]; obtain ⟨N, T, Lb, hN, hT, hL⟩ := lens3 st
 conv => lhs; rw [← al (st)]
 simp [HR, hN, hT, hL, Ed]
theorem indexByte_ge (c : UInt8) : ∀ l : List UInt8, -1 ≤ Lib.indexByte l c ∧ (0 ≤ Lib.indexByte l c ↔ c ∈ l)
 | [] => by simp [Lib.indexByte]
 | b :: l => by
  have ih := indexByte_ge c l; simp only [Lib.indexByte]
  by_cases hb : b = c
  · simp [hb]
  · have hb' : (b == c) = false := by simpa using hb
    have hb2 : ¬ c = b := fun h => hb h.symm
    rw [hb']; simp only [ae, if_false, List.mem_cons, hb2, false_or]
    by_cases h1 : Lib.indexByte l c = -1
    · have : (Lib.indexByte l c == -1) = true := by simpa using h1
      rw [if_pos this]; rw [h1] at ih; exact ⟨by omega, by rw [← ih.2]⟩
    · have : (Lib.indexByte l c == -1) = false := by simpa using h1
      rw [this]; simp only [ae, if_false]; exact ⟨by omega, by rw [← ih.2]; omega⟩
def jt : Option Nat → PV
 | none => .v .nilIface
 | some _ => .ni
theorem Dn {B cut mx : Nat} : ∀ (t : List UInt8) (n : Nat) (k : Nat), (pu B cut mx t n).2 = some k → k = 1 ∨ k = 2
 | [], n, k, h => by cases h
 | c :: t, n, k, h => by
  simp only [pu] at h; split at h
  · right; exact (Option.some.inj h).symm
  · split at h
    · left; exact (Option.some.inj h).symm
    · split at h
      · left; exact (Option.some.inj h).symm
      · exact Dn t _ k h
theorem Ae {B cut mx : Nat} {t : List UInt8} {k : Nat} (h : (puR B cut mx t).2 = some k) : k = 1 ∨ k = 2 := by
 rw [puR] at h; split at h
 · right; exact (Option.some.inj h).symm
 · exact Dn t 0 k h
theorem Ef {t : List UInt8} (h : t.length < 2147483648) (st : St) : E L (.func 148) [str t, .v (.int .i64 10), .v (.int .i64 63)] st = some (.tup [.v (.int .u64 ((puR 10 1844674407370955162 9223372036854775807 t).1 : Int)), jt (puR 10 1844674407370955162 9223372036854775807 t).2], st) := by
 rw [ze]; obtain ⟨N, T, Lb, hN, hT, hL⟩ := lens3 st
 conv => lhs; rw [← al (st)]
 have h1 : ∀ X, E L (.func 170) [str t, .v (.int .i64 10), .v (.int .i64 63)] X = some (.tup [.v (.int .u64 ((puR 10 1844674407370955162 9223372036854775807 t).1 : Int)), lh (puR 10 1844674407370955162 9223372036854775807 t).2], X) := Ei h
 have hk : ∀ k, (puR 10 1844674407370955162 9223372036854775807 t).2 = some k → k = 1 ∨ k = 2 := fun k h => Ae h
 generalize puR 10 1844674407370955162 9223372036854775807 t = q at h1 hk ⊢; obtain ⟨r, k⟩ := q
 cases k with
 | none => simp [B4, hN, hT, hL, h1, lh, jt, uq]
 | some k =>
  have h49 : ∀ X, E L (.func 171) [str [80, 97, 114, 115, 101, 85, 105, 110, 116], str t, .v (.int .i64 10), .v (.int .i64 63), .ifc 212 (.int .i64 (k : Int))] X = some (.ni, X) := za h (hk k rfl)
  simp [B4, hN, hT, hL, h1, lh, jt, uh, h49]
theorem Eg {t : List UInt8} (h : t.length < 2147483648) (st : St) : E L (.func 148) [str t, .v (.int .i64 16), .v (.int .i64 64)] st = some (.tup [.v (.int .u64 ((puR 16 1152921504606846976 18446744073709551615 t).1 : Int)), jt (puR 16 1152921504606846976 18446744073709551615 t).2], st) := by
 rw [ze]; obtain ⟨N, T, Lb, hN, hT, hL⟩ := lens3 st
 conv => lhs; rw [← al (st)]
 have h1 : ∀ X, E L (.func 170) [str t, .v (.int .i64 16), .v (.int .i64 64)] X = some (.tup [.v (.int .u64 ((puR 16 1152921504606846976 18446744073709551615 t).1 : Int)), lh (puR 16 1152921504606846976 18446744073709551615 t).2], X) := Ej h
 have hk : ∀ k, (puR 16 1152921504606846976 18446744073709551615 t).2 = some k → k = 1 ∨ k = 2 := fun k h => Ae h
 generalize puR 16 1152921504606846976 18446744073709551615 t = q at h1 hk ⊢; obtain ⟨r, k⟩ := q
 cases k with
 | none => simp [B4, hN, hT, hL, h1, lh, jt, uq]
 | some k =>
  have h49 : ∀ X, E L (.func 171) [str [80, 97, 114, 115, 101, 85, 105, 110, 116], str t, .v (.int .i64 16), .v (.int .i64 64), .ifc 212 (.int .i64 (k : Int))] X = some (.ni, X) := za h (hk k rfl)
  simp [B4, hN, hT, hL, h1, lh, jt, uh, h49]
theorem HG : AA 145 cg := ⟨fun c st h => yX _ st, false, fun c h => by simp [cg, qO, jY, kR (show (128 : Int) ≤ (c.toNat : Int) by omega), kH (show (128 : Int) ≤ (c.toNat : Int) by omega)], fun n st h => by rw [yX, kR (by omega), kH (by omega)]; rfl⟩
theorem HH : AA 149 cg := ⟨fun c st h => yZ _ st, false, fun c h => by simp [cg, qO, jY, kR (show (128 : Int) ≤ (c.toNat : Int) by omega), kH (show (128 : Int) ≤ (c.toNat : Int) by omega)], fun n st h => by rw [yZ, kR (by omega), kH (by omega)]; rfl⟩
def nlB (c : UInt8) : Bool := !decide (c = 10)
theorem jS (c : UInt8) (n : Nat) (h : n < 256) : ((c.toNat : Int) = (n : Int)) = (c = UInt8.ofNat n) := by
 apply propext
 constructor
 · intro e
   have : c.toNat = n := by omega
   rw [← this, UInt8.ofNat_toNat]
 · rintro rfl
   simp [UInt8.toNat_ofNat', Nat.mod_eq_of_lt h]
theorem HF : AA 113 nlB := ⟨fun c st h => by rw [yV]; have e : ((c.toNat : Int) = 10) = (c = 10) := jS c 10 (by omega); simp [nlB, e], true, fun c h => by simp [nlB]; rintro rfl; simp at h, fun n st h => by rw [yV]; simp; omega⟩
theorem Ec {a b : List UInt8} (ha : a.length < 4611686018427387904) (hb : b.length < 4611686018427387904) (st : St) : E L (.func 140) [str a, str b] st = some (.v (.bool (b.isPrefixOf a)), st) := by
 rw [ED]; obtain ⟨N, T, Lb, hN, hT, hL⟩ := lens3 st
 conv => lhs; rw [← al (st)]
 by_cases h : b.length ≤ a.length
 · have h1 : (b.length : Int) ≤ (a.length : Int) := by omega
   have e : b.isPrefixOf a = decide (a.take b.length = b) := by
    rw [Bool.eq_iff_iff, List.isPrefixOf_iff_prefix, decide_eq_true_eq, List.prefix_iff_eq_take]; exact eq_comm
   simp [GI, hN, hT, hL, dH, h1, DF _ h, e]
 · have h1 : ¬ ((b.length : Int) ≤ (a.length : Int)) := by omega
   have e : b.isPrefixOf a = false := by
    rw [Bool.eq_false_iff]; intro hp; exact h ((List.isPrefixOf_iff_prefix.1 hp).length_le)
   simp [GI, hN, hT, hL, dH, h1, e]
theorem uS {a b : List UInt8} (ha : a.length < 4611686018427387904) (hb : b.length < 4611686018427387904) (st : St) : E L (.func 99) [str a, str b] st = some (.v (.bool (b.isPrefixOf a)), st) := by
 rw [Hc]; obtain ⟨N, T, Lb, hN, hT, hL⟩ := lens3 st
 conv => lhs; rw [← al (st)]
 simp [S99, hN, hT, hL, Ec ha hb]
def mD (c : UInt8) : Bool := [32, 9, 13, 10].contains c
def eP : List UInt8 → Nat
 | [] => 0
 | c :: l => if ([47, 47] : List UInt8).isPrefixOf (c :: l) then bB nlB (c :: l) else if mD c then 1 else 0
theorem od : ∀ l : List UInt8, eP l ≤ l.length
 | [] => ao _
 | c :: l => by
  simp only [eP]; split
  · exact iF _ _
  · split <;> simp
theorem qg {l : List UInt8} (h : ([47, 47] : List UInt8).isPrefixOf l = true) : 0 < bB nlB l := by
 cases l with
 | nil => simp [ed] at h
 | cons c l =>
  have : c = 47 := by
   simp only [ed, aq, beq_iff_eq] at h; exact h.1.symm
  subst this; rw [fG, if_pos (by decide)]; omega
def fL (rest : List UInt8) (p : Nat × Nat) : List UInt8 × (Nat × Nat) :=
 if h : eP rest = 0 then (rest, p) else fL (rest.drop (eP rest)) (adv (rest.take (eP rest)) p)
termination_by rest.length
decreasing_by
 have := od rest; simp only [cF]; omega
theorem ke {rest : List UInt8} {n : Nat} (hn : n ≤ rest.length) {p : Nat × Nat} (hp : 1 ≤ p.2) {M : Nat} (h1 : p.1 + rest.length < M) (h2 : p.2 + rest.length < M) :
 1 ≤ (adv (rest.take n) p).2 ∧ (adv (rest.take n) p).1 + (rest.drop n).length < M ∧ (adv (rest.take n) p).2 + (rest.drop n).length < M := by
 have := rT (rest.take n) p hp; simp only [List.length_take, cF] at this ⊢; omega
theorem xV (rest : List UInt8) (p : Nat × Nat) {M : Nat} (hp : 1 ≤ p.2) (h1 : p.1 + rest.length < M) (h2 : p.2 + rest.length < M) :
 1 ≤ (fL rest p).2.2 ∧ (fL rest p).2.1 + (fL rest p).1.length < M ∧ (fL rest p).2.2 + (fL rest p).1.length < M ∧ eP (fL rest p).1 = 0 ∧ (fL rest p).1.length ≤ rest.length := by
 induction rest, p using fL.induct with
 | case1 rest p h => rw [fL, dif_pos h]; exact ⟨hp, h1, h2, h, ao _⟩
 | case2 rest p h ih =>
  rw [fL, dif_neg h]; have := ke (od rest) hp h1 h2; have := ih this.1 this.2.1 this.2.2; simp only [cF] at this ⊢; exact ⟨this.1, this.2.1, this.2.2.1, this.2.2.2.1, by omega⟩
theorem uM {g : Nat} {q : UInt8 → Bool} (ht : AA g q) {X : St} {b : Nat} {rest : List UInt8} {x y : PV} (hb : b < X.stk.length) (hlen : rest.length < 4611686018427387904) (bl : List Blk) (tk : List (Nat × Nat)) (lp : List Aux) :
 E L (.func 112) [.ptr false b 0, .clo (.func g) []] ((X.af false b [str rest, x, y]).app bl tk lp) = some (.v (.int .i64 (bB q rest)), (X.af false b [str rest, x, y]).app bl tk lp) := by
 rw [← bO bl tk lp hb]; exact D6 ht (by rw [cC]; omega) hlen
theorem n9 {X : St} {b n : Nat} {rest : List UInt8} {p : Nat × Nat} (hb : b < X.stk.length) (hn : n ≤ rest.length) (hp : 1 ≤ p.2) (h1 : p.1 + rest.length < 4611686018427387904) (h2 : p.2 + rest.length < 4611686018427387904) (bl : List Blk) (tk : List (Nat × Nat)) (lp : List Aux) :
 E L (.func 111) [.ptr false b 0, .v (.int .i64 (n : Int))] ((X.af false b (rdc rest p)).app bl tk lp) = some (str (rest.take n), (X.af false b (rdc (rest.drop n) (adv (rest.take n) p))).app bl tk lp) := by
 rw [← bO bl tk lp hb, ← bO bl tk lp hb]; exact D5 (by rw [cC]; omega) hn hp h1 h2
theorem xU {X : St} {N T Lb b : Nat} (hN : X.stk.length = N) (hT : X.tk.length = T) (hL : X.lp.length = Lb) (hb : b < N) : ∀ (rest : List UInt8) (p : Nat × Nat), 1 ≤ p.2 → p.1 + rest.length < 4611686018427387904 → p.2 + rest.length < 4611686018427387904 →
 itE (S65.b0 (E L) itE N Lb) [.ptr false b 0] ((X.af false b (rdc rest p)).app [] [] []) = some (.exit 0, [.ptr false b 0], (X.af false b (rdc (fL rest p).1 (fL rest p).2)).app [] [] []) := by
 intro rest p
 induction rest, p using fL.induct with
 | case1 rest p h =>
  intro hp h1 h2; rw [fL, dif_pos h]; apply fk
  cases rest with
  | nil => simp [S65.b0, hN, hT, hL, rdc, hb]
  | cons c l =>
   have hpre : ([47, 47] : List UInt8).isPrefixOf (c :: l) = false := by
    cases hq : ([47, 47] : List UInt8).isPrefixOf (c :: l) with
    | false => rfl
    | true =>
     have := qg hq; rw [eP, if_pos hq] at h; omega
   have hbl : mD c = false := by
    cases hq : mD c with
    | false => rfl
    | true => rw [eP, if_neg (by rw [hpre]; simp), if_pos hq] at h; cases h
   have e26 : ∀ X, E L (.func 99) [str (c :: l), str [47, 47]] X = some (.v (.bool false), X) := fun X => by rw [uS (by omega) (by simp), hpre]
   have e30 : ∀ X, E L (.func 114) [str [32, 9, 13, 10], .v (.int .u8 (c.toNat : Int))] X = _ := uN [32, 9, 13, 10] c
   have hi : ¬ (0 ≤ Lib.indexByte [32, 9, 13, 10] c) := by
    rw [(indexByte_ge c _).2]; simpa [mD] using hbl
   simp [S65.b0, hN, hT, hL, rdc, hb, e26, lU, e30, hi]
 | case2 rest p h ih =>
  intro hp h1 h2; rw [fL, dif_neg h]; have ad := ke (od rest) hp h1 h2; rw [bP (vs' := [.ptr false b 0]) (st' := (X.af false b (rdc (rest.drop (eP rest)) (adv (rest.take (eP rest)) p))).app [] [] [])]
  · exact ih ad.1 ad.2.1 ad.2.2
  cases rest with
  | nil => simp [eP] at h
  | cons c l =>
   have e26 : ∀ X, E L (.func 99) [str (c :: l), str [47, 47]] X = some (.v (.bool (([47, 47] : List UInt8).isPrefixOf (c :: l))), X) := fun X => by rw [uS (by omega) (by simp)]
   have e27 := n9 (X := X) (hN ▸ hb) (od (c :: l)) hp h1 h2 [] [] []
   cases hpre : ([47, 47] : List UInt8).isPrefixOf (c :: l) with
   | true =>
    have hn : eP (c :: l) = bB nlB (c :: l) := by rw [eP, if_pos hpre]
    rw [hpre] at e26; have e28 := uM HF (X := X) (b := b) (rest := c :: l) (x := .v (.int .i64 (p.1 : Int))) (y := .v (.int .i64 (p.2 : Int))) (hN ▸ hb) (by omega) [] [] []; rw [← hn] at e28
    generalize eP (c :: l) = n at *
    generalize (c :: l).drop n = r at *
    generalize (c :: l).take n = t at *
    simp only [rdc] at e27; simp [S65.b0, hN, hT, hL, rdc, hb, e26, e28, e27]
   | false =>
    rw [hpre] at e26
    have hbl : mD c = true := by
     cases hq : mD c with
     | true => rfl
     | false => rw [eP, if_neg (by rw [hpre]; simp), if_neg (by rw [hq]; simp)] at h; exact absurd rfl h
    have hn : eP (c :: l) = 1 := by rw [eP, if_neg (by rw [hpre]; simp), if_pos hbl]
    have e30 : ∀ X, E L (.func 114) [str [32, 9, 13, 10], .v (.int .u8 (c.toNat : Int))] X = _ := uN [32, 9, 13, 10] c
    have hi : 0 ≤ Lib.indexByte [32, 9, 13, 10] c := by
     rw [(indexByte_ge c _).2]; simpa [mD] using hbl
    rw [hn] at e27 ⊢; simp only [rdc, ab] at e27
    generalize (c :: l).drop 1 = r at *
    generalize (c :: l).take 1 = t at *
    simp [S65.b0, hN, hT, hL, rdc, hb, e26, lU, e30, hi, e27]
theorem Gs {s : St} {b : Nat} {rest : List UInt8} {p : Nat × Nat} (hb : b < s.stk.length) (hp : 1 ≤ p.2) (h1 : p.1 + rest.length < 4611686018427387904) (h2 : p.2 + rest.length < 4611686018427387904) :
 E L (.func 65) [.ptr false b 0] (s.af false b (rdc rest p)) = some (.tup [], s.af false b (rdc (fL rest p).1 (fL rest p).2)) := by
 rw [GX]; obtain ⟨N, T, Lb, hN, hT, hL⟩ := lens3 s; rw [hN] at hb
 conv => lhs; rw [← al (s.af false b (rdc rest p))]
 have h := xU hN hT hL hb rest p hp h1 h2; simp only [rdc] at h; simp [S65, hN, hT, hL, rdc, h]
abbrev bw (k : Nat) (t : List UInt8) (v : Nat) (p : Nat × Nat) : List PV := [.v (.int .i64 (k : Int)), str t, .v (.int .u64 (v : Int)), .v (.int .i64 (p.1 : Int)), .v (.int .i64 (p.2 : Int))]
abbrev pd (t : List UInt8) : Nat × Option Nat := puR 10 1844674407370955162 9223372036854775807 t
abbrev qW (t : List UInt8) : Nat × Option Nat := puR 16 1152921504606846976 18446744073709551615 t
def kc (t : List UInt8) : Nat × Nat × Bool :=
 if iJ t then (2, 0, true) else if lq t then (1, 0, true) else (3, (pd t).1, (pd t).2.isNone && decide (Lib.decDigits (pd t).1 = t))
theorem Gh {B cut mx : Nat} : ∀ (t : List UInt8) (n : Nat), n ≤ mx → (pu B cut mx t n).1 ≤ mx
 | [], n, h => h
 | c :: t, n, h => by
  simp only [pu]; split
  · exact dF _
  · split
    · exact ao _
    · split
      · exact ao _
      · exact Gh t _ (by omega)
theorem Ad (t : List UInt8) : (pd t).1 ≤ 9223372036854775807 := by
 unfold pd puR; split
 · simp
 · exact Gh t 0 (dF _)
theorem D7 {s : St} {b : Nat} {rest : List UInt8} {p : Nat × Nat} (hb : b < s.stk.length) (hp : 1 ≤ p.2) (h1 : p.1 + rest.length < 2147483648) (h2 : p.2 + rest.length < 2147483648) :
 E L (.func 117) [.ptr false b 0] (s.af false b (rdc rest p)) = some (.tup [.agg (bw (kc (rest.take (bB cg rest))).1 (rest.take (bB cg rest)) (kc (rest.take (bB cg rest))).2.1 p), .v (.bool (kc (rest.take (bB cg rest))).2.2)],
  s.af false b (rdc (rest.drop (bB cg rest)) (adv (rest.take (bB cg rest)) p))) := by
 rw [Et]; obtain ⟨N, T, Lb, hN, hT, hL⟩ := lens3 s; rw [hN] at hb
 conv => lhs; rw [← al (s.af false b (rdc rest p))]
 have hlt : (rest.take (bB cg rest)).length < 2147483648 := by simp; omega
 have e28 := fun bl => uM HG (X := s) (b := b) (rest := rest) (x := .v (.int .i64 (p.1 : Int))) (y := .v (.int .i64 (p.2 : Int))) (hN ▸ hb) (by omega) bl [] []
 have e27 := fun bl => n9 (X := s) (hN ▸ hb) (iF cg rest) hp (by omega) (by omega) bl [] []
 generalize bB cg rest = n at *
 generalize rest.take n = t at *
 generalize rest.drop n = r at *
 simp only [rdc] at e27
 have e14 : ∀ X, E L (.func 146) [str t] X = some (.v (.bool (iJ t)), X) := yY hlt
 have e13 : ∀ X, E L (.func 147) [str t] X = some (.v (.bool (lq t)), X) := Ee hlt
 have e42 : ∀ X, E L (.func 148) [str t, .v (.int .i64 10), .v (.int .i64 63)] X = some (.tup [.v (.int .u64 ((pd t).1 : Int)), jt (pd t).2], X) := Ef hlt
 have e43 : ∀ X, E L (.func 31) [.v (.int .u64 ((pd t).1 : Int)), .v (.int .i64 10)] X = some (str (Lib.decDigits (pd t).1), X) := Gp (by have := Ad t; omega)
 unfold kc
 cases hw : iJ t with
 | true => simp [B3, hN, hT, hL, rdc, hb, e28, e27, e14, hw, bm, cq, laid, aH, bw]
 | false =>
 cases hm : lq t with
 | true => simp [B3, hN, hT, hL, rdc, hb, e28, e27, e14, hw, e13, hm, bm, cq, laid, aH, bw]
 | false =>
  generalize pd t = q at *
  obtain ⟨v, k⟩ := q
  cases k with
  | none => simp [B3, hN, hT, hL, rdc, hb, e28, e27, e14, hw, e13, hm, e42, e43, jt, qU, bm, cq, laid, aH, bw]
  | some k => simp [B3, hN, hT, hL, rdc, hb, e28, e27, e14, hw, e13, hm, e42, e43, jt, uj, bm, cq, laid, aH, bw]
theorem EP {c : UInt8} (h : cg c = true) : c.toNat < 128 := by
 have := c.toNat_lt
 by_cases hc : c.toNat < 128
 · exact hc
 · simp [cg, qO, jY, kR (show (128 : Int) ≤ (c.toNat : Int) by omega), kH (show (128 : Int) ≤ (c.toNat : Int) by omega)] at h
theorem ml (q : UInt8 → Bool) (l : List UInt8) : ∀ c ∈ l.take (bB q l), q c = true := by
 induction l with
 | nil => simp [bB]
 | cons a l ih =>
  rw [fG]
  by_cases ha : q a = true
  · rw [if_pos ha, av]
    intro c hc
    rcases List.mem_cons.1 hc with rfl | hc
    · exact ha
    · exact ih c hc
  · rw [if_neg ha]; simp
def mT (t : List UInt8) : Bool := (qW t).2.isNone && decide (t.length = 16) && !Lib.containsAny (35 :: t) [65, 66, 67, 68, 69, 70]
theorem D8 {s : St} {b : Nat} {l : List UInt8} {p : Nat × Nat} (hb : b < s.stk.length) (hp : 1 ≤ p.2) (h1 : p.1 + (35 :: l).length < 2147483648) (h2 : p.2 + (35 :: l).length < 2147483648) :
 E L (.func 118) [.ptr false b 0] (s.af false b (rdc (35 :: l) p)) = some (.tup [.agg (bw 4 (35 :: l.take (bB cg l)) (qW (l.take (bB cg l))).1 p), .v (.bool (mT (l.take (bB cg l))))],
  s.af false b (rdc (l.drop (bB cg l)) (adv (35 :: l.take (bB cg l)) p))) := by
 rw [Ev]; obtain ⟨N, T, Lb, hN, hT, hL⟩ := lens3 s; rw [hN] at hb
 conv => lhs; rw [← al (s.af false b (rdc (35 :: l) p))]
 simp only [ag] at h1 h2
 have hlt : (l.take (bB cg l)).length < 2147483647 := by simp; omega
 have hal := ml cg l; have ad := ke (rest := 35 :: l) (n := 1) (by simp) hp (M := 2147483648) (by simpa using h1) (by simpa using h2); simp only [av, aY, aM, aQ] at ad
 have e27 := fun bl => n9 (X := s) (b := b) (n := 1) (rest := 35 :: l) (hN ▸ hb) (by simp) hp (by simp; omega) (by simp; omega) bl [] []
 simp only [av, aY, aM, aQ, rdc, ab] at e27
 have e28 := fun bl => uM HH (X := s) (b := b) (rest := l) (x := .v (.int .i64 ((adv [35] p).1 : Int))) (y := .v (.int .i64 ((adv [35] p).2 : Int))) (hN ▸ hb) (by omega) bl [] []
 have e27' := fun bl => n9 (X := s) (b := b) (rest := l) (p := adv [35] p) (hN ▸ hb) (iF cg l) ad.1 (by omega) (by omega) bl [] []
 have ea : adv (35 :: l.take (bB cg l)) p = adv (l.take (bB cg l)) (adv [35] p) := js [35] _ p; rw [ea]
 generalize adv [35] p = p1 at *
 generalize bB cg l = n at *
 generalize l.take n = t at *
 generalize l.drop n = r at *
 simp only [rdc] at e27'
 have es : aJ Tryz.prog true .add 9 (str [35]) (str t) = some (str (35 :: t)) := by rw [sb _ _ _ _ _ (by simp [cv]; omega), oe]; rfl
 have esl : fW Tryz.prog 9 (str (35 :: t)) (some (.v (.int .i64 1))) none none = some (str t) := DH (l := 35 :: t) (lo := 1) .i64 (by simp)
 have e42 : ∀ X, E L (.func 148) [str t, .v (.int .i64 16), .v (.int .i64 64)] X = some (.tup [.v (.int .u64 ((qW t).1 : Int)), jt (qW t).2], X) := Eg (by omega)
 have e45 : ∀ X, E L (.func 150) [str (35 :: t), str [65, 66, 67, 68, 69, 70]] X = some (.v (.bool (Lib.containsAny (35 :: t) [65, 66, 67, 68, 69, 70])), X) := Eh (by simp; omega) (by simp) (fun c hc => by
  rcases List.mem_cons.1 hc with rfl | hc
  · decide
  · exact EP (hal c hc)) (by decide)
 unfold mT
 generalize Lib.containsAny (35 :: t) [65, 66, 67, 68, 69, 70] = ca at *
 generalize qW t = q at *
 obtain ⟨v, k⟩ := q
 cases k with
 | none =>
  by_cases hlen : t.length = 16
  · have hl' : ((t.length : Int) + 1 = 17) := by omega
    simp [Eu, hN, hT, hL, rdc, hb, e27, e28, e27', es, esl, e42, jt, qU, dH, hlen, hl', e45, bm, cq, laid, aH, bw]
  · have hl' : ¬ ((t.length : Int) + 1 = 17) := by omega
    simp [Eu, hN, hT, hL, rdc, hb, e27, e28, e27', es, esl, e42, jt, qU, dH, hlen, hl', bm, cq, laid, aH, bw]
 | some k => simp [Eu, hN, hT, hL, rdc, hb, e27, e28, e27', es, esl, e42, jt, uj, bm, cq, laid, aH, bw]
def iQ : List UInt8 := [123, 125, 40, 41, 91, 93, 59, 58, 44, 46, 61, 60, 43, 45, 42, 47, 37]
def eR (l : List UInt8) : Nat :=
 if ([61, 61] : List UInt8).isPrefixOf l || ([33, 61] : List UInt8).isPrefixOf l || ([60, 61] : List UInt8).isPrefixOf l then 2 else
 match l with
 | [] => 0
 | c :: _ => if iQ.contains c then 1 else 0
theorem D9 {s : St} {b : Nat} {c : UInt8} {l : List UInt8} {p : Nat × Nat} (hb : b < s.stk.length) (hp : 1 ≤ p.2) (h1 : p.1 + (c :: l).length < 2147483648) (h2 : p.2 + (c :: l).length < 2147483648) :
 E L (.func 119) [.ptr false b 0] (s.af false b (rdc (c :: l) p)) = some (.tup [.agg (bw 5 ((c :: l).take (eR (c :: l))) 0 p), .v (.bool (!decide (eR (c :: l) = 0)))],
  s.af false b (rdc ((c :: l).drop (eR (c :: l))) (adv ((c :: l).take (eR (c :: l))) p))) := by
 rw [Ew]; obtain ⟨N, T, Lb, hN, hT, hL⟩ := lens3 s; rw [hN] at hb
 conv => lhs; rw [← al (s.af false b (rdc (c :: l) p))]
 have hlen : (c :: l).length < 2147483648 := by omega
 have eb : kC Tryz.prog 198 [(0, str [61, 61]), (1, str [33, 61]), (2, str [60, 61])] = some (.agg [str [61, 61], str [33, 61], str [60, 61]]) := by kernel_rfl
 let V := fun (i : Int) => [PV.ptr false b 0, .ptr false N 0, .v (.bool false), .ptr false (N + 1) 0, .agg [str [61, 61], str [33, 61], str [60, 61]], .v (.int .i64 i)]
 have miss : ∀ (i : Int) (x : List UInt8), 0 ≤ i → i < 3 → cJ Tryz.prog 198 (.agg [str [61, 61], str [33, 61], str [60, 61]]) (.v (.int .i64 i)) = some (str x) → x.length ≤ 2 → x.isPrefixOf (c :: l) = false → ∀ bl,
  qC.b0 (E L) itE N Lb (V i) ((s.af false b (rdc (c :: l) p)).app bl [] []) = some (.normal, V (i + 1), (s.af false b (rdc (c :: l) p)).app bl [] []) := by
  intro i x h0 h3 hx hxl hpre bl
  have e26 : ∀ X, E L (.func 99) [str (c :: l), str x] X = some (.v (.bool false), X) := fun X => by rw [uS (by omega) (by omega), hpre]
  have wi : IntKind.i64.wrap (i + 1) = i + 1 := IntWalk.i64_in _ (by omega); simp [qC.b0, V, hN, hT, hL, rdc, hb, h3, hx, e26, wi]
 have hit : ∀ (i : Int) (x : List UInt8), 0 ≤ i → i < 3 → cJ Tryz.prog 198 (.agg [str [61, 61], str [33, 61], str [60, 61]]) (.v (.int .i64 i)) = some (str x) → x.length = 2 → x.isPrefixOf (c :: l) = true → ∃ y,
  qC.b0 (E L) itE N Lb (V i) ((s.af false b (rdc (c :: l) p)).app [⟨[.v (.int .i64 0), str [], .v (.int .u64 0), .v (.int .i64 0), .v (.int .i64 0)], []⟩, ⟨bw 5 [] 0 p, []⟩] [] []) =
   some (.ret, [PV.ptr false b 0, .ptr false N 0, .v (.bool true), .ptr false (N + 1) 0, .agg [str [61, 61], str [33, 61], str [60, 61]], y], (s.af false b (rdc ((c :: l).drop 2) (adv ((c :: l).take 2) p))).app [⟨bw 5 ((c :: l).take 2) 0 p, []⟩, ⟨bw 5 ((c :: l).take 2) 0 p, []⟩] [] []) := by
  intro i x h0 h3 hx hxl hpre
  have e26 : ∀ X, E L (.func 99) [str (c :: l), str x] X = some (.v (.bool true), X) := fun X => by rw [uS (by omega) (by omega), hpre]
  have hn : 2 ≤ (c :: l).length := by
   have := (List.isPrefixOf_iff_prefix.1 hpre).length_le; omega
  have e27 := fun bl => n9 (X := s) (n := 2) (hN ▸ hb) hn hp (by omega) (by omega) bl [] []
  simp only [rdc, ab] at e27
  generalize (c :: l).drop 2 = r at *
  generalize (c :: l).take 2 = t at *
  refine ⟨.v (.int .i64 i), ?_⟩; simp [qC.b0, V, hN, hT, hL, rdc, hb, h3, hx, e26, e27, laid, aH, bw]
 have i0 : cJ Tryz.prog 198 (.agg [str [61, 61], str [33, 61], str [60, 61]]) (.v (.int .i64 0)) = some (str [61, 61]) := zK _ _ _ _; have i1 : cJ Tryz.prog 198 (.agg [str [61, 61], str [33, 61], str [60, 61]]) (.v (.int .i64 1)) = some (str [33, 61]) := zM _ _ _ _; have i2 : cJ Tryz.prog 198 (.agg [str [61, 61], str [33, 61], str [60, 61]]) (.v (.int .i64 2)) = some (str [60, 61]) := zP _ _ _ _
 by_cases htwo : ([61, 61] : List UInt8).isPrefixOf (c :: l) || ([33, 61] : List UInt8).isPrefixOf (c :: l) || ([60, 61] : List UInt8).isPrefixOf (c :: l)
 · have hs : eR (c :: l) = 2 := by rw [eR, if_pos htwo]
   rw [hs]
   have run : ∃ y, itE (qC.b0 (E L) itE N Lb) (V 0) ((s.af false b (rdc (c :: l) p)).app [⟨[.v (.int .i64 0), str [], .v (.int .u64 0), .v (.int .i64 0), .v (.int .i64 0)], []⟩, ⟨bw 5 [] 0 p, []⟩] [] []) =
    some (.ret, [PV.ptr false b 0, .ptr false N 0, .v (.bool true), .ptr false (N + 1) 0, .agg [str [61, 61], str [33, 61], str [60, 61]], y], (s.af false b (rdc ((c :: l).drop 2) (adv ((c :: l).take 2) p))).app [⟨bw 5 ((c :: l).take 2) 0 p, []⟩, ⟨bw 5 ((c :: l).take 2) 0 p, []⟩] [] []) := by
    cases h0 : ([61, 61] : List UInt8).isPrefixOf (c :: l) with
    | true =>
     obtain ⟨y, h⟩ := hit 0 _ (by omega) (by omega) i0 rfl h0; exact ⟨y, eE h⟩
    | false =>
     rw [bP (miss 0 _ (by omega) (by omega) i0 (by simp) h0 _)]
     cases h1 : ([33, 61] : List UInt8).isPrefixOf (c :: l) with
     | true =>
      obtain ⟨y, h⟩ := hit 1 _ (by omega) (by omega) i1 rfl h1; exact ⟨y, eE h⟩
     | false =>
      rw [show (0 : Int) + 1 = 1 from rfl, bP (miss 1 _ (by omega) (by omega) i1 (by simp) h1 _)]; obtain ⟨y, h⟩ := hit 2 _ (by omega) (by omega) i2 rfl (by rw [h0, h1] at htwo; simpa using htwo); exact ⟨y, eE h⟩
   obtain ⟨y, run⟩ := run; simp only [V, bw, rdc, ab, eD] at run
   generalize (c :: l).drop 2 = r at *
   generalize (c :: l).take 2 = t at *
   simp [qC, hN, hT, hL, rdc, hb, eb, run, bm, cq, laid, aH, bw]
 · have h012 : ([61, 61] : List UInt8).isPrefixOf (c :: l) = false ∧ ([33, 61] : List UInt8).isPrefixOf (c :: l) = false ∧ ([60, 61] : List UInt8).isPrefixOf (c :: l) = false := by
    simp only [Bool.or_eq_true, not_or, Bool.not_eq_true] at htwo; exact ⟨htwo.1.1, htwo.1.2, htwo.2⟩
   have run : ∀ bl, itE (qC.b0 (E L) itE N Lb) (V 0) ((s.af false b (rdc (c :: l) p)).app bl [] []) = some (.exit 0, V 3, (s.af false b (rdc (c :: l) p)).app bl [] []) := by
    intro bl; rw [bP (miss 0 _ (by omega) (by omega) i0 (by simp) h012.1 _), show (0 : Int) + 1 = 1 from rfl, bP (miss 1 _ (by omega) (by omega) i1 (by simp) h012.2.1 _), show (1 : Int) + 1 = 2 from rfl, bP (miss 2 _ (by omega) (by omega) i2 (by simp) h012.2.2 _)]; apply fk; simp [qC.b0, V, hN, hT, hL]
   simp only [V, rdc] at run
   have e30 : ∀ X, E L (.func 114) [str iQ, .v (.int .u8 (c.toNat : Int))] X = _ := uN iQ c
   have hin := (indexByte_ge c iQ)
   by_cases hc : c ∈ iQ
   · have hs : eR (c :: l) = 1 := by rw [eR, if_neg htwo]; simp [hc]
     have hneg : ¬ (Lib.indexByte iQ c < 0) := by have := hin.2.2 hc; omega
     rw [hs]
     have e27 := fun bl => n9 (X := s) (b := b) (n := 1) (rest := c :: l) (hN ▸ hb) (by simp) hp (by omega) (by omega) bl [] []
     simp only [rdc, ab] at e27
     generalize (c :: l).drop 1 = r at *
     generalize (c :: l).take 1 = t at *
     unfold iQ at e30 hneg; simp [qC, hN, hT, hL, rdc, hb, eb, run, lU, e30, hneg, e27, bm, cq, laid, aH, bw]
   · have hs : eR (c :: l) = 0 := by rw [eR, if_neg htwo]; simp [hc]
     have hneg : Lib.indexByte iQ c < 0 := by
      have h' : ¬ (0 ≤ Lib.indexByte iQ c) := fun h => hc (hin.2.1 h)
      omega
     rw [hs]; unfold iQ at e30 hneg; simp [qC, hN, hT, hL, rdc, hb, eb, run, lU, e30, hneg, bm, cq, laid, aH, bw, adv]
def dp : List UInt8 → Nat × Nat × Nat × Bool
 | [] => (0, 0, 0, false)
 | c :: l =>
  if cg c then ((kc ((c :: l).take (bB cg (c :: l)))).1, bB cg (c :: l), (kc ((c :: l).take (bB cg (c :: l)))).2.1, (kc ((c :: l).take (bB cg (c :: l)))).2.2)
  else if c = 35 then (4, bB cg l + 1, (qW (l.take (bB cg l))).1, mT (l.take (bB cg l)))
  else (5, eR (c :: l), 0, !decide (eR (c :: l) = 0))
theorem gC {c : UInt8} {l : List UInt8} (h : cg c = true) : dp (c :: l) = ((kc ((c :: l).take (bB cg (c :: l)))).1, bB cg (c :: l), (kc ((c :: l).take (bB cg (c :: l)))).2.1, (kc ((c :: l).take (bB cg (c :: l)))).2.2) := by rw [dp, if_pos h]
theorem fT (l : List UInt8) : dp (35 :: l) = (4, bB cg l + 1, (qW (l.take (bB cg l))).1, mT (l.take (bB cg l))) := by rw [dp, if_neg (by decide), if_pos rfl]
theorem fH {c : UInt8} {l : List UInt8} (h : cg c = false) (hc : c ≠ 35) : dp (c :: l) = (5, eR (c :: l), 0, !decide (eR (c :: l) = 0)) := by rw [dp, if_neg (by rw [h]; simp), if_neg hc]
theorem Gt {s : St} {b : Nat} {c : UInt8} {l : List UInt8} {p : Nat × Nat} (hb : b < s.stk.length) (hp : 1 ≤ p.2) (h1 : p.1 + (c :: l).length < 2147483648) (h2 : p.2 + (c :: l).length < 2147483648) :
 E L (.func 66) [.ptr false b 0] (s.af false b (rdc (c :: l) p)) = some (.tup [.agg (bw (dp (c :: l)).1 ((c :: l).take (dp (c :: l)).2.1) (dp (c :: l)).2.2.1 p), .v (.bool (dp (c :: l)).2.2.2)],
  s.af false b (rdc ((c :: l).drop (dp (c :: l)).2.1) (adv ((c :: l).take (dp (c :: l)).2.1) p))) := by
 rw [GY]; obtain ⟨N, T, Lb, hN, hT, hL⟩ := lens3 s; rw [hN] at hb
 conv => lhs; rw [← al (s.af false b (rdc (c :: l) p))]
 have at_ : ∀ (f : Nat) (x : PV) (R : List PV), (∀ X : St, b < X.stk.length → E L (.func f) [.ptr false b 0] (X.af false b (rdc (c :: l) p)) = some (x, X.af false b R)) → ∀ bl, E L (.func f) [.ptr false b 0] ((s.af false b (rdc (c :: l) p)).app bl [] []) = some (x, (s.af false b R).app bl [] []) := by
  intro f x R h bl; rw [← bO bl [] [] (hN ▸ hb), ← bO bl [] [] (hN ▸ hb)]; exact h _ (by rw [cC, hN]; omega)
 have wc : IntKind.i32.wrap (c.toNat : Int) = (c.toNat : Int) := IntWalk.i32_in _ (by have := c.toNat_lt; omega); have hal : cg c = (oF (c.toNat : Int) || sx (c.toNat : Int)) := rfl
 cases ha : cg c with
 | true =>
  rw [gC ha]; dsimp only
  have e31 := at_ 117 _ _ fun X hX => D7 hX hp h1 h2
  generalize bB cg (c :: l) = n at *
  generalize (c :: l).drop n = r at *
  generalize (c :: l).take n = t at *
  generalize kc t = q at *
  obtain ⟨q1, q2, q3⟩ := q; simp only [rdc, bw] at e31; rw [hal] at ha
  cases hl : oF (c.toNat : Int) with
  | true => simp [S66, hN, hT, hL, rdc, hb, lU, og, wc, iW, iX, hl, e31, laid, aH, bw]
  | false =>
   rw [hl, Bool.false_or] at ha; simp [S66, hN, hT, hL, rdc, hb, lU, og, wc, iW, iX, hl, ha, e31, laid, aH, bw]
 | false =>
  have ha0 := ha; rw [hal] at ha; simp only [Bool.or_eq_false_iff] at ha
  by_cases hc : c = 35
  · subst hc
    have e32 := at_ 118 _ _ fun X hX => D8 hX hp h1 h2
    rw [fT]; simp only [av, aM]
    generalize bB cg l = n at *
    generalize l.drop n = r at *
    generalize l.take n = t at *
    generalize qW t = q at *
    generalize mT t = ok at *
    obtain ⟨v, k⟩ := q; simp only [rdc, bw, ab] at e32; have h35 : ((35 : UInt8).toNat : Int) = 35 := rfl; rw [h35] at ha wc; simp [S66, hN, hT, hL, rdc, hb, lU, og, wc, iW, iX, ha.1, ha.2, e32, laid, aH, bw]
  · have e33 := at_ 119 _ _ fun X hX => D9 hX hp h1 h2
    have h35 : ¬ ((c.toNat : Int) = 35) := fun h => hc (UInt8.toNat_inj.1 (by simpa using Int.ofNat_inj.1 h))
    rw [fH ha0 hc]; dsimp only
    generalize eR (c :: l) = n at *
    generalize (c :: l).drop n = r at *
    generalize (c :: l).take n = t at *
    simp only [rdc, bw, ab, eD] at e33; simp [S66, hN, hT, hL, rdc, hb, lU, og, wc, iW, iX, ha.1, ha.2, h35, e33, laid, aH, bw]
structure Tok where
 kind : Nat
 text : List UInt8
 n : Nat
 p : Nat × Nat
abbrev Tok.c (t : Tok) : List PV := bw t.kind t.text t.n t.p
inductive LR where
 | ok (ts : List Tok)
 | err (p : Nat × Nat)
def LR.cons (t : Tok) : LR → LR
 | .ok ts => .ok (t :: ts)
 | .err p => .err p
theorem tp {q : UInt8 → Bool} {c : UInt8} {l : List UInt8} (h : q c = true) : 0 < bB q (c :: l) := by rw [fG, if_pos h]; omega
theorem DD (c : UInt8) (l : List UInt8) : eR (c :: l) ≤ (c :: l).length := by
 rw [eR]; split
 · rename_i h
   have len : ∀ x y : UInt8, ([x, y] : List UInt8).isPrefixOf (c :: l) = true → 2 ≤ (c :: l).length := fun x y h => (List.isPrefixOf_iff_prefix.1 h).length_le
   simp only [Bool.or_eq_true] at h
   rcases h with (h | h) | h
   · exact len _ _ h
   · exact len _ _ h
   · exact len _ _ h
 · simp only [ag]
   split <;> omega
theorem la {c : UInt8} {l : List UInt8} (h : (dp (c :: l)).2.2.2 = true) : 0 < (dp (c :: l)).2.1 := by
 cases ha : cg c with
 | true => rw [gC ha]; exact tp ha
 | false =>
  by_cases hc : c = 35
  · subst hc; rw [fT]; exact Nat.succ_pos _
  · rw [fH ha hc] at h ⊢
    simpa [Nat.pos_iff_ne_zero] using h
theorem oB (c : UInt8) (l : List UInt8) : (dp (c :: l)).2.1 ≤ (c :: l).length := by
 cases ha : cg c with
 | true => rw [gC ha]; exact iF _ _
 | false =>
  by_cases hc : c = 35
  · subst hc; rw [fT]
    have := iF cg l
    simp only [ag]; omega
  · rw [fH ha hc]; exact DD c l
def je (rest : List UInt8) (p : Nat × Nat) : Tok := ⟨(dp rest).1, rest.take (dp rest).2.1, (dp rest).2.2.1, p⟩
def fM : List UInt8 → Nat × Nat → LR
 | [], p => .ok [⟨0, [], 0, p⟩]
 | c :: l, p =>
  if hb : eP (c :: l) = 0 then
   if ht : (dp (c :: l)).2.2.2 = true then (fM ((c :: l).drop (dp (c :: l)).2.1) (adv ((c :: l).take (dp (c :: l)).2.1) p)).cons (je (c :: l) p)
   else .err p
  else fM ((c :: l).drop (eP (c :: l))) (adv ((c :: l).take (eP (c :: l))) p)
termination_by rest => rest.length
decreasing_by
 · have := la ht
   simp only [cF, ag]; omega
 · simp only [cF, ag]; omega
theorem lX (p : Nat × Nat) : fM [] p = .ok [⟨0, [], 0, p⟩] := by rw [fM]
theorem jv {rest : List UInt8} (h : eP rest ≠ 0) (p : Nat × Nat) : fM rest p = fM (rest.drop (eP rest)) (adv (rest.take (eP rest)) p) := by
 cases rest with
 | nil => exact absurd rfl h
 | cons c l => rw [fM, dif_neg h]
theorem lY {c : UInt8} {l : List UInt8} (h : eP (c :: l) = 0) (ht : (dp (c :: l)).2.2.2 = true) (p : Nat × Nat) : fM (c :: l) p = (fM ((c :: l).drop (dp (c :: l)).2.1) (adv ((c :: l).take (dp (c :: l)).2.1) p)).cons (je (c :: l) p) := by
 rw [fM, dif_pos h, dif_pos ht]
theorem nM {c : UInt8} {l : List UInt8} (h : eP (c :: l) = 0) (ht : (dp (c :: l)).2.2.2 = false) (p : Nat × Nat) : fM (c :: l) p = .err p := by
 rw [fM, dif_pos h, dif_neg (by rw [ht]; simp)]
theorem wS (rest : List UInt8) (p : Nat × Nat) : fM rest p = fM (fL rest p).1 (fL rest p).2 := by
 induction rest, p using fL.induct with
 | case1 rest p h => rw [fL, dif_pos h]
 | case2 rest p h ih =>
  have e : fL rest p = fL (rest.drop (eP rest)) (adv (rest.take (eP rest)) p) := by
   conv => lhs; rw [fL, dif_neg h]
  rw [jv h, ih, e]
theorem De {st : St} {N : Nat} (hN : st.stk.length = N) {f : Nat} {cells R : List PV} {x : PV} (h : ∀ X : St, N + 1 < X.stk.length → E L (.func f) [.ptr false (N + 1) 0] (X.af false (N + 1) cells) = some (x, X.af false (N + 1) R)) (b0 : Blk) (t : List (Nat × Nat)) (bl : List Blk) (tk : List (Nat × Nat)) (lp : List Aux) :
 E L (.func f) [.ptr false (N + 1) 0] (st.app (b0 :: ⟨cells, t⟩ :: bl) tk lp) = some (x, st.app (b0 :: ⟨R, t⟩ :: bl) tk lp) := by
 have hb : (st.app (b0 :: ⟨cells, t⟩ :: bl) tk lp).blk false (N + 1) = some cells := by rw [fE _ _ _ hN]; rfl
 have := h _ (EW hb); rw [DC hb, fF _ _ _ hN] at this; exact this
def az (ts : List Tok) : List (List PV) := ts.map Tok.c
theorem gu (ts : List Tok) : (az ts).length = ts.length := List.length_map ..
theorem jR (ts : List Tok) : dr 5 (az ts) = true := jJ Tok.c (fun _ => rfl) ts
theorem kA (a b : List Tok) : az (a ++ b) = az a ++ az b := List.map_append ..
def BX (st : St) (N T Lb : Nat) (rest : List UInt8) (p : Nat × Nat) (acc : List Tok) (c : Cap) (tk : List (Nat × Nat)) : Prop :=
 ∃ r y2 F R tk', itE (S46.b0 (E L) itE N Lb) [.sl [] .nil, .ptr false N 0, .sl (az acc) c, .ptr false (N + 1) 0] (st.app [⟨[.v (.int .i64 0), .v (.int .i64 0), .v (.int .i64 0)], []⟩, ⟨rdc rest p, []⟩] tk []) =
  some (.ret, [r, .ptr false N 0, y2, .ptr false (N + 1) 0], st.app [⟨F, []⟩, ⟨R, []⟩] tk' []) ∧
  (match fM rest p with
   | .ok ts => (∃ c', r = .sl (az (acc ++ ts)) c') ∧ F = [.v (.int .i64 0), .v (.int .i64 0), .v (.int .i64 0)]
   | .err q => r = .sl [] .nil ∧ F = [.v (.int .i64 3), .v (.int .i64 (q.1 : Int)), .v (.int .i64 (q.2 : Int))])
theorem C4 {st : St} {N T Lb : Nat} (hN : st.stk.length = N) (hT : st.tk.length = T) (hL : st.lp.length = Lb) : ∀ (k : Nat) (rest : List UInt8) (p : Nat × Nat) (acc : List Tok) (c : Cap) (tk : List (Nat × Nat)), rest.length = k → 1 ≤ p.2 → p.1 + rest.length < 2147483648 → p.2 + rest.length < 2147483648 → acc.length + rest.length < 1000000 → Own st tk c acc.length 5 →
 BX st N T Lb rest p acc c tk := by
 intro k
 induction k using Nat.strongRecOn with
 | ind k ih =>
  intro rest p acc c tk hk hp h1 h2 hac ho; have bb := xV rest p (M := 2147483648) hp h1 h2; have e17 := De (x := .tup []) hN (fun X hX => Gs (rest := rest) (p := p) hX hp (by omega) (by omega)) ⟨[.v (.int .i64 0), .v (.int .i64 0), .v (.int .i64 0)], []⟩ [] [] tk []; unfold BX; rw [wS]
  generalize fL rest p = q at *
  obtain ⟨rest', p'⟩ := q; obtain ⟨bp, b1, b2, bk, bl⟩ := bb; dsimp only at bp b1 b2 bk bl e17 ⊢
  cases rest' with
  | nil =>
   rw [lX]
   have hsf : ∀ m, c.sf true m = true := fun m => ho.sfc m
   obtain ⟨c', tk', ea, ho'⟩ := fj (ys := az [⟨0, [], 0, p'⟩]) (bytes := 48) (es := az acc) (by rw [gu]; exact ho) (by simp only [gu, cu, ag, aC]; omega) (jR _) (jR _) (by decide) (by decide); have ey : az [⟨0, [], 0, p'⟩] = [[.v (.int .i64 0), str [], .v (.int .u64 0), .v (.int .i64 (p'.1 : Int)), .v (.int .i64 (p'.2 : Int))]] := rfl; rw [ey] at ea; refine ⟨.sl (az (acc ++ [⟨0, [], 0, p'⟩])) c', .sl (az acc) c, _, rdc [] p', tk', ?_, ⟨⟨_, rfl⟩, rfl⟩⟩; apply eE; simp only [rdc] at e17; have hsf2 := ho'.sfc (s := st); simp [S46.b0, hN, hT, hL, rdc, e17, bm, cq, laid, aH, aF, iP, fZ, AM.cw, AM.ec, chunks, ea, kA, ey, hsf, hsf2, eI, dG]
  | cons a l =>
   have hsf : ∀ m, c.sf true m = true := fun m => ho.sfc m
   have e18 := De hN (fun X hX => Gt (c := a) (l := l) (p := p') hX bp (by omega) (by omega)) ⟨[.v (.int .i64 0), .v (.int .i64 0), .v (.int .i64 0)], []⟩ [] [] tk []; have hta : je (a :: l) p' = ⟨(dp (a :: l)).1, (a :: l).take (dp (a :: l)).2.1, (dp (a :: l)).2.2.1, p'⟩ := rfl; have ad := ke (oB a l) bp b1 b2; have hpos := la (c := a) (l := l); have hdl : ((a :: l).drop (dp (a :: l)).2.1).length = (a :: l).length - (dp (a :: l)).2.1 := cF ..; have hle := oB a l
   cases hok : (dp (a :: l)).2.2.2 with
   | false =>
    rw [nM bk hok]; rw [hok] at e18
    generalize dp (a :: l) = q at *
    generalize (a :: l).drop q.2.1 = r at *
    generalize (a :: l).take q.2.1 = t at *
    simp only [rdc, bw] at e17 e18; refine ⟨.sl [] .nil, .sl (az acc) c, [.v (.int .i64 3), .v (.int .i64 (p'.1 : Int)), .v (.int .i64 (p'.2 : Int))], rdc r (adv t p'), tk, ?_, ⟨rfl, rfl⟩⟩; apply eE; simp [S46.b0, hN, hT, hL, rdc, e17, e18, bm, cq, laid, aH, hsf, eI, dG]
   | true =>
    rw [lY bk hok]; rw [hok] at e18; have hpos := hpos hok
    generalize dp (a :: l) = q at *
    generalize (a :: l).drop q.2.1 = r at *
    generalize (a :: l).take q.2.1 = t at *
    obtain ⟨c', tk', ea, ho'⟩ := fj (ys := az [je (a :: l) p']) (bytes := 48) (es := az acc) (by rw [gu]; exact ho) (by simp only [gu, cu, ag, aC]; omega) (jR _) (jR _) (by decide) (by decide)
    have ey : az [je (a :: l) p'] = [[.v (.int .i64 (q.1 : Int)), str t, .v (.int .u64 (q.2.2.1 : Int)), .v (.int .i64 (p'.1 : Int)), .v (.int .i64 (p'.2 : Int))]] := by rw [hta]; rfl
    have hsf2 := ho'.sfc (s := st); have ihh := ih r.length (by omega) r (adv t p') (acc ++ [je (a :: l) p']) c' tk' rfl ad.1 ad.2.1 ad.2.2 (by simp only [ay, bC]; omega) (by rw [← kA, gu] at ho'; exact ho'); unfold BX at ihh; rw [kA] at ihh; rw [ey] at ihh ea; obtain ⟨r0, y2, F, R, tk2, hit, hres⟩ := ihh; refine ⟨r0, y2, F, R, tk2, ?_, ?_⟩
    · simp only [rdc, bw] at e17 e18
      rw [bP (vs' := [.sl [] .nil, .ptr false N 0, .sl (az acc ++ [[.v (.int .i64 (q.1 : Int)), str t, .v (.int .u64 (q.2.2.1 : Int)), .v (.int .i64 (p'.1 : Int)), .v (.int .i64 (p'.2 : Int))]]) c', .ptr false (N + 1) 0]) (st' := st.app [⟨[.v (.int .i64 0), .v (.int .i64 0), .v (.int .i64 0)], []⟩, ⟨rdc r (adv t p'), []⟩] tk' [])]
      · exact hit
      · simp [S46.b0, hN, hT, hL, rdc, e17, e18, bm, cq, laid, aH, aF, iP, fZ, AM.cw, AM.ec, chunks, ea, hsf, hsf2, eI, dG]
    · cases hl : fM r (adv t p') with
      | ok ts =>
       rw [hl] at hres; simp only [LR.cons]; refine ⟨?_, hres.2⟩; obtain ⟨c2, h2⟩ := hres.1; exact ⟨c2, by rw [h2]; simp⟩
      | err q =>
       rw [hl] at hres; simp only [LR.cons]; exact hres
def qP (l : List UInt8) : List Tok := if 8192 < l.length then [] else match fM l (1, 1) with | .ok ts => ts | .err _ => []
def lW (l : List UInt8) : Nat × Nat × Nat := if 8192 < l.length then (10, 1, 1) else match fM l (1, 1) with | .ok _ => (0, 0, 0) | .err q => (3, q.1, q.2)
abbrev AV (f : Nat × Nat × Nat) : List PV := [.v (.int .i64 (f.1 : Int)), .v (.int .i64 (f.2.1 : Int)), .v (.int .i64 (f.2.2 : Int))]
theorem Gr {l : List UInt8} (h : l.length < 1000000) (st : St) : E L (.func 46) [str l] st = some (.tup [.sl (az (qP l)) .dead, .agg (AV (lW l))], st) := by
 rw [GQ]; obtain ⟨N, T, Lb, hN, hT, hL⟩ := lens3 st
 conv => lhs; rw [← al (st)]
 by_cases hl : 8192 < l.length
 · have hl' : (8192 : Int) < (l.length : Int) := by omega
   simp [S46, hN, hT, hL, dH, hl', qP, lW, hl, bm, cq, laid, aH, az]
 · have hl' : ¬ ((8192 : Int) < (l.length : Int)) := by omega
   obtain ⟨r, y2, F, R, tk', hit, hres⟩ := C4 hN hT hL l.length l (1, 1) [] .nil [] rfl (by simp) (by simp; omega) (by simp; omega) (by simp; omega) (Own.nil _ _ _ _); simp only [az, bc, rdc, ab] at hit; unfold qP lW; rw [if_neg hl, if_neg hl]
   cases hx : fM l (1, 1) with
   | ok ts =>
    rw [hx] at hres; obtain ⟨⟨c', rfl⟩, rfl⟩ := hres; simp [S46, hN, hT, hL, dH, hl', hit, bm, cq, laid, aH, AV]
   | err q =>
    rw [hx] at hres; obtain ⟨rfl, rfl⟩ := hres; simp [S46, hN, hT, hL, dH, hl', hit, bm, cq, laid, aH, AV, az]
theorem my (c : UInt8) (st : St) : E L (.func 130) [.v (.int .u8 (c.toNat : Int))] st = some (.v (.bool (qO c)), st) := Ea _ st
theorem jU (c : UInt8) (st : St) : E L (.func 131) [.v (.int .u8 (c.toNat : Int))] st = some (.v (.bool (jY c)), st) := Eb _ st
theorem drop_cons {l : List UInt8} {i : Nat} (h : i < l.length) : l.drop i = l[i] :: l.drop (i + 1) := List.drop_eq_getElem_cons h
theorem Dz {l : List UInt8} (hlen : l.length < 4611686018427387904) {X : St} {N T Lb : Nat} (hN : X.stk.length = N) (hT : X.tk.length = T) (hL : X.lp.length = Lb) : ∀ (k i : Nat), l.length - i = k → i ≤ l.length →
 itE (S85.b0 (E L) itE N Lb) [str l, .v (.int .i64 (i : Int))] (X.app [] [] []) = some (.exit 0, [str l, .v (.int .i64 ((i + bB cg (l.drop i) : Nat) : Int))], X.app [] [] []) := by
 intro k
 induction k with
 | zero =>
  intro i hk hi
  obtain rfl : i = l.length := by omega
  apply fk; simp [S85.b0, hN, hT, hL, dH, bB]
 | succ k ih =>
  intro i hk hi
  have hlt : i < l.length := by omega
  have hlt' : (i : Int) < (l.length : Int) := by omega
  have hx := pZ (l := l) .i64 hlt; have w1 : IntKind.i64.wrap ((i : Int) + 1) = (i : Int) + 1 := IntWalk.i64_in _ (by omega); rw [drop_cons hlt, fG]
  generalize l[i] = c at *
  have ih := ih (i + 1) (by omega) (by omega)
  cases ha : qO c with
  | true =>
   rw [if_pos (by simp [cg, ha]), bP (vs' := [str l, .v (.int .i64 ((i + 1 : Nat) : Int))]) (st' := X.app [] [] [])]
   · rw [ih, show i + 1 + bB cg (l.drop (i + 1)) = i + (bB cg (l.drop (i + 1)) + 1) from by omega]
   · simp [S85.b0, hN, hT, hL, dH, hlt', hx, my, jU, ha, w1]
  | false =>
   cases hd : jY c with
   | true =>
    rw [if_pos (by simp [cg, ha, hd]), bP (vs' := [str l, .v (.int .i64 ((i + 1 : Nat) : Int))]) (st' := X.app [] [] [])]
    · rw [ih, show i + 1 + bB cg (l.drop (i + 1)) = i + (bB cg (l.drop (i + 1)) + 1) from by omega]
    · simp [S85.b0, hN, hT, hL, dH, hlt', hx, my, jU, ha, hd, w1]
   | false =>
    rw [if_neg (by simp [cg, ha, hd])]; apply fk; simp [S85.b0, hN, hT, hL, dH, hlt', hx, my, jU, ha, hd, w1]
theorem BV {l : List UInt8} {i : Nat} (hlen : l.length < 4611686018427387904) (hi : i ≤ l.length) (st : St) : E L (.func 85) [str l, .v (.int .i64 (i : Int))] st = some (.v (.int .i64 ((i + bB cg (l.drop i) : Nat) : Int)), st) := by
 rw [G6]; obtain ⟨N, T, Lb, hN, hT, hL⟩ := lens3 st
 conv => lhs; rw [← al (st)]
 have h := Dz hlen hN hT hL (l.length - i) i rfl hi; simp [S85, hN, hT, hL, h]
def ld (w : List UInt8) : List PV := [str w]
theorem yW (st : St) : E L (.func 132) [] st = some (.sl (iK.map ld) .dead, st) := by
 rw [EC]
 have e : HU (E L) itE st = (some (PV.sl (iK.map ld) .full)).bind fun p1 => fin st.stk.length st.tk.length st.lp.length [p1] st := by kernel_rfl
 rw [e, ah, E7]
theorem H9 {ws : List (List UInt8)} {i : Nat} {c : Cap} (k : IntKind) (h : i < ws.length) : bJ Tryz.prog 60 (.sl (ws.map ld) c) (.v (.int k (i : Int))) = some (.fp (ld ws[i]) 0) := by
 rw [CQ]
 have h1 : dv (i : Int) (ws.map ld).length = true := by simp [dv, h]
 rw [h1, cond_true, Int.toNat_natCast, List.getElem?_map, cP h]
 rfl
theorem wH {l : List UInt8} {ws : List (List UInt8)} (hlen : ws.length < 1000) {X : St} {N T Lb : Nat} (hN : X.stk.length = N) (hT : X.tk.length = T) (hL : X.lp.length = Lb) : ∀ (suf pre : List (List UInt8)), ws = pre ++ suf →
 ∃ e y z, itE (S88.b0 (E L) itE N Lb) [str l, .v (.bool false), .sl (ws.map ld) .dead, .v (.int .i64 (ws.length : Int)), .v (.int .i64 (pre.length : Int))] (X.app [] [] []) = some (e, [str l, y, .sl (ws.map ld) .dead, .v (.int .i64 (ws.length : Int)), z], X.app [] [] []) ∧
  (if suf.contains l then e = .ret ∧ y = .v (.bool true) else e = .exit 0) := by
 intro suf
 induction suf with
 | nil =>
  intro pre h
  have h : ws = pre := by simpa using h
  subst h; refine ⟨.exit 0, .v (.bool false), .v (.int .i64 (ws.length : Int)), ?_, rfl⟩; apply fk; simp [S88.b0, hN, hT, hL]
 | cons w suf ih =>
  intro pre h
  have h' : ws = (pre ++ [w]) ++ suf := by simp [h]
  have hlt : pre.length < ws.length := by rw [h]; simp
  have hg : ws[pre.length] = w := by simp [h]
  have hx := H9 (ws := ws) (c := .dead) .i64 hlt; rw [hg] at hx
  have hlt' : (pre.length : Int) < (ws.length : Int) := by omega
  have w1 : IntKind.i64.wrap ((pre.length : Int) + 1) = (pre.length : Int) + 1 := IntWalk.i64_in _ (by omega)
  by_cases hw : w = l
  · subst hw
    refine ⟨.ret, .v (.bool true), .v (.int .i64 (pre.length : Int)), ?_, by simp⟩; apply eE; simp [S88.b0, hN, hT, hL, hlt', hx, ld]
  · obtain ⟨e, y, z, h1, h2⟩ := ih (pre ++ [w]) h'
    refine ⟨e, y, z, ?_, ?_⟩
    · rw [bP (vs' := [str l, .v (.bool false), .sl (ws.map ld) .dead, .v (.int .i64 (ws.length : Int)), .v (.int .i64 ((pre ++ [w]).length : Int))]) (st' := X.app [] [] [])]
      · exact h1
      · simp [S88.b0, hN, hT, hL, hlt', hx, ld, hw, w1]
    · have : ((w :: suf).contains l) = suf.contains l := by
       rw [List.contains_cons]
       have : (l == w) = false := by simpa using fun h => hw h.symm
       rw [this, Bool.false_or]
      rw [this]; exact h2
theorem BW (l : List UInt8) (st : St) : E L (.func 88) [str l] st = some (.v (.bool (iJ l)), st) := by
 rw [G9]; obtain ⟨N, T, Lb, hN, hT, hL⟩ := lens3 st
 conv => lhs; rw [← al (st)]
 obtain ⟨e, y, z, h1, h2⟩ := wH (l := l) (ws := iK) (by decide) hN hT hL iK [] rfl; have hw : iK.contains l = iJ l := rfl; rw [hw] at h2
 have hln : ((iK.map ld).length : Int) = (iK.length : Int) := by rw [List.length_map]
 simp only [aC, eD] at h1
 cases hb : iJ l with
 | true =>
  rw [hb, if_pos rfl] at h2; obtain ⟨rfl, rfl⟩ := h2; simp [S88, hN, hT, hL, yW, qN, h1]
 | false =>
  rw [hb] at h2; simp only [ae, if_false] at h2; subst h2; simp [S88, hN, hT, hL, yW, qN, h1]
theorem wG {l : List UInt8} (hlen : l.length < 4611686018427387904) {X : St} {N T Lb : Nat} (hN : X.stk.length = N) (hT : X.tk.length = T) (hL : X.lp.length = Lb) : ∀ (k i : Nat), l.length - i = k → i ≤ l.length →
 ∃ z, itE (S89.b0 (E L) itE N Lb) [str l, .v (.bool false), .v (.int .i64 (i : Int))] (X.app [] [] []) = some (bif (l.drop i).all cg then .exit 0 else .ret, [str l, .v (.bool false), z], X.app [] [] []) := by
 intro k
 induction k with
 | zero =>
  intro i hk hi
  obtain rfl : i = l.length := by omega
  refine ⟨.v (.int .i64 (l.length : Int)), ?_⟩; rw [List.drop_length, bV, cond_true]; apply fk; simp [S89.b0, hN, hT, hL, dH]
 | succ k ih =>
  intro i hk hi
  have hlt : i < l.length := by omega
  have hlt' : (i : Int) < (l.length : Int) := by omega
  have hx := pZ (l := l) .i64 hlt; have w1 : IntKind.i64.wrap ((i : Int) + 1) = (i : Int) + 1 := IntWalk.i64_in _ (by omega); rw [drop_cons hlt, bu]
  generalize l[i] = c at *
  obtain ⟨z, ih⟩ := ih (i + 1) (by omega) (by omega)
  cases ha : qO c with
  | true =>
   refine ⟨z, ?_⟩; rw [show cg c = true by simp [cg, ha], bn, bP (vs' := [str l, .v (.bool false), .v (.int .i64 ((i + 1 : Nat) : Int))]) (st' := X.app [] [] [])]
   · exact ih
   · simp [S89.b0, hN, hT, hL, dH, hlt', hx, my, jU, ha, w1]
  | false =>
   cases hd : jY c with
   | true =>
    refine ⟨z, ?_⟩; rw [show cg c = true by simp [cg, hd], bn, bP (vs' := [str l, .v (.bool false), .v (.int .i64 ((i + 1 : Nat) : Int))]) (st' := X.app [] [] [])]
    · exact ih
    · simp [S89.b0, hN, hT, hL, dH, hlt', hx, my, jU, ha, hd, w1]
   | false =>
    refine ⟨.v (.int .i64 (i : Int)), ?_⟩; rw [show cg c = false by simp [cg, ha, hd], Bool.false_and, cond_false]; apply eE; simp [S89.b0, hN, hT, hL, dH, hlt', hx, my, jU, ha, hd, w1]
theorem Gw {l : List UInt8} (hlen : l.length < 4611686018427387904) (st : St) : E L (.func 89) [str l] st = some (.v (.bool (lq l)), st) := by
 rw [Ha]; obtain ⟨N, T, Lb, hN, hT, hL⟩ := lens3 st
 conv => lhs; rw [← al (st)]
 cases l with
 | nil => simp [S89, hN, hT, hL, lq]
 | cons c r =>
  obtain ⟨z, h⟩ := wG hlen hN hT hL (c :: r).length 0 rfl (dF _); simp only [aQ, eD] at h
  have hw : ∀ X, E L (.func 88) [str (c :: r)] X = some (.v (.bool (iJ (c :: r))), X) := BW _
  simp only [lq, nh]
  cases hwb : iJ (c :: r) with
  | true => simp [S89, hN, hT, hL, hw, hwb]
  | false =>
   cases hc : qO c with
   | false => simp [S89, hN, hT, hL, hw, hwb, lU, my, hc]
   | true =>
    have ha : cg c = true := by simp [cg, hc]
    rw [bu, ha, bn] at h; generalize r.all cg = q at h ⊢
    cases q with
    | true =>
     rw [cond_true] at h; simp [S89, hN, hT, hL, hw, hwb, lU, my, hc, h]
    | false =>
     rw [cond_false] at h; simp [S89, hN, hT, hL, hw, hwb, lU, my, hc, h]
def wh : List UInt8 → Nat → Option Nat
 | [], n => some n
 | c :: t, n => if jY c then wh t (10 * n + (c.toNat - 48)) else none
def whole (t : List UInt8) : Nat × Bool :=
 if 19 < t.length ∨ 1 < t.length ∧ t.head? = some 48 then (0, false) else match wh t 0 with
  | some n => (n, decide (n < 9223372036854775808))
  | none => (0, false)
theorem wv (c : UInt8) : jY c = true ↔ 48 ≤ c.toNat ∧ c.toNat ≤ 57 := by
 simp only [jY, sx, aq, decide_eq_true_eq]; omega
theorem yM {l : List UInt8} (hlen : l.length ≤ 19) {X : St} {N T Lb : Nat} (hN : X.stk.length = N) (hT : X.tk.length = T) (hL : X.lp.length = Lb) : ∀ (k i n : Nat), l.length - i = k → i ≤ l.length → n < 10 ^ i →
 ∃ m z, itE (S90.b0 (E L) itE N Lb) [str l, .v (.int .u64 0), .v (.bool false), .v (.int .u64 (n : Int)), .v (.int .i64 (i : Int))] (X.app [] [] []) = some (match wh (l.drop i) n with | some _ => .exit 0 | none => .ret, [str l, .v (.int .u64 0), .v (.bool false), .v (.int .u64 (m : Int)), z], X.app [] [] []) ∧
  (∀ v, wh (l.drop i) n = some v → m = v ∧ v < 10000000000000000000) := by
 intro k
 induction k with
 | zero =>
  intro i n hk hi hn
  obtain rfl : i = l.length := by omega
  have h19 : 10 ^ l.length ≤ 10 ^ 19 := Nat.pow_le_pow_right (by omega) hlen; refine ⟨n, .v (.int .i64 (l.length : Int)), ?_, ?_⟩
  · rw [List.drop_length]
    apply fk; simp [S90.b0, hN, hT, hL, dH]
  · rw [List.drop_length]
    intro v hv; obtain rfl := Option.some.inj hv; exact ⟨rfl, by omega⟩
 | succ k ih =>
  intro i n hk hi hn
  have hlt : i < l.length := by omega
  have hlt' : (i : Int) < (l.length : Int) := by omega
  have hx := pZ (l := l) .i64 hlt; have w1 : IntKind.i64.wrap ((i : Int) + 1) = (i : Int) + 1 := IntWalk.i64_in _ (by omega); have h19 : 10 ^ (i + 1) ≤ 10 ^ 19 := Nat.pow_le_pow_right (by omega) (by omega)
  have hp : 10 ^ (i + 1) = 10 * 10 ^ i := by rw [Nat.pow_succ, Nat.mul_comm]
  rw [drop_cons hlt]
  generalize l[i] = c at *
  have clt := c.toNat_lt; unfold wh
  cases hd : jY c with
  | true =>
   have hd' := (wv c).1 hd; rw [if_pos rfl]
   have hn' : 10 * n + (c.toNat - 48) < 10 ^ (i + 1) := by omega
   obtain ⟨m, z, h1, h2⟩ := ih (i + 1) (10 * n + (c.toNat - 48)) (by omega) (by omega) hn'; refine ⟨m, z, ?_, h2⟩; have wa : IntKind.u64.wrap (10 * (n : Int)) = 10 * (n : Int) := IntWalk.u64_in _ (by omega); have wb : IntKind.u8.wrap ((c.toNat : Int) - 48) = (c.toNat : Int) - 48 := IntWalk.u8_in _ (by omega); have wc : IntKind.u64.wrap ((c.toNat : Int) - 48) = (c.toNat : Int) - 48 := IntWalk.u64_in _ (by omega)
   have wd : IntKind.u64.wrap (10 * (n : Int) + ((c.toNat : Int) - 48)) = ((10 * n + (c.toNat - 48) : Nat) : Int) := by rw [IntWalk.u64_in _ (by omega)]; omega
   rw [bP (vs' := [str l, .v (.int .u64 0), .v (.bool false), .v (.int .u64 ((10 * n + (c.toNat - 48) : Nat) : Int)), .v (.int .i64 ((i + 1 : Nat) : Int))]) (st' := X.app [] [] [])]
   · exact h1
   · generalize 10 * n + (c.toNat - 48) = nn at wd ⊢
     simp [S90.b0, hN, hT, hL, dH, hlt', hx, jU, hd, w1, wa, wb, wc, wd, gq]
  | false =>
   rw [if_neg (by simp)]; refine ⟨n, .v (.int .i64 (i : Int)), ?_, by intro v hv; cases hv⟩; apply eE; simp [S90.b0, hN, hT, hL, dH, hlt', hx, jU, hd]
theorem Gx {t : List UInt8} (ht : t.length < 4611686018427387904) (st : St) : E L (.func 90) [str t] st = some (.tup [.v (.int .u64 ((whole t).1 : Int)), .v (.bool (whole t).2)], st) := by
 rw [Hb]; obtain ⟨N, T, Lb, hN, hT, hL⟩ := lens3 st
 conv => lhs; rw [← al (st)]
 unfold whole
 by_cases h19 : 19 < t.length
 · have h19' : (19 : Int) < (t.length : Int) := by omega
   simp [S90, hN, hT, hL, dH, h19', h19]
 · have h19' : ¬ ((19 : Int) < (t.length : Int)) := by omega
   obtain ⟨m, z, h1, h2⟩ := yM (l := t) (by omega) hN hT hL t.length 0 0 rfl (by omega) (by omega); simp only [eD, aQ] at h1 h2
   by_cases h1' : 1 < t.length ∧ t.head? = some 48
   · rw [if_pos (.inr h1')]
     cases t with
     | nil => simp at h1'
     | cons c r =>
      have hc : c = 48 := by simpa using h1'.2
      subst hc
      have hl1 : (1 : Int) < (((48 : UInt8) :: r).length : Int) := by omega
      have hix := lU 48 r .i64; simp only [show ((48 : UInt8).toNat : Int) = 48 from rfl] at hix
      generalize (48 : UInt8) :: r = t at *
      simp [S90, hN, hT, hL, dH, h19', hl1, hix]
   · rw [if_neg (by rw [not_or]; exact ⟨h19, h1'⟩)]
     have key : S90 (E L) itE (str t) (st.app [] [] []) = ((itE (S90.b0 (E L) itE N Lb) [str t, .v (.int .u64 0), .v (.bool false), .v (.int .u64 0), .v (.int .i64 0)] (st.app [] [] [])).bind fun r28 =>
      bH (Ex.ba 0 r28.1) ((aJ Tryz.prog true .lss 34 (AM.aa r28.2.1 3) (.v (.int .u64 9223372036854775808))).bind fun p51 => fin N T Lb [AM.aa r28.2.1 3, p51] r28.2.2) fun x50 => dw x50 (fin N T Lb [AM.aa r28.2.1 1, AM.aa r28.2.1 2] r28.2.2)) := by
      by_cases hl1 : (1 : Int) < (t.length : Int)
      · cases t with
        | nil => simp at hl1
        | cons c r =>
         have hc : ¬ ((c.toNat : Int) = 48) := fun e => h1' ⟨by omega, by rw [List.head?_cons, show c = 48 from UInt8.toNat_inj.1 (by simpa using Int.ofNat_inj.1 e)]⟩
         have hix := lU c r .i64
         generalize c :: r = t at *
         simp [S90, hN, hT, hL, dH, h19', hl1, hix, hc]
      · simp [S90, hN, hT, hL, dH, h19', hl1]
     rw [key]
     cases hw : wh t 0 with
     | none =>
      rw [hw] at h1; simp [hN, hT, hL, h1]
     | some v =>
      obtain ⟨rfl, hv⟩ := h2 v hw; rw [hw] at h1
      have hd : decide ((v : Int) < 9223372036854775808) = decide (v < 9223372036854775808) := by rw [decide_eq_decide]; omega
      simp [hN, hT, hL, h1, hd]
def bt : List UInt8 → Nat → Option Nat
 | [], n => some n
 | c :: t, n => if jY c then bt t ((16 * n + (c.toNat - 48)) % 18446744073709551616) else if 97 ≤ c.toNat ∧ c.toNat ≤ 102 then bt t ((16 * n + (c.toNat - 87)) % 18446744073709551616) else none
def nz (t : List UInt8) : Nat × Bool := match bt t 0 with
 | some n => (n, decide (t.length = 16))
 | none => (0, false)
theorem AF {l : List UInt8} (hlen : l.length < 4611686018427387904) {X : St} {N T Lb : Nat} (hN : X.stk.length = N) (hT : X.tk.length = T) (hL : X.lp.length = Lb) : ∀ (k i n : Nat), l.length - i = k → i ≤ l.length → n < 18446744073709551616 →
 ∃ (m : Nat) (z : PV), itE (S86.b0 (E L) itE N Lb) [str l, .v (.int .u64 0), .v (.bool false), .v (.int .u64 (n : Int)), .v (.int .i64 (i : Int))] (X.app [] [] []) = some (match bt (l.drop i) n with | some _ => .exit 0 | none => .ret, [str l, .v (.int .u64 0), .v (.bool false), .v (.int .u64 (m : Int)), z], X.app [] [] []) ∧
  (∀ v, bt (l.drop i) n = some v → m = v) := by
 intro k
 induction k with
 | zero =>
  intro i n hk hi hn
  obtain rfl : i = l.length := by omega
  refine ⟨n, .v (.int .i64 (l.length : Int)), ?_, ?_⟩
  · rw [List.drop_length]
    apply fk; simp [S86.b0, hN, hT, hL, dH]
  · rw [List.drop_length]
    intro v hv; exact Option.some.inj hv
 | succ k ih =>
  intro i n hk hi hn
  have hlt : i < l.length := by omega
  have hlt' : (i : Int) < (l.length : Int) := by omega
  have hx := pZ (l := l) .i64 hlt; have w1 : IntKind.i64.wrap ((i : Int) + 1) = (i : Int) + 1 := IntWalk.i64_in _ (by omega); rw [drop_cons hlt]
  generalize l[i] = c at *
  have clt := c.toNat_lt; unfold bt
  cases hd : jY c with
  | true =>
   have hd' := (wv c).1 hd; rw [if_pos rfl]; obtain ⟨m, z, h1, h2⟩ := ih (i + 1) ((16 * n + (c.toNat - 48)) % 18446744073709551616) (by omega) (by omega) (Nat.mod_lt _ (by omega)); refine ⟨m, z, ?_, h2⟩; have wb : IntKind.u8.wrap ((c.toNat : Int) - 48) = (c.toNat : Int) - 48 := IntWalk.u8_in _ (by omega); have wc : IntKind.u64.wrap ((c.toNat : Int) - 48) = (c.toNat : Int) - 48 := IntWalk.u64_in _ (by omega)
   have wd : IntKind.u64.wrap (IntKind.u64.wrap (16 * (n : Int)) + ((c.toNat : Int) - 48)) = (((16 * n + (c.toNat - 48)) % 18446744073709551616 : Nat) : Int) := by rw [lA, lA]; omega
   rw [bP (vs' := [str l, .v (.int .u64 0), .v (.bool false), .v (.int .u64 (((16 * n + (c.toNat - 48)) % 18446744073709551616 : Nat) : Int)), .v (.int .i64 ((i + 1 : Nat) : Int))]) (st' := X.app [] [] [])]
   · exact h1
   · generalize (16 * n + (c.toNat - 48)) % 18446744073709551616 = nn at wd ⊢
     simp [S86.b0, hN, hT, hL, dH, hlt', hx, jU, hd, w1, wb, wc, wd, gq]
  | false =>
   rw [if_neg (by simp)]
   by_cases hh : 97 ≤ c.toNat ∧ c.toNat ≤ 102
   · have j1 : (97 : Int) ≤ (c.toNat : Int) := by omega
     have j2 : (c.toNat : Int) ≤ 102 := by omega
     rw [if_pos hh]; obtain ⟨m, z, h1, h2⟩ := ih (i + 1) ((16 * n + (c.toNat - 87)) % 18446744073709551616) (by omega) (by omega) (Nat.mod_lt _ (by omega)); refine ⟨m, z, ?_, h2⟩; have wb : IntKind.u8.wrap ((c.toNat : Int) - 97) = (c.toNat : Int) - 97 := IntWalk.u8_in _ (by omega); have wc : IntKind.u64.wrap ((c.toNat : Int) - 97) = (c.toNat : Int) - 97 := IntWalk.u64_in _ (by omega)
     have wd : IntKind.u64.wrap (IntKind.u64.wrap (IntKind.u64.wrap (16 * (n : Int)) + ((c.toNat : Int) - 97)) + 10) = (((16 * n + (c.toNat - 87)) % 18446744073709551616 : Nat) : Int) := by rw [lA, lA, lA]; omega
     rw [bP (vs' := [str l, .v (.int .u64 0), .v (.bool false), .v (.int .u64 (((16 * n + (c.toNat - 87)) % 18446744073709551616 : Nat) : Int)), .v (.int .i64 ((i + 1 : Nat) : Int))]) (st' := X.app [] [] [])]
     · exact h1
     · generalize (16 * n + (c.toNat - 87)) % 18446744073709551616 = nn at wd ⊢
       simp [S86.b0, hN, hT, hL, dH, hlt', hx, jU, hd, w1, j1, j2, wb, wc, wd, gq]
   · rw [if_neg hh]
     refine ⟨n, .v (.int .i64 (i : Int)), ?_, by intro v hv; cases hv⟩; apply eE
     by_cases j1 : (97 : Int) ≤ (c.toNat : Int)
     · have j2 : ¬ ((c.toNat : Int) ≤ 102) := by omega
       simp [S86.b0, hN, hT, hL, dH, hlt', hx, jU, hd, j1, j2]
     · simp [S86.b0, hN, hT, hL, dH, hlt', hx, jU, hd, j1]
theorem Gu {t : List UInt8} (ht : t.length < 4611686018427387904) (st : St) : E L (.func 86) [str t] st = some (.tup [.v (.int .u64 ((nz t).1 : Int)), .v (.bool (nz t).2)], st) := by
 rw [G7]; obtain ⟨N, T, Lb, hN, hT, hL⟩ := lens3 st
 conv => lhs; rw [← al (st)]
 unfold nz; obtain ⟨m, z, h1, h2⟩ := AF (l := t) (by omega) hN hT hL t.length 0 0 rfl (by omega) (by omega); simp only [eD, aQ] at h1 h2
 cases hw : bt t 0 with
 | none =>
  rw [hw] at h1; simp [S86, hN, hT, hL, h1]
 | some v =>
  obtain rfl := h2 v hw; rw [hw] at h1
  have hd : decide ((t.length : Int) = 16) = decide (t.length = 16) := by rw [decide_eq_decide]; omega
  simp [S86, hN, hT, hL, h1, dH, hd]
def k9 : List (List UInt8) := [[61, 61], [33, 61], [60, 61], [123], [125], [40], [41], [91], [93], [59], [58], [44], [46], [61], [60], [43], [45], [42], [47], [37]]
def jO (rest : List UInt8) : List UInt8 := (k9.find? fun x => x.isPrefixOf rest).getD []
theorem Bv {l : List UInt8} {at_ : Nat} (hat : at_ ≤ l.length) (hlen : l.length < 4611686018427387904) {ws : List (List UInt8)} (hw : ws.length < 1000) (hws : ∀ w ∈ ws, w.length ≤ 2) {X : St} {N T Lb : Nat} (hN : X.stk.length = N) (hT : X.tk.length = T) (hL : X.lp.length = Lb) : ∀ (suf pre : List (List UInt8)), ws = pre ++ suf →
 ∃ e y z, itE (S87.b0 (E L) itE N Lb) [str l, .v (.int .i64 (at_ : Int)), str [], .sl (ws.map ld) .full, .v (.int .i64 (ws.length : Int)), .v (.int .i64 (pre.length : Int))] (X.app [] [] []) = some (e, [str l, .v (.int .i64 (at_ : Int)), y, .sl (ws.map ld) .full, .v (.int .i64 (ws.length : Int)), z], X.app [] [] []) ∧
  (match suf.find? (fun x => x.isPrefixOf (l.drop at_)) with | some x => e = .ret ∧ y = str x | none => e = .exit 0) := by
 intro suf
 induction suf with
 | nil =>
  intro pre h
  have h : ws = pre := by simpa using h
  subst h; refine ⟨.exit 0, str [], .v (.int .i64 (ws.length : Int)), ?_, rfl⟩; apply fk; simp [S87.b0, hN, hT, hL]
 | cons w suf ih =>
  intro pre h
  have h' : ws = (pre ++ [w]) ++ suf := by simp [h]
  have hlt : pre.length < ws.length := by rw [h]; simp
  have hg : ws[pre.length] = w := by simp [h]
  have hx := H9 (ws := ws) (c := .full) .i64 hlt; rw [hg] at hx; have hwl := hws w (by rw [h]; simp)
  have hlt' : (pre.length : Int) < (ws.length : Int) := by omega
  have w1 : IntKind.i64.wrap ((pre.length : Int) + 1) = (pre.length : Int) + 1 := IntWalk.i64_in _ (by omega)
  have w2 : IntKind.i64.wrap ((at_ : Int) + (w.length : Int)) = ((at_ + w.length : Nat) : Int) := by rw [IntWalk.i64_in _ (by omega)]; omega
  have step : w.isPrefixOf (l.drop at_) = false → ∃ e y z, itE (S87.b0 (E L) itE N Lb) [str l, .v (.int .i64 (at_ : Int)), str [], .sl (ws.map ld) .full, .v (.int .i64 (ws.length : Int)), .v (.int .i64 ((pre ++ [w]).length : Int))] (X.app [] [] []) = some (e, [str l, .v (.int .i64 (at_ : Int)), y, .sl (ws.map ld) .full, .v (.int .i64 (ws.length : Int)), z], X.app [] [] []) ∧
   (match (w :: suf).find? (fun x => x.isPrefixOf (l.drop at_)) with | some x => e = .ret ∧ y = str x | none => e = .exit 0) := by
   intro hp; obtain ⟨e, y, z, h1, h2⟩ := ih (pre ++ [w]) h'; exact ⟨e, y, z, h1, by rw [List.find?_cons, hp]; exact h2⟩
  by_cases hle : at_ + w.length ≤ l.length
  · have hle' : ((at_ + w.length : Nat) : Int) ≤ (l.length : Int) := by omega
    have hsl := Aj (l := l) .i64 .i64 (show at_ ≤ at_ + w.length by omega) hle
    have hpe : w.isPrefixOf (l.drop at_) = decide ((l.take (at_ + w.length)).drop at_ = w) := by
     rw [Bool.eq_iff_iff, List.isPrefixOf_iff_prefix, decide_eq_true_eq, List.prefix_iff_eq_take, List.drop_take, show at_ + w.length - at_ = w.length by omega]; exact eq_comm
    generalize (l.take (at_ + w.length)).drop at_ = pc at *
    generalize at_ + w.length = hi at *
    by_cases hp : pc = w
    · subst hp
      refine ⟨.ret, str pc, .v (.int .i64 (pre.length : Int)), ?_, ?_⟩
      · apply eE
        simp [S87.b0, hN, hT, hL, hlt', hx, ld, dH, w1, w2, hle', hsl]
      · rw [List.find?_cons, hpe, decide_eq_true rfl]; exact ⟨rfl, rfl⟩
    · obtain ⟨e, y, z, h1, h2⟩ := step (by rw [hpe]; exact decide_eq_false hp)
      refine ⟨e, y, z, ?_, h2⟩; rw [bP (vs' := [str l, .v (.int .i64 (at_ : Int)), str [], .sl (ws.map ld) .full, .v (.int .i64 (ws.length : Int)), .v (.int .i64 ((pre ++ [w]).length : Int))]) (st' := X.app [] [] [])]
      · exact h1
      · simp [S87.b0, hN, hT, hL, hlt', hx, ld, dH, w1, w2, hle', hsl, hp]
  · have hle' : ¬ (((at_ + w.length : Nat) : Int) ≤ (l.length : Int)) := by omega
    have hp : w.isPrefixOf (l.drop at_) = false := by
     rw [Bool.eq_false_iff]; intro hp; have := (List.isPrefixOf_iff_prefix.1 hp).length_le; rw [cF] at this; omega
    obtain ⟨e, y, z, h1, h2⟩ := step hp; refine ⟨e, y, z, ?_, h2⟩
    generalize at_ + w.length = hi at *
    rw [bP (vs' := [str l, .v (.int .i64 (at_ : Int)), str [], .sl (ws.map ld) .full, .v (.int .i64 (ws.length : Int)), .v (.int .i64 ((pre ++ [w]).length : Int))]) (st' := X.app [] [] [])]
    · exact h1
    · simp [S87.b0, hN, hT, hL, hlt', hx, ld, dH, w1, w2, hle']
theorem Gv {l : List UInt8} {i : Nat} (hi : i ≤ l.length) (hlen : l.length < 4611686018427387904) (st : St) : E L (.func 87) [str l, .v (.int .i64 (i : Int))] st = some (str (jO (l.drop i)), st) := by
 rw [G8]; obtain ⟨N, T, Lb, hN, hT, hL⟩ := lens3 st
 conv => lhs; rw [← al (st)]
 obtain ⟨e, y, z, h1, h2⟩ := Bv hi hlen (ws := k9) (by decide) (by decide) hN hT hL k9 [] rfl
 have key : S87 (E L) itE (str l) (.v (.int .i64 (i : Int))) (st.app [] [] []) = (some (PV.sl (k9.map ld) .full)).bind fun p1 => (eV Tryz.prog 60 p1).bind fun p2 => (itE (S87.b0 (E L) itE (st.app [] [] []).stk.length (st.app [] [] []).lp.length) [str l, .v (.int .i64 (i : Int)), str [], p1, p2, .v (.int .i64 0)] (st.app [] [] [])).bind fun r3 =>
  bH (Ex.ba 0 r3.1) (fin (st.app [] [] []).stk.length (st.app [] [] []).tk.length (st.app [] [] []).lp.length [str []] r3.2.2) fun x43 => dw x43 (fin (st.app [] [] []).stk.length (st.app [] [] []).tk.length (st.app [] [] []).lp.length [AM.aa r3.2.1 2] r3.2.2) := by kernel_rfl
 rw [key]
 have hln : ((k9.map ld).length : Int) = (k9.length : Int) := by rw [List.length_map]
 simp only [aC, eD] at h1; unfold jO; generalize k9.find? (fun x => x.isPrefixOf (l.drop i)) = q at h2 ⊢
 cases q with
 | none =>
  subst h2; simp [hN, hT, hL, qN, h1]
 | some x =>
  obtain ⟨rfl, rfl⟩ := h2; simp [hN, hT, hL, qN, h1]
theorem uG (rest : List UInt8) : jO rest = rest.take (jO rest).length := by
 unfold jO
 cases h : k9.find? (fun x => x.isPrefixOf rest) with
 | none => simp
 | some x =>
  have := List.find?_some h; have := List.prefix_iff_eq_take.1 (List.isPrefixOf_iff_prefix.1 this); exact this
def Be : List UInt8 → Option (Nat × Nat × Nat)
 | [] => none
 | c :: r =>
  if c = 35 then (if (nz (r.take (bB cg r))).2 then some (4, bB cg r + 1, (nz (r.take (bB cg r))).1) else none)
  else if bB cg (c :: r) = 0 then (if jO (c :: r) = [] then none else some (5, (jO (c :: r)).length, 0))
  else if iJ ((c :: r).take (bB cg (c :: r))) then some (2, bB cg (c :: r), 0)
  else if lq ((c :: r).take (bB cg (c :: r))) then some (1, bB cg (c :: r), 0)
  else if (whole ((c :: r).take (bB cg (c :: r)))).2 then some (3, bB cg (c :: r), (whole ((c :: r).take (bB cg (c :: r)))).1)
  else none
def Ab (rest : List UInt8) (i : Nat) : PV := match Be rest with
 | some (k, n, v) => .tup [.agg (bw k (rest.take n) v (0, 0)), .v (.int .i64 ((i + n : Nat) : Int))]
 | none => .tup [.agg (bw 0 [] 0 (0, 0)), .v (.int .i64 (i : Int))]
theorem BU {l : List UInt8} {i : Nat} (hi : i < l.length) (hlen : l.length < 2147483648) (st : St) : E L (.func 56) [str l, .v (.int .i64 (i : Int))] st = some (Ab (l.drop i) i, st) := by
 rw [GW]; obtain ⟨N, T, Lb, hN, hT, hL⟩ := lens3 st
 conv => lhs; rw [← al (st)]
 have hix := pZ (l := l) .i64 hi
 have w1 : IntKind.i64.wrap ((i : Int) + 1) = ((i + 1 : Nat) : Int) := by rw [IntWalk.i64_in _ (by omega)]; omega
 have e34 : ∀ X, E L (.func 85) [str l, .v (.int .i64 (i : Int))] X = some (.v (.int .i64 ((i + bB cg (l.drop i) : Nat) : Int)), X) := BV (by omega) (by omega)
 have e34' : ∀ X, E L (.func 85) [str l, .v (.int .i64 ((i + 1 : Nat) : Int))] X = some (.v (.int .i64 ((i + 1 + bB cg (l.drop (i + 1)) : Nat) : Int)), X) := BV (by omega) (by omega)
 have hdr := drop_cons hi; have sp := iF cg (l.drop i); have sp' := iF cg (l.drop (i + 1)); have hs1 := Aj (l := l) (lo := i) (hi := i + bB cg (l.drop i)) .i64 .i64 (by omega) (by simp only [cF] at sp; omega); have hs2 := Aj (l := l) (lo := i + 1) (hi := i + 1 + bB cg (l.drop (i + 1))) .i64 .i64 (by omega) (by simp only [cF] at sp'; omega); have hs3 := Aj (l := l) (lo := i) (hi := i + 1 + bB cg (l.drop (i + 1))) .i64 .i64 (by omega) (by simp only [cF] at sp'; omega)
 have tk : ∀ n, (l.take (i + n)).drop i = (l.drop i).take n := fun n => by rw [List.drop_take, show i + n - i = n by omega]
 have tk1 : ∀ n, (l.take (i + 1 + n)).drop (i + 1) = (l.drop (i + 1)).take n := fun n => by rw [List.drop_take, show i + 1 + n - (i + 1) = n by omega]
 rw [tk] at hs1; rw [tk1] at hs2; rw [show i + 1 + bB cg (l.drop (i + 1)) = i + (bB cg (l.drop (i + 1)) + 1) by omega, tk] at hs3; rw [show i + 1 + bB cg (l.drop (i + 1)) = i + (bB cg (l.drop (i + 1)) + 1) by omega] at hs2 e34'
 have e36 : ∀ X, E L (.func 87) [str l, .v (.int .i64 (i : Int))] X = some (str (jO (l.drop i)), X) := Gv (by omega) (by omega)
 have hpre := uG (l.drop i)
 have hsl : (jO (l.drop i)).length ≤ 2147483648 := by
  rw [hpre, List.length_take, cF]; omega
 unfold Ab; simp only [hdr] at e34
 rw [hdr] at *
 have hlr : (l.drop (i + 1)).length < 2147483648 := by rw [cF]; omega
 generalize l[i] = c at *
 generalize l.drop (i + 1) = r at *
 simp only [ag] at sp; clear tk tk1 hdr; rw [Be]
 by_cases hc : c = 35
 · subst hc
   rw [if_pos rfl]; simp only [show ((35 : UInt8).toNat : Int) = 35 from rfl] at hix
   have e35 : ∀ X, E L (.func 86) [str (r.take (bB cg r))] X = some (.tup [.v (.int .u64 ((nz (r.take (bB cg r))).1 : Int)), .v (.bool (nz (r.take (bB cg r))).2)], X) := Gu (by rw [List.length_take]; omega)
   simp only [av] at hs3; clear e34 hs1 e36 hpre hsl sp sp'
   generalize bB cg r = m at *
   generalize nz (r.take m) = q at *
   obtain ⟨v, ok⟩ := q
   generalize hj : i + (m + 1) = j at *
   generalize i + 1 = i1 at *
   cases ok with
   | true =>
    simp [S56, hN, hT, hL, hix, w1, e34', hs2, hs3, e35, bm, cq, laid, aH, bw]; omega
   | false => simp [S56, hN, hT, hL, hix, w1, e34', hs2, hs3, e35, bm, cq, laid, aH, bw]
 · rw [if_neg hc]
   have hc' : ¬ ((c.toNat : Int) = 35) := fun e => hc (UInt8.toNat_inj.1 (by simpa using Int.ofNat_inj.1 e))
   by_cases hz : bB cg (c :: r) = 0
   · rw [if_pos hz]
     rw [hz] at e34; simp only [bx] at e34
     by_cases hsg : jO (c :: r) = []
     · rw [if_pos hsg]
       rw [hsg] at e36; simp [S56, hN, hT, hL, hix, hc', e34, e36, bm, cq, laid, aH, bw]
     · rw [if_neg hsg]
       have w3 : IntKind.i64.wrap ((i : Int) + ((jO (c :: r)).length : Int)) = ((i + (jO (c :: r)).length : Nat) : Int) := by rw [IntWalk.i64_in _ (by omega)]; omega
       dsimp only; rw [← hpre]
       generalize jO (c :: r) = sg at *
       generalize i + sg.length = j at *
       simp [S56, hN, hT, hL, hix, hc', e34, e36, hsg, dH, w3, bm, cq, laid, aH, bw]
   · rw [if_neg hz]
     have hne : ¬ (((i + bB cg (c :: r) : Nat) : Int) = (i : Int)) := by omega
     have htl : ((c :: r).take (bB cg (c :: r))).length < 4611686018427387904 := by rw [List.length_take, ag]; omega
     have e16 := BW ((c :: r).take (bB cg (c :: r))); have e15 := Gw htl; have e37 := Gx htl; clear hpre hsl e36
     generalize bB cg (c :: r) = m at *
     generalize hj : i + m = j at *
     cases hw : iJ ((c :: r).take m) with
     | true =>
      simp [S56, hN, hT, hL, hix, hc', e34, hne, hs1, e16, hw, bm, cq, laid, aH, bw]; omega
     | false =>
      cases hn : lq ((c :: r).take m) with
      | true =>
       simp [S56, hN, hT, hL, hix, hc', e34, hne, hs1, e16, hw, e15, hn, bm, cq, laid, aH, bw]; omega
      | false =>
       generalize whole ((c :: r).take m) = q at *
       obtain ⟨v, ok⟩ := q
       cases ok with
       | true =>
        simp [S56, hN, hT, hL, hix, hc', e34, hne, hs1, e16, hw, e15, hn, e37, bm, cq, laid, aH, bw]; omega
       | false => simp [S56, hN, hT, hL, hix, hc', e34, hne, hs1, e16, hw, e15, hn, e37, bm, cq, laid, aH, bw]
end Go.Proofs.YtlhlijaondmccaaGreatDoor.S
namespace Go.Proofs.YtlhlijaondmccaaGreatDoor.S
open Go Go.AM Go.Proofs
theorem uZ {p : UInt8 → Prop} [DecidablePred p] (h : ∀ n, n < 256 → p (UInt8.ofNat n)) (c : UInt8) : p c := by
 have := h c.toNat c.toNat_lt
 rwa [UInt8.ofNat_toNat] at this
theorem wB (c : UInt8) (r : List UInt8) : ∀ xs : List UInt8, ((xs.map fun x => [x]).find? fun x => x.isPrefixOf (c :: r)) = if xs.contains c then some [c] else none
 | [] => rfl
 | x :: xs => by
  rw [aW, List.find?_cons, wB c r xs, List.contains_cons]
  by_cases h : x = c
  · subst h; simp [ed]
  · have h1 : (x == c) = false := by simpa using h
    have h2 : (c == x) = false := by simpa using fun e => h e.symm
    simp [ed, h1, h2]
theorem Bx : k9 = [61, 61] :: [33, 61] :: [60, 61] :: iQ.map fun x => [x] := rfl
theorem tn (c : UInt8) (r : List UInt8) : (jO (c :: r)).length = eR (c :: r) := by
 unfold jO; rw [Bx, List.find?_cons, List.find?_cons, List.find?_cons, wB]; unfold eR
 cases ([61, 61] : List UInt8).isPrefixOf (c :: r) with
 | true => rfl
 | false =>
  cases ([33, 61] : List UInt8).isPrefixOf (c :: r) with
  | true => rfl
  | false =>
   cases ([60, 61] : List UInt8).isPrefixOf (c :: r) with
   | true => rfl
   | false =>
    simp only [Bool.or_self, ae, if_false]
    cases iQ.contains c <;> rfl
theorem xo (c : UInt8) (r : List UInt8) : jO (c :: r) = [] ↔ eR (c :: r) = 0 := by
 rw [← tn, List.length_eq_zero_iff]
theorem pX (cs : List UInt8) : ∀ l : List UInt8, 0 ≤ Lib.indexAny l cs ↔ l.any cs.contains = true
 | [] => by simp [Lib.indexAny]
 | b :: l => by
  have ih := pX cs l; have hg := Lib.indexAny_ge cs l
  have e : Lib.indexAny (b :: l) cs = if cs.contains b = true then 0 else if Lib.indexAny l cs = -1 then -1 else Lib.indexAny l cs + 1 := by
   simp only [Lib.indexAny, beq_iff_eq]
  rw [e, List.any_cons]
  cases cs.contains b with
  | true => simp
  | false =>
   rw [if_neg (by simp), Bool.false_or, ← ih]
   by_cases h2 : Lib.indexAny l cs = -1
   · rw [if_pos h2, h2]
   · rw [if_neg h2]; omega
theorem rM (cs l : List UInt8) : Lib.containsAny l cs = l.any cs.contains := by
 rw [Lib.containsAny, Bool.eq_iff_iff, decide_eq_true_eq]; exact pX cs l
def tL (c : UInt8) : Bool := jY c || (decide (97 ≤ c.toNat) && decide (c.toNat ≤ 102))
theorem wD (c : UInt8) : tL c = true → kI c < 16 ∧ (jY c = true → kI c = c.toNat - 48) ∧ (jY c = false → kI c = c.toNat - 87 ∧ 97 ≤ c.toNat ∧ c.toNat ≤ 102) := by
 revert c; refine uZ ?_
 decide +kernel
theorem Cx (c : UInt8) : kI c < 16 → tL c = true ∨ ([65, 66, 67, 68, 69, 70] : List UInt8).contains c = true := by
 revert c; refine uZ ?_
 decide +kernel
theorem AX (c : UInt8) : tL c = true → ([65, 66, 67, 68, 69, 70] : List UInt8).contains c = false := by
 revert c; refine uZ ?_
 decide +kernel
theorem zr {c : UInt8} (h : tL c = true) (t : List UInt8) (n : Nat) : bt (c :: t) n = bt t ((16 * n + kI c) % 18446744073709551616) := by
 obtain ⟨_, h1, h2⟩ := wD c h; rw [bt]
 cases hd : jY c with
 | true => rw [if_pos rfl, h1 hd]
 | false =>
  obtain ⟨e, a, b⟩ := h2 hd; rw [if_neg (by simp), if_pos ⟨a, b⟩, e]
theorem zq : ∀ (t : List UInt8) (n : Nat), t.all tL = false → bt t n = none
 | [], n, h => by cases h
 | c :: t, n, h => by
  cases hc : tL c with
  | true =>
   rw [bu, hc, bn] at h; rw [zr hc, zq t _ h]
  | false =>
   simp only [tL, Bool.or_eq_false_iff] at hc
   have h2 : ¬ (97 ≤ c.toNat ∧ c.toNat ≤ 102) := by
    rintro ⟨a, b⟩
    have := hc.2; simp [a, b] at this
   rw [bt, if_neg (by rw [hc.1]; simp), if_neg h2]
theorem Ir {i : Nat} (h : i ≤ 15) : 16 ^ i ≤ 1152921504606846976 := by
 have : 16 ^ i ≤ 16 ^ 15 := Nat.pow_le_pow_right (by omega) h; omega
theorem zH : ∀ (t : List UInt8) (i n : Nat), t.length + i ≤ 16 → n < 16 ^ i → t.all tL = true → ∃ v, bt t n = some v ∧ pu 16 1152921504606846976 18446744073709551615 t n = (v, none)
 | [], i, n, _, _, _ => ⟨n, rfl, rfl⟩
 | c :: t, i, n, hl, hn, h => by
  rw [bu, aq] at h; simp only [ag] at hl; have hd := (wD c h.1).1; have h15 := Ir (i := i) (by omega)
  have hp : 16 ^ (i + 1) = 16 * 16 ^ i := by rw [Nat.pow_succ, Nat.mul_comm]
  obtain ⟨v, h1, h2⟩ := zH t (i + 1) (n * 16 + kI c) (by omega) (by omega) h.2; refine ⟨v, ?_, ?_⟩
  · rw [zr h.1, Nat.mod_eq_of_lt (by omega), Nat.mul_comm]; exact h1
  · rw [pu, if_neg (by omega), if_neg (by omega), if_neg (by omega)]; exact h2
theorem Af {B cut mx : Nat} : ∀ (t : List UInt8) (n : Nat), (pu B cut mx t n).2 = none → ∀ c ∈ t, kI c < B
 | [], n, _, c, hc => by cases hc
 | a :: t, n, h, c, hc => by
  rw [pu] at h; split at h
  · cases h
  · rename_i hB
    split at h
    · cases h
    · split at h
      · cases h
      · rcases List.mem_cons.1 hc with rfl | hc
        · omega
        · exact Af t _ h c hc
theorem Ds (t : List UInt8) : (nz t).2 = mT t ∧ (mT t = true → (nz t).1 = (qW t).1) := by
 unfold nz mT; rw [rM, List.any_cons, show ([65, 66, 67, 68, 69, 70] : List UInt8).contains 35 = false from rfl, Bool.false_or]
 by_cases hlen : t.length = 16
 · have hne : t ≠ [] := by rintro rfl; cases hlen
   have e : qW t = pu 16 1152921504606846976 18446744073709551615 t 0 := by rw [qW, puR, if_neg hne]
   cases hh : t.all tL with
   | true =>
    obtain ⟨v, h1, h2⟩ := zH t 0 0 (by omega) (by omega) hh
    have ha : t.any ([65, 66, 67, 68, 69, 70] : List UInt8).contains = false := by
     rw [List.any_eq_false]; intro c hc; rw [AX c (dK.1 hh c hc)]; simp
    rw [e, h1, h2, ha]; simp [hlen]
   | false =>
    rw [zq t 0 hh]
    have : ((qW t).2.isNone && decide (t.length = 16) && !t.any ([65, 66, 67, 68, 69, 70] : List UInt8).contains) = false := by
     cases hp : (qW t).2 with
     | some k => rfl
     | none =>
      rw [e] at hp; have hd := Af t 0 hp
      cases ha : t.any ([65, 66, 67, 68, 69, 70] : List UInt8).contains with
      | true => simp
      | false =>
       exfalso
       have : t.all tL = true := by
        rw [dK]; intro c hc
        rcases Cx c (hd c hc) with h | h
        · exact h
        · exact absurd h (List.any_eq_false.1 ha c hc)
       rw [this] at hh; cases hh
    rw [this]; simp
 · have h1 : decide (t.length = 16) = false := by simpa using hlen
   rw [h1]
   cases bt t 0 <;> simp
theorem pK (c : UInt8) : (jY c = true → kI c = c.toNat - 48 ∧ kI c < 10 ∧ 48 ≤ c.toNat ∧ UInt8.ofNat (48 + (c.toNat - 48)) = c) ∧ (jY c = false → 10 ≤ kI c) := by
 revert c; refine uZ ?_
 decide +kernel
theorem oC : ∀ (t : List UInt8) (n v : Nat), wh t n = some v → n ≤ v
 | [], n, v, h => by obtain rfl := Option.some.inj h; exact ao _
 | c :: t, n, v, h => by
  rw [wh] at h; split at h
  · have := oC t _ v h; omega
  · cases h
theorem uK (c : UInt8) : ∀ (t : List UInt8) (n : Nat), wh (t ++ [c]) n = (wh t n).bind fun m => if jY c then some (10 * m + (c.toNat - 48)) else none
 | [], n => by simp [wh]
 | a :: t, n => by
  rw [aD, wh, wh]; split
  · exact uK c t _
  · rfl
theorem Is : ∀ (t : List UInt8) (n : Nat), n ≤ 9223372036854775807 → ((pu 10 1844674407370955162 9223372036854775807 t n).2 = none ↔ ∃ v, wh t n = some v ∧ v ≤ 9223372036854775807) ∧ (∀ v, wh t n = some v → v ≤ 9223372036854775807 → (pu 10 1844674407370955162 9223372036854775807 t n).1 = v)
 | [], n, hn => by simp [pu, wh, hn]
 | c :: t, n, hn => by
  rw [pu, wh]
  cases hd : jY c with
  | false =>
   have := (pK c).2 hd; rw [if_pos this]; simp
  | true =>
   obtain ⟨e1, e2, e3, _⟩ := (pK c).1 hd; rw [if_neg (by omega), if_pos rfl]
   have e4 : 10 * n + (c.toNat - 48) = n * 10 + kI c := by omega
   rw [e4]
   by_cases h1 : 1844674407370955162 ≤ n
   · rw [if_pos h1]
     constructor
     · constructor
       · intro h; cases h
       · rintro ⟨v, h2, h3⟩
         have := oC t _ v h2; omega
     · intro v h2 h3
       have := oC t _ v h2; omega
   · rw [if_neg h1]
     by_cases h2 : 9223372036854775807 < n * 10 + kI c
     · rw [if_pos h2]
       constructor
       · constructor
         · intro h; cases h
         · rintro ⟨v, h3, h4⟩
           have := oC t _ v h3; omega
       · intro v h3 h4
         have := oC t _ v h3; omega
     · rw [if_neg h2]
       exact Is t _ (by omega)
theorem zu : ∀ (k u : Nat), u < 10 ^ (k + 1) → (Lib.decDigits u).length ≤ k + 1
 | 0, u, h => by
  rw [Lib.decDigits, dif_pos (by omega)]; simp
 | k + 1, u, h => by
  rw [Lib.decDigits]; split
  · simp
  · have hp : 10 ^ (k + 1 + 1) = 10 * 10 ^ (k + 1) := by rw [Nat.pow_succ, Nat.mul_comm]
    have := zu k (u / 10) (by omega); simp only [ay, bC]; omega
def Cr (t : List UInt8) : Prop := ¬ (1 < t.length ∧ t.head? = some 48)
theorem AQ : ∀ u : Nat, Cr (Lib.decDigits u) ∧ Lib.decDigits u ≠ [] ∧ (1 ≤ u → (Lib.decDigits u).head? ≠ some 48) := by
 intro u
 induction u using Nat.strongRecOn with
 | ind u ih =>
  rw [Lib.decDigits]; split
  · rename_i h
    refine ⟨by rintro ⟨h, _⟩; simp at h, by simp, fun h1 => ?_⟩; simp only [List.head?_cons, ne_eq, Option.some.injEq]; intro e
    have : (UInt8.ofNat (48 + u)).toNat = 48 := by rw [e]; rfl
    rw [UInt8.toNat_ofNat', Nat.mod_eq_of_lt (by omega)] at this; omega
  · rename_i h
    obtain ⟨h1, h2, h3⟩ := ih (u / 10) (by omega); have h4 := h3 (by omega)
    have hh : (Lib.decDigits (u / 10) ++ [UInt8.ofNat (48 + u % 10)]).head? = (Lib.decDigits (u / 10)).head? := by
     cases hq : Lib.decDigits (u / 10) with
     | nil => exact absurd hq h2
     | cons a b => rfl
    refine ⟨?_, by simp, fun _ => ?_⟩
    · rintro ⟨_, h5⟩
      rw [hh] at h5; exact h4 h5
    · rw [hh]; exact h4
theorem HL {t : List UInt8} (h0 : t ≠ []) (h : t.head? ≠ some 48) {m : Nat} (hw : wh t 0 = some m) : 1 ≤ m := by
 cases t with
 | nil => exact absurd rfl h0
 | cons c t =>
  rw [wh] at hw; split at hw
  · rename_i hd
    obtain ⟨_, _, h3, h4⟩ := (pK c).1 hd; have := oC t _ m hw
    have hc : c.toNat ≠ 48 := fun e => h (by rw [List.head?_cons, show c = 48 from UInt8.toNat_inj.1 e])
    omega
  · cases hw
theorem Hk : ∀ (k : Nat) (t : List UInt8), t.length = k → t ≠ [] → Cr t → ∀ v, wh t 0 = some v → Lib.decDigits v = t := by
 intro k
 induction k with
 | zero => intro t hl h0; exact absurd (List.length_eq_zero_iff.1 hl) h0
 | succ k ih =>
  intro t hl h0 hc v hv
  obtain ⟨s, c, rfl⟩ : ∃ s c, t = s ++ [c] := ⟨t.dropLast, t.getLast h0, (List.dropLast_concat_getLast h0).symm⟩
  rw [uK] at hv; obtain ⟨m, hm, hv⟩ := Option.bind_eq_some_iff.1 hv; split at hv
  · rename_i hd
    obtain ⟨e1, e2, e3, e4⟩ := (pK c).1 hd; obtain rfl := Option.some.inj hv
    by_cases hs : s = []
    · subst hs
      obtain rfl : m = 0 := (Option.some.inj hm).symm; rw [Lib.decDigits, dif_pos (by omega)]; simp only [Nat.mul_zero, bj, e4, bh]
    · have hsl : 0 < s.length := List.length_pos_iff.2 hs
      have hh : (s ++ [c]).head? = s.head? := by
       cases s with
       | nil => exact absurd rfl hs
       | cons a b => rfl
      have h48 : s.head? ≠ some 48 := fun e => hc ⟨by simp; omega, by rw [hh]; exact e⟩
      have hm1 := HL hs h48 hm; have := ih s (by simpa using hl) hs (fun h => h48 h.2) m hm; rw [Lib.decDigits, dif_neg (by omega), show (10 * m + (c.toNat - 48)) / 10 = m by omega, this, show (10 * m + (c.toNat - 48)) % 10 = c.toNat - 48 by omega, e4]
  · cases hv
theorem BQ {t : List UInt8} (h0 : t ≠ []) : (whole t).2 = ((pd t).2.isNone && decide (Lib.decDigits (pd t).1 = t)) ∧ ((whole t).2 = true → (whole t).1 = (pd t).1) := by
 have e : pd t = pu 10 1844674407370955162 9223372036854775807 t 0 := by rw [pd, puR, if_neg h0]
 obtain ⟨p1, p2⟩ := Is t 0 (by omega); rw [e]; unfold whole
 by_cases hc : 1 < t.length ∧ t.head? = some 48
 · rw [if_pos (.inr hc)]
   refine ⟨?_, by simp⟩
   have : ¬ (Lib.decDigits (pu 10 1844674407370955162 9223372036854775807 t 0).1 = t) := fun h => by
    have := (AQ (pu 10 1844674407370955162 9223372036854775807 t 0).1).1; rw [h] at this; exact this hc
   simp [this]
 · cases hq : (pu 10 1844674407370955162 9223372036854775807 t 0).2 with
   | some k =>
    have hn : ∀ v, wh t 0 = some v → ¬ v < 9223372036854775808 := fun v hv h => by
     have := p1.2 ⟨v, hv, by omega⟩
     rw [hq] at this; cases this
    by_cases h19 : 19 < t.length
    · rw [if_pos (.inl h19)]; simp
    · rw [if_neg (by rw [not_or]; exact ⟨h19, hc⟩)]
      cases hw : wh t 0 with
      | none => simp
      | some v => simp [hn v hw]
   | none =>
    obtain ⟨v, hv, hle⟩ := p1.1 hq; have hd := Hk t.length t rfl h0 hc v hv; rw [p2 v hv hle, hd]
    have hl : t.length ≤ 19 := by
     have := zu 18 v (by omega); rw [hd] at this; exact this
    rw [if_neg (by rw [not_or]; exact ⟨by omega, hc⟩), hv]
    have : v < 9223372036854775808 := by omega
    simp [this]
theorem Fy (c : UInt8) (r : List UInt8) : Be (c :: r) = if (dp (c :: r)).2.2.2 then some ((dp (c :: r)).1, (dp (c :: r)).2.1, (dp (c :: r)).2.2.1) else none := by
 rw [Be]
 by_cases hc : c = 35
 · subst hc
   rw [if_pos rfl, fT]; obtain ⟨h1, h2⟩ := Ds (r.take (bB cg r)); rw [h1]; dsimp only
   cases ho : mT (r.take (bB cg r)) with
   | true => rw [h2 ho]
   | false => rfl
 · rw [if_neg hc]
   cases ha : cg c with
   | true =>
    have hp := tp (l := r) ha; rw [if_neg (by omega), gC ha]
    have h0 : (c :: r).take (bB cg (c :: r)) ≠ [] := by
     intro h; have := congrArg gG h; rw [List.length_take] at this; simp only [ag, aC] at this; omega
    obtain ⟨h1, h2⟩ := BQ h0; dsimp only
    generalize (c :: r).take (bB cg (c :: r)) = t at *
    generalize bB cg (c :: r) = n at *
    unfold kc
    cases iJ t with
    | true => simp
    | false =>
     cases lq t with
     | true => simp
     | false =>
      simp only [ae, if_false]; rw [← h1]
      cases hw : (whole t).2 with
      | true => rw [if_pos rfl, h2 hw]; rfl
      | false => rfl
   | false =>
    have hz : bB cg (c :: r) = 0 := by rw [fG, if_neg (by rw [ha]; simp)]
    rw [if_pos hz, fH ha hc]; dsimp only
    by_cases hs : eR (c :: r) = 0
    · rw [if_pos ((xo c r).2 hs), hs]; rfl
    · rw [if_neg (fun h => hs ((xo c r).1 h)), tn]
      simp [hs]
end Go.Proofs.YtlhlijaondmccaaGreatDoor.S
namespace Go.Proofs.YtlhlijaondmccaaGreatDoor.S
open Go Go.AM Go.Proofs
attribute [local simp] cZ cy bX bY cz eI fu dX di dV de dW dh ft bZ hZ dR ib gU gN AM.aa aN aO ah bf aP aw AM.onG fR bH dw Ex.ba cond_true cond_false cV cU cT cS cR cX cQ cY cW dY dj dm cx da AM.du AM.cellsOf AM.an bQ beq_true dr ag aC bj bx bU decide_true decide_false bI bn br bD bg aB aA bh aD db dc fm av bE aY bR cC dQ dT cL eB eA set_set eG dB fI dC cI bK dA cH dz cG dy eF eH fE fF bO cv eu fD dZ aZ aT aI AM.aS ai dt bW aW bc aL aK AM.part aQ aM cc cn cm cr cr.eT AM.dM bu bV
theorem pz : ∀ (t : List UInt8) (p : Nat × Nat), (∀ c ∈ t, c ≠ 10) → adv t p = (p.1, p.2 + t.length)
 | [], p, _ => rfl
 | c :: t, p, h => by
  rw [adv, if_neg (h c (by simp)), pz t _ fun c hc => h c (by simp [hc])]; simp only [ag, Prod.mk.injEq, true_and]; omega
theorem tR {c : UInt8} (h : cg c = true) : c ≠ 10 := by
 rintro rfl; revert h; decide
theorem DU {c : UInt8} {r : List UInt8} (h : (dp (c :: r)).2.2.2 = true) : ∀ x ∈ (c :: r).take (dp (c :: r)).2.1, x ≠ 10 := by
 cases ha : cg c with
 | true =>
  rw [gC ha]; intro x hx; exact tR (ml cg _ x hx)
 | false =>
  by_cases hc : c = 35
  · subst hc
    rw [fT]; simp only [av]; intro x hx
    rcases List.mem_cons.1 hx with rfl | hx
    · decide
    · exact tR (ml cg _ x hx)
  · rw [fH ha hc]
    dsimp only; rw [← tn, ← uG]; unfold jO
    cases hf : k9.find? (fun x => x.isPrefixOf (c :: r)) with
    | none => simp
    | some w =>
     have hw := List.mem_of_find?_eq_some hf
     have key : ∀ w ∈ k9, ∀ x ∈ w, x ≠ 10 := by decide
     exact key w hw
theorem Bb (l : List UInt8) : ∀ x ∈ l.take (bB nlB l), x ≠ 10 := fun x hx => by
 have := ml nlB l x hx; simpa [nlB] using this
theorem AG {c : UInt8} {r : List UInt8} (h : eP (c :: r) ≠ 0) (p : Nat × Nat) : adv ((c :: r).take (eP (c :: r))) p = if c = 10 then (p.1 + 1, 1) else (p.1, p.2 + eP (c :: r)) := by
 rw [eP] at h ⊢; split
 · rename_i hp
   have hc : c = 47 := by
    simp only [ed, aq, beq_iff_eq] at hp; exact hp.1.symm
   rw [if_neg (by subst hc; decide), pz _ _ (Bb _), List.length_take, Nat.min_eq_left (iF _ _)]
 · rename_i hp
   rw [if_neg hp] at h; split
   · rw [av, aY]
     rfl
   · rename_i hb; rw [if_neg hb] at h; exact absurd rfl h
theorem ur {l : List UInt8} (hlen : l.length < 2147483648) {X : St} {N T Lb : Nat} (hN : X.stk.length = N) (hT : X.tk.length = T) (hL : X.lp.length = Lb) (y1 y2 y3 y4 y5 y6 y7 y8 y9 : PV) (tk : List (Nat × Nat)) : ∀ (k i : Nat), l.length - i = k → i ≤ l.length →
 itE (S26.b1 (E L) itE N Lb) [str l, y1, y2, y3, y4, y5, y6, y7, y8, y9, .v (.int .i64 (i : Int))] (X.app [] tk []) = some (.exit 2, [str l, y1, y2, y3, y4, y5, y6, y7, y8, y9, .v (.int .i64 ((i + bB nlB (l.drop i) : Nat) : Int))], X.app [] tk []) := by
 intro k
 induction k with
 | zero =>
  intro i hk hi
  obtain rfl : i = l.length := by omega
  apply fk; simp [S26.b1, hN, hT, hL, dH, bB]
 | succ k ih =>
  intro i hk hi
  have hlt : i < l.length := by omega
  have hlt' : (i : Int) < (l.length : Int) := by omega
  have hx := pZ (l := l) .i64 hlt; have w1 : IntKind.i64.wrap ((i : Int) + 1) = (i : Int) + 1 := IntWalk.i64_in _ (by omega); rw [drop_cons hlt, fG]
  generalize l[i] = c at *
  have ih := ih (i + 1) (by omega) (by omega); have e : ((c.toNat : Int) = 10) = (c = 10) := jS c 10 (by omega)
  by_cases hc : c = 10
  · rw [if_neg (by simp [nlB, hc])]
    apply fk; simp [S26.b1, hN, hT, hL, dH, hlt', hx, e, hc]
  · rw [if_pos (by simp [nlB, hc]), bP (vs' := [str l, y1, y2, y3, y4, y5, y6, y7, y8, y9, .v (.int .i64 ((i + 1 : Nat) : Int))]) (st' := X.app [] tk [])]
    · rw [ih, show i + 1 + bB nlB (l.drop (i + 1)) = i + (bB nlB (l.drop (i + 1)) + 1) from by omega]
    · simp [S26.b1, hN, hT, hL, dH, hlt', hx, e, hc, w1]
abbrev rV (l : List UInt8) (acc : List Tok) (c : Cap) (p : Nat × Nat) (i : PV) : List PV := [str l, .sl [] .nil, .v (.int .i64 0), .v (.int .i64 0), .v (.int .i64 0), .sl (az acc) c, .v (.int .i64 (p.1 : Int)), .v (.int .i64 (p.2 : Int)), i]
section
variable {l : List UInt8} {st : St} {N T Lb : Nat} (hN : st.stk.length = N) (hT : st.tk.length = T) (hL : st.lp.length = Lb) (hlen : l.length < 100000) {i : Nat} {p : Nat × Nat} {acc : List Tok} {c : Cap} {tk : List (Nat × Nat)} (hlt : i < l.length) (h1 : p.1 < 2147483648) (h2 : p.2 < 2147483648) (hsf : ∀ m, c.sf true m = true)
include hN hT hL hlen hlt h1 h2 hsf
theorem Bm (h4 : l[i] = 32 ∨ l[i] = 9 ∨ l[i] = 13 ∨ l[i] = 10) :
 S26.b0 (E L) itE N Lb (rV l acc c p (.v (.int .i64 (i : Int)))) (st.app [] tk []) = some (.normal, rV l acc c (if l[i] = 10 then (p.1 + 1, 1) else (p.1, p.2 + 1)) (.v (.int .i64 ((i + 1 : Nat) : Int))), st.app [] tk []) := by
 have hlt' : (i : Int) < (l.length : Int) := by omega
 have hix := pZ (l := l) .i64 hlt
 have w1 : IntKind.i64.wrap ((i : Int) + 1) = ((i + 1 : Nat) : Int) := by rw [IntWalk.i64_in _ (by omega)]; omega
 have wl : IntKind.i64.wrap ((p.1 : Int) + 1) = (p.1 : Int) + 1 := IntWalk.i64_in _ (by omega); have hw1 : IntKind.i64.wrap ((p.2 : Int) + ((i + 1 : Nat) : Int)) = (p.2 : Int) + ((i + 1 : Nat) : Int) := IntWalk.i64_in _ (by omega)
 have hw2 : IntKind.i64.wrap ((p.2 : Int) + ((i + 1 : Nat) : Int) - (i : Int)) = (p.2 : Int) + 1 := by rw [IntWalk.i64_in _ (by omega)]; omega
 generalize l[i] = a at hix h4 ⊢; generalize ((i + 1 : Nat) : Int) = j at w1 hw1 hw2 ⊢; unfold rV
 rcases h4 with rfl | rfl | rfl | rfl
 · simp only [show ((32 : UInt8).toNat : Int) = 32 from rfl] at hix
   simp [S26.b0, hN, hT, hL, dH, hlt', hix, w1, hw1, hw2, hsf, eI, dG]
 · simp only [show ((9 : UInt8).toNat : Int) = 9 from rfl] at hix
   simp [S26.b0, hN, hT, hL, dH, hlt', hix, w1, hw1, hw2, hsf, eI, dG]
 · simp only [show ((13 : UInt8).toNat : Int) = 13 from rfl] at hix
   simp [S26.b0, hN, hT, hL, dH, hlt', hix, w1, hw1, hw2, hsf, eI, dG]
 · simp only [show ((10 : UInt8).toNat : Int) = 10 from rfl] at hix
   simp [S26.b0, hN, hT, hL, dH, hlt', hix, w1, hw1, hw2, wl, hsf, eI, dG]
theorem Du (hpre : ([47, 47] : List UInt8).isPrefixOf (l[i] :: l.drop (i + 1)) = true) :
 S26.b0 (E L) itE N Lb (rV l acc c p (.v (.int .i64 (i : Int)))) (st.app [] tk []) = some (.normal, rV l acc c (p.1, p.2 + bB nlB (l.drop i)) (.v (.int .i64 ((i + bB nlB (l.drop i) : Nat) : Int))), st.app [] tk []) := by
 have hlt' : (i : Int) < (l.length : Int) := by omega
 have hix := pZ (l := l) .i64 hlt; have hsp := iF nlB (l.drop i); rw [cF] at hsp
 have w1 : IntKind.i64.wrap ((i : Int) + 1) = ((i + 1 : Nat) : Int) := by rw [IntWalk.i64_in _ (by omega)]; omega
 have hw1 : IntKind.i64.wrap ((p.2 : Int) + ((i + bB nlB (l.drop i) : Nat) : Int)) = (p.2 : Int) + ((i + bB nlB (l.drop i) : Nat) : Int) := IntWalk.i64_in _ (by omega)
 have hw2 : IntKind.i64.wrap ((p.2 : Int) + ((i + bB nlB (l.drop i) : Nat) : Int) - (i : Int)) = (p.2 : Int) + (bB nlB (l.drop i) : Int) := by rw [IntWalk.i64_in _ (by omega)]; omega
 have hpq := List.isPrefixOf_iff_prefix.1 hpre
 have hc : l[i] = 47 := by
  simp only [ed, aq, beq_iff_eq] at hpre; exact hpre.1.symm
 have hlt2 : i + 1 < l.length := by
  have := hpq.length_le; simp only [ag, cF, aC] at this; omega
 have hc2 : l[i + 1] = 47 := by
  rw [drop_cons hlt2] at hpre; simp only [ed, aq, beq_iff_eq] at hpre; exact hpre.2.1.symm
 have hix2 := pZ (l := l) .i64 hlt2
 have hlt2' : ((i + 1 : Nat) : Int) < (l.length : Int) := by omega
 rw [hc2] at hix2; rw [hc] at hix; simp only [show ((47 : UInt8).toNat : Int) = 47 from rfl] at hix hix2
 have hnl := fun y1 y2 y3 y4 y5 y6 y7 y8 y9 => ur (l := l) (by omega) hN hT hL y1 y2 y3 y4 y5 y6 y7 y8 y9 tk (l.length - i) i rfl (by omega)
 unfold rV; generalize bB nlB (l.drop i) = n at hw1 hw2 hnl ⊢; generalize ((i + 1 : Nat) : Int) = j at w1 hix2 hlt2'; generalize ((i + n : Nat) : Int) = jn at hw1 hw2 hnl ⊢; simp [S26.b0, hN, hT, hL, dH, hlt', hix, w1, hlt2', hix2, hnl, hw1, hw2, hsf, eI, dG]
theorem wY (hb : eP (l.drop i) = 0) : mD l[i] = false ∧ ∃ q : Bool, (decide ((l[i].toNat : Int) = 47) = true → ((decide (((i + 1 : Nat) : Int) < (l.length : Int)) = false) ∨ ∃ x : UInt8, cJ Tryz.prog 9 (str l) (.v (.int .i64 ((i + 1 : Nat) : Int))) = some (.v (.int .u8 (x.toNat : Int))) ∧ decide ((x.toNat : Int) = 47) = false)) := by
 rw [drop_cons hlt, eP] at hb
 have hpre : ([47, 47] : List UInt8).isPrefixOf (l[i] :: l.drop (i + 1)) = false := by
  cases hq : ([47, 47] : List UInt8).isPrefixOf (l[i] :: l.drop (i + 1)) with
  | false => rfl
  | true =>
   have := qg hq; rw [if_pos hq] at hb; omega
 refine ⟨?_, true, ?_⟩
 · cases hq : mD l[i] with
   | false => rfl
   | true => rw [if_neg (by rw [hpre]; simp), if_pos hq] at hb; cases hb
 · intro h47
   have hc : l[i] = 47 := (jS l[i] 47 (by omega)).mp (of_decide_eq_true h47)
   by_cases hlt2 : i + 1 < l.length
   · right
     refine ⟨l[i + 1], pZ .i64 hlt2, ?_⟩; rw [drop_cons hlt2, hc] at hpre
     have h2 : ¬ (l[i + 1] = 47) := fun e => by rw [e] at hpre; simp [ed] at hpre
     have := jS l[i + 1] 47 (by omega); simp only [decide_eq_false_iff_not]; intro e; exact h2 (this.mp e)
   · left
     simp only [decide_eq_false_iff_not]; omega
theorem FH (hb : eP (l.drop i) = 0) {k n v : Nat} (hk : k ≠ 0) (hn : n ≤ (l.drop i).length) (ho : Be (l.drop i) = some (k, n, v)) {c' : Cap} {tk' : List (Nat × Nat)}
 (ea : ∀ (bl : List Blk) (lp : List Aux) (base : Nat) (z : List PV), cj base z 5 48 (.sl (az acc) c) [bw k ((l.drop i).take n) v p] (st.app bl tk lp) = some (.sl (az acc ++ [bw k ((l.drop i).take n) v p]) c', st.app bl tk' lp)) (hsf2 : ∀ m, c'.sf true m = true) :
 S26.b0 (E L) itE N Lb (rV l acc c p (.v (.int .i64 (i : Int)))) (st.app [] tk []) = some (.normal, rV l (acc ++ [⟨k, (l.drop i).take n, v, p⟩]) c' (p.1, p.2 + n) (.v (.int .i64 ((i + n : Nat) : Int))), st.app [] tk' []) := by
 have hlt' : (i : Int) < (l.length : Int) := by omega
 have hix := pZ (l := l) .i64 hlt; rw [cF] at hn
 have w1 : IntKind.i64.wrap ((i : Int) + 1) = ((i + 1 : Nat) : Int) := by rw [IntWalk.i64_in _ (by omega)]; omega
 have hw1 : IntKind.i64.wrap ((p.2 : Int) + ((i + n : Nat) : Int)) = (p.2 : Int) + ((i + n : Nat) : Int) := IntWalk.i64_in _ (by omega)
 have hw2 : IntKind.i64.wrap ((p.2 : Int) + ((i + n : Nat) : Int) - (i : Int)) = (p.2 : Int) + (n : Int) := by rw [IntWalk.i64_in _ (by omega)]; omega
 obtain ⟨hbl, _, hq⟩ := wY hN hT hL hlen hlt h1 h2 hsf hb; have e19 := BU hlt (by omega); rw [Ab, ho] at e19; have hte : az (acc ++ [⟨k, (l.drop i).take n, v, p⟩]) = az acc ++ [bw k ((l.drop i).take n) v p] := kA _ _; unfold rV; rw [hte]
 have hk' : ¬ ((k : Int) = 0) := by omega
 have t32 : ¬ ((l[i].toNat : Int) = 32) := fun e => by rw [(jS _ 32 (by omega)).mp e] at hbl; cases hbl
 have t9 : ¬ ((l[i].toNat : Int) = 9) := fun e => by rw [(jS _ 9 (by omega)).mp e] at hbl; cases hbl
 have t10 : ¬ ((l[i].toNat : Int) = 10) := fun e => by rw [(jS _ 10 (by omega)).mp e] at hbl; cases hbl
 have t13 : ¬ ((l[i].toNat : Int) = 13) := fun e => by rw [(jS _ 13 (by omega)).mp e] at hbl; cases hbl
 dsimp only at e19; simp only [bw] at e19 ea ⊢; generalize (l.drop i).take n = t at e19 ea ⊢; generalize l[i] = a at hix hq t32 t9 t10 t13 ⊢; generalize ((i + 1 : Nat) : Int) = j at w1 hq; generalize ((i + n : Nat) : Int) = jn at hw1 hw2 e19 ⊢
 by_cases h47 : (a.toNat : Int) = 47
 · rcases hq (decide_eq_true h47) with h | ⟨x, hx, hx2⟩
   · simp only [decide_eq_false_iff_not] at h
     simp [S26.b0, hN, hT, hL, dH, hlt', hix, t32, t9, t10, t13, h47, w1, h, e19, hk, ea, hw1, hw2, hsf2, eI, dG, laid, aH, aF, iP, fZ, cq, AM.cw, AM.ec, chunks]
   · simp only [decide_eq_false_iff_not] at hx2
     by_cases h : j < (l.length : Int)
     · simp [S26.b0, hN, hT, hL, dH, hlt', hix, t32, t9, t10, t13, h47, w1, h, hx, hx2, e19, hk, ea, hw1, hw2, hsf2, eI, dG, laid, aH, aF, iP, fZ, cq, AM.cw, AM.ec, chunks]
     · simp [S26.b0, hN, hT, hL, dH, hlt', hix, t32, t9, t10, t13, h47, w1, h, e19, hk, ea, hw1, hw2, hsf2, eI, dG, laid, aH, aF, iP, fZ, cq, AM.cw, AM.ec, chunks]
 · simp [S26.b0, hN, hT, hL, dH, hlt', hix, t32, t9, t10, t13, h47, e19, hk, ea, hw1, hw2, hsf2, eI, dG, laid, aH, aF, iP, fZ, cq, AM.cw, AM.ec, chunks]
theorem FG (hb : eP (l.drop i) = 0) (ho : Be (l.drop i) = none) : ∃ z5 z6 z7 z8,
 S26.b0 (E L) itE N Lb (rV l acc c p (.v (.int .i64 (i : Int)))) (st.app [] tk []) = some (.ret, [str l, .sl [] .nil, .v (.int .i64 3), .v (.int .i64 (p.1 : Int)), .v (.int .i64 (p.2 : Int)), z5, z6, z7, z8], st.app [] tk []) := by
 have hlt' : (i : Int) < (l.length : Int) := by omega
 have hix := pZ (l := l) .i64 hlt
 have w1 : IntKind.i64.wrap ((i : Int) + 1) = ((i + 1 : Nat) : Int) := by rw [IntWalk.i64_in _ (by omega)]; omega
 obtain ⟨hbl, _, hq⟩ := wY hN hT hL hlen hlt h1 h2 hsf hb; have e19 := BU hlt (by omega); rw [Ab, ho] at e19; unfold rV
 have t32 : ¬ ((l[i].toNat : Int) = 32) := fun e => by rw [(jS _ 32 (by omega)).mp e] at hbl; cases hbl
 have t9 : ¬ ((l[i].toNat : Int) = 9) := fun e => by rw [(jS _ 9 (by omega)).mp e] at hbl; cases hbl
 have t10 : ¬ ((l[i].toNat : Int) = 10) := fun e => by rw [(jS _ 10 (by omega)).mp e] at hbl; cases hbl
 have t13 : ¬ ((l[i].toNat : Int) = 13) := fun e => by rw [(jS _ 13 (by omega)).mp e] at hbl; cases hbl
 dsimp only at e19; simp only [bw, eD] at e19; generalize l[i] = a at hix hq t32 t9 t10 t13 ⊢; generalize ((i + 1 : Nat) : Int) = j at w1 hq; refine ⟨.sl (az acc) c, .v (.int .i64 (p.1 : Int)), .v (.int .i64 (p.2 : Int)), .v (.int .i64 (i : Int)), ?_⟩
 by_cases h47 : (a.toNat : Int) = 47
 · rcases hq (decide_eq_true h47) with h | ⟨x, hx, hx2⟩
   · simp only [decide_eq_false_iff_not] at h
     simp [S26.b0, hN, hT, hL, dH, hlt', hix, t32, t9, t10, t13, h47, w1, h, e19, hsf, eI, dG, laid, aH]
   · simp only [decide_eq_false_iff_not] at hx2
     by_cases h : j < (l.length : Int)
     · simp [S26.b0, hN, hT, hL, dH, hlt', hix, t32, t9, t10, t13, h47, w1, h, hx, hx2, e19, hsf, eI, dG, laid, aH]
     · simp [S26.b0, hN, hT, hL, dH, hlt', hix, t32, t9, t10, t13, h47, w1, h, e19, hsf, eI, dG, laid, aH]
 · simp [S26.b0, hN, hT, hL, dH, hlt', hix, t32, t9, t10, t13, h47, e19, hsf, eI, dG, laid, aH]
end
def F2 (l : List UInt8) (st : St) (N Lb : Nat) (i : Nat) (p : Nat × Nat) (acc : List Tok) (c : Cap) (tk : List (Nat × Nat)) : Prop :=
 ∃ x z0 z1 z2 z3 z4 z5 z6 z7 z8 tk', itE (S26.b0 (E L) itE N Lb) [str l, .sl [] .nil, .v (.int .i64 0), .v (.int .i64 0), .v (.int .i64 0), .sl (az acc) c, .v (.int .i64 (p.1 : Int)), .v (.int .i64 (p.2 : Int)), .v (.int .i64 (i : Int))] (st.app [] tk []) =
  some (x, [z0, z1, z2, z3, z4, z5, z6, z7, z8], st.app [] tk' []) ∧
  (match fM (l.drop i) p with
   | .ok ts => x = .exit 0 ∧ ∃ ts' p' c', ts = ts' ++ [⟨0, [], 0, p'⟩] ∧ z5 = .sl (az (acc ++ ts')) c' ∧ z6 = .v (.int .i64 (p'.1 : Int)) ∧ z7 = .v (.int .i64 (p'.2 : Int)) ∧ Own st tk' c' (acc ++ ts').length 5 ∧ (acc ++ ts').length < 1000000
   | .err q => x = .ret ∧ z1 = .sl [] .nil ∧ z2 = .v (.int .i64 3) ∧ z3 = .v (.int .i64 (q.1 : Int)) ∧ z4 = .v (.int .i64 (q.2 : Int)))
theorem Dt {l : List UInt8} {st : St} {N T Lb : Nat} (hN : st.stk.length = N) (hT : st.tk.length = T) (hL : st.lp.length = Lb) (hlen : l.length < 100000) : ∀ (k i : Nat) (p : Nat × Nat) (acc : List Tok) (c : Cap) (tk : List (Nat × Nat)), l.length - i = k → i ≤ l.length → 1 ≤ p.2 → p.1 + k < 2147483648 → p.2 + k < 2147483648 → acc.length + k < 1000000 → Own st tk c acc.length 5 →
 F2 l st N Lb i p acc c tk := by
 intro k
 induction k using Nat.strongRecOn with
 | ind k ih =>
 intro i p acc c tk hk hi hp h1 h2 hac ho
 have hsf : ∀ m, c.sf true m = true := fun m => ho.sfc m
 by_cases hlt : i < l.length
 · have hlt' : (i : Int) < (l.length : Int) := by omega
   have hix := pZ (l := l) .i64 hlt; have hdr := drop_cons hlt
   have w1 : IntKind.i64.wrap ((i : Int) + 1) = ((i + 1 : Nat) : Int) := by rw [IntWalk.i64_in _ (by omega)]; omega
   have wl : IntKind.i64.wrap ((p.1 : Int) + 1) = ((p.1 + 1 : Nat) : Int) := by rw [IntWalk.i64_in _ (by omega)]; omega
   have hgo : ∀ n, i + n ≤ l.length → (l.drop i).drop n = l.drop (i + n) := fun n _ => by rw [List.drop_drop]
   have wn : ∀ n : Nat, i + n ≤ l.length → IntKind.i64.wrap ((p.2 : Int) + ((i + n : Nat) : Int)) = (p.2 : Int) + ((i + n : Nat) : Int) ∧ IntKind.i64.wrap ((p.2 : Int) + ((i + n : Nat) : Int) - (i : Int)) = ((p.2 + n : Nat) : Int) := fun n hn => ⟨IntWalk.i64_in _ (by omega), by rw [IntWalk.i64_in _ (by omega)]; omega⟩
   have e32 : ∀ x : UInt8, ((x.toNat : Int) = 32) = (x = 32) := fun x => jS x 32 (by omega)
   have e9 : ∀ x : UInt8, ((x.toNat : Int) = 9) = (x = 9) := fun x => jS x 9 (by omega)
   have e10 : ∀ x : UInt8, ((x.toNat : Int) = 10) = (x = 10) := fun x => jS x 10 (by omega)
   have e13 : ∀ x : UInt8, ((x.toNat : Int) = 13) = (x = 13) := fun x => jS x 13 (by omega)
   have e47 : ∀ x : UInt8, ((x.toNat : Int) = 47) = (x = 47) := fun x => jS x 47 (by omega)
   have go : ∀ (n : Nat) (p' : Nat × Nat), 0 < n → i + n ≤ l.length → 1 ≤ p'.2 → p'.1 ≤ p.1 + n → p'.2 ≤ p.2 + n → fM (l.drop i) p = fM (l.drop (i + n)) p' →
    S26.b0 (E L) itE N Lb [str l, .sl [] .nil, .v (.int .i64 0), .v (.int .i64 0), .v (.int .i64 0), .sl (az acc) c, .v (.int .i64 (p.1 : Int)), .v (.int .i64 (p.2 : Int)), .v (.int .i64 (i : Int))] (st.app [] tk []) =
     some (.normal, [str l, .sl [] .nil, .v (.int .i64 0), .v (.int .i64 0), .v (.int .i64 0), .sl (az acc) c, .v (.int .i64 (p'.1 : Int)), .v (.int .i64 (p'.2 : Int)), .v (.int .i64 ((i + n : Nat) : Int))], st.app [] tk []) →
    F2 l st N Lb i p acc c tk := by
    intro n p' hn hin hp1 hp2 hp3 hlex hstep; obtain ⟨x, z0, z1, z2, z3, z4, z5, z6, z7, z8, tk', hit, hres⟩ := ih (k - n) (by omega) (i + n) p' acc c tk (by omega) hin hp1 (by omega) (by omega) (by omega) ho; exact ⟨x, z0, z1, z2, z3, z4, z5, z6, z7, z8, tk', (bP hstep).trans hit, by rw [hlex]; exact hres⟩
   by_cases hb : eP (l.drop i) ≠ 0
   · have hbl := od (l.drop i)
     rw [cF] at hbl; have hlx := jv hb p; rw [List.drop_drop] at hlx
     have hpos : 0 < eP (l.drop i) := by omega
     have hw := wn (eP (l.drop i)) (by omega); have hnl := ur (l := l) (by omega) hN hT hL; rw [hdr] at hb hlx hbl; rw [AG hb, ← hdr] at hlx; refine go (eP (l.drop i)) (if l[i] = 10 then (p.1 + 1, 1) else (p.1, p.2 + eP (l.drop i))) hpos (by rw [hdr]; omega) ?_ ?_ ?_ hlx ?_
     · split
       · exact ao _
       · simp only; omega
     · split <;> simp only <;> omega
     · split <;> simp only <;> omega
     by_cases hpre : ([47, 47] : List UInt8).isPrefixOf (l[i] :: l.drop (i + 1)) = true
     · have hn : eP (l.drop i) = bB nlB (l.drop i) := by rw [hdr, eP, if_pos hpre]
       have hc : l[i] = 47 := by
        simp only [ed, aq, beq_iff_eq] at hpre; exact hpre.1.symm
       rw [if_neg (by rw [hc]; decide), hn]; exact Du hN hT hL hlen hlt (by omega) (by omega) hsf hpre
     · have hbl1 : mD l[i] = true := by
        cases hq : mD l[i] with
        | true => rfl
        | false => rw [eP, if_neg hpre, if_neg (by rw [hq]; simp)] at hb; exact absurd rfl hb
       have hn : eP (l.drop i) = 1 := by rw [hdr, eP, if_neg hpre, if_pos hbl1]
       rw [hn]; exact Bm hN hT hL hlen hlt (by omega) (by omega) hsf (by simpa [mD] using hbl1)
   · have hb0 : eP (l.drop i) = 0 := by
      cases h : eP (l.drop i) with
      | zero => rfl
      | succ n => exact absurd (by rw [h]; omega) hb
     have h1t := Fy l[i] (l.drop (i + 1)); have hle := oB l[i] (l.drop (i + 1)); rw [← hdr] at h1t hle
     cases hok : (dp (l.drop i)).2.2.2 with
     | false =>
      rw [hok, if_neg (by simp)] at h1t; obtain ⟨z5, z6, z7, z8, hs⟩ := FG (p := p) (acc := acc) (c := c) (tk := tk) hN hT hL hlen hlt (by omega) (by omega) hsf hb0 h1t
      have hlx : fM (l.drop i) p = .err p := by
       rw [hdr] at hb0 hok ⊢; exact nM hb0 hok p
      refine ⟨.ret, str l, .sl [] .nil, .v (.int .i64 3), .v (.int .i64 (p.1 : Int)), .v (.int .i64 (p.2 : Int)), z5, z6, z7, z8, tk, eE hs, ?_⟩; rw [hlx]; exact ⟨rfl, rfl, rfl, rfl, rfl⟩
     | true =>
      rw [hok, if_pos rfl] at h1t
      have hkind : (dp (l.drop i)).1 ≠ 0 := by
       rw [hdr]
       cases ha : cg l[i] with
       | true =>
        rw [gC ha]; unfold kc; split
        · simp
        · split <;> simp
       | false =>
        by_cases hc : l[i] = 35
        · rw [hc, fT]; simp
        · rw [fH ha hc]; simp
      have hpos : 0 < (dp (l.drop i)).2.1 := by
       rw [hdr] at hok ⊢; exact la hok
      have hno := DU (c := l[i]) (r := l.drop (i + 1)) (by rw [← hdr]; exact hok); rw [← hdr] at hno
      have hlx : fM (l.drop i) p = (fM (l.drop (i + (dp (l.drop i)).2.1)) (p.1, p.2 + (dp (l.drop i)).2.1)).cons (je (l.drop i) p) := by
       have := lY (c := l[i]) (l := l.drop (i + 1)) (by rw [← hdr]; exact hb0) (by rw [← hdr]; exact hok) p; rw [← hdr, pz _ _ hno, List.length_take, Nat.min_eq_left hle, List.drop_drop] at this; exact this
      have hta : je (l.drop i) p = ⟨(dp (l.drop i)).1, (l.drop i).take (dp (l.drop i)).2.1, (dp (l.drop i)).2.2.1, p⟩ := rfl; rw [cF] at hle; obtain ⟨c', tk', ea, ho'⟩ := fj (ys := az [je (l.drop i) p]) (bytes := 48) (es := az acc) (by rw [gu]; exact ho) (by simp only [gu, cu, ag, aC]; omega) (jR _) (jR _) (by decide) (by decide); have ey : az [je (l.drop i) p] = [bw (dp (l.drop i)).1 ((l.drop i).take (dp (l.drop i)).2.1) (dp (l.drop i)).2.2.1 p] := rfl; have ho2 := ho'; rw [← kA, gu] at ho2; rw [ey] at ea; have hs := FH (p := p) (acc := acc) (c := c) (tk := tk) hN hT hL hlen hlt (by omega) (by omega) hsf hb0 hkind (by rw [cF]; exact hle) h1t ea (fun m => ho'.sfc m); rw [← hta] at hs
      have q0 : l.length - (i + (dp (l.drop i)).2.1) = k - (dp (l.drop i)).2.1 := by omega
      have q1 : i + (dp (l.drop i)).2.1 ≤ l.length := by omega
      have q2 : 1 ≤ p.2 + (dp (l.drop i)).2.1 := by omega
      have q3 : p.1 + (k - (dp (l.drop i)).2.1) < 2147483648 := by omega
      have q4 : p.2 + (dp (l.drop i)).2.1 + (k - (dp (l.drop i)).2.1) < 2147483648 := by omega
      have q5 : (acc ++ [je (l.drop i) p]).length + (k - (dp (l.drop i)).2.1) < 1000000 := by rw [ay, bC]; omega
      have q6 : k - (dp (l.drop i)).2.1 < k := by omega
      obtain ⟨x, z0, z1, z2, z3, z4, z5, z6, z7, z8, tk2, hit, hres⟩ := ih (k - (dp (l.drop i)).2.1) q6 (i + (dp (l.drop i)).2.1) (p.1, p.2 + (dp (l.drop i)).2.1) (acc ++ [je (l.drop i) p]) c' tk' q0 q1 q2 q3 q4 q5 ho2; refine ⟨x, z0, z1, z2, z3, z4, z5, z6, z7, z8, tk2, (bP hs).trans hit, ?_⟩; rw [hlx]
      cases hl : fM (l.drop (i + (dp (l.drop i)).2.1)) (p.1, p.2 + (dp (l.drop i)).2.1) with
      | ok ts =>
       rw [hl] at hres; obtain ⟨hx, ts', p', c2, e1, e2, e3, e4, e5, e6⟩ := hres; exact ⟨hx, je (l.drop i) p :: ts', p', c2, by rw [e1]; rfl, by rw [e2]; simp, e3, e4, by simpa using e5, by simpa using e6⟩
      | err q =>
       rw [hl] at hres; exact hres
 · obtain rfl : i = l.length := by omega
   refine ⟨.exit 0, str l, .sl [] .nil, .v (.int .i64 0), .v (.int .i64 0), .v (.int .i64 0), .sl (az acc) c, .v (.int .i64 (p.1 : Int)), .v (.int .i64 (p.2 : Int)), .v (.int .i64 (l.length : Int)), tk, ?_, ?_⟩
   · apply fk
     simp [S26.b0, hN, hT, hL, dH, hsf, eI, dG]
   · rw [List.drop_length, lX]
     exact ⟨rfl, [], p, c, rfl, by rw [List.append_nil], rfl, rfl, by rw [List.append_nil]; exact ho, by rw [List.append_nil]; omega⟩
theorem Gn {l : List UInt8} (h : l.length < 100000) (st : St) : E L (.func 26) [str l] st = some (.tup [.sl (az (qP l)) .dead, .v (.int .i64 ((lW l).1 : Int)), .v (.int .i64 ((lW l).2.1 : Int)), .v (.int .i64 ((lW l).2.2 : Int))], st) := by
 rw [GP]; obtain ⟨N, T, Lb, hN, hT, hL⟩ := lens3 st
 conv => lhs; rw [← al (st)]
 by_cases hl : 8192 < l.length
 · have hl' : (8192 : Int) < (l.length : Int) := by omega
   simp [S26, hN, hT, hL, dH, hl', qP, lW, hl, az]
 · have hl' : ¬ ((8192 : Int) < (l.length : Int)) := by omega
   obtain ⟨x, z0, z1, z2, z3, z4, z5, z6, z7, z8, tk', hit, hres⟩ := Dt hN hT hL h l.length 0 (1, 1) [] .nil [] rfl (by omega) (by simp) (by simp; omega) (by simp; omega) (by simp; omega) (Own.nil _ _ _ _); simp only [az, bc, ab, eD, aQ] at hit hres; unfold qP lW; rw [if_neg hl, if_neg hl]
   cases hx : fM l (1, 1) with
   | ok ts =>
    rw [hx] at hres; obtain ⟨rfl, ts', p', c', rfl, rfl, rfl, rfl, ho, hlen⟩ := hres; obtain ⟨c2, tk2, ea, _⟩ := fj (ys := az [⟨0, [], 0, p'⟩]) (bytes := 48) (es := az ([] ++ ts')) (by rw [gu]; exact ho) (by simp only [gu, cu, ag, aC]; omega) (jR _) (jR _) (by decide) (by decide); have ey : az [⟨0, [], 0, p'⟩] = [[.v (.int .i64 0), str [], .v (.int .u64 0), .v (.int .i64 (p'.1 : Int)), .v (.int .i64 (p'.2 : Int))]] := rfl; rw [ey] at ea; simp only [bh] at ea hit; dsimp only; rw [kA, ey]; have et : List.map Tok.c ts' = az ts' := rfl; rw [et] at hit; simp [S26, hN, hT, hL, dH, hl', hit, bm, cq, laid, aH, aF, iP, fZ, AM.cw, AM.ec, chunks, ea]
   | err q =>
    rw [hx] at hres; obtain ⟨rfl, rfl, rfl, rfl, rfl⟩ := hres; simp [S26, hN, hT, hL, dH, hl', hit, az]
end Go.Proofs.YtlhlijaondmccaaGreatDoor.S
namespace Go.Proofs.YtlhlijaondmccaaGreatDoor.S
open Go Go.AM Go.Proofs
theorem Co {c : UInt8} : mD c = true ↔ c = 32 ∨ c = 9 ∨ c = 13 ∨ c = 10 := by simp [mD]
theorem vc {c : UInt8} (h : mD c = true) : cg c = false ∧ c ≠ 35 ∧ c ≠ 47 ∧ c ≠ 61 := by
 rcases Co.1 h with rfl | rfl | rfl | rfl <;> decide
theorem tq {q : UInt8 → Bool} {c : UInt8} (hc : q c = false) : ∀ (l R : List UInt8), bB q (l ++ c :: R) = bB q l
 | [], R => by rw [bh, fG, if_neg (by rw [hc]; simp)]; rfl
 | a :: l, R => by rw [aD, fG, fG, tq hc l R]
theorem xz {l R : List UInt8} {n : Nat} (c : UInt8) (h : n ≤ l.length) : (l ++ c :: R).take n = l.take n := List.take_append_of_le_length h
theorem qj {x y a : UInt8} {l R : List UInt8} {c : UInt8} (hc : c ≠ y) : ([x, y] : List UInt8).isPrefixOf (a :: l ++ c :: R) = ([x, y] : List UInt8).isPrefixOf (a :: l) := by
 cases l with
 | nil => simp [ed, hc.symm]
 | cons b l => simp [ed]
theorem Bw {a c : UInt8} {l R : List UInt8} (hc : c ≠ 61) : eR (a :: l ++ c :: R) = eR (a :: l) := by
 unfold eR; rw [qj hc, qj hc, qj hc]
 rfl
theorem DT {a c : UInt8} {l R : List UInt8} (hc : mD c = true) : dp (a :: l ++ c :: R) = dp (a :: l) := by
 obtain ⟨h1, h2, h3, h4⟩ := vc hc
 cases ha : cg a with
 | true =>
  rw [aD, gC ha, gC ha, ← aD, tq h1, xz _ (iF _ _)]
 | false =>
  by_cases hq : a = 35
  · subst hq
    rw [aD, fT, fT, tq h1, xz _ (iF _ _)]
  · rw [aD, fH ha hq, fH ha hq, ← aD, Bw h4]
theorem Cn {a c : UInt8} {l R : List UInt8} (hc : mD c = true) (h : eP (a :: l) = 0) : eP (a :: l ++ c :: R) = 0 := by
 obtain ⟨h1, h2, h3, h4⟩ := vc hc; have hp := qj (x := 47) (a := a) (l := l) (R := R) h3; rw [aD] at hp ⊢; rw [eP] at h ⊢; rw [hp]; split at h
 · rename_i hn
   rw [if_pos hn]; have := qg hn; omega
 · rename_i hn
   rw [if_neg hn]; exact h
theorem qZ {q : UInt8 → Bool} : ∀ (l : List UInt8), bB q (l.take (bB q l)) = bB q l
 | [] => rfl
 | a :: l => by
  rw [fG]; split
  · rename_i h
    rw [av, fG, if_pos h, qZ l]
  · rfl
theorem nY {α : Type} (l : List α) (n : Nat) : (l.take n).take n = l.take n := by rw [List.take_take, Nat.min_self]
theorem ou {x y : UInt8} {l : List UInt8} (h : ([x, y] : List UInt8).isPrefixOf l = true) : ∃ r, l = x :: y :: r := by
 obtain ⟨r, hr⟩ := List.isPrefixOf_iff_prefix.1 h; exact ⟨r, hr.symm⟩
theorem sY {x y a : UInt8} : ([x, y] : List UInt8).isPrefixOf [a] = false := by simp [ed]
theorem yD {a : UInt8} {l : List UInt8} (h : eR (a :: l) ≠ 0) : eR ((a :: l).take (eR (a :: l))) = eR (a :: l) := by
 by_cases hp : (([61, 61] : List UInt8).isPrefixOf (a :: l) || ([33, 61] : List UInt8).isPrefixOf (a :: l) || ([60, 61] : List UInt8).isPrefixOf (a :: l)) = true
 · have e : eR (a :: l) = 2 := by rw [eR, if_pos hp]
   rw [e]; simp only [Bool.or_eq_true] at hp
   rcases hp with (hp | hp) | hp <;>
   · obtain ⟨r, hr⟩ := ou hp
     rw [hr]; simp [eR, ed]
 · have e : eR (a :: l) = if iQ.contains a then 1 else 0 := by rw [eR, if_neg hp]
   by_cases hs : iQ.contains a = true
   · rw [if_pos hs] at e
     rw [e, av, aY, eR, sY, sY, sY]; simpa using hs
   · rw [if_neg hs] at e
     exact absurd e h
theorem BO {a : UInt8} {l : List UInt8} (h : (dp (a :: l)).2.2.2 = true) : dp ((a :: l).take (dp (a :: l)).2.1) = dp (a :: l) := by
 cases ha : cg a with
 | true =>
  have hs := tp (l := l) ha
  have e : (dp (a :: l)).2.1 = bB cg (a :: l) := by rw [gC ha]
  obtain ⟨n, hn⟩ : ∃ n, bB cg (a :: l) = n + 1 := ⟨bB cg (a :: l) - 1, by omega⟩
  have ht : (a :: l).take (bB cg (a :: l)) = a :: l.take n := by rw [hn, av]
  have hsp := qZ (q := cg) (a :: l); have htt := nY (a :: l) (bB cg (a :: l)); rw [ht] at hsp htt; rw [e, ht, gC ha, gC ha, hsp, htt, ht]
 | false =>
  by_cases hq : a = 35
  · subst hq
    have e : (dp (35 :: l)).2.1 = bB cg l + 1 := by rw [fT]
    rw [e, av, fT, fT, qZ, nY]
  · have e : (dp (a :: l)).2.1 = eR (a :: l) := by rw [fH ha hq]
    have h0 : eR (a :: l) ≠ 0 := by
     rw [fH ha hq] at h; simpa using h
    have hs := yD h0
    obtain ⟨n, hn⟩ : ∃ n, eR (a :: l) = n + 1 := ⟨eR (a :: l) - 1, by omega⟩
    have ht : (a :: l).take (eR (a :: l)) = a :: l.take n := by rw [hn, av]
    rw [ht] at hs; rw [e, ht, fH ha hq, fH ha hq, hs]
theorem AH {a : UInt8} {l : List UInt8} {n : Nat} (h : eP (a :: l) = 0) : eP (a :: l.take n) = 0 := by
 have hne : ¬ (([47, 47] : List UInt8).isPrefixOf (a :: l) = true) := fun hn => by
  rw [eP, if_pos hn] at h; have := qg hn; omega
 rw [eP, if_neg hne] at h; rw [eP, if_neg ?_]
 · exact h
 · intro hn
   obtain ⟨r, hr⟩ := ou hn; apply hne
   cases l with
   | nil => simp at hr
   | cons b l =>
    cases n with
    | zero => simp at hr
    | succ n =>
     rw [av] at hr; obtain ⟨rfl, h2⟩ := List.cons.inj hr; obtain ⟨rfl, h3⟩ := List.cons.inj h2; simp [ed]
structure Tk (t : Tok) : Prop where
 ex : ∃ a l, t.text = a :: l ∧ eP (a :: l) = 0 ∧ dp (a :: l) = (t.kind, (a :: l).length, t.n, true)
theorem Iw {a : UInt8} {l : List UInt8} (hb : eP (a :: l) = 0) (h : (dp (a :: l)).2.2.2 = true) (p : Nat × Nat) : Tk (je (a :: l) p) := by
 have hpos := la h
 obtain ⟨n, hn⟩ : ∃ n, (dp (a :: l)).2.1 = n + 1 := ⟨(dp (a :: l)).2.1 - 1, by omega⟩
 have hle := oB a l; have ht := BO h; refine ⟨a, l.take n, by unfold je; rw [hn, av], AH hb, ?_⟩; rw [hn, av] at ht
 have hlen : (a :: l.take n).length = (dp (a :: l)).2.1 := by
  rw [hn]; simp only [ag, List.length_take] at hle ⊢; omega
 rw [ht, hlen]; unfold je; rw [← h]
theorem sL : ∀ (k : Nat) (rest : List UInt8) (p : Nat × Nat), rest.length = k → ∀ ts, fM rest p = .ok ts → ∃ t0, (∀ t ∈ t0, Tk t) ∧ ts = t0 ++ [⟨0, [], 0, adv rest p⟩] := by
 intro k
 induction k using Nat.strongRecOn with
 | ind k ih =>
  intro rest p hk ts h
  cases rest with
  | nil =>
   rw [lX] at h; obtain rfl := LR.ok.inj h; exact ⟨[], by simp, rfl⟩
  | cons c l =>
   by_cases hb : eP (c :: l) = 0
   · cases ht : (dp (c :: l)).2.2.2 with
     | false => rw [nM hb ht] at h; cases h
     | true =>
      rw [lY hb ht] at h; have hpos := la ht; have hdl : ((c :: l).drop (dp (c :: l)).2.1).length = (c :: l).length - (dp (c :: l)).2.1 := cF ..
      cases hr : fM ((c :: l).drop (dp (c :: l)).2.1) (adv ((c :: l).take (dp (c :: l)).2.1) p) with
      | err q => rw [hr] at h; cases h
      | ok ts' =>
       rw [hr] at h; obtain rfl := LR.ok.inj h; obtain ⟨t0, h1, h2⟩ := ih _ (by simp only [ag] at hdl hk; omega) _ _ rfl ts' hr; refine ⟨je (c :: l) p :: t0, ?_, ?_⟩
       · intro t hm
         rcases List.mem_cons.1 hm with rfl | hm
         · exact Iw hb ht p
         · exact h1 t hm
       · rw [h2, aD, ← js, List.take_append_drop]
   · rw [jv hb] at h
     have hdl : ((c :: l).drop (eP (c :: l))).length = (c :: l).length - eP (c :: l) := cF ..; obtain ⟨t0, h1, h2⟩ := ih _ (by simp only [ag] at hdl hk; omega) _ _ rfl ts h; exact ⟨t0, h1, by rw [h2, ← js, List.take_append_drop]⟩
theorem wT {c : UInt8} (hc : mD c = true) (R : List UInt8) (p : Nat × Nat) : fM (c :: R) p = fM R (adv [c] p) := by
 have hb : eP (c :: R) = 1 := by
  rw [eP, if_neg, if_pos hc]; intro hn; obtain ⟨r, hr⟩ := ou hn; exact (vc hc).2.2.1 (List.cons.inj hr).1
 rw [jv (by omega), hb]
 rfl
theorem Fq {t : Tok} (h : Tk t) {c : UInt8} (hc : mD c = true) (R : List UInt8) (p : Nat × Nat) : fM (t.text ++ c :: R) p = (fM R (adv (t.text ++ [c]) p)).cons ⟨t.kind, t.text, t.n, p⟩ := by
 obtain ⟨a, l, h1, h2, h3⟩ := h.ex; have ht := DT (a := a) (l := l) (R := R) hc; have hb := Cn (R := R) hc h2; rw [h3] at ht; rw [h1]; rw [aD] at hb ht ⊢; rw [lY hb (by rw [ht]), je, ht]; dsimp only; rw [← aD, bE, List.drop_left, wT hc, aD, ← aD, js]
theorem FW {t : Tok} (h : Tk t) : ∀ c ∈ t.text, c ≠ 10 := by
 obtain ⟨a, l, h1, h2, h3⟩ := h.ex; rw [h1]; intro c hc
 cases ha : cg a with
 | true =>
  rw [gC ha] at h3; simp only [Prod.mk.injEq] at h3; have := ml cg (a :: l) c (by rw [h3.2.1, gg]; exact hc)
  rintro rfl
  revert this; decide
 | false =>
  by_cases hq : a = 35
  · subst hq
    rw [fT] at h3; simp only [Prod.mk.injEq, ag] at h3
    rcases List.mem_cons.1 hc with rfl | hc
    · decide
    · have := ml cg l c (by rw [show bB cg l = l.length by omega, gg]; exact hc)
      rintro rfl
      revert this; decide
  · rw [fH ha hq] at h3
    simp only [Prod.mk.injEq] at h3; have h4 := h3.2.1
    have h5 : eR (a :: l) ≠ 0 := by rw [h4]; simp
    by_cases hp : (([61, 61] : List UInt8).isPrefixOf (a :: l) || ([33, 61] : List UInt8).isPrefixOf (a :: l) || ([60, 61] : List UInt8).isPrefixOf (a :: l)) = true
    · have e : eR (a :: l) = 2 := by rw [eR, if_pos hp]
      have hl : l.length = 1 := by rw [e] at h4; simpa using h4.symm
      obtain ⟨b, rfl⟩ := List.length_eq_one_iff.1 hl; simp only [Bool.or_eq_true] at hp
      rcases hp with (hp | hp) | hp <;>
      · obtain ⟨r, hr⟩ := ou hp
        obtain ⟨rfl, h7⟩ := List.cons.inj hr; obtain ⟨rfl, _⟩ := List.cons.inj h7; simp only [List.mem_cons, List.not_mem_nil, or_false] at hc
        rcases hc with rfl | rfl <;> decide
    · have e : eR (a :: l) = if iQ.contains a then 1 else 0 := by rw [eR, if_neg hp]
      by_cases hs : iQ.contains a = true
      · rw [if_pos hs] at e
        have hl : l = [] := by rw [e] at h4; simpa using h4.symm
        subst hl; rw [List.mem_singleton] at hc; subst hc
        rintro rfl
        revert hs; decide
      · rw [if_neg hs] at e
        exact absurd e h5
def Tok.bare (t : Tok) : Nat × List UInt8 × Nat := (t.kind, t.text, t.n)
def fC : List Tok → List UInt8
 | [] => []
 | t :: r => t.text ++ 10 :: fC r
def bk : List Tok → Nat → List Tok
 | [], k => [⟨0, [], 0, (k + 1, 1)⟩]
 | t :: r, k => ⟨t.kind, t.text, t.n, (k, 1)⟩ :: bk r (k + 1)
theorem mE (a b : List Tok) : fC (a ++ b) = fC a ++ fC b := by
 induction a with
 | nil => rfl
 | cons t a ih => simp only [aD, fC, ih, List.append_assoc]
theorem Cm : ∀ {t0 : List Tok} (_ : ∀ t ∈ t0, Tk t) (k : Nat), fM (fC t0 ++ [10]) (k, 1) = .ok (bk t0 k)
 | [], _, k => by
  show fM [10] (k, 1) = _
  rw [wT (by decide), lX]
  rfl
 | t :: r, h, k => by
  have ht := h t (by simp); rw [fC, List.append_assoc, aD, Fq ht (by decide), js, pz _ _ (FW ht)]
  show (fM (fC r ++ [10]) (k + 1, 1)).cons _ = _
  rw [Cm (fun t hm => h t (by simp [hm])) (k + 1)]
  rfl
theorem zp : ∀ (t0 : List Tok) (k : Nat) (q : Nat × Nat), (bk t0 k).map Tok.bare = (t0 ++ [(⟨0, [], 0, q⟩ : Tok)]).map Tok.bare
 | [], k, q => rfl
 | t :: r, k, q => by
  rw [bk, aW, zp r (k + 1) q]
  rfl
theorem va : ∀ (t0 : List Tok) (k : Nat), (bk t0 k).length = t0.length + 1
 | [], k => rfl
 | t :: r, k => by rw [bk, ag, va r]; rfl
theorem wk : ∀ (t0 : List Tok) (k i : Nat) (h : i < (bk t0 k).length), i < t0.length → ((bk t0 k)[i]).p = (k + i, 1)
 | [], k, i, h, hi => by simp at hi
 | t :: r, k, 0, h, hi => rfl
 | t :: r, k, i + 1, h, hi => by
  have := wk r (k + 1) i (by simpa [bk] using h) (by simpa using hi); simp only [bk, List.getElem_cons_succ]; rw [this, Prod.mk.injEq]; exact ⟨by omega, rfl⟩
theorem mN {l : List UInt8} {ts : List Tok} (hl : l.length ≤ 8192) (h : fM l (1, 1) = .ok ts) : qP l = ts ∧ lW l = (0, 0, 0) := by
 rw [qP, lW, if_neg (by omega), if_neg (by omega), h]; exact ⟨rfl, rfl⟩
theorem qc {l : List UInt8} {q : Nat × Nat} (hl : l.length ≤ 8192) (h : fM l (1, 1) = .err q) : qP l = [] ∧ lW l = (3, q.1, q.2) := by
 rw [qP, lW, if_neg (by omega), if_neg (by omega), h]; exact ⟨rfl, rfl⟩
theorem Cg {l : List UInt8} {ts : List Tok} (h : fM l (1, 1) = .ok ts) (hb : (fC ts).length ≤ 8192) :
 ∃ ms, qP (fC ts) = ms ∧ lW (fC ts) = (0, 0, 0) ∧ ms.map Tok.bare = ts.map Tok.bare ∧ ∀ i (hi : i < ms.length), i + 1 < ts.length → (ms[i]).p = (i + 1, 1) := by
 obtain ⟨t0, h1, rfl⟩ := sL l.length l (1, 1) rfl ts h; have hk := Cm h1 1
 have e : fC (t0 ++ [⟨0, [], 0, adv l (1, 1)⟩]) = fC t0 ++ [10] := by rw [mE]; rfl
 rw [e] at hb ⊢; refine ⟨bk t0 1, (mN hb hk).1, (mN hb hk).2, zp t0 1 _, fun i hi h2 => ?_⟩; rw [wk t0 1 i hi (by simpa using h2), Prod.mk.injEq]; exact ⟨by omega, rfl⟩
def down (d : Nat) (t : Tok) : Tok := { t with p := (t.p.1 + d, t.p.2) }
theorem BN {c : UInt8} {l : List UInt8} (h : (dp (c :: l)).2.2.2 = true) : (dp (c :: l)).1 ≠ 0 := by
 cases ha : cg c with
 | true =>
  rw [gC ha]
  show (kc _).1 ≠ 0
  unfold kc; split
  · exact Nat.succ_ne_zero _
  · split
    · exact Nat.succ_ne_zero _
    · exact Nat.succ_ne_zero _
 | false =>
  by_cases hc : c = 35
  · subst hc; rw [fT]; exact Nat.succ_ne_zero _
  · rw [fH ha hc]; exact Nat.succ_ne_zero _
abbrev int (n : Int) : PV := .v (.int .i64 n)
abbrev gR (s : ByteArray) : PV := .v (.string s)
inductive X where
 | mk (op bin n kd : Int) (rc name : ByteArray) (kids : List X) (line col : Int)
def X.op : X → Int
 | ⟨a, _, _, _, _, _, _, _, _⟩ => a
def X.bin : X → Int
 | ⟨_, a, _, _, _, _, _, _, _⟩ => a
def X.n : X → Int
 | ⟨_, _, a, _, _, _, _, _, _⟩ => a
def X.kd : X → Int
 | ⟨_, _, _, a, _, _, _, _, _⟩ => a
def X.rc : X → ByteArray
 | ⟨_, _, _, _, a, _, _, _, _⟩ => a
def X.name : X → ByteArray
 | ⟨_, _, _, _, _, a, _, _, _⟩ => a
def X.kids : X → List X
 | ⟨_, _, _, _, _, _, a, _, _⟩ => a
def X.line : X → Int
 | ⟨_, _, _, _, _, _, _, a, _⟩ => a
def X.col : X → Int
 | ⟨_, _, _, _, _, _, _, _, a⟩ => a
structure Pl where
 mk ::
 op : Int
 base : ByteArray
 field : ByteArray
 index : X
 line : Int
 col : Int
structure Rt where
 mk ::
 op : Int
 e : X
 place : Pl
 name : ByteArray
 line : Int
 col : Int
inductive S where
 | mk (op : Int) (name : ByteArray) (right : Rt) (place : Pl) (e : X) (n : Int) (args : List X) (body : List S) (els : List S) (line : Int) (col : Int)
def S.op : S → Int
 | ⟨a, _, _, _, _, _, _, _, _, _, _⟩ => a
def S.name : S → ByteArray
 | ⟨_, a, _, _, _, _, _, _, _, _, _⟩ => a
def S.right : S → Rt
 | ⟨_, _, a, _, _, _, _, _, _, _, _⟩ => a
def S.place : S → Pl
 | ⟨_, _, _, a, _, _, _, _, _, _, _⟩ => a
def S.e : S → X
 | ⟨_, _, _, _, a, _, _, _, _, _, _⟩ => a
def S.n : S → Int
 | ⟨_, _, _, _, _, a, _, _, _, _, _⟩ => a
def S.args : S → List X
 | ⟨_, _, _, _, _, _, a, _, _, _, _⟩ => a
def S.body : S → List S
 | ⟨_, _, _, _, _, _, _, a, _, _, _⟩ => a
def S.els : S → List S
 | ⟨_, _, _, _, _, _, _, _, a, _, _⟩ => a
def S.line : S → Int
 | ⟨_, _, _, _, _, _, _, _, _, a, _⟩ => a
def S.col : S → Int
 | ⟨_, _, _, _, _, _, _, _, _, _, a⟩ => a
mutual
def X.enc : X → List PV
 | ⟨op, bin, n, kd, rc, name, kids, line, col⟩ => [int op, int bin, .v (.int .u64 n), int kd, gR rc, gR name, .sl (eL kids) .dead, int line, int col]
def eL : List X → List (List PV)
 | [] => []
 | x :: xs => x.enc :: eL xs
end
def Pl.enc (p : Pl) : List PV := [int p.op, gR p.base, gR p.field] ++ p.index.enc ++ [int p.line, int p.col]
def Rt.enc (p : Rt) : List PV := [int p.op] ++ p.e.enc ++ p.place.enc ++ [gR p.name, int p.line, int p.col]
mutual
def S.enc : S → List PV
 | ⟨op, name, right, place, e, n, args, body, els, line, col⟩ => [int op, gR name] ++ right.enc ++ place.enc ++ e.enc ++ [int n, .sl (eL args) .dead, .sl (ep body) .dead, .sl (ep els) .dead, int line, int col]
def ep : List S → List (List PV)
 | [] => []
 | x :: xs => x.enc :: ep xs
end
theorem X.bT (x : X) : x.enc = [int x.op, int x.bin, .v (.int .u64 x.n), int x.kd, gR x.rc, gR x.name, .sl (eL x.kids) .dead, int x.line, int x.col] := by cases x; simp only [X.enc]; rfl
theorem S.bT (x : S) : x.enc = [int x.op, gR x.name] ++ x.right.enc ++ x.place.enc ++ x.e.enc ++ [int x.n, .sl (eL x.args) .dead, .sl (ep x.body) .dead, .sl (ep x.els) .dead, int x.line, int x.col] := by cases x; simp only [S.enc]; rfl
theorem nG : ∀ xs, eL xs = xs.map X.enc
 | [] => by simp [eL]
 | x :: xs => by simp [eL, nG xs]
theorem mi : ∀ xs, ep xs = xs.map S.enc
 | [] => by simp [ep]
 | x :: xs => by simp [ep, mi xs]
theorem iy (xs : List X) : (eL xs).length = xs.length := by rw [nG, List.length_map]
theorem jq (xs : List S) : (ep xs).length = xs.length := by rw [mi, List.length_map]
theorem X.len (x : X) : x.enc.length = 9 := by simp only [X.bT]; rfl
theorem X.whole (x : X) : AM.part true 9 0 x.enc = some (.agg x.enc) := by simp only [X.bT]; rfl
theorem X.okc (x : X) : aH x.enc = true := by simp only [X.bT]; rfl
theorem X.can (x : X) : ai (.agg x.enc) = .agg x.enc := by simp only [X.bT]; rfl
theorem X.lC (x : X) : x.enc.map bW = x.enc := by simp only [X.bT]; rfl
theorem X.pl (x : X) : cw x.enc = some x.enc := by simp only [X.bT]; rfl
theorem X.sf4 (x : X) (m : Nat) : x.enc.all (sf true m 4) = true := by simp only [X.bT]; rfl
theorem X.fl (x : X) : x.enc.all dM = true := by simp only [X.bT]; rfl
theorem X.Df (x : X) : AM.part false 1 0 x.enc = some (int x.op) := by simp only [X.bT]; rfl
theorem X.Dg (x : X) : AM.part false 1 1 x.enc = some (int x.bin) := by simp only [X.bT]; rfl
theorem X.Dh (x : X) : AM.part false 1 2 x.enc = some (.v (.int .u64 x.n)) := by simp only [X.bT]; rfl
theorem X.IK (x : X) : AM.part false 1 3 x.enc = some (int x.kd) := by simp only [X.bT]; rfl
theorem X.IL (x : X) : AM.part false 1 4 x.enc = some (gR x.rc) := by simp only [X.bT]; rfl
theorem X.IM (x : X) : AM.part false 1 5 x.enc = some (gR x.name) := by simp only [X.bT]; rfl
theorem X.IN (x : X) : AM.part false 1 6 x.enc = some (.sl (eL x.kids) .dead) := by simp only [X.bT]; rfl
theorem Pl.len (x : Pl) : x.enc.length = 14 := by simp only [Pl.enc, X.bT]; rfl
theorem Pl.okc (x : Pl) : aH x.enc = true := by simp only [Pl.enc, X.bT]; rfl
theorem Pl.can (x : Pl) : ai (.agg x.enc) = .agg x.enc := by simp only [Pl.enc, X.bT]; rfl
theorem Pl.lC (x : Pl) : x.enc.map bW = x.enc := by simp only [Pl.enc, X.bT]; rfl
theorem Pl.fl (x : Pl) : x.enc.all dM = true := by simp only [Pl.enc, X.bT]; rfl
theorem Pl.Df (x : Pl) : AM.part false 1 0 x.enc = some (int x.op) := by simp only [Pl.enc, X.bT]; rfl
theorem Pl.Dg (x : Pl) : AM.part false 1 1 x.enc = some (gR x.base) := by simp only [Pl.enc, X.bT]; rfl
theorem Pl.Dh (x : Pl) : AM.part false 1 2 x.enc = some (gR x.field) := by simp only [Pl.enc, X.bT]; rfl
theorem Pl.Di (x : Pl) : AM.part true 9 3 x.enc = some (.agg x.index.enc) := by simp only [Pl.enc, X.bT]; rfl
theorem Rt.len (x : Rt) : x.enc.length = 27 := by simp only [Rt.enc, Pl.enc, X.bT]; rfl
theorem Rt.okc (x : Rt) : aH x.enc = true := by simp only [Rt.enc, Pl.enc, X.bT]; rfl
theorem Rt.lC (x : Rt) : x.enc.map bW = x.enc := by simp only [Rt.enc, Pl.enc, X.bT]; rfl
theorem Rt.fl (x : Rt) : x.enc.all dM = true := by simp only [Rt.enc, Pl.enc, X.bT]; rfl
theorem S.len (x : S) : x.enc.length = 58 := by simp only [S.bT, Rt.enc, Pl.enc, X.bT]; rfl
theorem S.whole (x : S) : AM.part true 58 0 x.enc = some (.agg x.enc) := by simp only [S.bT, Rt.enc, Pl.enc, X.bT]; rfl
theorem S.okc (x : S) : aH x.enc = true := by simp only [S.bT, Rt.enc, Pl.enc, X.bT]; rfl
theorem S.can (x : S) : ai (.agg x.enc) = .agg x.enc := by simp only [S.bT, Rt.enc, Pl.enc, X.bT]; rfl
theorem S.lC (x : S) : x.enc.map bW = x.enc := by simp only [S.bT, Rt.enc, Pl.enc, X.bT]; rfl
theorem S.pl (x : S) : cw x.enc = some x.enc := by simp only [S.bT, Rt.enc, Pl.enc, X.bT]; rfl
theorem S.sf4 (x : S) (m : Nat) : x.enc.all (sf true m 4) = true := by simp only [S.bT, Rt.enc, Pl.enc, X.bT]; rfl
theorem S.fl (x : S) : x.enc.all dM = true := by simp only [S.bT, Rt.enc, Pl.enc, X.bT]; rfl
theorem S.Df (x : S) : AM.part false 1 0 x.enc = some (int x.op) := by simp only [S.bT, Rt.enc, Pl.enc, X.bT]; rfl
theorem S.Dg (x : S) : AM.part false 1 1 x.enc = some (gR x.name) := by simp only [S.bT, Rt.enc, Pl.enc, X.bT]; rfl
theorem S.Dh (x : S) : AM.part false 1 2 x.enc = some (int x.right.op) := by simp only [S.bT, Rt.enc, Pl.enc, X.bT]; rfl
theorem S.Di (x : S) : AM.part true 9 3 x.enc = some (.agg x.right.e.enc) := by simp only [S.bT, Rt.enc, Pl.enc, X.bT]; rfl
theorem S.Fz (x : S) : AM.part true 14 12 x.enc = some (.agg x.right.place.enc) := by simp only [S.bT, Rt.enc, Pl.enc, X.bT]; rfl
theorem S.Il (x : S) : AM.part false 1 26 x.enc = some (gR x.right.name) := by simp only [S.bT, Rt.enc, Pl.enc, X.bT]; rfl
theorem S.FA (x : S) : AM.part true 14 29 x.enc = some (.agg x.place.enc) := by simp only [S.bT, Rt.enc, Pl.enc, X.bT]; rfl
theorem S.Hw (x : S) : AM.part true 9 43 x.enc = some (.agg x.e.enc) := by simp only [S.bT, Rt.enc, Pl.enc, X.bT]; rfl
theorem S.Im (x : S) : AM.part false 1 52 x.enc = some (int x.n) := by simp only [S.bT, Rt.enc, Pl.enc, X.bT]; rfl
theorem S.Io (x : S) : AM.part false 1 53 x.enc = some (.sl (eL x.args) .dead) := by simp only [S.bT, Rt.enc, Pl.enc, X.bT]; rfl
theorem S.Ip (x : S) : AM.part false 1 54 x.enc = some (.sl (ep x.body) .dead) := by simp only [S.bT, Rt.enc, Pl.enc, X.bT]; rfl
theorem S.Iq (x : S) : AM.part false 1 55 x.enc = some (.sl (ep x.els) .dead) := by simp only [S.bT, Rt.enc, Pl.enc, X.bT]; rfl
mutual
def X.sz : X → Nat
 | ⟨_, _, _, _, _, _, ks, _, _⟩ => szs ks + 1
def szs : List X → Nat
 | [] => 0
 | x :: xs => x.sz + szs xs
end
theorem vJ : ∀ xs : List X, xs.length ≤ szs xs
 | [] => by simp [szs]
 | x :: xs => by
  have := vJ xs
  have : 1 ≤ x.sz := by cases x; simp [X.sz]
  simp [szs]; omega
theorem Ak {x : X} : ∀ {xs : List X}, x ∈ xs → x.sz ≤ szs xs
 | [], h => by cases h
 | y :: ys, h => by
  rcases List.mem_cons.1 h with rfl | h
  · simp [szs]
  · have := Ak h; simp [szs]; omega
theorem X.rH (x : X) : x.sz = szs x.kids + 1 := by cases x; rfl
theorem wy (p : List X) (x : X) (xs : List X) : (eL (p ++ x :: xs))[p.length]? = some x.enc := by
 rw [nG]; simp
theorem inR {α : Type} (p : List α) (x : α) (xs : List α) : dv (p.length : Int) (p ++ x :: xs).length = true := by
 simp [dv]; omega
theorem wJ : ∀ (pre old cs : List PV), old.length = cs.length → laid (pre ++ old) pre.length cs = pre ++ cs
 | pre, [], [], _ => rfl
 | pre, o :: old, c :: cs, h => by
  have : (pre ++ o :: old).set pre.length c = (pre ++ [c]) ++ old := by simp
  rw [laid, this, show pre.length + 1 = (pre ++ [c]).length by simp, wJ (pre ++ [c]) old cs (by simpa using h)]; simp
theorem iA (old cs : List PV) (h : old.length = cs.length) : laid old 0 cs = cs := wJ [] old cs h
mutual
def S.sz : S → Nat
 | ⟨_, _, r, p, e, _, xs, b, c, _, _⟩ => r.e.sz + r.place.index.sz + p.index.sz + e.sz + szs xs + fv b + fv c + 1
def fv : List S → Nat
 | [] => 0
 | x :: xs => x.sz + fv xs
end
theorem S.rH (x : S) : x.sz = x.right.e.sz + x.right.place.index.sz + x.place.index.sz + x.e.sz + szs x.args + fv x.body + fv x.els + 1 := by cases x; rfl
theorem xt : ∀ xs : List S, xs.length ≤ fv xs
 | [] => by simp [fv]
 | x :: xs => by
  have := xt xs
  have : 1 ≤ x.sz := by cases x; simp [S.sz]
  simp [fv]; omega
theorem tv {x : S} : ∀ {xs : List S}, x ∈ xs → x.sz ≤ fv xs
 | [], h => by cases h
 | y :: ys, h => by
  rcases List.mem_cons.1 h with rfl | h
  · simp [fv]
  · have := tv h; simp [fv]; omega
theorem Bu (p : List S) (x : S) (xs : List S) : (ep (p ++ x :: xs))[p.length]? = some x.enc := by
 rw [mi]; simp
end Go.Proofs.YtlhlijaondmccaaGreatDoor.S
namespace Go.Proofs.YtlhlijaondmccaaGreatDoor.S
open Go Go.AM Go.Proofs
attribute [local simp] cZ cy bX bY cz eI fu dX di dV de dW dh ft bZ hZ dR ib gU gN AM.aa aN aO ah bf aP aw AM.onG fR bH dw Ex.ba cond_true cond_false cV cU cT cS cR cX cQ cY cW dY dj dm cx cC dQ dT nN oo da mn mX lV mM AM.du AM.cellsOf AM.an bQ zC vl beq_true dr ag aC bj bx bU decide_true decide_false bI bn br bD bg aB aA bh aD vo yf ye db dc sF fm av bE aY bR
theorem FQ (P : Program) (c : Bool) (t : TypeId) (a b : Int) (h : 0 ≤ b) (h2 : b ≤ 64) : aJ P c .shr t (.v (.int .u64 a)) (.v (.int .u64 b)) = some (.v (.int .u64 (a.fdiv (2 ^ b.toNat)))) := by
 show fB (fq P (Op.shift .shr .u64 a .u64 b)) = _
 have : ¬ b < 0 := by omega
 have h3 : min b.toNat IntKind.u64.bits = b.toNat := by simp [IntKind.bits]; omega
 simp only [Op.shift, this, if_false, h3]; exact fS P _ rfl
def by8 (n : Int) (i : Nat) : UInt8 := UInt8.ofNat (IntKind.u8.wrap ((IntKind.u64.wrap n).fdiv (2 ^ i))).toNat
def fc (n : Int) : ByteArray := ⟨#[UInt8.ofNat (IntKind.u8.wrap (IntKind.u64.wrap n)).toNat, by8 n 8, by8 n 16, by8 n 24, by8 n 32, by8 n 40, by8 n 48, by8 n 56]⟩
theorem mZ (n : Int) (st : St) : E L (.func 51) [int n] st = some (gR (fc n), st) := by
 obtain ⟨s, rfl⟩ : ∃ s : St, st = s.app [] [] [] := ⟨st, (al st).symm⟩
 rw [GR]; simp [S51, gL, AO, FQ, aF, iP, cq, fZ, cellsOf, laid, cw, ec, chunks, AP, bytesOf, AM.byteOfCell]
 rfl
def strs (l : List ByteArray) : List (List PV) := l.map fun b => [gR b]
theorem eS (l : List ByteArray) : (strs l).length = l.length := List.length_map ..
theorem dD (l : List ByteArray) : dr 1 (strs l) = true := jJ (fun b => [gR b]) (fun _ => rfl) l
theorem fP (l m : List ByteArray) : strs l ++ strs m = strs (l ++ m) := (List.map_append ..).symm
def w64 (n : Int) : Int := IntKind.i64.wrap n
mutual
def X.text : X → List ByteArray
 | ⟨op, bin, n, kd, rc, name, ks, _, _⟩ => [⟨#[101, 120, 112, 114]⟩, fc op, fc bin, fc (w64 n), fc kd, rc, name, fc ks.length] ++ eX ks
def eX : List X → List ByteArray
 | [] => []
 | x :: xs => x.text ++ eX xs
end
theorem X.sc (x : X) : x.text = [⟨#[101, 120, 112, 114]⟩, fc x.op, fc x.bin, fc (w64 x.n), fc x.kd, x.rc, x.name, fc x.kids.length] ++ eX x.kids := by
 cases x; simp only [X.text]; rfl
mutual
theorem X.jP : ∀ x : X, x.text.length = 8 * x.sz
 | ⟨op, bin, n, kd, rc, name, ks, _, _⟩ => by
  have := na ks
  simp [X.text, X.sz, this]; omega
theorem na : ∀ xs : List X, (eX xs).length = 8 * szs xs
 | [] => by simp [eX, szs]
 | x :: xs => by
  have := na xs; have := X.jP x
  simp [eX, szs, *]; omega
end
theorem qv : ∀ xs ys : List X, szs (xs ++ ys) = szs xs + szs ys
 | [], ys => by simp [szs]
 | x :: xs, ys => by simp [szs, qv xs ys]; omega
theorem ue (s : St) (b : Blk) (xs0 : List X) (hb : szs xs0 ≤ 1000000) (hbk : b.cs.all (sf true (s.stk.length + 1) 4) = true) : ∀ (xs p : List X) (acc : List ByteArray) (c : Cap) (tk : List (Nat × Nat)), xs0 = p ++ xs → acc.length = 8 + 8 * szs p → Own s tk c (strs acc).length 1 →
 (∀ x ∈ xs, ∀ (st : St), E L (.func 81) [.agg x.enc] st = some (.sl (strs x.text) .dead, st)) →
 ∃ vs c' tk', itE (S81.b0 (E L) itE s.stk.length s.lp.length) [.sl (strs acc) c, .sl (eL xs0) .dead, int xs0.length, int p.length] (s.app [b] tk []) =
  some (.exit 0, .sl (strs (acc ++ eX xs)) c' :: vs, s.app [b] tk' [])
 | [], p, acc, c, tk, hx, ha, ho, hf => by
  have e : xs0.length = p.length := by rw [hx]; simp
  refine ⟨[.sl (eL xs0) .dead, int xs0.length, int p.length], c, tk, ?_⟩; rw [mL]; simp [S81.b0, e, eX, ho.sfc, hbk]
 | x :: xs, p, acc, c, tk, hx, ha, ho, hf => by
  have hlt : (p.length : Int) < (xs0.length : Int) := by rw [hx]; simp; omega
  have g1 : (eL xs0)[p.length]? = some x.enc := by rw [hx]; exact wy p x xs
  have r1 : dv (p.length : Int) (eL xs0).length = true := by rw [iy, hx]; exact inR p x xs
  have hl0 := vJ xs0
  have hs0 : szs xs0 = szs p + (x.sz + szs xs) := by rw [hx, qv]; rfl
  have hpl : p.length < xs0.length := by rw [hx]; simp
  have w1 : IntKind.i64.wrap ((p.length : Int) + 1) = (p.length : Int) + 1 := IntWalk.i64_in _ (by omega); have hc := hf x bL; have hxl := X.jP x; obtain ⟨c1, tk1, e1, o1⟩ := fj (ys := strs x.text) (bytes := 16) ho (by simp only [eS, cu]; omega) (dD _) (dD _) (by decide) (by decide); rw [fP] at e1 o1
  obtain ⟨vs, c2, tk2, h2⟩ := ue s b xs0 hb hbk xs (p ++ [x]) (acc ++ x.text) c1 tk1 (by simp [hx]) (by rw [qv, ay]; simp [szs]; omega) o1 fun z hz => hf z (cf _ hz)
  refine ⟨vs, c2, tk2, ?_⟩; rw [show eX (x :: xs) = x.text ++ eX xs from rfl, ← List.append_assoc, ← h2]; refine bP ?_; simp [S81.b0, hlt, CP, r1, g1, X.len, X.whole, X.okc, X.can, iA, hc, e1, w1, o1.sfc, hbk]
theorem pQ : ∀ (n : Nat) (x : X), x.sz ≤ n → n ≤ 1000000 → ∀ st : St, E L (.func 81) [.agg x.enc] st = some (.sl (strs x.text) .dead, st)
 | 0, x, h, _ => by rw [X.rH] at h; omega
 | n + 1, x, h, hn => fun st => by
  rw [X.rH] at h
  obtain ⟨s, rfl⟩ : ∃ s : St, st = s.app [] [] [] := ⟨st, (al st).symm⟩
  obtain ⟨vs, c', tk', hl⟩ := ue s ⟨x.enc, []⟩ x.kids (by omega) (X.sf4 ..) x.kids [] [⟨#[101, 120, 112, 114]⟩, fc x.op, fc x.bin, fc (w64 x.n), fc x.kd, x.rc, x.name, fc x.kids.length] .full [] rfl rfl (Own.full ..)
   fun z hz st => pQ n z (by have := Ak hz; omega) (by omega) st
  rw [G4]; simp [S81, X.Df, X.Dg, X.Dh, X.IK, X.IL, X.IM, X.IN, mZ, AN, yl, iy, aF, iP, cq, fZ, laid, cw, ec, chunks]; simp [strs, w64] at hl; rw [hl]; simp [X.sc, strs, w64]
def Pl.tx (p : Pl) : List ByteArray := [⟨#[112, 108, 97, 99, 101]⟩, fc p.op, p.base, p.field] ++ p.index.text
theorem Pl.ri (p : Pl) : p.tx.length = 4 + 8 * p.index.sz := by simp [Pl.tx, X.jP]; omega
theorem w8 (p : Pl) (h : p.index.sz ≤ 1000000) (st : St) : E L (.func 82) [.agg p.enc] st = some (.sl (strs p.tx) .dead, st) := by
 have he := pQ p.index.sz p.index (ao _) h
 obtain ⟨s, rfl⟩ : ∃ s : St, st = s.app [] [] [] := ⟨st, (al st).symm⟩
 have hx := X.jP p.index; obtain ⟨c1, tk1, e1, o1⟩ := fj (s := s) (tk := []) (es := strs [⟨#[112, 108, 97, 99, 101]⟩, fc p.op, p.base, p.field]) (ys := strs p.index.text) (bytes := 16) (Own.full ..) (by simp only [eS, cu, ag, aC]; omega) (dD _) (dD _) (by decide) (by decide); rw [G5]; simp [strs] at e1; simp [S82, Pl.Df, Pl.Dg, Pl.Dh, Pl.Di, X.can, he, mZ, aF, iP, cq, fZ, laid, cw, ec, chunks, strs, e1, Pl.tx]
mutual
def S.tx : S → List ByteArray
 | ⟨op, name, right, place, e, n, args, body, els, _, _⟩ => [⟨#[115, 116, 109, 116]⟩, fc op, name, fc n, fc right.op, right.name, fc args.length] ++ right.e.text ++ right.place.tx ++ place.tx ++ e.text ++ eX args ++ ([⟨#[114, 111, 119]⟩, fc body.length] ++ lI body) ++ ([⟨#[114, 111, 119]⟩, fc els.length] ++ lI els)
def lI : List S → List ByteArray
 | [] => []
 | x :: xs => x.tx ++ lI xs
end
def iD (xs : List S) : List ByteArray := [⟨#[114, 111, 119]⟩, fc xs.length] ++ lI xs
def S.hd (x : S) : List ByteArray := [⟨#[115, 116, 109, 116]⟩, fc x.op, x.name, fc x.n, fc x.right.op, x.right.name, fc x.args.length]
theorem S.DV (x : S) : x.tx = x.hd ++ x.right.e.text ++ x.right.place.tx ++ x.place.tx ++ x.e.text ++ eX x.args ++ iD x.body ++ iD x.els := by
 cases x; simp only [S.tx]; rfl
mutual
theorem S.ri : ∀ x : S, x.tx.length ≤ 40 * x.sz
 | ⟨op, name, right, place, e, n, args, body, els, _, _⟩ => by
  have := iG body; have := iG els
  simp [S.tx, S.sz, X.jP, na, Pl.ri, *]; omega
theorem iG : ∀ xs : List S, (lI xs).length ≤ 40 * fv xs
 | [] => by simp [lI, fv]
 | x :: xs => by
  have := iG xs; have := S.ri x
  simp [lI, fv]; omega
end
theorem tS (s : St) (b : Blk) (xs0 : List X) (hb : szs xs0 ≤ 1000000) (hbk : b.cs.all (sf true (s.stk.length + 1) 4) = true) (L0 : List (List PV)) (n0 i0 : Int) : ∀ (xs p : List X) (acc : List ByteArray) (c : Cap) (tk : List (Nat × Nat)), xs0 = p ++ xs → acc.length + 8 * szs xs ≤ 100000000 → Own s tk c (strs acc).length 1 →
 ∃ j c' tk', itE (S53.b1 (E L) itE s.stk.length s.lp.length) [.sl (strs acc) c, .ptr false s.stk.length 0, .sl L0 .dead, int n0, int i0, .sl (eL xs0) .dead, int xs0.length, int p.length] (s.app [b] tk []) =
  some (.exit 2, [.sl (strs (acc ++ eX xs)) c', .ptr false s.stk.length 0, .sl L0 .dead, int n0, int i0, .sl (eL xs0) .dead, int xs0.length, int j], s.app [b] tk' []) ∧ Own s tk' c' (strs (acc ++ eX xs)).length 1
 | [], p, acc, c, tk, hx, ha, ho => by
  have e : xs0.length = p.length := by rw [hx]; simp
  refine ⟨p.length, c, tk, ?_, by simpa [eX] using ho⟩; rw [mL]; simp [S53.b1, e, eX, ho.sfc, hbk]
 | x :: xs, p, acc, c, tk, hx, ha, ho => by
  have hlt : (p.length : Int) < (xs0.length : Int) := by rw [hx]; simp; omega
  have g1 : (eL xs0)[p.length]? = some x.enc := by rw [hx]; exact wy p x xs
  have r1 : dv (p.length : Int) (eL xs0).length = true := by rw [iy, hx]; exact inR p x xs
  have hl0 := vJ xs0
  have hs0 : szs xs0 = szs p + (x.sz + szs xs) := by rw [hx, qv]; rfl
  have hpl : p.length < xs0.length := by rw [hx]; simp
  have w1 : IntKind.i64.wrap ((p.length : Int) + 1) = (p.length : Int) + 1 := IntWalk.i64_in _ (by omega); have hc := pQ x.sz x (ao _) (by omega); have hxl := X.jP x; have hsx : szs (x :: xs) = x.sz + szs xs := rfl; obtain ⟨c1, tk1, e1, o1⟩ := fj (ys := strs x.text) (bytes := 16) ho (by simp only [eS, cu]; omega) (dD _) (dD _) (by decide) (by decide); rw [fP] at e1 o1; obtain ⟨j, c2, tk2, h2, o2⟩ := tS s b xs0 hb hbk L0 n0 i0 xs (p ++ [x]) (acc ++ x.text) c1 tk1 (by simp [hx]) (by rw [ay]; omega) o1; rw [show eX (x :: xs) = x.text ++ eX xs from rfl, ← List.append_assoc]; refine ⟨j, c2, tk2, ?_, o2⟩; rw [← h2]; refine bP ?_; simp [S53.b1, hlt, CP, r1, g1, X.len, X.whole, X.okc, X.can, iA, hc, e1, w1, o1.sfc, hbk]
theorem oA : ∀ (p : List S) (x : S), lI (p ++ [x]) = lI p ++ x.tx
 | [], x => by simp [lI]
 | y :: ys, x => by simp [lI, oA ys x]
theorem tu : ∀ xs ys : List S, fv (xs ++ ys) = fv xs + fv ys
 | [], ys => by simp [fv]
 | x :: xs, ys => by simp [fv, tu xs ys]; omega
theorem tw (s : St) (xs0 : List S) (hb : fv xs0 ≤ 1000000) : ∀ (xs p : List S) (acc : List ByteArray) (c : Cap) (tk : List (Nat × Nat)), xs0 = p ++ xs → acc.length = 2 + (lI p).length → Own s tk c (strs acc).length 1 →
 (∀ x ∈ xs, ∀ (st : St), E L (.func 53) [.sl (ep x.body) .dead] st = some (.sl (strs (iD x.body)) .dead, st) ∧ E L (.func 53) [.sl (ep x.els) .dead] st = some (.sl (strs (iD x.els)) .dead, st)) →
 ∃ vs c' tk', itE (S53.b0 (E L) itE s.stk.length s.lp.length) [.sl (strs acc) c, .sl (ep xs0) .dead, int xs0.length, int p.length] (s.app [] tk []) =
  some (.exit 0, .sl (strs (acc ++ lI xs)) c' :: vs, s.app [] tk' [])
 | [], p, acc, c, tk, hx, ha, ho, hf => by
  have e : xs0.length = p.length := by rw [hx]; simp
  refine ⟨[.sl (ep xs0) .dead, int xs0.length, int p.length], c, tk, ?_⟩; rw [mL]; simp [S53.b0, e, lI, ho.sfc]
 | x :: xs, p, acc, c, tk, hx, ha, ho, hf => by
  have hlt : (p.length : Int) < (xs0.length : Int) := by rw [hx]; simp; omega
  have g1 : (ep xs0)[p.length]? = some x.enc := by rw [hx]; exact Bu p x xs
  have r1 : dv (p.length : Int) (ep xs0).length = true := by rw [jq, hx]; exact inR p x xs
  have hl0 := xt xs0
  have hs0 : fv xs0 = fv p + (x.sz + fv xs) := by rw [hx, tu]; rfl
  have hpl : p.length < xs0.length := by rw [hx]; simp
  have w1 : IntKind.i64.wrap ((p.length : Int) + 1) = (p.length : Int) + 1 := IntWalk.i64_in _ (by omega); have hxl := S.ri x; have hxp := iG p; have hz := S.rH x; have q1 := pQ _ x.right.e (ao _) (by omega); have q2 := w8 x.right.place (by omega); have q3 := w8 x.place (by omega); have q4 := pQ _ x.e (ao _) (by omega); have l1 := X.jP x.right.e; have l2 := Pl.ri x.right.place; have l3 := Pl.ri x.place; have l4 := X.jP x.e; have l5 := na x.args
  have l6 : (iD x.body).length = 2 + (lI x.body).length := by simp [iD]; omega
  have l7 : (iD x.els).length = 2 + (lI x.els).length := by simp [iD]; omega
  have l8 := iG x.body; have l9 := iG x.els; have l0 : x.hd.length = 7 := rfl; obtain ⟨c1, tk1, e1, o1⟩ := fj (ys := strs x.hd) (bytes := 16) ho (by simp only [eS, cu]; omega) (dD _) (dD _) (by decide) (by decide); rw [fP] at e1 o1; generalize hA1 : acc ++ x.hd = A1 at e1 o1; have m1 := congrArg gG hA1; rw [ay] at m1; obtain ⟨c2, tk2, e2, o2⟩ := fj (ys := strs x.right.e.text) (bytes := 16) o1 (by simp only [eS, cu]; omega) (dD _) (dD _) (by decide) (by decide); rw [fP] at e2 o2; generalize hA2 : A1 ++ x.right.e.text = A2 at e2 o2; have m2 := congrArg gG hA2; rw [ay] at m2; obtain ⟨c3, tk3, e3, o3⟩ := fj (ys := strs x.right.place.tx) (bytes := 16) o2 (by simp only [eS, cu]; omega) (dD _) (dD _) (by decide) (by decide); rw [fP] at e3 o3; generalize hA3 : A2 ++ x.right.place.tx = A3 at e3 o3; have m3 := congrArg gG hA3; rw [ay] at m3; obtain ⟨c4, tk4, e4, o4⟩ := fj (ys := strs x.place.tx) (bytes := 16) o3 (by simp only [eS, cu]; omega) (dD _) (dD _) (by decide) (by decide); rw [fP] at e4 o4; generalize hA4 : A3 ++ x.place.tx = A4 at e4 o4; have m4 := congrArg gG hA4; rw [ay] at m4; obtain ⟨c5, tk5, e5, o5⟩ := fj (ys := strs x.e.text) (bytes := 16) o4 (by simp only [eS, cu]; omega) (dD _) (dD _) (by decide) (by decide); rw [fP] at e5 o5; generalize hA5 : A4 ++ x.e.text = A5 at e5 o5; have m5 := congrArg gG hA5; rw [ay] at m5; obtain ⟨j, c6, tk6, h6, o6⟩ := tS s ⟨x.enc, []⟩ x.args (by omega) (S.sf4 ..) (ep xs0) xs0.length p.length x.args [] _ c5 tk5 rfl (by omega) o5; generalize hA6 : A5 ++ eX x.args = A6 at h6 o6; have m6 := congrArg gG hA6; rw [ay] at m6; obtain ⟨c7, tk7, e7, o7⟩ := fj (ys := strs (iD x.body)) (bytes := 16) o6 (by simp only [eS, cu]; omega) (dD _) (dD _) (by decide) (by decide); rw [fP] at e7 o7; generalize hA7 : A6 ++ iD x.body = A7 at e7 o7; have m7 := congrArg gG hA7; rw [ay] at m7; obtain ⟨c8, tk8, e8, o8⟩ := fj (ys := strs (iD x.els)) (bytes := 16) o7 (by simp only [eS, cu]; omega) (dD _) (dD _) (by decide) (by decide); rw [fP] at e8 o8
  have etx : A7 ++ iD x.els = acc ++ x.tx := by rw [S.DV, ← hA7, ← hA6, ← hA5, ← hA4, ← hA3, ← hA2, ← hA1]; simp only [List.append_assoc]
  generalize hA8 : A7 ++ iD x.els = A8 at e8 o8 etx; have hstx := oA p x
  obtain ⟨vs, c9, tk9, h9⟩ := tw s xs0 hb xs (p ++ [x]) A8 c8 tk8 (by simp [hx]) (by rw [etx, hstx, ay, ay]; omega) o8 fun z hz => hf z (cf _ hz)
  refine ⟨vs, c9, tk9, ?_⟩; rw [show lI (x :: xs) = x.tx ++ lI xs from rfl, ← List.append_assoc, ← etx, ← h9]; refine bP ?_; have hhd : [[gR ⟨#[115, 116, 109, 116]⟩], [gR (fc x.op)], [gR x.name], [gR (fc x.n)], [gR (fc x.right.op)], [gR x.right.name], [gR (fc x.args.length)]] = strs x.hd := rfl
  have hb1 := fun st => (hf x bL st).1
  have hb2 := fun st => (hf x bL st).2
  clear hf h9 hz hs0 l0 l1 l2 l3 l4 l5 l6 l7 l8 l9 hxl hxp; simp [S53.b0, hlt, F8, r1, g1, S.len, S.whole, S.okc, iA, S.Df, S.Dg, S.Im, S.Dh, S.Il, S.Io, mZ, yl, iy, aF, iP, cq, fZ, laid, cw, ec, chunks, hhd, e1, S.Di, X.can, q1, e2, S.Fz, Pl.can, q2, e3, S.FA, q3, e4, S.Hw, q4, e5]; simp at h6; simp [h6, S.Ip, hb1, e7, S.Iq, hb2, e8, w1, o8.sfc]
theorem nV (xs : List S) : (iD xs).length = 2 + (lI xs).length := by simp [iD]; omega
theorem Dy : ∀ (n : Nat) (xs : List S), fv xs ≤ n → n ≤ 1000000 → ∀ st : St, E L (.func 53) [.sl (ep xs) .dead] st = some (.sl (strs (iD xs)) .dead, st) := by
 intro n
 induction n with
 | zero => exact fun xs h hn st => Iu xs 0 h hn (fun x hx => by have := tv hx; have := S.rH x; omega) st
 | succ n ih => exact fun xs h hn st => Iu xs (n + 1) h hn (fun x hx => by
  have := tv hx; have hz := S.rH x
  exact fun st => ⟨ih x.body (by omega) (by omega) st, ih x.els (by omega) (by omega) st⟩) st
where
 Iu (xs : List S) (n : Nat) (h : fv xs ≤ n) (hn : n ≤ 1000000) (hf : ∀ x ∈ xs, ∀ (st : St), E L (.func 53) [.sl (ep x.body) .dead] st = some (.sl (strs (iD x.body)) .dead, st) ∧ E L (.func 53) [.sl (ep x.els) .dead] st = some (.sl (strs (iD x.els)) .dead, st)) (st : St) :
  E L (.func 53) [.sl (ep xs) .dead] st = some (.sl (strs (iD xs)) .dead, st) := by
  obtain ⟨s, rfl⟩ : ∃ s : St, st = s.app [] [] [] := ⟨st, (al st).symm⟩
  obtain ⟨vs, c', tk', hl⟩ := tw s xs (by omega) xs [] [⟨#[114, 111, 119]⟩, fc xs.length] .full [] rfl rfl (Own.full ..) hf; rw [GU]; simp [S53, mZ, CY, jq, aF, iP, cq, fZ, laid, cw, ec, chunks]; simp [strs] at hl; rw [hl]; simp [iD, strs]
theorem xx (p : List ByteArray) (x : ByteArray) (xs : List ByteArray) : (strs (p ++ x :: xs))[p.length]? = some [gR x] := by simp [strs]
theorem xr (s : St) (xs0 ys0 : List ByteArray) (hb : xs0.length ≤ 1000000000) (hl : xs0.length = ys0.length) : ∀ (xs ys p q : List ByteArray), xs0 = p ++ xs → ys0 = q ++ ys → p.length = q.length →
 ∃ j : Int, itE (S22.b0 (E L) itE s.stk.length s.lp.length) [.sl (strs xs0) .dead, .sl (strs ys0) .dead, .v (.bool false), int xs0.length, int p.length] (s.app [] [] []) =
  some (bif decide (xs = ys) then .exit 0 else .ret, [.sl (strs xs0) .dead, .sl (strs ys0) .dead, .v (.bool false), int xs0.length, int j], s.app [] [] [])
 | [], ys, p, q, hx, hy, hp => by
  obtain rfl : ys = [] := by
   have := congrArg gG hx; have := congrArg gG hy
   simp at *
   exact List.length_eq_zero_iff.1 (by omega)
  refine ⟨p.length, ?_⟩; rw [mL]
  have e : xs0.length = p.length := by rw [hx]; simp
  simp [S22.b0, e]
 | x :: xs, ys, p, q, hx, hy, hp => by
  match ys, hy with
  | [], hy =>
   exfalso
   have := congrArg gG hx; have := congrArg gG hy
   simp at *
   omega
  | y :: ys, hy =>
   have hlt : (p.length : Int) < (xs0.length : Int) := by rw [hx]; simp; omega
   have g1 : (strs xs0)[p.length]? = some [gR x] := by rw [hx]; exact xx p x xs
   have g2 : (strs ys0)[p.length]? = some [gR y] := by rw [hy, hp]; exact xx q y ys
   have r1 : dv (p.length : Int) (strs xs0).length = true := by rw [eS, hx]; exact inR p x xs
   have r2 : dv (p.length : Int) (strs ys0).length = true := by rw [eS, hy, hp]; exact inR q y ys
   have w1 : IntKind.i64.wrap ((p.length : Int) + 1) = ((p ++ [x]).length : Int) := by rw [IntWalk.i64_in _ (by omega)]; simp
   have hstep : S22.b0 (E L) itE s.stk.length s.lp.length [.sl (strs xs0) .dead, .sl (strs ys0) .dead, .v (.bool false), int xs0.length, int p.length] (s.app [] [] []) =
    some (bif decide (x = y) then (.normal, [.sl (strs xs0) .dead, .sl (strs ys0) .dead, .v (.bool false), int xs0.length, int (p ++ [x]).length], s.app [] [] []) else
     (.ret, [.sl (strs xs0) .dead, .sl (strs ys0) .dead, .v (.bool false), int xs0.length, int p.length], s.app [] [] [])) := by
    by_cases hxy : x = y
    · subst hxy; simp [S22.b0, hlt, CQ, r1, r2, g1, g2, w1, AM.part]
    · simp [S22.b0, hlt, CQ, r1, r2, g1, g2, w1, hxy, AM.part]
   by_cases hxy : x = y
   · subst hxy
     rw [decide_eq_true rfl] at hstep; obtain ⟨j, hj⟩ := xr s xs0 ys0 hb hl xs ys (p ++ [x]) (q ++ [x]) (by simp [hx]) (by simp [hy]) (by simp [hp]); refine ⟨j, ?_⟩; rw [bP hstep, hj]; simp
   · rw [decide_eq_false hxy] at hstep
     refine ⟨p.length, ?_⟩; rw [eE hstep]; simp [hxy]
theorem HE (xs ys : List ByteArray) (hb : xs.length ≤ 1000000000) (st : St) : E L (.func 22) [.sl (strs xs) .dead, .sl (strs ys) .dead] st = some (.v (.bool (decide (xs = ys))), st) := by
 obtain ⟨s, rfl⟩ : ∃ s : St, st = s.app [] [] [] := ⟨st, (al st).symm⟩
 rw [GN]
 by_cases hl : xs.length = ys.length
 · obtain ⟨j, hj⟩ := xr s xs ys hb hl xs ys [] [] rfl rfl rfl
   simp [S22, qN, eS, hl] at hj ⊢; rw [hj]
   by_cases h : xs = ys <;> simp [h]
 · have : ¬ (xs.length : Int) = ys.length := by omega
   have h2 : ¬ xs = ys := fun e => hl (by rw [e])
   simp [S22, qN, eS, this, h2]
end Go.Proofs.YtlhlijaondmccaaGreatDoor.S
namespace Go.Proofs.YtlhlijaondmccaaGreatDoor.S
open Go Go.AM Go.Proofs
theorem eg {α β : Type} (a : α) (f : α → Option β) : (some a).bind f = f a := by
 cases h : f a with
 | none => exact h
 | some b => exact h
theorem ej {α β : Type} {x y : Option α} (f : α → Option β) (h : x = y) : x.bind f = y.bind f := by rw [h]
inductive PR (α : Type) where
 | ok (a : α) (l : List Tok)
 | bad (e : Nat) (q : Nat × Nat)
def PR.map {α β : Type} (f : α → β) : PR α → PR β
 | .ok a l => .ok (f a) l
 | .bad e q => .bad e q
def pb {α β : Type} (x : Option (PR α)) (K : α → List Tok → Option (PR β)) : Option (PR β) := match x with
 | none => none
 | some (.bad e q) => some (.bad e q)
 | some (.ok a l) => K a l
def IX : Tok := ⟨0, [], 0, (0, 0)⟩
def hd (l : List Tok) : Tok := l.headD IX
def isT (l : List Tok) (s : List UInt8) : Bool := (decide ((hd l).kind = 2) || decide ((hd l).kind = 5)) && decide ((hd l).text = s)
def dI (l : List Tok) : List Tok := if (hd l).kind = 0 then l else l.tail
def dJ (s : List UInt8) (l : List Tok) : PR Tok := if isT l s then .ok (hd l) l.tail else .bad 4 (hd l).p
def eU (k : Nat) (l : List Tok) : PR Tok := if (hd l).kind = k then .ok (hd l) (dI l) else .bad 4 (hd l).p
def pL {α : Type} (d : Nat) (t : Tok) (x : Option (PR α)) : Option (PR α) := if 12 < d + 1 then some (.bad 10 t.p) else x
structure Ty2 where
 kd : Int
 rc : ByteArray
def vM (l : List Tok) : PR Ty2 :=
 if isT l [105, 110, 116] then .ok ⟨1, bs []⟩ l.tail else
 if isT l [114, 101, 97, 108] then .ok ⟨2, bs []⟩ l.tail else
 if isT l [105, 110, 116, 115] then .ok ⟨3, bs []⟩ l.tail else
 (eU 1 l).map fun t => ⟨4, bs t.text⟩
structure Nm where
 name : ByteArray
 ty : Ty2
 line : Int
 col : Int
def mO (l : List Tok) : Option (PR Nm) :=
 pb (some (eU 1 l)) fun t l1 => pb (some (dJ [58] l1)) fun _ l2 => pb (some (vM l2)) fun ty l3 => some (.ok ⟨bs t.text, ty, t.p.1, t.p.2⟩ l3)
def im : Nat → List (List UInt8)
 | 0 => [[61, 61], [33, 61], [60], [60, 61]]
 | 1 => [[43], [45]]
 | _ => [[42], [47], [37]]
def wj (w : List UInt8) : Int := if w = [43] then 0 else if w = [45] then 1 else if w = [42] then 2 else if w = [47] then 3 else if w = [37] then 4 else if w = [61, 61] then 5 else if w = [33, 61] then 6 else if w = [60] then 7 else if w = [60, 61] then 8 else 0
def lH (lv : Nat) (t : Tok) : Option Int := if t.kind = 5 ∧ (im lv).contains t.text = true then some (wj t.text) else none
def iI (t : Tok) : Int :=
 if t.kind = 2 ∨ t.kind = 5 then
  if t.text = [45] then 6 else if t.text = [114, 101, 97, 108] then 7 else if t.text = [116, 114, 117, 110, 99] then 8 else 0
 else 0
def x0 : X := ⟨0, 0, 0, 0, bs [], bs [], [], 0, 0⟩
def atX (t : Tok) (op n kd : Int) (rc name : List UInt8) : X := ⟨op, 0, n, kd, bs rc, bs name, [], t.p.1, t.p.2⟩
mutual
def lO : Nat → Nat → List Tok → Option (PR X)
 | 0, _, _ => none
 | n + 1, d, l =>
  let t := hd l
  if t.kind = 3 then some (.ok (atX t 1 t.n 0 [] []) (dI l)) else
  if t.kind = 4 then some (.ok (atX t 2 t.n 0 [] []) (dI l)) else
  if t.kind = 1 then some (.ok (atX t 5 0 0 [] t.text) (dI l)) else
  if t.kind = 2 ∧ t.text = [105, 110, 112, 117, 116] then some ((eU 3 (dI l)).map fun u => atX t 4 u.n 0 [] []) else
  if t.kind = 2 ∧ t.text = [110, 105, 108] then
   (if isT (dI l) [105, 110, 116, 115] then some (.ok (atX t 3 0 3 [] []) (dI l).tail) else some ((eU 1 (dI l)).map fun u => atX t 3 0 4 u.text [])) else
  if t.kind = 5 ∧ t.text = [40] then pL d t (pb (ff n 0 (d + 1) (dI l)) fun e l1 => pb (some (dJ [41] l1)) fun _ l2 => some (.ok e l2)) else
  some (.bad 4 t.p)
def iv : Nat → Nat → List Tok → Option (PR X)
 | 0, _, _ => none
 | n + 1, d, l =>
  let t := hd l
  if iI t = 0 then lO n d l else
  pL d t (pb (iv n (d + 1) (dI l)) fun k l1 => some (.ok ⟨iI t, 0, 0, 0, bs [], bs [], [k], t.p.1, t.p.2⟩ l1))
def ff : Nat → Nat → Nat → List Tok → Option (PR X)
 | 0, _, _, _ => none
 | n + 1, lv, d, l => if lv = 3 then iv n d l else pb (ff n (lv + 1) d l) fun e l1 => j9 n lv d e l1
def j9 : Nat → Nat → Nat → X → List Tok → Option (PR X)
 | 0, _, _, _, _ => none
 | n + 1, lv, d, e, l =>
  let t := hd l
  match lH lv t with
  | none => some (.ok e l)
  | some b => pb (ff n (lv + 1) d (dI l)) fun k l1 =>
   if lv = 0 then some (.ok ⟨9, b, 0, 0, bs [], bs [], [e, k], t.p.1, t.p.2⟩ l1) else j9 n lv d ⟨9, b, 0, 0, bs [], bs [], [e, k], t.p.1, t.p.2⟩ l1
end
def nQ (n d : Nat) (l : List Tok) : Option (PR Pl) :=
 pb (some (eU 1 l)) fun t l1 =>
  if isT l1 [46] then pb (some (eU 1 l1.tail)) fun u l2 => some (.ok ⟨2, bs t.text, bs u.text, x0, t.p.1, t.p.2⟩ l2) else
  if isT l1 [91] then pb (ff n 0 d l1.tail) fun e l2 => pb (some (dJ [93] l2)) fun _ l3 => some (.ok ⟨3, bs t.text, bs [], e, t.p.1, t.p.2⟩ l3) else
  some (.ok ⟨1, bs t.text, bs [], x0, t.p.1, t.p.2⟩ l1)
def pl0 : Pl := ⟨0, bs [], bs [], x0, 0, 0⟩
def jw (n d : Nat) (l : List Tok) : Option (PR Rt) :=
 let t := hd l
 if isT l [108, 111, 97, 100] then pb (nQ n d l.tail) fun x l1 => some (.ok ⟨2, x0, x, bs [], t.p.1, t.p.2⟩ l1) else
 if isT l [115, 105, 122, 101] then pb (some (eU 1 l.tail)) fun u l1 => some (.ok ⟨5, x0, pl0, bs u.text, t.p.1, t.p.2⟩ l1) else
 if isT l [110, 101, 119] then
  (if isT l.tail [105, 110, 116, 115] then pb (ff n 0 d l.tail.tail) fun e l1 => some (.ok ⟨4, e, pl0, bs [], t.p.1, t.p.2⟩ l1)
   else pb (some (eU 1 l.tail)) fun u l1 => some (.ok ⟨3, x0, pl0, bs u.text, t.p.1, t.p.2⟩ l1)) else
 pb (ff n 0 d l) fun e l1 => some (.ok ⟨1, e, pl0, bs [], t.p.1, t.p.2⟩ l1)
def lN : Nat → Nat → Nat → List X → List Tok → Option (PR (List X))
 | 0, _, _, _, _ => none
 | n + 1, m, d, acc, l => pb (ff m 0 d l) fun e l1 =>
  if isT l1 [41] then some (.ok (acc ++ [e]) l1.tail) else pb (some (dJ [44] l1)) fun _ l2 => lN n m d (acc ++ [e]) l2
def sn (n d : Nat) (l : List Tok) : Option (PR (List X)) := pb (some (dJ [40] l)) fun _ l1 => if isT l1 [41] then some (.ok [] l1.tail) else lN n n d [] l1
def rt0 : Rt := ⟨0, x0, pl0, bs [], 0, 0⟩
abbrev mkS (t : Tok) (op : Int) (name : ByteArray) (right : Rt) (place : Pl) (e : X) (n : Int) (args : List X) (body els : List S) : S := ⟨op, name, right, place, e, n, args, body, els, t.p.1, t.p.2⟩
def gj (l : List Tok) : ByteArray × List Tok := if (hd l).kind = 1 then (bs (hd l).text, dI l) else (bs [], l)
def gQ (s : S) (l : List Tok) : Option (PR S) := pb (some (dJ [59] l)) fun _ l1 => some (.ok s l1)
mutual
def fX : Nat → Nat → List Tok → Option (PR (List S))
 | 0, _, _ => none
 | n + 1, d, l => pb (some (dJ [123] l)) fun t l1 => pL d t (oH n (d + 1) [] l1)
def oH : Nat → Nat → List S → List Tok → Option (PR (List S))
 | 0, _, _, _ => none
 | n + 1, d, acc, l => if isT l [125] then some (.ok acc l.tail) else pb (mm n d l) fun s l1 => oH n d (acc ++ [s]) l1
def jI : Nat → Nat → Tok → ByteArray → List Tok → Option (PR S)
 | 0, _, _, _, _ => none
 | n + 1, d, t, name, l => pb (some (eU 3 l)) fun u l1 => pb (fX n d l1) fun b l2 => some (.ok (mkS t 7 name rt0 pl0 x0 (IntKind.i64.wrap u.n) [] b []) l2)
def mm : Nat → Nat → List Tok → Option (PR S)
 | 0, _, _ => none
 | n + 1, d, l =>
  let t := hd l
  if t.kind = 1 then
   (if isT (dI l) [58] then pb (some (dJ [108, 111, 111, 112] (dI l).tail)) fun _ l1 => jI n d t (bs t.text) l1
    else pb (some (dJ [61] (dI l))) fun _ l1 => pb (jw n d l1) fun r l2 => gQ (mkS t 3 (bs t.text) r pl0 x0 0 [] [] []) l2) else
  if isT l [108, 111, 111, 112] then jI n d t (bs []) l.tail else
  if isT l [105, 102] then
   pb (ff n 0 d l.tail) fun e l1 => pb (fX n d l1) fun b l2 =>
    (if isT l2 [101, 108, 115, 101] then pb (fX n d l2.tail) fun c l3 => some (.ok (mkS t 6 (bs []) rt0 pl0 e 0 [] b c) l3) else some (.ok (mkS t 6 (bs []) rt0 pl0 e 0 [] b []) l2)) else
  if isT l [97, 116, 111, 109, 105, 99] then pb (fX n d l.tail) fun b l1 => some (.ok (mkS t 10 (bs []) rt0 pl0 x0 0 [] b []) l1) else
  if isT l [108, 101, 116] ∨ isT l [118, 97, 114] then
   pb (some (eU 1 (dI l))) fun u l1 => pb (some (dJ [61] l1)) fun _ l2 => pb (jw n d l2) fun r l3 => gQ (mkS t (if t.text = [118, 97, 114] then 2 else 1) (bs u.text) r pl0 x0 0 [] [] []) l3 else
  if isT l [115, 101, 116] then pb (nQ n d l.tail) fun x l1 => pb (some (dJ [61] l1)) fun _ l2 => pb (ff n 0 d l2) fun e l3 => gQ (mkS t 4 (bs []) rt0 x e 0 [] [] []) l3 else
  if isT l [112, 114, 105, 110, 116] then pb (ff n 0 d l.tail) fun e l1 => gQ (mkS t 5 (bs []) rt0 pl0 e 0 [] [] []) l1 else
  if isT l [98, 114, 101, 97, 107] then gQ (mkS t 8 (gj l.tail).1 rt0 pl0 x0 0 [] [] []) (gj l.tail).2 else
  if isT l [99, 111, 110, 116, 105, 110, 117, 101] then gQ (mkS t 9 (gj l.tail).1 rt0 pl0 x0 0 [] [] []) (gj l.tail).2 else
  if isT l [99, 97, 108, 108] then
   pb (some (eU 1 l.tail)) fun u l1 => pb (sn n d l1) fun xs l2 => gQ (mkS t 11 (bs u.text) rt0 pl0 x0 0 xs [] []) l2 else
  some (.bad 4 t.p)
end
structure Rec where
 name : ByteArray
 fields : List Nm
 line : Int
 col : Int
structure Fu where
 name : ByteArray
 params : List Nm
 body : List S
 line : Int
 col : Int
structure Th where
 body : List S
 line : Int
 col : Int
structure Pg where
 fO : List Rec
 gls : List Nm
 fQ : List Fu
 ths : List Th
def iM : Nat → List Nm → List Tok → Option (PR (List Nm))
 | 0, _, _ => none
 | n + 1, acc, l => if isT l [125] then some (.ok acc l.tail) else pb (mO l) fun f l1 => pb (some (dJ [59] l1)) fun _ l2 => iM n (acc ++ [f]) l2
def yA (n : Nat) (l : List Tok) : Option (PR Rec) :=
 pb (some (eU 1 l)) fun t l1 => pb (some (dJ [123] l1)) fun _ l2 => pb (iM n [] l2) fun fs l3 => some (.ok ⟨bs t.text, fs, t.p.1, t.p.2⟩ l3)
def iu : Nat → List Nm → List Tok → Option (PR (List Nm))
 | 0, _, _ => none
 | n + 1, acc, l => pb (mO l) fun f l1 => if isT l1 [41] then some (.ok (acc ++ [f]) l1.tail) else pb (some (dJ [44] l1)) fun _ l2 => iu n (acc ++ [f]) l2
def AW (n : Nat) (l : List Tok) : Option (PR Fu) :=
 pb (some (eU 1 l)) fun t l1 => pb (some (dJ [40] l1)) fun _ l2 =>
  pb (if isT l2 [41] then some (.ok [] l2.tail) else iu n [] l2) fun ps l3 => pb (fX n 0 l3) fun b l4 => some (.ok ⟨bs t.text, ps, b, t.p.1, t.p.2⟩ l4)
def gz : Nat → Nat → Pg → List Tok → Option (PR Pg)
 | 0, _, _, _ => none
 | n + 1, m, g, l =>
  let t := hd l
  if t.kind = 0 then some (.ok g l) else
  if isT l [114, 101, 99, 111, 114, 100] then pb (yA m l.tail) fun r l1 => gz n m { g with fO := g.fO ++ [r] } l1 else
  if isT l [103, 108, 111, 98, 97, 108] then pb (mO l.tail) fun x l1 => pb (some (dJ [59] l1)) fun _ l2 => gz n m { g with gls := g.gls ++ [x] } l2 else
  if isT l [102, 117, 110] then pb (AW m l.tail) fun f l1 => gz n m { g with fQ := g.fQ ++ [f] } l1 else
  if isT l [116, 104, 114, 101, 97, 100] then pb (fX m 0 l.tail) fun b l1 => gz n m { g with ths := g.ths ++ [⟨b, t.p.1, t.p.2⟩] } l1 else
  some (.bad 4 t.p)
def GB (ts : List Tok) : Prop := ∀ t ∈ ts, t.kind = 2 → ∀ lv, lv < 3 → (im lv).contains t.text = false
end Go.Proofs.YtlhlijaondmccaaGreatDoor.S
namespace Go.Proofs.YtlhlijaondmccaaGreatDoor.S
open Go Go.AM Go.Proofs
attribute [local simp] cZ cy bX bY cz eI fu dX di dV de dW dh ft bZ hZ dR ib gU gN AM.aa aN aO bf aP aw AM.onG fR bH dw Ex.ba cond_true cond_false cV cU cT cS cR cX cQ cY cW dY dj dm cx da AM.du AM.cellsOf AM.an bQ beq_true dr ag aC bj bx bU decide_true decide_false bI bn br bD bg aB aA bh aD db dc fm av bE aY bR cC dQ dT cL eB eA set_set eG dB fI dC cI bK dA cH dz cG dy eF eH fE fF bO cv eu fD dZ aZ aT aI AM.aS ai dt bW aW bc aL aK AM.part aQ aM cc cn cm cr cr.eT AM.dM bu bV eg gm aZ laid aH bm cq
attribute [-simp] ah
attribute [local congr] ej
abbrev pcf (es : List (List PV)) (a d e q1 q2 : Int) : List PV := [.sl es .dead, .v (.int .i64 a), .v (.int .i64 d), .v (.int .i64 e), .v (.int .i64 q1), .v (.int .i64 q2)]
abbrev pcA (ts l : List Tok) : Int := ((ts.length - l.length : Nat) : Int)
abbrev pc (ts l : List Tok) (d : Nat) : List PV := pcf (az ts) (pcA ts l) d 0 0 0
structure Row (ts : List Tok) : Prop where
 len : ts.length < 100000
 shape : ∃ t0 q, ts = t0 ++ [⟨0, [], 0, q⟩] ∧ ∀ t ∈ t0, t.kind ≠ 0
 num : ∀ t ∈ ts, t.n < 9223372036854775808 ∨ t.kind = 4
 txt : ∀ t ∈ ts, t.text.length < 1000000
 sign : ∀ t ∈ ts, t.kind = 5 → ∀ c ∈ t.text, c ≠ 32
def Sfx (ts l : List Tok) : Prop := l ≠ [] ∧ ∃ dn, ts = dn ++ l
theorem Sfx.cons {ts l : List Tok} (h : Sfx ts l) : ∃ t r, l = t :: r := by
 obtain ⟨h1, _⟩ := h
 cases l with
 | nil => exact absurd rfl h1
 | cons t r => exact ⟨t, r, rfl⟩
theorem Sfx.tail {ts l : List Tok} (hr : Row ts) (h : Sfx ts l) (hk : (hd l).kind ≠ 0) : Sfx ts l.tail := by
 obtain ⟨t, r, rfl⟩ := h.cons; obtain ⟨_, dn, rfl⟩ := h; refine ⟨?_, dn ++ [t], by simp⟩; intro e; have e : r = [] := e; subst e; obtain ⟨t0, q, h1, _⟩ := hr.shape; have := List.append_inj_right' h1 rfl; obtain rfl := (List.cons.inj this).1; exact hk rfl
theorem Sfx.next {ts l : List Tok} (hr : Row ts) (h : Sfx ts l) : Sfx ts (dI l) := by
 unfold dI; split
 · exact h
 · rename_i hk; exact h.tail hr hk
theorem CS {l : List Tok} {s : List UInt8} (h : isT l s = true) : (hd l).kind ≠ 0 := by
 unfold isT at h; simp only [aq, Bool.or_eq_true, decide_eq_true_eq] at h; omega
theorem Sfx.isT {ts l : List Tok} (hr : Row ts) (h : Sfx ts l) {s : List UInt8} (hi : isT l s = true) : Sfx ts l.tail := h.tail hr (CS hi)
theorem Dj {ts l : List Tok} (h : Sfx ts l) : pcA ts l.tail = pcA ts l + 1 := by
 obtain ⟨t, r, rfl⟩ := h.cons; obtain ⟨_, dn, rfl⟩ := h; simp only [pcA, List.tail_cons, ay, ag]; omega
theorem FC {ts l : List Tok} (hr : Row ts) : 0 ≤ pcA ts l ∧ pcA ts l < 100000 := by
 have := hr.len
 simp only [pcA]; omega
theorem w7 {ts l : List Tok} (hr : Row ts) (h : Sfx ts l) : IntKind.i64.wrap (pcA ts l + 1) = pcA ts l.tail := by
 have := FC (l := l) hr; rw [Dj h, IntWalk.i64_in _ (by omega)]
theorem Ca {ts l : List Tok} (h : Sfx ts l) : bJ Tryz.prog 101 (.sl (az ts) .dead) (.v (.int .i64 (pcA ts l))) = some (.fp (hd l).c 0) := by
 obtain ⟨t, r, rfl⟩ := h.cons; obtain ⟨_, dn, rfl⟩ := h
 have e : pcA (dn ++ t :: r) (t :: r) = (dn.length : Int) := by simp only [pcA, ay]; omega
 rw [e, Hn]
 have h1 : dv (dn.length : Int) (az (dn ++ t :: r)).length = true := by rw [gu]; exact inR dn t r
 have h2 : (az (dn ++ t :: r))[(dn.length : Int).toNat]? = some t.c := by simp [az]
 rw [h1, h2]
 rfl
theorem aE {f : Nat} {args : List PV} {b : Nat} {c d : List PV} {x : PV} (h : ∀ X : St, b < X.stk.length → E L (.func f) args (X.af false b c) = some (x, X.af false b d)) {s : St} (hb : b < s.stk.length) (bl : List Blk) (tk : List (Nat × Nat)) (lp : List Aux) :
 E L (.func f) args ((s.af false b c).app bl tk lp) = some (x, (s.af false b d).app bl tk lp) := by
 rw [← bO bl tk lp hb, ← bO bl tk lp hb]; exact h _ (by rw [cC]; omega)
theorem ef {ts l : List Tok} (h : Sfx ts l) (d e q1 q2 : Int) {b : Nat} : ∀ X : St, b < X.stk.length → E L (.func 67) [.ptr false b 0] (X.af false b (pcf (az ts) (pcA ts l) d e q1 q2)) = some (.agg (hd l).c, X.af false b (pcf (az ts) (pcA ts l) d e q1 q2)) := by
 intro X hb; rw [GZ]; obtain ⟨N, T, Lb, hN, hT, hL⟩ := lens3 X; rw [hN] at hb
 conv => lhs; rw [← al (X.af false b (pcf (az ts) (pcA ts l) d e q1 q2))]
 have hi := Ca h
 generalize pcA ts l = a at *
 generalize az ts = es at *
 generalize hd l = t at *
 simp only [Tok.c, bw] at hi ⊢; simp [S67, pcf, hN, hT, hL, hb, hi, laid, aH]
theorem lr {ts l : List Tok} (hr : Row ts) (h : Sfx ts l) (d : Nat) {b : Nat} : ∀ X : St, b < X.stk.length → E L (.func 151) [.ptr false b 0] (X.af false b (pc ts l d)) = some (.agg (hd l).c, X.af false b (pc ts (dI l) d)) := by
 intro X hb; rw [EI]; obtain ⟨N, T, Lb, hN, hT, hL⟩ := lens3 X; rw [hN] at hb
 conv => lhs; rw [← al (X.af false b (pc ts l d))]
 have hi := Ca h; have hw := w7 hr h; unfold pc dI
 by_cases hk : (hd l).kind = 0
 · rw [if_pos hk]
   generalize pcA ts l = a at *
   generalize az ts = es at *
   generalize hd l = t at *
   simp only [Tok.c, bw, hk] at hi ⊢; simp [GJ, pcf, hN, hT, hL, hb, hi, laid, aH]
 · rw [if_neg hk]
   have hk' : ¬ (((hd l).kind : Int) = 0) := by omega
   generalize pcA ts l = a at *
   generalize pcA ts l.tail = a' at *
   generalize az ts = es at *
   generalize hd l = t at *
   simp only [Tok.c, bw] at hi ⊢; simp [GJ, pcf, hN, hT, hL, hb, hi, hk, hk', hw, laid, aH]
theorem j8 {ts l : List Tok} (h : Sfx ts l) (d e q1 q2 : Int) (w : List UInt8) {b : Nat} : ∀ X : St, b < X.stk.length → E L (.func 120) [.ptr false b 0, str w] (X.af false b (pcf (az ts) (pcA ts l) d e q1 q2)) = some (.v (.bool (isT l w)), X.af false b (pcf (az ts) (pcA ts l) d e q1 q2)) := by
 intro X hb; have e67 := aE (ef h d e q1 q2 (b := b)) hb; rw [Ez]; obtain ⟨N, T, Lb, hN, hT, hL⟩ := lens3 X; rw [hN] at hb
 conv => lhs; rw [← al (X.af false b (pcf (az ts) (pcA ts l) d e q1 q2))]
 unfold isT
 generalize pcA ts l = a at *
 generalize az ts = es at *
 generalize hd l = t at *
 simp only [Tok.c, bw, pcf] at e67
 by_cases h2 : t.kind = 2
 · simp [Ey, pcf, hN, hT, hL, hb, e67, h2, laid, aH]
 · have h2' : ¬ ((t.kind : Int) = 2) := by omega
   by_cases h5 : t.kind = 5
   · simp [Ey, pcf, hN, hT, hL, hb, e67, h5, laid, aH]
   · have h5' : ¬ ((t.kind : Int) = 5) := by omega
     simp [Ey, pcf, hN, hT, hL, hb, e67, h2, h2', h5, h5', laid, aH]
theorem aG {ts l : List Tok} (hr : Row ts) (h : Sfx ts l) (d : Nat) (w : List UInt8) {b : Nat} : ∀ X : St, b < X.stk.length → E L (.func 68) [.ptr false b 0, str w] (X.af false b (pc ts l d)) = some (.v (.bool (isT l w)), X.af false b (pc ts (if isT l w then l.tail else l) d)) := by
 intro X hb; have e120 := aE (j8 h d 0 0 0 w (b := b)) hb; have hw := w7 hr h; rw [G0]; obtain ⟨N, T, Lb, hN, hT, hL⟩ := lens3 X; rw [hN] at hb
 conv => lhs; rw [← al (X.af false b (pc ts l d))]
 unfold pc
 cases hi : isT l w with
 | true =>
  rw [hi] at e120; simp only [if_true]
  generalize pcA ts l = a at *
  generalize pcA ts l.tail = a' at *
  simp only [pcf] at e120; simp [S68, pcf, hN, hT, hL, hb, e120, hw, laid, aH]
 | false =>
  rw [hi] at e120; simp only [ae, if_false]
  generalize pcA ts l = a at *
  simp only [pcf] at e120; simp [S68, pcf, hN, hT, hL, hb, e120, laid, aH]
theorem yi : jh Tryz.prog 108 (.agg []) = some (.ifc 108 (.agg #[])) := by kernel_rfl
theorem vw {s : St} {bl : List Blk} {tk : List (Nat × Nat)} {lp : List Aux} {b off base sz : Nat} {old cs : List PV} (hb : b < s.stk.length) (ho : off + cs.length ≤ old.length) (hz : cs.length = sz) (h0 : sz ≠ 0) (hs : cs.all ra = true) (hk : aH cs = true) :
 au base sz (.ptr false b off) (.agg cs) ((s.af false b old).app bl tk lp) = some ((s.af false b (laid old off cs)).app bl tk lp) := by
 have h1 : ((s.af false b old).app bl tk lp).blk false b = some old := by rw [ny (by rw [cL]; exact hb), vI old hb]
 have h2 : ∀ ds, ((s.af false b old).app bl tk lp).af false b ds = (s.af false b ds).app bl tk lp := fun ds => by rw [bO _ _ _ (by rw [cL]; exact hb), set_set]
 have h3 : dL (off + cs.length) old.length = true := by rw [Nat.ble_eq]; exact ho
 have h5 : (ak cs.length sz && !ak sz 0) = true := by
  rw [hz, Nat.beq_refl]
  cases sz with
  | zero => exact absurd rfl h0
  | succ n => rfl
 simp only [au, AM.cellsOf, ah, putCells, h1, h3, hk, h5, br, cond_true]
 cases gn b base <;> simp [ko hs, h2]
theorem oi (es : List (List PV)) (a d : Int) (e : Nat) (t : Tok) {b : Nat} : ∀ X : St, b < X.stk.length → E L (.func 74) [.ptr false b 0, .v (.int .i64 (e : Int)), .agg t.c] (X.af false b (pcf es a d 0 0 0)) = some (.pan 108 (.agg #[]), X.af false b (pcf es a d e t.p.1 t.p.2)) := by
 intro X hb; rw [G3]; obtain ⟨N, T, Lb, hN, hT, hL⟩ := lens3 X; rw [hN] at hb
 conv => lhs; rw [← al (X.af false b (pcf es a d 0 0 0))]
 simp only [Tok.c, bw]; generalize (e : Int) = e'
 have hs : ∀ bl tk lp, au N 3 (.ptr false b 3) (.agg [.v (.int .i64 e'), .v (.int .i64 (t.p.1 : Int)), .v (.int .i64 (t.p.2 : Int))]) ((X.af false b (pcf es a d 0 0 0)).app bl tk lp) = some ((X.af false b (pcf es a d e' t.p.1 t.p.2)).app bl tk lp) := fun bl tk lp => vw (hN ▸ hb) (by simp) rfl (by omega) rfl rfl
 simp only [pcf] at hs; simp [S74, pcf, hN, hT, hL, hb, hs, yi, bm, cq, laid, aH, uw]
def Rd {α : Type} (f : Nat) (args : List PV) (ts : List Tok) (d d' : Nat) (l : List Tok) (enc : α → PV) (x : PR α) : Prop := match x with
 | .ok a l' => Sfx ts l' ∧ ∀ b (X : St), b < X.stk.length → E L (.func f) (.ptr false b 0 :: args) (X.af false b (pc ts l d)) = some (enc a, X.af false b (pc ts l' d'))
 | .bad e q => ∃ a' d'', ∀ b (X : St), b < X.stk.length → E L (.func f) (.ptr false b 0 :: args) (X.af false b (pc ts l d)) = some (.pan 108 (.agg #[]), X.af false b (pcf (az ts) a' d'' e q.1 q.2))
abbrev aV (t : Tok) : PV := .agg t.c
theorem fe {ts l : List Tok} (hr : Row ts) (h : Sfx ts l) (d : Nat) (w : List UInt8) : Rd 71 [str w] ts d d l aV (dJ w l) := by
 have e67 := fun b X hb => aE (ef h d 0 0 0 (b := b)) (s := X) hb
 have e68 := fun b X hb => aE (aG hr h d w (b := b)) (s := X) hb
 unfold dJ Rd
 cases hi : isT l w with
 | true =>
  rw [hi] at e68; simp only [if_true] at e68 ⊢; refine ⟨h.isT hr hi, fun b X hb => ?_⟩; have e67 := e67 b X hb; have e68 := e68 b X hb; rw [B7]; obtain ⟨N, T, Lb, hN, hT, hL⟩ := lens3 X; rw [hN] at hb
  conv => lhs; rw [← al (X.af false b (pc ts l d))]
  simp only [pc, pcf, Tok.c, bw] at e67 e68 ⊢
  generalize hd l = t at *
  generalize pcA ts l = a at *
  generalize pcA ts l.tail = a' at *
  generalize az ts = es at *
  simp [S71, pcf, hN, hT, hL, hb, e67, e68, laid, aH]
 | false =>
  rw [hi] at e68; simp only [ae, if_false] at e68 ⊢; refine ⟨pcA ts l, d, fun b X hb => ?_⟩; have e67 := e67 b X hb; have e68 := e68 b X hb; have e74 := aE (oi (az ts) (pcA ts l) d 4 (hd l) (b := b)) hb; rw [B7]; obtain ⟨N, T, Lb, hN, hT, hL⟩ := lens3 X; rw [hN] at hb
  conv => lhs; rw [← al (X.af false b (pc ts l d))]
  simp only [pc, pcf, Tok.c, bw, ab] at e67 e68 e74 ⊢
  generalize hd l = t at *
  generalize pcA ts l = a at *
  generalize az ts = es at *
  simp [S71, pcf, hN, hT, hL, hb, e67, e68, e74, laid, aH, aZ, gm]
theorem ir {ts l : List Tok} (hr : Row ts) (h : Sfx ts l) (d : Nat) (k : Nat) : Rd 121 [.v (.int .i64 (k : Int))] ts d d l aV (eU k l) := by
 have e67 := fun b X hb => aE (ef h d 0 0 0 (b := b)) (s := X) hb
 have e151 := fun b X hb => aE (lr hr h d (b := b)) (s := X) hb
 unfold eU Rd
 by_cases hk : (hd l).kind = k
 · rw [if_pos hk]
   refine ⟨h.next hr, fun b X hb => ?_⟩; have e67 := e67 b X hb; have e151 := e151 b X hb; rw [zc]; obtain ⟨N, T, Lb, hN, hT, hL⟩ := lens3 X; rw [hN] at hb
   conv => lhs; rw [← al (X.af false b (pc ts l d))]
   simp only [pc, pcf, Tok.c, bw, hk] at e67 e151 ⊢
   generalize hd l = t at *
   generalize pcA ts l = a at *
   generalize pcA ts (dI l) = a' at *
   generalize az ts = es at *
   simp [GF, pcf, hN, hT, hL, hb, e67, e151, hk, laid, aH]
 · rw [if_neg hk]
   refine ⟨pcA ts l, d, fun b X hb => ?_⟩; have e67 := e67 b X hb; have e74 := aE (oi (az ts) (pcA ts l) d 4 (hd l) (b := b)) hb
   have hk' : ¬ (((hd l).kind : Int) = (k : Int)) := by omega
   rw [zc]; obtain ⟨N, T, Lb, hN, hT, hL⟩ := lens3 X; rw [hN] at hb
   conv => lhs; rw [← al (X.af false b (pc ts l d))]
   simp only [pc, pcf, Tok.c, bw, ab] at e67 e74 ⊢
   generalize hd l = t at *
   generalize pcA ts l = a at *
   generalize az ts = es at *
   simp [GF, pcf, hN, hT, hL, hb, e67, e74, hk, hk', laid, aH, aZ, gm]
theorem vh {ts l : List Tok} (h : Sfx ts l) (d : Nat) (t : Tok) (hd : d < 1000) : Rd 123 [.agg t.c] ts d (d + 1) l (fun _ : Unit => .tup []) (if 12 < d + 1 then .bad 10 t.p else .ok () l) := by
 have hw : IntKind.i64.wrap ((d : Int) + 1) = ((d + 1 : Nat) : Int) := by rw [IntWalk.i64_in _ (by omega)]; omega
 unfold Rd
 by_cases hk : 12 < d + 1
 · rw [if_pos hk]
   refine ⟨pcA ts l, (d + 1 : Nat), fun b X hb => ?_⟩; have e74 := aE (oi (az ts) (pcA ts l) (d + 1 : Nat) 10 t (b := b)) hb
   have hk' : (12 : Int) < ((d + 1 : Nat) : Int) := by omega
   rw [zd]; obtain ⟨N, T, Lb, hN, hT, hL⟩ := lens3 X; rw [hN] at hb
   conv => lhs; rw [← al (X.af false b (pc ts l d))]
   simp only [pc, pcf, Tok.c, bw, ab] at e74 ⊢
   generalize pcA ts l = a at *
   generalize az ts = es at *
   generalize ((d + 1 : Nat) : Int) = d1 at *
   simp [GG, pcf, hN, hT, hL, hb, e74, hw, hk', laid, aH, aZ, gm]
 · rw [if_neg hk]
   refine ⟨h, fun b X hb => ?_⟩
   have hk' : ¬ ((12 : Int) < ((d + 1 : Nat) : Int)) := by omega
   rw [zd]; obtain ⟨N, T, Lb, hN, hT, hL⟩ := lens3 X; rw [hN] at hb
   conv => lhs; rw [← al (X.af false b (pc ts l d))]
   simp only [pc, pcf, Tok.c, bw]
   generalize pcA ts l = a at *
   generalize az ts = es at *
   generalize ((d + 1 : Nat) : Int) = d1 at *
   simp [GG, pcf, hN, hT, hL, hb, hw, hk', laid, aH, aZ, gm]
abbrev hI : PV := .agg [str [43], str [45], str [42], str [47], str [37], str [61, 61], str [33, 61], str [60], str [60, 61]]
theorem jz : kC Tryz.prog 126 [(0, str [43]), (1, str [45]), (2, str [42]), (3, str [47]), (4, str [37]), (5, str [61, 61]), (6, str [33, 61]), (7, str [60]), (8, str [60, 61])] = some hI := by kernel_rfl
theorem zJ (x0 x1 x2 x3 x4 x5 x6 x7 x8 : PV) : cJ Tryz.prog 126 (.agg [x0, x1, x2, x3, x4, x5, x6, x7, x8]) (.v (.int .i64 0)) = some x0 := by kernel_rfl
theorem zL (x0 x1 x2 x3 x4 x5 x6 x7 x8 : PV) : cJ Tryz.prog 126 (.agg [x0, x1, x2, x3, x4, x5, x6, x7, x8]) (.v (.int .i64 1)) = some x1 := by kernel_rfl
theorem zO (x0 x1 x2 x3 x4 x5 x6 x7 x8 : PV) : cJ Tryz.prog 126 (.agg [x0, x1, x2, x3, x4, x5, x6, x7, x8]) (.v (.int .i64 2)) = some x2 := by kernel_rfl
theorem zR (x0 x1 x2 x3 x4 x5 x6 x7 x8 : PV) : cJ Tryz.prog 126 (.agg [x0, x1, x2, x3, x4, x5, x6, x7, x8]) (.v (.int .i64 3)) = some x3 := by kernel_rfl
theorem zT (x0 x1 x2 x3 x4 x5 x6 x7 x8 : PV) : cJ Tryz.prog 126 (.agg [x0, x1, x2, x3, x4, x5, x6, x7, x8]) (.v (.int .i64 4)) = some x4 := by kernel_rfl
theorem zU (x0 x1 x2 x3 x4 x5 x6 x7 x8 : PV) : cJ Tryz.prog 126 (.agg [x0, x1, x2, x3, x4, x5, x6, x7, x8]) (.v (.int .i64 5)) = some x5 := by kernel_rfl
theorem zV (x0 x1 x2 x3 x4 x5 x6 x7 x8 : PV) : cJ Tryz.prog 126 (.agg [x0, x1, x2, x3, x4, x5, x6, x7, x8]) (.v (.int .i64 6)) = some x6 := by kernel_rfl
theorem zW (x0 x1 x2 x3 x4 x5 x6 x7 x8 : PV) : cJ Tryz.prog 126 (.agg [x0, x1, x2, x3, x4, x5, x6, x7, x8]) (.v (.int .i64 7)) = some x7 := by kernel_rfl
theorem zX (x0 x1 x2 x3 x4 x5 x6 x7 x8 : PV) : cJ Tryz.prog 126 (.agg [x0, x1, x2, x3, x4, x5, x6, x7, x8]) (.v (.int .i64 8)) = some x8 := by kernel_rfl
theorem Hf (w : List UInt8) (X : St) : E L (.func 189) [str w] X = some (.v (.int .i64 (wj w)), X) := by
 rw [EN]; obtain ⟨N, T, Lb, hN, hT, hL⟩ := lens3 X
 conv => lhs; rw [← al (X)]
 have s0 : w ≠ [43] → itE (fi.b0 (E L) itE N Lb) [str w, .v (.int .i64 0), hI, .v (.int .i64 0)] (X.app [] [] []) = itE (fi.b0 (E L) itE N Lb) [str w, .v (.int .i64 0), hI, .v (.int .i64 1)] (X.app [] [] []) := fun h => bP (by simp [fi.b0, hN, hT, hL, zJ, h, Ne.symm h, IntWalk.i64_in])
 have h0 : w = [43] → itE (fi.b0 (E L) itE N Lb) [str w, .v (.int .i64 0), hI, .v (.int .i64 0)] (X.app [] [] []) = some (.ret, [str w, .v (.int .i64 0), hI, .v (.int .i64 0)], X.app [] [] []) := fun h => eE (by subst h; simp [fi.b0, hN, hT, hL, zJ])
 have s1 : w ≠ [45] → itE (fi.b0 (E L) itE N Lb) [str w, .v (.int .i64 0), hI, .v (.int .i64 1)] (X.app [] [] []) = itE (fi.b0 (E L) itE N Lb) [str w, .v (.int .i64 0), hI, .v (.int .i64 2)] (X.app [] [] []) := fun h => bP (by simp [fi.b0, hN, hT, hL, zL, h, Ne.symm h, IntWalk.i64_in])
 have h1 : w = [45] → itE (fi.b0 (E L) itE N Lb) [str w, .v (.int .i64 0), hI, .v (.int .i64 1)] (X.app [] [] []) = some (.ret, [str w, .v (.int .i64 1), hI, .v (.int .i64 1)], X.app [] [] []) := fun h => eE (by subst h; simp [fi.b0, hN, hT, hL, zL])
 have s2 : w ≠ [42] → itE (fi.b0 (E L) itE N Lb) [str w, .v (.int .i64 0), hI, .v (.int .i64 2)] (X.app [] [] []) = itE (fi.b0 (E L) itE N Lb) [str w, .v (.int .i64 0), hI, .v (.int .i64 3)] (X.app [] [] []) := fun h => bP (by simp [fi.b0, hN, hT, hL, zO, h, Ne.symm h, IntWalk.i64_in])
 have h2 : w = [42] → itE (fi.b0 (E L) itE N Lb) [str w, .v (.int .i64 0), hI, .v (.int .i64 2)] (X.app [] [] []) = some (.ret, [str w, .v (.int .i64 2), hI, .v (.int .i64 2)], X.app [] [] []) := fun h => eE (by subst h; simp [fi.b0, hN, hT, hL, zO])
 have s3 : w ≠ [47] → itE (fi.b0 (E L) itE N Lb) [str w, .v (.int .i64 0), hI, .v (.int .i64 3)] (X.app [] [] []) = itE (fi.b0 (E L) itE N Lb) [str w, .v (.int .i64 0), hI, .v (.int .i64 4)] (X.app [] [] []) := fun h => bP (by simp [fi.b0, hN, hT, hL, zR, h, Ne.symm h, IntWalk.i64_in])
 have h3 : w = [47] → itE (fi.b0 (E L) itE N Lb) [str w, .v (.int .i64 0), hI, .v (.int .i64 3)] (X.app [] [] []) = some (.ret, [str w, .v (.int .i64 3), hI, .v (.int .i64 3)], X.app [] [] []) := fun h => eE (by subst h; simp [fi.b0, hN, hT, hL, zR])
 have s4 : w ≠ [37] → itE (fi.b0 (E L) itE N Lb) [str w, .v (.int .i64 0), hI, .v (.int .i64 4)] (X.app [] [] []) = itE (fi.b0 (E L) itE N Lb) [str w, .v (.int .i64 0), hI, .v (.int .i64 5)] (X.app [] [] []) := fun h => bP (by simp [fi.b0, hN, hT, hL, zT, h, Ne.symm h, IntWalk.i64_in])
 have h4 : w = [37] → itE (fi.b0 (E L) itE N Lb) [str w, .v (.int .i64 0), hI, .v (.int .i64 4)] (X.app [] [] []) = some (.ret, [str w, .v (.int .i64 4), hI, .v (.int .i64 4)], X.app [] [] []) := fun h => eE (by subst h; simp [fi.b0, hN, hT, hL, zT])
 have s5 : w ≠ [61, 61] → itE (fi.b0 (E L) itE N Lb) [str w, .v (.int .i64 0), hI, .v (.int .i64 5)] (X.app [] [] []) = itE (fi.b0 (E L) itE N Lb) [str w, .v (.int .i64 0), hI, .v (.int .i64 6)] (X.app [] [] []) := fun h => bP (by simp [fi.b0, hN, hT, hL, zU, h, Ne.symm h, IntWalk.i64_in])
 have h5 : w = [61, 61] → itE (fi.b0 (E L) itE N Lb) [str w, .v (.int .i64 0), hI, .v (.int .i64 5)] (X.app [] [] []) = some (.ret, [str w, .v (.int .i64 5), hI, .v (.int .i64 5)], X.app [] [] []) := fun h => eE (by subst h; simp [fi.b0, hN, hT, hL, zU])
 have s6 : w ≠ [33, 61] → itE (fi.b0 (E L) itE N Lb) [str w, .v (.int .i64 0), hI, .v (.int .i64 6)] (X.app [] [] []) = itE (fi.b0 (E L) itE N Lb) [str w, .v (.int .i64 0), hI, .v (.int .i64 7)] (X.app [] [] []) := fun h => bP (by simp [fi.b0, hN, hT, hL, zV, h, Ne.symm h, IntWalk.i64_in])
 have h6 : w = [33, 61] → itE (fi.b0 (E L) itE N Lb) [str w, .v (.int .i64 0), hI, .v (.int .i64 6)] (X.app [] [] []) = some (.ret, [str w, .v (.int .i64 6), hI, .v (.int .i64 6)], X.app [] [] []) := fun h => eE (by subst h; simp [fi.b0, hN, hT, hL, zV])
 have s7 : w ≠ [60] → itE (fi.b0 (E L) itE N Lb) [str w, .v (.int .i64 0), hI, .v (.int .i64 7)] (X.app [] [] []) = itE (fi.b0 (E L) itE N Lb) [str w, .v (.int .i64 0), hI, .v (.int .i64 8)] (X.app [] [] []) := fun h => bP (by simp [fi.b0, hN, hT, hL, zW, h, Ne.symm h, IntWalk.i64_in])
 have h7 : w = [60] → itE (fi.b0 (E L) itE N Lb) [str w, .v (.int .i64 0), hI, .v (.int .i64 7)] (X.app [] [] []) = some (.ret, [str w, .v (.int .i64 7), hI, .v (.int .i64 7)], X.app [] [] []) := fun h => eE (by subst h; simp [fi.b0, hN, hT, hL, zW])
 have s8 : w ≠ [60, 61] → itE (fi.b0 (E L) itE N Lb) [str w, .v (.int .i64 0), hI, .v (.int .i64 8)] (X.app [] [] []) = itE (fi.b0 (E L) itE N Lb) [str w, .v (.int .i64 0), hI, .v (.int .i64 9)] (X.app [] [] []) := fun h => bP (by simp [fi.b0, hN, hT, hL, zX, h, Ne.symm h, IntWalk.i64_in])
 have h8 : w = [60, 61] → itE (fi.b0 (E L) itE N Lb) [str w, .v (.int .i64 0), hI, .v (.int .i64 8)] (X.app [] [] []) = some (.ret, [str w, .v (.int .i64 8), hI, .v (.int .i64 8)], X.app [] [] []) := fun h => eE (by subst h; simp [fi.b0, hN, hT, hL, zX])
 have s9 : itE (fi.b0 (E L) itE N Lb) [str w, .v (.int .i64 0), hI, .v (.int .i64 9)] (X.app [] [] []) = some (.exit 0, [str w, .v (.int .i64 0), hI, .v (.int .i64 9)], X.app [] [] []) := fk (by simp [fi.b0, hN, hT, hL]); unfold wj
 by_cases g0 : w = [43]
 · rw [if_pos g0]
   have e := h0 g0; simp [fi, hN, hT, hL, jz, e]
 rw [if_neg g0]
 by_cases g1 : w = [45]
 · rw [if_pos g1]
   have e := h1 g1; rw [← s0 g0] at e; simp [fi, hN, hT, hL, jz, e]
 rw [if_neg g1]
 by_cases g2 : w = [42]
 · rw [if_pos g2]
   have e := h2 g2; rw [← s1 g1, ← s0 g0] at e; simp [fi, hN, hT, hL, jz, e]
 rw [if_neg g2]
 by_cases g3 : w = [47]
 · rw [if_pos g3]
   have e := h3 g3; rw [← s2 g2, ← s1 g1, ← s0 g0] at e; simp [fi, hN, hT, hL, jz, e]
 rw [if_neg g3]
 by_cases g4 : w = [37]
 · rw [if_pos g4]
   have e := h4 g4; rw [← s3 g3, ← s2 g2, ← s1 g1, ← s0 g0] at e; simp [fi, hN, hT, hL, jz, e]
 rw [if_neg g4]
 by_cases g5 : w = [61, 61]
 · rw [if_pos g5]
   have e := h5 g5; rw [← s4 g4, ← s3 g3, ← s2 g2, ← s1 g1, ← s0 g0] at e; simp [fi, hN, hT, hL, jz, e]
 rw [if_neg g5]
 by_cases g6 : w = [33, 61]
 · rw [if_pos g6]
   have e := h6 g6; rw [← s5 g5, ← s4 g4, ← s3 g3, ← s2 g2, ← s1 g1, ← s0 g0] at e; simp [fi, hN, hT, hL, jz, e]
 rw [if_neg g6]
 by_cases g7 : w = [60]
 · rw [if_pos g7]
   have e := h7 g7; rw [← s6 g6, ← s5 g5, ← s4 g4, ← s3 g3, ← s2 g2, ← s1 g1, ← s0 g0] at e; simp [fi, hN, hT, hL, jz, e]
 rw [if_neg g7]
 by_cases g8 : w = [60, 61]
 · rw [if_pos g8]
   have e := h8 g8; rw [← s7 g7, ← s6 g6, ← s5 g5, ← s4 g4, ← s3 g3, ← s2 g2, ← s1 g1, ← s0 g0] at e; simp [fi, hN, hT, hL, jz, e]
 rw [if_neg g8]; have e := s9; rw [← s8 g8, ← s7 g7, ← s6 g6, ← s5 g5, ← s4 g4, ← s3 g3, ← s2 g2, ← s1 g1, ← s0 g0] at e; simp [fi, hN, hT, hL, jz, e]
theorem vb : kC Tryz.prog 198 [(0, str [32, 61, 61, 32, 33, 61, 32, 60, 32, 60, 61, 32]), (1, str [32, 43, 32, 45, 32]), (2, str [32, 42, 32, 47, 32, 37, 32])] = some (.agg [str [32, 61, 61, 32, 33, 61, 32, 60, 32, 60, 61, 32], str [32, 43, 32, 45, 32], str [32, 42, 32, 47, 32, 37, 32]]) := by kernel_rfl
theorem DE (lv : Nat) (h : lv < 3) (X : St) : E L (.func 188) [.v (.int .i64 (lv : Int))] X = some (str (32 :: ja (im lv)), X) := by
 rw [EM]; obtain ⟨N, T, Lb, hN, hT, hL⟩ := lens3 X
 conv => lhs; rw [← al (X)]
 obtain rfl | rfl | rfl : lv = 0 ∨ lv = 1 ∨ lv = 2 := by omega
 · simp [EL, hN, hT, hL, vb, zK, im, ja]
 · simp [EL, hN, hT, hL, vb, zM, im, ja]
 · simp [EL, hN, hT, hL, vb, zP, im, ja]
theorem By {lv : Nat} {w : List UInt8} (hw : ∀ c ∈ w, c ≠ 32) : Lib.contains (32 :: ja (im lv)) (32 :: (w ++ [32])) = (im lv).contains w := by
 refine kF hw _ ?_; unfold im
 split <;> decide
theorem DW (w : List UInt8) (X : St) : E L (.func 197) [str w] X = some (.v (.int .i64 (if w = [45] then 6 else if w = [114, 101, 97, 108] then 7 else if w = [116, 114, 117, 110, 99] then 8 else 0)), X) := by
 rw [EO]; obtain ⟨N, T, Lb, hN, hT, hL⟩ := lens3 X
 conv => lhs; rw [← al (X)]
 by_cases h1 : w = [45]
 · simp [B5, hN, hT, hL, h1]
 · by_cases h2 : w = [114, 101, 97, 108]
   · simp [B5, hN, hT, hL, h2]
   · by_cases h3 : w = [116, 114, 117, 110, 99]
     · simp [B5, hN, hT, hL, h3]
     · simp [B5, hN, hT, hL, h1, h2, h3]
abbrev iT (t : Ty2) : PV := .agg [.v (.int .i64 t.kd), .v (.string t.rc)]
abbrev iS (x : Nm) : PV := .agg [.v (.string x.name), .v (.int .i64 x.ty.kd), .v (.string x.ty.rc), .v (.int .i64 x.line), .v (.int .i64 x.col)]
abbrev tG : PV := .agg [str [], str [105, 110, 116], str [114, 101, 97, 108], str [105, 110, 116, 115]]
theorem pF : kC Tryz.prog 199 [(0, str []), (1, str [105, 110, 116]), (2, str [114, 101, 97, 108]), (3, str [105, 110, 116, 115])] = some tG := by kernel_rfl
theorem aX {α : Type} {f : Nat} {args : List PV} {ts : List Tok} {d d' : Nat} {l : List Tok} {enc : α → PV} {x : PR α} {a : α} {l' : List Tok} (h : Rd f args ts d d' l enc x) (hx : x = .ok a l') {b : Nat} {s : St} (hb : b < s.stk.length) : ∀ (bl : List Blk) (tk : List (Nat × Nat)) (lp : List Aux),
 E L (.func f) (.ptr false b 0 :: args) ((s.af false b (pc ts l d)).app bl tk lp) = some (enc a, (s.af false b (pc ts l' d')).app bl tk lp) := by
 subst hx
 exact fun bl tk lp => aE (h.2 b) hb bl tk lp
theorem bS {α : Type} {f : Nat} {args : List PV} {ts : List Tok} {d d' : Nat} {l : List Tok} {enc : α → PV} {x : PR α} {a : α} {l' : List Tok} (h : Rd f args ts d d' l enc x) (hx : x = .ok a l') : Sfx ts l' := by
 subst hx; exact h.1
theorem bN {α : Type} {f : Nat} {args : List PV} {ts : List Tok} {d d' : Nat} {l : List Tok} {enc : α → PV} {x : PR α} {e : Nat} {q : Nat × Nat} (h : Rd f args ts d d' l enc x) (hx : x = .bad e q) : ∃ a' d'', ∀ {b : Nat} {s : St} (hb : b < s.stk.length) (bl : List Blk) (tk : List (Nat × Nat)) (lp : List Aux),
 E L (.func f) (.ptr false b 0 :: args) ((s.af false b (pc ts l d)).app bl tk lp) = some (.pan 108 (.agg #[]), (s.af false b (pcf (az ts) a' d'' e q.1 q.2)).app bl tk lp) := by
 subst hx; obtain ⟨a', d'', h⟩ := h; exact ⟨a', d'', fun hb bl tk lp => aE (h _) hb bl tk lp⟩
theorem HK {ts l : List Tok} (hr : Row ts) (h : Sfx ts l) (d : Nat) : Rd 122 [] ts d d l iT (vM l) := by
 have e68 := fun b (X : St) hb (w : List UInt8) => aE (aG hr h d w (b := b)) (s := X) hb
 have run : ∀ b (X : St), b < X.stk.length → ∀ N T Lb, X.stk.length = N → X.tk.length = T → X.lp.length = Lb →
  itE (nu.b0 (E L) itE N Lb) [.ptr false b 0, .ptr false N 0, tG, .v (.int .i64 0)] ((X.af false b (pc ts l d)).app [⟨[.v (.int .i64 0), str []], []⟩] [] []) =
   if isT l [105, 110, 116] then some (.ret, [.ptr false b 0, .ptr false N 0, tG, .v (.int .i64 1)], (X.af false b (pc ts l.tail d)).app [⟨[.v (.int .i64 1), str []], []⟩] [] []) else
   if isT l [114, 101, 97, 108] then some (.ret, [.ptr false b 0, .ptr false N 0, tG, .v (.int .i64 2)], (X.af false b (pc ts l.tail d)).app [⟨[.v (.int .i64 2), str []], []⟩] [] []) else
   if isT l [105, 110, 116, 115] then some (.ret, [.ptr false b 0, .ptr false N 0, tG, .v (.int .i64 3)], (X.af false b (pc ts l.tail d)).app [⟨[.v (.int .i64 3), str []], []⟩] [] []) else
   some (.exit 0, [.ptr false b 0, .ptr false N 0, tG, .v (.int .i64 4)], (X.af false b (pc ts l d)).app [⟨[.v (.int .i64 0), str []], []⟩] [] []) := by
  intro b X hb N T Lb hN hT hL; have e1 := e68 b X hb [105, 110, 116]; have e2 := e68 b X hb [114, 101, 97, 108]; have e3 := e68 b X hb [105, 110, 116, 115]; rw [hN] at hb; simp only [pc, pcf] at e1 e2 e3 ⊢; have w1 : IntKind.i64.wrap 1 = 1 := rfl; have w2 : IntKind.i64.wrap 2 = 2 := rfl; have w3 : IntKind.i64.wrap 3 = 3 := rfl; have w4 : IntKind.i64.wrap 4 = 4 := rfl; rw [bP (vs' := [.ptr false b 0, .ptr false N 0, tG, .v (.int .i64 1)]) (st' := (X.af false b (pc ts l d)).app [⟨[.v (.int .i64 0), str []], []⟩] [] []) (by simp [nu.b0, pc, pcf, hN, hT, hL, hb, Fi, w1, bm, cq, laid, aH])]
  cases h1 : isT l [105, 110, 116] with
  | true =>
   rw [h1] at e1; simp only [if_true] at e1 ⊢; exact eE (by simp [nu.b0, pc, pcf, hN, hT, hL, hb, zN, e1, bm, cq, laid, aH])
  | false =>
   rw [h1] at e1; simp only [ae, if_false] at e1 ⊢; rw [bP (vs' := [.ptr false b 0, .ptr false N 0, tG, .v (.int .i64 2)]) (st' := (X.af false b (pc ts l d)).app [⟨[.v (.int .i64 0), str []], []⟩] [] []) (by simp [nu.b0, pc, pcf, hN, hT, hL, hb, zN, e1, w2, bm, cq, laid, aH])]
   cases h2 : isT l [114, 101, 97, 108] with
   | true =>
    rw [h2] at e2; simp only [if_true] at e2 ⊢; exact eE (by simp [nu.b0, pc, pcf, hN, hT, hL, hb, zQ, e2, bm, cq, laid, aH])
   | false =>
    rw [h2] at e2; simp only [ae, if_false] at e2 ⊢; rw [bP (vs' := [.ptr false b 0, .ptr false N 0, tG, .v (.int .i64 3)]) (st' := (X.af false b (pc ts l d)).app [⟨[.v (.int .i64 0), str []], []⟩] [] []) (by simp [nu.b0, pc, pcf, hN, hT, hL, hb, zQ, e2, w3, bm, cq, laid, aH])]
    cases h3 : isT l [105, 110, 116, 115] with
    | true =>
     rw [h3] at e3; simp only [if_true] at e3 ⊢; exact eE (by simp [nu.b0, pc, pcf, hN, hT, hL, hb, zS, e3, bm, cq, laid, aH])
    | false =>
     rw [h3] at e3; simp only [ae, if_false] at e3 ⊢; rw [bP (vs' := [.ptr false b 0, .ptr false N 0, tG, .v (.int .i64 4)]) (st' := (X.af false b (pc ts l d)).app [⟨[.v (.int .i64 0), str []], []⟩] [] []) (by simp [nu.b0, pc, pcf, hN, hT, hL, hb, zS, e3, w4, bm, cq, laid, aH])]; exact fk (by simp [nu.b0, pc, pcf, hN, hT, hL, hb])
 have hk := ir hr h d 1; unfold vM
 cases h1 : isT l [105, 110, 116] with
 | true =>
  simp only [if_true]; refine ⟨h.isT hr h1, fun b X hb => ?_⟩; have e := run b X hb _ _ _ rfl rfl rfl; rw [h1] at e; rw [pq]; obtain ⟨N, T, Lb, hN, hT, hL⟩ := lens3 X; rw [hN] at hb; rw [hN] at e
  conv => lhs; rw [← al (X.af false b (pc ts l d))]
  simp only [if_true, pc, pcf, hT, hL] at e ⊢; simp [nu, pcf, hN, hT, hL, hb, pF, e, laid, aH]
 | false =>
  simp only [ae, if_false]
  cases h2 : isT l [114, 101, 97, 108] with
  | true =>
   simp only [if_true]; refine ⟨h.isT hr h2, fun b X hb => ?_⟩; have e := run b X hb _ _ _ rfl rfl rfl; rw [h1, h2] at e; rw [pq]; obtain ⟨N, T, Lb, hN, hT, hL⟩ := lens3 X; rw [hN] at hb; rw [hN] at e
   conv => lhs; rw [← al (X.af false b (pc ts l d))]
   simp only [if_true, ae, if_false, pc, pcf, hT, hL] at e ⊢; simp [nu, pcf, hN, hT, hL, hb, pF, e, laid, aH]
  | false =>
   simp only [ae, if_false]
   cases h3 : isT l [105, 110, 116, 115] with
   | true =>
    simp only [if_true]; refine ⟨h.isT hr h3, fun b X hb => ?_⟩; have e := run b X hb _ _ _ rfl rfl rfl; rw [h1, h2, h3] at e; rw [pq]; obtain ⟨N, T, Lb, hN, hT, hL⟩ := lens3 X; rw [hN] at hb; rw [hN] at e
    conv => lhs; rw [← al (X.af false b (pc ts l d))]
    simp only [if_true, ae, if_false, pc, pcf, hT, hL] at e ⊢; simp [nu, pcf, hN, hT, hL, hb, pF, e, laid, aH]
   | false =>
    simp only [ae, if_false]
    cases hx : eU 1 l with
    | ok u l' =>
     refine ⟨bS hk hx, fun b X hb => ?_⟩; have e := run b X hb _ _ _ rfl rfl rfl; have ek := aX hk hx hb; rw [h1, h2, h3] at e; rw [pq]; obtain ⟨N, T, Lb, hN, hT, hL⟩ := lens3 X; rw [hN] at hb; rw [hN] at e
     conv => lhs; rw [← al (X.af false b (pc ts l d))]
     simp only [ae, if_false, pc, pcf, hT, hL, aV, Tok.c, bw, ab] at e ek ⊢; simp [nu, pcf, hN, hT, hL, hb, pF, e, ek, om, bm, cq, laid, aH, aZ]
    | bad e0 q =>
     obtain ⟨a', d'', ek⟩ := bN hk hx; refine ⟨a', d'', fun b X hb => ?_⟩; have e := run b X hb _ _ _ rfl rfl rfl; have ek := ek hb; rw [h1, h2, h3] at e; rw [pq]; obtain ⟨N, T, Lb, hN, hT, hL⟩ := lens3 X; rw [hN] at hb; rw [hN] at e
     conv => lhs; rw [← al (X.af false b (pc ts l d))]
     simp only [ae, if_false, pc, pcf, hT, hL, ab] at e ek ⊢; simp [nu, pcf, hN, hT, hL, hb, pF, e, ek, aZ]
theorem wI {ts l : List Tok} (hr : Row ts) (h : Sfx ts l) (d : Nat) : ∀ b (X : St), b < X.stk.length → E L (.func 158) [.ptr false b 0] (X.af false b (pc ts l d)) = some (.v (.string (gj l).1), X.af false b (pc ts (gj l).2 d)) := by
 intro b X hb; have e67 := aE (ef h d 0 0 0 (b := b)) hb; have e151 := aE (lr hr h d (b := b)) hb; unfold gj
 by_cases hk : (hd l).kind = 1
 · rw [if_pos hk]
   rw [zg]; obtain ⟨N, T, Lb, hN, hT, hL⟩ := lens3 X; rw [hN] at hb
   conv => lhs; rw [← al (X.af false b (pc ts l d))]
   simp only [pc, pcf, Tok.c, bw, hk, ab] at e67 e151 ⊢; simp [GL, pcf, hN, hT, hL, hb, e67, e151, ug, om]
 · rw [if_neg hk]
   have hk' : ¬ (((hd l).kind : Int) = 1) := by omega
   rw [zg]; obtain ⟨N, T, Lb, hN, hT, hL⟩ := lens3 X; rw [hN] at hb
   conv => lhs; rw [← al (X.af false b (pc ts l d))]
   simp only [pc, pcf, Tok.c, bw] at e67 ⊢; simp [GL, pcf, hN, hT, hL, hb, e67, hk', ug, om]
theorem cO {α β : Type} {y : PR α} {a : α} {l' : List Tok} {K : α → List Tok → Option (PR β)} {x : PR β} (hx : pb (some y) K = some x) (hy : y = .ok a l') : K a l' = some x := by subst hy; exact hx
theorem cd {α β : Type} {y : PR α} {e : Nat} {q : Nat × Nat} {K : α → List Tok → Option (PR β)} {x : PR β} (hx : pb (some y) K = some x) (hy : y = .bad e q) : x = .bad e q := by subst hy; exact (Option.some.inj hx).symm
theorem dP {α β : Type} {y : Option (PR α)} {K : α → List Tok → Option (PR β)} {x : PR β} (hx : pb y K = some x) : ∃ z, y = some z := by
 cases y with
 | none => cases hx
 | some z => exact ⟨z, rfl⟩
theorem sP {ts l : List Tok} (hr : Row ts) (h : Sfx ts l) (d : Nat) {x : PR Nm} (hx : mO l = some x) : Rd 70 [] ts d d l iS x := by
 unfold mO at hx; have h1 := ir hr h d 1
 cases x1 : eU 1 l with
 | bad e q =>
  obtain rfl := cd hx x1; obtain ⟨a', d'', e1⟩ := bN h1 x1; refine ⟨a', d'', fun b X hb => ?_⟩; have e1 := e1 hb; rw [uW]; obtain ⟨N, T, Lb, hN, hT, hL⟩ := lens3 X; rw [hN] at hb
  conv => lhs; rw [← al (X.af false b (pc ts l d))]
  simp only [pc, pcf, aV, Tok.c, bw, ab, iS, iT] at e1 ⊢
  generalize az ts = es at *
  simp [S70, hN, hT, hL, hb, e1]
 | ok t l1 =>
  have hx := cO hx x1; have s1 := bS h1 x1; have h2 := fe hr s1 d [58]
  cases x2 : dJ [58] l1 with
  | bad e q =>
   obtain rfl := cd hx x2; obtain ⟨a', d'', e2⟩ := bN h2 x2; refine ⟨a', d'', fun b X hb => ?_⟩; have e2 := e2 hb; have e1 := aX h1 x1 hb; rw [uW]; obtain ⟨N, T, Lb, hN, hT, hL⟩ := lens3 X; rw [hN] at hb
   conv => lhs; rw [← al (X.af false b (pc ts l d))]
   simp only [pc, pcf, aV, Tok.c, bw, ab, iS, iT] at e1 e2 ⊢
   generalize az ts = es at *
   simp [S70, hN, hT, hL, hb, e1, e2]
  | ok u l2 =>
   have hx := cO hx x2; have s2 := bS h2 x2; have h3 := HK hr s2 d
   cases x3 : vM l2 with
   | bad e q =>
    obtain rfl := cd hx x3; obtain ⟨a', d'', e3⟩ := bN h3 x3; refine ⟨a', d'', fun b X hb => ?_⟩; have e3 := e3 hb; have e1 := aX h1 x1 hb; have e2 := aX h2 x2 hb; rw [uW]; obtain ⟨N, T, Lb, hN, hT, hL⟩ := lens3 X; rw [hN] at hb
    conv => lhs; rw [← al (X.af false b (pc ts l d))]
    simp only [pc, pcf, aV, Tok.c, bw, ab, iS, iT] at e1 e2 e3 ⊢
    generalize az ts = es at *
    simp [S70, hN, hT, hL, hb, e1, e2, e3]
   | ok ty l3 =>
    obtain rfl := Option.some.inj (cO hx x3); refine ⟨bS h3 x3, fun b X hb => ?_⟩; have e1 := aX h1 x1 hb; have e2 := aX h2 x2 hb; have e3 := aX h3 x3 hb; rw [uW]; obtain ⟨N, T, Lb, hN, hT, hL⟩ := lens3 X; rw [hN] at hb
    conv => lhs; rw [← al (X.af false b (pc ts l d))]
    simp only [pc, pcf, aV, Tok.c, bw, ab, iS, iT] at e1 e2 e3 ⊢
    generalize az ts = es at *
    simp [S70, hN, hT, hL, hb, e1, e2, e3]
end Go.Proofs.YtlhlijaondmccaaGreatDoor.S
