/- Part 5 of the proof of a law of the parser, its names made short by a program. No condition. -/
import Derived.Test.YtlhlijaondmccaaGreatDoorI4
set_option linter.all false
set_option maxRecDepth 100000
set_option maxHeartbeats 4000000
open _root_.Bool renaming and_eq_true → aw, and_self → bu, and_true → bF, false_eq_true → ab, not_false → bg, not_true → bD, true_and → bE
open _root_.Int renaming cast_ofNat_Int → aa
open _root_.List renaming all_cons → bG, all_eq_true → dM, all_nil → cg, cons_append → al, drop_nil → cf, drop_succ_cons → aQ, drop_zero → br, getD_cons_succ → aR, getD_cons_zero → aS, getElem?_cons_succ → az, getElem?_cons_zero → aB, isPrefixOf → iU, length → fQ, length_append → au, length_cons → ah, length_drop → eN, length_nil → ay, length_singleton → bQ, map_cons → bc, map_nil → bh, mem_cons_of_mem → bV, mem_cons_self → bx, modify_succ_cons → aO, modify_zero_cons → aP, nil_append → aU, take_left → bI, take_nil → bR, take_succ_cons → aA, take_zero → ba, toList_toArray → aX
open _root_.Nat renaming add_zero → bz, beq → ak, ble → dB, blt → gi, le_refl → aq, reduceAdd → bT, zero_add → bj, zero_le → dA
open _root_.Option renaming bind_none → bf, bind_some → aj, map_some → aN
namespace Go.Proofs.YtlhlijaondmccaaGreatDoor.S
open Go Go.AM Go.Proofs
attribute [local simp] cX cx bY bZ cy fq fv ec de dY db dZ dc fu cc im dS iq ic hO AM.ae aR aS aj bf aN aE AM.onG gb bW ef Ex.bn cond_true cond_false cT cS cR cQ cP cV cO cW cU ed dh di cw cY AM.du AM.cellsOf AM.an bX beq_true cM ah ay bj bz bT decide_true decide_false bF bE bu bD bg aB az aU al cZ da ft aA bI ba bR cC dR dX cJ eE eD set_set eI dy fT dz cI bK dx dw cH dv eH eJ fM fN bM cu eB fL dW aV aX aI AM.aY ai dt bU bc bh aP aO AM.part br aQ cf cm cj cn cn.eS AM.dN bG cg
theorem contains_nil (sub : List UInt8) : Lib.contains [] sub = sub.isEmpty := by
 cases sub <;> simp [Lib.contains, Lib.index]
theorem index_ge (sub : List UInt8) : ∀ l : List UInt8, -1 ≤ Lib.index l sub
 | [] => by simp only [Lib.index]; split <;> omega
 | b :: l => by
  have ih := index_ge sub l; simp only [Lib.index]; split
  · omega
  · split
    · omega
    · omega
theorem contains_cons (b : UInt8) (l sub : List UInt8) : Lib.contains (b :: l) sub = (sub.isPrefixOf (b :: l) || Lib.contains l sub) := by
 have h := index_ge sub l; simp only [Lib.contains, Lib.index]
 by_cases h1 : sub.isPrefixOf (b :: l) = true
 · simp [h1]
 · simp only [h1, ab, if_false, Bool.false_or]
   by_cases h2 : Lib.index l sub = -1
   · simp [h2]
   · have : (Lib.index l sub == -1) = false := by simpa using h2
     rw [this]; simp only [ab, if_false, decide_eq_decide]; omega
def iZ : List (List UInt8) → List UInt8
 | [] => []
 | w :: ws => w ++ 32 :: iZ ws
theorem CN {s w : List UInt8} {R : List UInt8} (hs : ∀ c ∈ s, c ≠ 32) (hw : ∀ c ∈ w, c ≠ 32) : (s ++ [32]).isPrefixOf (w ++ 32 :: R) = decide (s = w) := by
 induction s generalizing w with
 | nil =>
  cases w with
  | nil => simp
  | cons c w =>
   have : c ≠ 32 := hw c (by simp); simp [iU, Ne.symm this]
 | cons a s ih =>
  have ha : a ≠ 32 := hs a (by simp)
  cases w with
  | nil => simp [iU, ha]
  | cons c w =>
   have := ih (w := w) (fun c h => hs c (by simp [h])) (fun c h => hw c (by simp [h])); simp only [al, iU, this, List.cons.injEq]
   by_cases hac : a = c <;> simp [hac]
theorem tz {s w R : List UInt8} (hw : ∀ c ∈ w, c ≠ 32) : Lib.contains (w ++ 32 :: R) (32 :: s) = Lib.contains (32 :: R) (32 :: s) := by
 induction w with
 | nil => rfl
 | cons c w ih =>
  have hc : c ≠ 32 := hw c (by simp); rw [al, contains_cons, ih fun c h => hw c (by simp [h])]; simp [iU, Ne.symm hc]
theorem kD {s : List UInt8} (hs : ∀ c ∈ s, c ≠ 32) : ∀ ws : List (List UInt8), (∀ w ∈ ws, ∀ c ∈ w, c ≠ 32) → Lib.contains (32 :: iZ ws) (32 :: (s ++ [32])) = ws.contains s
 | [], _ => by
  rw [contains_cons, iZ, contains_nil]
  cases s <;> simp [iU]
 | w :: ws, h => by
  have hw := h w (by simp); rw [contains_cons, iZ, tz hw, kD hs ws fun w hw => h w (by simp [hw])]; simp only [iU, beq_self_eq_true, bE, CN hs hw, List.contains_cons, Bool.beq_eq_decide_eq]
theorem uV (l : List UInt8) (c : UInt8) : Lib.contains l [c] = l.contains c := by
 induction l with
 | nil => rfl
 | cons b l ih =>
  rw [contains_cons, ih, List.contains_cons]; simp [iU]
theorem uE {a b : List UInt8} (h : a.length < 4294967281) (st : St) : E L (.func 169) [str a, str b] st = some (.v (.bool (Lib.contains a b)), st) := by
 rw [rW (L := L) (f := 169) (g := jR lX) (by kernel_rfl)]; simp [AM.jR, AM.lL, AM.valOf, lX, cu, h, nI, jN, mj]
def lM : List (List UInt8) := [[114, 101, 99, 111, 114, 100], [103, 108, 111, 98, 97, 108], [102, 117, 110], [116, 104, 114, 101, 97, 100], [108, 101, 116], [118, 97, 114], [115, 101, 116], [112, 114, 105, 110, 116], [105, 102], [101, 108, 115, 101], [108, 111, 111, 112], [98, 114, 101, 97, 107], [99, 111, 110, 116, 105, 110, 117, 101], [97, 116, 111, 109, 105, 99], [99, 97, 108, 108], [108, 111, 97, 100], [110, 101, 119], [115, 105, 122, 101], [105, 110, 116], [114, 101, 97, 108], [105, 110, 116, 115], [110, 105, 108], [105, 110, 112, 117, 116], [116, 114, 117, 110, 99]]
def kY (l : List UInt8) : Bool := lM.contains l
theorem uB : ∀ w ∈ lM, (∀ c ∈ w, c ≠ 32) ∧ w ≠ [] := by decide
theorem yC : ([32, 114, 101, 99, 111, 114, 100, 32, 103, 108, 111, 98, 97, 108, 32, 102, 117, 110, 32, 116, 104, 114, 101, 97, 100, 32, 108, 101, 116, 32, 118, 97, 114, 32, 115, 101, 116, 32, 112, 114, 105, 110, 116, 32, 105, 102, 32, 101, 108, 115, 101, 32, 108, 111, 111, 112, 32, 98, 114, 101, 97, 107, 32, 99, 111, 110, 116, 105, 110, 117, 101, 32, 97, 116, 111, 109, 105, 99, 32, 99, 97, 108, 108, 32, 108, 111, 97, 100, 32, 110, 101, 119, 32, 115, 105, 122, 101, 32, 105, 110, 116, 32, 114, 101, 97, 108, 32, 105, 110, 116, 115, 32, 110, 105, 108, 32, 105, 110, 112, 117, 116, 32, 116, 114, 117, 110, 99, 32] : List UInt8) = 32 :: iZ lM := by decide
theorem Br : (32 :: iZ lM).length = 128 := by decide
theorem Bp (l : List UInt8) : kY l = (!decide (l = []) && !l.contains 32 && Lib.contains (32 :: iZ lM) (32 :: (l ++ [32]))) := by
 by_cases h0 : l = []
 · subst h0; simp [kY]; decide
 by_cases h1 : l.contains 32 = true
 · have : kY l = false := by
    cases h : kY l with
    | false => rfl
    | true =>
     have hm : l ∈ lM := by simpa [kY] using h
     have hc : (32 : UInt8) ∈ l := by simpa using h1
     exact absurd rfl ((uB l hm).1 32 hc)
   have hm1 : (32 : UInt8) ∈ l := by simpa using h1
   simp [this, hm1]
 · have h2 : ∀ c ∈ l, c ≠ 32 := fun c hc e => h1 (by subst e; simpa using hc)
   rw [kD h2 lM fun w hw => (uB w hw).1]
   have hm1 : (32 : UInt8) ∉ l := by simpa using h1
   simp [kY, h0, hm1]
theorem yM {l : List UInt8} (h : l.length < 2147483648) (st : St) : E L (.func 146) [str l] st = some (.v (.bool (kY l)), st) := by
 rw [DY]; obtain ⟨N, T, Lb, hN, hT, hL⟩ := lens3 st
 conv => lhs; rw [← ao (st)]
 have e1 : ∀ X : St, E L (.func 169) [str l, str [32]] X = some (.v (.bool (l.contains 32)), X) := fun X => by rw [uE (by omega), uV]
 have e2 : ∀ X : St, E L (.func 169) [str (32 :: iZ lM), str (32 :: (l ++ [32]))] X = some (.v (.bool (Lib.contains (32 :: iZ lM) (32 :: (l ++ [32])))), X) := fun X => by rw [uE (by rw [Br]; omega)]
 have e3 : aW Tryz.prog true .add 9 (str [32]) (str l) = some (str (32 :: l)) := by rw [rU _ _ _ _ _ (by simp [cu]; omega), n8]; rfl
 have e4 : aW Tryz.prog true .add 9 (str (32 :: l)) (str [32]) = some (str (32 :: (l ++ [32]))) := by rw [rU _ _ _ _ _ (by simp [cu]; omega), n8]; rfl
 have e5 : (bs l = bs []) = (l = []) := propext eB; rw [Bp]
 by_cases h0 : l = [] <;> cases h1 : l.contains 32 <;> simp only [GQ, fL, aX, yC, cX, cx, bY, bZ, cy, fq, fv, ec, de, dY, db, dZ, dc, fu, cc, im, dS, iq, ic, hO, AM.ae, aR, aS, aj, bf, aN, aE, AM.onG, gb, bW, ef, Ex.bn, cond_true, cond_false, cT, cS, cR, cQ, cP, cV, cO, cW, cU, ed, dh, di, cw, cY, AM.du, AM.cellsOf, AM.an, bX, beq_true, cM, ah, ay, bj, bz, bT, decide_true, decide_false, bF, bE, bu, bD, bg, aB, az, aU, al, cZ, da, ft, aA, bI, ba, bR, cC, dR, dX, cJ, eE, eD, set_set, eI, dy, fT, dz, cI, bK, dx, dw, cH, dv, eH, eJ, fM, fN, bM, cu, eB, fL, dW, aV, hN, hT, hL, aX, aI, AM.aY, ai, dt, bU, bc, bh, aP, aO, AM.part, br, aQ, cf, cm, cj, cn, cn.eS, AM.dN, bG, cg, e1, e2, e3, e4, h0, h1]
 all_goals rfl
def vh (c : UInt8) : Bool := qJ (c.toNat : Int)
def tA (c : UInt8) : Bool := vZ (c.toNat : Int)
def eL (c : UInt8) : Bool := vh c || tA c
def tE (i : Nat) (c : UInt8) : Bool := vh c || (!decide (i = 0) && tA c)
def nH : List UInt8 → Bool
 | [] => true
 | c :: r => vh c && r.all eL
def rp (l : List UInt8) : Bool := !decide (l = []) && nH l && !kY l
theorem qM (l : List UInt8) : nH l = true ↔ ∀ i (h : i < l.length), tE i l[i] = true := by
 cases l with
 | nil => simp [nH]
 | cons c r =>
  simp only [nH, aw, dM]
  constructor
  · rintro ⟨h1, h2⟩ i hi
    cases i with
    | zero => simp [tE, h1]
    | succ i =>
     have := h2 (r[i]'(by simpa using hi)) (List.getElem_mem _); simpa [tE, eL] using this
  · intro h
    refine ⟨by have := h 0 (by simp); rw [List.getElem_cons_zero] at this; simpa [tE] using this, fun x hx => ?_⟩; obtain ⟨i, hi, rfl⟩ := List.mem_iff_getElem.1 hx; have := h (i + 1) (by simpa using hi); rw [List.getElem_cons_succ] at this; simpa [tE, eL] using this
theorem kO {n : Int} (h : 128 ≤ n) : qJ n = false := by simp [qJ]; omega
theorem kF {n : Int} (h : 128 ≤ n) : vZ n = false := by simp [vZ]; omega
theorem AD {l : List UInt8} (hlen : l.length < 4611686018427387904) {X : St} {N T Lb : Nat} (hN : X.stk.length = N) (hT : X.tk.length = T) (hL : X.lp.length = Lb) : ∀ (k pos : Nat), l.length - pos = k → pos ≤ l.length → (∀ j (hj : j < l.length), j < pos → tE j l[j] = true) →
 ∃ pos', itE (pd.b0 (E L) itE N Lb) [str l, .v (.bool false), .it Lb] (X.app [] [] [.iter (bs l) pos]) = some (bif nH l then .exit 0 else .ret, [str l, .v (.bool false), .it Lb], X.app [] [] [.iter (bs l) pos']) := by
 intro k
 induction k using Nat.strongRecOn with
 | ind k ih =>
 intro pos hk hp hall
 by_cases hlt : pos < l.length
 · by_cases hb : l[pos].toNat < 128
   · have hd := AM.decode_ascii hlt hb
     have h0 : ((pos : Int) = 0) = (pos = 0) := propext (by omega)
     by_cases hq : tE pos l[pos] = true
     · obtain ⟨pos', h1⟩ := ih (l.length - (pos + 1)) (by omega) (pos + 1) rfl (by omega) (fun j hj hj' => by
        by_cases hjp : j = pos
        · subst hjp; exact hq
        · exact hall j hj (by omega))
       refine ⟨pos', ?_⟩; rw [cd (vs' := [str l, .v (.bool false), .it Lb]) (st' := X.app [] [] [.iter (bs l) (pos + 1)])]
       · exact h1
       · simp only [tE, vh, tA] at hq
         cases hl : qJ (l[pos].toNat : Int) with
         | true => simp [pd.b0, hN, hT, hL, hlt, hd, iQ, iR, hl]
         | false =>
          rw [hl] at hq; simp only [Bool.false_or, aw, Bool.not_eq_true', decide_eq_false_iff_not] at hq; simp [pd.b0, hN, hT, hL, hlt, hd, iQ, iR, hl, h0, hq.1, hq.2]
     · have hn : nH l = false := by
        cases h : nH l with
        | false => rfl
        | true => exact absurd ((qM l).1 h pos hlt) hq
       refine ⟨pos + 1, ?_⟩; rw [hn, cond_false]; apply eZ; simp only [tE, vh, tA, Bool.or_eq_true, not_or, Bool.not_eq_true] at hq
       by_cases hz : pos = 0
       · subst hz
         simp [pd.b0, hN, hT, hL, hlt, hd, iQ, iR, hq.1]
       · have hq2 := hq.2
         simp only [hz, decide_false, bg, bE] at hq2; simp [pd.b0, hN, hT, hL, hlt, hd, iQ, iR, hq.1, h0, hz, hq2]
   · have hb' : 128 ≤ l[pos].toNat := by omega
     obtain ⟨hh1, hh2, hh3, hh4, hh5⟩ := AM.decode_high hlt hb'
     have hn : nH l = false := by
      cases h : nH l with
      | false => rfl
      | true =>
       have := (qM l).1 h pos hlt; simp [tE, vh, tA, kO (show (128 : Int) ≤ (l[pos].toNat : Int) by omega), kF (show (128 : Int) ≤ (l[pos].toNat : Int) by omega)] at this
     refine ⟨pos + (Utf8.decode (bs l) pos).2, ?_⟩; rw [hn, cond_false]; apply eZ; have e1 := kO (show (128 : Int) ≤ ((Utf8.decode (bs l) pos).1 : Int) by omega); have e2 := kF (show (128 : Int) ≤ ((Utf8.decode (bs l) pos).1 : Int) by omega); have h0 : ((pos : Int) = 0) = (pos = 0) := propext (by omega)
     by_cases hz : pos = 0
     · subst hz
       simp [pd.b0, hN, hT, hL, hlt, iQ, iR, e1, e2]
     · simp [pd.b0, hN, hT, hL, hlt, iQ, iR, e1, e2, h0, hz]
 · have hn : nH l = true := (qM l).2 fun i hi => hall i hi (by omega)
   refine ⟨pos, ?_⟩; rw [hn, cond_true]; apply iS; simp [pd.b0, hN, hT, hL, hlt]
theorem DC {l : List UInt8} (h : l.length < 2147483648) (st : St) : E L (.func 147) [str l] st = some (.v (.bool (rp l)), st) := by
 rw [DZ]; obtain ⟨N, T, Lb, hN, hT, hL⟩ := lens3 st
 conv => lhs; rw [← ao (st)]
 have hr : ∀ X : St, X.lp.length = Lb → nk Tryz.prog 9 (str l) (X.app [] [] []) = some (.it Lb, X.app [] [] [.iter (bs l) 0]) := fun X h => zJ [] [] [] (by kernel_rfl) (bs l) h
 obtain ⟨pos', h1⟩ := AD (l := l) (by omega) hN hT hL l.length 0 rfl (by omega) (fun j hj h => absurd h (by omega))
 have hw : ∀ X : St, E L (.func 146) [str l] X = some (.v (.bool (kY l)), X) := yM h
 cases hn : nH l with
 | true =>
  rw [hn, cond_true] at h1
  by_cases h0 : l = []
  · subst h0
    simp [pd, hN, hT, hL, hr, h1, rp]
  · simp [pd, hN, hT, hL, hr, h1, rp, h0, hn, hw]
 | false =>
  rw [hn, cond_false] at h1; simp [pd, hN, hT, hL, hr, h1, rp, hn]
theorem Eh (P : Program) (cst : Bool) (t : TypeId) (a b : UInt8) : aW P cst .or t (.v (.int .u8 (a.toNat : Int))) (.v (.int .u8 (b.toNat : Int))) = some (.v (.int .u8 ((a ||| b).toNat : Int))) := by
 have h : binOp .or t (.int .u8 (a.toNat : Int)) (.int .u8 (b.toNat : Int)) = pure (.int .u8 ((a ||| b).toNat : Int)) := by
  have e : ∀ x : UInt8, BitVec.ofInt 8 (x.toNat : Int) = x.toBitVec := fun x => by
   rw [BitVec.ofInt_natCast]; exact BitVec.eq_of_toNat_eq (by simp)
  have e2 : (BitVec.ofInt IntKind.u8.bits (a.toNat : Int) ||| BitVec.ofInt IntKind.u8.bits (b.toNat : Int)).toNat = (a ||| b).toNat := by
   show (BitVec.ofInt 8 (a.toNat : Int) ||| BitVec.ofInt 8 (b.toNat : Int)).toNat = _
   rw [e, e]; rfl
  have e3 : IntKind.u8.wrap ((a ||| b).toNat : Int) = ((a ||| b).toNat : Int) := IntWalk.u8_in _ (by have := (a ||| b).toNat_lt; omega)
  show (pure (.int .u8 (IntKind.u8.wrap ((BitVec.ofInt IntKind.u8.bits (a.toNat : Int) ||| BitVec.ofInt IntKind.u8.bits (b.toNat : Int)).toNat : Int))) : Sem Value) = _
  rw [e2, e3]
 rw [pv, h]; exact fK P _ rfl
theorem uF (c : UInt8) (st : St) : E L (.func 177) [.v (.int .u8 (c.toNat : Int))] st = some (.v (.int .u8 ((c ||| 32).toNat : Int)), st) := by
 rw [D5]; obtain ⟨N, T, Lb, hN, hT, hL⟩ := lens3 st
 conv => lhs; rw [← ao (st)]
 have h := Eh Tryz.prog true 5 c 32; simp only [show ((32 : UInt8).toNat : Int) = 32 from rfl] at h; simp [GS, hN, hT, hL, h]
def so (c : UInt8) : Nat := if 48 ≤ c.toNat ∧ c.toNat ≤ 57 then c.toNat - 48 else if 97 ≤ (c ||| 32).toNat ∧ (c ||| 32).toNat ≤ 122 then (c ||| 32).toNat - 87 else 255
def pu (B cut mx : Nat) : List UInt8 → Nat → Nat × Option Nat
 | [], n => (n, none)
 | c :: t, n => if B ≤ so c then (0, some 2) else if cut ≤ n then (mx, some 1) else if mx < n * B + so c then (mx, some 1) else pu B cut mx t (n * B + so c)
theorem vC (n : Int) : IntKind.u64.wrap n = n % 18446744073709551616 := by
 simp [IntKind.wrap, IntKind.bits, IntKind.signed]
abbrev pV (B cut mx : Nat) (t s0 : List UInt8) (n i : Nat) : List PV := [PV.v (.int .i64 (B : Int)), .v (.int .u64 0), .v .nilIface, .v (.bool false), str s0, .v (.int .u64 (cut : Int)), .v (.int .u64 (mx : Int)), .v (.bool false), .v (.int .u64 (n : Int)), .sl (t.map gS) .dead, .v (.int .i64 (t.length : Int)), .v (.int .i64 (i : Int))]
theorem wN {t s0 : List UInt8} {B cut mx n i d : Nat} (hB : 2 ≤ B ∧ B ≤ 36) (hcut : ∀ n, n < cut → n * B < 18446744073709551616) (hmx : mx < 18446744073709551616) (hc64 : cut < 18446744073709551616) {X : St} {N T Lb : Nat} (hN : X.stk.length = N) (hT : X.tk.length = T) (hL : X.lp.length = Lb) (hi : i < t.length) (hlen : t.length < 4611686018427387904) (ht : 48 ≤ t[i].toNat ∧ t[i].toNat ≤ 57) (hd : d = t[i].toNat - 48) :
 ∃ vs, jd.b0 (E L) itE N Lb (pV B cut mx t s0 n i) (X.app [] [] []) = some (if B ≤ d ∨ cut ≤ n ∨ mx < n * B + d then .ret else .normal, vs, X.app [] [] []) ∧
  (if B ≤ d then AM.ae vs 1 = .v (.int .u64 0) ∧ AM.ae vs 2 = .ifc 212 (.int .i64 2) else if cut ≤ n ∨ mx < n * B + d then AM.ae vs 1 = .v (.int .u64 (mx : Int)) ∧ AM.ae vs 2 = .ifc 212 (.int .i64 1) else vs = pV B cut mx t s0 (n * B + d) (i + 1)) := by
 have hx := Ey (l := t) (c := .dead) .i64 hi
 generalize t[i] = c at *
 have clt := c.toNat_lt
 have hlt : (i : Int) < (t.length : Int) := by omega
 have wi : IntKind.i64.wrap ((i : Int) + 1) = (i : Int) + 1 := IntWalk.i64_in _ (by omega); have wB8 : IntKind.u8.wrap (B : Int) = B := IntWalk.u8_in _ (by omega); have wB64 : IntKind.u64.wrap (B : Int) = B := IntWalk.u64_in _ (by omega)
 have i95 : ¬ ((c.toNat : Int) = 95) := by omega
 have i1 : (48 : Int) ≤ (c.toNat : Int) := by omega
 have i2 : (c.toNat : Int) ≤ 57 := by omega
 have wd : IntKind.u8.wrap ((c.toNat : Int) - 48) = (d : Int) := by rw [IntWalk.u8_in _ (by omega)]; omega
 have wd64 : IntKind.u64.wrap (d : Int) = d := IntWalk.u64_in _ (by omega)
 by_cases g1 : B ≤ d
 · have j1 : (B : Int) ≤ (d : Int) := by omega
   simp [jd.b0, hN, hT, hL, hlt, hx, gS, i95, i1, i2, wd, fB, iK, gI, hU, wB8, wB64, wd64, wi, g1, j1]
 have j1 : ¬ ((B : Int) ≤ (d : Int)) := by omega
 by_cases g2 : cut ≤ n
 · have j2 : (cut : Int) ≤ (n : Int) := by omega
   simp [jd.b0, hN, hT, hL, hlt, hx, gS, i95, i1, i2, wd, fB, iK, gI, hU, wB8, wB64, wd64, wi, g1, j1, g2, j2]
 have j2 : ¬ ((cut : Int) ≤ (n : Int)) := by omega
 have hm := hcut n (by omega)
 have wm : IntKind.u64.wrap ((n : Int) * (B : Int)) = ((n * B : Nat) : Int) := by rw [← Int.natCast_mul]; exact IntWalk.u64_in _ (by omega)
 generalize n * B = m at *
 by_cases g3 : mx < m + d
 · by_cases g4 : m + d < 18446744073709551616
   · have wa : IntKind.u64.wrap ((m : Int) + (d : Int)) = (m : Int) + (d : Int) := IntWalk.u64_in _ (by omega)
     have j3 : ¬ ((m : Int) + (d : Int) < (m : Int)) := by omega
     have j4 : (mx : Int) < (m : Int) + (d : Int) := by omega
     simp [jd.b0, hN, hT, hL, hlt, hx, gS, i95, i1, i2, wd, fB, iK, gI, hU, wB8, wB64, wd64, wi, g1, j1, g2, j2, wm, wa, g3, j3, j4]
   · have wa : IntKind.u64.wrap ((m : Int) + (d : Int)) = (m : Int) + (d : Int) - 18446744073709551616 := by rw [vC]; omega
     have j3 : (m : Int) + (d : Int) - 18446744073709551616 < (m : Int) := by omega
     simp [jd.b0, hN, hT, hL, hlt, hx, gS, i95, i1, i2, wd, fB, iK, gI, hU, wB8, wB64, wd64, wi, g1, j1, g2, j2, wm, wa, g3, j3]
 · have wa : IntKind.u64.wrap ((m : Int) + (d : Int)) = (m : Int) + (d : Int) := IntWalk.u64_in _ (by omega)
   have j3 : ¬ ((m : Int) + (d : Int) < (m : Int)) := by omega
   have j4 : ¬ ((mx : Int) < (m : Int) + (d : Int)) := by omega
   simp [jd.b0, hN, hT, hL, hlt, hx, gS, i95, i1, i2, wd, fB, iK, gI, hU, wB8, wB64, wd64, wi, g1, j1, g2, j2, wm, wa, g3, j3, j4]
theorem vq {t s0 : List UInt8} {B cut mx n i d : Nat} (hB : 2 ≤ B ∧ B ≤ 36) (hcut : ∀ n, n < cut → n * B < 18446744073709551616) (hmx : mx < 18446744073709551616) (hc64 : cut < 18446744073709551616) {X : St} {N T Lb : Nat} (hN : X.stk.length = N) (hT : X.tk.length = T) (hL : X.lp.length = Lb) (hi : i < t.length) (hlen : t.length < 4611686018427387904) (h57 : 57 < t[i].toNat) (h95 : t[i].toNat ≠ 95) (ht : 97 ≤ (t[i] ||| 32).toNat ∧ (t[i] ||| 32).toNat ≤ 122) (hd : d = (t[i] ||| 32).toNat - 87) :
 ∃ vs, jd.b0 (E L) itE N Lb (pV B cut mx t s0 n i) (X.app [] [] []) = some (if B ≤ d ∨ cut ≤ n ∨ mx < n * B + d then .ret else .normal, vs, X.app [] [] []) ∧
  (if B ≤ d then AM.ae vs 1 = .v (.int .u64 0) ∧ AM.ae vs 2 = .ifc 212 (.int .i64 2) else if cut ≤ n ∨ mx < n * B + d then AM.ae vs 1 = .v (.int .u64 (mx : Int)) ∧ AM.ae vs 2 = .ifc 212 (.int .i64 1) else vs = pV B cut mx t s0 (n * B + d) (i + 1)) := by
 have hx := Ey (l := t) (c := .dead) .i64 hi
 generalize t[i] = c at *
 have clt := c.toNat_lt
 have hlt : (i : Int) < (t.length : Int) := by omega
 have wi : IntKind.i64.wrap ((i : Int) + 1) = (i : Int) + 1 := IntWalk.i64_in _ (by omega); have wB8 : IntKind.u8.wrap (B : Int) = B := IntWalk.u8_in _ (by omega); have wB64 : IntKind.u64.wrap (B : Int) = B := IntWalk.u64_in _ (by omega)
 have i95 : ¬ ((c.toNat : Int) = 95) := by omega
 have i1 : (48 : Int) ≤ (c.toNat : Int) := by omega
 have i2 : ¬ ((c.toNat : Int) ≤ 57) := by omega
 have hl := uF c
 generalize (c ||| 32).toNat = lo at *
 have i3 : (97 : Int) ≤ (lo : Int) := by omega
 have i4 : (lo : Int) ≤ 122 := by omega
 have wd0 : IntKind.u8.wrap ((lo : Int) - 97) = (lo : Int) - 97 := IntWalk.u8_in _ (by omega)
 have wd : IntKind.u8.wrap ((lo : Int) - 97 + 10) = (d : Int) := by rw [IntWalk.u8_in _ (by omega)]; omega
 have wd64 : IntKind.u64.wrap (d : Int) = d := IntWalk.u64_in _ (by omega)
 by_cases g1 : B ≤ d
 · have j1 : (B : Int) ≤ (d : Int) := by omega
   simp [jd.b0, hN, hT, hL, hlt, hx, gS, i95, i1, i2, hl, i3, i4, wd0, wd, fB, iK, gI, hU, wB8, wB64, wd64, wi, g1, j1]
 have j1 : ¬ ((B : Int) ≤ (d : Int)) := by omega
 by_cases g2 : cut ≤ n
 · have j2 : (cut : Int) ≤ (n : Int) := by omega
   simp [jd.b0, hN, hT, hL, hlt, hx, gS, i95, i1, i2, hl, i3, i4, wd0, wd, fB, iK, gI, hU, wB8, wB64, wd64, wi, g1, j1, g2, j2]
 have j2 : ¬ ((cut : Int) ≤ (n : Int)) := by omega
 have hm := hcut n (by omega)
 have wm : IntKind.u64.wrap ((n : Int) * (B : Int)) = ((n * B : Nat) : Int) := by rw [← Int.natCast_mul]; exact IntWalk.u64_in _ (by omega)
 generalize n * B = m at *
 by_cases g3 : mx < m + d
 · by_cases g4 : m + d < 18446744073709551616
   · have wa : IntKind.u64.wrap ((m : Int) + (d : Int)) = (m : Int) + (d : Int) := IntWalk.u64_in _ (by omega)
     have j3 : ¬ ((m : Int) + (d : Int) < (m : Int)) := by omega
     have j4 : (mx : Int) < (m : Int) + (d : Int) := by omega
     simp [jd.b0, hN, hT, hL, hlt, hx, gS, i95, i1, i2, hl, i3, i4, wd0, wd, fB, iK, gI, hU, wB8, wB64, wd64, wi, g1, j1, g2, j2, wm, wa, g3, j3, j4]
   · have wa : IntKind.u64.wrap ((m : Int) + (d : Int)) = (m : Int) + (d : Int) - 18446744073709551616 := by rw [vC]; omega
     have j3 : (m : Int) + (d : Int) - 18446744073709551616 < (m : Int) := by omega
     simp [jd.b0, hN, hT, hL, hlt, hx, gS, i95, i1, i2, hl, i3, i4, wd0, wd, fB, iK, gI, hU, wB8, wB64, wd64, wi, g1, j1, g2, j2, wm, wa, g3, j3]
 · have wa : IntKind.u64.wrap ((m : Int) + (d : Int)) = (m : Int) + (d : Int) := IntWalk.u64_in _ (by omega)
   have j3 : ¬ ((m : Int) + (d : Int) < (m : Int)) := by omega
   have j4 : ¬ ((mx : Int) < (m : Int) + (d : Int)) := by omega
   simp [jd.b0, hN, hT, hL, hlt, hx, gS, i95, i1, i2, hl, i3, i4, wd0, wd, fB, iK, gI, hU, wB8, wB64, wd64, wi, g1, j1, g2, j2, wm, wa, g3, j3, j4]
theorem yg {t s0 : List UInt8} {B cut mx n i : Nat} (hB : 2 ≤ B ∧ B ≤ 36) (hcut : ∀ n, n < cut → n * B < 18446744073709551616) (hmx : mx < 18446744073709551616) (hc64 : cut < 18446744073709551616) {X : St} {N T Lb : Nat} (hN : X.stk.length = N) (hT : X.tk.length = T) (hL : X.lp.length = Lb) (hi : i < t.length) (hlen : t.length < 4611686018427387904) (ht : ¬ (48 ≤ t[i].toNat ∧ t[i].toNat ≤ 57)) (ht' : ¬ (97 ≤ (t[i] ||| 32).toNat ∧ (t[i] ||| 32).toNat ≤ 122)) :
 ∃ vs, jd.b0 (E L) itE N Lb (pV B cut mx t s0 n i) (X.app [] [] []) = some (.ret, vs, X.app [] [] []) ∧ AM.ae vs 1 = .v (.int .u64 0) ∧ AM.ae vs 2 = .ifc 212 (.int .i64 2) := by
 have hx := Ey (l := t) (c := .dead) .i64 hi
 generalize t[i] = c at *
 have clt := c.toNat_lt
 have hlt : (i : Int) < (t.length : Int) := by omega
 have wi : IntKind.i64.wrap ((i : Int) + 1) = (i : Int) + 1 := IntWalk.i64_in _ (by omega); have wB8 : IntKind.u8.wrap (B : Int) = B := IntWalk.u8_in _ (by omega); have wB64 : IntKind.u64.wrap (B : Int) = B := IntWalk.u64_in _ (by omega)
 by_cases h95 : c = 95
 · subst h95
   have hl : ∀ st, E L (.func 177) [.v (.int .u8 95)] st = some (.v (.int .u8 127), st) := fun st => uF 95 st
   simp [jd.b0, hN, hT, hL, hlt, hx, gS, fB, hl]
 have i95 : ¬ ((c.toNat : Int) = 95) := fun h => h95 (UInt8.toNat_inj.1 (by simpa using Int.ofNat_inj.1 h))
 have hl := uF c
 generalize (c ||| 32).toNat = lo at *
 by_cases i1 : (48 : Int) ≤ (c.toNat : Int)
 · have i2 : ¬ ((c.toNat : Int) ≤ 57) := by omega
   by_cases i3 : (97 : Int) ≤ (lo : Int)
   · have i4 : ¬ ((lo : Int) ≤ 122) := by omega
     simp [jd.b0, hN, hT, hL, hlt, hx, gS, fB, hl, i95, i1, i2, i3, i4]
   · simp [jd.b0, hN, hT, hL, hlt, hx, gS, fB, hl, i95, i1, i2, i3]
 · by_cases i3 : (97 : Int) ≤ (lo : Int)
   · have i4 : ¬ ((lo : Int) ≤ 122) := by omega
     simp [jd.b0, hN, hT, hL, hlt, hx, gS, fB, hl, i95, i1, i3, i4]
   · simp [jd.b0, hN, hT, hL, hlt, hx, gS, fB, hl, i95, i1, i3]
theorem uc (c : UInt8) (h : 97 ≤ (c ||| 32).toNat ∧ (c ||| 32).toNat ≤ 122) : 57 < c.toNat ∧ c.toNat ≠ 95 := by
 have key : ∀ n, n < 256 → 97 ≤ (UInt8.ofNat n ||| 32).toNat ∧ (UInt8.ofNat n ||| 32).toNat ≤ 122 → 57 < (UInt8.ofNat n).toNat ∧ (UInt8.ofNat n).toNat ≠ 95 := by decide +kernel
 have := key c.toNat c.toNat_lt; rw [UInt8.ofNat_toNat] at this; exact this h
def PLo (t s0 : List UInt8) (B cut mx : Nat) (X : St) (N Lb : Nat) (suf : List UInt8) (n i : Nat) : Prop :=
 ∃ x vs, itE (jd.b0 (E L) itE N Lb) (pV B cut mx t s0 n i) (X.app [] [] []) = some (x, vs, X.app [] [] []) ∧
  (match (pu B cut mx suf n).2 with
   | none => x = .exit 3 ∧ vs = pV B cut mx t s0 (pu B cut mx suf n).1 t.length
   | some k => x = .ret ∧ AM.ae vs 1 = .v (.int .u64 ((pu B cut mx suf n).1 : Int)) ∧ AM.ae vs 2 = .ifc 212 (.int .i64 (k : Int)))
theorem sR {t s0 : List UInt8} {B cut mx : Nat} (hB : 2 ≤ B ∧ B ≤ 36) (hcut : ∀ n, n < cut → n * B < 18446744073709551616) (hmx : mx < 18446744073709551616) (hc64 : cut < 18446744073709551616) {X : St} {N T Lb : Nat} (hN : X.stk.length = N) (hT : X.tk.length = T) (hL : X.lp.length = Lb) (hlen : t.length < 4611686018427387904) :
 ∀ (suf pre : List UInt8) (n : Nat), t = pre ++ suf →
 PLo t s0 B cut mx X N Lb suf n pre.length := by
 intro suf
 induction suf with
 | nil =>
  intro pre n ht
  have ht : t = pre := by simpa using ht
  subst ht; refine ⟨.exit 3, pV B cut mx t s0 n t.length, ?_, rfl, rfl⟩; apply iS; simp [jd.b0, hN, hT, hL]
 | cons c suf ih =>
  intro pre n ht
  have ht' : t = (pre ++ [c]) ++ suf := by simp [ht]
  have hl : pre.length < t.length := by rw [ht]; simp
  have hg : t[pre.length] = c := by simp [ht]
  have fin : ∀ d, d = so c → (∃ vs, jd.b0 (E L) itE N Lb (pV B cut mx t s0 n pre.length) (X.app [] [] []) = some (if B ≤ d ∨ cut ≤ n ∨ mx < n * B + d then .ret else .normal, vs, X.app [] [] []) ∧
   (if B ≤ d then AM.ae vs 1 = .v (.int .u64 0) ∧ AM.ae vs 2 = .ifc 212 (.int .i64 2) else if cut ≤ n ∨ mx < n * B + d then AM.ae vs 1 = .v (.int .u64 (mx : Int)) ∧ AM.ae vs 2 = .ifc 212 (.int .i64 1) else vs = pV B cut mx t s0 (n * B + d) (pre.length + 1))) → PLo t s0 B cut mx X N Lb (c :: suf) n pre.length := by
   intro d hd h; obtain ⟨vs, h1, h2⟩ := h; subst hd; simp only [PLo, pu]
   by_cases g1 : B ≤ so c
   · rw [if_pos (.inl g1)] at h1
     rw [if_pos g1] at h2; rw [if_pos g1]; exact ⟨.ret, vs, eZ h1, rfl, h2.1, h2.2⟩
   · rw [if_neg g1] at h2
     rw [if_neg g1]
     by_cases g2 : cut ≤ n ∨ mx < n * B + so c
     · rw [if_pos (.inr g2)] at h1
       rw [if_pos g2] at h2; refine ⟨.ret, vs, eZ h1, ?_⟩
       by_cases g3 : cut ≤ n
       · rw [if_pos g3]; exact ⟨rfl, h2.1, h2.2⟩
       · rw [if_neg g3, if_pos (g2.resolve_left g3)]; exact ⟨rfl, h2.1, h2.2⟩
     · rw [if_neg (by rw [not_or]; exact ⟨g1, g2⟩)] at h1
       rw [if_neg g2] at h2; subst h2; rw [if_neg (fun h => g2 (.inl h)), if_neg (fun h => g2 (.inr h)), cd h1]; have := ih (pre ++ [c]) (n * B + so c) ht'; rw [au, bQ] at this; simp only [PLo] at this; exact this
  by_cases h1 : 48 ≤ c.toNat ∧ c.toNat ≤ 57
  · exact fin (c.toNat - 48) (by rw [so, if_pos h1]) (wN hB hcut hmx hc64 hN hT hL hl hlen (by rw [hg]; exact h1) (by rw [hg]))
  · by_cases h2 : 97 ≤ (c ||| 32).toNat ∧ (c ||| 32).toNat ≤ 122
    · exact fin ((c ||| 32).toNat - 87) (by rw [so, if_neg h1, if_pos h2]) (vq hB hcut hmx hc64 hN hT hL hl hlen (by rw [hg]; exact (uc c h2).1) (by rw [hg]; exact (uc c h2).2) (by rw [hg]; exact h2) (by rw [hg]))
    · have hd : so c = 255 := by rw [so, if_neg h1, if_neg h2]
      obtain ⟨vs, e1, e2, e3⟩ := yg (s0 := s0) (n := n) hB hcut hmx hc64 hN hT hL hl hlen (by rw [hg]; exact h1) (by rw [hg]; exact h2); simp only [PLo, pu, hd]; rw [if_pos (by omega)]; exact ⟨.ret, vs, eZ e1, rfl, e2, e3⟩
def puR (B cut mx : Nat) (t : List UInt8) : Nat × Option Nat := if t = [] then (0, some 2) else pu B cut mx t 0
def lg : Option Nat → PV
 | none => .v .nilIface
 | some k => .ifc 212 (.int .i64 (k : Int))
theorem FB : aW Tryz.prog true .shl 34 (.v (.int .u64 1)) (.v (.int .u64 63)) = some (.v (.int .u64 9223372036854775808)) := by kernel_rfl
theorem DG {t : List UInt8} (h : t.length < 2147483648) (st : St) : E L (.func 170) [str t, .v (.int .i64 10), .v (.int .i64 63)] st = some (.tup [.v (.int .u64 ((puR 10 1844674407370955162 9223372036854775807 t).1 : Int)), lg (puR 10 1844674407370955162 9223372036854775807 t).2], st) := by
 rw [yV]; obtain ⟨N, T, Lb, hN, hT, hL⟩ := lens3 st
 conv => lhs; rw [← ao (st)]
 by_cases h0 : t = []
 · subst h0
   simp [jd, hN, hT, hL, fB, puR, lg]
 have wb : IntKind.u64.wrap 63 = 63 := IntWalk.u64_in _ (by omega)
 have wm : IntKind.u64.wrap 9223372036854775807 = 9223372036854775807 := by exact IntWalk.u64_in _ (by omega)
 obtain ⟨x, vs, h1, h2⟩ := sR (t := t) (s0 := t) (B := 10) (cut := 1844674407370955162) (mx := 9223372036854775807) (by omega) (fun n h => by omega) (by omega) (by omega) hN hT hL (by omega) t [] 0 rfl
 have e0 : puR 10 1844674407370955162 9223372036854775807 t = pu 10 1844674407370955162 9223372036854775807 t 0 := by rw [puR, if_neg h0]
 rw [e0]; generalize pu 10 1844674407370955162 9223372036854775807 t 0 = q at h2 ⊢; obtain ⟨r, k⟩ := q; simp only [ay, pV, Int.natCast_zero, aa] at h1 h2
 cases k with
 | none =>
  obtain ⟨rfl, rfl⟩ := h2; simp [jd, hN, hT, hL, fB, h0, mA, lP, kC, sF, FB, wb, wm, h1, lg]
 | some k =>
  obtain ⟨rfl, h3, h4⟩ := h2; simp [AM.ae] at h3 h4; simp [jd, hN, hT, hL, fB, h0, mA, lP, kC, sF, FB, wb, wm, h1, lg, h3, h4]
theorem FC : aW Tryz.prog true .shl 34 (.v (.int .u64 1)) (.v (.int .u64 64)) = some (.v (.int .u64 0)) := by kernel_rfl
theorem DH {t : List UInt8} (h : t.length < 2147483648) (st : St) : E L (.func 170) [str t, .v (.int .i64 16), .v (.int .i64 64)] st = some (.tup [.v (.int .u64 ((puR 16 1152921504606846976 18446744073709551615 t).1 : Int)), lg (puR 16 1152921504606846976 18446744073709551615 t).2], st) := by
 rw [yV]; obtain ⟨N, T, Lb, hN, hT, hL⟩ := lens3 st
 conv => lhs; rw [← ao (st)]
 by_cases h0 : t = []
 · subst h0
   simp [jd, hN, hT, hL, fB, puR, lg]
 have wb : IntKind.u64.wrap 64 = 64 := IntWalk.u64_in _ (by omega)
 have wm : IntKind.u64.wrap (-1) = 18446744073709551615 := by rw [vC]; omega
 obtain ⟨x, vs, h1, h2⟩ := sR (t := t) (s0 := t) (B := 16) (cut := 1152921504606846976) (mx := 18446744073709551615) (by omega) (fun n h => by omega) (by omega) (by omega) hN hT hL (by omega) t [] 0 rfl
 have e0 : puR 16 1152921504606846976 18446744073709551615 t = pu 16 1152921504606846976 18446744073709551615 t 0 := by rw [puR, if_neg h0]
 rw [e0]; generalize pu 16 1152921504606846976 18446744073709551615 t 0 = q at h2 ⊢; obtain ⟨r, k⟩ := q; simp only [ay, pV, Int.natCast_zero, aa] at h1 h2
 cases k with
 | none =>
  obtain ⟨rfl, rfl⟩ := h2; simp [jd, hN, hT, hL, fB, h0, mA, lP, kC, sF, FC, wb, wm, h1, lg]
 | some k =>
  obtain ⟨rfl, h3, h4⟩ := h2; simp [AM.ae] at h3 h4; simp [jd, hN, hT, hL, fB, h0, mA, lP, kC, sF, FC, wb, wm, h1, lg, h3, h4]
theorem CS {g : List Value → Option PV} {args : List PV} {vs : List Value} {p : PV} (h1 : lL args = some vs) (h2 : g vs = some p) (h3 : nI p = true) (st : St) : jR g args st = some (p, st) := by
 simp only [AM.jR, h1, h2, aj, h3, cond_true]
theorem yO {f t : List UInt8} {b z : Int} {k : Nat} (h : t.length < 2147483648) (hk : k = 1 ∨ k = 2) (st : St) : E L (.func 171) [str f, str t, .v (.int .i64 b), .v (.int .i64 z), .ifc 212 (.int .i64 (k : Int))] st = some (.ni, st) := by
 rw [rW (L := L) (f := 171) (g := jR (sO 212)) (by kernel_rfl)]
 have h1 : t.length ≤ 281474976710656 := by omega
 have h2 : (k : Int) = 1 ∨ (k : Int) = 2 := by omega
 simp [AM.jR, AM.lL, AM.valOf, sO, cu, h1, h2, nI]
theorem FF {n : Nat} (h : n < 18446744073709551616) (st : St) : E L (.func 31) [.v (.int .u64 (n : Int)), .v (.int .i64 10)] st = some (str (Lib.decDigits n), st) := by
 rw [rW (L := L) (f := 31) (g := jR AI) (by kernel_rfl)]
 have h1 : (n : Int) < 18446744073709551616 := by omega
 have h0 : (0 : Int) ≤ (n : Int) := by omega
 have e : AI [.int .u64 (n : Int), .int .i64 10] = some (str (Lib.decDigits n)) := by
  unfold AI
  show (if (10 : Int) = 10 ∧ 0 ≤ (n : Int) ∧ (n : Int) < 18446744073709551616 then some (PV.v (.string ⟨(Lib.decDigits (n : Int).toNat).toArray⟩)) else none) = _
  rw [if_pos ⟨rfl, h0, h1⟩, Int.toNat_natCast]
  rfl
 exact CS rfl e rfl st
theorem DB (l : List UInt8) (c : UInt8) (st : St) : E L (.func 144) [str l, .v (.int .u8 (c.toNat : Int))] st = some (.v (.int .i64 (Lib.indexByte l c)), st) := by
 rw [rW (L := L) (f := 144) (g := jR kT) (by kernel_rfl)]; simp [AM.jR, AM.lL, AM.valOf, kT, nI, jN, mj]
theorem DF {a b : List UInt8} (h : a.length < 4294967281) (hb : b.length < 4294967281) (h1 : ∀ c ∈ a, c.toNat < 128) (h2 : ∀ c ∈ b, c.toNat < 128) (st : St) : E L (.func 150) [str a, str b] st = some (.v (.bool (Lib.containsAny a b)), st) := by
 rw [rW (L := L) (f := 150) (g := jR jn) (by kernel_rfl)]
 have e1 : oL (bs a) = true := by simpa [oL, mj] using h1
 have e2 : oL (bs b) = true := by simpa [oL, mj] using h2
 simp [AM.jR, AM.lL, AM.valOf, jn, cu, h, hb, e1, e2, nI, jN, mj]
theorem uD (l : List UInt8) (c : UInt8) (st : St) : E L (.func 114) [str l, .v (.int .u8 (c.toNat : Int))] st = some (.v (.int .i64 (Lib.indexByte l c)), st) := by
 rw [DN]; obtain ⟨N, T, Lb, hN, hT, hL⟩ := lens3 st
 conv => lhs; rw [← ao (st)]
 simp [GN, hN, hT, hL, DB]
theorem indexByte_ge (c : UInt8) : ∀ l : List UInt8, -1 ≤ Lib.indexByte l c ∧ (0 ≤ Lib.indexByte l c ↔ c ∈ l)
 | [] => by simp [Lib.indexByte]
 | b :: l => by
  have ih := indexByte_ge c l; simp only [Lib.indexByte]
  by_cases hb : b = c
  · simp [hb]
  · have hb' : (b == c) = false := by simpa using hb
    have hb2 : ¬ c = b := fun h => hb h.symm
    rw [hb']; simp only [ab, if_false, List.mem_cons, hb2, false_or]
    by_cases h1 : Lib.indexByte l c = -1
    · have : (Lib.indexByte l c == -1) = true := by simpa using h1
      rw [if_pos this]; rw [h1] at ih; exact ⟨by omega, by rw [← ih.2]⟩
    · have : (Lib.indexByte l c == -1) = false := by simpa using h1
      rw [this]; simp only [ab, if_false]; exact ⟨by omega, by rw [← ih.2]; omega⟩
def jw : Option Nat → PV
 | none => .v .nilIface
 | some _ => .ni
theorem CR {B cut mx : Nat} : ∀ (t : List UInt8) (n : Nat) (k : Nat), (pu B cut mx t n).2 = some k → k = 1 ∨ k = 2
 | [], n, k, h => by cases h
 | c :: t, n, k, h => by
  simp only [pu] at h; split at h
  · right; exact (Option.some.inj h).symm
  · split at h
    · left; exact (Option.some.inj h).symm
    · split at h
      · left; exact (Option.some.inj h).symm
      · exact CR t _ k h
theorem zP {B cut mx : Nat} {t : List UInt8} {k : Nat} (h : (puR B cut mx t).2 = some k) : k = 1 ∨ k = 2 := by
 rw [puR] at h; split at h
 · right; exact (Option.some.inj h).symm
 · exact CR t 0 k h
theorem DD {t : List UInt8} (h : t.length < 2147483648) (st : St) : E L (.func 148) [str t, .v (.int .i64 10), .v (.int .i64 63)] st = some (.tup [.v (.int .u64 ((puR 10 1844674407370955162 9223372036854775807 t).1 : Int)), jw (puR 10 1844674407370955162 9223372036854775807 t).2], st) := by
 rw [yS]; obtain ⟨N, T, Lb, hN, hT, hL⟩ := lens3 st
 conv => lhs; rw [← ao (st)]
 have h1 : ∀ X, E L (.func 170) [str t, .v (.int .i64 10), .v (.int .i64 63)] X = some (.tup [.v (.int .u64 ((puR 10 1844674407370955162 9223372036854775807 t).1 : Int)), lg (puR 10 1844674407370955162 9223372036854775807 t).2], X) := DG h
 have hk : ∀ k, (puR 10 1844674407370955162 9223372036854775807 t).2 = some k → k = 1 ∨ k = 2 := fun k h => zP h
 generalize puR 10 1844674407370955162 9223372036854775807 t = q at h1 hk ⊢; obtain ⟨r, k⟩ := q
 cases k with
 | none => simp [Bx, hN, hT, hL, h1, lg, jw, ue]
 | some k =>
  have h49 : ∀ X, E L (.func 171) [str [80, 97, 114, 115, 101, 85, 105, 110, 116], str t, .v (.int .i64 10), .v (.int .i64 63), .ifc 212 (.int .i64 (k : Int))] X = some (.ni, X) := yO h (hk k rfl)
  simp [Bx, hN, hT, hL, h1, lg, jw, tY, h49]
theorem DE {t : List UInt8} (h : t.length < 2147483648) (st : St) : E L (.func 148) [str t, .v (.int .i64 16), .v (.int .i64 64)] st = some (.tup [.v (.int .u64 ((puR 16 1152921504606846976 18446744073709551615 t).1 : Int)), jw (puR 16 1152921504606846976 18446744073709551615 t).2], st) := by
 rw [yS]; obtain ⟨N, T, Lb, hN, hT, hL⟩ := lens3 st
 conv => lhs; rw [← ao (st)]
 have h1 : ∀ X, E L (.func 170) [str t, .v (.int .i64 16), .v (.int .i64 64)] X = some (.tup [.v (.int .u64 ((puR 16 1152921504606846976 18446744073709551615 t).1 : Int)), lg (puR 16 1152921504606846976 18446744073709551615 t).2], X) := DH h
 have hk : ∀ k, (puR 16 1152921504606846976 18446744073709551615 t).2 = some k → k = 1 ∨ k = 2 := fun k h => zP h
 generalize puR 16 1152921504606846976 18446744073709551615 t = q at h1 hk ⊢; obtain ⟨r, k⟩ := q
 cases k with
 | none => simp [Bx, hN, hT, hL, h1, lg, jw, ue]
 | some k =>
  have h49 : ∀ X, E L (.func 171) [str [80, 97, 114, 115, 101, 85, 105, 110, 116], str t, .v (.int .i64 16), .v (.int .i64 64), .ifc 212 (.int .i64 (k : Int))] X = some (.ni, X) := yO h (hk k rfl)
  simp [Bx, hN, hT, hL, h1, lg, jw, tY, h49]
theorem GC : Ag 145 eL := ⟨fun c st h => yL _ st, false, fun c h => by simp [eL, vh, tA, kO (show (128 : Int) ≤ (c.toNat : Int) by omega), kF (show (128 : Int) ≤ (c.toNat : Int) by omega)], fun n st h => by rw [yL, kO (by omega), kF (by omega)]; rfl⟩
theorem GD : Ag 149 eL := ⟨fun c st h => yN _ st, false, fun c h => by simp [eL, vh, tA, kO (show (128 : Int) ≤ (c.toNat : Int) by omega), kF (show (128 : Int) ≤ (c.toNat : Int) by omega)], fun n st h => by rw [yN, kO (by omega), kF (by omega)]; rfl⟩
def nlB (c : UInt8) : Bool := !decide (c = 10)
theorem Hu (c : UInt8) (n : Nat) (h : n < 256) : ((c.toNat : Int) = (n : Int)) = (c = UInt8.ofNat n) := by
 apply propext
 constructor
 · intro e
   have : c.toNat = n := by omega
   rw [← this, UInt8.ofNat_toNat]
 · rintro rfl
   simp [UInt8.toNat_ofNat', Nat.mod_eq_of_lt h]
theorem GB : Ag 113 nlB := ⟨fun c st h => by rw [yK]; have e : ((c.toNat : Int) = 10) = (c = 10) := Hu c 10 (by omega); simp [nlB, e], true, fun c h => by simp [nlB]; rintro rfl; simp at h, fun n st h => by rw [yK]; simp; omega⟩
theorem DA {a b : List UInt8} (ha : a.length < 4611686018427387904) (hb : b.length < 4611686018427387904) (st : St) : E L (.func 140) [str a, str b] st = some (.v (.bool (b.isPrefixOf a)), st) := by
 rw [DW]; obtain ⟨N, T, Lb, hN, hT, hL⟩ := lens3 st
 conv => lhs; rw [← ao (st)]
 by_cases h : b.length ≤ a.length
 · have h1 : (b.length : Int) ≤ (a.length : Int) := by omega
   have e : b.isPrefixOf a = decide (a.take b.length = b) := by
    rw [Bool.eq_iff_iff, List.isPrefixOf_iff_prefix, decide_eq_true_eq, List.prefix_iff_eq_take]; exact eq_comm
   simp [FR, hN, hT, hL, lV, h1, C7 _ h, e]
 · have h1 : ¬ ((b.length : Int) ≤ (a.length : Int)) := by omega
   have e : b.isPrefixOf a = false := by
    rw [Bool.eq_false_iff]; intro hp; exact h ((List.isPrefixOf_iff_prefix.1 hp).length_le)
   simp [FR, hN, hT, hL, lV, h1, e]
theorem uG {a b : List UInt8} (ha : a.length < 4611686018427387904) (hb : b.length < 4611686018427387904) (st : St) : E L (.func 99) [str a, str b] st = some (.v (.bool (b.isPrefixOf a)), st) := by
 rw [Ga]; obtain ⟨N, T, Lb, hN, hT, hL⟩ := lens3 st
 conv => lhs; rw [← ao (st)]
 simp [S99, hN, hT, hL, DA ha hb]
def rF (c : UInt8) : Bool := [32, 9, 13, 10].contains c
def fk : List UInt8 → Nat
 | [] => 0
 | c :: l => if ([47, 47] : List UInt8).isPrefixOf (c :: l) then cL nlB (c :: l) else if rF c then 1 else 0
theorem my : ∀ l : List UInt8, fk l ≤ l.length
 | [] => aq _
 | c :: l => by
  simp only [fk]; split
  · exact kX _ _
  · split <;> simp
theorem wJ {l : List UInt8} (h : ([47, 47] : List UInt8).isPrefixOf l = true) : 0 < cL nlB l := by
 cases l with
 | nil => simp [iU] at h
 | cons c l =>
  have : c = 47 := by
   simp only [iU, aw, beq_iff_eq] at h; exact h.1.symm
  subst this; rw [gC, if_pos (by decide)]; omega
def fF (rest : List UInt8) (p : Nat × Nat) : List UInt8 × (Nat × Nat) :=
 if h : fk rest = 0 then (rest, p) else fF (rest.drop (fk rest)) (adv (rest.take (fk rest)) p)
termination_by rest.length
decreasing_by
 have := my rest; simp only [eN]; omega
theorem ke {rest : List UInt8} {n : Nat} (hn : n ≤ rest.length) {p : Nat × Nat} (hp : 1 ≤ p.2) {M : Nat} (h1 : p.1 + rest.length < M) (h2 : p.2 + rest.length < M) :
 1 ≤ (adv (rest.take n) p).2 ∧ (adv (rest.take n) p).1 + (rest.drop n).length < M ∧ (adv (rest.take n) p).2 + (rest.drop n).length < M := by
 have := nZ (rest.take n) p hp; simp only [List.length_take, eN] at this ⊢; omega
theorem xL (rest : List UInt8) (p : Nat × Nat) {M : Nat} (hp : 1 ≤ p.2) (h1 : p.1 + rest.length < M) (h2 : p.2 + rest.length < M) :
 1 ≤ (fF rest p).2.2 ∧ (fF rest p).2.1 + (fF rest p).1.length < M ∧ (fF rest p).2.2 + (fF rest p).1.length < M ∧ fk (fF rest p).1 = 0 ∧ (fF rest p).1.length ≤ rest.length := by
 induction rest, p using fF.induct with
 | case1 rest p h => rw [fF, dif_pos h]; exact ⟨hp, h1, h2, h, aq _⟩
 | case2 rest p h ih =>
  rw [fF, dif_neg h]; have := ke (my rest) hp h1 h2; have := ih this.1 this.2.1 this.2.2; simp only [eN] at this ⊢; exact ⟨this.1, this.2.1, this.2.2.1, this.2.2.2.1, by omega⟩
theorem uC {g : Nat} {q : UInt8 → Bool} (ht : Ag g q) {X : St} {b : Nat} {rest : List UInt8} {x y : PV} (hb : b < X.stk.length) (hlen : rest.length < 4611686018427387904) (bl : List Blk) (tk : List (Nat × Nat)) (lp : List Aux) :
 E L (.func 112) [.ptr false b 0, .clo (.func g) []] ((X.af false b [str rest, x, y]).app bl tk lp) = some (.v (.int .i64 (cL q rest)), (X.af false b [str rest, x, y]).app bl tk lp) := by
 rw [← bM bl tk lp hb]; exact Dw ht (by rw [cC]; omega) hlen
theorem nX {X : St} {b n : Nat} {rest : List UInt8} {p : Nat × Nat} (hb : b < X.stk.length) (hn : n ≤ rest.length) (hp : 1 ≤ p.2) (h1 : p.1 + rest.length < 4611686018427387904) (h2 : p.2 + rest.length < 4611686018427387904) (bl : List Blk) (tk : List (Nat × Nat)) (lp : List Aux) :
 E L (.func 111) [.ptr false b 0, .v (.int .i64 (n : Int))] ((X.af false b (rdc rest p)).app bl tk lp) = some (str (rest.take n), (X.af false b (rdc (rest.drop n) (adv (rest.take n) p))).app bl tk lp) := by
 rw [← bM bl tk lp hb, ← bM bl tk lp hb]; exact Dv (by rw [cC]; omega) hn hp h1 h2
theorem xK {X : St} {N T Lb b : Nat} (hN : X.stk.length = N) (hT : X.tk.length = T) (hL : X.lp.length = Lb) (hb : b < N) : ∀ (rest : List UInt8) (p : Nat × Nat), 1 ≤ p.2 → p.1 + rest.length < 4611686018427387904 → p.2 + rest.length < 4611686018427387904 →
 itE (S65.b0 (E L) itE N Lb) [.ptr false b 0] ((X.af false b (rdc rest p)).app [] [] []) = some (.exit 0, [.ptr false b 0], (X.af false b (rdc (fF rest p).1 (fF rest p).2)).app [] [] []) := by
 intro rest p
 induction rest, p using fF.induct with
 | case1 rest p h =>
  intro hp h1 h2; rw [fF, dif_pos h]; apply iS
  cases rest with
  | nil => simp [S65.b0, hN, hT, hL, rdc, hb]
  | cons c l =>
   have hpre : ([47, 47] : List UInt8).isPrefixOf (c :: l) = false := by
    cases hq : ([47, 47] : List UInt8).isPrefixOf (c :: l) with
    | false => rfl
    | true =>
     have := wJ hq; rw [fk, if_pos hq] at h; omega
   have hbl : rF c = false := by
    cases hq : rF c with
    | false => rfl
    | true => rw [fk, if_neg (by rw [hpre]; simp), if_pos hq] at h; cases h
   have e26 : ∀ X, E L (.func 99) [str (c :: l), str [47, 47]] X = some (.v (.bool false), X) := fun X => by rw [uG (by omega) (by simp), hpre]
   have e30 : ∀ X, E L (.func 114) [str [32, 9, 13, 10], .v (.int .u8 (c.toNat : Int))] X = _ := uD [32, 9, 13, 10] c
   have hi : ¬ (0 ≤ Lib.indexByte [32, 9, 13, 10] c) := by
    rw [(indexByte_ge c _).2]; simpa [rF] using hbl
   simp [S65.b0, hN, hT, hL, rdc, hb, e26, rn, e30, hi]
 | case2 rest p h ih =>
  intro hp h1 h2; rw [fF, dif_neg h]; have ad := ke (my rest) hp h1 h2; rw [cd (vs' := [.ptr false b 0]) (st' := (X.af false b (rdc (rest.drop (fk rest)) (adv (rest.take (fk rest)) p))).app [] [] [])]
  · exact ih ad.1 ad.2.1 ad.2.2
  cases rest with
  | nil => simp [fk] at h
  | cons c l =>
   have e26 : ∀ X, E L (.func 99) [str (c :: l), str [47, 47]] X = some (.v (.bool (([47, 47] : List UInt8).isPrefixOf (c :: l))), X) := fun X => by rw [uG (by omega) (by simp)]
   have e27 := nX (X := X) (hN ▸ hb) (my (c :: l)) hp h1 h2 [] [] []
   cases hpre : ([47, 47] : List UInt8).isPrefixOf (c :: l) with
   | true =>
    have hn : fk (c :: l) = cL nlB (c :: l) := by rw [fk, if_pos hpre]
    rw [hpre] at e26; have e28 := uC GB (X := X) (b := b) (rest := c :: l) (x := .v (.int .i64 (p.1 : Int))) (y := .v (.int .i64 (p.2 : Int))) (hN ▸ hb) (by omega) [] [] []; rw [← hn] at e28
    generalize fk (c :: l) = n at *
    generalize (c :: l).drop n = r at *
    generalize (c :: l).take n = t at *
    simp only [rdc] at e27; simp [S65.b0, hN, hT, hL, rdc, hb, e26, e28, e27]
   | false =>
    rw [hpre] at e26
    have hbl : rF c = true := by
     cases hq : rF c with
     | true => rfl
     | false => rw [fk, if_neg (by rw [hpre]; simp), if_neg (by rw [hq]; simp)] at h; exact absurd rfl h
    have hn : fk (c :: l) = 1 := by rw [fk, if_neg (by rw [hpre]; simp), if_pos hbl]
    have e30 : ∀ X, E L (.func 114) [str [32, 9, 13, 10], .v (.int .u8 (c.toNat : Int))] X = _ := uD [32, 9, 13, 10] c
    have hi : 0 ≤ Lib.indexByte [32, 9, 13, 10] c := by
     rw [(indexByte_ge c _).2]; simpa [rF] using hbl
    rw [hn] at e27 ⊢; simp only [rdc, aa] at e27
    generalize (c :: l).drop 1 = r at *
    generalize (c :: l).take 1 = t at *
    simp [S65.b0, hN, hT, hL, rdc, hb, e26, rn, e30, hi, e27]
theorem FH {s : St} {b : Nat} {rest : List UInt8} {p : Nat × Nat} (hb : b < s.stk.length) (hp : 1 ≤ p.2) (h1 : p.1 + rest.length < 4611686018427387904) (h2 : p.2 + rest.length < 4611686018427387904) :
 E L (.func 65) [.ptr false b 0] (s.af false b (rdc rest p)) = some (.tup [], s.af false b (rdc (fF rest p).1 (fF rest p).2)) := by
 rw [F3]; obtain ⟨N, T, Lb, hN, hT, hL⟩ := lens3 s; rw [hN] at hb
 conv => lhs; rw [← ao (s.af false b (rdc rest p))]
 have h := xK hN hT hL hb rest p hp h1 h2; simp only [rdc] at h; simp [S65, hN, hT, hL, rdc, h]
abbrev bw (k : Nat) (t : List UInt8) (v : Nat) (p : Nat × Nat) : List PV := [.v (.int .i64 (k : Int)), str t, .v (.int .u64 (v : Int)), .v (.int .i64 (p.1 : Int)), .v (.int .i64 (p.2 : Int))]
abbrev tF (t : List UInt8) : Nat × Option Nat := puR 10 1844674407370955162 9223372036854775807 t
abbrev wU (t : List UInt8) : Nat × Option Nat := puR 16 1152921504606846976 18446744073709551615 t
def lA (t : List UInt8) : Nat × Nat × Bool :=
 if kY t then (2, 0, true) else if rp t then (1, 0, true) else (3, (tF t).1, (tF t).2.isNone && decide (Lib.decDigits (tF t).1 = t))
theorem Fz {B cut mx : Nat} : ∀ (t : List UInt8) (n : Nat), n ≤ mx → (pu B cut mx t n).1 ≤ mx
 | [], n, h => h
 | c :: t, n, h => by
  simp only [pu]; split
  · exact dA _
  · split
    · exact aq _
    · split
      · exact aq _
      · exact Fz t _ (by omega)
theorem zN (t : List UInt8) : (tF t).1 ≤ 9223372036854775807 := by
 unfold tF puR; split
 · simp
 · exact Fz t 0 (dA _)
theorem Dx {s : St} {b : Nat} {rest : List UInt8} {p : Nat × Nat} (hb : b < s.stk.length) (hp : 1 ≤ p.2) (h1 : p.1 + rest.length < 2147483648) (h2 : p.2 + rest.length < 2147483648) :
 E L (.func 117) [.ptr false b 0] (s.af false b (rdc rest p)) = some (.tup [.agg (bw (lA (rest.take (cL eL rest))).1 (rest.take (cL eL rest)) (lA (rest.take (cL eL rest))).2.1 p), .v (.bool (lA (rest.take (cL eL rest))).2.2)],
  s.af false b (rdc (rest.drop (cL eL rest)) (adv (rest.take (cL eL rest)) p))) := by
 rw [DQ]; obtain ⟨N, T, Lb, hN, hT, hL⟩ := lens3 s; rw [hN] at hb
 conv => lhs; rw [← ao (s.af false b (rdc rest p))]
 have hlt : (rest.take (cL eL rest)).length < 2147483648 := by simp; omega
 have e28 := fun bl => uC GC (X := s) (b := b) (rest := rest) (x := .v (.int .i64 (p.1 : Int))) (y := .v (.int .i64 (p.2 : Int))) (hN ▸ hb) (by omega) bl [] []
 have e27 := fun bl => nX (X := s) (hN ▸ hb) (kX eL rest) hp (by omega) (by omega) bl [] []
 generalize cL eL rest = n at *
 generalize rest.take n = t at *
 generalize rest.drop n = r at *
 simp only [rdc] at e27
 have e14 : ∀ X, E L (.func 146) [str t] X = some (.v (.bool (kY t)), X) := yM hlt
 have e13 : ∀ X, E L (.func 147) [str t] X = some (.v (.bool (rp t)), X) := DC hlt
 have e42 : ∀ X, E L (.func 148) [str t, .v (.int .i64 10), .v (.int .i64 63)] X = some (.tup [.v (.int .u64 ((tF t).1 : Int)), jw (tF t).2], X) := DD hlt
 have e43 : ∀ X, E L (.func 31) [.v (.int .u64 ((tF t).1 : Int)), .v (.int .i64 10)] X = some (str (Lib.decDigits (tF t).1), X) := FF (by have := zN t; omega)
 unfold lA
 cases hw : kY t with
 | true => simp [Bw, hN, hT, hL, rdc, hb, e28, e27, e14, hw, bq, cz, laid, aJ, bw]
 | false =>
 cases hm : rp t with
 | true => simp [Bw, hN, hT, hL, rdc, hb, e28, e27, e14, hw, e13, hm, bq, cz, laid, aJ, bw]
 | false =>
  generalize tF t = q at *
  obtain ⟨v, k⟩ := q
  cases k with
  | none => simp [Bw, hN, hT, hL, rdc, hb, e28, e27, e14, hw, e13, hm, e42, e43, jw, qN, bq, cz, laid, aJ, bw]
  | some k => simp [Bw, hN, hT, hL, rdc, hb, e28, e27, e14, hw, e13, hm, e42, e43, jw, ua, bq, cz, laid, aJ, bw]
theorem Ea {c : UInt8} (h : eL c = true) : c.toNat < 128 := by
 have := c.toNat_lt
 by_cases hc : c.toNat < 128
 · exact hc
 · simp [eL, vh, tA, kO (show (128 : Int) ≤ (c.toNat : Int) by omega), kF (show (128 : Int) ≤ (c.toNat : Int) by omega)] at h
theorem Db (q : UInt8 → Bool) (l : List UInt8) : ∀ c ∈ l.take (cL q l), q c = true := by
 induction l with
 | nil => simp [cL]
 | cons a l ih =>
  rw [gC]
  by_cases ha : q a = true
  · rw [if_pos ha, aA]
    intro c hc
    rcases List.mem_cons.1 hc with rfl | hc
    · exact ha
    · exact ih c hc
  · rw [if_neg ha]; simp
def sT (t : List UInt8) : Bool := (wU t).2.isNone && decide (t.length = 16) && !Lib.containsAny (35 :: t) [65, 66, 67, 68, 69, 70]
theorem Dy {s : St} {b : Nat} {l : List UInt8} {p : Nat × Nat} (hb : b < s.stk.length) (hp : 1 ≤ p.2) (h1 : p.1 + (35 :: l).length < 2147483648) (h2 : p.2 + (35 :: l).length < 2147483648) :
 E L (.func 118) [.ptr false b 0] (s.af false b (rdc (35 :: l) p)) = some (.tup [.agg (bw 4 (35 :: l.take (cL eL l)) (wU (l.take (cL eL l))).1 p), .v (.bool (sT (l.take (cL eL l))))],
  s.af false b (rdc (l.drop (cL eL l)) (adv (35 :: l.take (cL eL l)) p))) := by
 rw [DS]; obtain ⟨N, T, Lb, hN, hT, hL⟩ := lens3 s; rw [hN] at hb
 conv => lhs; rw [← ao (s.af false b (rdc (35 :: l) p))]
 simp only [ah] at h1 h2
 have hlt : (l.take (cL eL l)).length < 2147483647 := by simp; omega
 have hal := Db eL l; have ad := ke (rest := 35 :: l) (n := 1) (by simp) hp (M := 2147483648) (by simpa using h1) (by simpa using h2); simp only [aA, ba, aQ, br] at ad
 have e27 := fun bl => nX (X := s) (b := b) (n := 1) (rest := 35 :: l) (hN ▸ hb) (by simp) hp (by simp; omega) (by simp; omega) bl [] []
 simp only [aA, ba, aQ, br, rdc, aa] at e27
 have e28 := fun bl => uC GD (X := s) (b := b) (rest := l) (x := .v (.int .i64 ((adv [35] p).1 : Int))) (y := .v (.int .i64 ((adv [35] p).2 : Int))) (hN ▸ hb) (by omega) bl [] []
 have e27' := fun bl => nX (X := s) (b := b) (rest := l) (p := adv [35] p) (hN ▸ hb) (kX eL l) ad.1 (by omega) (by omega) bl [] []
 have ea : adv (35 :: l.take (cL eL l)) p = adv (l.take (cL eL l)) (adv [35] p) := iV [35] _ p; rw [ea]
 generalize adv [35] p = p1 at *
 generalize cL eL l = n at *
 generalize l.take n = t at *
 generalize l.drop n = r at *
 simp only [rdc] at e27'
 have es : aW Tryz.prog true .add 9 (str [35]) (str t) = some (str (35 :: t)) := by rw [rU _ _ _ _ _ (by simp [cu]; omega), n8]; rfl
 have esl : ib Tryz.prog 9 (str (35 :: t)) (some (.v (.int .i64 1))) none none = some (str t) := C9 (l := 35 :: t) (lo := 1) .i64 (by simp)
 have e42 : ∀ X, E L (.func 148) [str t, .v (.int .i64 16), .v (.int .i64 64)] X = some (.tup [.v (.int .u64 ((wU t).1 : Int)), jw (wU t).2], X) := DE (by omega)
 have e45 : ∀ X, E L (.func 150) [str (35 :: t), str [65, 66, 67, 68, 69, 70]] X = some (.v (.bool (Lib.containsAny (35 :: t) [65, 66, 67, 68, 69, 70])), X) := DF (by simp; omega) (by simp) (fun c hc => by
  rcases List.mem_cons.1 hc with rfl | hc
  · decide
  · exact Ea (hal c hc)) (by decide)
 unfold sT
 generalize Lib.containsAny (35 :: t) [65, 66, 67, 68, 69, 70] = ca at *
 generalize wU t = q at *
 obtain ⟨v, k⟩ := q
 cases k with
 | none =>
  by_cases hlen : t.length = 16
  · have hl' : ((t.length : Int) + 1 = 17) := by omega
    simp [DR, hN, hT, hL, rdc, hb, e27, e28, e27', es, esl, e42, jw, qN, lV, hlen, hl', e45, bq, cz, laid, aJ, bw]
  · have hl' : ¬ ((t.length : Int) + 1 = 17) := by omega
    simp [DR, hN, hT, hL, rdc, hb, e27, e28, e27', es, esl, e42, jw, qN, lV, hlen, hl', bq, cz, laid, aJ, bw]
 | some k => simp [DR, hN, hT, hL, rdc, hb, e27, e28, e27', es, esl, e42, jw, ua, bq, cz, laid, aJ, bw]
def j6 : List UInt8 := [123, 125, 40, 41, 91, 93, 59, 58, 44, 46, 61, 60, 43, 45, 42, 47, 37]
def fw (l : List UInt8) : Nat :=
 if ([61, 61] : List UInt8).isPrefixOf l || ([33, 61] : List UInt8).isPrefixOf l || ([60, 61] : List UInt8).isPrefixOf l then 2 else
 match l with
 | [] => 0
 | c :: _ => if j6.contains c then 1 else 0
theorem Dz {s : St} {b : Nat} {c : UInt8} {l : List UInt8} {p : Nat × Nat} (hb : b < s.stk.length) (hp : 1 ≤ p.2) (h1 : p.1 + (c :: l).length < 2147483648) (h2 : p.2 + (c :: l).length < 2147483648) :
 E L (.func 119) [.ptr false b 0] (s.af false b (rdc (c :: l) p)) = some (.tup [.agg (bw 5 ((c :: l).take (fw (c :: l))) 0 p), .v (.bool (!decide (fw (c :: l) = 0)))],
  s.af false b (rdc ((c :: l).drop (fw (c :: l))) (adv ((c :: l).take (fw (c :: l))) p))) := by
 rw [DT]; obtain ⟨N, T, Lb, hN, hT, hL⟩ := lens3 s; rw [hN] at hb
 conv => lhs; rw [← ao (s.af false b (rdc (c :: l) p))]
 have hlen : (c :: l).length < 2147483648 := by omega
 have eb : kA Tryz.prog 198 [(0, str [61, 61]), (1, str [33, 61]), (2, str [60, 61])] = some (.agg [str [61, 61], str [33, 61], str [60, 61]]) := by kernel_rfl
 let V := fun (i : Int) => [PV.ptr false b 0, .ptr false N 0, .v (.bool false), .ptr false (N + 1) 0, .agg [str [61, 61], str [33, 61], str [60, 61]], .v (.int .i64 i)]
 have miss : ∀ (i : Int) (x : List UInt8), 0 ≤ i → i < 3 → dG Tryz.prog 198 (.agg [str [61, 61], str [33, 61], str [60, 61]]) (.v (.int .i64 i)) = some (str x) → x.length ≤ 2 → x.isPrefixOf (c :: l) = false → ∀ bl,
  qy.b0 (E L) itE N Lb (V i) ((s.af false b (rdc (c :: l) p)).app bl [] []) = some (.normal, V (i + 1), (s.af false b (rdc (c :: l) p)).app bl [] []) := by
  intro i x h0 h3 hx hxl hpre bl
  have e26 : ∀ X, E L (.func 99) [str (c :: l), str x] X = some (.v (.bool false), X) := fun X => by rw [uG (by omega) (by omega), hpre]
  have wi : IntKind.i64.wrap (i + 1) = i + 1 := IntWalk.i64_in _ (by omega); simp [qy.b0, V, hN, hT, hL, rdc, hb, h3, hx, e26, wi]
 have hit : ∀ (i : Int) (x : List UInt8), 0 ≤ i → i < 3 → dG Tryz.prog 198 (.agg [str [61, 61], str [33, 61], str [60, 61]]) (.v (.int .i64 i)) = some (str x) → x.length = 2 → x.isPrefixOf (c :: l) = true → ∃ y,
  qy.b0 (E L) itE N Lb (V i) ((s.af false b (rdc (c :: l) p)).app [⟨[.v (.int .i64 0), str [], .v (.int .u64 0), .v (.int .i64 0), .v (.int .i64 0)], []⟩, ⟨bw 5 [] 0 p, []⟩] [] []) =
   some (.ret, [PV.ptr false b 0, .ptr false N 0, .v (.bool true), .ptr false (N + 1) 0, .agg [str [61, 61], str [33, 61], str [60, 61]], y], (s.af false b (rdc ((c :: l).drop 2) (adv ((c :: l).take 2) p))).app [⟨bw 5 ((c :: l).take 2) 0 p, []⟩, ⟨bw 5 ((c :: l).take 2) 0 p, []⟩] [] []) := by
  intro i x h0 h3 hx hxl hpre
  have e26 : ∀ X, E L (.func 99) [str (c :: l), str x] X = some (.v (.bool true), X) := fun X => by rw [uG (by omega) (by omega), hpre]
  have hn : 2 ≤ (c :: l).length := by
   have := (List.isPrefixOf_iff_prefix.1 hpre).length_le; omega
  have e27 := fun bl => nX (X := s) (n := 2) (hN ▸ hb) hn hp (by omega) (by omega) bl [] []
  simp only [rdc, aa] at e27
  generalize (c :: l).drop 2 = r at *
  generalize (c :: l).take 2 = t at *
  refine ⟨.v (.int .i64 i), ?_⟩; simp [qy.b0, V, hN, hT, hL, rdc, hb, h3, hx, e26, e27, laid, aJ, bw]
 have i0 : dG Tryz.prog 198 (.agg [str [61, 61], str [33, 61], str [60, 61]]) (.v (.int .i64 0)) = some (str [61, 61]) := zr _ _ _ _; have i1 : dG Tryz.prog 198 (.agg [str [61, 61], str [33, 61], str [60, 61]]) (.v (.int .i64 1)) = some (str [33, 61]) := zt _ _ _ _; have i2 : dG Tryz.prog 198 (.agg [str [61, 61], str [33, 61], str [60, 61]]) (.v (.int .i64 2)) = some (str [60, 61]) := zx _ _ _ _
 by_cases htwo : ([61, 61] : List UInt8).isPrefixOf (c :: l) || ([33, 61] : List UInt8).isPrefixOf (c :: l) || ([60, 61] : List UInt8).isPrefixOf (c :: l)
 · have hs : fw (c :: l) = 2 := by rw [fw, if_pos htwo]
   rw [hs]
   have run : ∃ y, itE (qy.b0 (E L) itE N Lb) (V 0) ((s.af false b (rdc (c :: l) p)).app [⟨[.v (.int .i64 0), str [], .v (.int .u64 0), .v (.int .i64 0), .v (.int .i64 0)], []⟩, ⟨bw 5 [] 0 p, []⟩] [] []) =
    some (.ret, [PV.ptr false b 0, .ptr false N 0, .v (.bool true), .ptr false (N + 1) 0, .agg [str [61, 61], str [33, 61], str [60, 61]], y], (s.af false b (rdc ((c :: l).drop 2) (adv ((c :: l).take 2) p))).app [⟨bw 5 ((c :: l).take 2) 0 p, []⟩, ⟨bw 5 ((c :: l).take 2) 0 p, []⟩] [] []) := by
    cases h0 : ([61, 61] : List UInt8).isPrefixOf (c :: l) with
    | true =>
     obtain ⟨y, h⟩ := hit 0 _ (by omega) (by omega) i0 rfl h0; exact ⟨y, eZ h⟩
    | false =>
     rw [cd (miss 0 _ (by omega) (by omega) i0 (by simp) h0 _)]
     cases h1 : ([33, 61] : List UInt8).isPrefixOf (c :: l) with
     | true =>
      obtain ⟨y, h⟩ := hit 1 _ (by omega) (by omega) i1 rfl h1; exact ⟨y, eZ h⟩
     | false =>
      rw [show (0 : Int) + 1 = 1 from rfl, cd (miss 1 _ (by omega) (by omega) i1 (by simp) h1 _)]; obtain ⟨y, h⟩ := hit 2 _ (by omega) (by omega) i2 rfl (by rw [h0, h1] at htwo; simpa using htwo); exact ⟨y, eZ h⟩
   obtain ⟨y, run⟩ := run; simp only [V, bw, rdc, aa, Int.natCast_zero] at run
   generalize (c :: l).drop 2 = r at *
   generalize (c :: l).take 2 = t at *
   simp [qy, hN, hT, hL, rdc, hb, eb, run, bq, cz, laid, aJ, bw]
 · have h012 : ([61, 61] : List UInt8).isPrefixOf (c :: l) = false ∧ ([33, 61] : List UInt8).isPrefixOf (c :: l) = false ∧ ([60, 61] : List UInt8).isPrefixOf (c :: l) = false := by
    simp only [Bool.or_eq_true, not_or, Bool.not_eq_true] at htwo; exact ⟨htwo.1.1, htwo.1.2, htwo.2⟩
   have run : ∀ bl, itE (qy.b0 (E L) itE N Lb) (V 0) ((s.af false b (rdc (c :: l) p)).app bl [] []) = some (.exit 0, V 3, (s.af false b (rdc (c :: l) p)).app bl [] []) := by
    intro bl; rw [cd (miss 0 _ (by omega) (by omega) i0 (by simp) h012.1 _), show (0 : Int) + 1 = 1 from rfl, cd (miss 1 _ (by omega) (by omega) i1 (by simp) h012.2.1 _), show (1 : Int) + 1 = 2 from rfl, cd (miss 2 _ (by omega) (by omega) i2 (by simp) h012.2.2 _)]; apply iS; simp [qy.b0, V, hN, hT, hL]
   simp only [V, rdc] at run
   have e30 : ∀ X, E L (.func 114) [str j6, .v (.int .u8 (c.toNat : Int))] X = _ := uD j6 c
   have hin := (indexByte_ge c j6)
   by_cases hc : c ∈ j6
   · have hs : fw (c :: l) = 1 := by rw [fw, if_neg htwo]; simp [hc]
     have hneg : ¬ (Lib.indexByte j6 c < 0) := by have := hin.2.2 hc; omega
     rw [hs]
     have e27 := fun bl => nX (X := s) (b := b) (n := 1) (rest := c :: l) (hN ▸ hb) (by simp) hp (by omega) (by omega) bl [] []
     simp only [rdc, aa] at e27
     generalize (c :: l).drop 1 = r at *
     generalize (c :: l).take 1 = t at *
     unfold j6 at e30 hneg; simp [qy, hN, hT, hL, rdc, hb, eb, run, rn, e30, hneg, e27, bq, cz, laid, aJ, bw]
   · have hs : fw (c :: l) = 0 := by rw [fw, if_neg htwo]; simp [hc]
     have hneg : Lib.indexByte j6 c < 0 := by
      have h' : ¬ (0 ≤ Lib.indexByte j6 c) := fun h => hc (hin.2.1 h)
      omega
     rw [hs]; unfold j6 at e30 hneg; simp [qy, hN, hT, hL, rdc, hb, eb, run, rn, e30, hneg, bq, cz, laid, aJ, bw, adv]
def dH : List UInt8 → Nat × Nat × Nat × Bool
 | [] => (0, 0, 0, false)
 | c :: l =>
  if eL c then ((lA ((c :: l).take (cL eL (c :: l)))).1, cL eL (c :: l), (lA ((c :: l).take (cL eL (c :: l)))).2.1, (lA ((c :: l).take (cL eL (c :: l)))).2.2)
  else if c = 35 then (4, cL eL l + 1, (wU (l.take (cL eL l))).1, sT (l.take (cL eL l)))
  else (5, fw (c :: l), 0, !decide (fw (c :: l) = 0))
theorem iP {c : UInt8} {l : List UInt8} (h : eL c = true) : dH (c :: l) = ((lA ((c :: l).take (cL eL (c :: l)))).1, cL eL (c :: l), (lA ((c :: l).take (cL eL (c :: l)))).2.1, (lA ((c :: l).take (cL eL (c :: l)))).2.2) := by rw [dH, if_pos h]
theorem ia (l : List UInt8) : dH (35 :: l) = (4, cL eL l + 1, (wU (l.take (cL eL l))).1, sT (l.take (cL eL l))) := by rw [dH, if_neg (by decide), if_pos rfl]
theorem gP {c : UInt8} {l : List UInt8} (h : eL c = false) (hc : c ≠ 35) : dH (c :: l) = (5, fw (c :: l), 0, !decide (fw (c :: l) = 0)) := by rw [dH, if_neg (by rw [h]; simp), if_neg hc]
theorem FI {s : St} {b : Nat} {c : UInt8} {l : List UInt8} {p : Nat × Nat} (hb : b < s.stk.length) (hp : 1 ≤ p.2) (h1 : p.1 + (c :: l).length < 2147483648) (h2 : p.2 + (c :: l).length < 2147483648) :
 E L (.func 66) [.ptr false b 0] (s.af false b (rdc (c :: l) p)) = some (.tup [.agg (bw (dH (c :: l)).1 ((c :: l).take (dH (c :: l)).2.1) (dH (c :: l)).2.2.1 p), .v (.bool (dH (c :: l)).2.2.2)],
  s.af false b (rdc ((c :: l).drop (dH (c :: l)).2.1) (adv ((c :: l).take (dH (c :: l)).2.1) p))) := by
 rw [F4]; obtain ⟨N, T, Lb, hN, hT, hL⟩ := lens3 s; rw [hN] at hb
 conv => lhs; rw [← ao (s.af false b (rdc (c :: l) p))]
 have at_ : ∀ (f : Nat) (x : PV) (R : List PV), (∀ X : St, b < X.stk.length → E L (.func f) [.ptr false b 0] (X.af false b (rdc (c :: l) p)) = some (x, X.af false b R)) → ∀ bl, E L (.func f) [.ptr false b 0] ((s.af false b (rdc (c :: l) p)).app bl [] []) = some (x, (s.af false b R).app bl [] []) := by
  intro f x R h bl; rw [← bM bl [] [] (hN ▸ hb), ← bM bl [] [] (hN ▸ hb)]; exact h _ (by rw [cC, hN]; omega)
 have wc : IntKind.i32.wrap (c.toNat : Int) = (c.toNat : Int) := IntWalk.i32_in _ (by have := c.toNat_lt; omega); have hal : eL c = (qJ (c.toNat : Int) || vZ (c.toNat : Int)) := rfl
 cases ha : eL c with
 | true =>
  rw [iP ha]; dsimp only
  have e31 := at_ 117 _ _ fun X hX => Dx hX hp h1 h2
  generalize cL eL (c :: l) = n at *
  generalize (c :: l).drop n = r at *
  generalize (c :: l).take n = t at *
  generalize lA t = q at *
  obtain ⟨q1, q2, q3⟩ := q; simp only [rdc, bw] at e31; rw [hal] at ha
  cases hl : qJ (c.toNat : Int) with
  | true => simp [S66, hN, hT, hL, rdc, hb, rn, n9, wc, iQ, iR, hl, e31, laid, aJ, bw]
  | false =>
   rw [hl, Bool.false_or] at ha; simp [S66, hN, hT, hL, rdc, hb, rn, n9, wc, iQ, iR, hl, ha, e31, laid, aJ, bw]
 | false =>
  have ha0 := ha; rw [hal] at ha; simp only [Bool.or_eq_false_iff] at ha
  by_cases hc : c = 35
  · subst hc
    have e32 := at_ 118 _ _ fun X hX => Dy hX hp h1 h2
    rw [ia]; simp only [aA, aQ]
    generalize cL eL l = n at *
    generalize l.drop n = r at *
    generalize l.take n = t at *
    generalize wU t = q at *
    generalize sT t = ok at *
    obtain ⟨v, k⟩ := q; simp only [rdc, bw, aa] at e32; have h35 : ((35 : UInt8).toNat : Int) = 35 := rfl; rw [h35] at ha wc; simp [S66, hN, hT, hL, rdc, hb, rn, n9, wc, iQ, iR, ha.1, ha.2, e32, laid, aJ, bw]
  · have e33 := at_ 119 _ _ fun X hX => Dz hX hp h1 h2
    have h35 : ¬ ((c.toNat : Int) = 35) := fun h => hc (UInt8.toNat_inj.1 (by simpa using Int.ofNat_inj.1 h))
    rw [gP ha0 hc]; dsimp only
    generalize fw (c :: l) = n at *
    generalize (c :: l).drop n = r at *
    generalize (c :: l).take n = t at *
    simp only [rdc, bw, aa, Int.natCast_zero] at e33; simp [S66, hN, hT, hL, rdc, hb, rn, n9, wc, iQ, iR, ha.1, ha.2, h35, e33, laid, aJ, bw]
structure Tok where
 kind : Nat
 text : List UInt8
 n : Nat
 p : Nat × Nat
abbrev Tok.c (t : Tok) : List PV := bw t.kind t.text t.n t.p
inductive LR where
 | ok (ts : List Tok)
 | err (p : Nat × Nat)
def LR.cons (t : Tok) : LR → LR
 | .ok ts => .ok (t :: ts)
 | .err p => .err p
theorem xe {q : UInt8 → Bool} {c : UInt8} {l : List UInt8} (h : q c = true) : 0 < cL q (c :: l) := by rw [gC, if_pos h]; omega
theorem C5 (c : UInt8) (l : List UInt8) : fw (c :: l) ≤ (c :: l).length := by
 rw [fw]; split
 · rename_i h
   have len : ∀ x y : UInt8, ([x, y] : List UInt8).isPrefixOf (c :: l) = true → 2 ≤ (c :: l).length := fun x y h => (List.isPrefixOf_iff_prefix.1 h).length_le
   simp only [Bool.or_eq_true] at h
   rcases h with (h | h) | h
   · exact len _ _ h
   · exact len _ _ h
   · exact len _ _ h
 · simp only [ah]
   split <;> omega
theorem jq {c : UInt8} {l : List UInt8} (h : (dH (c :: l)).2.2.2 = true) : 0 < (dH (c :: l)).2.1 := by
 cases ha : eL c with
 | true => rw [iP ha]; exact xe ha
 | false =>
  by_cases hc : c = 35
  · subst hc; rw [ia]; exact Nat.succ_pos _
  · rw [gP ha hc] at h ⊢
    simpa [Nat.pos_iff_ne_zero] using h
theorem mS (c : UInt8) (l : List UInt8) : (dH (c :: l)).2.1 ≤ (c :: l).length := by
 cases ha : eL c with
 | true => rw [iP ha]; exact kX _ _
 | false =>
  by_cases hc : c = 35
  · subst hc; rw [ia]
    have := kX eL l
    simp only [ah]; omega
  · rw [gP ha hc]; exact C5 c l
def ly (rest : List UInt8) (p : Nat × Nat) : Tok := ⟨(dH rest).1, rest.take (dH rest).2.1, (dH rest).2.2.1, p⟩
def fH : List UInt8 → Nat × Nat → LR
 | [], p => .ok [⟨0, [], 0, p⟩]
 | c :: l, p =>
  if hb : fk (c :: l) = 0 then
   if ht : (dH (c :: l)).2.2.2 = true then (fH ((c :: l).drop (dH (c :: l)).2.1) (adv ((c :: l).take (dH (c :: l)).2.1) p)).cons (ly (c :: l) p)
   else .err p
  else fH ((c :: l).drop (fk (c :: l))) (adv ((c :: l).take (fk (c :: l))) p)
termination_by rest => rest.length
decreasing_by
 · have := jq ht
   simp only [eN, ah]; omega
 · simp only [eN, ah]; omega
theorem jP (p : Nat × Nat) : fH [] p = .ok [⟨0, [], 0, p⟩] := by rw [fH]
theorem gz {rest : List UInt8} (h : fk rest ≠ 0) (p : Nat × Nat) : fH rest p = fH (rest.drop (fk rest)) (adv (rest.take (fk rest)) p) := by
 cases rest with
 | nil => exact absurd rfl h
 | cons c l => rw [fH, dif_neg h]
theorem jl {c : UInt8} {l : List UInt8} (h : fk (c :: l) = 0) (ht : (dH (c :: l)).2.2.2 = true) (p : Nat × Nat) : fH (c :: l) p = (fH ((c :: l).drop (dH (c :: l)).2.1) (adv ((c :: l).take (dH (c :: l)).2.1) p)).cons (ly (c :: l) p) := by
 rw [fH, dif_pos h, dif_pos ht]
theorem jk {c : UInt8} {l : List UInt8} (h : fk (c :: l) = 0) (ht : (dH (c :: l)).2.2.2 = false) (p : Nat × Nat) : fH (c :: l) p = .err p := by
 rw [fH, dif_pos h, dif_neg (by rw [ht]; simp)]
theorem wG (rest : List UInt8) (p : Nat × Nat) : fH rest p = fH (fF rest p).1 (fF rest p).2 := by
 induction rest, p using fF.induct with
 | case1 rest p h => rw [fF, dif_pos h]
 | case2 rest p h ih =>
  have e : fF rest p = fF (rest.drop (fk rest)) (adv (rest.take (fk rest)) p) := by
   conv => lhs; rw [fF, dif_neg h]
  rw [gz h, ih, e]
theorem CH {st : St} {N : Nat} (hN : st.stk.length = N) {f : Nat} {cells R : List PV} {x : PV} (h : ∀ X : St, N + 1 < X.stk.length → E L (.func f) [.ptr false (N + 1) 0] (X.af false (N + 1) cells) = some (x, X.af false (N + 1) R)) (b0 : Blk) (t : List (Nat × Nat)) (bl : List Blk) (tk : List (Nat × Nat)) (lp : List Aux) :
 E L (.func f) [.ptr false (N + 1) 0] (st.app (b0 :: ⟨cells, t⟩ :: bl) tk lp) = some (x, st.app (b0 :: ⟨R, t⟩ :: bl) tk lp) := by
 have hb : (st.app (b0 :: ⟨cells, t⟩ :: bl) tk lp).blk false (N + 1) = some cells := by rw [fM _ _ _ hN]; rfl
 have := h _ (Ej hb); rw [C4 hb, fN _ _ _ hN] at this; exact this
def aC (ts : List Tok) : List (List PV) := ts.map Tok.c
theorem kz (ts : List Tok) : (aC ts).length = ts.length := List.length_map ..
theorem qt (ts : List Tok) : cM 5 (aC ts) = true := jQ Tok.c (fun _ => rfl) ts
theorem qW (a b : List Tok) : aC (a ++ b) = aC a ++ aC b := List.map_append ..
def Bt (st : St) (N T Lb : Nat) (rest : List UInt8) (p : Nat × Nat) (acc : List Tok) (c : Cap) (tk : List (Nat × Nat)) : Prop :=
 ∃ r y2 F R tk', itE (S46.b0 (E L) itE N Lb) [.sl [] .nil, .ptr false N 0, .sl (aC acc) c, .ptr false (N + 1) 0] (st.app [⟨[.v (.int .i64 0), .v (.int .i64 0), .v (.int .i64 0)], []⟩, ⟨rdc rest p, []⟩] tk []) =
  some (.ret, [r, .ptr false N 0, y2, .ptr false (N + 1) 0], st.app [⟨F, []⟩, ⟨R, []⟩] tk' []) ∧
  (match fH rest p with
   | .ok ts => (∃ c', r = .sl (aC (acc ++ ts)) c') ∧ F = [.v (.int .i64 0), .v (.int .i64 0), .v (.int .i64 0)]
   | .err q => r = .sl [] .nil ∧ F = [.v (.int .i64 3), .v (.int .i64 (q.1 : Int)), .v (.int .i64 (q.2 : Int))])
theorem Cx {st : St} {N T Lb : Nat} (hN : st.stk.length = N) (hT : st.tk.length = T) (hL : st.lp.length = Lb) : ∀ (k : Nat) (rest : List UInt8) (p : Nat × Nat) (acc : List Tok) (c : Cap) (tk : List (Nat × Nat)), rest.length = k → 1 ≤ p.2 → p.1 + rest.length < 2147483648 → p.2 + rest.length < 2147483648 → acc.length + rest.length < 1000000 → Own st tk c acc.length 5 →
 Bt st N T Lb rest p acc c tk := by
 intro k
 induction k using Nat.strongRecOn with
 | ind k ih =>
  intro rest p acc c tk hk hp h1 h2 hac ho; have bb := xL rest p (M := 2147483648) hp h1 h2; have e17 := CH (x := .tup []) hN (fun X hX => FH (rest := rest) (p := p) hX hp (by omega) (by omega)) ⟨[.v (.int .i64 0), .v (.int .i64 0), .v (.int .i64 0)], []⟩ [] [] tk []; unfold Bt; rw [wG]
  generalize fF rest p = q at *
  obtain ⟨rest', p'⟩ := q; obtain ⟨bp, b1, b2, bk, bl⟩ := bb; dsimp only at bp b1 b2 bk bl e17 ⊢
  cases rest' with
  | nil =>
   rw [jP]
   have hsf : ∀ m, c.sf true m = true := fun m => ho.sfc m
   obtain ⟨c', tk', ea, ho'⟩ := dV (ys := aC [⟨0, [], 0, p'⟩]) (bytes := 48) (es := aC acc) (by rw [kz]; exact ho) (by simp only [kz, bP, ah, ay]; omega) (qt _) (qt _) (by decide) (by decide); have ey : aC [⟨0, [], 0, p'⟩] = [[.v (.int .i64 0), str [], .v (.int .u64 0), .v (.int .i64 (p'.1 : Int)), .v (.int .i64 (p'.2 : Int))]] := rfl; rw [ey] at ea; refine ⟨.sl (aC (acc ++ [⟨0, [], 0, p'⟩])) c', .sl (aC acc) c, _, rdc [] p', tk', ?_, ⟨⟨_, rfl⟩, rfl⟩⟩; apply eZ; simp only [rdc] at e17; have hsf2 := ho'.sfc (s := st); simp [S46.b0, hN, hT, hL, rdc, e17, bq, cz, laid, aJ, aF, jr, gw, AM.cv, AM.eK, chunks, ea, qW, ey, hsf, hsf2, fq, fG]
  | cons a l =>
   have hsf : ∀ m, c.sf true m = true := fun m => ho.sfc m
   have e18 := CH hN (fun X hX => FI (c := a) (l := l) (p := p') hX bp (by omega) (by omega)) ⟨[.v (.int .i64 0), .v (.int .i64 0), .v (.int .i64 0)], []⟩ [] [] tk []; have hta : ly (a :: l) p' = ⟨(dH (a :: l)).1, (a :: l).take (dH (a :: l)).2.1, (dH (a :: l)).2.2.1, p'⟩ := rfl; have ad := ke (mS a l) bp b1 b2; have hpos := jq (c := a) (l := l); have hdl : ((a :: l).drop (dH (a :: l)).2.1).length = (a :: l).length - (dH (a :: l)).2.1 := eN ..; have hle := mS a l
   cases hok : (dH (a :: l)).2.2.2 with
   | false =>
    rw [jk bk hok]; rw [hok] at e18
    generalize dH (a :: l) = q at *
    generalize (a :: l).drop q.2.1 = r at *
    generalize (a :: l).take q.2.1 = t at *
    simp only [rdc, bw] at e17 e18; refine ⟨.sl [] .nil, .sl (aC acc) c, [.v (.int .i64 3), .v (.int .i64 (p'.1 : Int)), .v (.int .i64 (p'.2 : Int))], rdc r (adv t p'), tk, ?_, ⟨rfl, rfl⟩⟩; apply eZ; simp [S46.b0, hN, hT, hL, rdc, e17, e18, bq, cz, laid, aJ, hsf, fq, fG]
   | true =>
    rw [jl bk hok]; rw [hok] at e18; have hpos := hpos hok
    generalize dH (a :: l) = q at *
    generalize (a :: l).drop q.2.1 = r at *
    generalize (a :: l).take q.2.1 = t at *
    obtain ⟨c', tk', ea, ho'⟩ := dV (ys := aC [ly (a :: l) p']) (bytes := 48) (es := aC acc) (by rw [kz]; exact ho) (by simp only [kz, bP, ah, ay]; omega) (qt _) (qt _) (by decide) (by decide)
    have ey : aC [ly (a :: l) p'] = [[.v (.int .i64 (q.1 : Int)), str t, .v (.int .u64 (q.2.2.1 : Int)), .v (.int .i64 (p'.1 : Int)), .v (.int .i64 (p'.2 : Int))]] := by rw [hta]; rfl
    have hsf2 := ho'.sfc (s := st); have ihh := ih r.length (by omega) r (adv t p') (acc ++ [ly (a :: l) p']) c' tk' rfl ad.1 ad.2.1 ad.2.2 (by simp only [au, bQ]; omega) (by rw [← qW, kz] at ho'; exact ho'); unfold Bt at ihh; rw [qW] at ihh; rw [ey] at ihh ea; obtain ⟨r0, y2, F, R, tk2, hit, hres⟩ := ihh; refine ⟨r0, y2, F, R, tk2, ?_, ?_⟩
    · simp only [rdc, bw] at e17 e18
      rw [cd (vs' := [.sl [] .nil, .ptr false N 0, .sl (aC acc ++ [[.v (.int .i64 (q.1 : Int)), str t, .v (.int .u64 (q.2.2.1 : Int)), .v (.int .i64 (p'.1 : Int)), .v (.int .i64 (p'.2 : Int))]]) c', .ptr false (N + 1) 0]) (st' := st.app [⟨[.v (.int .i64 0), .v (.int .i64 0), .v (.int .i64 0)], []⟩, ⟨rdc r (adv t p'), []⟩] tk' [])]
      · exact hit
      · simp [S46.b0, hN, hT, hL, rdc, e17, e18, bq, cz, laid, aJ, aF, jr, gw, AM.cv, AM.eK, chunks, ea, hsf, hsf2, fq, fG]
    · cases hl : fH r (adv t p') with
      | ok ts =>
       rw [hl] at hres; simp only [LR.cons]; refine ⟨?_, hres.2⟩; obtain ⟨c2, h2⟩ := hres.1; exact ⟨c2, by rw [h2]; simp⟩
      | err q =>
       rw [hl] at hres; simp only [LR.cons]; exact hres
def nD (l : List UInt8) : List Tok := if 8192 < l.length then [] else match fH l (1, 1) with | .ok ts => ts | .err _ => []
def kZ (l : List UInt8) : Nat × Nat × Nat := if 8192 < l.length then (10, 1, 1) else match fH l (1, 1) with | .ok _ => (0, 0, 0) | .err q => (3, q.1, q.2)
abbrev wk (f : Nat × Nat × Nat) : List PV := [.v (.int .i64 (f.1 : Int)), .v (.int .i64 (f.2.1 : Int)), .v (.int .i64 (f.2.2 : Int))]
theorem FG {l : List UInt8} (h : l.length < 1000000) (st : St) : E L (.func 46) [str l] st = some (.tup [.sl (aC (nD l)) .dead, .agg (wk (kZ l))], st) := by
 rw [FZ]; obtain ⟨N, T, Lb, hN, hT, hL⟩ := lens3 st
 conv => lhs; rw [← ao (st)]
 by_cases hl : 8192 < l.length
 · have hl' : (8192 : Int) < (l.length : Int) := by omega
   simp [S46, hN, hT, hL, lV, hl', nD, kZ, hl, bq, cz, laid, aJ, aC]
 · have hl' : ¬ ((8192 : Int) < (l.length : Int)) := by omega
   obtain ⟨r, y2, F, R, tk', hit, hres⟩ := Cx hN hT hL l.length l (1, 1) [] .nil [] rfl (by simp) (by simp; omega) (by simp; omega) (by simp; omega) (Own.nil _ _ _ _); simp only [aC, bh, rdc, aa] at hit; unfold nD kZ; rw [if_neg hl, if_neg hl]
   cases hx : fH l (1, 1) with
   | ok ts =>
    rw [hx] at hres; obtain ⟨⟨c', rfl⟩, rfl⟩ := hres; simp [S46, hN, hT, hL, lV, hl', hit, bq, cz, laid, aJ, wk]
   | err q =>
    rw [hx] at hres; obtain ⟨rfl, rfl⟩ := hres; simp [S46, hN, hT, hL, lV, hl', hit, bq, cz, laid, aJ, wk, aC]
def wh : List UInt8 → Nat → Option Nat
 | [], n => some n
 | c :: t, n => if tA c then wh t (10 * n + (c.toNat - 48)) else none
def whole (t : List UInt8) : Nat × Bool :=
 if 19 < t.length ∨ 1 < t.length ∧ t.head? = some 48 then (0, false) else match wh t 0 with
  | some n => (n, decide (n < 9223372036854775808))
  | none => (0, false)
def bt : List UInt8 → Nat → Option Nat
 | [], n => some n
 | c :: t, n => if tA c then bt t ((16 * n + (c.toNat - 48)) % 18446744073709551616) else if 97 ≤ c.toNat ∧ c.toNat ≤ 102 then bt t ((16 * n + (c.toNat - 87)) % 18446744073709551616) else none
end Go.Proofs.YtlhlijaondmccaaGreatDoor.S
namespace Go.Proofs.YtlhlijaondmccaaGreatDoor.S
open Go Go.AM Go.Proofs
theorem BP {c : UInt8} : rF c = true ↔ c = 32 ∨ c = 9 ∨ c = 13 ∨ c = 10 := by simp [rF]
theorem zb {c : UInt8} (h : rF c = true) : eL c = false ∧ c ≠ 35 ∧ c ≠ 47 ∧ c ≠ 61 := by
 rcases BP.1 h with rfl | rfl | rfl | rfl <;> decide
theorem qj {q : UInt8 → Bool} {c : UInt8} (hc : q c = false) : ∀ (l R : List UInt8), cL q (l ++ c :: R) = cL q l
 | [], R => by rw [aU, gC, if_neg (by rw [hc]; simp)]; rfl
 | a :: l, R => by rw [al, gC, gC, qj hc l R]
theorem qo {l R : List UInt8} {n : Nat} (c : UInt8) (h : n ≤ l.length) : (l ++ c :: R).take n = l.take n := List.take_append_of_le_length h
theorem qa {x y a : UInt8} {l R : List UInt8} {c : UInt8} (hc : c ≠ y) : ([x, y] : List UInt8).isPrefixOf (a :: l ++ c :: R) = ([x, y] : List UInt8).isPrefixOf (a :: l) := by
 cases l with
 | nil => simp [iU, hc.symm]
 | cons b l => simp [iU]
theorem AX {a c : UInt8} {l R : List UInt8} (hc : c ≠ 61) : fw (a :: l ++ c :: R) = fw (a :: l) := by
 unfold fw; rw [qa hc, qa hc, qa hc]
 rfl
theorem Dl {a c : UInt8} {l R : List UInt8} (hc : rF c = true) : dH (a :: l ++ c :: R) = dH (a :: l) := by
 obtain ⟨h1, h2, h3, h4⟩ := zb hc
 cases ha : eL a with
 | true =>
  rw [al, iP ha, iP ha, ← al, qj h1, qo _ (kX _ _)]
 | false =>
  by_cases hq : a = 35
  · subst hq
    rw [al, ia, ia, qj h1, qo _ (kX _ _)]
  · rw [al, gP ha hq, gP ha hq, ← al, AX h4]
theorem Ei {a : UInt8} {l R : List UInt8} : fk (a :: l ++ 10 :: R) = fk (a :: l) := by
 have hp := qa (x := 47) (y := 47) (a := a) (l := l) (R := R) (c := 10) (by decide); have hs := qj (q := nlB) (c := 10) (by decide) (a :: l) R; rw [al] at hp hs ⊢; rw [fk, fk, hp, hs]
theorem qT {q : UInt8 → Bool} : ∀ (l : List UInt8), cL q (l.take (cL q l)) = cL q l
 | [] => rfl
 | a :: l => by
  rw [gC]; split
  · rename_i h
    rw [aA, gC, if_pos h, qT l]
  · rfl
theorem nS {α : Type} (l : List α) (n : Nat) : (l.take n).take n = l.take n := by rw [List.take_take, Nat.min_self]
theorem qP {x y : UInt8} {l : List UInt8} (h : ([x, y] : List UInt8).isPrefixOf l = true) : ∃ r, l = x :: y :: r := by
 obtain ⟨r, hr⟩ := List.isPrefixOf_iff_prefix.1 h; exact ⟨r, hr.symm⟩
theorem sS {x y a : UInt8} : ([x, y] : List UInt8).isPrefixOf [a] = false := by simp [iU]
theorem yp {a : UInt8} {l : List UInt8} (h : fw (a :: l) ≠ 0) : fw ((a :: l).take (fw (a :: l))) = fw (a :: l) := by
 by_cases hp : (([61, 61] : List UInt8).isPrefixOf (a :: l) || ([33, 61] : List UInt8).isPrefixOf (a :: l) || ([60, 61] : List UInt8).isPrefixOf (a :: l)) = true
 · have e : fw (a :: l) = 2 := by rw [fw, if_pos hp]
   rw [e]; simp only [Bool.or_eq_true] at hp
   rcases hp with (hp | hp) | hp <;>
   · obtain ⟨r, hr⟩ := qP hp
     rw [hr]; simp [fw, iU]
 · have e : fw (a :: l) = if j6.contains a then 1 else 0 := by rw [fw, if_neg hp]
   by_cases hs : j6.contains a = true
   · rw [if_pos hs] at e
     rw [e, aA, ba, fw, sS, sS, sS]; simpa using hs
   · rw [if_neg hs] at e
     exact absurd e h
theorem Bn {a : UInt8} {l : List UInt8} (h : (dH (a :: l)).2.2.2 = true) : dH ((a :: l).take (dH (a :: l)).2.1) = dH (a :: l) := by
 cases ha : eL a with
 | true =>
  have hs := xe (l := l) ha
  have e : (dH (a :: l)).2.1 = cL eL (a :: l) := by rw [iP ha]
  obtain ⟨n, hn⟩ : ∃ n, cL eL (a :: l) = n + 1 := ⟨cL eL (a :: l) - 1, by omega⟩
  have ht : (a :: l).take (cL eL (a :: l)) = a :: l.take n := by rw [hn, aA]
  have hsp := qT (q := eL) (a :: l); have htt := nS (a :: l) (cL eL (a :: l)); rw [ht] at hsp htt; rw [e, ht, iP ha, iP ha, hsp, htt, ht]
 | false =>
  by_cases hq : a = 35
  · subst hq
    have e : (dH (35 :: l)).2.1 = cL eL l + 1 := by rw [ia]
    rw [e, aA, ia, ia, qT, nS]
  · have e : (dH (a :: l)).2.1 = fw (a :: l) := by rw [gP ha hq]
    have h0 : fw (a :: l) ≠ 0 := by
     rw [gP ha hq] at h; simpa using h
    have hs := yp h0
    obtain ⟨n, hn⟩ : ∃ n, fw (a :: l) = n + 1 := ⟨fw (a :: l) - 1, by omega⟩
    have ht : (a :: l).take (fw (a :: l)) = a :: l.take n := by rw [hn, aA]
    rw [ht] at hs; rw [e, ht, gP ha hq, gP ha hq, hs]
theorem Aj {a : UInt8} {l : List UInt8} {n : Nat} (h : fk (a :: l) = 0) : fk (a :: l.take n) = 0 := by
 have hne : ¬ (([47, 47] : List UInt8).isPrefixOf (a :: l) = true) := fun hn => by
  rw [fk, if_pos hn] at h; have := wJ hn; omega
 rw [fk, if_neg hne] at h; rw [fk, if_neg ?_]
 · exact h
 · intro hn
   obtain ⟨r, hr⟩ := qP hn; apply hne
   cases l with
   | nil => simp at hr
   | cons b l =>
    cases n with
    | zero => simp at hr
    | succ n =>
     rw [aA] at hr; obtain ⟨rfl, h2⟩ := List.cons.inj hr; obtain ⟨rfl, h3⟩ := List.cons.inj h2; simp [iU]
structure Tk (t : Tok) : Prop where
 ex : ∃ a l, t.text = a :: l ∧ fk (a :: l) = 0 ∧ dH (a :: l) = (t.kind, (a :: l).length, t.n, true)
theorem Ho {a : UInt8} {l : List UInt8} (hb : fk (a :: l) = 0) (h : (dH (a :: l)).2.2.2 = true) (p : Nat × Nat) : Tk (ly (a :: l) p) := by
 have hpos := jq h
 obtain ⟨n, hn⟩ : ∃ n, (dH (a :: l)).2.1 = n + 1 := ⟨(dH (a :: l)).2.1 - 1, by omega⟩
 have hle := mS a l; have ht := Bn h; refine ⟨a, l.take n, by unfold ly; rw [hn, aA], Aj hb, ?_⟩; rw [hn, aA] at ht
 have hlen : (a :: l.take n).length = (dH (a :: l)).2.1 := by
  rw [hn]; simp only [ah, List.length_take] at hle ⊢; omega
 rw [ht, hlen]; unfold ly; rw [← h]
theorem mG : ∀ (k : Nat) (rest : List UInt8) (p : Nat × Nat), rest.length = k → ∀ ts, fH rest p = .ok ts → ∃ t0, (∀ t ∈ t0, Tk t) ∧ ts = t0 ++ [⟨0, [], 0, adv rest p⟩] := by
 intro k
 induction k using Nat.strongRecOn with
 | ind k ih =>
  intro rest p hk ts h
  cases rest with
  | nil =>
   rw [jP] at h; obtain rfl := LR.ok.inj h; exact ⟨[], by simp, rfl⟩
  | cons c l =>
   by_cases hb : fk (c :: l) = 0
   · cases ht : (dH (c :: l)).2.2.2 with
     | false => rw [jk hb ht] at h; cases h
     | true =>
      rw [jl hb ht] at h; have hpos := jq ht; have hdl : ((c :: l).drop (dH (c :: l)).2.1).length = (c :: l).length - (dH (c :: l)).2.1 := eN ..
      cases hr : fH ((c :: l).drop (dH (c :: l)).2.1) (adv ((c :: l).take (dH (c :: l)).2.1) p) with
      | err q => rw [hr] at h; cases h
      | ok ts' =>
       rw [hr] at h; obtain rfl := LR.ok.inj h; obtain ⟨t0, h1, h2⟩ := ih _ (by simp only [ah] at hdl hk; omega) _ _ rfl ts' hr; refine ⟨ly (c :: l) p :: t0, ?_, ?_⟩
       · intro t hm
         rcases List.mem_cons.1 hm with rfl | hm
         · exact Ho hb ht p
         · exact h1 t hm
       · rw [h2, al, ← iV, List.take_append_drop]
   · rw [gz hb] at h
     have hdl : ((c :: l).drop (fk (c :: l))).length = (c :: l).length - fk (c :: l) := eN ..; obtain ⟨t0, h1, h2⟩ := ih _ (by simp only [ah] at hdl hk; omega) _ _ rfl ts h; exact ⟨t0, h1, by rw [h2, ← iV, List.take_append_drop]⟩
theorem Cw {c : UInt8} (hc : rF c = true) (R : List UInt8) (p : Nat × Nat) : fH (c :: R) p = fH R (adv [c] p) := by
 have hb : fk (c :: R) = 1 := by
  rw [fk, if_neg, if_pos hc]; intro hn; obtain ⟨r, hr⟩ := qP hn; exact (zb hc).2.2.1 (List.cons.inj hr).1
 rw [gz (by omega), hb]
 rfl
def Tok.bare (t : Tok) : Nat × List UInt8 × Nat := (t.kind, t.text, t.n)
def bk : List Tok → Nat → List Tok
 | [], k => [⟨0, [], 0, (k + 1, 1)⟩]
 | t :: r, k => ⟨t.kind, t.text, t.n, (k, 1)⟩ :: bk r (k + 1)
theorem uR : ∀ (t0 : List Tok) (k : Nat), (bk t0 k).length = t0.length + 1
 | [], k => rfl
 | t :: r, k => by rw [bk, ah, uR r]; rfl
theorem gY {l : List UInt8} {ts : List Tok} (hl : l.length ≤ 8192) (h : fH l (1, 1) = .ok ts) : nD l = ts ∧ kZ l = (0, 0, 0) := by
 rw [nD, kZ, if_neg (by omega), if_neg (by omega), h]; exact ⟨rfl, rfl⟩
theorem hI {l : List UInt8} {q : Nat × Nat} (hl : l.length ≤ 8192) (h : fH l (1, 1) = .err q) : nD l = [] ∧ kZ l = (3, q.1, q.2) := by
 rw [nD, kZ, if_neg (by omega), if_neg (by omega), h]; exact ⟨rfl, rfl⟩
def down (d : Nat) (t : Tok) : Tok := { t with p := (t.p.1 + d, t.p.2) }
def LR.down (d : Nat) : LR → LR
 | .ok ts => .ok (ts.map (S.down d))
 | .err q => .err (q.1 + d, q.2)
def LR.pre (a : List Tok) : LR → LR
 | .ok ts => .ok (a ++ ts)
 | .err q => .err q
theorem pq (d : Nat) : ∀ (l : List UInt8) (p : Nat × Nat), adv l (p.1 + d, p.2) = ((adv l p).1 + d, (adv l p).2)
 | [], p => rfl
 | c :: l, p => by
  rw [adv, adv]; split
  · rw [show p.1 + d + 1 = p.1 + 1 + d by omega]
    exact pq d l (p.1 + 1, 1)
  · exact pq d l (p.1, p.2 + 1)
theorem Ay (d : Nat) : ∀ (k : Nat) (rest : List UInt8) (p : Nat × Nat), rest.length = k → fH rest (p.1 + d, p.2) = (fH rest p).down d := by
 intro k
 induction k using Nat.strongRecOn with
 | ind k ih =>
  intro rest p hk
  cases rest with
  | nil => rw [jP, jP]; rfl
  | cons c l =>
   by_cases hb : fk (c :: l) = 0
   · cases ht : (dH (c :: l)).2.2.2 with
     | false => rw [jk hb ht, jk hb ht]; rfl
     | true =>
      have hpos := jq ht; have hdl : ((c :: l).drop (dH (c :: l)).2.1).length = (c :: l).length - (dH (c :: l)).2.1 := eN ..; rw [jl hb ht, jl hb ht, pq, ih _ (by simp only [ah] at hdl hk; omega) _ _ rfl]
      cases fH ((c :: l).drop (dH (c :: l)).2.1) (adv ((c :: l).take (dH (c :: l)).2.1) p) <;> rfl
   · have hdl : ((c :: l).drop (fk (c :: l))).length = (c :: l).length - fk (c :: l) := eN ..
     rw [gz hb, gz hb, pq, ih _ (by simp only [ah] at hdl hk; omega) _ _ rfl]
theorem zf {a b : List UInt8} {n : Nat} (h : n ≤ a.length) : (a ++ 10 :: b).drop n = a.drop n ++ 10 :: b := List.drop_append_of_le_length h
theorem Az (b : List UInt8) : ∀ (k : Nat) (a : List UInt8) (p : Nat × Nat), a.length = k →
 fH (a ++ 10 :: b) p = match fH a p with | .err q => .err q | .ok ts => (fH b (adv (a ++ [10]) p)).pre ts.dropLast := by
 intro k
 induction k using Nat.strongRecOn with
 | ind k ih =>
  intro a p hk
  cases a with
  | nil =>
   rw [jP, aU, Cw (by decide)]
   show _ = (fH b (adv ([] ++ [10]) p)).pre []
   rw [aU]
   cases fH b (adv [10] p) <;> rfl
  | cons c l =>
   have hbn := Ei (a := c) (l := l) (R := b); have htn := Dl (a := c) (l := l) (R := b) (c := 10) (by decide)
   by_cases hb : fk (c :: l) = 0
   · cases ht : (dH (c :: l)).2.2.2 with
     | false =>
      rw [al] at hbn htn ⊢; rw [jk (by rw [hbn]; exact hb) (by rw [htn]; exact ht), jk hb ht]
     | true =>
      have hpos := jq ht; have hle := mS c l; have hdl : ((c :: l).drop (dH (c :: l)).2.1).length = (c :: l).length - (dH (c :: l)).2.1 := eN ..; have hdn := zf (b := b) hle; have htk := qo (R := b) 10 hle; rw [al] at hbn htn hdn htk ⊢; rw [jl (by rw [hbn]; exact hb) (by rw [htn]; exact ht), jl hb ht, ly, ly, htn, hdn, htk, ih _ (by simp only [ah] at hdl hk; omega) _ _ rfl]
      have ea : adv ((c :: l).drop (dH (c :: l)).2.1 ++ [10]) (adv ((c :: l).take (dH (c :: l)).2.1) p) = adv (c :: l ++ [10]) p := by
       rw [← iV, ← List.append_assoc, List.take_append_drop]
      rw [ea]
      cases hr : fH ((c :: l).drop (dH (c :: l)).2.1) (adv ((c :: l).take (dH (c :: l)).2.1) p) with
      | err q => rfl
      | ok ts =>
       obtain ⟨t0, _, rfl⟩ := mG _ _ _ rfl ts hr; simp only [LR.cons]; rw [← al, List.dropLast_concat, List.dropLast_concat]
       cases fH b (adv (c :: l ++ [10]) p) <;> rfl
   · have hle := my (c :: l)
     have hdl : ((c :: l).drop (fk (c :: l))).length = (c :: l).length - fk (c :: l) := eN ..; have hdn := zf (b := b) hle; have htk := qo (R := b) 10 hle; rw [gz (by rw [hbn]; exact hb), gz hb, hbn, hdn, htk, ih _ (by simp only [ah] at hdl hk; omega) _ _ rfl]
     have ea : adv ((c :: l).drop (fk (c :: l)) ++ [10]) (adv ((c :: l).take (fk (c :: l))) p) = adv (c :: l ++ [10]) p := by
      rw [← iV, ← List.append_assoc, List.take_append_drop]
     rw [ea]
theorem Gd (l : List UInt8) (p : Nat × Nat) : adv (l ++ [10]) p = ((adv l p).1 + 1, 1) := by rw [iV]; rfl
theorem Cv {M : Nat} : ∀ (k : Nat) (rest : List UInt8) (p : Nat × Nat), rest.length = k → 1 ≤ p.2 → p.1 + rest.length < M → ∀ ts, fH rest p = .ok ts → ∀ t ∈ ts, t.p.1 < M := by
 intro k
 induction k using Nat.strongRecOn with
 | ind k ih =>
  intro rest p hk hp hM ts h
  have bnd : ∀ n, n ≤ rest.length → 0 < n → 1 ≤ (adv (rest.take n) p).2 ∧ (adv (rest.take n) p).1 + (rest.drop n).length < M ∧ (rest.drop n).length < k := fun n hn h0 => by
   have := nZ (rest.take n) p hp
   have h2 : (rest.take n).length = n := by rw [List.length_take]; omega
   have h3 : (rest.drop n).length = rest.length - n := eN ..; omega
  cases rest with
  | nil =>
   rw [jP] at h; obtain rfl := LR.ok.inj h; intro t ht; rw [List.mem_singleton] at ht; subst ht; simpa using hM
  | cons c l =>
   by_cases hb : fk (c :: l) = 0
   · cases ht : (dH (c :: l)).2.2.2 with
     | false => rw [jk hb ht] at h; cases h
     | true =>
      rw [jl hb ht] at h; obtain ⟨b1, b2, b3⟩ := bnd _ (mS c l) (jq ht)
      cases hr : fH ((c :: l).drop (dH (c :: l)).2.1) (adv ((c :: l).take (dH (c :: l)).2.1) p) with
      | err q => rw [hr] at h; cases h
      | ok ts' =>
       rw [hr] at h; obtain rfl := LR.ok.inj h; intro t hm
       rcases List.mem_cons.1 hm with rfl | hm
       · show p.1 < M
         omega
       · exact ih _ b3 _ _ rfl b1 b2 ts' hr t hm
   · rw [gz hb] at h
     obtain ⟨b1, b2, b3⟩ := bnd _ (my (c :: l)) (by omega); exact ih _ b3 _ _ rfl b1 b2 ts h
theorem Av {a b : List UInt8} (ha : a.length ≤ 4096) (hb : b.length < 4096) :
 (∃ q, fH a (1, 1) = .err q ∧ nD a = [] ∧ kZ a = (3, q.1, q.2) ∧ nD (a ++ 10 :: b) = [] ∧ kZ (a ++ 10 :: b) = (3, q.1, q.2)) ∨
 (∃ t0 q0 e, nD a = t0 ++ [⟨0, [], 0, q0⟩] ∧ kZ a = (0, 0, 0) ∧ nD b = [] ∧ kZ b = (3, e) ∧ nD (a ++ 10 :: b) = [] ∧ ∃ q, kZ (a ++ 10 :: b) = (3, q)) ∨
 (∃ t0 q0 ts, q0.1 < 100000 ∧ nD a = t0 ++ [⟨0, [], 0, q0⟩] ∧ kZ a = (0, 0, 0) ∧ nD b = ts ∧ (∀ t ∈ ts, t.p.1 < 100000) ∧ kZ b = (0, 0, 0) ∧ nD (a ++ 10 :: b) = t0 ++ ts.map (down q0.1) ∧ kZ (a ++ 10 :: b) = (0, 0, 0)) := by
 have hl : (a ++ 10 :: b).length ≤ 8192 := by simp only [au, ah]; omega
 have hj := Az b a.length a (1, 1) rfl
 cases hx : fH a (1, 1) with
 | err q =>
  rw [hx] at hj; exact .inl ⟨q, rfl, (hI (by omega) hx).1, (hI (by omega) hx).2, (hI hl hj).1, (hI hl hj).2⟩
 | ok xs =>
  rw [hx] at hj; obtain ⟨t0, h1, rfl⟩ := mG _ _ _ rfl xs hx; have hq := nZ a (1, 1) (by simp); have hd := Ay (adv a (1, 1)).1 b.length b (1, 1) rfl; simp only [List.dropLast_concat] at hj
  have e1 : (1 + (adv a (1, 1)).1, 1) = adv (a ++ [10]) (1, 1) := by rw [Gd, Nat.add_comm]
  simp only at hd; rw [e1] at hd; rw [hd] at hj
  cases hy : fH b (1, 1) with
  | err q =>
   rw [hy] at hj; exact .inr (.inl ⟨t0, adv a (1, 1), q, (gY (by omega) hx).1, (gY (by omega) hx).2, (hI (by omega) hy).1, (hI (by omega) hy).2, (hI hl hj).1, _, (hI hl hj).2⟩)
  | ok ts =>
   rw [hy] at hj; refine .inr (.inr ⟨t0, adv a (1, 1), ts, by simp only at hq; omega, (gY (by omega) hx).1, (gY (by omega) hx).2, (gY (by omega) hy).1, ?_, (gY (by omega) hy).2, (gY hl hj).1, (gY hl hj).2⟩); exact Cv (M := 100000) b.length b (1, 1) rfl (by simp) (by simp only; omega) ts hy
theorem Bm {c : UInt8} {l : List UInt8} (h : (dH (c :: l)).2.2.2 = true) : (dH (c :: l)).1 ≠ 0 := by
 cases ha : eL c with
 | true =>
  rw [iP ha]
  show (lA _).1 ≠ 0
  unfold lA; split
  · exact Nat.succ_ne_zero _
  · split
    · exact Nat.succ_ne_zero _
    · exact Nat.succ_ne_zero _
 | false =>
  by_cases hc : c = 35
  · subst hc; rw [ia]; exact Nat.succ_ne_zero _
  · rw [gP ha hc]; exact Nat.succ_ne_zero _
abbrev int (n : Int) : PV := .v (.int .i64 n)
abbrev gN (s : ByteArray) : PV := .v (.string s)
inductive X where
 | mk (op bin n kd : Int) (rc name : ByteArray) (kids : List X) (line col : Int)
def X.op : X → Int
 | ⟨a, _, _, _, _, _, _, _, _⟩ => a
def X.bin : X → Int
 | ⟨_, a, _, _, _, _, _, _, _⟩ => a
def X.n : X → Int
 | ⟨_, _, a, _, _, _, _, _, _⟩ => a
def X.kd : X → Int
 | ⟨_, _, _, a, _, _, _, _, _⟩ => a
def X.rc : X → ByteArray
 | ⟨_, _, _, _, a, _, _, _, _⟩ => a
def X.name : X → ByteArray
 | ⟨_, _, _, _, _, a, _, _, _⟩ => a
def X.kids : X → List X
 | ⟨_, _, _, _, _, _, a, _, _⟩ => a
def X.line : X → Int
 | ⟨_, _, _, _, _, _, _, a, _⟩ => a
def X.col : X → Int
 | ⟨_, _, _, _, _, _, _, _, a⟩ => a
structure Pl where
 mk ::
 op : Int
 base : ByteArray
 field : ByteArray
 index : X
 line : Int
 col : Int
structure Rt where
 mk ::
 op : Int
 e : X
 place : Pl
 name : ByteArray
 line : Int
 col : Int
inductive S where
 | mk (op : Int) (name : ByteArray) (right : Rt) (place : Pl) (e : X) (n : Int) (args : List X) (body : List S) (els : List S) (line : Int) (col : Int)
def S.op : S → Int
 | ⟨a, _, _, _, _, _, _, _, _, _, _⟩ => a
def S.name : S → ByteArray
 | ⟨_, a, _, _, _, _, _, _, _, _, _⟩ => a
def S.right : S → Rt
 | ⟨_, _, a, _, _, _, _, _, _, _, _⟩ => a
def S.place : S → Pl
 | ⟨_, _, _, a, _, _, _, _, _, _, _⟩ => a
def S.e : S → X
 | ⟨_, _, _, _, a, _, _, _, _, _, _⟩ => a
def S.n : S → Int
 | ⟨_, _, _, _, _, a, _, _, _, _, _⟩ => a
def S.args : S → List X
 | ⟨_, _, _, _, _, _, a, _, _, _, _⟩ => a
def S.body : S → List S
 | ⟨_, _, _, _, _, _, _, a, _, _, _⟩ => a
def S.els : S → List S
 | ⟨_, _, _, _, _, _, _, _, a, _, _⟩ => a
def S.line : S → Int
 | ⟨_, _, _, _, _, _, _, _, _, a, _⟩ => a
def S.col : S → Int
 | ⟨_, _, _, _, _, _, _, _, _, _, a⟩ => a
mutual
def X.enc : X → List PV
 | ⟨op, bin, n, kd, rc, name, kids, line, col⟩ => [int op, int bin, .v (.int .u64 n), int kd, gN rc, gN name, .sl (ep kids) .dead, int line, int col]
def ep : List X → List (List PV)
 | [] => []
 | x :: xs => x.enc :: ep xs
end
def Pl.enc (p : Pl) : List PV := [int p.op, gN p.base, gN p.field] ++ p.index.enc ++ [int p.line, int p.col]
def Rt.enc (p : Rt) : List PV := [int p.op] ++ p.e.enc ++ p.place.enc ++ [gN p.name, int p.line, int p.col]
mutual
def S.enc : S → List PV
 | ⟨op, name, right, place, e, n, args, body, els, line, col⟩ => [int op, gN name] ++ right.enc ++ place.enc ++ e.enc ++ [int n, .sl (ep args) .dead, .sl (dQ body) .dead, .sl (dQ els) .dead, int line, int col]
def dQ : List S → List (List PV)
 | [] => []
 | x :: xs => x.enc :: dQ xs
end
theorem X.bJ (x : X) : x.enc = [int x.op, int x.bin, .v (.int .u64 x.n), int x.kd, gN x.rc, gN x.name, .sl (ep x.kids) .dead, int x.line, int x.col] := by cases x; simp only [X.enc]; rfl
theorem S.bJ (x : S) : x.enc = [int x.op, gN x.name] ++ x.right.enc ++ x.place.enc ++ x.e.enc ++ [int x.n, .sl (ep x.args) .dead, .sl (dQ x.body) .dead, .sl (dQ x.els) .dead, int x.line, int x.col] := by cases x; simp only [S.enc]; rfl
theorem nx : ∀ xs, ep xs = xs.map X.enc
 | [] => by simp [ep]
 | x :: xs => by simp [ep, nx xs]
theorem mg : ∀ xs, dQ xs = xs.map S.enc
 | [] => by simp [dQ]
 | x :: xs => by simp [dQ, mg xs]
theorem iu (xs : List X) : (ep xs).length = xs.length := by rw [nx, List.length_map]
theorem jo (xs : List S) : (dQ xs).length = xs.length := by rw [mg, List.length_map]
theorem X.len (x : X) : x.enc.length = 9 := by simp only [X.bJ]; rfl
theorem X.whole (x : X) : AM.part true 9 0 x.enc = some (.agg x.enc) := by simp only [X.bJ]; rfl
theorem X.okc (x : X) : aJ x.enc = true := by simp only [X.bJ]; rfl
theorem X.can (x : X) : ai (.agg x.enc) = .agg x.enc := by simp only [X.bJ]; rfl
theorem X.lD (x : X) : x.enc.map bU = x.enc := by simp only [X.bJ]; rfl
theorem X.pl (x : X) : cv x.enc = some x.enc := by simp only [X.bJ]; rfl
theorem X.sf4 (x : X) (m : Nat) : x.enc.all (sf true m 4) = true := by simp only [X.bJ]; rfl
theorem X.fl (x : X) : x.enc.all dN = true := by simp only [X.bJ]; rfl
theorem X.CI (x : X) : AM.part false 1 0 x.enc = some (int x.op) := by simp only [X.bJ]; rfl
theorem X.CJ (x : X) : AM.part false 1 1 x.enc = some (int x.bin) := by simp only [X.bJ]; rfl
theorem X.CK (x : X) : AM.part false 1 2 x.enc = some (.v (.int .u64 x.n)) := by simp only [X.bJ]; rfl
theorem X.HE (x : X) : AM.part false 1 3 x.enc = some (int x.kd) := by simp only [X.bJ]; rfl
theorem X.HF (x : X) : AM.part false 1 4 x.enc = some (gN x.rc) := by simp only [X.bJ]; rfl
theorem X.HG (x : X) : AM.part false 1 5 x.enc = some (gN x.name) := by simp only [X.bJ]; rfl
theorem X.HH (x : X) : AM.part false 1 6 x.enc = some (.sl (ep x.kids) .dead) := by simp only [X.bJ]; rfl
theorem Pl.len (x : Pl) : x.enc.length = 14 := by simp only [Pl.enc, X.bJ]; rfl
theorem Pl.okc (x : Pl) : aJ x.enc = true := by simp only [Pl.enc, X.bJ]; rfl
theorem Pl.can (x : Pl) : ai (.agg x.enc) = .agg x.enc := by simp only [Pl.enc, X.bJ]; rfl
theorem Pl.lD (x : Pl) : x.enc.map bU = x.enc := by simp only [Pl.enc, X.bJ]; rfl
theorem Pl.fl (x : Pl) : x.enc.all dN = true := by simp only [Pl.enc, X.bJ]; rfl
theorem Pl.CI (x : Pl) : AM.part false 1 0 x.enc = some (int x.op) := by simp only [Pl.enc, X.bJ]; rfl
theorem Pl.CJ (x : Pl) : AM.part false 1 1 x.enc = some (gN x.base) := by simp only [Pl.enc, X.bJ]; rfl
theorem Pl.CK (x : Pl) : AM.part false 1 2 x.enc = some (gN x.field) := by simp only [Pl.enc, X.bJ]; rfl
theorem Pl.CL (x : Pl) : AM.part true 9 3 x.enc = some (.agg x.index.enc) := by simp only [Pl.enc, X.bJ]; rfl
theorem Rt.len (x : Rt) : x.enc.length = 27 := by simp only [Rt.enc, Pl.enc, X.bJ]; rfl
theorem Rt.okc (x : Rt) : aJ x.enc = true := by simp only [Rt.enc, Pl.enc, X.bJ]; rfl
theorem Rt.lD (x : Rt) : x.enc.map bU = x.enc := by simp only [Rt.enc, Pl.enc, X.bJ]; rfl
theorem Rt.fl (x : Rt) : x.enc.all dN = true := by simp only [Rt.enc, Pl.enc, X.bJ]; rfl
theorem S.len (x : S) : x.enc.length = 58 := by simp only [S.bJ, Rt.enc, Pl.enc, X.bJ]; rfl
theorem S.whole (x : S) : AM.part true 58 0 x.enc = some (.agg x.enc) := by simp only [S.bJ, Rt.enc, Pl.enc, X.bJ]; rfl
theorem S.okc (x : S) : aJ x.enc = true := by simp only [S.bJ, Rt.enc, Pl.enc, X.bJ]; rfl
theorem S.can (x : S) : ai (.agg x.enc) = .agg x.enc := by simp only [S.bJ, Rt.enc, Pl.enc, X.bJ]; rfl
theorem S.lD (x : S) : x.enc.map bU = x.enc := by simp only [S.bJ, Rt.enc, Pl.enc, X.bJ]; rfl
theorem S.pl (x : S) : cv x.enc = some x.enc := by simp only [S.bJ, Rt.enc, Pl.enc, X.bJ]; rfl
theorem S.sf4 (x : S) (m : Nat) : x.enc.all (sf true m 4) = true := by simp only [S.bJ, Rt.enc, Pl.enc, X.bJ]; rfl
theorem S.fl (x : S) : x.enc.all dN = true := by simp only [S.bJ, Rt.enc, Pl.enc, X.bJ]; rfl
theorem S.CI (x : S) : AM.part false 1 0 x.enc = some (int x.op) := by simp only [S.bJ, Rt.enc, Pl.enc, X.bJ]; rfl
theorem S.CJ (x : S) : AM.part false 1 1 x.enc = some (gN x.name) := by simp only [S.bJ, Rt.enc, Pl.enc, X.bJ]; rfl
theorem S.CK (x : S) : AM.part false 1 2 x.enc = some (int x.right.op) := by simp only [S.bJ, Rt.enc, Pl.enc, X.bJ]; rfl
theorem S.CL (x : S) : AM.part true 9 3 x.enc = some (.agg x.right.e.enc) := by simp only [S.bJ, Rt.enc, Pl.enc, X.bJ]; rfl
theorem S.ET (x : S) : AM.part true 14 12 x.enc = some (.agg x.right.place.enc) := by simp only [S.bJ, Rt.enc, Pl.enc, X.bJ]; rfl
theorem S.Hf (x : S) : AM.part false 1 26 x.enc = some (gN x.right.name) := by simp only [S.bJ, Rt.enc, Pl.enc, X.bJ]; rfl
theorem S.EU (x : S) : AM.part true 14 29 x.enc = some (.agg x.place.enc) := by simp only [S.bJ, Rt.enc, Pl.enc, X.bJ]; rfl
theorem S.Gt (x : S) : AM.part true 9 43 x.enc = some (.agg x.e.enc) := by simp only [S.bJ, Rt.enc, Pl.enc, X.bJ]; rfl
theorem S.Hg (x : S) : AM.part false 1 52 x.enc = some (int x.n) := by simp only [S.bJ, Rt.enc, Pl.enc, X.bJ]; rfl
theorem S.Hh (x : S) : AM.part false 1 53 x.enc = some (.sl (ep x.args) .dead) := by simp only [S.bJ, Rt.enc, Pl.enc, X.bJ]; rfl
theorem S.Hi (x : S) : AM.part false 1 54 x.enc = some (.sl (dQ x.body) .dead) := by simp only [S.bJ, Rt.enc, Pl.enc, X.bJ]; rfl
theorem S.Hj (x : S) : AM.part false 1 55 x.enc = some (.sl (dQ x.els) .dead) := by simp only [S.bJ, Rt.enc, Pl.enc, X.bJ]; rfl
mutual
def X.sz : X → Nat
 | ⟨_, _, _, _, _, _, ks, _, _⟩ => szs ks + 1
def szs : List X → Nat
 | [] => 0
 | x :: xs => x.sz + szs xs
end
theorem vz : ∀ xs : List X, xs.length ≤ szs xs
 | [] => by simp [szs]
 | x :: xs => by
  have := vz xs
  have : 1 ≤ x.sz := by cases x; simp [X.sz]
  simp [szs]; omega
theorem zV {x : X} : ∀ {xs : List X}, x ∈ xs → x.sz ≤ szs xs
 | [], h => by cases h
 | y :: ys, h => by
  rcases List.mem_cons.1 h with rfl | h
  · simp [szs]
  · have := zV h; simp [szs]; omega
theorem X.rB (x : X) : x.sz = szs x.kids + 1 := by cases x; rfl
theorem v8 (p : List X) (x : X) (xs : List X) : (ep (p ++ x :: xs))[p.length]? = some x.enc := by
 rw [nx]; simp
theorem inR {α : Type} (p : List α) (x : α) (xs : List α) : dD (p.length : Int) (p ++ x :: xs).length = true := by
 simp [dD]; omega
theorem wz : ∀ (pre old cs : List PV), old.length = cs.length → laid (pre ++ old) pre.length cs = pre ++ cs
 | pre, [], [], _ => rfl
 | pre, o :: old, c :: cs, h => by
  have : (pre ++ o :: old).set pre.length c = (pre ++ [c]) ++ old := by simp
  rw [laid, this, show pre.length + 1 = (pre ++ [c]).length by simp, wz (pre ++ [c]) old cs (by simpa using h)]; simp
theorem iw (old cs : List PV) (h : old.length = cs.length) : laid old 0 cs = cs := wz [] old cs h
mutual
def S.sz : S → Nat
 | ⟨_, _, r, p, e, _, xs, b, c, _, _⟩ => r.e.sz + r.place.index.sz + p.index.sz + e.sz + szs xs + fj b + fj c + 1
def fj : List S → Nat
 | [] => 0
 | x :: xs => x.sz + fj xs
end
theorem S.rB (x : S) : x.sz = x.right.e.sz + x.right.place.index.sz + x.place.index.sz + x.e.sz + szs x.args + fj x.body + fj x.els + 1 := by cases x; rfl
theorem xh : ∀ xs : List S, xs.length ≤ fj xs
 | [] => by simp [fj]
 | x :: xs => by
  have := xh xs
  have : 1 ≤ x.sz := by cases x; simp [S.sz]
  simp [fj]; omega
theorem tf {x : S} : ∀ {xs : List S}, x ∈ xs → x.sz ≤ fj xs
 | [], h => by cases h
 | y :: ys, h => by
  rcases List.mem_cons.1 h with rfl | h
  · simp [fj]
  · have := tf h; simp [fj]; omega
theorem AW (p : List S) (x : S) (xs : List S) : (dQ (p ++ x :: xs))[p.length]? = some x.enc := by
 rw [mg]; simp
end Go.Proofs.YtlhlijaondmccaaGreatDoor.S
namespace Go.Proofs.YtlhlijaondmccaaGreatDoor.S
open Go Go.AM Go.Proofs
attribute [local simp] cX cx bY bZ cy fq fv ec de dY db dZ dc fu cc im dS iq ic hO AM.ae aR aS aj bf aN aE AM.onG gb bW ef Ex.bn cond_true cond_false cT cS cR cQ cP cV cO cW cU ed dh di cw cC dR dX nE og cY mi mP lU oQ AM.du AM.cellsOf AM.an bX zl va beq_true cM ah ay bj bz bT decide_true decide_false bF bE bu bD bg aB az aU al vc xV xU cZ da sA ft aA bI ba bR
theorem E7 (P : Program) (c : Bool) (t : TypeId) (a b : Int) (h : 0 ≤ b) (h2 : b ≤ 64) : aW P c .shr t (.v (.int .u64 a)) (.v (.int .u64 b)) = some (.v (.int .u64 (a.fdiv (2 ^ b.toNat)))) := by
 show fA (fm P (Op.shift .shr .u64 a .u64 b)) = _
 have : ¬ b < 0 := by omega
 have h3 : min b.toNat IntKind.u64.bits = b.toNat := by simp [IntKind.bits]; omega
 simp only [Op.shift, this, if_false, h3]; exact fK P _ rfl
def by8 (n : Int) (i : Nat) : UInt8 := UInt8.ofNat (IntKind.u8.wrap ((IntKind.u64.wrap n).fdiv (2 ^ i))).toNat
def eV (n : Int) : ByteArray := ⟨#[UInt8.ofNat (IntKind.u8.wrap (IntKind.u64.wrap n)).toNat, by8 n 8, by8 n 16, by8 n 24, by8 n 32, by8 n 40, by8 n 48, by8 n 56]⟩
theorem mR (n : Int) (st : St) : E L (.func 51) [int n] st = some (gN (eV n), st) := by
 obtain ⟨s, rfl⟩ : ∃ s : St, st = s.app [] [] [] := ⟨st, (ao st).symm⟩
 rw [F0]; simp [S51, gI, Ao, E7, aF, jr, cz, gw, cellsOf, laid, cv, eK, chunks, Ap, bytesOf, AM.byteOfCell]
 rfl
def strs (l : List ByteArray) : List (List PV) := l.map fun b => [gN b]
theorem eG (l : List ByteArray) : (strs l).length = l.length := List.length_map ..
theorem dj (l : List ByteArray) : cM 1 (strs l) = true := jQ (fun b => [gN b]) (fun _ => rfl) l
theorem fJ (l m : List ByteArray) : strs l ++ strs m = strs (l ++ m) := (List.map_append ..).symm
def w64 (n : Int) : Int := IntKind.i64.wrap n
mutual
def X.text : X → List ByteArray
 | ⟨op, bin, n, kd, rc, name, ks, _, _⟩ => [⟨#[101, 120, 112, 114]⟩, eV op, eV bin, eV (w64 n), eV kd, rc, name, eV ks.length] ++ eP ks
def eP : List X → List ByteArray
 | [] => []
 | x :: xs => x.text ++ eP xs
end
theorem X.rV (x : X) : x.text = [⟨#[101, 120, 112, 114]⟩, eV x.op, eV x.bin, eV (w64 x.n), eV x.kd, x.rc, x.name, eV x.kids.length] ++ eP x.kids := by
 cases x; simp only [X.text]; rfl
mutual
theorem X.jT : ∀ x : X, x.text.length = 8 * x.sz
 | ⟨op, bin, n, kd, rc, name, ks, _, _⟩ => by
  have := mT ks
  simp [X.text, X.sz, this]; omega
theorem mT : ∀ xs : List X, (eP xs).length = 8 * szs xs
 | [] => by simp [eP, szs]
 | x :: xs => by
  have := mT xs; have := X.jT x
  simp [eP, szs, *]; omega
end
theorem qn : ∀ xs ys : List X, szs (xs ++ ys) = szs xs + szs ys
 | [], ys => by simp [szs]
 | x :: xs, ys => by simp [szs, qn xs ys]; omega
theorem tV (s : St) (b : Blk) (xs0 : List X) (hb : szs xs0 ≤ 1000000) (hbk : b.cs.all (sf true (s.stk.length + 1) 4) = true) : ∀ (xs p : List X) (acc : List ByteArray) (c : Cap) (tk : List (Nat × Nat)), xs0 = p ++ xs → acc.length = 8 + 8 * szs p → Own s tk c (strs acc).length 1 →
 (∀ x ∈ xs, ∀ (st : St), E L (.func 81) [.agg x.enc] st = some (.sl (strs x.text) .dead, st)) →
 ∃ vs c' tk', itE (S81.b0 (E L) itE s.stk.length s.lp.length) [.sl (strs acc) c, .sl (ep xs0) .dead, int xs0.length, int p.length] (s.app [b] tk []) =
  some (.exit 0, .sl (strs (acc ++ eP xs)) c' :: vs, s.app [b] tk' [])
 | [], p, acc, c, tk, hx, ha, ho, hf => by
  have e : xs0.length = p.length := by rw [hx]; simp
  refine ⟨[.sl (ep xs0) .dead, int xs0.length, int p.length], c, tk, ?_⟩; rw [mF]; simp [S81.b0, e, eP, ho.sfc, hbk]
 | x :: xs, p, acc, c, tk, hx, ha, ho, hf => by
  have hlt : (p.length : Int) < (xs0.length : Int) := by rw [hx]; simp; omega
  have g1 : (ep xs0)[p.length]? = some x.enc := by rw [hx]; exact v8 p x xs
  have r1 : dD (p.length : Int) (ep xs0).length = true := by rw [iu, hx]; exact inR p x xs
  have hl0 := vz xs0
  have hs0 : szs xs0 = szs p + (x.sz + szs xs) := by rw [hx, qn]; rfl
  have hpl : p.length < xs0.length := by rw [hx]; simp
  have w1 : IntKind.i64.wrap ((p.length : Int) + 1) = (p.length : Int) + 1 := IntWalk.i64_in _ (by omega); have hc := hf x bx; have hxl := X.jT x; obtain ⟨c1, tk1, e1, o1⟩ := dV (ys := strs x.text) (bytes := 16) ho (by simp only [eG, bP]; omega) (dj _) (dj _) (by decide) (by decide); rw [fJ] at e1 o1
  obtain ⟨vs, c2, tk2, h2⟩ := tV s b xs0 hb hbk xs (p ++ [x]) (acc ++ x.text) c1 tk1 (by simp [hx]) (by rw [qn, au]; simp [szs]; omega) o1 fun z hz => hf z (bV _ hz)
  refine ⟨vs, c2, tk2, ?_⟩; rw [show eP (x :: xs) = x.text ++ eP xs from rfl, ← List.append_assoc, ← h2]; refine cd ?_; simp [S81.b0, hlt, Cg, r1, g1, X.len, X.whole, X.okc, X.can, iw, hc, e1, w1, o1.sfc, hbk]
theorem pI : ∀ (n : Nat) (x : X), x.sz ≤ n → n ≤ 1000000 → ∀ st : St, E L (.func 81) [.agg x.enc] st = some (.sl (strs x.text) .dead, st)
 | 0, x, h, _ => by rw [X.rB] at h; omega
 | n + 1, x, h, hn => fun st => by
  rw [X.rB] at h
  obtain ⟨s, rfl⟩ : ∃ s : St, st = s.app [] [] [] := ⟨st, (ao st).symm⟩
  obtain ⟨vs, c', tk', hl⟩ := tV s ⟨x.enc, []⟩ x.kids (by omega) (X.sf4 ..) x.kids [] [⟨#[101, 120, 112, 114]⟩, eV x.op, eV x.bin, eV (w64 x.n), eV x.kd, x.rc, x.name, eV x.kids.length] .full [] rfl rfl (Own.full ..)
   fun z hz st => pI n z (by have := zV hz; omega) (by omega) st
  rw [F8]; simp [S81, X.CI, X.CJ, X.CK, X.HE, X.HF, X.HG, X.HH, mR, An, yb, iu, aF, jr, cz, gw, laid, cv, eK, chunks]; simp [strs, w64] at hl; rw [hl]; simp [X.rV, strs, w64]
def Pl.tx (p : Pl) : List ByteArray := [⟨#[112, 108, 97, 99, 101]⟩, eV p.op, p.base, p.field] ++ p.index.text
theorem Pl.qZ (p : Pl) : p.tx.length = 4 + 8 * p.index.sz := by simp [Pl.tx, X.jT]; omega
theorem wT (p : Pl) (h : p.index.sz ≤ 1000000) (st : St) : E L (.func 82) [.agg p.enc] st = some (.sl (strs p.tx) .dead, st) := by
 have he := pI p.index.sz p.index (aq _) h
 obtain ⟨s, rfl⟩ : ∃ s : St, st = s.app [] [] [] := ⟨st, (ao st).symm⟩
 have hx := X.jT p.index; obtain ⟨c1, tk1, e1, o1⟩ := dV (s := s) (tk := []) (es := strs [⟨#[112, 108, 97, 99, 101]⟩, eV p.op, p.base, p.field]) (ys := strs p.index.text) (bytes := 16) (Own.full ..) (by simp only [eG, bP, ah, ay]; omega) (dj _) (dj _) (by decide) (by decide); rw [F9]; simp [strs] at e1; simp [S82, Pl.CI, Pl.CJ, Pl.CK, Pl.CL, X.can, he, mR, aF, jr, cz, gw, laid, cv, eK, chunks, strs, e1, Pl.tx]
mutual
def S.tx : S → List ByteArray
 | ⟨op, name, right, place, e, n, args, body, els, _, _⟩ => [⟨#[115, 116, 109, 116]⟩, eV op, name, eV n, eV right.op, right.name, eV args.length] ++ right.e.text ++ right.place.tx ++ place.tx ++ e.text ++ eP args ++ ([⟨#[114, 111, 119]⟩, eV body.length] ++ lJ body) ++ ([⟨#[114, 111, 119]⟩, eV els.length] ++ lJ els)
def lJ : List S → List ByteArray
 | [] => []
 | x :: xs => x.tx ++ lJ xs
end
def iz (xs : List S) : List ByteArray := [⟨#[114, 111, 119]⟩, eV xs.length] ++ lJ xs
def S.hd (x : S) : List ByteArray := [⟨#[115, 116, 109, 116]⟩, eV x.op, x.name, eV x.n, eV x.right.op, x.right.name, eV x.args.length]
theorem S.Dm (x : S) : x.tx = x.hd ++ x.right.e.text ++ x.right.place.tx ++ x.place.tx ++ x.e.text ++ eP x.args ++ iz x.body ++ iz x.els := by
 cases x; simp only [S.tx]; rfl
mutual
theorem S.qZ : ∀ x : S, x.tx.length ≤ 40 * x.sz
 | ⟨op, name, right, place, e, n, args, body, els, _, _⟩ => by
  have := iC body; have := iC els
  simp [S.tx, S.sz, X.jT, mT, Pl.qZ, *]; omega
theorem iC : ∀ xs : List S, (lJ xs).length ≤ 40 * fj xs
 | [] => by simp [lJ, fj]
 | x :: xs => by
  have := iC xs; have := S.qZ x
  simp [lJ, fj]; omega
end
theorem tJ (s : St) (b : Blk) (xs0 : List X) (hb : szs xs0 ≤ 1000000) (hbk : b.cs.all (sf true (s.stk.length + 1) 4) = true) (L0 : List (List PV)) (n0 i0 : Int) : ∀ (xs p : List X) (acc : List ByteArray) (c : Cap) (tk : List (Nat × Nat)), xs0 = p ++ xs → acc.length + 8 * szs xs ≤ 100000000 → Own s tk c (strs acc).length 1 →
 ∃ j c' tk', itE (S53.b1 (E L) itE s.stk.length s.lp.length) [.sl (strs acc) c, .ptr false s.stk.length 0, .sl L0 .dead, int n0, int i0, .sl (ep xs0) .dead, int xs0.length, int p.length] (s.app [b] tk []) =
  some (.exit 2, [.sl (strs (acc ++ eP xs)) c', .ptr false s.stk.length 0, .sl L0 .dead, int n0, int i0, .sl (ep xs0) .dead, int xs0.length, int j], s.app [b] tk' []) ∧ Own s tk' c' (strs (acc ++ eP xs)).length 1
 | [], p, acc, c, tk, hx, ha, ho => by
  have e : xs0.length = p.length := by rw [hx]; simp
  refine ⟨p.length, c, tk, ?_, by simpa [eP] using ho⟩; rw [mF]; simp [S53.b1, e, eP, ho.sfc, hbk]
 | x :: xs, p, acc, c, tk, hx, ha, ho => by
  have hlt : (p.length : Int) < (xs0.length : Int) := by rw [hx]; simp; omega
  have g1 : (ep xs0)[p.length]? = some x.enc := by rw [hx]; exact v8 p x xs
  have r1 : dD (p.length : Int) (ep xs0).length = true := by rw [iu, hx]; exact inR p x xs
  have hl0 := vz xs0
  have hs0 : szs xs0 = szs p + (x.sz + szs xs) := by rw [hx, qn]; rfl
  have hpl : p.length < xs0.length := by rw [hx]; simp
  have w1 : IntKind.i64.wrap ((p.length : Int) + 1) = (p.length : Int) + 1 := IntWalk.i64_in _ (by omega); have hc := pI x.sz x (aq _) (by omega); have hxl := X.jT x; have hsx : szs (x :: xs) = x.sz + szs xs := rfl; obtain ⟨c1, tk1, e1, o1⟩ := dV (ys := strs x.text) (bytes := 16) ho (by simp only [eG, bP]; omega) (dj _) (dj _) (by decide) (by decide); rw [fJ] at e1 o1; obtain ⟨j, c2, tk2, h2, o2⟩ := tJ s b xs0 hb hbk L0 n0 i0 xs (p ++ [x]) (acc ++ x.text) c1 tk1 (by simp [hx]) (by rw [au]; omega) o1; rw [show eP (x :: xs) = x.text ++ eP xs from rfl, ← List.append_assoc]; refine ⟨j, c2, tk2, ?_, o2⟩; rw [← h2]; refine cd ?_; simp [S53.b1, hlt, Cg, r1, g1, X.len, X.whole, X.okc, X.can, iw, hc, e1, w1, o1.sfc, hbk]
theorem oo : ∀ (p : List S) (x : S), lJ (p ++ [x]) = lJ p ++ x.tx
 | [], x => by simp [lJ]
 | y :: ys, x => by simp [lJ, oo ys x]
theorem td : ∀ xs ys : List S, fj (xs ++ ys) = fj xs + fj ys
 | [], ys => by simp [fj]
 | x :: xs, ys => by simp [fj, td xs ys]; omega
theorem tg (s : St) (xs0 : List S) (hb : fj xs0 ≤ 1000000) : ∀ (xs p : List S) (acc : List ByteArray) (c : Cap) (tk : List (Nat × Nat)), xs0 = p ++ xs → acc.length = 2 + (lJ p).length → Own s tk c (strs acc).length 1 →
 (∀ x ∈ xs, ∀ (st : St), E L (.func 53) [.sl (dQ x.body) .dead] st = some (.sl (strs (iz x.body)) .dead, st) ∧ E L (.func 53) [.sl (dQ x.els) .dead] st = some (.sl (strs (iz x.els)) .dead, st)) →
 ∃ vs c' tk', itE (S53.b0 (E L) itE s.stk.length s.lp.length) [.sl (strs acc) c, .sl (dQ xs0) .dead, int xs0.length, int p.length] (s.app [] tk []) =
  some (.exit 0, .sl (strs (acc ++ lJ xs)) c' :: vs, s.app [] tk' [])
 | [], p, acc, c, tk, hx, ha, ho, hf => by
  have e : xs0.length = p.length := by rw [hx]; simp
  refine ⟨[.sl (dQ xs0) .dead, int xs0.length, int p.length], c, tk, ?_⟩; rw [mF]; simp [S53.b0, e, lJ, ho.sfc]
 | x :: xs, p, acc, c, tk, hx, ha, ho, hf => by
  have hlt : (p.length : Int) < (xs0.length : Int) := by rw [hx]; simp; omega
  have g1 : (dQ xs0)[p.length]? = some x.enc := by rw [hx]; exact AW p x xs
  have r1 : dD (p.length : Int) (dQ xs0).length = true := by rw [jo, hx]; exact inR p x xs
  have hl0 := xh xs0
  have hs0 : fj xs0 = fj p + (x.sz + fj xs) := by rw [hx, td]; rfl
  have hpl : p.length < xs0.length := by rw [hx]; simp
  have w1 : IntKind.i64.wrap ((p.length : Int) + 1) = (p.length : Int) + 1 := IntWalk.i64_in _ (by omega); have hxl := S.qZ x; have hxp := iC p; have hz := S.rB x; have q1 := pI _ x.right.e (aq _) (by omega); have q2 := wT x.right.place (by omega); have q3 := wT x.place (by omega); have q4 := pI _ x.e (aq _) (by omega); have l1 := X.jT x.right.e; have l2 := Pl.qZ x.right.place; have l3 := Pl.qZ x.place; have l4 := X.jT x.e; have l5 := mT x.args
  have l6 : (iz x.body).length = 2 + (lJ x.body).length := by simp [iz]; omega
  have l7 : (iz x.els).length = 2 + (lJ x.els).length := by simp [iz]; omega
  have l8 := iC x.body; have l9 := iC x.els; have l0 : x.hd.length = 7 := rfl; obtain ⟨c1, tk1, e1, o1⟩ := dV (ys := strs x.hd) (bytes := 16) ho (by simp only [eG, bP]; omega) (dj _) (dj _) (by decide) (by decide); rw [fJ] at e1 o1; generalize hA1 : acc ++ x.hd = A1 at e1 o1; have m1 := congrArg fQ hA1; rw [au] at m1; obtain ⟨c2, tk2, e2, o2⟩ := dV (ys := strs x.right.e.text) (bytes := 16) o1 (by simp only [eG, bP]; omega) (dj _) (dj _) (by decide) (by decide); rw [fJ] at e2 o2; generalize hA2 : A1 ++ x.right.e.text = A2 at e2 o2; have m2 := congrArg fQ hA2; rw [au] at m2; obtain ⟨c3, tk3, e3, o3⟩ := dV (ys := strs x.right.place.tx) (bytes := 16) o2 (by simp only [eG, bP]; omega) (dj _) (dj _) (by decide) (by decide); rw [fJ] at e3 o3; generalize hA3 : A2 ++ x.right.place.tx = A3 at e3 o3; have m3 := congrArg fQ hA3; rw [au] at m3; obtain ⟨c4, tk4, e4, o4⟩ := dV (ys := strs x.place.tx) (bytes := 16) o3 (by simp only [eG, bP]; omega) (dj _) (dj _) (by decide) (by decide); rw [fJ] at e4 o4; generalize hA4 : A3 ++ x.place.tx = A4 at e4 o4; have m4 := congrArg fQ hA4; rw [au] at m4; obtain ⟨c5, tk5, e5, o5⟩ := dV (ys := strs x.e.text) (bytes := 16) o4 (by simp only [eG, bP]; omega) (dj _) (dj _) (by decide) (by decide); rw [fJ] at e5 o5; generalize hA5 : A4 ++ x.e.text = A5 at e5 o5; have m5 := congrArg fQ hA5; rw [au] at m5; obtain ⟨j, c6, tk6, h6, o6⟩ := tJ s ⟨x.enc, []⟩ x.args (by omega) (S.sf4 ..) (dQ xs0) xs0.length p.length x.args [] _ c5 tk5 rfl (by omega) o5; generalize hA6 : A5 ++ eP x.args = A6 at h6 o6; have m6 := congrArg fQ hA6; rw [au] at m6; obtain ⟨c7, tk7, e7, o7⟩ := dV (ys := strs (iz x.body)) (bytes := 16) o6 (by simp only [eG, bP]; omega) (dj _) (dj _) (by decide) (by decide); rw [fJ] at e7 o7; generalize hA7 : A6 ++ iz x.body = A7 at e7 o7; have m7 := congrArg fQ hA7; rw [au] at m7; obtain ⟨c8, tk8, e8, o8⟩ := dV (ys := strs (iz x.els)) (bytes := 16) o7 (by simp only [eG, bP]; omega) (dj _) (dj _) (by decide) (by decide); rw [fJ] at e8 o8
  have etx : A7 ++ iz x.els = acc ++ x.tx := by rw [S.Dm, ← hA7, ← hA6, ← hA5, ← hA4, ← hA3, ← hA2, ← hA1]; simp only [List.append_assoc]
  generalize hA8 : A7 ++ iz x.els = A8 at e8 o8 etx; have hstx := oo p x
  obtain ⟨vs, c9, tk9, h9⟩ := tg s xs0 hb xs (p ++ [x]) A8 c8 tk8 (by simp [hx]) (by rw [etx, hstx, au, au]; omega) o8 fun z hz => hf z (bV _ hz)
  refine ⟨vs, c9, tk9, ?_⟩; rw [show lJ (x :: xs) = x.tx ++ lJ xs from rfl, ← List.append_assoc, ← etx, ← h9]; refine cd ?_; have hhd : [[gN ⟨#[115, 116, 109, 116]⟩], [gN (eV x.op)], [gN x.name], [gN (eV x.n)], [gN (eV x.right.op)], [gN x.right.name], [gN (eV x.args.length)]] = strs x.hd := rfl
  have hb1 := fun st => (hf x bx st).1
  have hb2 := fun st => (hf x bx st).2
  clear hf h9 hz hs0 l0 l1 l2 l3 l4 l5 l6 l7 l8 l9 hxl hxp; simp [S53.b0, hlt, Fm, r1, g1, S.len, S.whole, S.okc, iw, S.CI, S.CJ, S.Hg, S.CK, S.Hf, S.Hh, mR, yb, iu, aF, jr, cz, gw, laid, cv, eK, chunks, hhd, e1, S.CL, X.can, q1, e2, S.ET, Pl.can, q2, e3, S.EU, q3, e4, S.Gt, q4, e5]; simp at h6; simp [h6, S.Hi, hb1, e7, S.Hj, hb2, e8, w1, o8.sfc]
theorem nN (xs : List S) : (iz xs).length = 2 + (lJ xs).length := by simp [iz]; omega
theorem CY : ∀ (n : Nat) (xs : List S), fj xs ≤ n → n ≤ 1000000 → ∀ st : St, E L (.func 53) [.sl (dQ xs) .dead] st = some (.sl (strs (iz xs)) .dead, st) := by
 intro n
 induction n with
 | zero => exact fun xs h hn st => Hm xs 0 h hn (fun x hx => by have := tf hx; have := S.rB x; omega) st
 | succ n ih => exact fun xs h hn st => Hm xs (n + 1) h hn (fun x hx => by
  have := tf hx; have hz := S.rB x
  exact fun st => ⟨ih x.body (by omega) (by omega) st, ih x.els (by omega) (by omega) st⟩) st
where
 Hm (xs : List S) (n : Nat) (h : fj xs ≤ n) (hn : n ≤ 1000000) (hf : ∀ x ∈ xs, ∀ (st : St), E L (.func 53) [.sl (dQ x.body) .dead] st = some (.sl (strs (iz x.body)) .dead, st) ∧ E L (.func 53) [.sl (dQ x.els) .dead] st = some (.sl (strs (iz x.els)) .dead, st)) (st : St) :
  E L (.func 53) [.sl (dQ xs) .dead] st = some (.sl (strs (iz xs)) .dead, st) := by
  obtain ⟨s, rfl⟩ : ∃ s : St, st = s.app [] [] [] := ⟨st, (ao st).symm⟩
  obtain ⟨vs, c', tk', hl⟩ := tg s xs (by omega) xs [] [⟨#[114, 111, 119]⟩, eV xs.length] .full [] rfl rfl (Own.full ..) hf; rw [F2]; simp [S53, mR, Cs, jo, aF, jr, cz, gw, laid, cv, eK, chunks]; simp [strs] at hl; rw [hl]; simp [iz, strs]
theorem xm (p : List ByteArray) (x : ByteArray) (xs : List ByteArray) : (strs (p ++ x :: xs))[p.length]? = some [gN x] := by simp [strs]
theorem xg (s : St) (xs0 ys0 : List ByteArray) (hb : xs0.length ≤ 1000000000) (hl : xs0.length = ys0.length) : ∀ (xs ys p q : List ByteArray), xs0 = p ++ xs → ys0 = q ++ ys → p.length = q.length →
 ∃ j : Int, itE (S22.b0 (E L) itE s.stk.length s.lp.length) [.sl (strs xs0) .dead, .sl (strs ys0) .dead, .v (.bool false), int xs0.length, int p.length] (s.app [] [] []) =
  some (bif decide (xs = ys) then .exit 0 else .ret, [.sl (strs xs0) .dead, .sl (strs ys0) .dead, .v (.bool false), int xs0.length, int j], s.app [] [] [])
 | [], ys, p, q, hx, hy, hp => by
  obtain rfl : ys = [] := by
   have := congrArg fQ hx; have := congrArg fQ hy
   simp at *
   exact List.length_eq_zero_iff.1 (by omega)
  refine ⟨p.length, ?_⟩; rw [mF]
  have e : xs0.length = p.length := by rw [hx]; simp
  simp [S22.b0, e]
 | x :: xs, ys, p, q, hx, hy, hp => by
  match ys, hy with
  | [], hy =>
   exfalso
   have := congrArg fQ hx; have := congrArg fQ hy
   simp at *
   omega
  | y :: ys, hy =>
   have hlt : (p.length : Int) < (xs0.length : Int) := by rw [hx]; simp; omega
   have g1 : (strs xs0)[p.length]? = some [gN x] := by rw [hx]; exact xm p x xs
   have g2 : (strs ys0)[p.length]? = some [gN y] := by rw [hy, hp]; exact xm q y ys
   have r1 : dD (p.length : Int) (strs xs0).length = true := by rw [eG, hx]; exact inR p x xs
   have r2 : dD (p.length : Int) (strs ys0).length = true := by rw [eG, hy, hp]; exact inR q y ys
   have w1 : IntKind.i64.wrap ((p.length : Int) + 1) = ((p ++ [x]).length : Int) := by rw [IntWalk.i64_in _ (by omega)]; simp
   have hstep : S22.b0 (E L) itE s.stk.length s.lp.length [.sl (strs xs0) .dead, .sl (strs ys0) .dead, .v (.bool false), int xs0.length, int p.length] (s.app [] [] []) =
    some (bif decide (x = y) then (.normal, [.sl (strs xs0) .dead, .sl (strs ys0) .dead, .v (.bool false), int xs0.length, int (p ++ [x]).length], s.app [] [] []) else
     (.ret, [.sl (strs xs0) .dead, .sl (strs ys0) .dead, .v (.bool false), int xs0.length, int p.length], s.app [] [] [])) := by
    by_cases hxy : x = y
    · subst hxy; simp [S22.b0, hlt, Fo, r1, r2, g1, g2, w1, AM.part]
    · simp [S22.b0, hlt, Fo, r1, r2, g1, g2, w1, hxy, AM.part]
   by_cases hxy : x = y
   · subst hxy
     rw [decide_eq_true rfl] at hstep; obtain ⟨j, hj⟩ := xg s xs0 ys0 hb hl xs ys (p ++ [x]) (q ++ [x]) (by simp [hx]) (by simp [hy]) (by simp [hp]); refine ⟨j, ?_⟩; rw [cd hstep, hj]; simp
   · rw [decide_eq_false hxy] at hstep
     refine ⟨p.length, ?_⟩; rw [eZ hstep]; simp [hxy]
theorem GA (xs ys : List ByteArray) (hb : xs.length ≤ 1000000000) (st : St) : E L (.func 22) [.sl (strs xs) .dead, .sl (strs ys) .dead] st = some (.v (.bool (decide (xs = ys))), st) := by
 obtain ⟨s, rfl⟩ : ∃ s : St, st = s.app [] [] [] := ⟨st, (ao st).symm⟩
 rw [FX]
 by_cases hl : xs.length = ys.length
 · obtain ⟨j, hj⟩ := xg s xs ys hb hl xs ys [] [] rfl rfl rfl
   simp [S22, Ct, eG, hl] at hj ⊢; rw [hj]
   by_cases h : xs = ys <;> simp [h]
 · have : ¬ (xs.length : Int) = ys.length := by omega
   have h2 : ¬ xs = ys := fun e => hl (by rw [e])
   simp [S22, Ct, eG, this, h2]
end Go.Proofs.YtlhlijaondmccaaGreatDoor.S
namespace Go.Proofs.YtlhlijaondmccaaGreatDoor.S
open Go Go.AM Go.Proofs
theorem dJ {α β : Type} (a : α) (f : α → Option β) : (some a).bind f = f a := by
 cases h : f a with
 | none => exact h
 | some b => exact h
theorem dK {α β : Type} {x y : Option α} (f : α → Option β) (h : x = y) : x.bind f = y.bind f := by rw [h]
inductive PR (α : Type) where
 | ok (a : α) (l : List Tok)
 | bad (e : Nat) (q : Nat × Nat)
def PR.map {α β : Type} (f : α → β) : PR α → PR β
 | .ok a l => .ok (f a) l
 | .bad e q => .bad e q
def pb {α β : Type} (x : Option (PR α)) (K : α → List Tok → Option (PR β)) : Option (PR β) := match x with
 | none => none
 | some (.bad e q) => some (.bad e q)
 | some (.ok a l) => K a l
def HP : Tok := ⟨0, [], 0, (0, 0)⟩
def hd (l : List Tok) : Tok := l.headD HP
def isT (l : List Tok) (s : List UInt8) : Bool := (decide ((hd l).kind = 2) || decide ((hd l).kind = 5)) && decide ((hd l).text = s)
def dp (l : List Tok) : List Tok := if (hd l).kind = 0 then l else l.tail
def dm (s : List UInt8) (l : List Tok) : PR Tok := if isT l s then .ok (hd l) l.tail else .bad 4 (hd l).p
def eg (k : Nat) (l : List Tok) : PR Tok := if (hd l).kind = k then .ok (hd l) (dp l) else .bad 4 (hd l).p
def nv {α : Type} (d : Nat) (t : Tok) (x : Option (PR α)) : Option (PR α) := if 12 < d + 1 then some (.bad 10 t.p) else x
structure Ty2 where
 kd : Int
 rc : ByteArray
def rK (l : List Tok) : PR Ty2 :=
 if isT l [105, 110, 116] then .ok ⟨1, bs []⟩ l.tail else
 if isT l [114, 101, 97, 108] then .ok ⟨2, bs []⟩ l.tail else
 if isT l [105, 110, 116, 115] then .ok ⟨3, bs []⟩ l.tail else
 (eg 1 l).map fun t => ⟨4, bs t.text⟩
structure Nm where
 name : ByteArray
 ty : Ty2
 line : Int
 col : Int
def kR (l : List Tok) : Option (PR Nm) :=
 pb (some (eg 1 l)) fun t l1 => pb (some (dm [58] l1)) fun _ l2 => pb (some (rK l2)) fun ty l3 => some (.ok ⟨bs t.text, ty, t.p.1, t.p.2⟩ l3)
def ig : Nat → List (List UInt8)
 | 0 => [[61, 61], [33, 61], [60], [60, 61]]
 | 1 => [[43], [45]]
 | _ => [[42], [47], [37]]
def vU (w : List UInt8) : Int := if w = [43] then 0 else if w = [45] then 1 else if w = [42] then 2 else if w = [47] then 3 else if w = [37] then 4 else if w = [61, 61] then 5 else if w = [33, 61] then 6 else if w = [60] then 7 else if w = [60, 61] then 8 else 0
def iB (lv : Nat) (t : Tok) : Option Int := if t.kind = 5 ∧ (ig lv).contains t.text = true then some (vU t.text) else none
def gy (t : Tok) : Int :=
 if t.kind = 2 ∨ t.kind = 5 then
  if t.text = [45] then 6 else if t.text = [114, 101, 97, 108] then 7 else if t.text = [116, 114, 117, 110, 99] then 8 else 0
 else 0
def x0 : X := ⟨0, 0, 0, 0, bs [], bs [], [], 0, 0⟩
def atX (t : Tok) (op n kd : Int) (rc name : List UInt8) : X := ⟨op, 0, n, kd, bs rc, bs name, [], t.p.1, t.p.2⟩
mutual
def jt : Nat → Nat → List Tok → Option (PR X)
 | 0, _, _ => none
 | n + 1, d, l =>
  let t := hd l
  if t.kind = 3 then some (.ok (atX t 1 t.n 0 [] []) (dp l)) else
  if t.kind = 4 then some (.ok (atX t 2 t.n 0 [] []) (dp l)) else
  if t.kind = 1 then some (.ok (atX t 5 0 0 [] t.text) (dp l)) else
  if t.kind = 2 ∧ t.text = [105, 110, 112, 117, 116] then some ((eg 3 (dp l)).map fun u => atX t 4 u.n 0 [] []) else
  if t.kind = 2 ∧ t.text = [110, 105, 108] then
   (if isT (dp l) [105, 110, 116, 115] then some (.ok (atX t 3 0 3 [] []) (dp l).tail) else some ((eg 1 (dp l)).map fun u => atX t 3 0 4 u.text [])) else
  if t.kind = 5 ∧ t.text = [40] then nv d t (pb (dT n 0 (d + 1) (dp l)) fun e l1 => pb (some (dm [41] l1)) fun _ l2 => some (.ok e l2)) else
  some (.bad 4 t.p)
def gf : Nat → Nat → List Tok → Option (PR X)
 | 0, _, _ => none
 | n + 1, d, l =>
  let t := hd l
  if gy t = 0 then jt n d l else
  nv d t (pb (gf n (d + 1) (dp l)) fun k l1 => some (.ok ⟨gy t, 0, 0, 0, bs [], bs [], [k], t.p.1, t.p.2⟩ l1))
def dT : Nat → Nat → Nat → List Tok → Option (PR X)
 | 0, _, _, _ => none
 | n + 1, lv, d, l => if lv = 3 then gf n d l else pb (dT n (lv + 1) d l) fun e l1 => iO n lv d e l1
def iO : Nat → Nat → Nat → X → List Tok → Option (PR X)
 | 0, _, _, _, _ => none
 | n + 1, lv, d, e, l =>
  let t := hd l
  match iB lv t with
  | none => some (.ok e l)
  | some b => pb (dT n (lv + 1) d (dp l)) fun k l1 =>
   if lv = 0 then some (.ok ⟨9, b, 0, 0, bs [], bs [], [e, k], t.p.1, t.p.2⟩ l1) else iO n lv d ⟨9, b, 0, 0, bs [], bs [], [e, k], t.p.1, t.p.2⟩ l1
end
def lH (n d : Nat) (l : List Tok) : Option (PR Pl) :=
 pb (some (eg 1 l)) fun t l1 =>
  if isT l1 [46] then pb (some (eg 1 l1.tail)) fun u l2 => some (.ok ⟨2, bs t.text, bs u.text, x0, t.p.1, t.p.2⟩ l2) else
  if isT l1 [91] then pb (dT n 0 d l1.tail) fun e l2 => pb (some (dm [93] l2)) fun _ l3 => some (.ok ⟨3, bs t.text, bs [], e, t.p.1, t.p.2⟩ l3) else
  some (.ok ⟨1, bs t.text, bs [], x0, t.p.1, t.p.2⟩ l1)
def pl0 : Pl := ⟨0, bs [], bs [], x0, 0, 0⟩
def iJ (n d : Nat) (l : List Tok) : Option (PR Rt) :=
 let t := hd l
 if isT l [108, 111, 97, 100] then pb (lH n d l.tail) fun x l1 => some (.ok ⟨2, x0, x, bs [], t.p.1, t.p.2⟩ l1) else
 if isT l [115, 105, 122, 101] then pb (some (eg 1 l.tail)) fun u l1 => some (.ok ⟨5, x0, pl0, bs u.text, t.p.1, t.p.2⟩ l1) else
 if isT l [110, 101, 119] then
  (if isT l.tail [105, 110, 116, 115] then pb (dT n 0 d l.tail.tail) fun e l1 => some (.ok ⟨4, e, pl0, bs [], t.p.1, t.p.2⟩ l1)
   else pb (some (eg 1 l.tail)) fun u l1 => some (.ok ⟨3, x0, pl0, bs u.text, t.p.1, t.p.2⟩ l1)) else
 pb (dT n 0 d l) fun e l1 => some (.ok ⟨1, e, pl0, bs [], t.p.1, t.p.2⟩ l1)
def js : Nat → Nat → Nat → List X → List Tok → Option (PR (List X))
 | 0, _, _, _, _ => none
 | n + 1, m, d, acc, l => pb (dT m 0 d l) fun e l1 =>
  if isT l1 [41] then some (.ok (acc ++ [e]) l1.tail) else pb (some (dm [44] l1)) fun _ l2 => js n m d (acc ++ [e]) l2
def pt (n d : Nat) (l : List Tok) : Option (PR (List X)) := pb (some (dm [40] l)) fun _ l1 => if isT l1 [41] then some (.ok [] l1.tail) else js n n d [] l1
def rt0 : Rt := ⟨0, x0, pl0, bs [], 0, 0⟩
abbrev mkS (t : Tok) (op : Int) (name : ByteArray) (right : Rt) (place : Pl) (e : X) (n : Int) (args : List X) (body els : List S) : S := ⟨op, name, right, place, e, n, args, body, els, t.p.1, t.p.2⟩
def eO (l : List Tok) : ByteArray × List Tok := if (hd l).kind = 1 then (bs (hd l).text, dp l) else (bs [], l)
def gn (s : S) (l : List Tok) : Option (PR S) := pb (some (dm [59] l)) fun _ l1 => some (.ok s l1)
mutual
def eX : Nat → Nat → List Tok → Option (PR (List S))
 | 0, _, _ => none
 | n + 1, d, l => pb (some (dm [123] l)) fun t l1 => nv d t (lI n (d + 1) [] l1)
def lI : Nat → Nat → List S → List Tok → Option (PR (List S))
 | 0, _, _, _ => none
 | n + 1, d, acc, l => if isT l [125] then some (.ok acc l.tail) else pb (ju n d l) fun s l1 => lI n d (acc ++ [s]) l1
def iF : Nat → Nat → Tok → ByteArray → List Tok → Option (PR S)
 | 0, _, _, _, _ => none
 | n + 1, d, t, name, l => pb (some (eg 3 l)) fun u l1 => pb (eX n d l1) fun b l2 => some (.ok (mkS t 7 name rt0 pl0 x0 (IntKind.i64.wrap u.n) [] b []) l2)
def ju : Nat → Nat → List Tok → Option (PR S)
 | 0, _, _ => none
 | n + 1, d, l =>
  let t := hd l
  if t.kind = 1 then
   (if isT (dp l) [58] then pb (some (dm [108, 111, 111, 112] (dp l).tail)) fun _ l1 => iF n d t (bs t.text) l1
    else pb (some (dm [61] (dp l))) fun _ l1 => pb (iJ n d l1) fun r l2 => gn (mkS t 3 (bs t.text) r pl0 x0 0 [] [] []) l2) else
  if isT l [108, 111, 111, 112] then iF n d t (bs []) l.tail else
  if isT l [105, 102] then
   pb (dT n 0 d l.tail) fun e l1 => pb (eX n d l1) fun b l2 =>
    (if isT l2 [101, 108, 115, 101] then pb (eX n d l2.tail) fun c l3 => some (.ok (mkS t 6 (bs []) rt0 pl0 e 0 [] b c) l3) else some (.ok (mkS t 6 (bs []) rt0 pl0 e 0 [] b []) l2)) else
  if isT l [97, 116, 111, 109, 105, 99] then pb (eX n d l.tail) fun b l1 => some (.ok (mkS t 10 (bs []) rt0 pl0 x0 0 [] b []) l1) else
  if isT l [108, 101, 116] ∨ isT l [118, 97, 114] then
   pb (some (eg 1 (dp l))) fun u l1 => pb (some (dm [61] l1)) fun _ l2 => pb (iJ n d l2) fun r l3 => gn (mkS t (if t.text = [118, 97, 114] then 2 else 1) (bs u.text) r pl0 x0 0 [] [] []) l3 else
  if isT l [115, 101, 116] then pb (lH n d l.tail) fun x l1 => pb (some (dm [61] l1)) fun _ l2 => pb (dT n 0 d l2) fun e l3 => gn (mkS t 4 (bs []) rt0 x e 0 [] [] []) l3 else
  if isT l [112, 114, 105, 110, 116] then pb (dT n 0 d l.tail) fun e l1 => gn (mkS t 5 (bs []) rt0 pl0 e 0 [] [] []) l1 else
  if isT l [98, 114, 101, 97, 107] then gn (mkS t 8 (eO l.tail).1 rt0 pl0 x0 0 [] [] []) (eO l.tail).2 else
  if isT l [99, 111, 110, 116, 105, 110, 117, 101] then gn (mkS t 9 (eO l.tail).1 rt0 pl0 x0 0 [] [] []) (eO l.tail).2 else
  if isT l [99, 97, 108, 108] then
   pb (some (eg 1 l.tail)) fun u l1 => pb (pt n d l1) fun xs l2 => gn (mkS t 11 (bs u.text) rt0 pl0 x0 0 xs [] []) l2 else
  some (.bad 4 t.p)
end
structure Rec where
 name : ByteArray
 fields : List Nm
 line : Int
 col : Int
structure Fu where
 name : ByteArray
 params : List Nm
 body : List S
 line : Int
 col : Int
structure Th where
 body : List S
 line : Int
 col : Int
structure Pg where
 fa : List Rec
 gls : List Nm
 fe : List Fu
 ths : List Th
def gr : Nat → List Nm → List Tok → Option (PR (List Nm))
 | 0, _, _ => none
 | n + 1, acc, l => if isT l [125] then some (.ok acc l.tail) else pb (kR l) fun f l1 => pb (some (dm [59] l1)) fun _ l2 => gr n (acc ++ [f]) l2
def vu (n : Nat) (l : List Tok) : Option (PR Rec) :=
 pb (some (eg 1 l)) fun t l1 => pb (some (dm [123] l1)) fun _ l2 => pb (gr n [] l2) fun fs l3 => some (.ok ⟨bs t.text, fs, t.p.1, t.p.2⟩ l3)
def gd : Nat → List Nm → List Tok → Option (PR (List Nm))
 | 0, _, _ => none
 | n + 1, acc, l => pb (kR l) fun f l1 => if isT l1 [41] then some (.ok (acc ++ [f]) l1.tail) else pb (some (dm [44] l1)) fun _ l2 => gd n (acc ++ [f]) l2
def wo (n : Nat) (l : List Tok) : Option (PR Fu) :=
 pb (some (eg 1 l)) fun t l1 => pb (some (dm [40] l1)) fun _ l2 =>
  pb (if isT l2 [41] then some (.ok [] l2.tail) else gd n [] l2) fun ps l3 => pb (eX n 0 l3) fun b l4 => some (.ok ⟨bs t.text, ps, b, t.p.1, t.p.2⟩ l4)
def dq : Nat → Nat → Pg → List Tok → Option (PR Pg)
 | 0, _, _, _ => none
 | n + 1, m, g, l =>
  let t := hd l
  if t.kind = 0 then some (.ok g l) else
  if isT l [114, 101, 99, 111, 114, 100] then pb (vu m l.tail) fun r l1 => dq n m { g with fa := g.fa ++ [r] } l1 else
  if isT l [103, 108, 111, 98, 97, 108] then pb (kR l.tail) fun x l1 => pb (some (dm [59] l1)) fun _ l2 => dq n m { g with gls := g.gls ++ [x] } l2 else
  if isT l [102, 117, 110] then pb (wo m l.tail) fun f l1 => dq n m { g with fe := g.fe ++ [f] } l1 else
  if isT l [116, 104, 114, 101, 97, 100] then pb (eX m 0 l.tail) fun b l1 => dq n m { g with ths := g.ths ++ [⟨b, t.p.1, t.p.2⟩] } l1 else
  some (.bad 4 t.p)
def FM (ts : List Tok) : Prop := ∀ t ∈ ts, t.kind = 2 → ∀ lv, lv < 3 → (ig lv).contains t.text = false
end Go.Proofs.YtlhlijaondmccaaGreatDoor.S
namespace Go.Proofs.YtlhlijaondmccaaGreatDoor.S
open Go Go.AM Go.Proofs
attribute [local simp] cX cx bY bZ cy fq fv ec de dY db dZ dc fu cc im dS iq ic hO AM.ae aR aS bf aN aE AM.onG gb bW ef Ex.bn cond_true cond_false cT cS cR cQ cP cV cO cW cU ed dh di cw cY AM.du AM.cellsOf AM.an bX beq_true cM ah ay bj bz bT decide_true decide_false bF bE bu bD bg aB az aU al cZ da ft aA bI ba bR cC dR dX cJ eE eD set_set eI dy fT dz cI bK dx dw cH dv eH eJ fM fN bM cu eB fL dW aV aX aI AM.aY ai dt bU bc bh aP aO AM.part br aQ cf cm cj cn cn.eS AM.dN bG cg dJ fW aV laid aJ bq cz
attribute [-simp] aj
attribute [local congr] dK
abbrev pcf (es : List (List PV)) (a d e q1 q2 : Int) : List PV := [.sl es .dead, .v (.int .i64 a), .v (.int .i64 d), .v (.int .i64 e), .v (.int .i64 q1), .v (.int .i64 q2)]
abbrev pcA (ts l : List Tok) : Int := ((ts.length - l.length : Nat) : Int)
abbrev pc (ts l : List Tok) (d : Nat) : List PV := pcf (aC ts) (pcA ts l) d 0 0 0
structure Row (ts : List Tok) : Prop where
 len : ts.length < 100000
 shape : ∃ t0 q, ts = t0 ++ [⟨0, [], 0, q⟩] ∧ ∀ t ∈ t0, t.kind ≠ 0
 num : ∀ t ∈ ts, t.n < 9223372036854775808 ∨ t.kind = 4
 txt : ∀ t ∈ ts, t.text.length < 1000000
 sign : ∀ t ∈ ts, t.kind = 5 → ∀ c ∈ t.text, c ≠ 32
def Sfx (ts l : List Tok) : Prop := l ≠ [] ∧ ∃ dn, ts = dn ++ l
theorem Sfx.cons {ts l : List Tok} (h : Sfx ts l) : ∃ t r, l = t :: r := by
 obtain ⟨h1, _⟩ := h
 cases l with
 | nil => exact absurd rfl h1
 | cons t r => exact ⟨t, r, rfl⟩
theorem Sfx.tail {ts l : List Tok} (hr : Row ts) (h : Sfx ts l) (hk : (hd l).kind ≠ 0) : Sfx ts l.tail := by
 obtain ⟨t, r, rfl⟩ := h.cons; obtain ⟨_, dn, rfl⟩ := h; refine ⟨?_, dn ++ [t], by simp⟩; intro e; have e : r = [] := e; subst e; obtain ⟨t0, q, h1, _⟩ := hr.shape; have := List.append_inj_right' h1 rfl; obtain rfl := (List.cons.inj this).1; exact hk rfl
theorem Sfx.next {ts l : List Tok} (hr : Row ts) (h : Sfx ts l) : Sfx ts (dp l) := by
 unfold dp; split
 · exact h
 · rename_i hk; exact h.tail hr hk
theorem Ci {l : List Tok} {s : List UInt8} (h : isT l s = true) : (hd l).kind ≠ 0 := by
 unfold isT at h; simp only [aw, Bool.or_eq_true, decide_eq_true_eq] at h; omega
theorem Sfx.isT {ts l : List Tok} (hr : Row ts) (h : Sfx ts l) {s : List UInt8} (hi : isT l s = true) : Sfx ts l.tail := h.tail hr (Ci hi)
theorem CM {ts l : List Tok} (h : Sfx ts l) : pcA ts l.tail = pcA ts l + 1 := by
 obtain ⟨t, r, rfl⟩ := h.cons; obtain ⟨_, dn, rfl⟩ := h; simp only [pcA, List.tail_cons, au, ah]; omega
theorem EV {ts l : List Tok} (hr : Row ts) : 0 ≤ pcA ts l ∧ pcA ts l < 100000 := by
 have := hr.len
 simp only [pcA]; omega
theorem wS {ts l : List Tok} (hr : Row ts) (h : Sfx ts l) : IntKind.i64.wrap (pcA ts l + 1) = pcA ts l.tail := by
 have := EV (l := l) hr; rw [CM h, IntWalk.i64_in _ (by omega)]
theorem BF {ts l : List Tok} (h : Sfx ts l) : bL Tryz.prog 101 (.sl (aC ts) .dead) (.v (.int .i64 (pcA ts l))) = some (.fp (hd l).c 0) := by
 obtain ⟨t, r, rfl⟩ := h.cons; obtain ⟨_, dn, rfl⟩ := h
 have e : pcA (dn ++ t :: r) (t :: r) = (dn.length : Int) := by simp only [pcA, au]; omega
 rw [e, Gl]
 have h1 : dD (dn.length : Int) (aC (dn ++ t :: r)).length = true := by rw [kz]; exact inR dn t r
 have h2 : (aC (dn ++ t :: r))[(dn.length : Int).toNat]? = some t.c := by simp [aC]
 rw [h1, h2]
 rfl
theorem aD {f : Nat} {args : List PV} {b : Nat} {c d : List PV} {x : PV} (h : ∀ X : St, b < X.stk.length → E L (.func f) args (X.af false b c) = some (x, X.af false b d)) {s : St} (hb : b < s.stk.length) (bl : List Blk) (tk : List (Nat × Nat)) (lp : List Aux) :
 E L (.func f) args ((s.af false b c).app bl tk lp) = some (x, (s.af false b d).app bl tk lp) := by
 rw [← bM bl tk lp hb, ← bM bl tk lp hb]; exact h _ (by rw [cC]; omega)
theorem dO {ts l : List Tok} (h : Sfx ts l) (d e q1 q2 : Int) {b : Nat} : ∀ X : St, b < X.stk.length → E L (.func 67) [.ptr false b 0] (X.af false b (pcf (aC ts) (pcA ts l) d e q1 q2)) = some (.agg (hd l).c, X.af false b (pcf (aC ts) (pcA ts l) d e q1 q2)) := by
 intro X hb; rw [F5]; obtain ⟨N, T, Lb, hN, hT, hL⟩ := lens3 X; rw [hN] at hb
 conv => lhs; rw [← ao (X.af false b (pcf (aC ts) (pcA ts l) d e q1 q2))]
 have hi := BF h
 generalize pcA ts l = a at *
 generalize aC ts = es at *
 generalize hd l = t at *
 simp only [Tok.c, bw] at hi ⊢; simp [S67, pcf, hN, hT, hL, hb, hi, laid, aJ]
theorem ll {ts l : List Tok} (hr : Row ts) (h : Sfx ts l) (d : Nat) {b : Nat} : ∀ X : St, b < X.stk.length → E L (.func 151) [.ptr false b 0] (X.af false b (pc ts l d)) = some (.agg (hd l).c, X.af false b (pc ts (dp l) d)) := by
 intro X hb; rw [D3]; obtain ⟨N, T, Lb, hN, hT, hL⟩ := lens3 X; rw [hN] at hb
 conv => lhs; rw [← ao (X.af false b (pc ts l d))]
 have hi := BF h; have hw := wS hr h; unfold pc dp
 by_cases hk : (hd l).kind = 0
 · rw [if_pos hk]
   generalize pcA ts l = a at *
   generalize aC ts = es at *
   generalize hd l = t at *
   simp only [Tok.c, bw, hk] at hi ⊢; simp [FT, pcf, hN, hT, hL, hb, hi, laid, aJ]
 · rw [if_neg hk]
   have hk' : ¬ (((hd l).kind : Int) = 0) := by omega
   generalize pcA ts l = a at *
   generalize pcA ts l.tail = a' at *
   generalize aC ts = es at *
   generalize hd l = t at *
   simp only [Tok.c, bw] at hi ⊢; simp [FT, pcf, hN, hT, hL, hb, hi, hk, hk', hw, laid, aJ]
theorem kc {ts l : List Tok} (h : Sfx ts l) (d e q1 q2 : Int) (w : List UInt8) {b : Nat} : ∀ X : St, b < X.stk.length → E L (.func 120) [.ptr false b 0, str w] (X.af false b (pcf (aC ts) (pcA ts l) d e q1 q2)) = some (.v (.bool (isT l w)), X.af false b (pcf (aC ts) (pcA ts l) d e q1 q2)) := by
 intro X hb; have e67 := aD (dO h d e q1 q2 (b := b)) hb; rw [DV]; obtain ⟨N, T, Lb, hN, hT, hL⟩ := lens3 X; rw [hN] at hb
 conv => lhs; rw [← ao (X.af false b (pcf (aC ts) (pcA ts l) d e q1 q2))]
 unfold isT
 generalize pcA ts l = a at *
 generalize aC ts = es at *
 generalize hd l = t at *
 simp only [Tok.c, bw, pcf] at e67
 by_cases h2 : t.kind = 2
 · simp [DU, pcf, hN, hT, hL, hb, e67, h2, laid, aJ]
 · have h2' : ¬ ((t.kind : Int) = 2) := by omega
   by_cases h5 : t.kind = 5
   · simp [DU, pcf, hN, hT, hL, hb, e67, h5, laid, aJ]
   · have h5' : ¬ ((t.kind : Int) = 5) := by omega
     simp [DU, pcf, hN, hT, hL, hb, e67, h2, h2', h5, h5', laid, aJ]
theorem aG {ts l : List Tok} (hr : Row ts) (h : Sfx ts l) (d : Nat) (w : List UInt8) {b : Nat} : ∀ X : St, b < X.stk.length → E L (.func 68) [.ptr false b 0, str w] (X.af false b (pc ts l d)) = some (.v (.bool (isT l w)), X.af false b (pc ts (if isT l w then l.tail else l) d)) := by
 intro X hb; have e120 := aD (kc h d 0 0 0 w (b := b)) hb; have hw := wS hr h; rw [F6]; obtain ⟨N, T, Lb, hN, hT, hL⟩ := lens3 X; rw [hN] at hb
 conv => lhs; rw [← ao (X.af false b (pc ts l d))]
 unfold pc
 cases hi : isT l w with
 | true =>
  rw [hi] at e120; simp only [if_true]
  generalize pcA ts l = a at *
  generalize pcA ts l.tail = a' at *
  simp only [pcf] at e120; simp [S68, pcf, hN, hT, hL, hb, e120, hw, laid, aJ]
 | false =>
  rw [hi] at e120; simp only [ab, if_false]
  generalize pcA ts l = a at *
  simp only [pcf] at e120; simp [S68, pcf, hN, hT, hL, hb, e120, laid, aJ]
theorem xX : je Tryz.prog 108 (.agg []) = some (.ifc 108 (.agg #[])) := by kernel_rfl
theorem vj {s : St} {bl : List Blk} {tk : List (Nat × Nat)} {lp : List Aux} {b off base sz : Nat} {old cs : List PV} (hb : b < s.stk.length) (ho : off + cs.length ≤ old.length) (hz : cs.length = sz) (h0 : sz ≠ 0) (hs : cs.all qV = true) (hk : aJ cs = true) :
 av base sz (.ptr false b off) (.agg cs) ((s.af false b old).app bl tk lp) = some ((s.af false b (laid old off cs)).app bl tk lp) := by
 have h1 : ((s.af false b old).app bl tk lp).blk false b = some old := by rw [np (by rw [cJ]; exact hb), vy old hb]
 have h2 : ∀ ds, ((s.af false b old).app bl tk lp).af false b ds = (s.af false b ds).app bl tk lp := fun ds => by rw [bM _ _ _ (by rw [cJ]; exact hb), set_set]
 have h3 : dB (off + cs.length) old.length = true := by rw [Nat.ble_eq]; exact ho
 have h5 : (ak cs.length sz && !ak sz 0) = true := by
  rw [hz, Nat.beq_refl]
  cases sz with
  | zero => exact absurd rfl h0
  | succ n => rfl
 simp only [av, AM.cellsOf, aj, putCells, h1, h3, hk, h5, bu, cond_true]
 cases gi b base <;> simp [kk hs, h2]
theorem oc (es : List (List PV)) (a d : Int) (e : Nat) (t : Tok) {b : Nat} : ∀ X : St, b < X.stk.length → E L (.func 74) [.ptr false b 0, .v (.int .i64 (e : Int)), .agg t.c] (X.af false b (pcf es a d 0 0 0)) = some (.pan 108 (.agg #[]), X.af false b (pcf es a d e t.p.1 t.p.2)) := by
 intro X hb; rw [F7]; obtain ⟨N, T, Lb, hN, hT, hL⟩ := lens3 X; rw [hN] at hb
 conv => lhs; rw [← ao (X.af false b (pcf es a d 0 0 0))]
 simp only [Tok.c, bw]; generalize (e : Int) = e'
 have hs : ∀ bl tk lp, av N 3 (.ptr false b 3) (.agg [.v (.int .i64 e'), .v (.int .i64 (t.p.1 : Int)), .v (.int .i64 (t.p.2 : Int))]) ((X.af false b (pcf es a d 0 0 0)).app bl tk lp) = some ((X.af false b (pcf es a d e' t.p.1 t.p.2)).app bl tk lp) := fun bl tk lp => vj (hN ▸ hb) (by simp) rfl (by omega) rfl rfl
 simp only [pcf] at hs; simp [S74, pcf, hN, hT, hL, hb, hs, xX, bq, cz, laid, aJ, uh]
def Rd {α : Type} (f : Nat) (args : List PV) (ts : List Tok) (d d' : Nat) (l : List Tok) (enc : α → PV) (x : PR α) : Prop := match x with
 | .ok a l' => Sfx ts l' ∧ ∀ b (X : St), b < X.stk.length → E L (.func f) (.ptr false b 0 :: args) (X.af false b (pc ts l d)) = some (enc a, X.af false b (pc ts l' d'))
 | .bad e q => ∃ a' d'', ∀ b (X : St), b < X.stk.length → E L (.func f) (.ptr false b 0 :: args) (X.af false b (pc ts l d)) = some (.pan 108 (.agg #[]), X.af false b (pcf (aC ts) a' d'' e q.1 q.2))
abbrev aM (t : Tok) : PV := .agg t.c
theorem eW {ts l : List Tok} (hr : Row ts) (h : Sfx ts l) (d : Nat) (w : List UInt8) : Rd 71 [str w] ts d d l aM (dm w l) := by
 have e67 := fun b X hb => aD (dO h d 0 0 0 (b := b)) (s := X) hb
 have e68 := fun b X hb => aD (aG hr h d w (b := b)) (s := X) hb
 unfold dm Rd
 cases hi : isT l w with
 | true =>
  rw [hi] at e68; simp only [if_true] at e68 ⊢; refine ⟨h.isT hr hi, fun b X hb => ?_⟩; have e67 := e67 b X hb; have e68 := e68 b X hb; rw [BA]; obtain ⟨N, T, Lb, hN, hT, hL⟩ := lens3 X; rw [hN] at hb
  conv => lhs; rw [← ao (X.af false b (pc ts l d))]
  simp only [pc, pcf, Tok.c, bw] at e67 e68 ⊢
  generalize hd l = t at *
  generalize pcA ts l = a at *
  generalize pcA ts l.tail = a' at *
  generalize aC ts = es at *
  simp [S71, pcf, hN, hT, hL, hb, e67, e68, laid, aJ]
 | false =>
  rw [hi] at e68; simp only [ab, if_false] at e68 ⊢; refine ⟨pcA ts l, d, fun b X hb => ?_⟩; have e67 := e67 b X hb; have e68 := e68 b X hb; have e74 := aD (oc (aC ts) (pcA ts l) d 4 (hd l) (b := b)) hb; rw [BA]; obtain ⟨N, T, Lb, hN, hT, hL⟩ := lens3 X; rw [hN] at hb
  conv => lhs; rw [← ao (X.af false b (pc ts l d))]
  simp only [pc, pcf, Tok.c, bw, aa] at e67 e68 e74 ⊢
  generalize hd l = t at *
  generalize pcA ts l = a at *
  generalize aC ts = es at *
  simp [S71, pcf, hN, hT, hL, hb, e67, e68, e74, laid, aJ, aV, fW]
theorem ik {ts l : List Tok} (hr : Row ts) (h : Sfx ts l) (d : Nat) (k : Nat) : Rd 121 [.v (.int .i64 (k : Int))] ts d d l aM (eg k l) := by
 have e67 := fun b X hb => aD (dO h d 0 0 0 (b := b)) (s := X) hb
 have e151 := fun b X hb => aD (ll hr h d (b := b)) (s := X) hb
 unfold eg Rd
 by_cases hk : (hd l).kind = k
 · rw [if_pos hk]
   refine ⟨h.next hr, fun b X hb => ?_⟩; have e67 := e67 b X hb; have e151 := e151 b X hb; rw [yQ]; obtain ⟨N, T, Lb, hN, hT, hL⟩ := lens3 X; rw [hN] at hb
   conv => lhs; rw [← ao (X.af false b (pc ts l d))]
   simp only [pc, pcf, Tok.c, bw, hk] at e67 e151 ⊢
   generalize hd l = t at *
   generalize pcA ts l = a at *
   generalize pcA ts (dp l) = a' at *
   generalize aC ts = es at *
   simp [FP, pcf, hN, hT, hL, hb, e67, e151, hk, laid, aJ]
 · rw [if_neg hk]
   refine ⟨pcA ts l, d, fun b X hb => ?_⟩; have e67 := e67 b X hb; have e74 := aD (oc (aC ts) (pcA ts l) d 4 (hd l) (b := b)) hb
   have hk' : ¬ (((hd l).kind : Int) = (k : Int)) := by omega
   rw [yQ]; obtain ⟨N, T, Lb, hN, hT, hL⟩ := lens3 X; rw [hN] at hb
   conv => lhs; rw [← ao (X.af false b (pc ts l d))]
   simp only [pc, pcf, Tok.c, bw, aa] at e67 e74 ⊢
   generalize hd l = t at *
   generalize pcA ts l = a at *
   generalize aC ts = es at *
   simp [FP, pcf, hN, hT, hL, hb, e67, e74, hk, hk', laid, aJ, aV, fW]
theorem uX {ts l : List Tok} (h : Sfx ts l) (d : Nat) (t : Tok) (hd : d < 1000) : Rd 123 [.agg t.c] ts d (d + 1) l (fun _ : Unit => .tup []) (if 12 < d + 1 then .bad 10 t.p else .ok () l) := by
 have hw : IntKind.i64.wrap ((d : Int) + 1) = ((d + 1 : Nat) : Int) := by rw [IntWalk.i64_in _ (by omega)]; omega
 unfold Rd
 by_cases hk : 12 < d + 1
 · rw [if_pos hk]
   refine ⟨pcA ts l, (d + 1 : Nat), fun b X hb => ?_⟩; have e74 := aD (oc (aC ts) (pcA ts l) (d + 1 : Nat) 10 t (b := b)) hb
   have hk' : (12 : Int) < ((d + 1 : Nat) : Int) := by omega
   rw [yR]; obtain ⟨N, T, Lb, hN, hT, hL⟩ := lens3 X; rw [hN] at hb
   conv => lhs; rw [← ao (X.af false b (pc ts l d))]
   simp only [pc, pcf, Tok.c, bw, aa] at e74 ⊢
   generalize pcA ts l = a at *
   generalize aC ts = es at *
   generalize ((d + 1 : Nat) : Int) = d1 at *
   simp [FQ, pcf, hN, hT, hL, hb, e74, hw, hk', laid, aJ, aV, fW]
 · rw [if_neg hk]
   refine ⟨h, fun b X hb => ?_⟩
   have hk' : ¬ ((12 : Int) < ((d + 1 : Nat) : Int)) := by omega
   rw [yR]; obtain ⟨N, T, Lb, hN, hT, hL⟩ := lens3 X; rw [hN] at hb
   conv => lhs; rw [← ao (X.af false b (pc ts l d))]
   simp only [pc, pcf, Tok.c, bw]
   generalize pcA ts l = a at *
   generalize aC ts = es at *
   generalize ((d + 1 : Nat) : Int) = d1 at *
   simp [FQ, pcf, hN, hT, hL, hb, hw, hk', laid, aJ, aV, fW]
abbrev gV : PV := .agg [str [43], str [45], str [42], str [47], str [37], str [61, 61], str [33, 61], str [60], str [60, 61]]
theorem jD : kA Tryz.prog 126 [(0, str [43]), (1, str [45]), (2, str [42]), (3, str [47]), (4, str [37]), (5, str [61, 61]), (6, str [33, 61]), (7, str [60]), (8, str [60, 61])] = some gV := by kernel_rfl
theorem zq (x0 x1 x2 x3 x4 x5 x6 x7 x8 : PV) : dG Tryz.prog 126 (.agg [x0, x1, x2, x3, x4, x5, x6, x7, x8]) (.v (.int .i64 0)) = some x0 := by kernel_rfl
theorem zs (x0 x1 x2 x3 x4 x5 x6 x7 x8 : PV) : dG Tryz.prog 126 (.agg [x0, x1, x2, x3, x4, x5, x6, x7, x8]) (.v (.int .i64 1)) = some x1 := by kernel_rfl
theorem zw (x0 x1 x2 x3 x4 x5 x6 x7 x8 : PV) : dG Tryz.prog 126 (.agg [x0, x1, x2, x3, x4, x5, x6, x7, x8]) (.v (.int .i64 2)) = some x2 := by kernel_rfl
theorem zA (x0 x1 x2 x3 x4 x5 x6 x7 x8 : PV) : dG Tryz.prog 126 (.agg [x0, x1, x2, x3, x4, x5, x6, x7, x8]) (.v (.int .i64 3)) = some x3 := by kernel_rfl
theorem zC (x0 x1 x2 x3 x4 x5 x6 x7 x8 : PV) : dG Tryz.prog 126 (.agg [x0, x1, x2, x3, x4, x5, x6, x7, x8]) (.v (.int .i64 4)) = some x4 := by kernel_rfl
theorem zD (x0 x1 x2 x3 x4 x5 x6 x7 x8 : PV) : dG Tryz.prog 126 (.agg [x0, x1, x2, x3, x4, x5, x6, x7, x8]) (.v (.int .i64 5)) = some x5 := by kernel_rfl
theorem zE (x0 x1 x2 x3 x4 x5 x6 x7 x8 : PV) : dG Tryz.prog 126 (.agg [x0, x1, x2, x3, x4, x5, x6, x7, x8]) (.v (.int .i64 6)) = some x6 := by kernel_rfl
theorem zF (x0 x1 x2 x3 x4 x5 x6 x7 x8 : PV) : dG Tryz.prog 126 (.agg [x0, x1, x2, x3, x4, x5, x6, x7, x8]) (.v (.int .i64 7)) = some x7 := by kernel_rfl
theorem zG (x0 x1 x2 x3 x4 x5 x6 x7 x8 : PV) : dG Tryz.prog 126 (.agg [x0, x1, x2, x3, x4, x5, x6, x7, x8]) (.v (.int .i64 8)) = some x8 := by kernel_rfl
theorem Ge (w : List UInt8) (X : St) : E L (.func 189) [str w] X = some (.v (.int .i64 (vU w)), X) := by
 rw [D8]; obtain ⟨N, T, Lb, hN, hT, hL⟩ := lens3 X
 conv => lhs; rw [← ao (X)]
 have s0 : w ≠ [43] → itE (fc.b0 (E L) itE N Lb) [str w, .v (.int .i64 0), gV, .v (.int .i64 0)] (X.app [] [] []) = itE (fc.b0 (E L) itE N Lb) [str w, .v (.int .i64 0), gV, .v (.int .i64 1)] (X.app [] [] []) := fun h => cd (by simp [fc.b0, hN, hT, hL, zq, h, Ne.symm h, IntWalk.i64_in])
 have h0 : w = [43] → itE (fc.b0 (E L) itE N Lb) [str w, .v (.int .i64 0), gV, .v (.int .i64 0)] (X.app [] [] []) = some (.ret, [str w, .v (.int .i64 0), gV, .v (.int .i64 0)], X.app [] [] []) := fun h => eZ (by subst h; simp [fc.b0, hN, hT, hL, zq])
 have s1 : w ≠ [45] → itE (fc.b0 (E L) itE N Lb) [str w, .v (.int .i64 0), gV, .v (.int .i64 1)] (X.app [] [] []) = itE (fc.b0 (E L) itE N Lb) [str w, .v (.int .i64 0), gV, .v (.int .i64 2)] (X.app [] [] []) := fun h => cd (by simp [fc.b0, hN, hT, hL, zs, h, Ne.symm h, IntWalk.i64_in])
 have h1 : w = [45] → itE (fc.b0 (E L) itE N Lb) [str w, .v (.int .i64 0), gV, .v (.int .i64 1)] (X.app [] [] []) = some (.ret, [str w, .v (.int .i64 1), gV, .v (.int .i64 1)], X.app [] [] []) := fun h => eZ (by subst h; simp [fc.b0, hN, hT, hL, zs])
 have s2 : w ≠ [42] → itE (fc.b0 (E L) itE N Lb) [str w, .v (.int .i64 0), gV, .v (.int .i64 2)] (X.app [] [] []) = itE (fc.b0 (E L) itE N Lb) [str w, .v (.int .i64 0), gV, .v (.int .i64 3)] (X.app [] [] []) := fun h => cd (by simp [fc.b0, hN, hT, hL, zw, h, Ne.symm h, IntWalk.i64_in])
 have h2 : w = [42] → itE (fc.b0 (E L) itE N Lb) [str w, .v (.int .i64 0), gV, .v (.int .i64 2)] (X.app [] [] []) = some (.ret, [str w, .v (.int .i64 2), gV, .v (.int .i64 2)], X.app [] [] []) := fun h => eZ (by subst h; simp [fc.b0, hN, hT, hL, zw])
 have s3 : w ≠ [47] → itE (fc.b0 (E L) itE N Lb) [str w, .v (.int .i64 0), gV, .v (.int .i64 3)] (X.app [] [] []) = itE (fc.b0 (E L) itE N Lb) [str w, .v (.int .i64 0), gV, .v (.int .i64 4)] (X.app [] [] []) := fun h => cd (by simp [fc.b0, hN, hT, hL, zA, h, Ne.symm h, IntWalk.i64_in])
 have h3 : w = [47] → itE (fc.b0 (E L) itE N Lb) [str w, .v (.int .i64 0), gV, .v (.int .i64 3)] (X.app [] [] []) = some (.ret, [str w, .v (.int .i64 3), gV, .v (.int .i64 3)], X.app [] [] []) := fun h => eZ (by subst h; simp [fc.b0, hN, hT, hL, zA])
 have s4 : w ≠ [37] → itE (fc.b0 (E L) itE N Lb) [str w, .v (.int .i64 0), gV, .v (.int .i64 4)] (X.app [] [] []) = itE (fc.b0 (E L) itE N Lb) [str w, .v (.int .i64 0), gV, .v (.int .i64 5)] (X.app [] [] []) := fun h => cd (by simp [fc.b0, hN, hT, hL, zC, h, Ne.symm h, IntWalk.i64_in])
 have h4 : w = [37] → itE (fc.b0 (E L) itE N Lb) [str w, .v (.int .i64 0), gV, .v (.int .i64 4)] (X.app [] [] []) = some (.ret, [str w, .v (.int .i64 4), gV, .v (.int .i64 4)], X.app [] [] []) := fun h => eZ (by subst h; simp [fc.b0, hN, hT, hL, zC])
 have s5 : w ≠ [61, 61] → itE (fc.b0 (E L) itE N Lb) [str w, .v (.int .i64 0), gV, .v (.int .i64 5)] (X.app [] [] []) = itE (fc.b0 (E L) itE N Lb) [str w, .v (.int .i64 0), gV, .v (.int .i64 6)] (X.app [] [] []) := fun h => cd (by simp [fc.b0, hN, hT, hL, zD, h, Ne.symm h, IntWalk.i64_in])
 have h5 : w = [61, 61] → itE (fc.b0 (E L) itE N Lb) [str w, .v (.int .i64 0), gV, .v (.int .i64 5)] (X.app [] [] []) = some (.ret, [str w, .v (.int .i64 5), gV, .v (.int .i64 5)], X.app [] [] []) := fun h => eZ (by subst h; simp [fc.b0, hN, hT, hL, zD])
 have s6 : w ≠ [33, 61] → itE (fc.b0 (E L) itE N Lb) [str w, .v (.int .i64 0), gV, .v (.int .i64 6)] (X.app [] [] []) = itE (fc.b0 (E L) itE N Lb) [str w, .v (.int .i64 0), gV, .v (.int .i64 7)] (X.app [] [] []) := fun h => cd (by simp [fc.b0, hN, hT, hL, zE, h, Ne.symm h, IntWalk.i64_in])
 have h6 : w = [33, 61] → itE (fc.b0 (E L) itE N Lb) [str w, .v (.int .i64 0), gV, .v (.int .i64 6)] (X.app [] [] []) = some (.ret, [str w, .v (.int .i64 6), gV, .v (.int .i64 6)], X.app [] [] []) := fun h => eZ (by subst h; simp [fc.b0, hN, hT, hL, zE])
 have s7 : w ≠ [60] → itE (fc.b0 (E L) itE N Lb) [str w, .v (.int .i64 0), gV, .v (.int .i64 7)] (X.app [] [] []) = itE (fc.b0 (E L) itE N Lb) [str w, .v (.int .i64 0), gV, .v (.int .i64 8)] (X.app [] [] []) := fun h => cd (by simp [fc.b0, hN, hT, hL, zF, h, Ne.symm h, IntWalk.i64_in])
 have h7 : w = [60] → itE (fc.b0 (E L) itE N Lb) [str w, .v (.int .i64 0), gV, .v (.int .i64 7)] (X.app [] [] []) = some (.ret, [str w, .v (.int .i64 7), gV, .v (.int .i64 7)], X.app [] [] []) := fun h => eZ (by subst h; simp [fc.b0, hN, hT, hL, zF])
 have s8 : w ≠ [60, 61] → itE (fc.b0 (E L) itE N Lb) [str w, .v (.int .i64 0), gV, .v (.int .i64 8)] (X.app [] [] []) = itE (fc.b0 (E L) itE N Lb) [str w, .v (.int .i64 0), gV, .v (.int .i64 9)] (X.app [] [] []) := fun h => cd (by simp [fc.b0, hN, hT, hL, zG, h, Ne.symm h, IntWalk.i64_in])
 have h8 : w = [60, 61] → itE (fc.b0 (E L) itE N Lb) [str w, .v (.int .i64 0), gV, .v (.int .i64 8)] (X.app [] [] []) = some (.ret, [str w, .v (.int .i64 8), gV, .v (.int .i64 8)], X.app [] [] []) := fun h => eZ (by subst h; simp [fc.b0, hN, hT, hL, zG])
 have s9 : itE (fc.b0 (E L) itE N Lb) [str w, .v (.int .i64 0), gV, .v (.int .i64 9)] (X.app [] [] []) = some (.exit 0, [str w, .v (.int .i64 0), gV, .v (.int .i64 9)], X.app [] [] []) := iS (by simp [fc.b0, hN, hT, hL]); unfold vU
 by_cases g0 : w = [43]
 · rw [if_pos g0]
   have e := h0 g0; simp [fc, hN, hT, hL, jD, e]
 rw [if_neg g0]
 by_cases g1 : w = [45]
 · rw [if_pos g1]
   have e := h1 g1; rw [← s0 g0] at e; simp [fc, hN, hT, hL, jD, e]
 rw [if_neg g1]
 by_cases g2 : w = [42]
 · rw [if_pos g2]
   have e := h2 g2; rw [← s1 g1, ← s0 g0] at e; simp [fc, hN, hT, hL, jD, e]
 rw [if_neg g2]
 by_cases g3 : w = [47]
 · rw [if_pos g3]
   have e := h3 g3; rw [← s2 g2, ← s1 g1, ← s0 g0] at e; simp [fc, hN, hT, hL, jD, e]
 rw [if_neg g3]
 by_cases g4 : w = [37]
 · rw [if_pos g4]
   have e := h4 g4; rw [← s3 g3, ← s2 g2, ← s1 g1, ← s0 g0] at e; simp [fc, hN, hT, hL, jD, e]
 rw [if_neg g4]
 by_cases g5 : w = [61, 61]
 · rw [if_pos g5]
   have e := h5 g5; rw [← s4 g4, ← s3 g3, ← s2 g2, ← s1 g1, ← s0 g0] at e; simp [fc, hN, hT, hL, jD, e]
 rw [if_neg g5]
 by_cases g6 : w = [33, 61]
 · rw [if_pos g6]
   have e := h6 g6; rw [← s5 g5, ← s4 g4, ← s3 g3, ← s2 g2, ← s1 g1, ← s0 g0] at e; simp [fc, hN, hT, hL, jD, e]
 rw [if_neg g6]
 by_cases g7 : w = [60]
 · rw [if_pos g7]
   have e := h7 g7; rw [← s6 g6, ← s5 g5, ← s4 g4, ← s3 g3, ← s2 g2, ← s1 g1, ← s0 g0] at e; simp [fc, hN, hT, hL, jD, e]
 rw [if_neg g7]
 by_cases g8 : w = [60, 61]
 · rw [if_pos g8]
   have e := h8 g8; rw [← s7 g7, ← s6 g6, ← s5 g5, ← s4 g4, ← s3 g3, ← s2 g2, ← s1 g1, ← s0 g0] at e; simp [fc, hN, hT, hL, jD, e]
 rw [if_neg g8]; have e := s9; rw [← s8 g8, ← s7 g7, ← s6 g6, ← s5 g5, ← s4 g4, ← s3 g3, ← s2 g2, ← s1 g1, ← s0 g0] at e; simp [fc, hN, hT, hL, jD, e]
theorem uS : kA Tryz.prog 198 [(0, str [32, 61, 61, 32, 33, 61, 32, 60, 32, 60, 61, 32]), (1, str [32, 43, 32, 45, 32]), (2, str [32, 42, 32, 47, 32, 37, 32])] = some (.agg [str [32, 61, 61, 32, 33, 61, 32, 60, 32, 60, 61, 32], str [32, 43, 32, 45, 32], str [32, 42, 32, 47, 32, 37, 32]]) := by kernel_rfl
theorem C6 (lv : Nat) (h : lv < 3) (X : St) : E L (.func 188) [.v (.int .i64 (lv : Int))] X = some (str (32 :: iZ (ig lv)), X) := by
 rw [D7]; obtain ⟨N, T, Lb, hN, hT, hL⟩ := lens3 X
 conv => lhs; rw [← ao (X)]
 obtain rfl | rfl | rfl : lv = 0 ∨ lv = 1 ∨ lv = 2 := by omega
 · simp [D6, hN, hT, hL, uS, zr, ig, iZ]
 · simp [D6, hN, hT, hL, uS, zt, ig, iZ]
 · simp [D6, hN, hT, hL, uS, zx, ig, iZ]
theorem AY {lv : Nat} {w : List UInt8} (hw : ∀ c ∈ w, c ≠ 32) : Lib.contains (32 :: iZ (ig lv)) (32 :: (w ++ [32])) = (ig lv).contains w := by
 refine kD hw _ ?_; unfold ig
 split <;> decide
theorem Dn (w : List UInt8) (X : St) : E L (.func 197) [str w] X = some (.v (.int .i64 (if w = [45] then 6 else if w = [114, 101, 97, 108] then 7 else if w = [116, 114, 117, 110, 99] then 8 else 0)), X) := by
 rw [D9]; obtain ⟨N, T, Lb, hN, hT, hL⟩ := lens3 X
 conv => lhs; rw [← ao (X)]
 by_cases h1 : w = [45]
 · simp [By, hN, hT, hL, h1]
 · by_cases h2 : w = [114, 101, 97, 108]
   · simp [By, hN, hT, hL, h2]
   · by_cases h3 : w = [116, 114, 117, 110, 99]
     · simp [By, hN, hT, hL, h3]
     · simp [By, hN, hT, hL, h1, h2, h3]
abbrev iM (t : Ty2) : PV := .agg [.v (.int .i64 t.kd), .v (.string t.rc)]
abbrev iL (x : Nm) : PV := .agg [.v (.string x.name), .v (.int .i64 x.ty.kd), .v (.string x.ty.rc), .v (.int .i64 x.line), .v (.int .i64 x.col)]
abbrev tv : PV := .agg [str [], str [105, 110, 116], str [114, 101, 97, 108], str [105, 110, 116, 115]]
theorem px : kA Tryz.prog 199 [(0, str []), (1, str [105, 110, 116]), (2, str [114, 101, 97, 108]), (3, str [105, 110, 116, 115])] = some tv := by kernel_rfl
theorem aT {α : Type} {f : Nat} {args : List PV} {ts : List Tok} {d d' : Nat} {l : List Tok} {enc : α → PV} {x : PR α} {a : α} {l' : List Tok} (h : Rd f args ts d d' l enc x) (hx : x = .ok a l') {b : Nat} {s : St} (hb : b < s.stk.length) : ∀ (bl : List Blk) (tk : List (Nat × Nat)) (lp : List Aux),
 E L (.func f) (.ptr false b 0 :: args) ((s.af false b (pc ts l d)).app bl tk lp) = some (enc a, (s.af false b (pc ts l' d')).app bl tk lp) := by
 subst hx
 exact fun bl tk lp => aD (h.2 b) hb bl tk lp
theorem bH {α : Type} {f : Nat} {args : List PV} {ts : List Tok} {d d' : Nat} {l : List Tok} {enc : α → PV} {x : PR α} {a : α} {l' : List Tok} (h : Rd f args ts d d' l enc x) (hx : x = .ok a l') : Sfx ts l' := by
 subst hx; exact h.1
theorem bC {α : Type} {f : Nat} {args : List PV} {ts : List Tok} {d d' : Nat} {l : List Tok} {enc : α → PV} {x : PR α} {e : Nat} {q : Nat × Nat} (h : Rd f args ts d d' l enc x) (hx : x = .bad e q) : ∃ a' d'', ∀ {b : Nat} {s : St} (hb : b < s.stk.length) (bl : List Blk) (tk : List (Nat × Nat)) (lp : List Aux),
 E L (.func f) (.ptr false b 0 :: args) ((s.af false b (pc ts l d)).app bl tk lp) = some (.pan 108 (.agg #[]), (s.af false b (pcf (aC ts) a' d'' e q.1 q.2)).app bl tk lp) := by
 subst hx; obtain ⟨a', d'', h⟩ := h; exact ⟨a', d'', fun hb bl tk lp => aD (h _) hb bl tk lp⟩
theorem GH {ts l : List Tok} (hr : Row ts) (h : Sfx ts l) (d : Nat) : Rd 122 [] ts d d l iM (rK l) := by
 have e68 := fun b (X : St) hb (w : List UInt8) => aD (aG hr h d w (b := b)) (s := X) hb
 have run : ∀ b (X : St), b < X.stk.length → ∀ N T Lb, X.stk.length = N → X.tk.length = T → X.lp.length = Lb →
  itE (nh.b0 (E L) itE N Lb) [.ptr false b 0, .ptr false N 0, tv, .v (.int .i64 0)] ((X.af false b (pc ts l d)).app [⟨[.v (.int .i64 0), str []], []⟩] [] []) =
   if isT l [105, 110, 116] then some (.ret, [.ptr false b 0, .ptr false N 0, tv, .v (.int .i64 1)], (X.af false b (pc ts l.tail d)).app [⟨[.v (.int .i64 1), str []], []⟩] [] []) else
   if isT l [114, 101, 97, 108] then some (.ret, [.ptr false b 0, .ptr false N 0, tv, .v (.int .i64 2)], (X.af false b (pc ts l.tail d)).app [⟨[.v (.int .i64 2), str []], []⟩] [] []) else
   if isT l [105, 110, 116, 115] then some (.ret, [.ptr false b 0, .ptr false N 0, tv, .v (.int .i64 3)], (X.af false b (pc ts l.tail d)).app [⟨[.v (.int .i64 3), str []], []⟩] [] []) else
   some (.exit 0, [.ptr false b 0, .ptr false N 0, tv, .v (.int .i64 4)], (X.af false b (pc ts l d)).app [⟨[.v (.int .i64 0), str []], []⟩] [] []) := by
  intro b X hb N T Lb hN hT hL; have e1 := e68 b X hb [105, 110, 116]; have e2 := e68 b X hb [114, 101, 97, 108]; have e3 := e68 b X hb [105, 110, 116, 115]; rw [hN] at hb; simp only [pc, pcf] at e1 e2 e3 ⊢; have w1 : IntKind.i64.wrap 1 = 1 := rfl; have w2 : IntKind.i64.wrap 2 = 2 := rfl; have w3 : IntKind.i64.wrap 3 = 3 := rfl; have w4 : IntKind.i64.wrap 4 = 4 := rfl; rw [cd (vs' := [.ptr false b 0, .ptr false N 0, tv, .v (.int .i64 1)]) (st' := (X.af false b (pc ts l d)).app [⟨[.v (.int .i64 0), str []], []⟩] [] []) (by simp [nh.b0, pc, pcf, hN, hT, hL, hb, EF, w1, bq, cz, laid, aJ])]
  cases h1 : isT l [105, 110, 116] with
  | true =>
   rw [h1] at e1; simp only [if_true] at e1 ⊢; exact eZ (by simp [nh.b0, pc, pcf, hN, hT, hL, hb, zu, e1, bq, cz, laid, aJ])
  | false =>
   rw [h1] at e1; simp only [ab, if_false] at e1 ⊢; rw [cd (vs' := [.ptr false b 0, .ptr false N 0, tv, .v (.int .i64 2)]) (st' := (X.af false b (pc ts l d)).app [⟨[.v (.int .i64 0), str []], []⟩] [] []) (by simp [nh.b0, pc, pcf, hN, hT, hL, hb, zu, e1, w2, bq, cz, laid, aJ])]
   cases h2 : isT l [114, 101, 97, 108] with
   | true =>
    rw [h2] at e2; simp only [if_true] at e2 ⊢; exact eZ (by simp [nh.b0, pc, pcf, hN, hT, hL, hb, zy, e2, bq, cz, laid, aJ])
   | false =>
    rw [h2] at e2; simp only [ab, if_false] at e2 ⊢; rw [cd (vs' := [.ptr false b 0, .ptr false N 0, tv, .v (.int .i64 3)]) (st' := (X.af false b (pc ts l d)).app [⟨[.v (.int .i64 0), str []], []⟩] [] []) (by simp [nh.b0, pc, pcf, hN, hT, hL, hb, zy, e2, w3, bq, cz, laid, aJ])]
    cases h3 : isT l [105, 110, 116, 115] with
    | true =>
     rw [h3] at e3; simp only [if_true] at e3 ⊢; exact eZ (by simp [nh.b0, pc, pcf, hN, hT, hL, hb, zB, e3, bq, cz, laid, aJ])
    | false =>
     rw [h3] at e3; simp only [ab, if_false] at e3 ⊢; rw [cd (vs' := [.ptr false b 0, .ptr false N 0, tv, .v (.int .i64 4)]) (st' := (X.af false b (pc ts l d)).app [⟨[.v (.int .i64 0), str []], []⟩] [] []) (by simp [nh.b0, pc, pcf, hN, hT, hL, hb, zB, e3, w4, bq, cz, laid, aJ])]; exact iS (by simp [nh.b0, pc, pcf, hN, hT, hL, hb])
 have hk := ik hr h d 1; unfold rK
 cases h1 : isT l [105, 110, 116] with
 | true =>
  simp only [if_true]; refine ⟨h.isT hr h1, fun b X hb => ?_⟩; have e := run b X hb _ _ _ rfl rfl rfl; rw [h1] at e; rw [o9]; obtain ⟨N, T, Lb, hN, hT, hL⟩ := lens3 X; rw [hN] at hb; rw [hN] at e
  conv => lhs; rw [← ao (X.af false b (pc ts l d))]
  simp only [if_true, pc, pcf, hT, hL] at e ⊢; simp [nh, pcf, hN, hT, hL, hb, px, e, laid, aJ]
 | false =>
  simp only [ab, if_false]
  cases h2 : isT l [114, 101, 97, 108] with
  | true =>
   simp only [if_true]; refine ⟨h.isT hr h2, fun b X hb => ?_⟩; have e := run b X hb _ _ _ rfl rfl rfl; rw [h1, h2] at e; rw [o9]; obtain ⟨N, T, Lb, hN, hT, hL⟩ := lens3 X; rw [hN] at hb; rw [hN] at e
   conv => lhs; rw [← ao (X.af false b (pc ts l d))]
   simp only [if_true, ab, if_false, pc, pcf, hT, hL] at e ⊢; simp [nh, pcf, hN, hT, hL, hb, px, e, laid, aJ]
  | false =>
   simp only [ab, if_false]
   cases h3 : isT l [105, 110, 116, 115] with
   | true =>
    simp only [if_true]; refine ⟨h.isT hr h3, fun b X hb => ?_⟩; have e := run b X hb _ _ _ rfl rfl rfl; rw [h1, h2, h3] at e; rw [o9]; obtain ⟨N, T, Lb, hN, hT, hL⟩ := lens3 X; rw [hN] at hb; rw [hN] at e
    conv => lhs; rw [← ao (X.af false b (pc ts l d))]
    simp only [if_true, ab, if_false, pc, pcf, hT, hL] at e ⊢; simp [nh, pcf, hN, hT, hL, hb, px, e, laid, aJ]
   | false =>
    simp only [ab, if_false]
    cases hx : eg 1 l with
    | ok u l' =>
     refine ⟨bH hk hx, fun b X hb => ?_⟩; have e := run b X hb _ _ _ rfl rfl rfl; have ek := aT hk hx hb; rw [h1, h2, h3] at e; rw [o9]; obtain ⟨N, T, Lb, hN, hT, hL⟩ := lens3 X; rw [hN] at hb; rw [hN] at e
     conv => lhs; rw [← ao (X.af false b (pc ts l d))]
     simp only [ab, if_false, pc, pcf, hT, hL, aM, Tok.c, bw, aa] at e ek ⊢; simp [nh, pcf, hN, hT, hL, hb, px, e, ek, od, bq, cz, laid, aJ, aV]
    | bad e0 q =>
     obtain ⟨a', d'', ek⟩ := bC hk hx; refine ⟨a', d'', fun b X hb => ?_⟩; have e := run b X hb _ _ _ rfl rfl rfl; have ek := ek hb; rw [h1, h2, h3] at e; rw [o9]; obtain ⟨N, T, Lb, hN, hT, hL⟩ := lens3 X; rw [hN] at hb; rw [hN] at e
     conv => lhs; rw [← ao (X.af false b (pc ts l d))]
     simp only [ab, if_false, pc, pcf, hT, hL, aa] at e ek ⊢; simp [nh, pcf, hN, hT, hL, hb, px, e, ek, aV]
theorem wy {ts l : List Tok} (hr : Row ts) (h : Sfx ts l) (d : Nat) : ∀ b (X : St), b < X.stk.length → E L (.func 158) [.ptr false b 0] (X.af false b (pc ts l d)) = some (.v (.string (eO l).1), X.af false b (pc ts (eO l).2 d)) := by
 intro b X hb; have e67 := aD (dO h d 0 0 0 (b := b)) hb; have e151 := aD (ll hr h d (b := b)) hb; unfold eO
 by_cases hk : (hd l).kind = 1
 · rw [if_pos hk]
   rw [yU]; obtain ⟨N, T, Lb, hN, hT, hL⟩ := lens3 X; rw [hN] at hb
   conv => lhs; rw [← ao (X.af false b (pc ts l d))]
   simp only [pc, pcf, Tok.c, bw, hk, aa] at e67 e151 ⊢; simp [FV, pcf, hN, hT, hL, hb, e67, e151, tX, od]
 · rw [if_neg hk]
   have hk' : ¬ (((hd l).kind : Int) = 1) := by omega
   rw [yU]; obtain ⟨N, T, Lb, hN, hT, hL⟩ := lens3 X; rw [hN] at hb
   conv => lhs; rw [← ao (X.af false b (pc ts l d))]
   simp only [pc, pcf, Tok.c, bw] at e67 ⊢; simp [FV, pcf, hN, hT, hL, hb, e67, hk', tX, od]
theorem cG {α β : Type} {y : PR α} {a : α} {l' : List Tok} {K : α → List Tok → Option (PR β)} {x : PR β} (hx : pb (some y) K = some x) (hy : y = .ok a l') : K a l' = some x := by subst hy; exact hx
theorem bS {α β : Type} {y : PR α} {e : Nat} {q : Nat × Nat} {K : α → List Tok → Option (PR β)} {x : PR β} (hx : pb (some y) K = some x) (hy : y = .bad e q) : x = .bad e q := by subst hy; exact (Option.some.inj hx).symm
theorem dF {α β : Type} {y : Option (PR α)} {K : α → List Tok → Option (PR β)} {x : PR β} (hx : pb y K = some x) : ∃ z, y = some z := by
 cases y with
 | none => cases hx
 | some z => exact ⟨z, rfl⟩
theorem sJ {ts l : List Tok} (hr : Row ts) (h : Sfx ts l) (d : Nat) {x : PR Nm} (hx : kR l = some x) : Rd 70 [] ts d d l iL x := by
 unfold kR at hx; have h1 := ik hr h d 1
 cases x1 : eg 1 l with
 | bad e q =>
  obtain rfl := bS hx x1; obtain ⟨a', d'', e1⟩ := bC h1 x1; refine ⟨a', d'', fun b X hb => ?_⟩; have e1 := e1 hb; rw [uK]; obtain ⟨N, T, Lb, hN, hT, hL⟩ := lens3 X; rw [hN] at hb
  conv => lhs; rw [← ao (X.af false b (pc ts l d))]
  simp only [pc, pcf, aM, Tok.c, bw, aa, iL, iM] at e1 ⊢
  generalize aC ts = es at *
  simp [S70, hN, hT, hL, hb, e1]
 | ok t l1 =>
  have hx := cG hx x1; have s1 := bH h1 x1; have h2 := eW hr s1 d [58]
  cases x2 : dm [58] l1 with
  | bad e q =>
   obtain rfl := bS hx x2; obtain ⟨a', d'', e2⟩ := bC h2 x2; refine ⟨a', d'', fun b X hb => ?_⟩; have e2 := e2 hb; have e1 := aT h1 x1 hb; rw [uK]; obtain ⟨N, T, Lb, hN, hT, hL⟩ := lens3 X; rw [hN] at hb
   conv => lhs; rw [← ao (X.af false b (pc ts l d))]
   simp only [pc, pcf, aM, Tok.c, bw, aa, iL, iM] at e1 e2 ⊢
   generalize aC ts = es at *
   simp [S70, hN, hT, hL, hb, e1, e2]
  | ok u l2 =>
   have hx := cG hx x2; have s2 := bH h2 x2; have h3 := GH hr s2 d
   cases x3 : rK l2 with
   | bad e q =>
    obtain rfl := bS hx x3; obtain ⟨a', d'', e3⟩ := bC h3 x3; refine ⟨a', d'', fun b X hb => ?_⟩; have e3 := e3 hb; have e1 := aT h1 x1 hb; have e2 := aT h2 x2 hb; rw [uK]; obtain ⟨N, T, Lb, hN, hT, hL⟩ := lens3 X; rw [hN] at hb
    conv => lhs; rw [← ao (X.af false b (pc ts l d))]
    simp only [pc, pcf, aM, Tok.c, bw, aa, iL, iM] at e1 e2 e3 ⊢
    generalize aC ts = es at *
    simp [S70, hN, hT, hL, hb, e1, e2, e3]
   | ok ty l3 =>
    obtain rfl := Option.some.inj (cG hx x3); refine ⟨bH h3 x3, fun b X hb => ?_⟩; have e1 := aT h1 x1 hb; have e2 := aT h2 x2 hb; have e3 := aT h3 x3 hb; rw [uK]; obtain ⟨N, T, Lb, hN, hT, hL⟩ := lens3 X; rw [hN] at hb
    conv => lhs; rw [← ao (X.af false b (pc ts l d))]
    simp only [pc, pcf, aM, Tok.c, bw, aa, iL, iM] at e1 e2 e3 ⊢
    generalize aC ts = es at *
    simp [S70, hN, hT, hL, hb, e1, e2, e3]
abbrev cq (x : X) : PV := .agg x.enc
abbrev z9 : List PV := [.v (.int .i64 0), .v (.int .i64 0), .v (.int .u64 0), .v (.int .i64 0), str [], str [], .sl [] .nil, .v (.int .i64 0), .v (.int .i64 0)]
theorem nV (x : X) : x.enc.take 9 = x.enc := List.take_of_length_le (by rw [X.len]; omega)
structure nc (ts : List Tok) (n : Nat) : Prop where
 atom : ∀ d l x, d ≤ 12 → Sfx ts l → jt n d l = some x → Rd 198 [] ts d d l cq x
 pre : ∀ d l x, d ≤ 12 → Sfx ts l → gf n d l = some x → Rd 187 [] ts d d l cq x
 chain : ∀ lv d l x, lv ≤ 3 → d ≤ 12 → Sfx ts l → dT n lv d l = some x → Rd 173 [.v (.int .i64 (lv : Int))] ts d d l cq x
section
variable {ts : List Tok} (hr : Row ts) {n : Nat} (ih : nc ts n)
include hr ih
theorem lh {d : Nat} {l : List Tok} {x : PR X} (hd12 : d ≤ 12) (h : Sfx ts l) (hx : dT n 0 d l = some x) : Rd 157 [] ts d d l cq x := by
 have h1 := ih.chain 0 d l x (by omega) hd12 h hx
 cases x with
 | bad e q =>
  obtain ⟨a', d'', e1⟩ := bC h1 rfl; refine ⟨a', d'', fun b Y hb => ?_⟩; have e1 := e1 hb; rw [yT]; obtain ⟨N, T, Lb, hN, hT, hL⟩ := lens3 Y; rw [hN] at hb
  conv => lhs; rw [← ao (Y.af false b (pc ts l d))]
  simp only [pc, pcf, Int.natCast_zero] at e1 ⊢
  generalize aC ts = es at *
  simp [FU, hN, hT, hL, hb, e1]
 | ok a l' =>
  refine ⟨bH h1 rfl, fun b Y hb => ?_⟩; have e1 := aT h1 rfl hb; rw [yT]; obtain ⟨N, T, Lb, hN, hT, hL⟩ := lens3 Y; rw [hN] at hb
  conv => lhs; rw [← ao (Y.af false b (pc ts l d))]
  simp only [pc, pcf, cq, Int.natCast_zero] at e1 ⊢
  generalize aC ts = es at *
  simp [FU, hN, hT, hL, hb, e1, X.len, nV, X.okc, X.can, X.lD, X.fl, iw]
theorem Ef : ∀ d l x, d ≤ 12 → Sfx ts l → jt (n + 1) d l = some x → Rd 198 [] ts d d l cq x := by
 intro d l x hd12 h hx; have s1 := h.next hr
 have e151 := fun b (Y : St) hb => aD (ll hr h d (b := b)) (s := Y) hb
 simp only [jt] at hx
 by_cases k3 : (hd l).kind = 3
 · rw [if_pos k3] at hx
   obtain rfl := Option.some.inj hx; refine ⟨s1, fun b Y hb => ?_⟩; have e151 := e151 b Y hb; rw [iE]; obtain ⟨N, T, Lb, hN, hT, hL⟩ := lens3 Y; rw [hN] at hb
   conv => lhs; rw [← ao (Y.af false b (pc ts l d))]
   simp only [pc, pcf, cq, atX, Tok.c, bw, aa] at e151 ⊢
   generalize hd l = t at *
   generalize aC ts = es at *
   simp [ot, hN, hT, hL, hb, e151, k3, X.enc, ep]
 rw [if_neg k3] at hx
 have k3' : ¬ (((hd l).kind : Int) = 3) := by omega
 by_cases k4 : (hd l).kind = 4
 · rw [if_pos k4] at hx
   obtain rfl := Option.some.inj hx; refine ⟨s1, fun b Y hb => ?_⟩; have e151 := e151 b Y hb; rw [iE]; obtain ⟨N, T, Lb, hN, hT, hL⟩ := lens3 Y; rw [hN] at hb
   conv => lhs; rw [← ao (Y.af false b (pc ts l d))]
   simp only [pc, pcf, cq, atX, Tok.c, bw, aa] at e151 ⊢
   generalize hd l = t at *
   generalize aC ts = es at *
   simp [ot, hN, hT, hL, hb, e151, k4, X.enc, ep]
 rw [if_neg k4] at hx
 have k4' : ¬ (((hd l).kind : Int) = 4) := by omega
 by_cases k1 : (hd l).kind = 1
 · rw [if_pos k1] at hx
   obtain rfl := Option.some.inj hx; refine ⟨s1, fun b Y hb => ?_⟩; have e151 := e151 b Y hb; rw [iE]; obtain ⟨N, T, Lb, hN, hT, hL⟩ := lens3 Y; rw [hN] at hb
   conv => lhs; rw [← ao (Y.af false b (pc ts l d))]
   simp only [pc, pcf, cq, atX, Tok.c, bw, aa] at e151 ⊢
   generalize hd l = t at *
   generalize aC ts = es at *
   simp [ot, hN, hT, hL, hb, e151, k1, X.enc, ep]
 rw [if_neg k1] at hx
 have k1' : ¬ (((hd l).kind : Int) = 1) := by omega
 by_cases ki : (hd l).kind = 2 ∧ (hd l).text = [105, 110, 112, 117, 116]
 · rw [if_pos ki] at hx
   obtain ⟨k2, kt⟩ := ki; have h1 := ik hr s1 d 3
   cases x1 : eg 3 (dp l) with
   | bad e q =>
    simp only [x1, PR.map] at hx; obtain rfl := Option.some.inj hx; obtain ⟨a', d'', e1⟩ := bC h1 x1; refine ⟨a', d'', fun b Y hb => ?_⟩; have e1 := e1 hb; have e151 := e151 b Y hb; rw [iE]; obtain ⟨N, T, Lb, hN, hT, hL⟩ := lens3 Y; rw [hN] at hb
    conv => lhs; rw [← ao (Y.af false b (pc ts l d))]
    simp only [pc, pcf, cq, atX, Tok.c, bw, aa] at e151 e1 ⊢
    generalize hd l = t at *
    generalize aC ts = es at *
    simp [ot, hN, hT, hL, hb, e151, e1, k2, kt]
   | ok u l1 =>
    simp only [x1, PR.map] at hx; obtain rfl := Option.some.inj hx; refine ⟨bH h1 x1, fun b Y hb => ?_⟩; have e1 := aT h1 x1 hb; have e151 := e151 b Y hb; rw [iE]; obtain ⟨N, T, Lb, hN, hT, hL⟩ := lens3 Y; rw [hN] at hb
    conv => lhs; rw [← ao (Y.af false b (pc ts l d))]
    simp only [pc, pcf, cq, aM, atX, Tok.c, bw, aa] at e151 e1 ⊢
    generalize hd l = t at *
    generalize aC ts = es at *
    simp [ot, hN, hT, hL, hb, e151, e1, k2, kt, qG, X.enc, ep]
 rw [if_neg ki] at hx
 by_cases kn : (hd l).kind = 2 ∧ (hd l).text = [110, 105, 108]
 · rw [if_pos kn] at hx
   obtain ⟨k2, kt⟩ := kn
   have e68 := fun b (Y : St) hb => aD (aG hr s1 d [105, 110, 116, 115] (b := b)) (s := Y) hb
   cases hi : isT (dp l) [105, 110, 116, 115] with
   | true =>
    rw [hi] at hx e68; simp only [if_true] at hx e68; obtain rfl := Option.some.inj hx; refine ⟨s1.isT hr hi, fun b Y hb => ?_⟩; have e68 := e68 b Y hb; have e151 := e151 b Y hb; rw [iE]; obtain ⟨N, T, Lb, hN, hT, hL⟩ := lens3 Y; rw [hN] at hb
    conv => lhs; rw [← ao (Y.af false b (pc ts l d))]
    simp only [pc, pcf, cq, aM, atX, Tok.c, bw, aa] at e151 e68 ⊢
    generalize hd l = t at *
    generalize aC ts = es at *
    simp [ot, hN, hT, hL, hb, e151, e68, k2, kt, X.enc, ep]
   | false =>
    rw [hi] at hx e68; simp only [ab, if_false] at hx e68; have h1 := ik hr s1 d 1
    cases x1 : eg 1 (dp l) with
    | bad e q =>
     simp only [x1, PR.map] at hx; obtain rfl := Option.some.inj hx; obtain ⟨a', d'', e1⟩ := bC h1 x1; refine ⟨a', d'', fun b Y hb => ?_⟩; have e1 := e1 hb; have e68 := e68 b Y hb; have e151 := e151 b Y hb; rw [iE]; obtain ⟨N, T, Lb, hN, hT, hL⟩ := lens3 Y; rw [hN] at hb
     conv => lhs; rw [← ao (Y.af false b (pc ts l d))]
     simp only [pc, pcf, cq, atX, Tok.c, bw, aa] at e151 e68 e1 ⊢
     generalize hd l = t at *
     generalize aC ts = es at *
     simp [ot, hN, hT, hL, hb, e151, e68, e1, k2, kt]
    | ok u l1 =>
     simp only [x1, PR.map] at hx; obtain rfl := Option.some.inj hx; refine ⟨bH h1 x1, fun b Y hb => ?_⟩; have e1 := aT h1 x1 hb; have e68 := e68 b Y hb; have e151 := e151 b Y hb; rw [iE]; obtain ⟨N, T, Lb, hN, hT, hL⟩ := lens3 Y; rw [hN] at hb
     conv => lhs; rw [← ao (Y.af false b (pc ts l d))]
     simp only [pc, pcf, cq, aM, atX, Tok.c, bw, aa] at e151 e68 e1 ⊢
     generalize hd l = t at *
     generalize aC ts = es at *
     simp [ot, hN, hT, hL, hb, e151, e68, e1, k2, kt, od, X.enc, ep]
 rw [if_neg kn] at hx
 have ki' : (hd l).kind = 2 → (hd l).text ≠ [105, 110, 112, 117, 116] := fun a b => ki ⟨a, b⟩
 have kn' : (hd l).kind = 2 → (hd l).text ≠ [110, 105, 108] := fun a b => kn ⟨a, b⟩
 by_cases kp : (hd l).kind = 5 ∧ (hd l).text = [40]
 · rw [if_pos kp] at hx
   obtain ⟨k5, kt⟩ := kp; have h1 := uX s1 d (hd l) (by omega); unfold nv at hx
   by_cases hdd : 12 < d + 1
   · rw [if_pos hdd] at hx h1
     obtain rfl := Option.some.inj hx; obtain ⟨a', d'', e1⟩ := bC h1 rfl; refine ⟨a', d'', fun b Y hb => ?_⟩; have e1 := e1 hb; have e151 := e151 b Y hb; rw [iE]; obtain ⟨N, T, Lb, hN, hT, hL⟩ := lens3 Y; rw [hN] at hb
     conv => lhs; rw [← ao (Y.af false b (pc ts l d))]
     simp only [pc, pcf, cq, atX, Tok.c, bw, k5, kt, aa] at e151 e1 ⊢
     generalize hd l = t at *
     generalize aC ts = es at *
     simp [ot, hN, hT, hL, hb, e151, e1, k5, kt]
   · rw [if_neg hdd] at hx h1
     obtain ⟨y, hy⟩ := dF hx; rw [hy] at hx; have h2 := lh hr ih (d := d + 1) (by omega) s1 hy
     have w1 : IntKind.i64.wrap (((d + 1 : Nat) : Int) - 1) = (d : Int) := by rw [IntWalk.i64_in _ (by omega)]; omega
     cases y with
     | bad e q =>
      obtain rfl := bS hx rfl; obtain ⟨a', d'', e2⟩ := bC h2 rfl; refine ⟨a', d'', fun b Y hb => ?_⟩; have e2 := e2 hb; have e1 := aT h1 rfl hb; have e151 := e151 b Y hb; rw [iE]; obtain ⟨N, T, Lb, hN, hT, hL⟩ := lens3 Y; rw [hN] at hb
      conv => lhs; rw [← ao (Y.af false b (pc ts l d))]
      simp only [pc, pcf, cq, atX, Tok.c, bw, k5, kt, aa] at e151 e1 e2 ⊢
      generalize ((d + 1 : Nat) : Int) = d1 at *
      generalize hd l = t at *
      generalize aC ts = es at *
      simp [ot, hN, hT, hL, hb, e151, e1, e2, k5, kt]
     | ok v l1 =>
      have hx := cG hx rfl; have s2 := bH h2 rfl; have h3 := eW hr s2 (d + 1) [41]
      cases x3 : dm [41] l1 with
      | bad e q =>
       obtain rfl := bS hx x3; obtain ⟨a', d'', e3⟩ := bC h3 x3; refine ⟨a', d'', fun b Y hb => ?_⟩; have e3 := e3 hb; have e2 := aT h2 rfl hb; have e1 := aT h1 rfl hb; have e151 := e151 b Y hb; rw [iE]; obtain ⟨N, T, Lb, hN, hT, hL⟩ := lens3 Y; rw [hN] at hb
       conv => lhs; rw [← ao (Y.af false b (pc ts l d))]
       simp only [pc, pcf, cq, aM, atX, Tok.c, bw, k5, kt, aa] at e151 e1 e2 e3 ⊢
       generalize ((d + 1 : Nat) : Int) = d1 at *
       generalize hd l = t at *
       generalize aC ts = es at *
       simp [ot, hN, hT, hL, hb, e151, e1, e2, e3, k5, kt, X.len, nV, X.okc, X.can, iw]
      | ok u l2 =>
       obtain rfl := Option.some.inj (cG hx x3); refine ⟨bH h3 x3, fun b Y hb => ?_⟩; have e3 := aT h3 x3 hb; have e2 := aT h2 rfl hb; have e1 := aT h1 rfl hb; have e151 := e151 b Y hb; rw [iE]; obtain ⟨N, T, Lb, hN, hT, hL⟩ := lens3 Y; rw [hN] at hb
       conv => lhs; rw [← ao (Y.af false b (pc ts l d))]
       simp only [pc, pcf, cq, aM, atX, Tok.c, bw, k5, kt, aa] at e151 e1 e2 e3 ⊢
       generalize ((d + 1 : Nat) : Int) = d1 at *
       generalize hd l = t at *
       generalize aC ts = es at *
       simp [ot, hN, hT, hL, hb, e151, e1, e2, e3, k5, kt, w1, X.len, nV, X.okc, X.can, X.lD, X.fl, iw]
 rw [if_neg kp] at hx; obtain rfl := Option.some.inj hx; refine ⟨pcA ts (dp l), d, fun b Y hb => ?_⟩; have e74 := aD (oc (aC ts) (pcA ts (dp l)) d 4 (hd l) (b := b)) hb; have e151 := e151 b Y hb; rw [iE]; obtain ⟨N, T, Lb, hN, hT, hL⟩ := lens3 Y; rw [hN] at hb
 conv => lhs; rw [← ao (Y.af false b (pc ts l d))]
 by_cases k2 : (hd l).kind = 2
 · have ki := ki' k2
   have kn := kn' k2; simp only [pc, pcf, cq, atX, Tok.c, bw, k2, aa] at e151 e74 ⊢
   generalize hd l = t at *
   generalize aC ts = es at *
   simp [ot, hN, hT, hL, hb, e151, e74, k2, ki, kn]
 · have k2' : ¬ (((hd l).kind : Int) = 2) := by omega
   by_cases k5 : (hd l).kind = 5
   · have kt : (hd l).text ≠ [40] := fun a => kp ⟨k5, a⟩
     simp only [pc, pcf, cq, atX, Tok.c, bw, k5, aa] at e151 e74 ⊢
     generalize hd l = t at *
     generalize aC ts = es at *
     simp [ot, hN, hT, hL, hb, e151, e74, k5, kt]
   · have k5' : ¬ (((hd l).kind : Int) = 5) := by omega
     simp only [pc, pcf, cq, atX, Tok.c, bw, aa] at e151 e74 ⊢
     generalize hd l = t at *
     generalize aC ts = es at *
     simp [ot, hN, hT, hL, hb, e151, e74, k1, k1', k2, k2', k3, k3', k4, k4', k5, k5']
end
section
variable {ts : List Tok} (hr : Row ts) {n : Nat} (ih : nc ts n)
include hr ih
theorem Gu : ∀ d l x, d ≤ 12 → Sfx ts l → gf (n + 1) d l = some x → Rd 187 [] ts d d l cq x := by
 intro d l x hd12 h hx; have s1 := h.next hr
 have e67 := fun b (Y : St) hb => aD (dO h d 0 0 0 (b := b)) (s := Y) hb
 have e151 := fun b (Y : St) hb => aD (ll hr h d (b := b)) (s := Y) hb
 simp only [gf] at hx
 by_cases hw : (hd l).kind = 2 ∨ (hd l).kind = 5
 · have e197 : ∀ Z, E L (.func 197) [str (hd l).text] Z = some (.v (.int .i64 (gy (hd l))), Z) := fun Z => by
    rw [Dn, gy, if_pos hw]
   by_cases hu : gy (hd l) = 0
   · rw [if_pos hu] at hx
     have h1 := ih.atom d l x hd12 h hx; rw [hu] at e197
     cases x with
     | bad e q =>
      obtain ⟨a', d'', e1⟩ := bC h1 rfl; refine ⟨a', d'', fun b Y hb => ?_⟩; have e1 := e1 hb; have e67 := e67 b Y hb; rw [mw]; obtain ⟨N, T, Lb, hN, hT, hL⟩ := lens3 Y; rw [hN] at hb
      conv => lhs; rw [← ao (Y.af false b (pc ts l d))]
      rcases hw with k | k
      · simp only [pc, pcf, cq, Tok.c, bw, k, aa] at e67 e1 ⊢
        generalize hd l = t at *
        generalize aC ts = es at *
        simp [qz, hN, hT, hL, hb, e67, e1, e197]
      · simp only [pc, pcf, cq, Tok.c, bw, k, aa] at e67 e1 ⊢
        generalize hd l = t at *
        generalize aC ts = es at *
        simp [qz, hN, hT, hL, hb, e67, e1, e197]
     | ok v l1 =>
      refine ⟨bH h1 rfl, fun b Y hb => ?_⟩; have e1 := aT h1 rfl hb; have e67 := e67 b Y hb; rw [mw]; obtain ⟨N, T, Lb, hN, hT, hL⟩ := lens3 Y; rw [hN] at hb
      conv => lhs; rw [← ao (Y.af false b (pc ts l d))]
      rcases hw with k | k
      · simp only [pc, pcf, cq, Tok.c, bw, k, aa] at e67 e1 ⊢
        generalize hd l = t at *
        generalize aC ts = es at *
        simp [qz, hN, hT, hL, hb, e67, e1, e197, X.len, nV, X.okc, X.can, X.lD, X.fl, iw]
      · simp only [pc, pcf, cq, Tok.c, bw, k, aa] at e67 e1 ⊢
        generalize hd l = t at *
        generalize aC ts = es at *
        simp [qz, hN, hT, hL, hb, e67, e1, e197, X.len, nV, X.okc, X.can, X.lD, X.fl, iw]
   · rw [if_neg hu] at hx
     have h1 := uX s1 d (hd l) (by omega); unfold nv at hx
     by_cases hdd : 12 < d + 1
     · rw [if_pos hdd] at hx h1
       obtain rfl := Option.some.inj hx; obtain ⟨a', d'', e1⟩ := bC h1 rfl; refine ⟨a', d'', fun b Y hb => ?_⟩; have e1 := e1 hb; have e67 := e67 b Y hb; have e151 := e151 b Y hb; rw [mw]; obtain ⟨N, T, Lb, hN, hT, hL⟩ := lens3 Y; rw [hN] at hb
       conv => lhs; rw [← ao (Y.af false b (pc ts l d))]
       rcases hw with k | k
       · simp only [pc, pcf, cq, Tok.c, bw, k, aa] at e67 e151 e1 ⊢
         generalize gy (hd l) = u at *
         generalize hd l = t at *
         generalize aC ts = es at *
         simp [qz, hN, hT, hL, hb, e67, e151, e1, e197, hu]
       · simp only [pc, pcf, cq, Tok.c, bw, k, aa] at e67 e151 e1 ⊢
         generalize gy (hd l) = u at *
         generalize hd l = t at *
         generalize aC ts = es at *
         simp [qz, hN, hT, hL, hb, e67, e151, e1, e197, hu]
     · rw [if_neg hdd] at hx h1
       obtain ⟨y, hy⟩ := dF hx; rw [hy] at hx; have h2 := ih.pre (d + 1) (dp l) y (by omega) s1 hy
       have w1 : IntKind.i64.wrap (((d + 1 : Nat) : Int) - 1) = (d : Int) := by rw [IntWalk.i64_in _ (by omega)]; omega
       cases y with
       | bad e q =>
        obtain rfl := bS hx rfl; obtain ⟨a', d'', e2⟩ := bC h2 rfl; refine ⟨a', d'', fun b Y hb => ?_⟩; have e2 := e2 hb; have e1 := aT h1 rfl hb; have e67 := e67 b Y hb; have e151 := e151 b Y hb; rw [mw]; obtain ⟨N, T, Lb, hN, hT, hL⟩ := lens3 Y; rw [hN] at hb
        conv => lhs; rw [← ao (Y.af false b (pc ts l d))]
        rcases hw with k | k
        · simp only [pc, pcf, cq, Tok.c, bw, k, aa] at e67 e151 e1 e2 ⊢
          generalize ((d + 1 : Nat) : Int) = d1 at *
          generalize gy (hd l) = u at *
          generalize hd l = t at *
          generalize aC ts = es at *
          simp [qz, hN, hT, hL, hb, e67, e151, e1, e2, e197, hu]
        · simp only [pc, pcf, cq, Tok.c, bw, k, aa] at e67 e151 e1 e2 ⊢
          generalize ((d + 1 : Nat) : Int) = d1 at *
          generalize gy (hd l) = u at *
          generalize hd l = t at *
          generalize aC ts = es at *
          simp [qz, hN, hT, hL, hb, e67, e151, e1, e2, e197, hu]
       | ok v l1 =>
        obtain rfl := Option.some.inj (cG hx rfl); refine ⟨bH h2 rfl, fun b Y hb => ?_⟩; have e2 := aT h2 rfl hb; have e1 := aT h1 rfl hb; have e67 := e67 b Y hb; have e151 := e151 b Y hb; rw [mw]; obtain ⟨N, T, Lb, hN, hT, hL⟩ := lens3 Y; rw [hN] at hb
        conv => lhs; rw [← ao (Y.af false b (pc ts l d))]
        rcases hw with k | k
        · simp only [pc, pcf, cq, Tok.c, bw, k, aa] at e67 e151 e1 e2 ⊢
          generalize ((d + 1 : Nat) : Int) = d1 at *
          generalize gy (hd l) = u at *
          generalize hd l = t at *
          generalize aC ts = es at *
          simp [qz, hN, hT, hL, hb, e67, e151, e1, e2, e197, hu, w1, aF, jr, gw, AM.cv, AM.eK, chunks, X.len, nV, X.okc, X.can, X.lD, X.fl, X.pl, X.enc, ep, iw]
        · simp only [pc, pcf, cq, Tok.c, bw, k, aa] at e67 e151 e1 e2 ⊢
          generalize ((d + 1 : Nat) : Int) = d1 at *
          generalize gy (hd l) = u at *
          generalize hd l = t at *
          generalize aC ts = es at *
          simp [qz, hN, hT, hL, hb, e67, e151, e1, e2, e197, hu, w1, aF, jr, gw, AM.cv, AM.eK, chunks, X.len, nV, X.okc, X.can, X.lD, X.fl, X.pl, X.enc, ep, iw]
 · have hu : gy (hd l) = 0 := by rw [gy, if_neg hw]
   rw [if_pos hu] at hx; have h1 := ih.atom d l x hd12 h hx
   have k2 : ¬ (((hd l).kind : Int) = 2) := by omega
   have k5 : ¬ (((hd l).kind : Int) = 5) := by omega
   have k2' : ¬ ((hd l).kind = 2) := by omega
   have k5' : ¬ ((hd l).kind = 5) := by omega
   cases x with
   | bad e q =>
    obtain ⟨a', d'', e1⟩ := bC h1 rfl; refine ⟨a', d'', fun b Y hb => ?_⟩; have e1 := e1 hb; have e67 := e67 b Y hb; rw [mw]; obtain ⟨N, T, Lb, hN, hT, hL⟩ := lens3 Y; rw [hN] at hb
    conv => lhs; rw [← ao (Y.af false b (pc ts l d))]
    simp only [pc, pcf, cq, Tok.c, bw, aa] at e67 e1 ⊢
    generalize hd l = t at *
    generalize aC ts = es at *
    simp [qz, hN, hT, hL, hb, e67, e1, k2, k5, k2', k5']
   | ok v l1 =>
    refine ⟨bH h1 rfl, fun b Y hb => ?_⟩; have e1 := aT h1 rfl hb; have e67 := e67 b Y hb; rw [mw]; obtain ⟨N, T, Lb, hN, hT, hL⟩ := lens3 Y; rw [hN] at hb
    conv => lhs; rw [← ao (Y.af false b (pc ts l d))]
    simp only [pc, pcf, cq, Tok.c, bw, aa] at e67 e1 ⊢
    generalize hd l = t at *
    generalize aC ts = es at *
    simp [qz, hN, hT, hL, hb, e67, e1, k2, k5, k2', k5', X.len, nV, X.okc, X.can, X.lD, X.fl, iw]
end
end Go.Proofs.YtlhlijaondmccaaGreatDoor.S
namespace Go.Proofs.YtlhlijaondmccaaGreatDoor.S
open Go Go.AM Go.Proofs
theorem jh {b : List PV → St → Option (Ex × List PV × St)} {vs vs' : List PV} {st st' : St} {t : TypeId} {v : Value} (h : b vs st = some (.pan t v, vs', st')) : itE b vs st = some (.pan t v, vs', st') := by
 rw [mF, h]; rfl
theorem E5 {P : Program} {cst : Bool} {t : TypeId} {a b : List UInt8} (h : a.length + b.length < 4611686018427387904) : aW P cst .add t (str a) (str b) = some (str (a ++ b)) := by
 rw [rU _ _ _ _ _ (by rw [cu, cu]; omega), n8]
theorem ru : ∀ {l m l' m' : List PV}, cv l = some l' → cv m = some m' → cv (l ++ m) = some (l' ++ m')
 | [], m, l', m', hl, hm => by obtain rfl := Option.some.inj hl; exact hm
 | a :: l, m, l', m', hl, hm => by
  simp only [cv] at hl
  cases ha : eK a with
  | none => rw [ha] at hl; cases hl
  | some a' =>
   rw [ha] at hl
   cases hl' : cv l with
   | none => rw [hl'] at hl; cases hl
   | some l2 =>
    rw [hl'] at hl; obtain rfl := Option.some.inj hl; simp only [al, cv, ha, ru hl' hm, aj]
theorem Ft {sz : Nat} {z cs ds cs' ds' : List PV} (hz : z.length = sz) (hc : cs.length = sz) (hd : ds.length = sz) (hp : cv cs = some cs') (hq : cv ds = some ds') (hc' : cs'.length = sz) (hd' : ds'.length = sz) : aF sz z 2 [(0, .agg cs), (1, .agg ds)] = some (.sl [cs', ds'] .full) := by
 have h1 : laid (gw 2 z) 0 cs = cs ++ z := by
  have := laidB [] z z cs (by omega); simpa [gw] using this
 have h1' : laid (cs ++ z) sz ds = cs ++ ds := by
  have := laidB cs z [] ds (by omega); simpa [hc] using this
 have h2 : dB (0 + sz) (gw 2 z).length = true := by simp [gw, hz]
 have h2' : dB (1 * sz + sz) (cs ++ z).length = true := by simp [hz, hc]
 have h3 : ak cs.length sz = true := by rw [hc]; exact Nat.beq_refl _
 have h3' : ak ds.length sz = true := by rw [hd]; exact Nat.beq_refl _
 simp only [aF, jr, cz, AM.cellsOf, h3, Nat.zero_mul, h2, h3', bu, cond_true, h1, aj, Nat.one_mul] at h2' ⊢; simp only [h2', h1', bu, cond_true, cz, aj, ru hp hq, chunks]; rw [List.take_append_of_le_length (by omega), List.take_of_length_le (by omega), List.drop_append_of_le_length (by omega), List.drop_of_length_le (by omega)]; simp [List.take_of_length_le, hd']
attribute [local simp] cX cx bY bZ cy fq fv ec de dY db dZ dc fu cc im dS iq ic hO AM.ae aR aS bf aN aE AM.onG gb bW ef Ex.bn cond_true cond_false cT cS cR cQ cP cV cO cW cU ed dh di cw cY AM.du AM.cellsOf AM.an bX beq_true cM ah ay bj bz bT decide_true decide_false bF bE bu bD bg aB az aU al cZ da ft aA bI ba bR cC dR dX cJ eE eD set_set eI dy fT dz cI bK dx dw cH dv eH eJ fM fN bM cu eB fL dW aV aX aI AM.aY ai dt bU bc bh aP aO AM.part br aQ cf cm cj cn cn.eS AM.dN bG cg dJ fW aV laid aJ bq cz
attribute [-simp] aj
attribute [local congr] dK
def X.kG (x : X) (c : Cap) : List PV := [.v (.int .i64 x.op), .v (.int .i64 x.bin), .v (.int .u64 x.n), .v (.int .i64 x.kd), .v (.string x.rc), .v (.string x.name), .sl (ep x.kids) c, .v (.int .i64 x.line), .v (.int .i64 x.col)]
theorem As (x : X) (c : Cap) : laid z9 0 (x.kG c) = x.kG c := iw _ _ rfl
theorem qD (x : X) : laid z9 0 x.enc = x.enc := iw _ _ (X.len x).symm
theorem tT (x : X) (c : Cap) (a0 a1 a2 a3 a4 a5 a6 a7 a8 : PV) : (((((((((x.kG c).set 0 a0).set 1 a1).set 2 a2).set 3 a3).set 4 a4).set 5 a5).set 6 a6).set 7 a7).set 8 a8 = [a0, a1, a2, a3, a4, a5, a6, a7, a8] := rfl
abbrev DI (c : Cap) : Prop := c = .dead ∨ c = .full
theorem tS (x : X) : x.kG .dead = x.enc := by rw [X.bJ]; rfl
theorem jK (x : X) (c : Cap) : (x.kG c).length = 9 := rfl
theorem kv (x : X) (c : Cap) : (x.kG c).take 9 = x.kG c := rfl
theorem lQ (x : X) (c : Cap) : aJ (x.kG c) = true := rfl
theorem zg (x : X) (c : Cap) : cv (x.kG c) = some x.enc := by rw [X.bJ]; rfl
theorem Eo (x : X) (c : Cap) : (x.kG c).all dN = true := rfl
theorem Ar (x : X) (c : Cap) : (x.kG c).map bU = x.enc := by rw [X.bJ]; rfl
theorem uZ (x : X) {c : Cap} (hc : DI c) (m : Nat) : (x.kG c).all (sf true m 4) = true := by rcases hc with rfl | rfl <;> rfl
abbrev mkB (e k : X) (b : Int) (t : Tok) : X := ⟨9, b, 0, 0, bs [], bs [], [e, k], t.p.1, t.p.2⟩
theorem BX (e k : X) (b : Int) (t : Tok) (c : Cap) : (mkB e k b t).kG c = [.v (.int .i64 9), .v (.int .i64 b), .v (.int .u64 0), .v (.int .i64 0), str [], str [], .sl [e.enc, k.enc] c, .v (.int .i64 (t.p.1 : Int)), .v (.int .i64 (t.p.2 : Int))] := by
 simp only [X.kG, mkB, X.op, X.bin, X.n, X.kd, X.rc, X.name, X.kids, X.line, X.col, ep]
def yP (ts : List Tok) (lv d : Nat) (e : X) (l : List Tok) (x : PR X) : Prop := match x with
 | .ok a l' => Sfx ts l' ∧ ∀ b (Y : St), b < Y.stk.length → ∀ N T Lb, Y.stk.length = N → Y.tk.length = T → Y.lp.length = Lb → ∀ c, DI c → ∃ c1 c2,
  itE (oq.b0 (E L) itE N Lb) [.ptr false b 0, .v (.int .i64 (lv : Int)), .ptr false N 0, .ptr false (N + 1) 0] ((Y.af false b (pc ts l d)).app [⟨z9, []⟩, ⟨e.kG c, []⟩] [] []) =
   some (.ret, [.ptr false b 0, .v (.int .i64 (lv : Int)), .ptr false N 0, .ptr false (N + 1) 0], (Y.af false b (pc ts l' d)).app [⟨a.kG c2, []⟩, ⟨c1, []⟩] [] [])
 | .bad er q => ∃ a' d'', ∀ b (Y : St), b < Y.stk.length → ∀ N T Lb, Y.stk.length = N → Y.tk.length = T → Y.lp.length = Lb → ∀ c, DI c → ∃ c1 c2,
  itE (oq.b0 (E L) itE N Lb) [.ptr false b 0, .v (.int .i64 (lv : Int)), .ptr false N 0, .ptr false (N + 1) 0] ((Y.af false b (pc ts l d)).app [⟨z9, []⟩, ⟨e.kG c, []⟩] [] []) =
   some (.pan 108 (.agg #[]), [.ptr false b 0, .v (.int .i64 (lv : Int)), .ptr false N 0, .ptr false (N + 1) 0], (Y.af false b (pcf (aC ts) a' d'' er q.1 q.2)).app [⟨c1, []⟩, ⟨c2, []⟩] [] [])
section
variable {ts : List Tok} (hr : Row ts) {n : Nat} (ih : nc ts n)
include hr ih
theorem E3 (ihr : ∀ lv d e l x, lv < 3 → d ≤ 12 → Sfx ts l → iO n lv d e l = some x → yP ts lv d e l x) : ∀ lv d e l x, lv < 3 → d ≤ 12 → Sfx ts l → iO (n + 1) lv d e l = some x → yP ts lv d e l x := by
 intro lv d e l x hlv hd12 h hx; have elz := As e; have s1 := h.next hr
 have e67 := fun b (Y : St) hb => aD (dO h d 0 0 0 (b := b)) (s := Y) hb
 have e151 := fun b (Y : St) hb => aD (ll hr h d (b := b)) (s := Y) hb
 have e188 := C6 lv hlv
 have hmem : hd l ∈ ts := by
  obtain ⟨t, r, rfl⟩ := h.cons; obtain ⟨_, dn, rfl⟩ := h; simp [hd]
 have htx := hr.txt _ hmem
 have sg1 : aW Tryz.prog true .add 9 (str [32]) (str (hd l).text) = some (str (32 :: (hd l).text)) := by
  rw [E5 (by simp only [bQ]; omega)]; rfl
 have sg2 : aW Tryz.prog true .add 9 (str (32 :: (hd l).text)) (str [32]) = some (str (32 :: ((hd l).text ++ [32]))) := by
  rw [E5 (by simp only [bQ, ah, ay]; omega)]; rfl
 have e189 := Ge (hd l).text; simp only [iO] at hx
 by_cases k5 : (hd l).kind = 5
 · have e169 : ∀ Z, E L (.func 169) [str (32 :: iZ (ig lv)), str (32 :: ((hd l).text ++ [32]))] Z = some (.v (.bool ((ig lv).contains (hd l).text)), Z) := fun Z => by
    rw [uE (by
     obtain rfl | rfl | rfl : lv = 0 ∨ lv = 1 ∨ lv = 2 := by omega
     all_goals simp [ig, iZ]), AY (hr.sign _ hmem k5)]
   cases hc0 : (ig lv).contains (hd l).text with
   | false =>
    rw [hc0] at e169; rw [iB, if_neg (by rw [hc0]; simp)] at hx; obtain rfl := Option.some.inj hx; refine ⟨h, fun b Y hb N T Lb hN hT hL c hc => ⟨e.kG c, c, ?_⟩⟩; have e67 := e67 b Y hb
    have hb2 : b < N + 2 := by omega
    have hsf := uZ e hc; simp only [pc, pcf, cq, Tok.c, bw, k5, aa] at e67 ⊢
    generalize iZ (ig lv) = sg at *
    generalize hd l = t at *
    generalize aC ts = es at *
    apply eZ; simp [oq.b0, hN, hT, hL, hb, hb2, elz, e67, e188, sg1, sg2, e169, jK, kv, lQ, hsf, iw, fG, fq]
   | true =>
    rw [hc0] at e169; rw [iB, if_pos ⟨k5, hc0⟩] at hx; simp only at hx; obtain ⟨y, hy⟩ := dF hx; rw [hy] at hx; have h1 := ih.chain (lv + 1) d (dp l) y (by omega) hd12 s1 hy
    have w1 : IntKind.i64.wrap ((lv : Int) + 1) = ((lv + 1 : Nat) : Int) := by rw [IntWalk.i64_in _ (by omega)]; omega
    cases y with
    | bad er q =>
     obtain rfl := bS hx rfl; obtain ⟨a', d'', e1⟩ := bC h1 rfl; refine ⟨a', d'', fun b Y hb N T Lb hN hT hL c hc => ⟨z9, e.kG c, ?_⟩⟩; have e1 := e1 hb; have e67 := e67 b Y hb; have e151 := e151 b Y hb
     have hb2 : b < N + 2 := by omega
     have hsf := uZ e hc; simp only [pc, pcf, cq, Tok.c, bw, k5, aa] at e67 e151 e1 ⊢
     generalize ((lv + 1 : Nat) : Int) = lv1 at *
     generalize iZ (ig lv) = sg at *
     generalize vU (hd l).text = bt at *
     generalize hd l = t at *
     generalize aC ts = es at *
     apply jh; simp [oq.b0, hN, hT, hL, hb, hb2, elz, e67, e151, e188, e189, e1, sg1, sg2, e169, w1, jK, kv, lQ, hsf, iw, fG, fq]
    | ok k l1 =>
     have hx := cG hx rfl; have s2 := bH h1 rfl
     by_cases h0 : lv = 0
     · subst h0
       simp only [if_true] at hx; obtain rfl := Option.some.inj hx; refine ⟨s2, fun b Y hb N T Lb hN hT hL c hc => ⟨(mkB e k (vU (hd l).text) (hd l)).kG .full, .full, ?_⟩⟩; have e1 := aT h1 rfl hb; have e67 := e67 b Y hb; have e151 := e151 b Y hb
       have hb2 : b < N + 2 := by omega
       have hl2 := Ft (sz := 9) (z := z9) rfl (jK e c) (X.len k) (zg e c) (X.pl k) (X.len e) (X.len k); simp only [pc, pcf, cq, BX, Tok.c, bw, k5, Int.natCast_zero, aa] at e67 e151 e1 e188 w1 ⊢
       generalize ((0 + 1 : Nat) : Int) = lv1 at *
       generalize iZ (ig 0) = sg at *
       generalize vU (hd l).text = bt at *
       generalize hd l = t at *
       generalize aC ts = es at *
       apply eZ; simp only [Int.zero_add] at w1; simp [oq.b0, hN, hT, hL, hb, hb2, elz, e67, e151, e188, e189, e1, sg1, sg2, e169, w1, tT, hl2, jK, kv, lQ, iw, fG, fq]
     · rw [if_neg h0] at hx
       have h2 := ihr lv d _ l1 x hlv hd12 s2 hx
       have h0' : ¬ ((lv : Int) = 0) := by omega
       have stp : ∀ b (Y : St), b < Y.stk.length → ∀ N T Lb, Y.stk.length = N → Y.tk.length = T → Y.lp.length = Lb → ∀ c, DI c →
        oq.b0 (E L) itE N Lb [.ptr false b 0, .v (.int .i64 (lv : Int)), .ptr false N 0, .ptr false (N + 1) 0] ((Y.af false b (pc ts l d)).app [⟨z9, []⟩, ⟨e.kG c, []⟩] [] []) =
         some (.normal, [.ptr false b 0, .v (.int .i64 (lv : Int)), .ptr false N 0, .ptr false (N + 1) 0], (Y.af false b (pc ts l1 d)).app [⟨z9, []⟩, ⟨(mkB e k (vU (hd l).text) (hd l)).kG .full, []⟩] [] []) := by
        intro b Y hb N T Lb hN hT hL c hc; have e1 := aT h1 rfl hb; have e67 := e67 b Y hb; have e151 := e151 b Y hb
        have hb2 : b < N + 2 := by omega
        have hl2 := Ft (sz := 9) (z := z9) rfl (jK e c) (X.len k) (zg e c) (X.pl k) (X.len e) (X.len k); simp only [pc, pcf, cq, BX, Tok.c, bw, k5, aa] at e67 e151 e1 ⊢
        generalize ((lv + 1 : Nat) : Int) = lv1 at *
        generalize iZ (ig lv) = sg at *
        generalize vU (hd l).text = bt at *
        generalize hd l = t at *
        generalize aC ts = es at *
        simp [oq.b0, hN, hT, hL, hb, hb2, elz, e67, e151, e188, e189, e1, sg1, sg2, e169, w1, h0, h0', tT, hl2, jK, kv, lQ, iw, fG, fq]
       cases x with
       | ok a l2 =>
        refine ⟨h2.1, fun b Y hb N T Lb hN hT hL c hc => ?_⟩; obtain ⟨c1, c2, hit⟩ := h2.2 b Y hb N T Lb hN hT hL .full (.inr rfl); exact ⟨c1, c2, (cd (stp b Y hb N T Lb hN hT hL c hc)).trans hit⟩
       | bad er q =>
        obtain ⟨a', d'', h2⟩ := h2; refine ⟨a', d'', fun b Y hb N T Lb hN hT hL c hc => ?_⟩; obtain ⟨c1, c2, hit⟩ := h2 b Y hb N T Lb hN hT hL .full (.inr rfl); exact ⟨c1, c2, (cd (stp b Y hb N T Lb hN hT hL c hc)).trans hit⟩
 · rw [iB, if_neg (fun q => k5 q.1)] at hx
   obtain rfl := Option.some.inj hx; refine ⟨h, fun b Y hb N T Lb hN hT hL c hc => ⟨e.kG c, c, ?_⟩⟩; have e67 := e67 b Y hb
   have hb2 : b < N + 2 := by omega
   have hsf := uZ e hc
   have k5' : ¬ (((hd l).kind : Int) = 5) := by omega
   simp only [pc, pcf, cq, Tok.c, bw, aa] at e67 ⊢
   generalize hd l = t at *
   generalize aC ts = es at *
   apply eZ; simp [oq.b0, hN, hT, hL, hb, hb2, elz, e67, k5, k5', jK, kv, lQ, hsf, iw, fG, fq]
end
end Go.Proofs.YtlhlijaondmccaaGreatDoor.S
namespace Go.Proofs.YtlhlijaondmccaaGreatDoor.S
open Go Go.AM Go.Proofs
attribute [local simp] cX cx bY bZ cy fq fv ec de dY db dZ dc fu cc im dS iq ic hO AM.ae aR aS bf aN aE AM.onG gb bW ef Ex.bn cond_true cond_false cT cS cR cQ cP cV cO cW cU ed dh di cw cY AM.du AM.cellsOf AM.an bX beq_true cM ah ay bj bz bT decide_true decide_false bF bE bu bD bg aB az aU al cZ da ft aA bI ba bR cC dR dX cJ eE eD set_set eI dy fT dz cI bK dx dw cH dv eH eJ fM fN bM cu eB fL dW aV aX aI AM.aY ai dt bU bc bh aP aO AM.part br aQ cf cm cj cn cn.eS AM.dN bG cg dJ fW aV laid aJ bq cz
attribute [-simp] aj
attribute [local congr] dK
section
variable {ts : List Tok} (hr : Row ts) {n : Nat} (ih : nc ts n)
include hr ih
theorem BS (ihr : ∀ lv d e l x, lv < 3 → d ≤ 12 → Sfx ts l → iO n lv d e l = some x → yP ts lv d e l x) : ∀ lv d l x, lv ≤ 3 → d ≤ 12 → Sfx ts l → dT (n + 1) lv d l = some x → Rd 173 [.v (.int .i64 (lv : Int))] ts d d l cq x := by
 intro lv d l x hlv hd12 h hx; simp only [dT] at hx
 by_cases k3 : lv = 3
 · subst k3
   rw [if_pos rfl] at hx; have h1 := ih.pre d l x hd12 h hx
   cases x with
   | bad er q =>
    obtain ⟨a', d'', e1⟩ := bC h1 rfl; refine ⟨a', d'', fun b Y hb => ?_⟩; have e1 := e1 hb; rw [ph]; obtain ⟨N, T, Lb, hN, hT, hL⟩ := lens3 Y; rw [hN] at hb
    conv => lhs; rw [← ao (Y.af false b (pc ts l d))]
    simp only [pc, pcf, cq, aa] at e1 ⊢
    generalize aC ts = es at *
    simp [oq, hN, hT, hL, hb, e1]
   | ok a l' =>
    refine ⟨bH h1 rfl, fun b Y hb => ?_⟩; have e1 := aT h1 rfl hb; rw [ph]; obtain ⟨N, T, Lb, hN, hT, hL⟩ := lens3 Y; rw [hN] at hb
    conv => lhs; rw [← ao (Y.af false b (pc ts l d))]
    simp only [pc, pcf, cq, aa] at e1 ⊢
    generalize aC ts = es at *
    simp [oq, hN, hT, hL, hb, e1, X.len, nV, X.okc, X.can, X.lD, X.fl, qD]
 rw [if_neg k3] at hx; obtain ⟨y, hy⟩ := dF hx; rw [hy] at hx; have h1 := ih.chain (lv + 1) d l y (by omega) hd12 h hy
 have w1 : IntKind.i64.wrap ((lv : Int) + 1) = ((lv + 1 : Nat) : Int) := by rw [IntWalk.i64_in _ (by omega)]; omega
 have k3' : ¬ ((lv : Int) = 3) := by omega
 cases y with
 | bad er q =>
  obtain rfl := bS hx rfl; obtain ⟨a', d'', e1⟩ := bC h1 rfl; refine ⟨a', d'', fun b Y hb => ?_⟩; have e1 := e1 hb; rw [ph]; obtain ⟨N, T, Lb, hN, hT, hL⟩ := lens3 Y; rw [hN] at hb
  conv => lhs; rw [← ao (Y.af false b (pc ts l d))]
  simp only [pc, pcf, cq, aa] at e1 ⊢
  generalize ((lv + 1 : Nat) : Int) = lv1 at *
  generalize aC ts = es at *
  simp [oq, hN, hT, hL, hb, e1, w1, k3, k3']
 | ok e l1 =>
  have hx := cG hx rfl; have s1 := bH h1 rfl; have h2 := ihr lv d e l1 x (by omega) hd12 s1 hx
  cases x with
  | bad er q =>
   obtain ⟨a', d'', h2⟩ := h2; refine ⟨a', d'', fun b Y hb => ?_⟩; have e1 := aT h1 rfl hb; obtain ⟨c1, c2, hit⟩ := h2 b Y hb _ _ _ rfl rfl rfl .dead (.inl rfl); rw [tS] at hit; rw [ph]; obtain ⟨N, T, Lb, hN, hT, hL⟩ := lens3 Y; rw [hN] at hb; rw [hN] at hit
   conv => lhs; rw [← ao (Y.af false b (pc ts l d))]
   rw [hL] at hit
   have hb2 : b < N + 2 := by omega
   simp only [pc, pcf, cq, aa] at e1 hit ⊢
   generalize ((lv + 1 : Nat) : Int) = lv1 at *
   generalize aC ts = es at *
   simp [oq, hN, hT, hL, hb, hb2, e1, w1, k3, k3', X.len, nV, X.okc, X.can, X.lD, X.fl, qD, hit, Ex.bn]
  | ok a l2 =>
   refine ⟨h2.1, fun b Y hb => ?_⟩; have e1 := aT h1 rfl hb; obtain ⟨c1, c2, hit⟩ := h2.2 b Y hb _ _ _ rfl rfl rfl .dead (.inl rfl); have hfl := Eo a c2; rw [tS] at hit; rw [ph]; obtain ⟨N, T, Lb, hN, hT, hL⟩ := lens3 Y; rw [hN] at hb; rw [hN] at hit
   conv => lhs; rw [← ao (Y.af false b (pc ts l d))]
   rw [hL] at hit
   have hb2 : b < N + 2 := by omega
   simp only [pc, pcf, cq, aa] at e1 hit ⊢
   generalize ((lv + 1 : Nat) : Int) = lv1 at *
   generalize aC ts = es at *
   simp [oq, hN, hT, hL, hb, hb2, e1, w1, k3, k3', X.len, nV, X.okc, X.can, X.lD, X.fl, qD, hit, Ex.bn, jK, kv, lQ, hfl, Ar]
end
theorem zj {ts : List Tok} (hr : Row ts) : ∀ n, nc ts n ∧ ∀ lv d e l x, lv < 3 → d ≤ 12 → Sfx ts l → iO n lv d e l = some x → yP ts lv d e l x
 | 0 => by
  refine ⟨⟨?_, ?_, ?_⟩, ?_⟩
  · intro d l x _ _ h; simp [jt] at h
  · intro d l x _ _ h; simp [gf] at h
  · intro lv d l x _ _ _ h; simp [dT] at h
  · intro lv d e l x _ _ _ h; simp [iO] at h
 | n + 1 => by
  obtain ⟨i, r⟩ := zj hr n; exact ⟨⟨Ef hr i, Gu hr i, BS hr i r⟩, E3 hr i r⟩
abbrev eF (x : Pl) : PV := .agg x.enc
abbrev eY (x : Rt) : PV := .agg x.enc
theorem fZ (a b c d e : PV) : gH Tryz.prog 140 (.agg [a, b, c, d, e]) 1 = some b := by kernel_rfl
theorem um {ts : List Tok} (hr : Row ts) {n : Nat} (ih : nc ts n) {d : Nat} {l : List Tok} {x : PR Pl} (hd12 : d ≤ 12) (h : Sfx ts l) (hx : lH n d l = some x) : Rd 156 [] ts d d l eF x := by
 unfold lH at hx; have h1 := ik hr h d 1
 cases x1 : eg 1 l with
 | bad e q =>
  obtain rfl := bS hx x1; obtain ⟨a', d'', eb⟩ := bC h1 x1; refine ⟨a', d'', fun b Y hb => ?_⟩; have eb := eb hb; rw [mr]; obtain ⟨N, T, Lb, hN, hT, hL⟩ := lens3 Y; rw [hN] at hb
  conv => lhs; rw [← ao (Y.af false b (pc ts l d))]
  simp only [pc, pcf, aM, Tok.c, bw, aa, if_true, if_false, ab, cq, eF] at eb ⊢
  generalize aC ts = es at *
  simp [vI, hN, hT, hL, hb, eb, Pl.enc, X.enc, ep, x0, fZ]
 | ok t1 l1 =>
  have hx := cG hx x1
  try dsimp only at hx
  have s1 := bH h1 x1
  cases i2 : isT l1 [46] with
  | true =>
   rw [if_pos i2] at hx; have s2 := s1.isT hr i2; have h3 := ik hr s2 d 1
   cases x3 : eg 1 l1.tail with
   | bad e q =>
    obtain rfl := bS hx x3; obtain ⟨a', d'', eb⟩ := bC h3 x3; refine ⟨a', d'', fun b Y hb => ?_⟩; have eb := eb hb; have e1 := aT h1 x1 hb; have e2 := aD (aG hr s1 d [46] (b := b)) (s := Y) hb; rw [mr]; obtain ⟨N, T, Lb, hN, hT, hL⟩ := lens3 Y; rw [hN] at hb
    conv => lhs; rw [← ao (Y.af false b (pc ts l d))]
    simp only [pc, pcf, aM, Tok.c, bw, aa, if_true, if_false, ab, cq, eF, i2] at e1 e2 eb ⊢
    generalize aC ts = es at *
    simp [vI, hN, hT, hL, hb, e1, e2, eb, i2, Pl.enc, X.enc, ep, x0, fZ]
   | ok t3 l3 =>
    have hx := cG hx x3
    try dsimp only at hx
    have s3 := bH h3 x3; obtain rfl := Option.some.inj hx; refine ⟨s3, fun b Y hb => ?_⟩; have e1 := aT h1 x1 hb; have e2 := aD (aG hr s1 d [46] (b := b)) (s := Y) hb; have e3 := aT h3 x3 hb; rw [mr]; obtain ⟨N, T, Lb, hN, hT, hL⟩ := lens3 Y; rw [hN] at hb
    conv => lhs; rw [← ao (Y.af false b (pc ts l d))]
    simp only [pc, pcf, aM, Tok.c, bw, aa, if_true, if_false, ab, cq, eF, i2] at e1 e2 e3 ⊢
    generalize aC ts = es at *
    simp [vI, hN, hT, hL, hb, e1, e2, e3, i2, Pl.enc, X.enc, ep, x0, fZ]
  | false =>
   rw [if_neg (by rw [i2]; decide)] at hx
   cases i4 : isT l1 [91] with
   | true =>
    rw [if_pos i4] at hx; have s4 := s1.isT hr i4; obtain ⟨y5, hy5⟩ := dF hx; rw [hy5] at hx; have h5 := lh hr ih hd12 s4 hy5
    cases y5 with
    | bad e q =>
     obtain rfl := bS hx rfl; obtain ⟨a', d'', eb⟩ := bC h5 rfl; refine ⟨a', d'', fun b Y hb => ?_⟩; have eb := eb hb; have e1 := aT h1 x1 hb; have e2 := aD (aG hr s1 d [46] (b := b)) (s := Y) hb; have e4 := aD (aG hr s1 d [91] (b := b)) (s := Y) hb; rw [mr]; obtain ⟨N, T, Lb, hN, hT, hL⟩ := lens3 Y; rw [hN] at hb
     conv => lhs; rw [← ao (Y.af false b (pc ts l d))]
     simp only [pc, pcf, aM, Tok.c, bw, aa, if_true, if_false, ab, cq, eF, i2, i4] at e1 e2 e4 eb ⊢
     generalize aC ts = es at *
     simp [vI, hN, hT, hL, hb, e1, e2, e4, eb, i2, i4, Pl.enc, X.enc, ep, x0, fZ]
    | ok x5 l5 =>
     have hx := cG hx rfl
     try dsimp only at hx
     have s5 := bH h5 rfl; have h6 := eW hr s5 d [93]
     cases x6 : dm [93] l5 with
     | bad e q =>
      obtain rfl := bS hx x6; obtain ⟨a', d'', eb⟩ := bC h6 x6; refine ⟨a', d'', fun b Y hb => ?_⟩; have eb := eb hb; have e1 := aT h1 x1 hb; have e2 := aD (aG hr s1 d [46] (b := b)) (s := Y) hb; have e4 := aD (aG hr s1 d [91] (b := b)) (s := Y) hb; have e5 := aT h5 rfl hb; rw [mr]; obtain ⟨N, T, Lb, hN, hT, hL⟩ := lens3 Y; rw [hN] at hb
      conv => lhs; rw [← ao (Y.af false b (pc ts l d))]
      simp only [pc, pcf, aM, Tok.c, bw, aa, if_true, if_false, ab, cq, eF, i2, i4] at e1 e2 e4 e5 eb ⊢; cases x5
      generalize aC ts = es at *
      simp [vI, hN, hT, hL, hb, e1, e2, e4, e5, eb, i2, i4, Pl.enc, X.enc, ep, x0, fZ]
     | ok u6 l6 =>
      have hx := cG hx x6
      try dsimp only at hx
      have s6 := bH h6 x6; obtain rfl := Option.some.inj hx; refine ⟨s6, fun b Y hb => ?_⟩; have e1 := aT h1 x1 hb; have e2 := aD (aG hr s1 d [46] (b := b)) (s := Y) hb; have e4 := aD (aG hr s1 d [91] (b := b)) (s := Y) hb; have e5 := aT h5 rfl hb; have e6 := aT h6 x6 hb; rw [mr]; obtain ⟨N, T, Lb, hN, hT, hL⟩ := lens3 Y; rw [hN] at hb
      conv => lhs; rw [← ao (Y.af false b (pc ts l d))]
      simp only [pc, pcf, aM, Tok.c, bw, aa, if_true, if_false, ab, cq, eF, i2, i4] at e1 e2 e4 e5 e6 ⊢; cases x5
      generalize aC ts = es at *
      simp [vI, hN, hT, hL, hb, e1, e2, e4, e5, e6, i2, i4, Pl.enc, X.enc, ep, x0, fZ]
   | false =>
    rw [if_neg (by rw [i4]; decide)] at hx; obtain rfl := Option.some.inj hx; refine ⟨s1, fun b Y hb => ?_⟩; have e1 := aT h1 x1 hb; have e2 := aD (aG hr s1 d [46] (b := b)) (s := Y) hb; have e4 := aD (aG hr s1 d [91] (b := b)) (s := Y) hb; rw [mr]; obtain ⟨N, T, Lb, hN, hT, hL⟩ := lens3 Y; rw [hN] at hb
    conv => lhs; rw [← ao (Y.af false b (pc ts l d))]
    simp only [pc, pcf, aM, Tok.c, bw, aa, if_true, if_false, ab, cq, eF, i2, i4] at e1 e2 e4 ⊢
    generalize aC ts = es at *
    simp [vI, hN, hT, hL, hb, e1, e2, e4, i2, i4, Pl.enc, X.enc, ep, x0, fZ]
theorem qS {ts : List Tok} (hr : Row ts) {n : Nat} (ih : nc ts n) {d : Nat} {l : List Tok} {x : PR Rt} (hd12 : d ≤ 12) (h : Sfx ts l) (hx : iJ n d l = some x) : Rd 155 [] ts d d l eY x := by
 have e67 := fun b (Y : St) hb => aD (dO h d 0 0 0 (b := b)) (s := Y) hb
 simp only [iJ] at hx
 cases i1 : isT l [108, 111, 97, 100] with
 | true =>
  rw [if_pos i1] at hx; have s1 := h.isT hr i1; obtain ⟨y2, hy2⟩ := dF hx; rw [hy2] at hx; have h2 := um hr ih hd12 s1 hy2
  cases y2 with
  | bad e q =>
   obtain rfl := bS hx rfl; obtain ⟨a', d'', eb⟩ := bC h2 rfl; refine ⟨a', d'', fun b Y hb => ?_⟩; have eb := eb hb; have e67 := e67 b Y hb; have e1 := aD (aG hr h d [108, 111, 97, 100] (b := b)) (s := Y) hb; rw [jC]; obtain ⟨N, T, Lb, hN, hT, hL⟩ := lens3 Y; rw [hN] at hb
   conv => lhs; rw [← ao (Y.af false b (pc ts l d))]
   simp only [pc, pcf, aM, Tok.c, bw, aa, if_true, if_false, ab, cq, eF, eY, i1] at e67 e1 eb ⊢
   generalize aC ts = es at *
   simp [sa, hN, hT, hL, hb, e67, e1, eb, i1, Rt.enc, Pl.enc, X.enc, ep, x0, pl0, fZ]
  | ok p2 l2 =>
   have hx := cG hx rfl
   try dsimp only at hx
   have s2 := bH h2 rfl; obtain rfl := Option.some.inj hx; refine ⟨s2, fun b Y hb => ?_⟩; have e67 := e67 b Y hb; have e1 := aD (aG hr h d [108, 111, 97, 100] (b := b)) (s := Y) hb; have e2 := aT h2 rfl hb; rw [jC]; obtain ⟨N, T, Lb, hN, hT, hL⟩ := lens3 Y; rw [hN] at hb
   conv => lhs; rw [← ao (Y.af false b (pc ts l d))]
   simp only [pc, pcf, aM, Tok.c, bw, aa, if_true, if_false, ab, cq, eF, eY, i1] at e67 e1 e2 ⊢; obtain ⟨_, _, _, ⟨⟩, _, _⟩ := p2
   generalize aC ts = es at *
   simp [sa, hN, hT, hL, hb, e67, e1, e2, i1, Rt.enc, Pl.enc, X.enc, ep, x0, pl0, fZ]
 | false =>
  rw [if_neg (by rw [i1]; decide)] at hx
  cases i3 : isT l [115, 105, 122, 101] with
  | true =>
   rw [if_pos i3] at hx; have s3 := h.isT hr i3; have h4 := ik hr s3 d 1
   cases x4 : eg 1 l.tail with
   | bad e q =>
    obtain rfl := bS hx x4; obtain ⟨a', d'', eb⟩ := bC h4 x4; refine ⟨a', d'', fun b Y hb => ?_⟩; have eb := eb hb; have e67 := e67 b Y hb; have e1 := aD (aG hr h d [108, 111, 97, 100] (b := b)) (s := Y) hb; have e3 := aD (aG hr h d [115, 105, 122, 101] (b := b)) (s := Y) hb; rw [jC]; obtain ⟨N, T, Lb, hN, hT, hL⟩ := lens3 Y; rw [hN] at hb
    conv => lhs; rw [← ao (Y.af false b (pc ts l d))]
    simp only [pc, pcf, aM, Tok.c, bw, aa, if_true, if_false, ab, cq, eF, eY, i1, i3] at e67 e1 e3 eb ⊢
    generalize aC ts = es at *
    simp [sa, hN, hT, hL, hb, e67, e1, e3, eb, i1, i3, Rt.enc, Pl.enc, X.enc, ep, x0, pl0, fZ]
   | ok t4 l4 =>
    have hx := cG hx x4
    try dsimp only at hx
    have s4 := bH h4 x4; obtain rfl := Option.some.inj hx; refine ⟨s4, fun b Y hb => ?_⟩; have e67 := e67 b Y hb; have e1 := aD (aG hr h d [108, 111, 97, 100] (b := b)) (s := Y) hb; have e3 := aD (aG hr h d [115, 105, 122, 101] (b := b)) (s := Y) hb; have e4 := aT h4 x4 hb; rw [jC]; obtain ⟨N, T, Lb, hN, hT, hL⟩ := lens3 Y; rw [hN] at hb
    conv => lhs; rw [← ao (Y.af false b (pc ts l d))]
    simp only [pc, pcf, aM, Tok.c, bw, aa, if_true, if_false, ab, cq, eF, eY, i1, i3] at e67 e1 e3 e4 ⊢
    generalize aC ts = es at *
    simp [sa, hN, hT, hL, hb, e67, e1, e3, e4, i1, i3, Rt.enc, Pl.enc, X.enc, ep, x0, pl0, fZ]
  | false =>
   rw [if_neg (by rw [i3]; decide)] at hx
   cases i5 : isT l [110, 101, 119] with
   | true =>
    rw [if_pos i5] at hx; have s5 := h.isT hr i5
    cases i6 : isT l.tail [105, 110, 116, 115] with
    | true =>
     rw [if_pos i6] at hx; have s6 := s5.isT hr i6; obtain ⟨y7, hy7⟩ := dF hx; rw [hy7] at hx; have h7 := lh hr ih hd12 s6 hy7
     cases y7 with
     | bad e q =>
      obtain rfl := bS hx rfl; obtain ⟨a', d'', eb⟩ := bC h7 rfl; refine ⟨a', d'', fun b Y hb => ?_⟩; have eb := eb hb; have e67 := e67 b Y hb; have e1 := aD (aG hr h d [108, 111, 97, 100] (b := b)) (s := Y) hb; have e3 := aD (aG hr h d [115, 105, 122, 101] (b := b)) (s := Y) hb; have e5 := aD (aG hr h d [110, 101, 119] (b := b)) (s := Y) hb; have e6 := aD (aG hr s5 d [105, 110, 116, 115] (b := b)) (s := Y) hb; rw [jC]; obtain ⟨N, T, Lb, hN, hT, hL⟩ := lens3 Y; rw [hN] at hb
      conv => lhs; rw [← ao (Y.af false b (pc ts l d))]
      simp only [pc, pcf, aM, Tok.c, bw, aa, if_true, if_false, ab, cq, eF, eY, i1, i3, i5, i6] at e67 e1 e3 e5 e6 eb ⊢
      generalize aC ts = es at *
      simp [sa, hN, hT, hL, hb, e67, e1, e3, e5, e6, eb, i1, i3, i5, i6, Rt.enc, Pl.enc, X.enc, ep, x0, pl0, fZ]
     | ok x7 l7 =>
      have hx := cG hx rfl
      try dsimp only at hx
      have s7 := bH h7 rfl; obtain rfl := Option.some.inj hx; refine ⟨s7, fun b Y hb => ?_⟩; have e67 := e67 b Y hb; have e1 := aD (aG hr h d [108, 111, 97, 100] (b := b)) (s := Y) hb; have e3 := aD (aG hr h d [115, 105, 122, 101] (b := b)) (s := Y) hb; have e5 := aD (aG hr h d [110, 101, 119] (b := b)) (s := Y) hb; have e6 := aD (aG hr s5 d [105, 110, 116, 115] (b := b)) (s := Y) hb; have e7 := aT h7 rfl hb; rw [jC]; obtain ⟨N, T, Lb, hN, hT, hL⟩ := lens3 Y; rw [hN] at hb
      conv => lhs; rw [← ao (Y.af false b (pc ts l d))]
      simp only [pc, pcf, aM, Tok.c, bw, aa, if_true, if_false, ab, cq, eF, eY, i1, i3, i5, i6] at e67 e1 e3 e5 e6 e7 ⊢; cases x7
      generalize aC ts = es at *
      simp [sa, hN, hT, hL, hb, e67, e1, e3, e5, e6, e7, i1, i3, i5, i6, Rt.enc, Pl.enc, X.enc, ep, x0, pl0, fZ]
    | false =>
     rw [if_neg (by rw [i6]; decide)] at hx; have h8 := ik hr s5 d 1
     cases x8 : eg 1 l.tail with
     | bad e q =>
      obtain rfl := bS hx x8; obtain ⟨a', d'', eb⟩ := bC h8 x8; refine ⟨a', d'', fun b Y hb => ?_⟩; have eb := eb hb; have e67 := e67 b Y hb; have e1 := aD (aG hr h d [108, 111, 97, 100] (b := b)) (s := Y) hb; have e3 := aD (aG hr h d [115, 105, 122, 101] (b := b)) (s := Y) hb; have e5 := aD (aG hr h d [110, 101, 119] (b := b)) (s := Y) hb; have e6 := aD (aG hr s5 d [105, 110, 116, 115] (b := b)) (s := Y) hb; rw [jC]; obtain ⟨N, T, Lb, hN, hT, hL⟩ := lens3 Y; rw [hN] at hb
      conv => lhs; rw [← ao (Y.af false b (pc ts l d))]
      simp only [pc, pcf, aM, Tok.c, bw, aa, if_true, if_false, ab, cq, eF, eY, i1, i3, i5, i6] at e67 e1 e3 e5 e6 eb ⊢
      generalize aC ts = es at *
      simp [sa, hN, hT, hL, hb, e67, e1, e3, e5, e6, eb, i1, i3, i5, i6, Rt.enc, Pl.enc, X.enc, ep, x0, pl0, fZ]
     | ok t8 l8 =>
      have hx := cG hx x8
      try dsimp only at hx
      have s8 := bH h8 x8; obtain rfl := Option.some.inj hx; refine ⟨s8, fun b Y hb => ?_⟩; have e67 := e67 b Y hb; have e1 := aD (aG hr h d [108, 111, 97, 100] (b := b)) (s := Y) hb; have e3 := aD (aG hr h d [115, 105, 122, 101] (b := b)) (s := Y) hb; have e5 := aD (aG hr h d [110, 101, 119] (b := b)) (s := Y) hb; have e6 := aD (aG hr s5 d [105, 110, 116, 115] (b := b)) (s := Y) hb; have e8 := aT h8 x8 hb; rw [jC]; obtain ⟨N, T, Lb, hN, hT, hL⟩ := lens3 Y; rw [hN] at hb
      conv => lhs; rw [← ao (Y.af false b (pc ts l d))]
      simp only [pc, pcf, aM, Tok.c, bw, aa, if_true, if_false, ab, cq, eF, eY, i1, i3, i5, i6] at e67 e1 e3 e5 e6 e8 ⊢
      generalize aC ts = es at *
      simp [sa, hN, hT, hL, hb, e67, e1, e3, e5, e6, e8, i1, i3, i5, i6, Rt.enc, Pl.enc, X.enc, ep, x0, pl0, fZ]
   | false =>
    rw [if_neg (by rw [i5]; decide)] at hx; obtain ⟨y9, hy9⟩ := dF hx; rw [hy9] at hx; have h9 := lh hr ih hd12 h hy9
    cases y9 with
    | bad e q =>
     obtain rfl := bS hx rfl; obtain ⟨a', d'', eb⟩ := bC h9 rfl; refine ⟨a', d'', fun b Y hb => ?_⟩; have eb := eb hb; have e67 := e67 b Y hb; have e1 := aD (aG hr h d [108, 111, 97, 100] (b := b)) (s := Y) hb; have e3 := aD (aG hr h d [115, 105, 122, 101] (b := b)) (s := Y) hb; have e5 := aD (aG hr h d [110, 101, 119] (b := b)) (s := Y) hb; rw [jC]; obtain ⟨N, T, Lb, hN, hT, hL⟩ := lens3 Y; rw [hN] at hb
     conv => lhs; rw [← ao (Y.af false b (pc ts l d))]
     simp only [pc, pcf, aM, Tok.c, bw, aa, if_true, if_false, ab, cq, eF, eY, i1, i3, i5] at e67 e1 e3 e5 eb ⊢
     generalize aC ts = es at *
     simp [sa, hN, hT, hL, hb, e67, e1, e3, e5, eb, i1, i3, i5, Rt.enc, Pl.enc, X.enc, ep, x0, pl0, fZ]
    | ok x9 l9 =>
     have hx := cG hx rfl
     try dsimp only at hx
     have s9 := bH h9 rfl; obtain rfl := Option.some.inj hx; refine ⟨s9, fun b Y hb => ?_⟩; have e67 := e67 b Y hb; have e1 := aD (aG hr h d [108, 111, 97, 100] (b := b)) (s := Y) hb; have e3 := aD (aG hr h d [115, 105, 122, 101] (b := b)) (s := Y) hb; have e5 := aD (aG hr h d [110, 101, 119] (b := b)) (s := Y) hb; have e9 := aT h9 rfl hb; rw [jC]; obtain ⟨N, T, Lb, hN, hT, hL⟩ := lens3 Y; rw [hN] at hb
     conv => lhs; rw [← ao (Y.af false b (pc ts l d))]
     simp only [pc, pcf, aM, Tok.c, bw, aa, if_true, if_false, ab, cq, eF, eY, i1, i3, i5] at e67 e1 e3 e5 e9 ⊢; cases x9
     generalize aC ts = es at *
     simp [sa, hN, hT, hL, hb, e67, e1, e3, e5, e9, i1, i3, i5, Rt.enc, Pl.enc, X.enc, ep, x0, pl0, fZ]
end Go.Proofs.YtlhlijaondmccaaGreatDoor.S
namespace Go.Proofs.YtlhlijaondmccaaGreatDoor.S
open Go Go.AM Go.Proofs
def gE (o : Int) (nm : ByteArray) (rt pl e : List PV) (n : Int) (ar : List (List PV)) (ca : Cap) (bo : List (List PV)) (cb : Cap) (el : List (List PV)) (ce : Cap) (ln cl : Int) : List PV :=
 .v (.int .i64 o) :: .v (.string nm) :: (rt ++ (pl ++ (e ++ [.v (.int .i64 n), .sl ar ca, .sl bo cb, .sl el ce, .v (.int .i64 ln), .v (.int .i64 cl)])))
def y9 : List PV := z9
def y14 : List PV := [.v (.int .i64 0), str [], str []] ++ z9 ++ [.v (.int .i64 0), .v (.int .i64 0)]
def y27 : List PV := [.v (.int .i64 0)] ++ z9 ++ y14 ++ [str [], .v (.int .i64 0), .v (.int .i64 0)]
def y58 (ln cl : Int) : List PV := gE 0 (bs []) y27 y14 y9 0 [] .nil [] .nil [] .nil ln cl
theorem Ds : y9.length = 9 := by decide
theorem zZ : y14.length = 14 := by decide
theorem z8 : y27.length = 27 := by decide
theorem Dt : aJ y9 = true := by decide
theorem z6 : aJ y14 = true := by decide
theorem Aa : aJ y27 = true := by decide
theorem FD : y9.all dN = true := by decide
theorem Dp : y14.all dN = true := by decide
theorem Dq : y27.all dN = true := by decide
theorem Dr : y9.map bU = x0.enc := by rw [X.bJ]; rfl
theorem zY : y14.map bU = pl0.enc := by rw [Pl.enc, X.bJ]; rfl
theorem z7 : y27.map bU = rt0.enc := by rw [Rt.enc, Pl.enc, X.bJ, X.bJ]; rfl
theorem yG : [PV.v (.int .i64 0), .v (.string (bs [])), .v (.int .i64 0), .v (.int .i64 0), .v (.int .i64 0), .v (.int .u64 0), .v (.int .i64 0), .v (.string (bs [])), .v (.string (bs [])), .sl [] .nil, .v (.int .i64 0), .v (.int .i64 0), .v (.int .i64 0), .v (.string (bs [])), .v (.string (bs [])), .v (.int .i64 0), .v (.int .i64 0), .v (.int .u64 0), .v (.int .i64 0), .v (.string (bs [])), .v (.string (bs [])), .sl [] .nil, .v (.int .i64 0), .v (.int .i64 0), .v (.int .i64 0), .v (.int .i64 0), .v (.string (bs [])), .v (.int .i64 0), .v (.int .i64 0), .v (.int .i64 0), .v (.string (bs [])), .v (.string (bs [])), .v (.int .i64 0), .v (.int .i64 0), .v (.int .u64 0), .v (.int .i64 0), .v (.string (bs [])), .v (.string (bs [])), .sl [] .nil, .v (.int .i64 0), .v (.int .i64 0), .v (.int .i64 0), .v (.int .i64 0), .v (.int .i64 0), .v (.int .i64 0), .v (.int .u64 0), .v (.int .i64 0), .v (.string (bs [])), .v (.string (bs [])), .sl [] .nil, .v (.int .i64 0), .v (.int .i64 0), .v (.int .i64 0), .sl [] .nil, .sl [] .nil, .sl [] .nil, .v (.int .i64 0), .v (.int .i64 0)] = y58 0 0 := rfl
theorem Ab (a b : Int) : bq [(0, 1), (1, 1), (2, 27), (29, 14), (43, 9), (52, 1), (53, 1), (54, 1), (55, 1), (56, 1), (57, 1)] (y58 0 0) [(9, .v (.int .i64 a)), (10, .v (.int .i64 b))] = some (.agg (gE 0 (bs []) y27 y14 y9 0 [] .nil [] .nil [] .nil a b)) := rfl
theorem Ad (a b : Int) : ((y58 0 0).set 56 (.v (.int .i64 a))).set 57 (.v (.int .i64 b)) = gE 0 (bs []) y27 y14 y9 0 [] .nil [] .nil [] .nil a b := rfl
theorem Ac (a b : Int) : (y58 a b).length = 58 := rfl
theorem xy (a b : Int) (cs : List PV) (h : cs.length = 58) : laid (y58 a b) 0 cs = cs := iw _ _ (by rw [h]; rfl)
section
variable {o : Int} {nm : ByteArray} {rt pl e : List PV} {n : Int} {ar : List (List PV)} {ca : Cap} {bo : List (List PV)} {cb : Cap} {el : List (List PV)} {ce : Cap} {ln cl : Int}
theorem xI (h1 : rt.length = 27) (h2 : pl.length = 14) (h3 : e.length = 9) : (gE o nm rt pl e n ar ca bo cb el ce ln cl).length = 58 := by simp [gE, h1, h2, h3]
theorem yZ (a : Int) : (gE o nm rt pl e n ar ca bo cb el ce ln cl).set 0 (.v (.int .i64 a)) = gE a nm rt pl e n ar ca bo cb el ce ln cl := rfl
theorem y6 (a : ByteArray) : (gE o nm rt pl e n ar ca bo cb el ce ln cl).set 1 (.v (.string a)) = gE o a rt pl e n ar ca bo cb el ce ln cl := rfl
theorem uO (h1 : rt.length = 27) (h2 : pl.length = 14) (h3 : e.length = 9) (k : Nat) (v : PV) : (gE o nm rt pl e n ar ca bo cb el ce ln cl).set (52 + k) v =
 .v (.int .i64 o) :: .v (.string nm) :: (rt ++ (pl ++ (e ++ [.v (.int .i64 n), .sl ar ca, .sl bo cb, .sl el ce, .v (.int .i64 ln), .v (.int .i64 cl)].set k v))) := by
 unfold gE; rw [show 52 + k = (50 + k) + 1 + 1 by omega, List.set_cons_succ, List.set_cons_succ, List.set_append_right _ _ (by omega), List.set_append_right _ _ (by omega), List.set_append_right _ _ (by omega), show 50 + k - rt.length - pl.length - e.length = k by omega]
theorem vP (h1 : rt.length = 27) (h2 : pl.length = 14) (h3 : e.length = 9) (a : Int) : (gE o nm rt pl e n ar ca bo cb el ce ln cl).set 52 (.v (.int .i64 a)) = gE o nm rt pl e a ar ca bo cb el ce ln cl := uO h1 h2 h3 0 _
theorem vQ (h1 : rt.length = 27) (h2 : pl.length = 14) (h3 : e.length = 9) (a : List (List PV)) (c : Cap) : (gE o nm rt pl e n ar ca bo cb el ce ln cl).set 53 (.sl a c) = gE o nm rt pl e n a c bo cb el ce ln cl := uO h1 h2 h3 1 _
theorem vR (h1 : rt.length = 27) (h2 : pl.length = 14) (h3 : e.length = 9) (a : List (List PV)) (c : Cap) : (gE o nm rt pl e n ar ca bo cb el ce ln cl).set 54 (.sl a c) = gE o nm rt pl e n ar ca a c el ce ln cl := uO h1 h2 h3 2 _
theorem vS (h1 : rt.length = 27) (h2 : pl.length = 14) (h3 : e.length = 9) (a : List (List PV)) (c : Cap) : (gE o nm rt pl e n ar ca bo cb el ce ln cl).set 55 (.sl a c) = gE o nm rt pl e n ar ca bo cb a c ln cl := uO h1 h2 h3 3 _
theorem Fi (h1 : rt.length = 27) (cs : List PV) (hc : cs.length = 27) : laid (gE o nm rt pl e n ar ca bo cb el ce ln cl) 2 cs = gE o nm cs pl e n ar ca bo cb el ce ln cl := by
 have := laidB [.v (.int .i64 o), .v (.string nm)] rt (pl ++ (e ++ [.v (.int .i64 n), .sl ar ca, .sl bo cb, .sl el ce, .v (.int .i64 ln), .v (.int .i64 cl)])) cs (by omega); simpa [gE] using this
theorem BH (h1 : rt.length = 27) (h2 : pl.length = 14) (cs : List PV) (hc : cs.length = 14) : laid (gE o nm rt pl e n ar ca bo cb el ce ln cl) 29 cs = gE o nm rt cs e n ar ca bo cb el ce ln cl := by
 have := laidB (.v (.int .i64 o) :: .v (.string nm) :: rt) pl (e ++ [.v (.int .i64 n), .sl ar ca, .sl bo cb, .sl el ce, .v (.int .i64 ln), .v (.int .i64 cl)]) cs (by omega); simpa [gE, h1] using this
theorem BI (h1 : rt.length = 27) (h2 : pl.length = 14) (h3 : e.length = 9) (cs : List PV) (hc : cs.length = 9) : laid (gE o nm rt pl e n ar ca bo cb el ce ln cl) 43 cs = gE o nm rt pl cs n ar ca bo cb el ce ln cl := by
 have := laidB (.v (.int .i64 o) :: .v (.string nm) :: (rt ++ pl)) e [.v (.int .i64 n), .sl ar ca, .sl bo cb, .sl el ce, .v (.int .i64 ln), .v (.int .i64 cl)] cs (by omega); simpa [gE, h1, h2] using this
theorem y8 (h1 : rt.length = 27) (h2 : pl.length = 14) (h3 : e.length = 9) : (gE o nm rt pl e n ar ca bo cb el ce ln cl).take 58 = gE o nm rt pl e n ar ca bo cb el ce ln cl := List.take_of_length_le (by rw [xI h1 h2 h3]; omega)
theorem zK : ∀ (a b : List PV), aJ (a ++ b) = (aJ a && aJ b)
 | [], b => rfl
 | x :: a, b => by
  have := zK a b
  cases x <;> first | exact this | rfl
theorem BJ (h1 : aJ rt = true) (h2 : aJ pl = true) (h3 : aJ e = true) : aJ (gE o nm rt pl e n ar ca bo cb el ce ln cl) = true := by
 simp [gE, aJ, zK, h1, h2, h3]
theorem Fh (h1 : rt.all dN = true) (h2 : pl.all dN = true) (h3 : e.all dN = true) : (gE o nm rt pl e n ar ca bo cb el ce ln cl).all dN = true := by
 simp only [gE, bG, List.all_append, h1, h2, h3, cg]; rfl
theorem xJ : (gE o nm rt pl e n ar ca bo cb el ce ln cl).map bU = gE o nm (rt.map bU) (pl.map bU) (e.map bU) n ar .dead bo .dead el .dead ln cl := by
 simp only [gE, bc, List.map_append, bh]; rfl
theorem BG : ai (.agg (gE o nm rt pl e n ar ca bo cb el ce ln cl)) = .agg (gE o nm (rt.map bU) (pl.map bU) (e.map bU) n ar .dead bo .dead el .dead ln cl) := by
 rw [← xJ]; rfl
end
theorem S.zh (op : Int) (name : ByteArray) (r : Rt) (p : Pl) (e : X) (n : Int) (args : List X) (body els : List S) (ln cl : Int) : S.enc ⟨op, name, r, p, e, n, args, body, els, ln, cl⟩ = gE op name r.enc p.enc e.enc n (ep args) .dead (dQ body) .dead (dQ els) .dead ln cl := by
 simp only [S.enc, gE, List.append_assoc, al, aU]
end Go.Proofs.YtlhlijaondmccaaGreatDoor.S
namespace Go.Proofs.YtlhlijaondmccaaGreatDoor.S
open Go Go.AM Go.Proofs
attribute [local simp] cX cx bY bZ cy fq fv ec de dY db dZ dc fu cc im dS iq ic hO AM.ae aR aS bf aN aE AM.onG gb bW ef Ex.bn cond_true cond_false cT cS cR cQ cP cV cO cW cU ed dh di cw cY AM.du AM.cellsOf AM.an bX beq_true cM ah ay bj bz bT decide_true decide_false bF bE bu bD bg aB az aU al cZ da ft aA bI ba bR cC dR dX cJ eE eD set_set eI dy fT dz cI bK dx dw cH dv eH eJ fM fN bM cu eB fL dW aV aX aI AM.aY ai dt bU bc bh aP aO AM.part br aQ cf cm cj cn cn.eS AM.dN bG cg dJ fW aV laid aJ bq cz
attribute [-simp] aj
attribute [local congr] dK
abbrev en (s : S) : PV := .agg s.enc
abbrev cE (xs : List S) : PV := .sl (dQ xs) .dead
abbrev fS (xs : List X) : PV := .sl (ep xs) .dead
abbrev fC (t : Tok) (name : ByteArray) : PV := .agg (gE 0 name rt0.enc pl0.enc x0.enc 0 [] .dead [] .dead [] .dead t.p.1 t.p.2)
theorem BU (n : Int) : fE Tryz.prog 34 3 (.v (.int .u64 n)) = some (.v (.int .i64 (IntKind.i64.wrap n))) := by kernel_rfl
theorem S.take (x : S) : x.enc.take 58 = x.enc := List.take_of_length_le (by rw [S.len]; omega)
structure sb (ts : List Tok) (n : Nat) : Prop where
 blk : ∀ d l x, d ≤ 12 → Sfx ts l → eX n d l = some x → Rd 73 [] ts d d l cE x
 lp : ∀ d t name l x, d ≤ 12 → Sfx ts l → iF n d t name l = some x → Rd 153 [fC t name] ts d d l en x
 st : ∀ d l x, d ≤ 12 → Sfx ts l → ju n d l = some x → Rd 124 [] ts d d l en x
attribute [local simp] xI yZ y6 vP vQ vR vS Fi BH BI y8 BJ Fh xJ BG yG Ab Ad Ac xy Ds zZ z8 Dt z6 Aa FD Dp Dq Dr zY z7 X.len Pl.len Rt.len X.okc Pl.okc Rt.okc X.fl Pl.fl Rt.fl X.lD Pl.lD Rt.lD S.zh S.len S.okc S.fl S.lD S.can S.take fZ qG BU ep dQ
section
variable {ts : List Tok} (hr : Row ts) {n : Nat} (ihe : nc ts n) (ih : sb ts n)
include hr ih
theorem EN (d : Nat) (t : Tok) (name : ByteArray) (l : List Tok) (x : PR S) (hd12 : d ≤ 12) (h : Sfx ts l) (hx : iF (n + 1) d t name l = some x) : Rd 153 [fC t name] ts d d l en x := by
 simp only [iF] at hx; have h1 := ik hr h d 3
 cases x1 : eg 3 l with
 | bad e q =>
  obtain rfl := bS hx x1; obtain ⟨a', d'', eb⟩ := bC h1 x1; refine ⟨a', d'', fun b Y hb => ?_⟩; have eb := eb hb; rw [uI]; obtain ⟨N, T, Lb, hN, hT, hL⟩ := lens3 Y; rw [hN] at hb
  conv => lhs; rw [← ao (Y.af false b (pc ts l d))]
  simp only [pc, pcf, aM, Tok.c, bw, aa, if_true, if_false, ab, cq, eF, eY, en, cE, fC] at eb ⊢
  generalize aC ts = es at *
  simp (maxDischargeDepth := 8) [D4, hN, hT, hL, hb, eb]
 | ok u1 l1 =>
  have hx := cG hx x1
  try dsimp only at hx
  have s1 := bH h1 x1; obtain ⟨y2, hy2⟩ := dF hx; rw [hy2] at hx; have h2 := ih.blk _ _ _ hd12 s1 hy2
  cases y2 with
  | bad e q =>
   obtain rfl := bS hx rfl; obtain ⟨a', d'', eb⟩ := bC h2 rfl; refine ⟨a', d'', fun b Y hb => ?_⟩; have eb := eb hb; have e1 := aT h1 x1 hb; rw [uI]; obtain ⟨N, T, Lb, hN, hT, hL⟩ := lens3 Y; rw [hN] at hb
   conv => lhs; rw [← ao (Y.af false b (pc ts l d))]
   simp only [pc, pcf, aM, Tok.c, bw, aa, if_true, if_false, ab, cq, eF, eY, en, cE, fC] at e1 eb ⊢
   generalize aC ts = es at *
   simp (maxDischargeDepth := 8) [D4, hN, hT, hL, hb, e1, eb]
  | ok b2 l2 =>
   have hx := cG hx rfl
   try dsimp only at hx
   have s2 := bH h2 rfl; obtain rfl := Option.some.inj hx; refine ⟨s2, fun b Y hb => ?_⟩; have e1 := aT h1 x1 hb; have e2 := aT h2 rfl hb; rw [uI]; obtain ⟨N, T, Lb, hN, hT, hL⟩ := lens3 Y; rw [hN] at hb
   conv => lhs; rw [← ao (Y.af false b (pc ts l d))]
   simp only [pc, pcf, aM, Tok.c, bw, aa, if_true, if_false, ab, cq, eF, eY, en, cE, fC] at e1 e2 ⊢
   generalize aC ts = es at *
   simp (maxDischargeDepth := 8) [D4, hN, hT, hL, hb, e1, e2]
include ihe
theorem Al (d : Nat) (l : List Tok) (x : PR S) (hd12 : d ≤ 12) (h : Sfx ts l)
 (hx : (if isT (dp l) [58] then pb (some (dm [108, 111, 111, 112] (dp l).tail)) fun _ l1 => iF n d (hd l) (bs (hd l).text) l1
  else pb (some (dm [61] (dp l))) fun _ l1 => pb (iJ n d l1) fun r l2 => gn (mkS (hd l) 3 (bs (hd l).text) r pl0 x0 0 [] [] []) l2) = some x) : Rd 152 [fC (hd l) (bs [])] ts d d l en x := by
 have s0 := h.next hr
 have e151 := fun b (Y : St) hb => aD (ll hr h d (b := b)) (s := Y) hb
 cases i1 : isT (dp l) [58] with
 | true =>
  rw [if_pos i1] at hx; have s1 := s0.isT hr i1; have h2 := eW hr s1 d [108, 111, 111, 112]
  cases x2 : dm [108, 111, 111, 112] (dp l).tail with
  | bad e q =>
   obtain rfl := bS hx x2; obtain ⟨a', d'', eb⟩ := bC h2 x2; refine ⟨a', d'', fun b Y hb => ?_⟩; have eb := eb hb; have e151 := e151 b Y hb; have e1 := aD (aG hr s0 d [58] (b := b)) (s := Y) hb; rw [mq]; obtain ⟨N, T, Lb, hN, hT, hL⟩ := lens3 Y; rw [hN] at hb
   conv => lhs; rw [← ao (Y.af false b (pc ts l d))]
   simp only [pc, pcf, aM, Tok.c, bw, aa, if_true, if_false, ab, cq, eF, eY, en, cE, fC, i1] at e151 e1 eb ⊢
   generalize aC ts = es at *
   simp (maxDischargeDepth := 8) [vH, hN, hT, hL, hb, e151, e1, eb, i1]
  | ok u2 l2 =>
   have hx := cG hx x2
   try dsimp only at hx
   have s2 := bH h2 x2; have h3 := ih.lp _ _ _ _ _ hd12 s2 hx
   cases x with
   | bad e q =>
    obtain ⟨a', d'', eb⟩ := bC h3 rfl; refine ⟨a', d'', fun b Y hb => ?_⟩; have eb := eb hb; have e151 := e151 b Y hb; have e1 := aD (aG hr s0 d [58] (b := b)) (s := Y) hb; have e2 := aT h2 x2 hb; rw [mq]; obtain ⟨N, T, Lb, hN, hT, hL⟩ := lens3 Y; rw [hN] at hb
    conv => lhs; rw [← ao (Y.af false b (pc ts l d))]
    simp only [pc, pcf, aM, Tok.c, bw, aa, if_true, if_false, ab, cq, eF, eY, en, cE, fC, i1] at e151 e1 e2 eb ⊢
    generalize aC ts = es at *
    simp (maxDischargeDepth := 8) [vH, hN, hT, hL, hb, e151, e1, e2, eb, i1]
   | ok v3 l3 =>
    refine ⟨bH h3 rfl, fun b Y hb => ?_⟩; have e151 := e151 b Y hb; have e1 := aD (aG hr s0 d [58] (b := b)) (s := Y) hb; have e2 := aT h2 x2 hb; have e3 := aT h3 rfl hb; rw [mq]; obtain ⟨N, T, Lb, hN, hT, hL⟩ := lens3 Y; rw [hN] at hb
    conv => lhs; rw [← ao (Y.af false b (pc ts l d))]
    simp only [pc, pcf, aM, Tok.c, bw, aa, if_true, if_false, ab, cq, eF, eY, en, cE, fC, i1] at e151 e1 e2 e3 ⊢
    generalize aC ts = es at *
    simp (maxDischargeDepth := 8) [vH, hN, hT, hL, hb, e151, e1, e2, e3, i1]
 | false =>
  rw [if_neg (by rw [i1]; decide)] at hx; have h4 := eW hr s0 d [61]
  cases x4 : dm [61] (dp l) with
  | bad e q =>
   obtain rfl := bS hx x4; obtain ⟨a', d'', eb⟩ := bC h4 x4; refine ⟨a', d'', fun b Y hb => ?_⟩; have eb := eb hb; have e151 := e151 b Y hb; have e1 := aD (aG hr s0 d [58] (b := b)) (s := Y) hb; rw [mq]; obtain ⟨N, T, Lb, hN, hT, hL⟩ := lens3 Y; rw [hN] at hb
   conv => lhs; rw [← ao (Y.af false b (pc ts l d))]
   simp only [pc, pcf, aM, Tok.c, bw, aa, if_true, if_false, ab, cq, eF, eY, en, cE, fC, i1] at e151 e1 eb ⊢
   generalize aC ts = es at *
   simp (maxDischargeDepth := 8) [vH, hN, hT, hL, hb, e151, e1, eb, i1]
  | ok u4 l4 =>
   have hx := cG hx x4
   try dsimp only at hx
   have s4 := bH h4 x4; obtain ⟨y5, hy5⟩ := dF hx; rw [hy5] at hx; have h5 := qS hr ihe hd12 s4 hy5
   cases y5 with
   | bad e q =>
    obtain rfl := bS hx rfl; obtain ⟨a', d'', eb⟩ := bC h5 rfl; refine ⟨a', d'', fun b Y hb => ?_⟩; have eb := eb hb; have e151 := e151 b Y hb; have e1 := aD (aG hr s0 d [58] (b := b)) (s := Y) hb; have e4 := aT h4 x4 hb; rw [mq]; obtain ⟨N, T, Lb, hN, hT, hL⟩ := lens3 Y; rw [hN] at hb
    conv => lhs; rw [← ao (Y.af false b (pc ts l d))]
    simp only [pc, pcf, aM, Tok.c, bw, aa, if_true, if_false, ab, cq, eF, eY, en, cE, fC, i1] at e151 e1 e4 eb ⊢
    generalize aC ts = es at *
    simp (maxDischargeDepth := 8) [vH, hN, hT, hL, hb, e151, e1, e4, eb, i1]
   | ok r5 l5 =>
    have hx := cG hx rfl
    try dsimp only at hx
    have s5 := bH h5 rfl; unfold gn at hx; have h6 := eW hr s5 d [59]
    cases x6 : dm [59] l5 with
    | bad e q =>
     obtain rfl := bS hx x6; obtain ⟨a', d'', eb⟩ := bC h6 x6; refine ⟨a', d'', fun b Y hb => ?_⟩; have eb := eb hb; have e151 := e151 b Y hb; have e1 := aD (aG hr s0 d [58] (b := b)) (s := Y) hb; have e4 := aT h4 x4 hb; have e5 := aT h5 rfl hb; rw [mq]; obtain ⟨N, T, Lb, hN, hT, hL⟩ := lens3 Y; rw [hN] at hb
     conv => lhs; rw [← ao (Y.af false b (pc ts l d))]
     simp only [pc, pcf, aM, Tok.c, bw, aa, if_true, if_false, ab, cq, eF, eY, en, cE, fC, i1] at e151 e1 e4 e5 eb ⊢
     generalize aC ts = es at *
     simp (maxDischargeDepth := 8) [vH, hN, hT, hL, hb, e151, e1, e4, e5, eb, i1]
    | ok u6 l6 =>
     have hx := cG hx x6
     try dsimp only at hx
     have s6 := bH h6 x6; obtain rfl := Option.some.inj hx; refine ⟨s6, fun b Y hb => ?_⟩; have e151 := e151 b Y hb; have e1 := aD (aG hr s0 d [58] (b := b)) (s := Y) hb; have e4 := aT h4 x4 hb; have e5 := aT h5 rfl hb; have e6 := aT h6 x6 hb; rw [mq]; obtain ⟨N, T, Lb, hN, hT, hL⟩ := lens3 Y; rw [hN] at hb
     conv => lhs; rw [← ao (Y.af false b (pc ts l d))]
     simp only [pc, pcf, aM, Tok.c, bw, aa, if_true, if_false, ab, cq, eF, eY, en, cE, fC, i1] at e151 e1 e4 e5 e6 ⊢
     generalize aC ts = es at *
     simp (maxDischargeDepth := 8) [vH, hN, hT, hL, hb, e151, e1, e4, e5, e6, i1]
theorem Ak (d : Nat) (t : Tok) (l : List Tok) (x : PR S) (hd12 : d ≤ 12) (h : Sfx ts l)
 (hx : (pb (dT n 0 d l) fun e l1 => pb (eX n d l1) fun b l2 =>
  (if isT l2 [101, 108, 115, 101] then pb (eX n d l2.tail) fun c l3 => some (.ok (mkS t 6 (bs []) rt0 pl0 e 0 [] b c) l3) else some (.ok (mkS t 6 (bs []) rt0 pl0 e 0 [] b []) l2))) = some x) : Rd 154 [fC t (bs [])] ts d d l en x := by
 obtain ⟨y1, hy1⟩ := dF hx; rw [hy1] at hx; have h1 := lh hr ihe hd12 h hy1
 cases y1 with
 | bad e q =>
  obtain rfl := bS hx rfl; obtain ⟨a', d'', eb⟩ := bC h1 rfl; refine ⟨a', d'', fun b Y hb => ?_⟩; have eb := eb hb; rw [pf]; obtain ⟨N, T, Lb, hN, hT, hL⟩ := lens3 Y; rw [hN] at hb
  conv => lhs; rw [← ao (Y.af false b (pc ts l d))]
  simp only [pc, pcf, aM, Tok.c, bw, aa, if_true, if_false, ab, cq, eF, eY, en, cE, fC] at eb ⊢
  generalize aC ts = es at *
  simp (maxDischargeDepth := 8) [Af, hN, hT, hL, hb, eb]
 | ok x1 l1 =>
  have hx := cG hx rfl
  try dsimp only at hx
  have s1 := bH h1 rfl; obtain ⟨y2, hy2⟩ := dF hx; rw [hy2] at hx; have h2 := ih.blk _ _ _ hd12 s1 hy2
  cases y2 with
  | bad e q =>
   obtain rfl := bS hx rfl; obtain ⟨a', d'', eb⟩ := bC h2 rfl; refine ⟨a', d'', fun b Y hb => ?_⟩; have eb := eb hb; have e1 := aT h1 rfl hb; rw [pf]; obtain ⟨N, T, Lb, hN, hT, hL⟩ := lens3 Y; rw [hN] at hb
   conv => lhs; rw [← ao (Y.af false b (pc ts l d))]
   simp only [pc, pcf, aM, Tok.c, bw, aa, if_true, if_false, ab, cq, eF, eY, en, cE, fC] at e1 eb ⊢
   generalize aC ts = es at *
   simp (maxDischargeDepth := 8) [Af, hN, hT, hL, hb, e1, eb]
  | ok b2 l2 =>
   have hx := cG hx rfl
   try dsimp only at hx
   have s2 := bH h2 rfl
   cases i3 : isT l2 [101, 108, 115, 101] with
   | true =>
    rw [if_pos i3] at hx; have s3 := s2.isT hr i3; obtain ⟨y4, hy4⟩ := dF hx; rw [hy4] at hx; have h4 := ih.blk _ _ _ hd12 s3 hy4
    cases y4 with
    | bad e q =>
     obtain rfl := bS hx rfl; obtain ⟨a', d'', eb⟩ := bC h4 rfl; refine ⟨a', d'', fun b Y hb => ?_⟩; have eb := eb hb; have e1 := aT h1 rfl hb; have e2 := aT h2 rfl hb; have e3 := aD (aG hr s2 d [101, 108, 115, 101] (b := b)) (s := Y) hb; rw [pf]; obtain ⟨N, T, Lb, hN, hT, hL⟩ := lens3 Y; rw [hN] at hb
     conv => lhs; rw [← ao (Y.af false b (pc ts l d))]
     simp only [pc, pcf, aM, Tok.c, bw, aa, if_true, if_false, ab, cq, eF, eY, en, cE, fC, i3] at e1 e2 e3 eb ⊢
     generalize aC ts = es at *
     simp (maxDischargeDepth := 8) [Af, hN, hT, hL, hb, e1, e2, e3, eb, i3]
    | ok b4 l4 =>
     have hx := cG hx rfl
     try dsimp only at hx
     have s4 := bH h4 rfl; obtain rfl := Option.some.inj hx; refine ⟨s4, fun b Y hb => ?_⟩; have e1 := aT h1 rfl hb; have e2 := aT h2 rfl hb; have e3 := aD (aG hr s2 d [101, 108, 115, 101] (b := b)) (s := Y) hb; have e4 := aT h4 rfl hb; rw [pf]; obtain ⟨N, T, Lb, hN, hT, hL⟩ := lens3 Y; rw [hN] at hb
     conv => lhs; rw [← ao (Y.af false b (pc ts l d))]
     simp only [pc, pcf, aM, Tok.c, bw, aa, if_true, if_false, ab, cq, eF, eY, en, cE, fC, i3] at e1 e2 e3 e4 ⊢
     generalize aC ts = es at *
     simp (maxDischargeDepth := 8) [Af, hN, hT, hL, hb, e1, e2, e3, e4, i3]
   | false =>
    rw [if_neg (by rw [i3]; decide)] at hx; obtain rfl := Option.some.inj hx; refine ⟨s2, fun b Y hb => ?_⟩; have e1 := aT h1 rfl hb; have e2 := aT h2 rfl hb; have e3 := aD (aG hr s2 d [101, 108, 115, 101] (b := b)) (s := Y) hb; rw [pf]; obtain ⟨N, T, Lb, hN, hT, hL⟩ := lens3 Y; rw [hN] at hb
    conv => lhs; rw [← ao (Y.af false b (pc ts l d))]
    simp only [pc, pcf, aM, Tok.c, bw, aa, if_true, if_false, ab, cq, eF, eY, en, cE, fC, i3] at e1 e2 e3 ⊢
    generalize aC ts = es at *
    simp (maxDischargeDepth := 8) [Af, hN, hT, hL, hb, e1, e2, e3, i3]
end
end Go.Proofs.YtlhlijaondmccaaGreatDoor.S
