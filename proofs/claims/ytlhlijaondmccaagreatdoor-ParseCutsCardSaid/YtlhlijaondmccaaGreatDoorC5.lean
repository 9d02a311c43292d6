/- Part 5 of the proof of a law of the parser, its names made short by a program. No condition. -/
import Derived.Test.YtlhlijaondmccaaGreatDoorC4
set_option linter.all false
set_option maxRecDepth 100000
set_option maxHeartbeats 4000000
open _root_.Bool renaming and_eq_true → an, and_self → bn, and_true → bC, false_eq_true → ae, not_false → bf, not_true → bA, or_eq_true → iQ, true_and → bm
open _root_.Int renaming cast_ofNat_Int → aa, natCast_zero → eB
open _root_.List renaming all_cons → bq, all_eq_true → dH, all_nil → bT, cons_append → aA, drop_nil → bY, drop_succ_cons → aK, drop_zero → aO, getD_cons_succ → aL, getD_cons_zero → aM, getElem?_cons_succ → az, getElem?_cons_zero → aB, getElem?_eq_getElem → cO, isPrefixOf → ef, length_append → bH, length_cons → ai, length_drop → cz, length_nil → aD, length_singleton → bz, map_cons → aZ, map_nil → bc, modify_succ_cons → aI, modify_zero_cons → aJ, nil_append → bg, take_left → bB, take_nil → bM, take_succ_cons → aw, take_zero → bj, toList_toArray → aR
open _root_.Nat renaming add_zero → bu, beq → aj, ble → dI, blt → fZ, le_refl → av, reduceAdd → bP, zero_add → bh, zero_le → dE
open _root_.Option renaming bind_none → aY, bind_some → ag, map_some → aN
namespace Go.Proofs.YtlhlijaondmccaaGreatDoor.S
open Go Go.AM Go.Proofs
attribute [local simp] cY cu bV bW cv dS fk dY dh dW dc dX de fj bX gU dR gW gK gE AM.ab aL aM ag aY aN ay AM.onG fK bF dF Ex.ba cond_true cond_false cU cT cS cR cQ cW cP cX cV dZ di dj cr cZ AM.du AM.cellsOf AM.ao bE beq_true dm ai aD bh bu bP decide_true decide_false bC bm bn bA bf aB az bg aA da db fg aw bB bj bM cw dQ dU cI eu ep set_set eD dA fE dB cF bG dz cE dy cD dx eC eE fA fB bK cq eo fw ed aV aR aF AM.aQ ah dt bU aZ bc aJ aI AM.part aO aK bY cg cf cn cn.eS AM.dL bq bT
theorem EE (P : Program) (cst : Bool) (t : TypeId) (a b : UInt8) : aH P cst .or t (.v (.int .u8 (a.toNat : Int))) (.v (.int .u8 (b.toNat : Int))) = some (.v (.int .u8 ((a ||| b).toNat : Int))) := by
 have h : binOp .or t (.int .u8 (a.toNat : Int)) (.int .u8 (b.toNat : Int)) = pure (.int .u8 ((a ||| b).toNat : Int)) := by
  have e : ∀ x : UInt8, BitVec.ofInt 8 (x.toNat : Int) = x.toBitVec := fun x => by
   rw [BitVec.ofInt_natCast]; exact BitVec.eq_of_toNat_eq (by simp)
  have e2 : (BitVec.ofInt IntKind.u8.bits (a.toNat : Int) ||| BitVec.ofInt IntKind.u8.bits (b.toNat : Int)).toNat = (a ||| b).toNat := by
   show (BitVec.ofInt 8 (a.toNat : Int) ||| BitVec.ofInt 8 (b.toNat : Int)).toNat = _
   rw [e, e]; rfl
  have e3 : IntKind.u8.wrap ((a ||| b).toNat : Int) = ((a ||| b).toNat : Int) := IntWalk.u8_in _ (by have := (a ||| b).toNat_lt; omega)
  show (pure (.int .u8 (IntKind.u8.wrap ((BitVec.ofInt IntKind.u8.bits (a.toNat : Int) ||| BitVec.ofInt IntKind.u8.bits (b.toNat : Int)).toNat : Int))) : Sem Value) = _
  rw [e2, e3]
 rw [pq, h]; exact gb P _ rfl
theorem uB (c : UInt8) (st : St) : E L (.func 177) [.v (.int .u8 (c.toNat : Int))] st = some (.v (.int .u8 ((c ||| 32).toNat : Int)), st) := by
 rw [Es]; obtain ⟨N, T, Lb, hN, hT, hL⟩ := lens3 st
 conv => lhs; rw [← al (st)]
 have h := EE Tryz.prog true 5 c 32; simp only [show ((32 : UInt8).toNat : Int) = 32 from rfl] at h; simp [HG, hN, hT, hL, h]
def kC (c : UInt8) : Nat := if 48 ≤ c.toNat ∧ c.toNat ≤ 57 then c.toNat - 48 else if 97 ≤ (c ||| 32).toNat ∧ (c ||| 32).toNat ≤ 122 then (c ||| 32).toNat - 87 else 255
def pu (B cut mx : Nat) : List UInt8 → Nat → Nat × Option Nat
 | [], n => (n, none)
 | c :: t, n => if B ≤ kC c then (0, some 2) else if cut ≤ n then (mx, some 1) else if mx < n * B + kC c then (mx, some 1) else pu B cut mx t (n * B + kC c)
theorem lr (n : Int) : IntKind.u64.wrap n = n % 18446744073709551616 := by
 simp [IntKind.wrap, IntKind.bits, IntKind.signed]
abbrev pV (B cut mx : Nat) (t s0 : List UInt8) (n i : Nat) : List PV := [PV.v (.int .i64 (B : Int)), .v (.int .u64 0), .v .nilIface, .v (.bool false), str s0, .v (.int .u64 (cut : Int)), .v (.int .u64 (mx : Int)), .v (.bool false), .v (.int .u64 (n : Int)), .sl (t.map gO) .dead, .v (.int .i64 (t.length : Int)), .v (.int .i64 (i : Int))]
theorem wQ {t s0 : List UInt8} {B cut mx n i d : Nat} (hB : 2 ≤ B ∧ B ≤ 36) (hcut : ∀ n, n < cut → n * B < 18446744073709551616) (hmx : mx < 18446744073709551616) (hc64 : cut < 18446744073709551616) {X : St} {N T Lb : Nat} (hN : X.stk.length = N) (hT : X.tk.length = T) (hL : X.lp.length = Lb) (hi : i < t.length) (hlen : t.length < 4611686018427387904) (ht : 48 ≤ t[i].toNat ∧ t[i].toNat ≤ 57) (hd : d = t[i].toNat - 48) :
 ∃ vs, i7.b0 (E L) itE N Lb (pV B cut mx t s0 n i) (X.app [] [] []) = some (if B ≤ d ∨ cut ≤ n ∨ mx < n * B + d then .ret else .normal, vs, X.app [] [] []) ∧
  (if B ≤ d then AM.ab vs 1 = .v (.int .u64 0) ∧ AM.ab vs 2 = .ifc 212 (.int .i64 2) else if cut ≤ n ∨ mx < n * B + d then AM.ab vs 1 = .v (.int .u64 (mx : Int)) ∧ AM.ab vs 2 = .ifc 212 (.int .i64 1) else vs = pV B cut mx t s0 (n * B + d) (i + 1)) := by
 have hx := EU (l := t) (c := .dead) .i64 hi
 generalize t[i] = c at *
 have clt := c.toNat_lt
 have hlt : (i : Int) < (t.length : Int) := by omega
 have wi : IntKind.i64.wrap ((i : Int) + 1) = (i : Int) + 1 := IntWalk.i64_in _ (by omega); have wB8 : IntKind.u8.wrap (B : Int) = B := IntWalk.u8_in _ (by omega); have wB64 : IntKind.u64.wrap (B : Int) = B := IntWalk.u64_in _ (by omega)
 have i95 : ¬ ((c.toNat : Int) = 95) := by omega
 have i1 : (48 : Int) ≤ (c.toNat : Int) := by omega
 have i2 : (c.toNat : Int) ≤ 57 := by omega
 have wd : IntKind.u8.wrap ((c.toNat : Int) - 48) = (d : Int) := by rw [IntWalk.u8_in _ (by omega)]; omega
 have wd64 : IntKind.u64.wrap (d : Int) = d := IntWalk.u64_in _ (by omega)
 by_cases g1 : B ≤ d
 · have j1 : (B : Int) ≤ (d : Int) := by omega
   simp [i7.b0, hN, hT, hL, hlt, hx, gO, i95, i1, i2, wd, fG, iI, hO, ga, wB8, wB64, wd64, wi, g1, j1]
 have j1 : ¬ ((B : Int) ≤ (d : Int)) := by omega
 by_cases g2 : cut ≤ n
 · have j2 : (cut : Int) ≤ (n : Int) := by omega
   simp [i7.b0, hN, hT, hL, hlt, hx, gO, i95, i1, i2, wd, fG, iI, hO, ga, wB8, wB64, wd64, wi, g1, j1, g2, j2]
 have j2 : ¬ ((cut : Int) ≤ (n : Int)) := by omega
 have hm := hcut n (by omega)
 have wm : IntKind.u64.wrap ((n : Int) * (B : Int)) = ((n * B : Nat) : Int) := by rw [← Int.natCast_mul]; exact IntWalk.u64_in _ (by omega)
 generalize n * B = m at *
 by_cases g3 : mx < m + d
 · by_cases g4 : m + d < 18446744073709551616
   · have wa : IntKind.u64.wrap ((m : Int) + (d : Int)) = (m : Int) + (d : Int) := IntWalk.u64_in _ (by omega)
     have j3 : ¬ ((m : Int) + (d : Int) < (m : Int)) := by omega
     have j4 : (mx : Int) < (m : Int) + (d : Int) := by omega
     simp [i7.b0, hN, hT, hL, hlt, hx, gO, i95, i1, i2, wd, fG, iI, hO, ga, wB8, wB64, wd64, wi, g1, j1, g2, j2, wm, wa, g3, j3, j4]
   · have wa : IntKind.u64.wrap ((m : Int) + (d : Int)) = (m : Int) + (d : Int) - 18446744073709551616 := by rw [lr]; omega
     have j3 : (m : Int) + (d : Int) - 18446744073709551616 < (m : Int) := by omega
     simp [i7.b0, hN, hT, hL, hlt, hx, gO, i95, i1, i2, wd, fG, iI, hO, ga, wB8, wB64, wd64, wi, g1, j1, g2, j2, wm, wa, g3, j3]
 · have wa : IntKind.u64.wrap ((m : Int) + (d : Int)) = (m : Int) + (d : Int) := IntWalk.u64_in _ (by omega)
   have j3 : ¬ ((m : Int) + (d : Int) < (m : Int)) := by omega
   have j4 : ¬ ((mx : Int) < (m : Int) + (d : Int)) := by omega
   simp [i7.b0, hN, hT, hL, hlt, hx, gO, i95, i1, i2, wd, fG, iI, hO, ga, wB8, wB64, wd64, wi, g1, j1, g2, j2, wm, wa, g3, j3, j4]
theorem vn {t s0 : List UInt8} {B cut mx n i d : Nat} (hB : 2 ≤ B ∧ B ≤ 36) (hcut : ∀ n, n < cut → n * B < 18446744073709551616) (hmx : mx < 18446744073709551616) (hc64 : cut < 18446744073709551616) {X : St} {N T Lb : Nat} (hN : X.stk.length = N) (hT : X.tk.length = T) (hL : X.lp.length = Lb) (hi : i < t.length) (hlen : t.length < 4611686018427387904) (h57 : 57 < t[i].toNat) (h95 : t[i].toNat ≠ 95) (ht : 97 ≤ (t[i] ||| 32).toNat ∧ (t[i] ||| 32).toNat ≤ 122) (hd : d = (t[i] ||| 32).toNat - 87) :
 ∃ vs, i7.b0 (E L) itE N Lb (pV B cut mx t s0 n i) (X.app [] [] []) = some (if B ≤ d ∨ cut ≤ n ∨ mx < n * B + d then .ret else .normal, vs, X.app [] [] []) ∧
  (if B ≤ d then AM.ab vs 1 = .v (.int .u64 0) ∧ AM.ab vs 2 = .ifc 212 (.int .i64 2) else if cut ≤ n ∨ mx < n * B + d then AM.ab vs 1 = .v (.int .u64 (mx : Int)) ∧ AM.ab vs 2 = .ifc 212 (.int .i64 1) else vs = pV B cut mx t s0 (n * B + d) (i + 1)) := by
 have hx := EU (l := t) (c := .dead) .i64 hi
 generalize t[i] = c at *
 have clt := c.toNat_lt
 have hlt : (i : Int) < (t.length : Int) := by omega
 have wi : IntKind.i64.wrap ((i : Int) + 1) = (i : Int) + 1 := IntWalk.i64_in _ (by omega); have wB8 : IntKind.u8.wrap (B : Int) = B := IntWalk.u8_in _ (by omega); have wB64 : IntKind.u64.wrap (B : Int) = B := IntWalk.u64_in _ (by omega)
 have i95 : ¬ ((c.toNat : Int) = 95) := by omega
 have i1 : (48 : Int) ≤ (c.toNat : Int) := by omega
 have i2 : ¬ ((c.toNat : Int) ≤ 57) := by omega
 have hl := uB c
 generalize (c ||| 32).toNat = lo at *
 have i3 : (97 : Int) ≤ (lo : Int) := by omega
 have i4 : (lo : Int) ≤ 122 := by omega
 have wd0 : IntKind.u8.wrap ((lo : Int) - 97) = (lo : Int) - 97 := IntWalk.u8_in _ (by omega)
 have wd : IntKind.u8.wrap ((lo : Int) - 97 + 10) = (d : Int) := by rw [IntWalk.u8_in _ (by omega)]; omega
 have wd64 : IntKind.u64.wrap (d : Int) = d := IntWalk.u64_in _ (by omega)
 by_cases g1 : B ≤ d
 · have j1 : (B : Int) ≤ (d : Int) := by omega
   simp [i7.b0, hN, hT, hL, hlt, hx, gO, i95, i1, i2, hl, i3, i4, wd0, wd, fG, iI, hO, ga, wB8, wB64, wd64, wi, g1, j1]
 have j1 : ¬ ((B : Int) ≤ (d : Int)) := by omega
 by_cases g2 : cut ≤ n
 · have j2 : (cut : Int) ≤ (n : Int) := by omega
   simp [i7.b0, hN, hT, hL, hlt, hx, gO, i95, i1, i2, hl, i3, i4, wd0, wd, fG, iI, hO, ga, wB8, wB64, wd64, wi, g1, j1, g2, j2]
 have j2 : ¬ ((cut : Int) ≤ (n : Int)) := by omega
 have hm := hcut n (by omega)
 have wm : IntKind.u64.wrap ((n : Int) * (B : Int)) = ((n * B : Nat) : Int) := by rw [← Int.natCast_mul]; exact IntWalk.u64_in _ (by omega)
 generalize n * B = m at *
 by_cases g3 : mx < m + d
 · by_cases g4 : m + d < 18446744073709551616
   · have wa : IntKind.u64.wrap ((m : Int) + (d : Int)) = (m : Int) + (d : Int) := IntWalk.u64_in _ (by omega)
     have j3 : ¬ ((m : Int) + (d : Int) < (m : Int)) := by omega
     have j4 : (mx : Int) < (m : Int) + (d : Int) := by omega
     simp [i7.b0, hN, hT, hL, hlt, hx, gO, i95, i1, i2, hl, i3, i4, wd0, wd, fG, iI, hO, ga, wB8, wB64, wd64, wi, g1, j1, g2, j2, wm, wa, g3, j3, j4]
   · have wa : IntKind.u64.wrap ((m : Int) + (d : Int)) = (m : Int) + (d : Int) - 18446744073709551616 := by rw [lr]; omega
     have j3 : (m : Int) + (d : Int) - 18446744073709551616 < (m : Int) := by omega
     simp [i7.b0, hN, hT, hL, hlt, hx, gO, i95, i1, i2, hl, i3, i4, wd0, wd, fG, iI, hO, ga, wB8, wB64, wd64, wi, g1, j1, g2, j2, wm, wa, g3, j3]
 · have wa : IntKind.u64.wrap ((m : Int) + (d : Int)) = (m : Int) + (d : Int) := IntWalk.u64_in _ (by omega)
   have j3 : ¬ ((m : Int) + (d : Int) < (m : Int)) := by omega
   have j4 : ¬ ((mx : Int) < (m : Int) + (d : Int)) := by omega
   simp [i7.b0, hN, hT, hL, hlt, hx, gO, i95, i1, i2, hl, i3, i4, wd0, wd, fG, iI, hO, ga, wB8, wB64, wd64, wi, g1, j1, g2, j2, wm, wa, g3, j3, j4]
theorem yd {t s0 : List UInt8} {B cut mx n i : Nat} (hB : 2 ≤ B ∧ B ≤ 36) (hcut : ∀ n, n < cut → n * B < 18446744073709551616) (hmx : mx < 18446744073709551616) (hc64 : cut < 18446744073709551616) {X : St} {N T Lb : Nat} (hN : X.stk.length = N) (hT : X.tk.length = T) (hL : X.lp.length = Lb) (hi : i < t.length) (hlen : t.length < 4611686018427387904) (ht : ¬ (48 ≤ t[i].toNat ∧ t[i].toNat ≤ 57)) (ht' : ¬ (97 ≤ (t[i] ||| 32).toNat ∧ (t[i] ||| 32).toNat ≤ 122)) :
 ∃ vs, i7.b0 (E L) itE N Lb (pV B cut mx t s0 n i) (X.app [] [] []) = some (.ret, vs, X.app [] [] []) ∧ AM.ab vs 1 = .v (.int .u64 0) ∧ AM.ab vs 2 = .ifc 212 (.int .i64 2) := by
 have hx := EU (l := t) (c := .dead) .i64 hi
 generalize t[i] = c at *
 have clt := c.toNat_lt
 have hlt : (i : Int) < (t.length : Int) := by omega
 have wi : IntKind.i64.wrap ((i : Int) + 1) = (i : Int) + 1 := IntWalk.i64_in _ (by omega); have wB8 : IntKind.u8.wrap (B : Int) = B := IntWalk.u8_in _ (by omega); have wB64 : IntKind.u64.wrap (B : Int) = B := IntWalk.u64_in _ (by omega)
 by_cases h95 : c = 95
 · subst h95
   have hl : ∀ st, E L (.func 177) [.v (.int .u8 95)] st = some (.v (.int .u8 127), st) := fun st => uB 95 st
   simp [i7.b0, hN, hT, hL, hlt, hx, gO, fG, hl]
 have i95 : ¬ ((c.toNat : Int) = 95) := fun h => h95 (UInt8.toNat_inj.1 (by simpa using Int.ofNat_inj.1 h))
 have hl := uB c
 generalize (c ||| 32).toNat = lo at *
 by_cases i1 : (48 : Int) ≤ (c.toNat : Int)
 · have i2 : ¬ ((c.toNat : Int) ≤ 57) := by omega
   by_cases i3 : (97 : Int) ≤ (lo : Int)
   · have i4 : ¬ ((lo : Int) ≤ 122) := by omega
     simp [i7.b0, hN, hT, hL, hlt, hx, gO, fG, hl, i95, i1, i2, i3, i4]
   · simp [i7.b0, hN, hT, hL, hlt, hx, gO, fG, hl, i95, i1, i2, i3]
 · by_cases i3 : (97 : Int) ≤ (lo : Int)
   · have i4 : ¬ ((lo : Int) ≤ 122) := by omega
     simp [i7.b0, hN, hT, hL, hlt, hx, gO, fG, hl, i95, i1, i3, i4]
   · simp [i7.b0, hN, hT, hL, hlt, hx, gO, fG, hl, i95, i1, i3]
theorem tW (c : UInt8) (h : 97 ≤ (c ||| 32).toNat ∧ (c ||| 32).toNat ≤ 122) : 57 < c.toNat ∧ c.toNat ≠ 95 := by
 have key : ∀ n, n < 256 → 97 ≤ (UInt8.ofNat n ||| 32).toNat ∧ (UInt8.ofNat n ||| 32).toNat ≤ 122 → 57 < (UInt8.ofNat n).toNat ∧ (UInt8.ofNat n).toNat ≠ 95 := by decide +kernel
 have := key c.toNat c.toNat_lt; rw [UInt8.ofNat_toNat] at this; exact this h
def PLo (t s0 : List UInt8) (B cut mx : Nat) (X : St) (N Lb : Nat) (suf : List UInt8) (n i : Nat) : Prop :=
 ∃ x vs, itE (i7.b0 (E L) itE N Lb) (pV B cut mx t s0 n i) (X.app [] [] []) = some (x, vs, X.app [] [] []) ∧
  (match (pu B cut mx suf n).2 with
   | none => x = .exit 3 ∧ vs = pV B cut mx t s0 (pu B cut mx suf n).1 t.length
   | some k => x = .ret ∧ AM.ab vs 1 = .v (.int .u64 ((pu B cut mx suf n).1 : Int)) ∧ AM.ab vs 2 = .ifc 212 (.int .i64 (k : Int)))
theorem sI {t s0 : List UInt8} {B cut mx : Nat} (hB : 2 ≤ B ∧ B ≤ 36) (hcut : ∀ n, n < cut → n * B < 18446744073709551616) (hmx : mx < 18446744073709551616) (hc64 : cut < 18446744073709551616) {X : St} {N T Lb : Nat} (hN : X.stk.length = N) (hT : X.tk.length = T) (hL : X.lp.length = Lb) (hlen : t.length < 4611686018427387904) :
 ∀ (suf pre : List UInt8) (n : Nat), t = pre ++ suf →
 PLo t s0 B cut mx X N Lb suf n pre.length := by
 intro suf
 induction suf with
 | nil =>
  intro pre n ht
  have ht : t = pre := by simpa using ht
  subst ht; refine ⟨.exit 3, pV B cut mx t s0 n t.length, ?_, rfl, rfl⟩; apply ft; simp [i7.b0, hN, hT, hL]
 | cons c suf ih =>
  intro pre n ht
  have ht' : t = (pre ++ [c]) ++ suf := by simp [ht]
  have hl : pre.length < t.length := by rw [ht]; simp
  have hg : t[pre.length] = c := by simp [ht]
  have fin : ∀ d, d = kC c → (∃ vs, i7.b0 (E L) itE N Lb (pV B cut mx t s0 n pre.length) (X.app [] [] []) = some (if B ≤ d ∨ cut ≤ n ∨ mx < n * B + d then .ret else .normal, vs, X.app [] [] []) ∧
   (if B ≤ d then AM.ab vs 1 = .v (.int .u64 0) ∧ AM.ab vs 2 = .ifc 212 (.int .i64 2) else if cut ≤ n ∨ mx < n * B + d then AM.ab vs 1 = .v (.int .u64 (mx : Int)) ∧ AM.ab vs 2 = .ifc 212 (.int .i64 1) else vs = pV B cut mx t s0 (n * B + d) (pre.length + 1))) → PLo t s0 B cut mx X N Lb (c :: suf) n pre.length := by
   intro d hd h; obtain ⟨vs, h1, h2⟩ := h; subst hd; simp only [PLo, pu]
   by_cases g1 : B ≤ kC c
   · rw [if_pos (.inl g1)] at h1
     rw [if_pos g1] at h2; rw [if_pos g1]; exact ⟨.ret, vs, eF h1, rfl, h2.1, h2.2⟩
   · rw [if_neg g1] at h2
     rw [if_neg g1]
     by_cases g2 : cut ≤ n ∨ mx < n * B + kC c
     · rw [if_pos (.inr g2)] at h1
       rw [if_pos g2] at h2; refine ⟨.ret, vs, eF h1, ?_⟩
       by_cases g3 : cut ≤ n
       · rw [if_pos g3]; exact ⟨rfl, h2.1, h2.2⟩
       · rw [if_neg g3, if_pos (g2.resolve_left g3)]; exact ⟨rfl, h2.1, h2.2⟩
     · rw [if_neg (by rw [not_or]; exact ⟨g1, g2⟩)] at h1
       rw [if_neg g2] at h2; subst h2; rw [if_neg (fun h => g2 (.inl h)), if_neg (fun h => g2 (.inr h)), bQ h1]; have := ih (pre ++ [c]) (n * B + kC c) ht'; rw [bH, bz] at this; simp only [PLo] at this; exact this
  by_cases h1 : 48 ≤ c.toNat ∧ c.toNat ≤ 57
  · exact fin (c.toNat - 48) (by rw [kC, if_pos h1]) (wQ hB hcut hmx hc64 hN hT hL hl hlen (by rw [hg]; exact h1) (by rw [hg]))
  · by_cases h2 : 97 ≤ (c ||| 32).toNat ∧ (c ||| 32).toNat ≤ 122
    · exact fin ((c ||| 32).toNat - 87) (by rw [kC, if_neg h1, if_pos h2]) (vn hB hcut hmx hc64 hN hT hL hl hlen (by rw [hg]; exact (tW c h2).1) (by rw [hg]; exact (tW c h2).2) (by rw [hg]; exact h2) (by rw [hg]))
    · have hd : kC c = 255 := by rw [kC, if_neg h1, if_neg h2]
      obtain ⟨vs, e1, e2, e3⟩ := yd (s0 := s0) (n := n) hB hcut hmx hc64 hN hT hL hl hlen (by rw [hg]; exact h1) (by rw [hg]; exact h2); simp only [PLo, pu, hd]; rw [if_pos (by omega)]; exact ⟨.ret, vs, eF e1, rfl, e2, e3⟩
def puR (B cut mx : Nat) (t : List UInt8) : Nat × Option Nat := if t = [] then (0, some 2) else pu B cut mx t 0
def k9 : Option Nat → PV
 | none => .v .nilIface
 | some k => .ifc 212 (.int .i64 (k : Int))
theorem F0 : aH Tryz.prog true .shl 34 (.v (.int .u64 1)) (.v (.int .u64 63)) = some (.v (.int .u64 9223372036854775808)) := by kernel_rfl
theorem DZ {t : List UInt8} (h : t.length < 2147483648) (st : St) : E L (.func 170) [str t, .v (.int .i64 10), .v (.int .i64 63)] st = some (.tup [.v (.int .u64 ((puR 10 1844674407370955162 9223372036854775807 t).1 : Int)), k9 (puR 10 1844674407370955162 9223372036854775807 t).2], st) := by
 rw [yV]; obtain ⟨N, T, Lb, hN, hT, hL⟩ := lens3 st
 conv => lhs; rw [← al (st)]
 by_cases h0 : t = []
 · subst h0
   simp [i7, hN, hT, hL, fG, puR, k9]
 have wb : IntKind.u64.wrap 63 = 63 := IntWalk.u64_in _ (by omega)
 have wm : IntKind.u64.wrap 9223372036854775807 = 9223372036854775807 := by exact IntWalk.u64_in _ (by omega)
 obtain ⟨x, vs, h1, h2⟩ := sI (t := t) (s0 := t) (B := 10) (cut := 1844674407370955162) (mx := 9223372036854775807) (by omega) (fun n h => by omega) (by omega) (by omega) hN hT hL (by omega) t [] 0 rfl
 have e0 : puR 10 1844674407370955162 9223372036854775807 t = pu 10 1844674407370955162 9223372036854775807 t 0 := by rw [puR, if_neg h0]
 rw [e0]; generalize pu 10 1844674407370955162 9223372036854775807 t 0 = q at h2 ⊢; obtain ⟨r, k⟩ := q; simp only [aD, pV, eB, aa] at h1 h2
 cases k with
 | none =>
  obtain ⟨rfl, rfl⟩ := h2; simp [i7, hN, hT, hL, fG, h0, mn, lH, ky, ss, F0, wb, wm, h1, k9]
 | some k =>
  obtain ⟨rfl, h3, h4⟩ := h2; simp [AM.ab] at h3 h4; simp [i7, hN, hT, hL, fG, h0, mn, lH, ky, ss, F0, wb, wm, h1, k9, h3, h4]
theorem F1 : aH Tryz.prog true .shl 34 (.v (.int .u64 1)) (.v (.int .u64 64)) = some (.v (.int .u64 0)) := by kernel_rfl
theorem D0 {t : List UInt8} (h : t.length < 2147483648) (st : St) : E L (.func 170) [str t, .v (.int .i64 16), .v (.int .i64 64)] st = some (.tup [.v (.int .u64 ((puR 16 1152921504606846976 18446744073709551615 t).1 : Int)), k9 (puR 16 1152921504606846976 18446744073709551615 t).2], st) := by
 rw [yV]; obtain ⟨N, T, Lb, hN, hT, hL⟩ := lens3 st
 conv => lhs; rw [← al (st)]
 by_cases h0 : t = []
 · subst h0
   simp [i7, hN, hT, hL, fG, puR, k9]
 have wb : IntKind.u64.wrap 64 = 64 := IntWalk.u64_in _ (by omega)
 have wm : IntKind.u64.wrap (-1) = 18446744073709551615 := by rw [lr]; omega
 obtain ⟨x, vs, h1, h2⟩ := sI (t := t) (s0 := t) (B := 16) (cut := 1152921504606846976) (mx := 18446744073709551615) (by omega) (fun n h => by omega) (by omega) (by omega) hN hT hL (by omega) t [] 0 rfl
 have e0 : puR 16 1152921504606846976 18446744073709551615 t = pu 16 1152921504606846976 18446744073709551615 t 0 := by rw [puR, if_neg h0]
 rw [e0]; generalize pu 16 1152921504606846976 18446744073709551615 t 0 = q at h2 ⊢; obtain ⟨r, k⟩ := q; simp only [aD, pV, eB, aa] at h1 h2
 cases k with
 | none =>
  obtain ⟨rfl, rfl⟩ := h2; simp [i7, hN, hT, hL, fG, h0, mn, lH, ky, ss, F1, wb, wm, h1, k9]
 | some k =>
  obtain ⟨rfl, h3, h4⟩ := h2; simp [AM.ab] at h3 h4; simp [i7, hN, hT, hL, fG, h0, mn, lH, ky, ss, F1, wb, wm, h1, k9, h3, h4]
theorem C7 {g : List Value → Option PV} {args : List PV} {vs : List Value} {p : PV} (h1 : lE args = some vs) (h2 : g vs = some p) (h3 : nF p = true) (st : St) : jB g args st = some (p, st) := by
 simp only [AM.jB, h1, h2, ag, h3, cond_true]
theorem yO {f t : List UInt8} {b z : Int} {k : Nat} (h : t.length < 2147483648) (hk : k = 1 ∨ k = 2) (st : St) : E L (.func 171) [str f, str t, .v (.int .i64 b), .v (.int .i64 z), .ifc 212 (.int .i64 (k : Int))] st = some (.ni, st) := by
 rw [rL (L := L) (f := 171) (g := jB (sG 212)) (by kernel_rfl)]
 have h1 : t.length ≤ 281474976710656 := by omega
 have h2 : (k : Int) = 1 ∨ (k : Int) = 2 := by omega
 simp [AM.jB, AM.lE, AM.valOf, sG, cq, h1, h2, nF]
theorem Ga {n : Nat} (h : n < 18446744073709551616) (st : St) : E L (.func 31) [.v (.int .u64 (n : Int)), .v (.int .i64 10)] st = some (str (Lib.decDigits n), st) := by
 rw [rL (L := L) (f := 31) (g := jB AV) (by kernel_rfl)]
 have h1 : (n : Int) < 18446744073709551616 := by omega
 have h0 : (0 : Int) ≤ (n : Int) := by omega
 have e : AV [.int .u64 (n : Int), .int .i64 10] = some (str (Lib.decDigits n)) := by
  unfold AV
  show (if (10 : Int) = 10 ∧ 0 ≤ (n : Int) ∧ (n : Int) < 18446744073709551616 then some (PV.v (.string ⟨(Lib.decDigits (n : Int).toNat).toArray⟩)) else none) = _
  rw [if_pos ⟨rfl, h0, h1⟩, Int.toNat_natCast]
  rfl
 exact C7 rfl e rfl st
theorem DU (l : List UInt8) (c : UInt8) (st : St) : E L (.func 144) [str l, .v (.int .u8 (c.toNat : Int))] st = some (.v (.int .i64 (Lib.indexByte l c)), st) := by
 rw [rL (L := L) (f := 144) (g := jB kQ) (by kernel_rfl)]; simp [AM.jB, AM.lE, AM.valOf, kQ, nF, ji, lY]
theorem DY {a b : List UInt8} (h : a.length < 4294967281) (hb : b.length < 4294967281) (h1 : ∀ c ∈ a, c.toNat < 128) (h2 : ∀ c ∈ b, c.toNat < 128) (st : St) : E L (.func 150) [str a, str b] st = some (.v (.bool (Lib.containsAny a b)), st) := by
 rw [rL (L := L) (f := 150) (g := jB jg) (by kernel_rfl)]
 have e1 : oL (bs a) = true := by simpa [oL, lY] using h1
 have e2 : oL (bs b) = true := by simpa [oL, lY] using h2
 simp [AM.jB, AM.lE, AM.valOf, jg, cq, h, hb, e1, e2, nF, ji, lY]
theorem uz (l : List UInt8) (c : UInt8) (st : St) : E L (.func 114) [str l, .v (.int .u8 (c.toNat : Int))] st = some (.v (.int .i64 (Lib.indexByte l c)), st) := by
 rw [D8]; obtain ⟨N, T, Lb, hN, hT, hL⟩ := lens3 st
 conv => lhs; rw [← al (st)]
 simp [Hz, hN, hT, hL, DU]
theorem indexByte_ge (c : UInt8) : ∀ l : List UInt8, -1 ≤ Lib.indexByte l c ∧ (0 ≤ Lib.indexByte l c ↔ c ∈ l)
 | [] => by simp [Lib.indexByte]
 | b :: l => by
  have ih := indexByte_ge c l; simp only [Lib.indexByte]
  by_cases hb : b = c
  · simp [hb]
  · have hb' : (b == c) = false := by simpa using hb
    have hb2 : ¬ c = b := fun h => hb h.symm
    rw [hb']; simp only [ae, if_false, List.mem_cons, hb2, false_or]
    by_cases h1 : Lib.indexByte l c = -1
    · have : (Lib.indexByte l c == -1) = true := by simpa using h1
      rw [if_pos this]; rw [h1] at ih; exact ⟨by omega, by rw [← ih.2]⟩
    · have : (Lib.indexByte l c == -1) = false := by simpa using h1
      rw [this]; simp only [ae, if_false]; exact ⟨by omega, by rw [← ih.2]; omega⟩
def jk : Option Nat → PV
 | none => .v .nilIface
 | some _ => .ni
theorem C6 {B cut mx : Nat} : ∀ (t : List UInt8) (n : Nat) (k : Nat), (pu B cut mx t n).2 = some k → k = 1 ∨ k = 2
 | [], n, k, h => by cases h
 | c :: t, n, k, h => by
  simp only [pu] at h; split at h
  · right; exact (Option.some.inj h).symm
  · split at h
    · left; exact (Option.some.inj h).symm
    · split at h
      · left; exact (Option.some.inj h).symm
      · exact C6 t _ k h
theorem zU {B cut mx : Nat} {t : List UInt8} {k : Nat} (h : (puR B cut mx t).2 = some k) : k = 1 ∨ k = 2 := by
 rw [puR] at h; split at h
 · right; exact (Option.some.inj h).symm
 · exact C6 t 0 k h
theorem DW {t : List UInt8} (h : t.length < 2147483648) (st : St) : E L (.func 148) [str t, .v (.int .i64 10), .v (.int .i64 63)] st = some (.tup [.v (.int .u64 ((puR 10 1844674407370955162 9223372036854775807 t).1 : Int)), jk (puR 10 1844674407370955162 9223372036854775807 t).2], st) := by
 rw [yS]; obtain ⟨N, T, Lb, hN, hT, hL⟩ := lens3 st
 conv => lhs; rw [← al (st)]
 have h1 : ∀ X, E L (.func 170) [str t, .v (.int .i64 10), .v (.int .i64 63)] X = some (.tup [.v (.int .u64 ((puR 10 1844674407370955162 9223372036854775807 t).1 : Int)), k9 (puR 10 1844674407370955162 9223372036854775807 t).2], X) := DZ h
 have hk : ∀ k, (puR 10 1844674407370955162 9223372036854775807 t).2 = some k → k = 1 ∨ k = 2 := fun k h => zU h
 generalize puR 10 1844674407370955162 9223372036854775807 t = q at h1 hk ⊢; obtain ⟨r, k⟩ := q
 cases k with
 | none => simp [BN, hN, hT, hL, h1, k9, jk, tY]
 | some k =>
  have h49 : ∀ X, E L (.func 171) [str [80, 97, 114, 115, 101, 85, 105, 110, 116], str t, .v (.int .i64 10), .v (.int .i64 63), .ifc 212 (.int .i64 (k : Int))] X = some (.ni, X) := yO h (hk k rfl)
  simp [BN, hN, hT, hL, h1, k9, jk, tR, h49]
theorem DX {t : List UInt8} (h : t.length < 2147483648) (st : St) : E L (.func 148) [str t, .v (.int .i64 16), .v (.int .i64 64)] st = some (.tup [.v (.int .u64 ((puR 16 1152921504606846976 18446744073709551615 t).1 : Int)), jk (puR 16 1152921504606846976 18446744073709551615 t).2], st) := by
 rw [yS]; obtain ⟨N, T, Lb, hN, hT, hL⟩ := lens3 st
 conv => lhs; rw [← al (st)]
 have h1 : ∀ X, E L (.func 170) [str t, .v (.int .i64 16), .v (.int .i64 64)] X = some (.tup [.v (.int .u64 ((puR 16 1152921504606846976 18446744073709551615 t).1 : Int)), k9 (puR 16 1152921504606846976 18446744073709551615 t).2], X) := D0 h
 have hk : ∀ k, (puR 16 1152921504606846976 18446744073709551615 t).2 = some k → k = 1 ∨ k = 2 := fun k h => zU h
 generalize puR 16 1152921504606846976 18446744073709551615 t = q at h1 hk ⊢; obtain ⟨r, k⟩ := q
 cases k with
 | none => simp [BN, hN, hT, hL, h1, k9, jk, tY]
 | some k =>
  have h49 : ∀ X, E L (.func 171) [str [80, 97, 114, 115, 101, 85, 105, 110, 116], str t, .v (.int .i64 16), .v (.int .i64 64), .ifc 212 (.int .i64 (k : Int))] X = some (.ni, X) := yO h (hk k rfl)
  simp [BN, hN, hT, hL, h1, k9, jk, tR, h49]
theorem Ho : At 145 cd := ⟨fun c st h => yL _ st, false, fun c h => by simp [cd, qB, jP, kL (show (128 : Int) ≤ (c.toNat : Int) by omega), kB (show (128 : Int) ≤ (c.toNat : Int) by omega)], fun n st h => by rw [yL, kL (by omega), kB (by omega)]; rfl⟩
theorem Hp : At 149 cd := ⟨fun c st h => yN _ st, false, fun c h => by simp [cd, qB, jP, kL (show (128 : Int) ≤ (c.toNat : Int) by omega), kB (show (128 : Int) ≤ (c.toNat : Int) by omega)], fun n st h => by rw [yN, kL (by omega), kB (by omega)]; rfl⟩
def nlB (c : UInt8) : Bool := !decide (c = 10)
theorem jJ (c : UInt8) (n : Nat) (h : n < 256) : ((c.toNat : Int) = (n : Int)) = (c = UInt8.ofNat n) := by
 apply propext
 constructor
 · intro e
   have : c.toNat = n := by omega
   rw [← this, UInt8.ofNat_toNat]
 · rintro rfl
   simp [UInt8.toNat_ofNat', Nat.mod_eq_of_lt h]
theorem Hn : At 113 nlB := ⟨fun c st h => by rw [yJ]; have e : ((c.toNat : Int) = 10) = (c = 10) := jJ c 10 (by omega); simp [nlB, e], true, fun c h => by simp [nlB]; rintro rfl; simp at h, fun n st h => by rw [yJ]; simp; omega⟩
theorem DT {a b : List UInt8} (ha : a.length < 4611686018427387904) (hb : b.length < 4611686018427387904) (st : St) : E L (.func 140) [str a, str b] st = some (.v (.bool (b.isPrefixOf a)), st) := by
 rw [Ek]; obtain ⟨N, T, Lb, hN, hT, hL⟩ := lens3 st
 conv => lhs; rw [← al (st)]
 by_cases h : b.length ≤ a.length
 · have h1 : (b.length : Int) ≤ (a.length : Int) := by omega
   have e : b.isPrefixOf a = decide (a.take b.length = b) := by
    rw [Bool.eq_iff_iff, List.isPrefixOf_iff_prefix, decide_eq_true_eq, List.prefix_iff_eq_take]; exact eq_comm
   simp [Gt, hN, hT, hL, dC, h1, Dm _ h, e]
 · have h1 : ¬ ((b.length : Int) ≤ (a.length : Int)) := by omega
   have e : b.isPrefixOf a = false := by
    rw [Bool.eq_false_iff]; intro hp; exact h ((List.isPrefixOf_iff_prefix.1 hp).length_le)
   simp [Gt, hN, hT, hL, dC, h1, e]
theorem uD {a b : List UInt8} (ha : a.length < 4611686018427387904) (hb : b.length < 4611686018427387904) (st : St) : E L (.func 99) [str a, str b] st = some (.v (.bool (b.isPrefixOf a)), st) := by
 rw [GN]; obtain ⟨N, T, Lb, hN, hT, hL⟩ := lens3 st
 conv => lhs; rw [← al (st)]
 simp [S99, hN, hT, hL, DT ha hb]
def ml (c : UInt8) : Bool := [32, 9, 13, 10].contains c
def eO : List UInt8 → Nat
 | [] => 0
 | c :: l => if ([47, 47] : List UInt8).isPrefixOf (c :: l) then bx nlB (c :: l) else if ml c then 1 else 0
theorem nU : ∀ l : List UInt8, eO l ≤ l.length
 | [] => av _
 | c :: l => by
  simp only [eO]; split
  · exact iv _ _
  · split <;> simp
theorem pU {l : List UInt8} (h : ([47, 47] : List UInt8).isPrefixOf l = true) : 0 < bx nlB l := by
 cases l with
 | nil => simp [ef] at h
 | cons c l =>
  have : c = 47 := by
   simp only [ef, an, beq_iff_eq] at h; exact h.1.symm
  subst this; rw [fC, if_pos (by decide)]; omega
def fI (rest : List UInt8) (p : Nat × Nat) : List UInt8 × (Nat × Nat) :=
 if h : eO rest = 0 then (rest, p) else fI (rest.drop (eO rest)) (adv (rest.take (eO rest)) p)
termination_by rest.length
decreasing_by
 have := nU rest; simp only [cz]; omega
theorem jZ {rest : List UInt8} {n : Nat} (hn : n ≤ rest.length) {p : Nat × Nat} (hp : 1 ≤ p.2) {M : Nat} (h1 : p.1 + rest.length < M) (h2 : p.2 + rest.length < M) :
 1 ≤ (adv (rest.take n) p).2 ∧ (adv (rest.take n) p).1 + (rest.drop n).length < M ∧ (adv (rest.take n) p).2 + (rest.drop n).length < M := by
 have := rD (rest.take n) p hp; simp only [List.length_take, cz] at this ⊢; omega
theorem xJ (rest : List UInt8) (p : Nat × Nat) {M : Nat} (hp : 1 ≤ p.2) (h1 : p.1 + rest.length < M) (h2 : p.2 + rest.length < M) :
 1 ≤ (fI rest p).2.2 ∧ (fI rest p).2.1 + (fI rest p).1.length < M ∧ (fI rest p).2.2 + (fI rest p).1.length < M ∧ eO (fI rest p).1 = 0 ∧ (fI rest p).1.length ≤ rest.length := by
 induction rest, p using fI.induct with
 | case1 rest p h => rw [fI, dif_pos h]; exact ⟨hp, h1, h2, h, av _⟩
 | case2 rest p h ih =>
  rw [fI, dif_neg h]; have := jZ (nU rest) hp h1 h2; have := ih this.1 this.2.1 this.2.2; simp only [cz] at this ⊢; exact ⟨this.1, this.2.1, this.2.2.1, this.2.2.2.1, by omega⟩
theorem uy {g : Nat} {q : UInt8 → Bool} (ht : At g q) {X : St} {b : Nat} {rest : List UInt8} {x y : PV} (hb : b < X.stk.length) (hlen : rest.length < 4611686018427387904) (bl : List Blk) (tk : List (Nat × Nat)) (lp : List Aux) :
 E L (.func 112) [.ptr false b 0, .clo (.func g) []] ((X.af false b [str rest, x, y]).app bl tk lp) = some (.v (.int .i64 (bx q rest)), (X.af false b [str rest, x, y]).app bl tk lp) := by
 rw [← bK bl tk lp hb]; exact DN ht (by rw [cw]; omega) hlen
theorem nR {X : St} {b n : Nat} {rest : List UInt8} {p : Nat × Nat} (hb : b < X.stk.length) (hn : n ≤ rest.length) (hp : 1 ≤ p.2) (h1 : p.1 + rest.length < 4611686018427387904) (h2 : p.2 + rest.length < 4611686018427387904) (bl : List Blk) (tk : List (Nat × Nat)) (lp : List Aux) :
 E L (.func 111) [.ptr false b 0, .v (.int .i64 (n : Int))] ((X.af false b (rdc rest p)).app bl tk lp) = some (str (rest.take n), (X.af false b (rdc (rest.drop n) (adv (rest.take n) p))).app bl tk lp) := by
 rw [← bK bl tk lp hb, ← bK bl tk lp hb]; exact DM (by rw [cw]; omega) hn hp h1 h2
theorem xI {X : St} {N T Lb b : Nat} (hN : X.stk.length = N) (hT : X.tk.length = T) (hL : X.lp.length = Lb) (hb : b < N) : ∀ (rest : List UInt8) (p : Nat × Nat), 1 ≤ p.2 → p.1 + rest.length < 4611686018427387904 → p.2 + rest.length < 4611686018427387904 →
 itE (S65.b0 (E L) itE N Lb) [.ptr false b 0] ((X.af false b (rdc rest p)).app [] [] []) = some (.exit 0, [.ptr false b 0], (X.af false b (rdc (fI rest p).1 (fI rest p).2)).app [] [] []) := by
 intro rest p
 induction rest, p using fI.induct with
 | case1 rest p h =>
  intro hp h1 h2; rw [fI, dif_pos h]; apply ft
  cases rest with
  | nil => simp [S65.b0, hN, hT, hL, rdc, hb]
  | cons c l =>
   have hpre : ([47, 47] : List UInt8).isPrefixOf (c :: l) = false := by
    cases hq : ([47, 47] : List UInt8).isPrefixOf (c :: l) with
    | false => rfl
    | true =>
     have := pU hq; rw [eO, if_pos hq] at h; omega
   have hbl : ml c = false := by
    cases hq : ml c with
    | false => rfl
    | true => rw [eO, if_neg (by rw [hpre]; simp), if_pos hq] at h; cases h
   have e26 : ∀ X, E L (.func 99) [str (c :: l), str [47, 47]] X = some (.v (.bool false), X) := fun X => by rw [uD (by omega) (by simp), hpre]
   have e30 : ∀ X, E L (.func 114) [str [32, 9, 13, 10], .v (.int .u8 (c.toNat : Int))] X = _ := uz [32, 9, 13, 10] c
   have hi : ¬ (0 ≤ Lib.indexByte [32, 9, 13, 10] c) := by
    rw [(indexByte_ge c _).2]; simpa [ml] using hbl
   simp [S65.b0, hN, hT, hL, rdc, hb, e26, lL, e30, hi]
 | case2 rest p h ih =>
  intro hp h1 h2; rw [fI, dif_neg h]; have ad := jZ (nU rest) hp h1 h2; rw [bQ (vs' := [.ptr false b 0]) (st' := (X.af false b (rdc (rest.drop (eO rest)) (adv (rest.take (eO rest)) p))).app [] [] [])]
  · exact ih ad.1 ad.2.1 ad.2.2
  cases rest with
  | nil => simp [eO] at h
  | cons c l =>
   have e26 : ∀ X, E L (.func 99) [str (c :: l), str [47, 47]] X = some (.v (.bool (([47, 47] : List UInt8).isPrefixOf (c :: l))), X) := fun X => by rw [uD (by omega) (by simp)]
   have e27 := nR (X := X) (hN ▸ hb) (nU (c :: l)) hp h1 h2 [] [] []
   cases hpre : ([47, 47] : List UInt8).isPrefixOf (c :: l) with
   | true =>
    have hn : eO (c :: l) = bx nlB (c :: l) := by rw [eO, if_pos hpre]
    rw [hpre] at e26; have e28 := uy Hn (X := X) (b := b) (rest := c :: l) (x := .v (.int .i64 (p.1 : Int))) (y := .v (.int .i64 (p.2 : Int))) (hN ▸ hb) (by omega) [] [] []; rw [← hn] at e28
    generalize eO (c :: l) = n at *
    generalize (c :: l).drop n = r at *
    generalize (c :: l).take n = t at *
    simp only [rdc] at e27; simp [S65.b0, hN, hT, hL, rdc, hb, e26, e28, e27]
   | false =>
    rw [hpre] at e26
    have hbl : ml c = true := by
     cases hq : ml c with
     | true => rfl
     | false => rw [eO, if_neg (by rw [hpre]; simp), if_neg (by rw [hq]; simp)] at h; exact absurd rfl h
    have hn : eO (c :: l) = 1 := by rw [eO, if_neg (by rw [hpre]; simp), if_pos hbl]
    have e30 : ∀ X, E L (.func 114) [str [32, 9, 13, 10], .v (.int .u8 (c.toNat : Int))] X = _ := uz [32, 9, 13, 10] c
    have hi : 0 ≤ Lib.indexByte [32, 9, 13, 10] c := by
     rw [(indexByte_ge c _).2]; simpa [ml] using hbl
    rw [hn] at e27 ⊢; simp only [rdc, aa] at e27
    generalize (c :: l).drop 1 = r at *
    generalize (c :: l).take 1 = t at *
    simp [S65.b0, hN, hT, hL, rdc, hb, e26, lL, e30, hi, e27]
theorem Gc {s : St} {b : Nat} {rest : List UInt8} {p : Nat × Nat} (hb : b < s.stk.length) (hp : 1 ≤ p.2) (h1 : p.1 + rest.length < 4611686018427387904) (h2 : p.2 + rest.length < 4611686018427387904) :
 E L (.func 65) [.ptr false b 0] (s.af false b (rdc rest p)) = some (.tup [], s.af false b (rdc (fI rest p).1 (fI rest p).2)) := by
 rw [GB]; obtain ⟨N, T, Lb, hN, hT, hL⟩ := lens3 s; rw [hN] at hb
 conv => lhs; rw [← al (s.af false b (rdc rest p))]
 have h := xI hN hT hL hb rest p hp h1 h2; simp only [rdc] at h; simp [S65, hN, hT, hL, rdc, h]
abbrev br (k : Nat) (t : List UInt8) (v : Nat) (p : Nat × Nat) : List PV := [.v (.int .i64 (k : Int)), str t, .v (.int .u64 (v : Int)), .v (.int .i64 (p.1 : Int)), .v (.int .i64 (p.2 : Int))]
abbrev oU (t : List UInt8) : Nat × Option Nat := puR 10 1844674407370955162 9223372036854775807 t
abbrev qJ (t : List UInt8) : Nat × Option Nat := puR 16 1152921504606846976 18446744073709551615 t
def jY (t : List UInt8) : Nat × Nat × Bool :=
 if ix t then (2, 0, true) else if lg t then (1, 0, true) else (3, (oU t).1, (oU t).2.isNone && decide (Lib.decDigits (oU t).1 = t))
theorem FY {B cut mx : Nat} : ∀ (t : List UInt8) (n : Nat), n ≤ mx → (pu B cut mx t n).1 ≤ mx
 | [], n, h => h
 | c :: t, n, h => by
  simp only [pu]; split
  · exact dE _
  · split
    · exact av _
    · split
      · exact av _
      · exact FY t _ (by omega)
theorem zT (t : List UInt8) : (oU t).1 ≤ 9223372036854775807 := by
 unfold oU puR; split
 · simp
 · exact FY t 0 (dE _)
theorem DO {s : St} {b : Nat} {rest : List UInt8} {p : Nat × Nat} (hb : b < s.stk.length) (hp : 1 ≤ p.2) (h1 : p.1 + rest.length < 2147483648) (h2 : p.2 + rest.length < 2147483648) :
 E L (.func 117) [.ptr false b 0] (s.af false b (rdc rest p)) = some (.tup [.agg (br (jY (rest.take (bx cd rest))).1 (rest.take (bx cd rest)) (jY (rest.take (bx cd rest))).2.1 p), .v (.bool (jY (rest.take (bx cd rest))).2.2)],
  s.af false b (rdc (rest.drop (bx cd rest)) (adv (rest.take (bx cd rest)) p))) := by
 rw [Eb]; obtain ⟨N, T, Lb, hN, hT, hL⟩ := lens3 s; rw [hN] at hb
 conv => lhs; rw [← al (s.af false b (rdc rest p))]
 have hlt : (rest.take (bx cd rest)).length < 2147483648 := by simp; omega
 have e28 := fun bl => uy Ho (X := s) (b := b) (rest := rest) (x := .v (.int .i64 (p.1 : Int))) (y := .v (.int .i64 (p.2 : Int))) (hN ▸ hb) (by omega) bl [] []
 have e27 := fun bl => nR (X := s) (hN ▸ hb) (iv cd rest) hp (by omega) (by omega) bl [] []
 generalize bx cd rest = n at *
 generalize rest.take n = t at *
 generalize rest.drop n = r at *
 simp only [rdc] at e27
 have e14 : ∀ X, E L (.func 146) [str t] X = some (.v (.bool (ix t)), X) := yM hlt
 have e13 : ∀ X, E L (.func 147) [str t] X = some (.v (.bool (lg t)), X) := DV hlt
 have e42 : ∀ X, E L (.func 148) [str t, .v (.int .i64 10), .v (.int .i64 63)] X = some (.tup [.v (.int .u64 ((oU t).1 : Int)), jk (oU t).2], X) := DW hlt
 have e43 : ∀ X, E L (.func 31) [.v (.int .u64 ((oU t).1 : Int)), .v (.int .i64 10)] X = some (str (Lib.decDigits (oU t).1), X) := Ga (by have := zT t; omega)
 unfold jY
 cases hw : ix t with
 | true => simp [BM, hN, hT, hL, rdc, hb, e28, e27, e14, hw, aW, cj, laid, aG, br]
 | false =>
 cases hm : lg t with
 | true => simp [BM, hN, hT, hL, rdc, hb, e28, e27, e14, hw, e13, hm, aW, cj, laid, aG, br]
 | false =>
  generalize oU t = q at *
  obtain ⟨v, k⟩ := q
  cases k with
  | none => simp [BM, hN, hT, hL, rdc, hb, e28, e27, e14, hw, e13, hm, e42, e43, jk, qH, aW, cj, laid, aG, br]
  | some k => simp [BM, hN, hT, hL, rdc, hb, e28, e27, e14, hw, e13, hm, e42, e43, jk, tT, aW, cj, laid, aG, br]
theorem Ey {c : UInt8} (h : cd c = true) : c.toNat < 128 := by
 have := c.toNat_lt
 by_cases hc : c.toNat < 128
 · exact hc
 · simp [cd, qB, jP, kL (show (128 : Int) ≤ (c.toNat : Int) by omega), kB (show (128 : Int) ≤ (c.toNat : Int) by omega)] at h
theorem lW (q : UInt8 → Bool) (l : List UInt8) : ∀ c ∈ l.take (bx q l), q c = true := by
 induction l with
 | nil => simp [bx]
 | cons a l ih =>
  rw [fC]
  by_cases ha : q a = true
  · rw [if_pos ha, aw]
    intro c hc
    rcases List.mem_cons.1 hc with rfl | hc
    · exact ha
    · exact ih c hc
  · rw [if_neg ha]; simp
def mF (t : List UInt8) : Bool := (qJ t).2.isNone && decide (t.length = 16) && !Lib.containsAny (35 :: t) [65, 66, 67, 68, 69, 70]
theorem DP {s : St} {b : Nat} {l : List UInt8} {p : Nat × Nat} (hb : b < s.stk.length) (hp : 1 ≤ p.2) (h1 : p.1 + (35 :: l).length < 2147483648) (h2 : p.2 + (35 :: l).length < 2147483648) :
 E L (.func 118) [.ptr false b 0] (s.af false b (rdc (35 :: l) p)) = some (.tup [.agg (br 4 (35 :: l.take (bx cd l)) (qJ (l.take (bx cd l))).1 p), .v (.bool (mF (l.take (bx cd l))))],
  s.af false b (rdc (l.drop (bx cd l)) (adv (35 :: l.take (bx cd l)) p))) := by
 rw [Ed]; obtain ⟨N, T, Lb, hN, hT, hL⟩ := lens3 s; rw [hN] at hb
 conv => lhs; rw [← al (s.af false b (rdc (35 :: l) p))]
 simp only [ai] at h1 h2
 have hlt : (l.take (bx cd l)).length < 2147483647 := by simp; omega
 have hal := lW cd l; have ad := jZ (rest := 35 :: l) (n := 1) (by simp) hp (M := 2147483648) (by simpa using h1) (by simpa using h2); simp only [aw, bj, aK, aO] at ad
 have e27 := fun bl => nR (X := s) (b := b) (n := 1) (rest := 35 :: l) (hN ▸ hb) (by simp) hp (by simp; omega) (by simp; omega) bl [] []
 simp only [aw, bj, aK, aO, rdc, aa] at e27
 have e28 := fun bl => uy Hp (X := s) (b := b) (rest := l) (x := .v (.int .i64 ((adv [35] p).1 : Int))) (y := .v (.int .i64 ((adv [35] p).2 : Int))) (hN ▸ hb) (by omega) bl [] []
 have e27' := fun bl => nR (X := s) (b := b) (rest := l) (p := adv [35] p) (hN ▸ hb) (iv cd l) ad.1 (by omega) (by omega) bl [] []
 have ea : adv (35 :: l.take (bx cd l)) p = adv (l.take (bx cd l)) (adv [35] p) := jj [35] _ p; rw [ea]
 generalize adv [35] p = p1 at *
 generalize bx cd l = n at *
 generalize l.take n = t at *
 generalize l.drop n = r at *
 simp only [rdc] at e27'
 have es : aH Tryz.prog true .add 9 (str [35]) (str t) = some (str (35 :: t)) := by rw [rK _ _ _ _ _ (by simp [cq]; omega), nV]; rfl
 have esl : fm Tryz.prog 9 (str (35 :: t)) (some (.v (.int .i64 1))) none none = some (str t) := Dp (l := 35 :: t) (lo := 1) .i64 (by simp)
 have e42 : ∀ X, E L (.func 148) [str t, .v (.int .i64 16), .v (.int .i64 64)] X = some (.tup [.v (.int .u64 ((qJ t).1 : Int)), jk (qJ t).2], X) := DX (by omega)
 have e45 : ∀ X, E L (.func 150) [str (35 :: t), str [65, 66, 67, 68, 69, 70]] X = some (.v (.bool (Lib.containsAny (35 :: t) [65, 66, 67, 68, 69, 70])), X) := DY (by simp; omega) (by simp) (fun c hc => by
  rcases List.mem_cons.1 hc with rfl | hc
  · decide
  · exact Ey (hal c hc)) (by decide)
 unfold mF
 generalize Lib.containsAny (35 :: t) [65, 66, 67, 68, 69, 70] = ca at *
 generalize qJ t = q at *
 obtain ⟨v, k⟩ := q
 cases k with
 | none =>
  by_cases hlen : t.length = 16
  · have hl' : ((t.length : Int) + 1 = 17) := by omega
    simp [Ec, hN, hT, hL, rdc, hb, e27, e28, e27', es, esl, e42, jk, qH, dC, hlen, hl', e45, aW, cj, laid, aG, br]
  · have hl' : ¬ ((t.length : Int) + 1 = 17) := by omega
    simp [Ec, hN, hT, hL, rdc, hb, e27, e28, e27', es, esl, e42, jk, qH, dC, hlen, hl', aW, cj, laid, aG, br]
 | some k => simp [Ec, hN, hT, hL, rdc, hb, e27, e28, e27', es, esl, e42, jk, tT, aW, cj, laid, aG, br]
def iF : List UInt8 := [123, 125, 40, 41, 91, 93, 59, 58, 44, 46, 61, 60, 43, 45, 42, 47, 37]
def eQ (l : List UInt8) : Nat :=
 if ([61, 61] : List UInt8).isPrefixOf l || ([33, 61] : List UInt8).isPrefixOf l || ([60, 61] : List UInt8).isPrefixOf l then 2 else
 match l with
 | [] => 0
 | c :: _ => if iF.contains c then 1 else 0
theorem DQ {s : St} {b : Nat} {c : UInt8} {l : List UInt8} {p : Nat × Nat} (hb : b < s.stk.length) (hp : 1 ≤ p.2) (h1 : p.1 + (c :: l).length < 2147483648) (h2 : p.2 + (c :: l).length < 2147483648) :
 E L (.func 119) [.ptr false b 0] (s.af false b (rdc (c :: l) p)) = some (.tup [.agg (br 5 ((c :: l).take (eQ (c :: l))) 0 p), .v (.bool (!decide (eQ (c :: l) = 0)))],
  s.af false b (rdc ((c :: l).drop (eQ (c :: l))) (adv ((c :: l).take (eQ (c :: l))) p))) := by
 rw [Ee]; obtain ⟨N, T, Lb, hN, hT, hL⟩ := lens3 s; rw [hN] at hb
 conv => lhs; rw [← al (s.af false b (rdc (c :: l) p))]
 have hlen : (c :: l).length < 2147483648 := by omega
 have eb : kv Tryz.prog 198 [(0, str [61, 61]), (1, str [33, 61]), (2, str [60, 61])] = some (.agg [str [61, 61], str [33, 61], str [60, 61]]) := by kernel_rfl
 let V := fun (i : Int) => [PV.ptr false b 0, .ptr false N 0, .v (.bool false), .ptr false (N + 1) 0, .agg [str [61, 61], str [33, 61], str [60, 61]], .v (.int .i64 i)]
 have miss : ∀ (i : Int) (x : List UInt8), 0 ≤ i → i < 3 → cG Tryz.prog 198 (.agg [str [61, 61], str [33, 61], str [60, 61]]) (.v (.int .i64 i)) = some (str x) → x.length ≤ 2 → x.isPrefixOf (c :: l) = false → ∀ bl,
  qo.b0 (E L) itE N Lb (V i) ((s.af false b (rdc (c :: l) p)).app bl [] []) = some (.normal, V (i + 1), (s.af false b (rdc (c :: l) p)).app bl [] []) := by
  intro i x h0 h3 hx hxl hpre bl
  have e26 : ∀ X, E L (.func 99) [str (c :: l), str x] X = some (.v (.bool false), X) := fun X => by rw [uD (by omega) (by omega), hpre]
  have wi : IntKind.i64.wrap (i + 1) = i + 1 := IntWalk.i64_in _ (by omega); simp [qo.b0, V, hN, hT, hL, rdc, hb, h3, hx, e26, wi]
 have hit : ∀ (i : Int) (x : List UInt8), 0 ≤ i → i < 3 → cG Tryz.prog 198 (.agg [str [61, 61], str [33, 61], str [60, 61]]) (.v (.int .i64 i)) = some (str x) → x.length = 2 → x.isPrefixOf (c :: l) = true → ∃ y,
  qo.b0 (E L) itE N Lb (V i) ((s.af false b (rdc (c :: l) p)).app [⟨[.v (.int .i64 0), str [], .v (.int .u64 0), .v (.int .i64 0), .v (.int .i64 0)], []⟩, ⟨br 5 [] 0 p, []⟩] [] []) =
   some (.ret, [PV.ptr false b 0, .ptr false N 0, .v (.bool true), .ptr false (N + 1) 0, .agg [str [61, 61], str [33, 61], str [60, 61]], y], (s.af false b (rdc ((c :: l).drop 2) (adv ((c :: l).take 2) p))).app [⟨br 5 ((c :: l).take 2) 0 p, []⟩, ⟨br 5 ((c :: l).take 2) 0 p, []⟩] [] []) := by
  intro i x h0 h3 hx hxl hpre
  have e26 : ∀ X, E L (.func 99) [str (c :: l), str x] X = some (.v (.bool true), X) := fun X => by rw [uD (by omega) (by omega), hpre]
  have hn : 2 ≤ (c :: l).length := by
   have := (List.isPrefixOf_iff_prefix.1 hpre).length_le; omega
  have e27 := fun bl => nR (X := s) (n := 2) (hN ▸ hb) hn hp (by omega) (by omega) bl [] []
  simp only [rdc, aa] at e27
  generalize (c :: l).drop 2 = r at *
  generalize (c :: l).take 2 = t at *
  refine ⟨.v (.int .i64 i), ?_⟩; simp [qo.b0, V, hN, hT, hL, rdc, hb, h3, hx, e26, e27, laid, aG, br]
 have i0 : cG Tryz.prog 198 (.agg [str [61, 61], str [33, 61], str [60, 61]]) (.v (.int .i64 0)) = some (str [61, 61]) := zw _ _ _ _; have i1 : cG Tryz.prog 198 (.agg [str [61, 61], str [33, 61], str [60, 61]]) (.v (.int .i64 1)) = some (str [33, 61]) := zy _ _ _ _; have i2 : cG Tryz.prog 198 (.agg [str [61, 61], str [33, 61], str [60, 61]]) (.v (.int .i64 2)) = some (str [60, 61]) := zC _ _ _ _
 by_cases htwo : ([61, 61] : List UInt8).isPrefixOf (c :: l) || ([33, 61] : List UInt8).isPrefixOf (c :: l) || ([60, 61] : List UInt8).isPrefixOf (c :: l)
 · have hs : eQ (c :: l) = 2 := by rw [eQ, if_pos htwo]
   rw [hs]
   have run : ∃ y, itE (qo.b0 (E L) itE N Lb) (V 0) ((s.af false b (rdc (c :: l) p)).app [⟨[.v (.int .i64 0), str [], .v (.int .u64 0), .v (.int .i64 0), .v (.int .i64 0)], []⟩, ⟨br 5 [] 0 p, []⟩] [] []) =
    some (.ret, [PV.ptr false b 0, .ptr false N 0, .v (.bool true), .ptr false (N + 1) 0, .agg [str [61, 61], str [33, 61], str [60, 61]], y], (s.af false b (rdc ((c :: l).drop 2) (adv ((c :: l).take 2) p))).app [⟨br 5 ((c :: l).take 2) 0 p, []⟩, ⟨br 5 ((c :: l).take 2) 0 p, []⟩] [] []) := by
    cases h0 : ([61, 61] : List UInt8).isPrefixOf (c :: l) with
    | true =>
     obtain ⟨y, h⟩ := hit 0 _ (by omega) (by omega) i0 rfl h0; exact ⟨y, eF h⟩
    | false =>
     rw [bQ (miss 0 _ (by omega) (by omega) i0 (by simp) h0 _)]
     cases h1 : ([33, 61] : List UInt8).isPrefixOf (c :: l) with
     | true =>
      obtain ⟨y, h⟩ := hit 1 _ (by omega) (by omega) i1 rfl h1; exact ⟨y, eF h⟩
     | false =>
      rw [show (0 : Int) + 1 = 1 from rfl, bQ (miss 1 _ (by omega) (by omega) i1 (by simp) h1 _)]; obtain ⟨y, h⟩ := hit 2 _ (by omega) (by omega) i2 rfl (by rw [h0, h1] at htwo; simpa using htwo); exact ⟨y, eF h⟩
   obtain ⟨y, run⟩ := run; simp only [V, br, rdc, aa, eB] at run
   generalize (c :: l).drop 2 = r at *
   generalize (c :: l).take 2 = t at *
   simp [qo, hN, hT, hL, rdc, hb, eb, run, aW, cj, laid, aG, br]
 · have h012 : ([61, 61] : List UInt8).isPrefixOf (c :: l) = false ∧ ([33, 61] : List UInt8).isPrefixOf (c :: l) = false ∧ ([60, 61] : List UInt8).isPrefixOf (c :: l) = false := by
    simp only [iQ, not_or, Bool.not_eq_true] at htwo; exact ⟨htwo.1.1, htwo.1.2, htwo.2⟩
   have run : ∀ bl, itE (qo.b0 (E L) itE N Lb) (V 0) ((s.af false b (rdc (c :: l) p)).app bl [] []) = some (.exit 0, V 3, (s.af false b (rdc (c :: l) p)).app bl [] []) := by
    intro bl; rw [bQ (miss 0 _ (by omega) (by omega) i0 (by simp) h012.1 _), show (0 : Int) + 1 = 1 from rfl, bQ (miss 1 _ (by omega) (by omega) i1 (by simp) h012.2.1 _), show (1 : Int) + 1 = 2 from rfl, bQ (miss 2 _ (by omega) (by omega) i2 (by simp) h012.2.2 _)]; apply ft; simp [qo.b0, V, hN, hT, hL]
   simp only [V, rdc] at run
   have e30 : ∀ X, E L (.func 114) [str iF, .v (.int .u8 (c.toNat : Int))] X = _ := uz iF c
   have hin := (indexByte_ge c iF)
   by_cases hc : c ∈ iF
   · have hs : eQ (c :: l) = 1 := by rw [eQ, if_neg htwo]; simp [hc]
     have hneg : ¬ (Lib.indexByte iF c < 0) := by have := hin.2.2 hc; omega
     rw [hs]
     have e27 := fun bl => nR (X := s) (b := b) (n := 1) (rest := c :: l) (hN ▸ hb) (by simp) hp (by omega) (by omega) bl [] []
     simp only [rdc, aa] at e27
     generalize (c :: l).drop 1 = r at *
     generalize (c :: l).take 1 = t at *
     unfold iF at e30 hneg; simp [qo, hN, hT, hL, rdc, hb, eb, run, lL, e30, hneg, e27, aW, cj, laid, aG, br]
   · have hs : eQ (c :: l) = 0 := by rw [eQ, if_neg htwo]; simp [hc]
     have hneg : Lib.indexByte iF c < 0 := by
      have h' : ¬ (0 ≤ Lib.indexByte iF c) := fun h => hc (hin.2.1 h)
      omega
     rw [hs]; unfold iF at e30 hneg; simp [qo, hN, hT, hL, rdc, hb, eb, run, lL, e30, hneg, aW, cj, laid, aG, br, adv]
def dp : List UInt8 → Nat × Nat × Nat × Bool
 | [] => (0, 0, 0, false)
 | c :: l =>
  if cd c then ((jY ((c :: l).take (bx cd (c :: l)))).1, bx cd (c :: l), (jY ((c :: l).take (bx cd (c :: l)))).2.1, (jY ((c :: l).take (bx cd (c :: l)))).2.2)
  else if c = 35 then (4, bx cd l + 1, (qJ (l.take (bx cd l))).1, mF (l.take (bx cd l)))
  else (5, eQ (c :: l), 0, !decide (eQ (c :: l) = 0))
theorem gr {c : UInt8} {l : List UInt8} (h : cd c = true) : dp (c :: l) = ((jY ((c :: l).take (bx cd (c :: l)))).1, bx cd (c :: l), (jY ((c :: l).take (bx cd (c :: l)))).2.1, (jY ((c :: l).take (bx cd (c :: l)))).2.2) := by rw [dp, if_pos h]
theorem fM (l : List UInt8) : dp (35 :: l) = (4, bx cd l + 1, (qJ (l.take (bx cd l))).1, mF (l.take (bx cd l))) := by rw [dp, if_neg (by decide), if_pos rfl]
theorem fD {c : UInt8} {l : List UInt8} (h : cd c = false) (hc : c ≠ 35) : dp (c :: l) = (5, eQ (c :: l), 0, !decide (eQ (c :: l) = 0)) := by rw [dp, if_neg (by rw [h]; simp), if_neg hc]
theorem Gd {s : St} {b : Nat} {c : UInt8} {l : List UInt8} {p : Nat × Nat} (hb : b < s.stk.length) (hp : 1 ≤ p.2) (h1 : p.1 + (c :: l).length < 2147483648) (h2 : p.2 + (c :: l).length < 2147483648) :
 E L (.func 66) [.ptr false b 0] (s.af false b (rdc (c :: l) p)) = some (.tup [.agg (br (dp (c :: l)).1 ((c :: l).take (dp (c :: l)).2.1) (dp (c :: l)).2.2.1 p), .v (.bool (dp (c :: l)).2.2.2)],
  s.af false b (rdc ((c :: l).drop (dp (c :: l)).2.1) (adv ((c :: l).take (dp (c :: l)).2.1) p))) := by
 rw [GC]; obtain ⟨N, T, Lb, hN, hT, hL⟩ := lens3 s; rw [hN] at hb
 conv => lhs; rw [← al (s.af false b (rdc (c :: l) p))]
 have at_ : ∀ (f : Nat) (x : PV) (R : List PV), (∀ X : St, b < X.stk.length → E L (.func f) [.ptr false b 0] (X.af false b (rdc (c :: l) p)) = some (x, X.af false b R)) → ∀ bl, E L (.func f) [.ptr false b 0] ((s.af false b (rdc (c :: l) p)).app bl [] []) = some (x, (s.af false b R).app bl [] []) := by
  intro f x R h bl; rw [← bK bl [] [] (hN ▸ hb), ← bK bl [] [] (hN ▸ hb)]; exact h _ (by rw [cw, hN]; omega)
 have wc : IntKind.i32.wrap (c.toNat : Int) = (c.toNat : Int) := IntWalk.i32_in _ (by have := c.toNat_lt; omega); have hal : cd c = (oo (c.toNat : Int) || rY (c.toNat : Int)) := rfl
 cases ha : cd c with
 | true =>
  rw [gr ha]; dsimp only
  have e31 := at_ 117 _ _ fun X hX => DO hX hp h1 h2
  generalize bx cd (c :: l) = n at *
  generalize (c :: l).drop n = r at *
  generalize (c :: l).take n = t at *
  generalize jY t = q at *
  obtain ⟨q1, q2, q3⟩ := q; simp only [rdc, br] at e31; rw [hal] at ha
  cases hl : oo (c.toNat : Int) with
  | true => simp [S66, hN, hT, hL, rdc, hb, lL, nW, wc, iN, iO, hl, e31, laid, aG, br]
  | false =>
   rw [hl, Bool.false_or] at ha; simp [S66, hN, hT, hL, rdc, hb, lL, nW, wc, iN, iO, hl, ha, e31, laid, aG, br]
 | false =>
  have ha0 := ha; rw [hal] at ha; simp only [Bool.or_eq_false_iff] at ha
  by_cases hc : c = 35
  · subst hc
    have e32 := at_ 118 _ _ fun X hX => DP hX hp h1 h2
    rw [fM]; simp only [aw, aK]
    generalize bx cd l = n at *
    generalize l.drop n = r at *
    generalize l.take n = t at *
    generalize qJ t = q at *
    generalize mF t = ok at *
    obtain ⟨v, k⟩ := q; simp only [rdc, br, aa] at e32; have h35 : ((35 : UInt8).toNat : Int) = 35 := rfl; rw [h35] at ha wc; simp [S66, hN, hT, hL, rdc, hb, lL, nW, wc, iN, iO, ha.1, ha.2, e32, laid, aG, br]
  · have e33 := at_ 119 _ _ fun X hX => DQ hX hp h1 h2
    have h35 : ¬ ((c.toNat : Int) = 35) := fun h => hc (UInt8.toNat_inj.1 (by simpa using Int.ofNat_inj.1 h))
    rw [fD ha0 hc]; dsimp only
    generalize eQ (c :: l) = n at *
    generalize (c :: l).drop n = r at *
    generalize (c :: l).take n = t at *
    simp only [rdc, br, aa, eB] at e33; simp [S66, hN, hT, hL, rdc, hb, lL, nW, wc, iN, iO, ha.1, ha.2, h35, e33, laid, aG, br]
structure Tok where
 kind : Nat
 text : List UInt8
 n : Nat
 p : Nat × Nat
abbrev Tok.c (t : Tok) : List PV := br t.kind t.text t.n t.p
inductive LR where
 | ok (ts : List Tok)
 | err (p : Nat × Nat)
def LR.cons (t : Tok) : LR → LR
 | .ok ts => .ok (t :: ts)
 | .err p => .err p
theorem sV {q : UInt8 → Bool} {c : UInt8} {l : List UInt8} (h : q c = true) : 0 < bx q (c :: l) := by rw [fC, if_pos h]; omega
theorem Dk (c : UInt8) (l : List UInt8) : eQ (c :: l) ≤ (c :: l).length := by
 rw [eQ]; split
 · rename_i h
   have len : ∀ x y : UInt8, ([x, y] : List UInt8).isPrefixOf (c :: l) = true → 2 ≤ (c :: l).length := fun x y h => (List.isPrefixOf_iff_prefix.1 h).length_le
   simp only [iQ] at h
   rcases h with (h | h) | h
   · exact len _ _ h
   · exact len _ _ h
   · exact len _ _ h
 · simp only [ai]
   split <;> omega
theorem kV {c : UInt8} {l : List UInt8} (h : (dp (c :: l)).2.2.2 = true) : 0 < (dp (c :: l)).2.1 := by
 cases ha : cd c with
 | true => rw [gr ha]; exact sV ha
 | false =>
  by_cases hc : c = 35
  · subst hc; rw [fM]; exact Nat.succ_pos _
  · rw [fD ha hc] at h ⊢
    simpa [Nat.pos_iff_ne_zero] using h
theorem og (c : UInt8) (l : List UInt8) : (dp (c :: l)).2.1 ≤ (c :: l).length := by
 cases ha : cd c with
 | true => rw [gr ha]; exact iv _ _
 | false =>
  by_cases hc : c = 35
  · subst hc; rw [fM]
    have := iv cd l
    simp only [ai]; omega
  · rw [fD ha hc]; exact Dk c l
def iY (rest : List UInt8) (p : Nat × Nat) : Tok := ⟨(dp rest).1, rest.take (dp rest).2.1, (dp rest).2.2.1, p⟩
def gd : List UInt8 → Nat × Nat → LR
 | [], p => .ok [⟨0, [], 0, p⟩]
 | c :: l, p =>
  if hb : eO (c :: l) = 0 then
   if ht : (dp (c :: l)).2.2.2 = true then (gd ((c :: l).drop (dp (c :: l)).2.1) (adv ((c :: l).take (dp (c :: l)).2.1) p)).cons (iY (c :: l) p)
   else .err p
  else gd ((c :: l).drop (eO (c :: l))) (adv ((c :: l).take (eO (c :: l))) p)
termination_by rest => rest.length
decreasing_by
 · have := kV ht
   simp only [cz, ai]; omega
 · simp only [cz, ai]; omega
theorem lN (p : Nat × Nat) : gd [] p = .ok [⟨0, [], 0, p⟩] := by rw [gd]
theorem jo {rest : List UInt8} (h : eO rest ≠ 0) (p : Nat × Nat) : gd rest p = gd (rest.drop (eO rest)) (adv (rest.take (eO rest)) p) := by
 cases rest with
 | nil => exact absurd rfl h
 | cons c l => rw [gd, dif_neg h]
theorem lO {c : UInt8} {l : List UInt8} (h : eO (c :: l) = 0) (ht : (dp (c :: l)).2.2.2 = true) (p : Nat × Nat) : gd (c :: l) p = (gd ((c :: l).drop (dp (c :: l)).2.1) (adv ((c :: l).take (dp (c :: l)).2.1) p)).cons (iY (c :: l) p) := by
 rw [gd, dif_pos h, dif_pos ht]
theorem nB {c : UInt8} {l : List UInt8} (h : eO (c :: l) = 0) (ht : (dp (c :: l)).2.2.2 = false) (p : Nat × Nat) : gd (c :: l) p = .err p := by
 rw [gd, dif_pos h, dif_neg (by rw [ht]; simp)]
theorem wG (rest : List UInt8) (p : Nat × Nat) : gd rest p = gd (fI rest p).1 (fI rest p).2 := by
 induction rest, p using fI.induct with
 | case1 rest p h => rw [fI, dif_pos h]
 | case2 rest p h ih =>
  have e : fI rest p = fI (rest.drop (eO rest)) (adv (rest.take (eO rest)) p) := by
   conv => lhs; rw [fI, dif_neg h]
  rw [jo h, ih, e]
theorem CV {st : St} {N : Nat} (hN : st.stk.length = N) {f : Nat} {cells R : List PV} {x : PV} (h : ∀ X : St, N + 1 < X.stk.length → E L (.func f) [.ptr false (N + 1) 0] (X.af false (N + 1) cells) = some (x, X.af false (N + 1) R)) (b0 : Blk) (t : List (Nat × Nat)) (bl : List Blk) (tk : List (Nat × Nat)) (lp : List Aux) :
 E L (.func f) [.ptr false (N + 1) 0] (st.app (b0 :: ⟨cells, t⟩ :: bl) tk lp) = some (x, st.app (b0 :: ⟨R, t⟩ :: bl) tk lp) := by
 have hb : (st.app (b0 :: ⟨cells, t⟩ :: bl) tk lp).blk false (N + 1) = some cells := by rw [fA _ _ _ hN]; rfl
 have := h _ (EF hb); rw [Dj hb, fB _ _ _ hN] at this; exact this
def au (ts : List Tok) : List (List PV) := ts.map Tok.c
theorem fN (ts : List Tok) : (au ts).length = ts.length := List.length_map ..
theorem jI (ts : List Tok) : dm 5 (au ts) = true := kP Tok.c (fun _ => rfl) ts
theorem ku (a b : List Tok) : au (a ++ b) = au a ++ au b := List.map_append ..
def BJ (st : St) (N T Lb : Nat) (rest : List UInt8) (p : Nat × Nat) (acc : List Tok) (c : Cap) (tk : List (Nat × Nat)) : Prop :=
 ∃ r y2 F R tk', itE (S46.b0 (E L) itE N Lb) [.sl [] .nil, .ptr false N 0, .sl (au acc) c, .ptr false (N + 1) 0] (st.app [⟨[.v (.int .i64 0), .v (.int .i64 0), .v (.int .i64 0)], []⟩, ⟨rdc rest p, []⟩] tk []) =
  some (.ret, [r, .ptr false N 0, y2, .ptr false (N + 1) 0], st.app [⟨F, []⟩, ⟨R, []⟩] tk' []) ∧
  (match gd rest p with
   | .ok ts => (∃ c', r = .sl (au (acc ++ ts)) c') ∧ F = [.v (.int .i64 0), .v (.int .i64 0), .v (.int .i64 0)]
   | .err q => r = .sl [] .nil ∧ F = [.v (.int .i64 3), .v (.int .i64 (q.1 : Int)), .v (.int .i64 (q.2 : Int))])
theorem CL {st : St} {N T Lb : Nat} (hN : st.stk.length = N) (hT : st.tk.length = T) (hL : st.lp.length = Lb) : ∀ (k : Nat) (rest : List UInt8) (p : Nat × Nat) (acc : List Tok) (c : Cap) (tk : List (Nat × Nat)), rest.length = k → 1 ≤ p.2 → p.1 + rest.length < 2147483648 → p.2 + rest.length < 2147483648 → acc.length + rest.length < 1000000 → Own st tk c acc.length 5 →
 BJ st N T Lb rest p acc c tk := by
 intro k
 induction k using Nat.strongRecOn with
 | ind k ih =>
  intro rest p acc c tk hk hp h1 h2 hac ho; have bb := xJ rest p (M := 2147483648) hp h1 h2; have e17 := CV (x := .tup []) hN (fun X hX => Gc (rest := rest) (p := p) hX hp (by omega) (by omega)) ⟨[.v (.int .i64 0), .v (.int .i64 0), .v (.int .i64 0)], []⟩ [] [] tk []; unfold BJ; rw [wG]
  generalize fI rest p = q at *
  obtain ⟨rest', p'⟩ := q; obtain ⟨bp, b1, b2, bk, bl⟩ := bb; dsimp only at bp b1 b2 bk bl e17 ⊢
  cases rest' with
  | nil =>
   rw [lN]
   have hsf : ∀ m, c.sf true m = true := fun m => ho.sfc m
   obtain ⟨c', tk', ea, ho'⟩ := po (ys := au [⟨0, [], 0, p'⟩]) (bytes := 48) (es := au acc) (by rw [fN]; exact ho) (by simp only [fN, dO, ai, aD]; omega) (jI _) (jI _) (by decide) (by decide); have ey : au [⟨0, [], 0, p'⟩] = [[.v (.int .i64 0), str [], .v (.int .u64 0), .v (.int .i64 (p'.1 : Int)), .v (.int .i64 (p'.2 : Int))]] := rfl; rw [ey] at ea; refine ⟨.sl (au (acc ++ [⟨0, [], 0, p'⟩])) c', .sl (au acc) c, _, rdc [] p', tk', ?_, ⟨⟨_, rfl⟩, rfl⟩⟩; apply eF; simp only [rdc] at e17; have hsf2 := ho'.sfc (s := st); simp [S46.b0, hN, hT, hL, rdc, e17, aW, cj, laid, aG, aX, jh, gm, AM.cC, AM.eR, chunks, ea, ku, ey, hsf, hsf2, dS, cN]
  | cons a l =>
   have hsf : ∀ m, c.sf true m = true := fun m => ho.sfc m
   have e18 := CV hN (fun X hX => Gd (c := a) (l := l) (p := p') hX bp (by omega) (by omega)) ⟨[.v (.int .i64 0), .v (.int .i64 0), .v (.int .i64 0)], []⟩ [] [] tk []; have hta : iY (a :: l) p' = ⟨(dp (a :: l)).1, (a :: l).take (dp (a :: l)).2.1, (dp (a :: l)).2.2.1, p'⟩ := rfl; have ad := jZ (og a l) bp b1 b2; have hpos := kV (c := a) (l := l); have hdl : ((a :: l).drop (dp (a :: l)).2.1).length = (a :: l).length - (dp (a :: l)).2.1 := cz ..; have hle := og a l
   cases hok : (dp (a :: l)).2.2.2 with
   | false =>
    rw [nB bk hok]; rw [hok] at e18
    generalize dp (a :: l) = q at *
    generalize (a :: l).drop q.2.1 = r at *
    generalize (a :: l).take q.2.1 = t at *
    simp only [rdc, br] at e17 e18; refine ⟨.sl [] .nil, .sl (au acc) c, [.v (.int .i64 3), .v (.int .i64 (p'.1 : Int)), .v (.int .i64 (p'.2 : Int))], rdc r (adv t p'), tk, ?_, ⟨rfl, rfl⟩⟩; apply eF; simp [S46.b0, hN, hT, hL, rdc, e17, e18, aW, cj, laid, aG, hsf, dS, cN]
   | true =>
    rw [lO bk hok]; rw [hok] at e18; have hpos := hpos hok
    generalize dp (a :: l) = q at *
    generalize (a :: l).drop q.2.1 = r at *
    generalize (a :: l).take q.2.1 = t at *
    obtain ⟨c', tk', ea, ho'⟩ := po (ys := au [iY (a :: l) p']) (bytes := 48) (es := au acc) (by rw [fN]; exact ho) (by simp only [fN, dO, ai, aD]; omega) (jI _) (jI _) (by decide) (by decide)
    have ey : au [iY (a :: l) p'] = [[.v (.int .i64 (q.1 : Int)), str t, .v (.int .u64 (q.2.2.1 : Int)), .v (.int .i64 (p'.1 : Int)), .v (.int .i64 (p'.2 : Int))]] := by rw [hta]; rfl
    have hsf2 := ho'.sfc (s := st); have ihh := ih r.length (by omega) r (adv t p') (acc ++ [iY (a :: l) p']) c' tk' rfl ad.1 ad.2.1 ad.2.2 (by simp only [bH, bz]; omega) (by rw [← ku, fN] at ho'; exact ho'); unfold BJ at ihh; rw [ku] at ihh; rw [ey] at ihh ea; obtain ⟨r0, y2, F, R, tk2, hit, hres⟩ := ihh; refine ⟨r0, y2, F, R, tk2, ?_, ?_⟩
    · simp only [rdc, br] at e17 e18
      rw [bQ (vs' := [.sl [] .nil, .ptr false N 0, .sl (au acc ++ [[.v (.int .i64 (q.1 : Int)), str t, .v (.int .u64 (q.2.2.1 : Int)), .v (.int .i64 (p'.1 : Int)), .v (.int .i64 (p'.2 : Int))]]) c', .ptr false (N + 1) 0]) (st' := st.app [⟨[.v (.int .i64 0), .v (.int .i64 0), .v (.int .i64 0)], []⟩, ⟨rdc r (adv t p'), []⟩] tk' [])]
      · exact hit
      · simp [S46.b0, hN, hT, hL, rdc, e17, e18, aW, cj, laid, aG, aX, jh, gm, AM.cC, AM.eR, chunks, ea, hsf, hsf2, dS, cN]
    · cases hl : gd r (adv t p') with
      | ok ts =>
       rw [hl] at hres; simp only [LR.cons]; refine ⟨?_, hres.2⟩; obtain ⟨c2, h2⟩ := hres.1; exact ⟨c2, by rw [h2]; simp⟩
      | err q =>
       rw [hl] at hres; simp only [LR.cons]; exact hres
def sv (l : List UInt8) : List Tok := if 8192 < l.length then [] else match gd l (1, 1) with | .ok ts => ts | .err _ => []
def mV (l : List UInt8) : Nat × Nat × Nat := if 8192 < l.length then (10, 1, 1) else match gd l (1, 1) with | .ok _ => (0, 0, 0) | .err q => (3, q.1, q.2)
abbrev sh (f : Nat × Nat × Nat) : List PV := [.v (.int .i64 (f.1 : Int)), .v (.int .i64 (f.2.1 : Int)), .v (.int .i64 (f.2.2 : Int))]
theorem Gb {l : List UInt8} (h : l.length < 1000000) (st : St) : E L (.func 46) [str l] st = some (.tup [.sl (au (sv l)) .dead, .agg (sh (mV l))], st) := by
 rw [Gz]; obtain ⟨N, T, Lb, hN, hT, hL⟩ := lens3 st
 conv => lhs; rw [← al (st)]
 by_cases hl : 8192 < l.length
 · have hl' : (8192 : Int) < (l.length : Int) := by omega
   simp [S46, hN, hT, hL, dC, hl', sv, mV, hl, aW, cj, laid, aG, au]
 · have hl' : ¬ ((8192 : Int) < (l.length : Int)) := by omega
   obtain ⟨r, y2, F, R, tk', hit, hres⟩ := CL hN hT hL l.length l (1, 1) [] .nil [] rfl (by simp) (by simp; omega) (by simp; omega) (by simp; omega) (Own.nil _ _ _ _); simp only [au, bc, rdc, aa] at hit; unfold sv mV; rw [if_neg hl, if_neg hl]
   cases hx : gd l (1, 1) with
   | ok ts =>
    rw [hx] at hres; obtain ⟨⟨c', rfl⟩, rfl⟩ := hres; simp [S46, hN, hT, hL, dC, hl', hit, aW, cj, laid, aG, sh]
   | err q =>
    rw [hx] at hres; obtain ⟨rfl, rfl⟩ := hres; simp [S46, hN, hT, hL, dC, hl', hit, aW, cj, laid, aG, sh, au]
theorem mc (c : UInt8) (st : St) : E L (.func 130) [.v (.int .u8 (c.toNat : Int))] st = some (.v (.bool (qB c)), st) := DR _ st
theorem jL (c : UInt8) (st : St) : E L (.func 131) [.v (.int .u8 (c.toNat : Int))] st = some (.v (.bool (jP c)), st) := DS _ st
theorem drop_cons {l : List UInt8} {i : Nat} (h : i < l.length) : l.drop i = l[i] :: l.drop (i + 1) := List.drop_eq_getElem_cons h
theorem Dg {l : List UInt8} (hlen : l.length < 4611686018427387904) {X : St} {N T Lb : Nat} (hN : X.stk.length = N) (hT : X.tk.length = T) (hL : X.lp.length = Lb) : ∀ (k i : Nat), l.length - i = k → i ≤ l.length →
 itE (S85.b0 (E L) itE N Lb) [str l, .v (.int .i64 (i : Int))] (X.app [] [] []) = some (.exit 0, [str l, .v (.int .i64 ((i + bx cd (l.drop i) : Nat) : Int))], X.app [] [] []) := by
 intro k
 induction k with
 | zero =>
  intro i hk hi
  obtain rfl : i = l.length := by omega
  apply ft; simp [S85.b0, hN, hT, hL, dC, bx]
 | succ k ih =>
  intro i hk hi
  have hlt : i < l.length := by omega
  have hlt' : (i : Int) < (l.length : Int) := by omega
  have hx := pP (l := l) .i64 hlt; have w1 : IntKind.i64.wrap ((i : Int) + 1) = (i : Int) + 1 := IntWalk.i64_in _ (by omega); rw [drop_cons hlt, fC]
  generalize l[i] = c at *
  have ih := ih (i + 1) (by omega) (by omega)
  cases ha : qB c with
  | true =>
   rw [if_pos (by simp [cd, ha]), bQ (vs' := [str l, .v (.int .i64 ((i + 1 : Nat) : Int))]) (st' := X.app [] [] [])]
   · rw [ih, show i + 1 + bx cd (l.drop (i + 1)) = i + (bx cd (l.drop (i + 1)) + 1) from by omega]
   · simp [S85.b0, hN, hT, hL, dC, hlt', hx, mc, jL, ha, w1]
  | false =>
   cases hd : jP c with
   | true =>
    rw [if_pos (by simp [cd, ha, hd]), bQ (vs' := [str l, .v (.int .i64 ((i + 1 : Nat) : Int))]) (st' := X.app [] [] [])]
    · rw [ih, show i + 1 + bx cd (l.drop (i + 1)) = i + (bx cd (l.drop (i + 1)) + 1) from by omega]
    · simp [S85.b0, hN, hT, hL, dC, hlt', hx, mc, jL, ha, hd, w1]
   | false =>
    rw [if_neg (by simp [cd, ha, hd])]; apply ft; simp [S85.b0, hN, hT, hL, dC, hlt', hx, mc, jL, ha, hd, w1]
theorem BH {l : List UInt8} {i : Nat} (hlen : l.length < 4611686018427387904) (hi : i ≤ l.length) (st : St) : E L (.func 85) [str l, .v (.int .i64 (i : Int))] st = some (.v (.int .i64 ((i + bx cd (l.drop i) : Nat) : Int)), st) := by
 rw [GH]; obtain ⟨N, T, Lb, hN, hT, hL⟩ := lens3 st
 conv => lhs; rw [← al (st)]
 have h := Dg hlen hN hT hL (l.length - i) i rfl hi; simp [S85, hN, hT, hL, h]
def kW (w : List UInt8) : List PV := [str w]
theorem yK (st : St) : E L (.func 132) [] st = some (.sl (iy.map kW) .dead, st) := by
 rw [Ej]
 have e : HC (E L) itE st = (some (PV.sl (iy.map kW) .full)).bind fun p1 => fin st.stk.length st.tk.length st.lp.length [p1] st := by kernel_rfl
 rw [e, ag, ER]
theorem HT {ws : List (List UInt8)} {i : Nat} {c : Cap} (k : IntKind) (h : i < ws.length) : cc Tryz.prog 60 (.sl (ws.map kW) c) (.v (.int k (i : Int))) = some (.fp (kW ws[i]) 0) := by
 rw [HX]
 have h1 : eM (i : Int) (ws.map kW).length = true := by simp [eM, h]
 rw [h1, cond_true, Int.toNat_natCast, List.getElem?_map, cO h]
 rfl
theorem wx {l : List UInt8} {ws : List (List UInt8)} (hlen : ws.length < 1000) {X : St} {N T Lb : Nat} (hN : X.stk.length = N) (hT : X.tk.length = T) (hL : X.lp.length = Lb) : ∀ (suf pre : List (List UInt8)), ws = pre ++ suf →
 ∃ e y z, itE (S88.b0 (E L) itE N Lb) [str l, .v (.bool false), .sl (ws.map kW) .dead, .v (.int .i64 (ws.length : Int)), .v (.int .i64 (pre.length : Int))] (X.app [] [] []) = some (e, [str l, y, .sl (ws.map kW) .dead, .v (.int .i64 (ws.length : Int)), z], X.app [] [] []) ∧
  (if suf.contains l then e = .ret ∧ y = .v (.bool true) else e = .exit 0) := by
 intro suf
 induction suf with
 | nil =>
  intro pre h
  have h : ws = pre := by simpa using h
  subst h; refine ⟨.exit 0, .v (.bool false), .v (.int .i64 (ws.length : Int)), ?_, rfl⟩; apply ft; simp [S88.b0, hN, hT, hL]
 | cons w suf ih =>
  intro pre h
  have h' : ws = (pre ++ [w]) ++ suf := by simp [h]
  have hlt : pre.length < ws.length := by rw [h]; simp
  have hg : ws[pre.length] = w := by simp [h]
  have hx := HT (ws := ws) (c := .dead) .i64 hlt; rw [hg] at hx
  have hlt' : (pre.length : Int) < (ws.length : Int) := by omega
  have w1 : IntKind.i64.wrap ((pre.length : Int) + 1) = (pre.length : Int) + 1 := IntWalk.i64_in _ (by omega)
  by_cases hw : w = l
  · subst hw
    refine ⟨.ret, .v (.bool true), .v (.int .i64 (pre.length : Int)), ?_, by simp⟩; apply eF; simp [S88.b0, hN, hT, hL, hlt', hx, kW]
  · obtain ⟨e, y, z, h1, h2⟩ := ih (pre ++ [w]) h'
    refine ⟨e, y, z, ?_, ?_⟩
    · rw [bQ (vs' := [str l, .v (.bool false), .sl (ws.map kW) .dead, .v (.int .i64 (ws.length : Int)), .v (.int .i64 ((pre ++ [w]).length : Int))]) (st' := X.app [] [] [])]
      · exact h1
      · simp [S88.b0, hN, hT, hL, hlt', hx, kW, hw, w1]
    · have : ((w :: suf).contains l) = suf.contains l := by
       rw [List.contains_cons]
       have : (l == w) = false := by simpa using fun h => hw h.symm
       rw [this, Bool.false_or]
      rw [this]; exact h2
theorem BI (l : List UInt8) (st : St) : E L (.func 88) [str l] st = some (.v (.bool (ix l)), st) := by
 rw [GK]; obtain ⟨N, T, Lb, hN, hT, hL⟩ := lens3 st
 conv => lhs; rw [← al (st)]
 obtain ⟨e, y, z, h1, h2⟩ := wx (l := l) (ws := iy) (by decide) hN hT hL iy [] rfl; have hw : iy.contains l = ix l := rfl; rw [hw] at h2
 have hln : ((iy.map kW).length : Int) = (iy.length : Int) := by rw [List.length_map]
 simp only [aD, eB] at h1
 cases hb : ix l with
 | true =>
  rw [hb, if_pos rfl] at h2; obtain ⟨rfl, rfl⟩ := h2; simp [S88, hN, hT, hL, yK, vc, h1]
 | false =>
  rw [hb] at h2; simp only [ae, if_false] at h2; subst h2; simp [S88, hN, hT, hL, yK, vc, h1]
theorem wv {l : List UInt8} (hlen : l.length < 4611686018427387904) {X : St} {N T Lb : Nat} (hN : X.stk.length = N) (hT : X.tk.length = T) (hL : X.lp.length = Lb) : ∀ (k i : Nat), l.length - i = k → i ≤ l.length →
 ∃ z, itE (S89.b0 (E L) itE N Lb) [str l, .v (.bool false), .v (.int .i64 (i : Int))] (X.app [] [] []) = some (bif (l.drop i).all cd then .exit 0 else .ret, [str l, .v (.bool false), z], X.app [] [] []) := by
 intro k
 induction k with
 | zero =>
  intro i hk hi
  obtain rfl : i = l.length := by omega
  refine ⟨.v (.int .i64 (l.length : Int)), ?_⟩; rw [List.drop_length, bT, cond_true]; apply ft; simp [S89.b0, hN, hT, hL, dC]
 | succ k ih =>
  intro i hk hi
  have hlt : i < l.length := by omega
  have hlt' : (i : Int) < (l.length : Int) := by omega
  have hx := pP (l := l) .i64 hlt; have w1 : IntKind.i64.wrap ((i : Int) + 1) = (i : Int) + 1 := IntWalk.i64_in _ (by omega); rw [drop_cons hlt, bq]
  generalize l[i] = c at *
  obtain ⟨z, ih⟩ := ih (i + 1) (by omega) (by omega)
  cases ha : qB c with
  | true =>
   refine ⟨z, ?_⟩; rw [show cd c = true by simp [cd, ha], bm, bQ (vs' := [str l, .v (.bool false), .v (.int .i64 ((i + 1 : Nat) : Int))]) (st' := X.app [] [] [])]
   · exact ih
   · simp [S89.b0, hN, hT, hL, dC, hlt', hx, mc, jL, ha, w1]
  | false =>
   cases hd : jP c with
   | true =>
    refine ⟨z, ?_⟩; rw [show cd c = true by simp [cd, hd], bm, bQ (vs' := [str l, .v (.bool false), .v (.int .i64 ((i + 1 : Nat) : Int))]) (st' := X.app [] [] [])]
    · exact ih
    · simp [S89.b0, hN, hT, hL, dC, hlt', hx, mc, jL, ha, hd, w1]
   | false =>
    refine ⟨.v (.int .i64 (i : Int)), ?_⟩; rw [show cd c = false by simp [cd, ha, hd], Bool.false_and, cond_false]; apply eF; simp [S89.b0, hN, hT, hL, dC, hlt', hx, mc, jL, ha, hd, w1]
theorem Gg {l : List UInt8} (hlen : l.length < 4611686018427387904) (st : St) : E L (.func 89) [str l] st = some (.v (.bool (lg l)), st) := by
 rw [GL]; obtain ⟨N, T, Lb, hN, hT, hL⟩ := lens3 st
 conv => lhs; rw [← al (st)]
 cases l with
 | nil => simp [S89, hN, hT, hL, lg]
 | cons c r =>
  obtain ⟨z, h⟩ := wv hlen hN hT hL (c :: r).length 0 rfl (dE _); simp only [aO, eB] at h
  have hw : ∀ X, E L (.func 88) [str (c :: r)] X = some (.v (.bool (ix (c :: r))), X) := BI _
  simp only [lg, mS]
  cases hwb : ix (c :: r) with
  | true => simp [S89, hN, hT, hL, hw, hwb]
  | false =>
   cases hc : qB c with
   | false => simp [S89, hN, hT, hL, hw, hwb, lL, mc, hc]
   | true =>
    have ha : cd c = true := by simp [cd, hc]
    rw [bq, ha, bm] at h; generalize r.all cd = q at h ⊢
    cases q with
    | true =>
     rw [cond_true] at h; simp [S89, hN, hT, hL, hw, hwb, lL, mc, hc, h]
    | false =>
     rw [cond_false] at h; simp [S89, hN, hT, hL, hw, hwb, lL, mc, hc, h]
def wh : List UInt8 → Nat → Option Nat
 | [], n => some n
 | c :: t, n => if jP c then wh t (10 * n + (c.toNat - 48)) else none
def whole (t : List UInt8) : Nat × Bool :=
 if 19 < t.length ∨ 1 < t.length ∧ t.head? = some 48 then (0, false) else match wh t 0 with
  | some n => (n, decide (n < 9223372036854775808))
  | none => (0, false)
theorem vX (c : UInt8) : jP c = true ↔ 48 ≤ c.toNat ∧ c.toNat ≤ 57 := by
 simp only [jP, rY, an, decide_eq_true_eq]; omega
theorem yA {l : List UInt8} (hlen : l.length ≤ 19) {X : St} {N T Lb : Nat} (hN : X.stk.length = N) (hT : X.tk.length = T) (hL : X.lp.length = Lb) : ∀ (k i n : Nat), l.length - i = k → i ≤ l.length → n < 10 ^ i →
 ∃ m z, itE (S90.b0 (E L) itE N Lb) [str l, .v (.int .u64 0), .v (.bool false), .v (.int .u64 (n : Int)), .v (.int .i64 (i : Int))] (X.app [] [] []) = some (match wh (l.drop i) n with | some _ => .exit 0 | none => .ret, [str l, .v (.int .u64 0), .v (.bool false), .v (.int .u64 (m : Int)), z], X.app [] [] []) ∧
  (∀ v, wh (l.drop i) n = some v → m = v ∧ v < 10000000000000000000) := by
 intro k
 induction k with
 | zero =>
  intro i n hk hi hn
  obtain rfl : i = l.length := by omega
  have h19 : 10 ^ l.length ≤ 10 ^ 19 := Nat.pow_le_pow_right (by omega) hlen; refine ⟨n, .v (.int .i64 (l.length : Int)), ?_, ?_⟩
  · rw [List.drop_length]
    apply ft; simp [S90.b0, hN, hT, hL, dC]
  · rw [List.drop_length]
    intro v hv; obtain rfl := Option.some.inj hv; exact ⟨rfl, by omega⟩
 | succ k ih =>
  intro i n hk hi hn
  have hlt : i < l.length := by omega
  have hlt' : (i : Int) < (l.length : Int) := by omega
  have hx := pP (l := l) .i64 hlt; have w1 : IntKind.i64.wrap ((i : Int) + 1) = (i : Int) + 1 := IntWalk.i64_in _ (by omega); have h19 : 10 ^ (i + 1) ≤ 10 ^ 19 := Nat.pow_le_pow_right (by omega) (by omega)
  have hp : 10 ^ (i + 1) = 10 * 10 ^ i := by rw [Nat.pow_succ, Nat.mul_comm]
  rw [drop_cons hlt]
  generalize l[i] = c at *
  have clt := c.toNat_lt; unfold wh
  cases hd : jP c with
  | true =>
   have hd' := (vX c).1 hd; rw [if_pos rfl]
   have hn' : 10 * n + (c.toNat - 48) < 10 ^ (i + 1) := by omega
   obtain ⟨m, z, h1, h2⟩ := ih (i + 1) (10 * n + (c.toNat - 48)) (by omega) (by omega) hn'; refine ⟨m, z, ?_, h2⟩; have wa : IntKind.u64.wrap (10 * (n : Int)) = 10 * (n : Int) := IntWalk.u64_in _ (by omega); have wb : IntKind.u8.wrap ((c.toNat : Int) - 48) = (c.toNat : Int) - 48 := IntWalk.u8_in _ (by omega); have wc : IntKind.u64.wrap ((c.toNat : Int) - 48) = (c.toNat : Int) - 48 := IntWalk.u64_in _ (by omega)
   have wd : IntKind.u64.wrap (10 * (n : Int) + ((c.toNat : Int) - 48)) = ((10 * n + (c.toNat - 48) : Nat) : Int) := by rw [IntWalk.u64_in _ (by omega)]; omega
   rw [bQ (vs' := [str l, .v (.int .u64 0), .v (.bool false), .v (.int .u64 ((10 * n + (c.toNat - 48) : Nat) : Int)), .v (.int .i64 ((i + 1 : Nat) : Int))]) (st' := X.app [] [] [])]
   · exact h1
   · generalize 10 * n + (c.toNat - 48) = nn at wd ⊢
     simp [S90.b0, hN, hT, hL, dC, hlt', hx, jL, hd, w1, wa, wb, wc, wd, ga]
  | false =>
   rw [if_neg (by simp)]; refine ⟨n, .v (.int .i64 (i : Int)), ?_, by intro v hv; cases hv⟩; apply eF; simp [S90.b0, hN, hT, hL, dC, hlt', hx, jL, hd]
theorem Gh {t : List UInt8} (ht : t.length < 4611686018427387904) (st : St) : E L (.func 90) [str t] st = some (.tup [.v (.int .u64 ((whole t).1 : Int)), .v (.bool (whole t).2)], st) := by
 rw [GM]; obtain ⟨N, T, Lb, hN, hT, hL⟩ := lens3 st
 conv => lhs; rw [← al (st)]
 unfold whole
 by_cases h19 : 19 < t.length
 · have h19' : (19 : Int) < (t.length : Int) := by omega
   simp [S90, hN, hT, hL, dC, h19', h19]
 · have h19' : ¬ ((19 : Int) < (t.length : Int)) := by omega
   obtain ⟨m, z, h1, h2⟩ := yA (l := t) (by omega) hN hT hL t.length 0 0 rfl (by omega) (by omega); simp only [eB, aO] at h1 h2
   by_cases h1' : 1 < t.length ∧ t.head? = some 48
   · rw [if_pos (.inr h1')]
     cases t with
     | nil => simp at h1'
     | cons c r =>
      have hc : c = 48 := by simpa using h1'.2
      subst hc
      have hl1 : (1 : Int) < (((48 : UInt8) :: r).length : Int) := by omega
      have hix := lL 48 r .i64; simp only [show ((48 : UInt8).toNat : Int) = 48 from rfl] at hix
      generalize (48 : UInt8) :: r = t at *
      simp [S90, hN, hT, hL, dC, h19', hl1, hix]
   · rw [if_neg (by rw [not_or]; exact ⟨h19, h1'⟩)]
     have key : S90 (E L) itE (str t) (st.app [] [] []) = ((itE (S90.b0 (E L) itE N Lb) [str t, .v (.int .u64 0), .v (.bool false), .v (.int .u64 0), .v (.int .i64 0)] (st.app [] [] [])).bind fun r28 =>
      bF (Ex.ba 0 r28.1) ((aH Tryz.prog true .lss 34 (AM.ab r28.2.1 3) (.v (.int .u64 9223372036854775808))).bind fun p51 => fin N T Lb [AM.ab r28.2.1 3, p51] r28.2.2) fun x50 => dF x50 (fin N T Lb [AM.ab r28.2.1 1, AM.ab r28.2.1 2] r28.2.2)) := by
      by_cases hl1 : (1 : Int) < (t.length : Int)
      · cases t with
        | nil => simp at hl1
        | cons c r =>
         have hc : ¬ ((c.toNat : Int) = 48) := fun e => h1' ⟨by omega, by rw [List.head?_cons, show c = 48 from UInt8.toNat_inj.1 (by simpa using Int.ofNat_inj.1 e)]⟩
         have hix := lL c r .i64
         generalize c :: r = t at *
         simp [S90, hN, hT, hL, dC, h19', hl1, hix, hc]
      · simp [S90, hN, hT, hL, dC, h19', hl1]
     rw [key]
     cases hw : wh t 0 with
     | none =>
      rw [hw] at h1; simp [hN, hT, hL, h1]
     | some v =>
      obtain ⟨rfl, hv⟩ := h2 v hw; rw [hw] at h1
      have hd : decide ((v : Int) < 9223372036854775808) = decide (v < 9223372036854775808) := by rw [decide_eq_decide]; omega
      simp [hN, hT, hL, h1, hd]
def bt : List UInt8 → Nat → Option Nat
 | [], n => some n
 | c :: t, n => if jP c then bt t ((16 * n + (c.toNat - 48)) % 18446744073709551616) else if 97 ≤ c.toNat ∧ c.toNat ≤ 102 then bt t ((16 * n + (c.toNat - 87)) % 18446744073709551616) else none
def nh (t : List UInt8) : Nat × Bool := match bt t 0 with
 | some n => (n, decide (t.length = 16))
 | none => (0, false)
theorem Aw {l : List UInt8} (hlen : l.length < 4611686018427387904) {X : St} {N T Lb : Nat} (hN : X.stk.length = N) (hT : X.tk.length = T) (hL : X.lp.length = Lb) : ∀ (k i n : Nat), l.length - i = k → i ≤ l.length → n < 18446744073709551616 →
 ∃ (m : Nat) (z : PV), itE (S86.b0 (E L) itE N Lb) [str l, .v (.int .u64 0), .v (.bool false), .v (.int .u64 (n : Int)), .v (.int .i64 (i : Int))] (X.app [] [] []) = some (match bt (l.drop i) n with | some _ => .exit 0 | none => .ret, [str l, .v (.int .u64 0), .v (.bool false), .v (.int .u64 (m : Int)), z], X.app [] [] []) ∧
  (∀ v, bt (l.drop i) n = some v → m = v) := by
 intro k
 induction k with
 | zero =>
  intro i n hk hi hn
  obtain rfl : i = l.length := by omega
  refine ⟨n, .v (.int .i64 (l.length : Int)), ?_, ?_⟩
  · rw [List.drop_length]
    apply ft; simp [S86.b0, hN, hT, hL, dC]
  · rw [List.drop_length]
    intro v hv; exact Option.some.inj hv
 | succ k ih =>
  intro i n hk hi hn
  have hlt : i < l.length := by omega
  have hlt' : (i : Int) < (l.length : Int) := by omega
  have hx := pP (l := l) .i64 hlt; have w1 : IntKind.i64.wrap ((i : Int) + 1) = (i : Int) + 1 := IntWalk.i64_in _ (by omega); rw [drop_cons hlt]
  generalize l[i] = c at *
  have clt := c.toNat_lt; unfold bt
  cases hd : jP c with
  | true =>
   have hd' := (vX c).1 hd; rw [if_pos rfl]; obtain ⟨m, z, h1, h2⟩ := ih (i + 1) ((16 * n + (c.toNat - 48)) % 18446744073709551616) (by omega) (by omega) (Nat.mod_lt _ (by omega)); refine ⟨m, z, ?_, h2⟩; have wb : IntKind.u8.wrap ((c.toNat : Int) - 48) = (c.toNat : Int) - 48 := IntWalk.u8_in _ (by omega); have wc : IntKind.u64.wrap ((c.toNat : Int) - 48) = (c.toNat : Int) - 48 := IntWalk.u64_in _ (by omega)
   have wd : IntKind.u64.wrap (IntKind.u64.wrap (16 * (n : Int)) + ((c.toNat : Int) - 48)) = (((16 * n + (c.toNat - 48)) % 18446744073709551616 : Nat) : Int) := by rw [lr, lr]; omega
   rw [bQ (vs' := [str l, .v (.int .u64 0), .v (.bool false), .v (.int .u64 (((16 * n + (c.toNat - 48)) % 18446744073709551616 : Nat) : Int)), .v (.int .i64 ((i + 1 : Nat) : Int))]) (st' := X.app [] [] [])]
   · exact h1
   · generalize (16 * n + (c.toNat - 48)) % 18446744073709551616 = nn at wd ⊢
     simp [S86.b0, hN, hT, hL, dC, hlt', hx, jL, hd, w1, wb, wc, wd, ga]
  | false =>
   rw [if_neg (by simp)]
   by_cases hh : 97 ≤ c.toNat ∧ c.toNat ≤ 102
   · have j1 : (97 : Int) ≤ (c.toNat : Int) := by omega
     have j2 : (c.toNat : Int) ≤ 102 := by omega
     rw [if_pos hh]; obtain ⟨m, z, h1, h2⟩ := ih (i + 1) ((16 * n + (c.toNat - 87)) % 18446744073709551616) (by omega) (by omega) (Nat.mod_lt _ (by omega)); refine ⟨m, z, ?_, h2⟩; have wb : IntKind.u8.wrap ((c.toNat : Int) - 97) = (c.toNat : Int) - 97 := IntWalk.u8_in _ (by omega); have wc : IntKind.u64.wrap ((c.toNat : Int) - 97) = (c.toNat : Int) - 97 := IntWalk.u64_in _ (by omega)
     have wd : IntKind.u64.wrap (IntKind.u64.wrap (IntKind.u64.wrap (16 * (n : Int)) + ((c.toNat : Int) - 97)) + 10) = (((16 * n + (c.toNat - 87)) % 18446744073709551616 : Nat) : Int) := by rw [lr, lr, lr]; omega
     rw [bQ (vs' := [str l, .v (.int .u64 0), .v (.bool false), .v (.int .u64 (((16 * n + (c.toNat - 87)) % 18446744073709551616 : Nat) : Int)), .v (.int .i64 ((i + 1 : Nat) : Int))]) (st' := X.app [] [] [])]
     · exact h1
     · generalize (16 * n + (c.toNat - 87)) % 18446744073709551616 = nn at wd ⊢
       simp [S86.b0, hN, hT, hL, dC, hlt', hx, jL, hd, w1, j1, j2, wb, wc, wd, ga]
   · rw [if_neg hh]
     refine ⟨n, .v (.int .i64 (i : Int)), ?_, by intro v hv; cases hv⟩; apply eF
     by_cases j1 : (97 : Int) ≤ (c.toNat : Int)
     · have j2 : ¬ ((c.toNat : Int) ≤ 102) := by omega
       simp [S86.b0, hN, hT, hL, dC, hlt', hx, jL, hd, j1, j2]
     · simp [S86.b0, hN, hT, hL, dC, hlt', hx, jL, hd, j1]
theorem Ge {t : List UInt8} (ht : t.length < 4611686018427387904) (st : St) : E L (.func 86) [str t] st = some (.tup [.v (.int .u64 ((nh t).1 : Int)), .v (.bool (nh t).2)], st) := by
 rw [GI]; obtain ⟨N, T, Lb, hN, hT, hL⟩ := lens3 st
 conv => lhs; rw [← al (st)]
 unfold nh; obtain ⟨m, z, h1, h2⟩ := Aw (l := t) (by omega) hN hT hL t.length 0 0 rfl (by omega) (by omega); simp only [eB, aO] at h1 h2
 cases hw : bt t 0 with
 | none =>
  rw [hw] at h1; simp [S86, hN, hT, hL, h1]
 | some v =>
  obtain rfl := h2 v hw; rw [hw] at h1
  have hd : decide ((t.length : Int) = 16) = decide (t.length = 16) := by rw [decide_eq_decide]; omega
  simp [S86, hN, hT, hL, h1, dC, hd]
def kU : List (List UInt8) := [[61, 61], [33, 61], [60, 61], [123], [125], [40], [41], [91], [93], [59], [58], [44], [46], [61], [60], [43], [45], [42], [47], [37]]
def jF (rest : List UInt8) : List UInt8 := (kU.find? fun x => x.isPrefixOf rest).getD []
theorem Be {l : List UInt8} {at_ : Nat} (hat : at_ ≤ l.length) (hlen : l.length < 4611686018427387904) {ws : List (List UInt8)} (hw : ws.length < 1000) (hws : ∀ w ∈ ws, w.length ≤ 2) {X : St} {N T Lb : Nat} (hN : X.stk.length = N) (hT : X.tk.length = T) (hL : X.lp.length = Lb) : ∀ (suf pre : List (List UInt8)), ws = pre ++ suf →
 ∃ e y z, itE (S87.b0 (E L) itE N Lb) [str l, .v (.int .i64 (at_ : Int)), str [], .sl (ws.map kW) .full, .v (.int .i64 (ws.length : Int)), .v (.int .i64 (pre.length : Int))] (X.app [] [] []) = some (e, [str l, .v (.int .i64 (at_ : Int)), y, .sl (ws.map kW) .full, .v (.int .i64 (ws.length : Int)), z], X.app [] [] []) ∧
  (match suf.find? (fun x => x.isPrefixOf (l.drop at_)) with | some x => e = .ret ∧ y = str x | none => e = .exit 0) := by
 intro suf
 induction suf with
 | nil =>
  intro pre h
  have h : ws = pre := by simpa using h
  subst h; refine ⟨.exit 0, str [], .v (.int .i64 (ws.length : Int)), ?_, rfl⟩; apply ft; simp [S87.b0, hN, hT, hL]
 | cons w suf ih =>
  intro pre h
  have h' : ws = (pre ++ [w]) ++ suf := by simp [h]
  have hlt : pre.length < ws.length := by rw [h]; simp
  have hg : ws[pre.length] = w := by simp [h]
  have hx := HT (ws := ws) (c := .full) .i64 hlt; rw [hg] at hx; have hwl := hws w (by rw [h]; simp)
  have hlt' : (pre.length : Int) < (ws.length : Int) := by omega
  have w1 : IntKind.i64.wrap ((pre.length : Int) + 1) = (pre.length : Int) + 1 := IntWalk.i64_in _ (by omega)
  have w2 : IntKind.i64.wrap ((at_ : Int) + (w.length : Int)) = ((at_ + w.length : Nat) : Int) := by rw [IntWalk.i64_in _ (by omega)]; omega
  have step : w.isPrefixOf (l.drop at_) = false → ∃ e y z, itE (S87.b0 (E L) itE N Lb) [str l, .v (.int .i64 (at_ : Int)), str [], .sl (ws.map kW) .full, .v (.int .i64 (ws.length : Int)), .v (.int .i64 ((pre ++ [w]).length : Int))] (X.app [] [] []) = some (e, [str l, .v (.int .i64 (at_ : Int)), y, .sl (ws.map kW) .full, .v (.int .i64 (ws.length : Int)), z], X.app [] [] []) ∧
   (match (w :: suf).find? (fun x => x.isPrefixOf (l.drop at_)) with | some x => e = .ret ∧ y = str x | none => e = .exit 0) := by
   intro hp; obtain ⟨e, y, z, h1, h2⟩ := ih (pre ++ [w]) h'; exact ⟨e, y, z, h1, by rw [List.find?_cons, hp]; exact h2⟩
  by_cases hle : at_ + w.length ≤ l.length
  · have hle' : ((at_ + w.length : Nat) : Int) ≤ (l.length : Int) := by omega
    have hsl := Ab (l := l) .i64 .i64 (show at_ ≤ at_ + w.length by omega) hle
    have hpe : w.isPrefixOf (l.drop at_) = decide ((l.take (at_ + w.length)).drop at_ = w) := by
     rw [Bool.eq_iff_iff, List.isPrefixOf_iff_prefix, decide_eq_true_eq, List.prefix_iff_eq_take, List.drop_take, show at_ + w.length - at_ = w.length by omega]; exact eq_comm
    generalize (l.take (at_ + w.length)).drop at_ = pc at *
    generalize at_ + w.length = hi at *
    by_cases hp : pc = w
    · subst hp
      refine ⟨.ret, str pc, .v (.int .i64 (pre.length : Int)), ?_, ?_⟩
      · apply eF
        simp [S87.b0, hN, hT, hL, hlt', hx, kW, dC, w1, w2, hle', hsl]
      · rw [List.find?_cons, hpe, decide_eq_true rfl]; exact ⟨rfl, rfl⟩
    · obtain ⟨e, y, z, h1, h2⟩ := step (by rw [hpe]; exact decide_eq_false hp)
      refine ⟨e, y, z, ?_, h2⟩; rw [bQ (vs' := [str l, .v (.int .i64 (at_ : Int)), str [], .sl (ws.map kW) .full, .v (.int .i64 (ws.length : Int)), .v (.int .i64 ((pre ++ [w]).length : Int))]) (st' := X.app [] [] [])]
      · exact h1
      · simp [S87.b0, hN, hT, hL, hlt', hx, kW, dC, w1, w2, hle', hsl, hp]
  · have hle' : ¬ (((at_ + w.length : Nat) : Int) ≤ (l.length : Int)) := by omega
    have hp : w.isPrefixOf (l.drop at_) = false := by
     rw [Bool.eq_false_iff]; intro hp; have := (List.isPrefixOf_iff_prefix.1 hp).length_le; rw [cz] at this; omega
    obtain ⟨e, y, z, h1, h2⟩ := step hp; refine ⟨e, y, z, ?_, h2⟩
    generalize at_ + w.length = hi at *
    rw [bQ (vs' := [str l, .v (.int .i64 (at_ : Int)), str [], .sl (ws.map kW) .full, .v (.int .i64 (ws.length : Int)), .v (.int .i64 ((pre ++ [w]).length : Int))]) (st' := X.app [] [] [])]
    · exact h1
    · simp [S87.b0, hN, hT, hL, hlt', hx, kW, dC, w1, w2, hle']
theorem Gf {l : List UInt8} {i : Nat} (hi : i ≤ l.length) (hlen : l.length < 4611686018427387904) (st : St) : E L (.func 87) [str l, .v (.int .i64 (i : Int))] st = some (str (jF (l.drop i)), st) := by
 rw [GJ]; obtain ⟨N, T, Lb, hN, hT, hL⟩ := lens3 st
 conv => lhs; rw [← al (st)]
 obtain ⟨e, y, z, h1, h2⟩ := Be hi hlen (ws := kU) (by decide) (by decide) hN hT hL kU [] rfl
 have key : S87 (E L) itE (str l) (.v (.int .i64 (i : Int))) (st.app [] [] []) = (some (PV.sl (kU.map kW) .full)).bind fun p1 => (gh Tryz.prog 60 p1).bind fun p2 => (itE (S87.b0 (E L) itE (st.app [] [] []).stk.length (st.app [] [] []).lp.length) [str l, .v (.int .i64 (i : Int)), str [], p1, p2, .v (.int .i64 0)] (st.app [] [] [])).bind fun r3 =>
  bF (Ex.ba 0 r3.1) (fin (st.app [] [] []).stk.length (st.app [] [] []).tk.length (st.app [] [] []).lp.length [str []] r3.2.2) fun x43 => dF x43 (fin (st.app [] [] []).stk.length (st.app [] [] []).tk.length (st.app [] [] []).lp.length [AM.ab r3.2.1 2] r3.2.2) := by kernel_rfl
 rw [key]
 have hln : ((kU.map kW).length : Int) = (kU.length : Int) := by rw [List.length_map]
 simp only [aD, eB] at h1; unfold jF; generalize kU.find? (fun x => x.isPrefixOf (l.drop i)) = q at h2 ⊢
 cases q with
 | none =>
  subst h2; simp [hN, hT, hL, vc, h1]
 | some x =>
  obtain ⟨rfl, rfl⟩ := h2; simp [hN, hT, hL, vc, h1]
theorem uq (rest : List UInt8) : jF rest = rest.take (jF rest).length := by
 unfold jF
 cases h : kU.find? (fun x => x.isPrefixOf rest) with
 | none => simp
 | some x =>
  have := List.find?_some h; have := List.prefix_iff_eq_take.1 (List.isPrefixOf_iff_prefix.1 this); exact this
def AU : List UInt8 → Option (Nat × Nat × Nat)
 | [] => none
 | c :: r =>
  if c = 35 then (if (nh (r.take (bx cd r))).2 then some (4, bx cd r + 1, (nh (r.take (bx cd r))).1) else none)
  else if bx cd (c :: r) = 0 then (if jF (c :: r) = [] then none else some (5, (jF (c :: r)).length, 0))
  else if ix ((c :: r).take (bx cd (c :: r))) then some (2, bx cd (c :: r), 0)
  else if lg ((c :: r).take (bx cd (c :: r))) then some (1, bx cd (c :: r), 0)
  else if (whole ((c :: r).take (bx cd (c :: r)))).2 then some (3, bx cd (c :: r), (whole ((c :: r).take (bx cd (c :: r)))).1)
  else none
def zQ (rest : List UInt8) (i : Nat) : PV := match AU rest with
 | some (k, n, v) => .tup [.agg (br k (rest.take n) v (0, 0)), .v (.int .i64 ((i + n : Nat) : Int))]
 | none => .tup [.agg (br 0 [] 0 (0, 0)), .v (.int .i64 (i : Int))]
theorem BG {l : List UInt8} {i : Nat} (hi : i < l.length) (hlen : l.length < 2147483648) (st : St) : E L (.func 56) [str l, .v (.int .i64 (i : Int))] st = some (zQ (l.drop i) i, st) := by
 rw [GA]; obtain ⟨N, T, Lb, hN, hT, hL⟩ := lens3 st
 conv => lhs; rw [← al (st)]
 have hix := pP (l := l) .i64 hi
 have w1 : IntKind.i64.wrap ((i : Int) + 1) = ((i + 1 : Nat) : Int) := by rw [IntWalk.i64_in _ (by omega)]; omega
 have e34 : ∀ X, E L (.func 85) [str l, .v (.int .i64 (i : Int))] X = some (.v (.int .i64 ((i + bx cd (l.drop i) : Nat) : Int)), X) := BH (by omega) (by omega)
 have e34' : ∀ X, E L (.func 85) [str l, .v (.int .i64 ((i + 1 : Nat) : Int))] X = some (.v (.int .i64 ((i + 1 + bx cd (l.drop (i + 1)) : Nat) : Int)), X) := BH (by omega) (by omega)
 have hdr := drop_cons hi; have sp := iv cd (l.drop i); have sp' := iv cd (l.drop (i + 1)); have hs1 := Ab (l := l) (lo := i) (hi := i + bx cd (l.drop i)) .i64 .i64 (by omega) (by simp only [cz] at sp; omega); have hs2 := Ab (l := l) (lo := i + 1) (hi := i + 1 + bx cd (l.drop (i + 1))) .i64 .i64 (by omega) (by simp only [cz] at sp'; omega); have hs3 := Ab (l := l) (lo := i) (hi := i + 1 + bx cd (l.drop (i + 1))) .i64 .i64 (by omega) (by simp only [cz] at sp'; omega)
 have tk : ∀ n, (l.take (i + n)).drop i = (l.drop i).take n := fun n => by rw [List.drop_take, show i + n - i = n by omega]
 have tk1 : ∀ n, (l.take (i + 1 + n)).drop (i + 1) = (l.drop (i + 1)).take n := fun n => by rw [List.drop_take, show i + 1 + n - (i + 1) = n by omega]
 rw [tk] at hs1; rw [tk1] at hs2; rw [show i + 1 + bx cd (l.drop (i + 1)) = i + (bx cd (l.drop (i + 1)) + 1) by omega, tk] at hs3; rw [show i + 1 + bx cd (l.drop (i + 1)) = i + (bx cd (l.drop (i + 1)) + 1) by omega] at hs2 e34'
 have e36 : ∀ X, E L (.func 87) [str l, .v (.int .i64 (i : Int))] X = some (str (jF (l.drop i)), X) := Gf (by omega) (by omega)
 have hpre := uq (l.drop i)
 have hsl : (jF (l.drop i)).length ≤ 2147483648 := by
  rw [hpre, List.length_take, cz]; omega
 unfold zQ; simp only [hdr] at e34
 rw [hdr] at *
 have hlr : (l.drop (i + 1)).length < 2147483648 := by rw [cz]; omega
 generalize l[i] = c at *
 generalize l.drop (i + 1) = r at *
 simp only [ai] at sp; clear tk tk1 hdr; rw [AU]
 by_cases hc : c = 35
 · subst hc
   rw [if_pos rfl]; simp only [show ((35 : UInt8).toNat : Int) = 35 from rfl] at hix
   have e35 : ∀ X, E L (.func 86) [str (r.take (bx cd r))] X = some (.tup [.v (.int .u64 ((nh (r.take (bx cd r))).1 : Int)), .v (.bool (nh (r.take (bx cd r))).2)], X) := Ge (by rw [List.length_take]; omega)
   simp only [aw] at hs3; clear e34 hs1 e36 hpre hsl sp sp'
   generalize bx cd r = m at *
   generalize nh (r.take m) = q at *
   obtain ⟨v, ok⟩ := q
   generalize hj : i + (m + 1) = j at *
   generalize i + 1 = i1 at *
   cases ok with
   | true =>
    simp [S56, hN, hT, hL, hix, w1, e34', hs2, hs3, e35, aW, cj, laid, aG, br]; omega
   | false => simp [S56, hN, hT, hL, hix, w1, e34', hs2, hs3, e35, aW, cj, laid, aG, br]
 · rw [if_neg hc]
   have hc' : ¬ ((c.toNat : Int) = 35) := fun e => hc (UInt8.toNat_inj.1 (by simpa using Int.ofNat_inj.1 e))
   by_cases hz : bx cd (c :: r) = 0
   · rw [if_pos hz]
     rw [hz] at e34; simp only [bu] at e34
     by_cases hsg : jF (c :: r) = []
     · rw [if_pos hsg]
       rw [hsg] at e36; simp [S56, hN, hT, hL, hix, hc', e34, e36, aW, cj, laid, aG, br]
     · rw [if_neg hsg]
       have w3 : IntKind.i64.wrap ((i : Int) + ((jF (c :: r)).length : Int)) = ((i + (jF (c :: r)).length : Nat) : Int) := by rw [IntWalk.i64_in _ (by omega)]; omega
       dsimp only; rw [← hpre]
       generalize jF (c :: r) = sg at *
       generalize i + sg.length = j at *
       simp [S56, hN, hT, hL, hix, hc', e34, e36, hsg, dC, w3, aW, cj, laid, aG, br]
   · rw [if_neg hz]
     have hne : ¬ (((i + bx cd (c :: r) : Nat) : Int) = (i : Int)) := by omega
     have htl : ((c :: r).take (bx cd (c :: r))).length < 4611686018427387904 := by rw [List.length_take, ai]; omega
     have e16 := BI ((c :: r).take (bx cd (c :: r))); have e15 := Gg htl; have e37 := Gh htl; clear hpre hsl e36
     generalize bx cd (c :: r) = m at *
     generalize hj : i + m = j at *
     cases hw : ix ((c :: r).take m) with
     | true =>
      simp [S56, hN, hT, hL, hix, hc', e34, hne, hs1, e16, hw, aW, cj, laid, aG, br]; omega
     | false =>
      cases hn : lg ((c :: r).take m) with
      | true =>
       simp [S56, hN, hT, hL, hix, hc', e34, hne, hs1, e16, hw, e15, hn, aW, cj, laid, aG, br]; omega
      | false =>
       generalize whole ((c :: r).take m) = q at *
       obtain ⟨v, ok⟩ := q
       cases ok with
       | true =>
        simp [S56, hN, hT, hL, hix, hc', e34, hne, hs1, e16, hw, e15, hn, e37, aW, cj, laid, aG, br]; omega
       | false => simp [S56, hN, hT, hL, hix, hc', e34, hne, hs1, e16, hw, e15, hn, e37, aW, cj, laid, aG, br]
end Go.Proofs.YtlhlijaondmccaaGreatDoor.S
namespace Go.Proofs.YtlhlijaondmccaaGreatDoor.S
open Go Go.AM Go.Proofs
theorem uK {p : UInt8 → Prop} [DecidablePred p] (h : ∀ n, n < 256 → p (UInt8.ofNat n)) (c : UInt8) : p c := by
 have := h c.toNat c.toNat_lt
 rwa [UInt8.ofNat_toNat] at this
theorem we (c : UInt8) (r : List UInt8) : ∀ xs : List UInt8, ((xs.map fun x => [x]).find? fun x => x.isPrefixOf (c :: r)) = if xs.contains c then some [c] else none
 | [] => rfl
 | x :: xs => by
  rw [aZ, List.find?_cons, we c r xs, List.contains_cons]
  by_cases h : x = c
  · subst h; simp [ef]
  · have h1 : (x == c) = false := by simpa using h
    have h2 : (c == x) = false := by simpa using fun e => h e.symm
    simp [ef, h1, h2]
theorem Bg : kU = [61, 61] :: [33, 61] :: [60, 61] :: iF.map fun x => [x] := rfl
theorem sU (c : UInt8) (r : List UInt8) : (jF (c :: r)).length = eQ (c :: r) := by
 unfold jF; rw [Bg, List.find?_cons, List.find?_cons, List.find?_cons, we]; unfold eQ
 cases ([61, 61] : List UInt8).isPrefixOf (c :: r) with
 | true => rfl
 | false =>
  cases ([33, 61] : List UInt8).isPrefixOf (c :: r) with
  | true => rfl
  | false =>
   cases ([60, 61] : List UInt8).isPrefixOf (c :: r) with
   | true => rfl
   | false =>
    simp only [Bool.or_self, ae, if_false]
    cases iF.contains c <;> rfl
theorem xd (c : UInt8) (r : List UInt8) : jF (c :: r) = [] ↔ eQ (c :: r) = 0 := by
 rw [← sU, List.length_eq_zero_iff]
theorem pN (cs : List UInt8) : ∀ l : List UInt8, 0 ≤ Lib.indexAny l cs ↔ l.any cs.contains = true
 | [] => by simp [Lib.indexAny]
 | b :: l => by
  have ih := pN cs l; have hg := Lib.indexAny_ge cs l
  have e : Lib.indexAny (b :: l) cs = if cs.contains b = true then 0 else if Lib.indexAny l cs = -1 then -1 else Lib.indexAny l cs + 1 := by
   simp only [Lib.indexAny, beq_iff_eq]
  rw [e, List.any_cons]
  cases cs.contains b with
  | true => simp
  | false =>
   rw [if_neg (by simp), Bool.false_or, ← ih]
   by_cases h2 : Lib.indexAny l cs = -1
   · rw [if_pos h2, h2]
   · rw [if_neg h2]; omega
theorem ru (cs l : List UInt8) : Lib.containsAny l cs = l.any cs.contains := by
 rw [Lib.containsAny, Bool.eq_iff_iff, decide_eq_true_eq]; exact pN cs l
def tq (c : UInt8) : Bool := jP c || (decide (97 ≤ c.toNat) && decide (c.toNat ≤ 102))
theorem wq (c : UInt8) : tq c = true → kC c < 16 ∧ (jP c = true → kC c = c.toNat - 48) ∧ (jP c = false → kC c = c.toNat - 87 ∧ 97 ≤ c.toNat ∧ c.toNat ≤ 102) := by
 revert c; refine uK ?_
 decide +kernel
theorem Ci (c : UInt8) : kC c < 16 → tq c = true ∨ ([65, 66, 67, 68, 69, 70] : List UInt8).contains c = true := by
 revert c; refine uK ?_
 decide +kernel
theorem AJ (c : UInt8) : tq c = true → ([65, 66, 67, 68, 69, 70] : List UInt8).contains c = false := by
 revert c; refine uK ?_
 decide +kernel
theorem zf {c : UInt8} (h : tq c = true) (t : List UInt8) (n : Nat) : bt (c :: t) n = bt t ((16 * n + kC c) % 18446744073709551616) := by
 obtain ⟨_, h1, h2⟩ := wq c h; rw [bt]
 cases hd : jP c with
 | true => rw [if_pos rfl, h1 hd]
 | false =>
  obtain ⟨e, a, b⟩ := h2 hd; rw [if_neg (by simp), if_pos ⟨a, b⟩, e]
theorem ze : ∀ (t : List UInt8) (n : Nat), t.all tq = false → bt t n = none
 | [], n, h => by cases h
 | c :: t, n, h => by
  cases hc : tq c with
  | true =>
   rw [bq, hc, bm] at h; rw [zf hc, ze t _ h]
  | false =>
   simp only [tq, Bool.or_eq_false_iff] at hc
   have h2 : ¬ (97 ≤ c.toNat ∧ c.toNat ≤ 102) := by
    rintro ⟨a, b⟩
    have := hc.2; simp [a, b] at this
   rw [bt, if_neg (by rw [hc.1]; simp), if_neg h2]
theorem H6 {i : Nat} (h : i ≤ 15) : 16 ^ i ≤ 1152921504606846976 := by
 have : 16 ^ i ≤ 16 ^ 15 := Nat.pow_le_pow_right (by omega) h; omega
theorem zs : ∀ (t : List UInt8) (i n : Nat), t.length + i ≤ 16 → n < 16 ^ i → t.all tq = true → ∃ v, bt t n = some v ∧ pu 16 1152921504606846976 18446744073709551615 t n = (v, none)
 | [], i, n, _, _, _ => ⟨n, rfl, rfl⟩
 | c :: t, i, n, hl, hn, h => by
  rw [bq, an] at h; simp only [ai] at hl; have hd := (wq c h.1).1; have h15 := H6 (i := i) (by omega)
  have hp : 16 ^ (i + 1) = 16 * 16 ^ i := by rw [Nat.pow_succ, Nat.mul_comm]
  obtain ⟨v, h1, h2⟩ := zs t (i + 1) (n * 16 + kC c) (by omega) (by omega) h.2; refine ⟨v, ?_, ?_⟩
  · rw [zf h.1, Nat.mod_eq_of_lt (by omega), Nat.mul_comm]; exact h1
  · rw [pu, if_neg (by omega), if_neg (by omega), if_neg (by omega)]; exact h2
theorem zV {B cut mx : Nat} : ∀ (t : List UInt8) (n : Nat), (pu B cut mx t n).2 = none → ∀ c ∈ t, kC c < B
 | [], n, _, c, hc => by cases hc
 | a :: t, n, h, c, hc => by
  rw [pu] at h; split at h
  · cases h
  · rename_i hB
    split at h
    · cases h
    · split at h
      · cases h
      · rcases List.mem_cons.1 hc with rfl | hc
        · omega
        · exact zV t _ h c hc
theorem Da (t : List UInt8) : (nh t).2 = mF t ∧ (mF t = true → (nh t).1 = (qJ t).1) := by
 unfold nh mF; rw [ru, List.any_cons, show ([65, 66, 67, 68, 69, 70] : List UInt8).contains 35 = false from rfl, Bool.false_or]
 by_cases hlen : t.length = 16
 · have hne : t ≠ [] := by rintro rfl; cases hlen
   have e : qJ t = pu 16 1152921504606846976 18446744073709551615 t 0 := by rw [qJ, puR, if_neg hne]
   cases hh : t.all tq with
   | true =>
    obtain ⟨v, h1, h2⟩ := zs t 0 0 (by omega) (by omega) hh
    have ha : t.any ([65, 66, 67, 68, 69, 70] : List UInt8).contains = false := by
     rw [List.any_eq_false]; intro c hc; rw [AJ c (dH.1 hh c hc)]; simp
    rw [e, h1, h2, ha]; simp [hlen]
   | false =>
    rw [ze t 0 hh]
    have : ((qJ t).2.isNone && decide (t.length = 16) && !t.any ([65, 66, 67, 68, 69, 70] : List UInt8).contains) = false := by
     cases hp : (qJ t).2 with
     | some k => rfl
     | none =>
      rw [e] at hp; have hd := zV t 0 hp
      cases ha : t.any ([65, 66, 67, 68, 69, 70] : List UInt8).contains with
      | true => simp
      | false =>
       exfalso
       have : t.all tq = true := by
        rw [dH]; intro c hc
        rcases Ci c (hd c hc) with h | h
        · exact h
        · exact absurd h (List.any_eq_false.1 ha c hc)
       rw [this] at hh; cases hh
    rw [this]; simp
 · have h1 : decide (t.length = 16) = false := by simpa using hlen
   rw [h1]
   cases bt t 0 <;> simp
theorem pD (c : UInt8) : (jP c = true → kC c = c.toNat - 48 ∧ kC c < 10 ∧ 48 ≤ c.toNat ∧ UInt8.ofNat (48 + (c.toNat - 48)) = c) ∧ (jP c = false → 10 ≤ kC c) := by
 revert c; refine uK ?_
 decide +kernel
theorem oh : ∀ (t : List UInt8) (n v : Nat), wh t n = some v → n ≤ v
 | [], n, v, h => by obtain rfl := Option.some.inj h; exact av _
 | c :: t, n, v, h => by
  rw [wh] at h; split at h
  · have := oh t _ v h; omega
  · cases h
theorem uw (c : UInt8) : ∀ (t : List UInt8) (n : Nat), wh (t ++ [c]) n = (wh t n).bind fun m => if jP c then some (10 * m + (c.toNat - 48)) else none
 | [], n => by simp [wh]
 | a :: t, n => by
  rw [aA, wh, wh]; split
  · exact uw c t _
  · rfl
theorem H7 : ∀ (t : List UInt8) (n : Nat), n ≤ 9223372036854775807 → ((pu 10 1844674407370955162 9223372036854775807 t n).2 = none ↔ ∃ v, wh t n = some v ∧ v ≤ 9223372036854775807) ∧ (∀ v, wh t n = some v → v ≤ 9223372036854775807 → (pu 10 1844674407370955162 9223372036854775807 t n).1 = v)
 | [], n, hn => by simp [pu, wh, hn]
 | c :: t, n, hn => by
  rw [pu, wh]
  cases hd : jP c with
  | false =>
   have := (pD c).2 hd; rw [if_pos this]; simp
  | true =>
   obtain ⟨e1, e2, e3, _⟩ := (pD c).1 hd; rw [if_neg (by omega), if_pos rfl]
   have e4 : 10 * n + (c.toNat - 48) = n * 10 + kC c := by omega
   rw [e4]
   by_cases h1 : 1844674407370955162 ≤ n
   · rw [if_pos h1]
     constructor
     · constructor
       · intro h; cases h
       · rintro ⟨v, h2, h3⟩
         have := oh t _ v h2; omega
     · intro v h2 h3
       have := oh t _ v h2; omega
   · rw [if_neg h1]
     by_cases h2 : 9223372036854775807 < n * 10 + kC c
     · rw [if_pos h2]
       constructor
       · constructor
         · intro h; cases h
         · rintro ⟨v, h3, h4⟩
           have := oh t _ v h3; omega
       · intro v h3 h4
         have := oh t _ v h3; omega
     · rw [if_neg h2]
       exact H7 t _ (by omega)
theorem zi : ∀ (k u : Nat), u < 10 ^ (k + 1) → (Lib.decDigits u).length ≤ k + 1
 | 0, u, h => by
  rw [Lib.decDigits, dif_pos (by omega)]; simp
 | k + 1, u, h => by
  rw [Lib.decDigits]; split
  · simp
  · have hp : 10 ^ (k + 1 + 1) = 10 * 10 ^ (k + 1) := by rw [Nat.pow_succ, Nat.mul_comm]
    have := zi k (u / 10) (by omega); simp only [bH, bz]; omega
def B9 (t : List UInt8) : Prop := ¬ (1 < t.length ∧ t.head? = some 48)
theorem AE : ∀ u : Nat, B9 (Lib.decDigits u) ∧ Lib.decDigits u ≠ [] ∧ (1 ≤ u → (Lib.decDigits u).head? ≠ some 48) := by
 intro u
 induction u using Nat.strongRecOn with
 | ind u ih =>
  rw [Lib.decDigits]; split
  · rename_i h
    refine ⟨by rintro ⟨h, _⟩; simp at h, by simp, fun h1 => ?_⟩; simp only [List.head?_cons, ne_eq, Option.some.injEq]; intro e
    have : (UInt8.ofNat (48 + u)).toNat = 48 := by rw [e]; rfl
    rw [UInt8.toNat_ofNat', Nat.mod_eq_of_lt (by omega)] at this; omega
  · rename_i h
    obtain ⟨h1, h2, h3⟩ := ih (u / 10) (by omega); have h4 := h3 (by omega)
    have hh : (Lib.decDigits (u / 10) ++ [UInt8.ofNat (48 + u % 10)]).head? = (Lib.decDigits (u / 10)).head? := by
     cases hq : Lib.decDigits (u / 10) with
     | nil => exact absurd hq h2
     | cons a b => rfl
    refine ⟨?_, by simp, fun _ => ?_⟩
    · rintro ⟨_, h5⟩
      rw [hh] at h5; exact h4 h5
    · rw [hh]; exact h4
theorem Ht {t : List UInt8} (h0 : t ≠ []) (h : t.head? ≠ some 48) {m : Nat} (hw : wh t 0 = some m) : 1 ≤ m := by
 cases t with
 | nil => exact absurd rfl h0
 | cons c t =>
  rw [wh] at hw; split at hw
  · rename_i hd
    obtain ⟨_, _, h3, h4⟩ := (pD c).1 hd; have := oh t _ m hw
    have hc : c.toNat ≠ 48 := fun e => h (by rw [List.head?_cons, show c = 48 from UInt8.toNat_inj.1 e])
    omega
  · cases hw
theorem GZ : ∀ (k : Nat) (t : List UInt8), t.length = k → t ≠ [] → B9 t → ∀ v, wh t 0 = some v → Lib.decDigits v = t := by
 intro k
 induction k with
 | zero => intro t hl h0; exact absurd (List.length_eq_zero_iff.1 hl) h0
 | succ k ih =>
  intro t hl h0 hc v hv
  obtain ⟨s, c, rfl⟩ : ∃ s c, t = s ++ [c] := ⟨t.dropLast, t.getLast h0, (List.dropLast_concat_getLast h0).symm⟩
  rw [uw] at hv; obtain ⟨m, hm, hv⟩ := Option.bind_eq_some_iff.1 hv; split at hv
  · rename_i hd
    obtain ⟨e1, e2, e3, e4⟩ := (pD c).1 hd; obtain rfl := Option.some.inj hv
    by_cases hs : s = []
    · subst hs
      obtain rfl : m = 0 := (Option.some.inj hm).symm; rw [Lib.decDigits, dif_pos (by omega)]; simp only [Nat.mul_zero, bh, e4, bg]
    · have hsl : 0 < s.length := List.length_pos_iff.2 hs
      have hh : (s ++ [c]).head? = s.head? := by
       cases s with
       | nil => exact absurd rfl hs
       | cons a b => rfl
      have h48 : s.head? ≠ some 48 := fun e => hc ⟨by simp; omega, by rw [hh]; exact e⟩
      have hm1 := Ht hs h48 hm; have := ih s (by simpa using hl) hs (fun h => h48 h.2) m hm; rw [Lib.decDigits, dif_neg (by omega), show (10 * m + (c.toNat - 48)) / 10 = m by omega, this, show (10 * m + (c.toNat - 48)) % 10 = c.toNat - 48 by omega, e4]
  · cases hv
theorem BA {t : List UInt8} (h0 : t ≠ []) : (whole t).2 = ((oU t).2.isNone && decide (Lib.decDigits (oU t).1 = t)) ∧ ((whole t).2 = true → (whole t).1 = (oU t).1) := by
 have e : oU t = pu 10 1844674407370955162 9223372036854775807 t 0 := by rw [oU, puR, if_neg h0]
 obtain ⟨p1, p2⟩ := H7 t 0 (by omega); rw [e]; unfold whole
 by_cases hc : 1 < t.length ∧ t.head? = some 48
 · rw [if_pos (.inr hc)]
   refine ⟨?_, by simp⟩
   have : ¬ (Lib.decDigits (pu 10 1844674407370955162 9223372036854775807 t 0).1 = t) := fun h => by
    have := (AE (pu 10 1844674407370955162 9223372036854775807 t 0).1).1; rw [h] at this; exact this hc
   simp [this]
 · cases hq : (pu 10 1844674407370955162 9223372036854775807 t 0).2 with
   | some k =>
    have hn : ∀ v, wh t 0 = some v → ¬ v < 9223372036854775808 := fun v hv h => by
     have := p1.2 ⟨v, hv, by omega⟩
     rw [hq] at this; cases this
    by_cases h19 : 19 < t.length
    · rw [if_pos (.inl h19)]; simp
    · rw [if_neg (by rw [not_or]; exact ⟨h19, hc⟩)]
      cases hw : wh t 0 with
      | none => simp
      | some v => simp [hn v hw]
   | none =>
    obtain ⟨v, hv, hle⟩ := p1.1 hq; have hd := GZ t.length t rfl h0 hc v hv; rw [p2 v hv hle, hd]
    have hl : t.length ≤ 19 := by
     have := zi 18 v (by omega); rw [hd] at this; exact this
    rw [if_neg (by rw [not_or]; exact ⟨by omega, hc⟩), hv]
    have : v < 9223372036854775808 := by omega
    simp [this]
theorem Ff (c : UInt8) (r : List UInt8) : AU (c :: r) = if (dp (c :: r)).2.2.2 then some ((dp (c :: r)).1, (dp (c :: r)).2.1, (dp (c :: r)).2.2.1) else none := by
 rw [AU]
 by_cases hc : c = 35
 · subst hc
   rw [if_pos rfl, fM]; obtain ⟨h1, h2⟩ := Da (r.take (bx cd r)); rw [h1]; dsimp only
   cases ho : mF (r.take (bx cd r)) with
   | true => rw [h2 ho]
   | false => rfl
 · rw [if_neg hc]
   cases ha : cd c with
   | true =>
    have hp := sV (l := r) ha; rw [if_neg (by omega), gr ha]
    have h0 : (c :: r).take (bx cd (c :: r)) ≠ [] := by
     intro h; have := congrArg List.length h; rw [List.length_take] at this; simp only [ai, aD] at this; omega
    obtain ⟨h1, h2⟩ := BA h0; dsimp only
    generalize (c :: r).take (bx cd (c :: r)) = t at *
    generalize bx cd (c :: r) = n at *
    unfold jY
    cases ix t with
    | true => simp
    | false =>
     cases lg t with
     | true => simp
     | false =>
      simp only [ae, if_false]; rw [← h1]
      cases hw : (whole t).2 with
      | true => rw [if_pos rfl, h2 hw]; rfl
      | false => rfl
   | false =>
    have hz : bx cd (c :: r) = 0 := by rw [fC, if_neg (by rw [ha]; simp)]
    rw [if_pos hz, fD ha hc]; dsimp only
    by_cases hs : eQ (c :: r) = 0
    · rw [if_pos ((xd c r).2 hs), hs]; rfl
    · rw [if_neg (fun h => hs ((xd c r).1 h)), sU]
      simp [hs]
end Go.Proofs.YtlhlijaondmccaaGreatDoor.S
namespace Go.Proofs.YtlhlijaondmccaaGreatDoor.S
open Go Go.AM Go.Proofs
attribute [local simp] cY cu bV bW cv dS fk dY dh dW dc dX de fj bX gU dR gW gK gE AM.ab aL aM ag aY aN ay AM.onG fK bF dF Ex.ba cond_true cond_false cU cT cS cR cQ cW cP cX cV dZ di dj cr cZ AM.du AM.cellsOf AM.ao bE beq_true dm ai aD bh bu bP decide_true decide_false bC bm bn bA bf aB az bg aA da db fg aw bB bj bM cw dQ dU cI eu ep set_set eD dA fE dB cF bG dz cE dy cD dx eC eE fA fB bK cq eo fw ed aV aR aF AM.aQ ah dt bU aZ bc aJ aI AM.part aO aK bY cg cf cn cn.eS AM.dL bq bT
theorem ph : ∀ (t : List UInt8) (p : Nat × Nat), (∀ c ∈ t, c ≠ 10) → adv t p = (p.1, p.2 + t.length)
 | [], p, _ => rfl
 | c :: t, p, h => by
  rw [adv, if_neg (h c (by simp)), ph t _ fun c hc => h c (by simp [hc])]; simp only [ai, Prod.mk.injEq, true_and]; omega
theorem tD {c : UInt8} (h : cd c = true) : c ≠ 10 := by
 rintro rfl; revert h; decide
theorem DD {c : UInt8} {r : List UInt8} (h : (dp (c :: r)).2.2.2 = true) : ∀ x ∈ (c :: r).take (dp (c :: r)).2.1, x ≠ 10 := by
 cases ha : cd c with
 | true =>
  rw [gr ha]; intro x hx; exact tD (lW cd _ x hx)
 | false =>
  by_cases hc : c = 35
  · subst hc
    rw [fM]; simp only [aw]; intro x hx
    rcases List.mem_cons.1 hx with rfl | hx
    · decide
    · exact tD (lW cd _ x hx)
  · rw [fD ha hc]
    dsimp only; rw [← sU, ← uq]; unfold jF
    cases hf : kU.find? (fun x => x.isPrefixOf (c :: r)) with
    | none => simp
    | some w =>
     have hw := List.mem_of_find?_eq_some hf
     have key : ∀ w ∈ kU, ∀ x ∈ w, x ≠ 10 := by decide
     exact key w hw
theorem AR (l : List UInt8) : ∀ x ∈ l.take (bx nlB l), x ≠ 10 := fun x hx => by
 have := lW nlB l x hx; simpa [nlB] using this
theorem Ax {c : UInt8} {r : List UInt8} (h : eO (c :: r) ≠ 0) (p : Nat × Nat) : adv ((c :: r).take (eO (c :: r))) p = if c = 10 then (p.1 + 1, 1) else (p.1, p.2 + eO (c :: r)) := by
 rw [eO] at h ⊢; split
 · rename_i hp
   have hc : c = 47 := by
    simp only [ef, an, beq_iff_eq] at hp; exact hp.1.symm
   rw [if_neg (by subst hc; decide), ph _ _ (AR _), List.length_take, Nat.min_eq_left (iv _ _)]
 · rename_i hp
   rw [if_neg hp] at h; split
   · rw [aw, bj]
     rfl
   · rename_i hb; rw [if_neg hb] at h; exact absurd rfl h
theorem tZ {l : List UInt8} (hlen : l.length < 2147483648) {X : St} {N T Lb : Nat} (hN : X.stk.length = N) (hT : X.tk.length = T) (hL : X.lp.length = Lb) (y1 y2 y3 y4 y5 y6 y7 y8 y9 : PV) (tk : List (Nat × Nat)) : ∀ (k i : Nat), l.length - i = k → i ≤ l.length →
 itE (S26.b1 (E L) itE N Lb) [str l, y1, y2, y3, y4, y5, y6, y7, y8, y9, .v (.int .i64 (i : Int))] (X.app [] tk []) = some (.exit 2, [str l, y1, y2, y3, y4, y5, y6, y7, y8, y9, .v (.int .i64 ((i + bx nlB (l.drop i) : Nat) : Int))], X.app [] tk []) := by
 intro k
 induction k with
 | zero =>
  intro i hk hi
  obtain rfl : i = l.length := by omega
  apply ft; simp [S26.b1, hN, hT, hL, dC, bx]
 | succ k ih =>
  intro i hk hi
  have hlt : i < l.length := by omega
  have hlt' : (i : Int) < (l.length : Int) := by omega
  have hx := pP (l := l) .i64 hlt; have w1 : IntKind.i64.wrap ((i : Int) + 1) = (i : Int) + 1 := IntWalk.i64_in _ (by omega); rw [drop_cons hlt, fC]
  generalize l[i] = c at *
  have ih := ih (i + 1) (by omega) (by omega); have e : ((c.toNat : Int) = 10) = (c = 10) := jJ c 10 (by omega)
  by_cases hc : c = 10
  · rw [if_neg (by simp [nlB, hc])]
    apply ft; simp [S26.b1, hN, hT, hL, dC, hlt', hx, e, hc]
  · rw [if_pos (by simp [nlB, hc]), bQ (vs' := [str l, y1, y2, y3, y4, y5, y6, y7, y8, y9, .v (.int .i64 ((i + 1 : Nat) : Int))]) (st' := X.app [] tk [])]
    · rw [ih, show i + 1 + bx nlB (l.drop (i + 1)) = i + (bx nlB (l.drop (i + 1)) + 1) from by omega]
    · simp [S26.b1, hN, hT, hL, dC, hlt', hx, e, hc, w1]
abbrev rV (l : List UInt8) (acc : List Tok) (c : Cap) (p : Nat × Nat) (i : PV) : List PV := [str l, .sl [] .nil, .v (.int .i64 0), .v (.int .i64 0), .v (.int .i64 0), .sl (au acc) c, .v (.int .i64 (p.1 : Int)), .v (.int .i64 (p.2 : Int)), i]
section
variable {l : List UInt8} {st : St} {N T Lb : Nat} (hN : st.stk.length = N) (hT : st.tk.length = T) (hL : st.lp.length = Lb) (hlen : l.length < 100000) {i : Nat} {p : Nat × Nat} {acc : List Tok} {c : Cap} {tk : List (Nat × Nat)} (hlt : i < l.length) (h1 : p.1 < 2147483648) (h2 : p.2 < 2147483648) (hsf : ∀ m, c.sf true m = true)
include hN hT hL hlen hlt h1 h2 hsf
theorem A7 (h4 : l[i] = 32 ∨ l[i] = 9 ∨ l[i] = 13 ∨ l[i] = 10) :
 S26.b0 (E L) itE N Lb (rV l acc c p (.v (.int .i64 (i : Int)))) (st.app [] tk []) = some (.normal, rV l acc c (if l[i] = 10 then (p.1 + 1, 1) else (p.1, p.2 + 1)) (.v (.int .i64 ((i + 1 : Nat) : Int))), st.app [] tk []) := by
 have hlt' : (i : Int) < (l.length : Int) := by omega
 have hix := pP (l := l) .i64 hlt
 have w1 : IntKind.i64.wrap ((i : Int) + 1) = ((i + 1 : Nat) : Int) := by rw [IntWalk.i64_in _ (by omega)]; omega
 have wl : IntKind.i64.wrap ((p.1 : Int) + 1) = (p.1 : Int) + 1 := IntWalk.i64_in _ (by omega); have hw1 : IntKind.i64.wrap ((p.2 : Int) + ((i + 1 : Nat) : Int)) = (p.2 : Int) + ((i + 1 : Nat) : Int) := IntWalk.i64_in _ (by omega)
 have hw2 : IntKind.i64.wrap ((p.2 : Int) + ((i + 1 : Nat) : Int) - (i : Int)) = (p.2 : Int) + 1 := by rw [IntWalk.i64_in _ (by omega)]; omega
 generalize l[i] = a at hix h4 ⊢; generalize ((i + 1 : Nat) : Int) = j at w1 hw1 hw2 ⊢; unfold rV
 rcases h4 with rfl | rfl | rfl | rfl
 · simp only [show ((32 : UInt8).toNat : Int) = 32 from rfl] at hix
   simp [S26.b0, hN, hT, hL, dC, hlt', hix, w1, hw1, hw2, hsf, dS, cN]
 · simp only [show ((9 : UInt8).toNat : Int) = 9 from rfl] at hix
   simp [S26.b0, hN, hT, hL, dC, hlt', hix, w1, hw1, hw2, hsf, dS, cN]
 · simp only [show ((13 : UInt8).toNat : Int) = 13 from rfl] at hix
   simp [S26.b0, hN, hT, hL, dC, hlt', hix, w1, hw1, hw2, hsf, dS, cN]
 · simp only [show ((10 : UInt8).toNat : Int) = 10 from rfl] at hix
   simp [S26.b0, hN, hT, hL, dC, hlt', hix, w1, hw1, hw2, wl, hsf, dS, cN]
theorem Dc (hpre : ([47, 47] : List UInt8).isPrefixOf (l[i] :: l.drop (i + 1)) = true) :
 S26.b0 (E L) itE N Lb (rV l acc c p (.v (.int .i64 (i : Int)))) (st.app [] tk []) = some (.normal, rV l acc c (p.1, p.2 + bx nlB (l.drop i)) (.v (.int .i64 ((i + bx nlB (l.drop i) : Nat) : Int))), st.app [] tk []) := by
 have hlt' : (i : Int) < (l.length : Int) := by omega
 have hix := pP (l := l) .i64 hlt; have hsp := iv nlB (l.drop i); rw [cz] at hsp
 have w1 : IntKind.i64.wrap ((i : Int) + 1) = ((i + 1 : Nat) : Int) := by rw [IntWalk.i64_in _ (by omega)]; omega
 have hw1 : IntKind.i64.wrap ((p.2 : Int) + ((i + bx nlB (l.drop i) : Nat) : Int)) = (p.2 : Int) + ((i + bx nlB (l.drop i) : Nat) : Int) := IntWalk.i64_in _ (by omega)
 have hw2 : IntKind.i64.wrap ((p.2 : Int) + ((i + bx nlB (l.drop i) : Nat) : Int) - (i : Int)) = (p.2 : Int) + (bx nlB (l.drop i) : Int) := by rw [IntWalk.i64_in _ (by omega)]; omega
 have hpq := List.isPrefixOf_iff_prefix.1 hpre
 have hc : l[i] = 47 := by
  simp only [ef, an, beq_iff_eq] at hpre; exact hpre.1.symm
 have hlt2 : i + 1 < l.length := by
  have := hpq.length_le; simp only [ai, cz, aD] at this; omega
 have hc2 : l[i + 1] = 47 := by
  rw [drop_cons hlt2] at hpre; simp only [ef, an, beq_iff_eq] at hpre; exact hpre.2.1.symm
 have hix2 := pP (l := l) .i64 hlt2
 have hlt2' : ((i + 1 : Nat) : Int) < (l.length : Int) := by omega
 rw [hc2] at hix2; rw [hc] at hix; simp only [show ((47 : UInt8).toNat : Int) = 47 from rfl] at hix hix2
 have hnl := fun y1 y2 y3 y4 y5 y6 y7 y8 y9 => tZ (l := l) (by omega) hN hT hL y1 y2 y3 y4 y5 y6 y7 y8 y9 tk (l.length - i) i rfl (by omega)
 unfold rV; generalize bx nlB (l.drop i) = n at hw1 hw2 hnl ⊢; generalize ((i + 1 : Nat) : Int) = j at w1 hix2 hlt2'; generalize ((i + n : Nat) : Int) = jn at hw1 hw2 hnl ⊢; simp [S26.b0, hN, hT, hL, dC, hlt', hix, w1, hlt2', hix2, hnl, hw1, hw2, hsf, dS, cN]
theorem wL (hb : eO (l.drop i) = 0) : ml l[i] = false ∧ ∃ q : Bool, (decide ((l[i].toNat : Int) = 47) = true → ((decide (((i + 1 : Nat) : Int) < (l.length : Int)) = false) ∨ ∃ x : UInt8, cG Tryz.prog 9 (str l) (.v (.int .i64 ((i + 1 : Nat) : Int))) = some (.v (.int .u8 (x.toNat : Int))) ∧ decide ((x.toNat : Int) = 47) = false)) := by
 rw [drop_cons hlt, eO] at hb
 have hpre : ([47, 47] : List UInt8).isPrefixOf (l[i] :: l.drop (i + 1)) = false := by
  cases hq : ([47, 47] : List UInt8).isPrefixOf (l[i] :: l.drop (i + 1)) with
  | false => rfl
  | true =>
   have := pU hq; rw [if_pos hq] at hb; omega
 refine ⟨?_, true, ?_⟩
 · cases hq : ml l[i] with
   | false => rfl
   | true => rw [if_neg (by rw [hpre]; simp), if_pos hq] at hb; cases hb
 · intro h47
   have hc : l[i] = 47 := (jJ l[i] 47 (by omega)).mp (of_decide_eq_true h47)
   by_cases hlt2 : i + 1 < l.length
   · right
     refine ⟨l[i + 1], pP .i64 hlt2, ?_⟩; rw [drop_cons hlt2, hc] at hpre
     have h2 : ¬ (l[i + 1] = 47) := fun e => by rw [e] at hpre; simp [ef] at hpre
     have := jJ l[i + 1] 47 (by omega); simp only [decide_eq_false_iff_not]; intro e; exact h2 (this.mp e)
   · left
     simp only [decide_eq_false_iff_not]; omega
theorem Fl (hb : eO (l.drop i) = 0) {k n v : Nat} (hk : k ≠ 0) (hn : n ≤ (l.drop i).length) (ho : AU (l.drop i) = some (k, n, v)) {c' : Cap} {tk' : List (Nat × Nat)}
 (ea : ∀ (bl : List Blk) (lp : List Aux) (base : Nat) (z : List PV), dv base z 5 48 (.sl (au acc) c) [br k ((l.drop i).take n) v p] (st.app bl tk lp) = some (.sl (au acc ++ [br k ((l.drop i).take n) v p]) c', st.app bl tk' lp)) (hsf2 : ∀ m, c'.sf true m = true) :
 S26.b0 (E L) itE N Lb (rV l acc c p (.v (.int .i64 (i : Int)))) (st.app [] tk []) = some (.normal, rV l (acc ++ [⟨k, (l.drop i).take n, v, p⟩]) c' (p.1, p.2 + n) (.v (.int .i64 ((i + n : Nat) : Int))), st.app [] tk' []) := by
 have hlt' : (i : Int) < (l.length : Int) := by omega
 have hix := pP (l := l) .i64 hlt; rw [cz] at hn
 have w1 : IntKind.i64.wrap ((i : Int) + 1) = ((i + 1 : Nat) : Int) := by rw [IntWalk.i64_in _ (by omega)]; omega
 have hw1 : IntKind.i64.wrap ((p.2 : Int) + ((i + n : Nat) : Int)) = (p.2 : Int) + ((i + n : Nat) : Int) := IntWalk.i64_in _ (by omega)
 have hw2 : IntKind.i64.wrap ((p.2 : Int) + ((i + n : Nat) : Int) - (i : Int)) = (p.2 : Int) + (n : Int) := by rw [IntWalk.i64_in _ (by omega)]; omega
 obtain ⟨hbl, _, hq⟩ := wL hN hT hL hlen hlt h1 h2 hsf hb; have e19 := BG hlt (by omega); rw [zQ, ho] at e19; have hte : au (acc ++ [⟨k, (l.drop i).take n, v, p⟩]) = au acc ++ [br k ((l.drop i).take n) v p] := ku _ _; unfold rV; rw [hte]
 have hk' : ¬ ((k : Int) = 0) := by omega
 have t32 : ¬ ((l[i].toNat : Int) = 32) := fun e => by rw [(jJ _ 32 (by omega)).mp e] at hbl; cases hbl
 have t9 : ¬ ((l[i].toNat : Int) = 9) := fun e => by rw [(jJ _ 9 (by omega)).mp e] at hbl; cases hbl
 have t10 : ¬ ((l[i].toNat : Int) = 10) := fun e => by rw [(jJ _ 10 (by omega)).mp e] at hbl; cases hbl
 have t13 : ¬ ((l[i].toNat : Int) = 13) := fun e => by rw [(jJ _ 13 (by omega)).mp e] at hbl; cases hbl
 dsimp only at e19; simp only [br] at e19 ea ⊢; generalize (l.drop i).take n = t at e19 ea ⊢; generalize l[i] = a at hix hq t32 t9 t10 t13 ⊢; generalize ((i + 1 : Nat) : Int) = j at w1 hq; generalize ((i + n : Nat) : Int) = jn at hw1 hw2 e19 ⊢
 by_cases h47 : (a.toNat : Int) = 47
 · rcases hq (decide_eq_true h47) with h | ⟨x, hx, hx2⟩
   · simp only [decide_eq_false_iff_not] at h
     simp [S26.b0, hN, hT, hL, dC, hlt', hix, t32, t9, t10, t13, h47, w1, h, e19, hk, ea, hw1, hw2, hsf2, dS, cN, laid, aG, aX, jh, gm, cj, AM.cC, AM.eR, chunks]
   · simp only [decide_eq_false_iff_not] at hx2
     by_cases h : j < (l.length : Int)
     · simp [S26.b0, hN, hT, hL, dC, hlt', hix, t32, t9, t10, t13, h47, w1, h, hx, hx2, e19, hk, ea, hw1, hw2, hsf2, dS, cN, laid, aG, aX, jh, gm, cj, AM.cC, AM.eR, chunks]
     · simp [S26.b0, hN, hT, hL, dC, hlt', hix, t32, t9, t10, t13, h47, w1, h, e19, hk, ea, hw1, hw2, hsf2, dS, cN, laid, aG, aX, jh, gm, cj, AM.cC, AM.eR, chunks]
 · simp [S26.b0, hN, hT, hL, dC, hlt', hix, t32, t9, t10, t13, h47, e19, hk, ea, hw1, hw2, hsf2, dS, cN, laid, aG, aX, jh, gm, cj, AM.cC, AM.eR, chunks]
theorem Fk (hb : eO (l.drop i) = 0) (ho : AU (l.drop i) = none) : ∃ z5 z6 z7 z8,
 S26.b0 (E L) itE N Lb (rV l acc c p (.v (.int .i64 (i : Int)))) (st.app [] tk []) = some (.ret, [str l, .sl [] .nil, .v (.int .i64 3), .v (.int .i64 (p.1 : Int)), .v (.int .i64 (p.2 : Int)), z5, z6, z7, z8], st.app [] tk []) := by
 have hlt' : (i : Int) < (l.length : Int) := by omega
 have hix := pP (l := l) .i64 hlt
 have w1 : IntKind.i64.wrap ((i : Int) + 1) = ((i + 1 : Nat) : Int) := by rw [IntWalk.i64_in _ (by omega)]; omega
 obtain ⟨hbl, _, hq⟩ := wL hN hT hL hlen hlt h1 h2 hsf hb; have e19 := BG hlt (by omega); rw [zQ, ho] at e19; unfold rV
 have t32 : ¬ ((l[i].toNat : Int) = 32) := fun e => by rw [(jJ _ 32 (by omega)).mp e] at hbl; cases hbl
 have t9 : ¬ ((l[i].toNat : Int) = 9) := fun e => by rw [(jJ _ 9 (by omega)).mp e] at hbl; cases hbl
 have t10 : ¬ ((l[i].toNat : Int) = 10) := fun e => by rw [(jJ _ 10 (by omega)).mp e] at hbl; cases hbl
 have t13 : ¬ ((l[i].toNat : Int) = 13) := fun e => by rw [(jJ _ 13 (by omega)).mp e] at hbl; cases hbl
 dsimp only at e19; simp only [br, eB] at e19; generalize l[i] = a at hix hq t32 t9 t10 t13 ⊢; generalize ((i + 1 : Nat) : Int) = j at w1 hq; refine ⟨.sl (au acc) c, .v (.int .i64 (p.1 : Int)), .v (.int .i64 (p.2 : Int)), .v (.int .i64 (i : Int)), ?_⟩
 by_cases h47 : (a.toNat : Int) = 47
 · rcases hq (decide_eq_true h47) with h | ⟨x, hx, hx2⟩
   · simp only [decide_eq_false_iff_not] at h
     simp [S26.b0, hN, hT, hL, dC, hlt', hix, t32, t9, t10, t13, h47, w1, h, e19, hsf, dS, cN, laid, aG]
   · simp only [decide_eq_false_iff_not] at hx2
     by_cases h : j < (l.length : Int)
     · simp [S26.b0, hN, hT, hL, dC, hlt', hix, t32, t9, t10, t13, h47, w1, h, hx, hx2, e19, hsf, dS, cN, laid, aG]
     · simp [S26.b0, hN, hT, hL, dC, hlt', hix, t32, t9, t10, t13, h47, w1, h, e19, hsf, dS, cN, laid, aG]
 · simp [S26.b0, hN, hT, hL, dC, hlt', hix, t32, t9, t10, t13, h47, e19, hsf, dS, cN, laid, aG]
end
def FK (l : List UInt8) (st : St) (N Lb : Nat) (i : Nat) (p : Nat × Nat) (acc : List Tok) (c : Cap) (tk : List (Nat × Nat)) : Prop :=
 ∃ x z0 z1 z2 z3 z4 z5 z6 z7 z8 tk', itE (S26.b0 (E L) itE N Lb) [str l, .sl [] .nil, .v (.int .i64 0), .v (.int .i64 0), .v (.int .i64 0), .sl (au acc) c, .v (.int .i64 (p.1 : Int)), .v (.int .i64 (p.2 : Int)), .v (.int .i64 (i : Int))] (st.app [] tk []) =
  some (x, [z0, z1, z2, z3, z4, z5, z6, z7, z8], st.app [] tk' []) ∧
  (match gd (l.drop i) p with
   | .ok ts => x = .exit 0 ∧ ∃ ts' p' c', ts = ts' ++ [⟨0, [], 0, p'⟩] ∧ z5 = .sl (au (acc ++ ts')) c' ∧ z6 = .v (.int .i64 (p'.1 : Int)) ∧ z7 = .v (.int .i64 (p'.2 : Int)) ∧ Own st tk' c' (acc ++ ts').length 5 ∧ (acc ++ ts').length < 1000000
   | .err q => x = .ret ∧ z1 = .sl [] .nil ∧ z2 = .v (.int .i64 3) ∧ z3 = .v (.int .i64 (q.1 : Int)) ∧ z4 = .v (.int .i64 (q.2 : Int)))
theorem Db {l : List UInt8} {st : St} {N T Lb : Nat} (hN : st.stk.length = N) (hT : st.tk.length = T) (hL : st.lp.length = Lb) (hlen : l.length < 100000) : ∀ (k i : Nat) (p : Nat × Nat) (acc : List Tok) (c : Cap) (tk : List (Nat × Nat)), l.length - i = k → i ≤ l.length → 1 ≤ p.2 → p.1 + k < 2147483648 → p.2 + k < 2147483648 → acc.length + k < 1000000 → Own st tk c acc.length 5 →
 FK l st N Lb i p acc c tk := by
 intro k
 induction k using Nat.strongRecOn with
 | ind k ih =>
 intro i p acc c tk hk hi hp h1 h2 hac ho
 have hsf : ∀ m, c.sf true m = true := fun m => ho.sfc m
 by_cases hlt : i < l.length
 · have hlt' : (i : Int) < (l.length : Int) := by omega
   have hix := pP (l := l) .i64 hlt; have hdr := drop_cons hlt
   have w1 : IntKind.i64.wrap ((i : Int) + 1) = ((i + 1 : Nat) : Int) := by rw [IntWalk.i64_in _ (by omega)]; omega
   have wl : IntKind.i64.wrap ((p.1 : Int) + 1) = ((p.1 + 1 : Nat) : Int) := by rw [IntWalk.i64_in _ (by omega)]; omega
   have hgo : ∀ n, i + n ≤ l.length → (l.drop i).drop n = l.drop (i + n) := fun n _ => by rw [List.drop_drop]
   have wn : ∀ n : Nat, i + n ≤ l.length → IntKind.i64.wrap ((p.2 : Int) + ((i + n : Nat) : Int)) = (p.2 : Int) + ((i + n : Nat) : Int) ∧ IntKind.i64.wrap ((p.2 : Int) + ((i + n : Nat) : Int) - (i : Int)) = ((p.2 + n : Nat) : Int) := fun n hn => ⟨IntWalk.i64_in _ (by omega), by rw [IntWalk.i64_in _ (by omega)]; omega⟩
   have e32 : ∀ x : UInt8, ((x.toNat : Int) = 32) = (x = 32) := fun x => jJ x 32 (by omega)
   have e9 : ∀ x : UInt8, ((x.toNat : Int) = 9) = (x = 9) := fun x => jJ x 9 (by omega)
   have e10 : ∀ x : UInt8, ((x.toNat : Int) = 10) = (x = 10) := fun x => jJ x 10 (by omega)
   have e13 : ∀ x : UInt8, ((x.toNat : Int) = 13) = (x = 13) := fun x => jJ x 13 (by omega)
   have e47 : ∀ x : UInt8, ((x.toNat : Int) = 47) = (x = 47) := fun x => jJ x 47 (by omega)
   have go : ∀ (n : Nat) (p' : Nat × Nat), 0 < n → i + n ≤ l.length → 1 ≤ p'.2 → p'.1 ≤ p.1 + n → p'.2 ≤ p.2 + n → gd (l.drop i) p = gd (l.drop (i + n)) p' →
    S26.b0 (E L) itE N Lb [str l, .sl [] .nil, .v (.int .i64 0), .v (.int .i64 0), .v (.int .i64 0), .sl (au acc) c, .v (.int .i64 (p.1 : Int)), .v (.int .i64 (p.2 : Int)), .v (.int .i64 (i : Int))] (st.app [] tk []) =
     some (.normal, [str l, .sl [] .nil, .v (.int .i64 0), .v (.int .i64 0), .v (.int .i64 0), .sl (au acc) c, .v (.int .i64 (p'.1 : Int)), .v (.int .i64 (p'.2 : Int)), .v (.int .i64 ((i + n : Nat) : Int))], st.app [] tk []) →
    FK l st N Lb i p acc c tk := by
    intro n p' hn hin hp1 hp2 hp3 hlex hstep; obtain ⟨x, z0, z1, z2, z3, z4, z5, z6, z7, z8, tk', hit, hres⟩ := ih (k - n) (by omega) (i + n) p' acc c tk (by omega) hin hp1 (by omega) (by omega) (by omega) ho; exact ⟨x, z0, z1, z2, z3, z4, z5, z6, z7, z8, tk', (bQ hstep).trans hit, by rw [hlex]; exact hres⟩
   by_cases hb : eO (l.drop i) ≠ 0
   · have hbl := nU (l.drop i)
     rw [cz] at hbl; have hlx := jo hb p; rw [List.drop_drop] at hlx
     have hpos : 0 < eO (l.drop i) := by omega
     have hw := wn (eO (l.drop i)) (by omega); have hnl := tZ (l := l) (by omega) hN hT hL; rw [hdr] at hb hlx hbl; rw [Ax hb, ← hdr] at hlx; refine go (eO (l.drop i)) (if l[i] = 10 then (p.1 + 1, 1) else (p.1, p.2 + eO (l.drop i))) hpos (by rw [hdr]; omega) ?_ ?_ ?_ hlx ?_
     · split
       · exact av _
       · simp only; omega
     · split <;> simp only <;> omega
     · split <;> simp only <;> omega
     by_cases hpre : ([47, 47] : List UInt8).isPrefixOf (l[i] :: l.drop (i + 1)) = true
     · have hn : eO (l.drop i) = bx nlB (l.drop i) := by rw [hdr, eO, if_pos hpre]
       have hc : l[i] = 47 := by
        simp only [ef, an, beq_iff_eq] at hpre; exact hpre.1.symm
       rw [if_neg (by rw [hc]; decide), hn]; exact Dc hN hT hL hlen hlt (by omega) (by omega) hsf hpre
     · have hbl1 : ml l[i] = true := by
        cases hq : ml l[i] with
        | true => rfl
        | false => rw [eO, if_neg hpre, if_neg (by rw [hq]; simp)] at hb; exact absurd rfl hb
       have hn : eO (l.drop i) = 1 := by rw [hdr, eO, if_neg hpre, if_pos hbl1]
       rw [hn]; exact A7 hN hT hL hlen hlt (by omega) (by omega) hsf (by simpa [ml] using hbl1)
   · have hb0 : eO (l.drop i) = 0 := by
      cases h : eO (l.drop i) with
      | zero => rfl
      | succ n => exact absurd (by rw [h]; omega) hb
     have h1t := Ff l[i] (l.drop (i + 1)); have hle := og l[i] (l.drop (i + 1)); rw [← hdr] at h1t hle
     cases hok : (dp (l.drop i)).2.2.2 with
     | false =>
      rw [hok, if_neg (by simp)] at h1t; obtain ⟨z5, z6, z7, z8, hs⟩ := Fk (p := p) (acc := acc) (c := c) (tk := tk) hN hT hL hlen hlt (by omega) (by omega) hsf hb0 h1t
      have hlx : gd (l.drop i) p = .err p := by
       rw [hdr] at hb0 hok ⊢; exact nB hb0 hok p
      refine ⟨.ret, str l, .sl [] .nil, .v (.int .i64 3), .v (.int .i64 (p.1 : Int)), .v (.int .i64 (p.2 : Int)), z5, z6, z7, z8, tk, eF hs, ?_⟩; rw [hlx]; exact ⟨rfl, rfl, rfl, rfl, rfl⟩
     | true =>
      rw [hok, if_pos rfl] at h1t
      have hkind : (dp (l.drop i)).1 ≠ 0 := by
       rw [hdr]
       cases ha : cd l[i] with
       | true =>
        rw [gr ha]; unfold jY; split
        · simp
        · split <;> simp
       | false =>
        by_cases hc : l[i] = 35
        · rw [hc, fM]; simp
        · rw [fD ha hc]; simp
      have hpos : 0 < (dp (l.drop i)).2.1 := by
       rw [hdr] at hok ⊢; exact kV hok
      have hno := DD (c := l[i]) (r := l.drop (i + 1)) (by rw [← hdr]; exact hok); rw [← hdr] at hno
      have hlx : gd (l.drop i) p = (gd (l.drop (i + (dp (l.drop i)).2.1)) (p.1, p.2 + (dp (l.drop i)).2.1)).cons (iY (l.drop i) p) := by
       have := lO (c := l[i]) (l := l.drop (i + 1)) (by rw [← hdr]; exact hb0) (by rw [← hdr]; exact hok) p; rw [← hdr, ph _ _ hno, List.length_take, Nat.min_eq_left hle, List.drop_drop] at this; exact this
      have hta : iY (l.drop i) p = ⟨(dp (l.drop i)).1, (l.drop i).take (dp (l.drop i)).2.1, (dp (l.drop i)).2.2.1, p⟩ := rfl; rw [cz] at hle; obtain ⟨c', tk', ea, ho'⟩ := po (ys := au [iY (l.drop i) p]) (bytes := 48) (es := au acc) (by rw [fN]; exact ho) (by simp only [fN, dO, ai, aD]; omega) (jI _) (jI _) (by decide) (by decide); have ey : au [iY (l.drop i) p] = [br (dp (l.drop i)).1 ((l.drop i).take (dp (l.drop i)).2.1) (dp (l.drop i)).2.2.1 p] := rfl; have ho2 := ho'; rw [← ku, fN] at ho2; rw [ey] at ea; have hs := Fl (p := p) (acc := acc) (c := c) (tk := tk) hN hT hL hlen hlt (by omega) (by omega) hsf hb0 hkind (by rw [cz]; exact hle) h1t ea (fun m => ho'.sfc m); rw [← hta] at hs
      have q0 : l.length - (i + (dp (l.drop i)).2.1) = k - (dp (l.drop i)).2.1 := by omega
      have q1 : i + (dp (l.drop i)).2.1 ≤ l.length := by omega
      have q2 : 1 ≤ p.2 + (dp (l.drop i)).2.1 := by omega
      have q3 : p.1 + (k - (dp (l.drop i)).2.1) < 2147483648 := by omega
      have q4 : p.2 + (dp (l.drop i)).2.1 + (k - (dp (l.drop i)).2.1) < 2147483648 := by omega
      have q5 : (acc ++ [iY (l.drop i) p]).length + (k - (dp (l.drop i)).2.1) < 1000000 := by rw [bH, bz]; omega
      have q6 : k - (dp (l.drop i)).2.1 < k := by omega
      obtain ⟨x, z0, z1, z2, z3, z4, z5, z6, z7, z8, tk2, hit, hres⟩ := ih (k - (dp (l.drop i)).2.1) q6 (i + (dp (l.drop i)).2.1) (p.1, p.2 + (dp (l.drop i)).2.1) (acc ++ [iY (l.drop i) p]) c' tk' q0 q1 q2 q3 q4 q5 ho2; refine ⟨x, z0, z1, z2, z3, z4, z5, z6, z7, z8, tk2, (bQ hs).trans hit, ?_⟩; rw [hlx]
      cases hl : gd (l.drop (i + (dp (l.drop i)).2.1)) (p.1, p.2 + (dp (l.drop i)).2.1) with
      | ok ts =>
       rw [hl] at hres; obtain ⟨hx, ts', p', c2, e1, e2, e3, e4, e5, e6⟩ := hres; exact ⟨hx, iY (l.drop i) p :: ts', p', c2, by rw [e1]; rfl, by rw [e2]; simp, e3, e4, by simpa using e5, by simpa using e6⟩
      | err q =>
       rw [hl] at hres; exact hres
 · obtain rfl : i = l.length := by omega
   refine ⟨.exit 0, str l, .sl [] .nil, .v (.int .i64 0), .v (.int .i64 0), .v (.int .i64 0), .sl (au acc) c, .v (.int .i64 (p.1 : Int)), .v (.int .i64 (p.2 : Int)), .v (.int .i64 (l.length : Int)), tk, ?_, ?_⟩
   · apply ft
     simp [S26.b0, hN, hT, hL, dC, hsf, dS, cN]
   · rw [List.drop_length, lN]
     exact ⟨rfl, [], p, c, rfl, by rw [List.append_nil], rfl, rfl, by rw [List.append_nil]; exact ho, by rw [List.append_nil]; omega⟩
theorem F9 {l : List UInt8} (h : l.length < 100000) (st : St) : E L (.func 26) [str l] st = some (.tup [.sl (au (sv l)) .dead, .v (.int .i64 ((mV l).1 : Int)), .v (.int .i64 ((mV l).2.1 : Int)), .v (.int .i64 ((mV l).2.2 : Int))], st) := by
 rw [Gy]; obtain ⟨N, T, Lb, hN, hT, hL⟩ := lens3 st
 conv => lhs; rw [← al (st)]
 by_cases hl : 8192 < l.length
 · have hl' : (8192 : Int) < (l.length : Int) := by omega
   simp [S26, hN, hT, hL, dC, hl', sv, mV, hl, au]
 · have hl' : ¬ ((8192 : Int) < (l.length : Int)) := by omega
   obtain ⟨x, z0, z1, z2, z3, z4, z5, z6, z7, z8, tk', hit, hres⟩ := Db hN hT hL h l.length 0 (1, 1) [] .nil [] rfl (by omega) (by simp) (by simp; omega) (by simp; omega) (by simp; omega) (Own.nil _ _ _ _); simp only [au, bc, aa, eB, aO] at hit hres; unfold sv mV; rw [if_neg hl, if_neg hl]
   cases hx : gd l (1, 1) with
   | ok ts =>
    rw [hx] at hres; obtain ⟨rfl, ts', p', c', rfl, rfl, rfl, rfl, ho, hlen⟩ := hres; obtain ⟨c2, tk2, ea, _⟩ := po (ys := au [⟨0, [], 0, p'⟩]) (bytes := 48) (es := au ([] ++ ts')) (by rw [fN]; exact ho) (by simp only [fN, dO, ai, aD]; omega) (jI _) (jI _) (by decide) (by decide); have ey : au [⟨0, [], 0, p'⟩] = [[.v (.int .i64 0), str [], .v (.int .u64 0), .v (.int .i64 (p'.1 : Int)), .v (.int .i64 (p'.2 : Int))]] := rfl; rw [ey] at ea; simp only [bg] at ea hit; dsimp only; rw [ku, ey]; have et : List.map Tok.c ts' = au ts' := rfl; rw [et] at hit; simp [S26, hN, hT, hL, dC, hl', hit, aW, cj, laid, aG, aX, jh, gm, AM.cC, AM.eR, chunks, ea]
   | err q =>
    rw [hx] at hres; obtain ⟨rfl, rfl, rfl, rfl, rfl⟩ := hres; simp [S26, hN, hT, hL, dC, hl', hit, au]
end Go.Proofs.YtlhlijaondmccaaGreatDoor.S
namespace Go.Proofs.YtlhlijaondmccaaGreatDoor.S
open Go Go.AM Go.Proofs
theorem B7 {c : UInt8} : ml c = true ↔ c = 32 ∨ c = 9 ∨ c = 13 ∨ c = 10 := by simp [ml]
theorem uR {c : UInt8} (h : ml c = true) : cd c = false ∧ c ≠ 35 ∧ c ≠ 47 ∧ c ≠ 61 := by
 rcases B7.1 h with rfl | rfl | rfl | rfl <;> decide
theorem sW {q : UInt8 → Bool} {c : UInt8} (hc : q c = false) : ∀ (l R : List UInt8), bx q (l ++ c :: R) = bx q l
 | [], R => by rw [bg, fC, if_neg (by rw [hc]; simp)]; rfl
 | a :: l, R => by rw [aA, fC, fC, sW hc l R]
theorem xl {l R : List UInt8} {n : Nat} (c : UInt8) (h : n ≤ l.length) : (l ++ c :: R).take n = l.take n := List.take_append_of_le_length h
theorem pX {x y a : UInt8} {l R : List UInt8} {c : UInt8} (hc : c ≠ y) : ([x, y] : List UInt8).isPrefixOf (a :: l ++ c :: R) = ([x, y] : List UInt8).isPrefixOf (a :: l) := by
 cases l with
 | nil => simp [ef, hc.symm]
 | cons b l => simp [ef]
theorem Bf {a c : UInt8} {l R : List UInt8} (hc : c ≠ 61) : eQ (a :: l ++ c :: R) = eQ (a :: l) := by
 unfold eQ; rw [pX hc, pX hc, pX hc]
 rfl
theorem DC {a c : UInt8} {l R : List UInt8} (hc : ml c = true) : dp (a :: l ++ c :: R) = dp (a :: l) := by
 obtain ⟨h1, h2, h3, h4⟩ := uR hc
 cases ha : cd a with
 | true =>
  rw [aA, gr ha, gr ha, ← aA, sW h1, xl _ (iv _ _)]
 | false =>
  by_cases hq : a = 35
  · subst hq
    rw [aA, fM, fM, sW h1, xl _ (iv _ _)]
  · rw [aA, fD ha hq, fD ha hq, ← aA, Bf h4]
theorem B6 {a c : UInt8} {l R : List UInt8} (hc : ml c = true) (h : eO (a :: l) = 0) : eO (a :: l ++ c :: R) = 0 := by
 obtain ⟨h1, h2, h3, h4⟩ := uR hc; have hp := pX (x := 47) (a := a) (l := l) (R := R) h3; rw [aA] at hp ⊢; rw [eO] at h ⊢; rw [hp]; split at h
 · rename_i hn
   rw [if_pos hn]; have := pU hn; omega
 · rename_i hn
   rw [if_neg hn]; exact h
theorem qN {q : UInt8 → Bool} : ∀ (l : List UInt8), bx q (l.take (bx q l)) = bx q l
 | [] => rfl
 | a :: l => by
  rw [fC]; split
  · rename_i h
    rw [aw, fC, if_pos h, qN l]
  · rfl
theorem nL {α : Type} (l : List α) (n : Nat) : (l.take n).take n = l.take n := by rw [List.take_take, Nat.min_self]
theorem oa {x y : UInt8} {l : List UInt8} (h : ([x, y] : List UInt8).isPrefixOf l = true) : ∃ r, l = x :: y :: r := by
 obtain ⟨r, hr⟩ := List.isPrefixOf_iff_prefix.1 h; exact ⟨r, hr.symm⟩
theorem sJ {x y a : UInt8} : ([x, y] : List UInt8).isPrefixOf [a] = false := by simp [ef]
theorem yn {a : UInt8} {l : List UInt8} (h : eQ (a :: l) ≠ 0) : eQ ((a :: l).take (eQ (a :: l))) = eQ (a :: l) := by
 by_cases hp : (([61, 61] : List UInt8).isPrefixOf (a :: l) || ([33, 61] : List UInt8).isPrefixOf (a :: l) || ([60, 61] : List UInt8).isPrefixOf (a :: l)) = true
 · have e : eQ (a :: l) = 2 := by rw [eQ, if_pos hp]
   rw [e]; simp only [iQ] at hp
   rcases hp with (hp | hp) | hp <;>
   · obtain ⟨r, hr⟩ := oa hp
     rw [hr]; simp [eQ, ef]
 · have e : eQ (a :: l) = if iF.contains a then 1 else 0 := by rw [eQ, if_neg hp]
   by_cases hs : iF.contains a = true
   · rw [if_pos hs] at e
     rw [e, aw, bj, eQ, sJ, sJ, sJ]; simpa using hs
   · rw [if_neg hs] at e
     exact absurd e h
theorem By {a : UInt8} {l : List UInt8} (h : (dp (a :: l)).2.2.2 = true) : dp ((a :: l).take (dp (a :: l)).2.1) = dp (a :: l) := by
 cases ha : cd a with
 | true =>
  have hs := sV (l := l) ha
  have e : (dp (a :: l)).2.1 = bx cd (a :: l) := by rw [gr ha]
  obtain ⟨n, hn⟩ : ∃ n, bx cd (a :: l) = n + 1 := ⟨bx cd (a :: l) - 1, by omega⟩
  have ht : (a :: l).take (bx cd (a :: l)) = a :: l.take n := by rw [hn, aw]
  have hsp := qN (q := cd) (a :: l); have htt := nL (a :: l) (bx cd (a :: l)); rw [ht] at hsp htt; rw [e, ht, gr ha, gr ha, hsp, htt, ht]
 | false =>
  by_cases hq : a = 35
  · subst hq
    have e : (dp (35 :: l)).2.1 = bx cd l + 1 := by rw [fM]
    rw [e, aw, fM, fM, qN, nL]
  · have e : (dp (a :: l)).2.1 = eQ (a :: l) := by rw [fD ha hq]
    have h0 : eQ (a :: l) ≠ 0 := by
     rw [fD ha hq] at h; simpa using h
    have hs := yn h0
    obtain ⟨n, hn⟩ : ∃ n, eQ (a :: l) = n + 1 := ⟨eQ (a :: l) - 1, by omega⟩
    have ht : (a :: l).take (eQ (a :: l)) = a :: l.take n := by rw [hn, aw]
    rw [ht] at hs; rw [e, ht, fD ha hq, fD ha hq, hs]
theorem Ay {a : UInt8} {l : List UInt8} {n : Nat} (h : eO (a :: l) = 0) : eO (a :: l.take n) = 0 := by
 have hne : ¬ (([47, 47] : List UInt8).isPrefixOf (a :: l) = true) := fun hn => by
  rw [eO, if_pos hn] at h; have := pU hn; omega
 rw [eO, if_neg hne] at h; rw [eO, if_neg ?_]
 · exact h
 · intro hn
   obtain ⟨r, hr⟩ := oa hn; apply hne
   cases l with
   | nil => simp at hr
   | cons b l =>
    cases n with
    | zero => simp at hr
    | succ n =>
     rw [aw] at hr; obtain ⟨rfl, h2⟩ := List.cons.inj hr; obtain ⟨rfl, h3⟩ := List.cons.inj h2; simp [ef]
structure Tk (t : Tok) : Prop where
 ex : ∃ a l, t.text = a :: l ∧ eO (a :: l) = 0 ∧ dp (a :: l) = (t.kind, (a :: l).length, t.n, true)
theorem Ic {a : UInt8} {l : List UInt8} (hb : eO (a :: l) = 0) (h : (dp (a :: l)).2.2.2 = true) (p : Nat × Nat) : Tk (iY (a :: l) p) := by
 have hpos := kV h
 obtain ⟨n, hn⟩ : ∃ n, (dp (a :: l)).2.1 = n + 1 := ⟨(dp (a :: l)).2.1 - 1, by omega⟩
 have hle := og a l; have ht := By h; refine ⟨a, l.take n, by unfold iY; rw [hn, aw], Ay hb, ?_⟩; rw [hn, aw] at ht
 have hlen : (a :: l.take n).length = (dp (a :: l)).2.1 := by
  rw [hn]; simp only [ai, List.length_take] at hle ⊢; omega
 rw [ht, hlen]; unfold iY; rw [← h]
theorem su : ∀ (k : Nat) (rest : List UInt8) (p : Nat × Nat), rest.length = k → ∀ ts, gd rest p = .ok ts → ∃ t0, (∀ t ∈ t0, Tk t) ∧ ts = t0 ++ [⟨0, [], 0, adv rest p⟩] := by
 intro k
 induction k using Nat.strongRecOn with
 | ind k ih =>
  intro rest p hk ts h
  cases rest with
  | nil =>
   rw [lN] at h; obtain rfl := LR.ok.inj h; exact ⟨[], by simp, rfl⟩
  | cons c l =>
   by_cases hb : eO (c :: l) = 0
   · cases ht : (dp (c :: l)).2.2.2 with
     | false => rw [nB hb ht] at h; cases h
     | true =>
      rw [lO hb ht] at h; have hpos := kV ht; have hdl : ((c :: l).drop (dp (c :: l)).2.1).length = (c :: l).length - (dp (c :: l)).2.1 := cz ..
      cases hr : gd ((c :: l).drop (dp (c :: l)).2.1) (adv ((c :: l).take (dp (c :: l)).2.1) p) with
      | err q => rw [hr] at h; cases h
      | ok ts' =>
       rw [hr] at h; obtain rfl := LR.ok.inj h; obtain ⟨t0, h1, h2⟩ := ih _ (by simp only [ai] at hdl hk; omega) _ _ rfl ts' hr; refine ⟨iY (c :: l) p :: t0, ?_, ?_⟩
       · intro t hm
         rcases List.mem_cons.1 hm with rfl | hm
         · exact Ic hb ht p
         · exact h1 t hm
       · rw [h2, aA, ← jj, List.take_append_drop]
   · rw [jo hb] at h
     have hdl : ((c :: l).drop (eO (c :: l))).length = (c :: l).length - eO (c :: l) := cz ..; obtain ⟨t0, h1, h2⟩ := ih _ (by simp only [ai] at hdl hk; omega) _ _ rfl ts h; exact ⟨t0, h1, by rw [h2, ← jj, List.take_append_drop]⟩
theorem CK {c : UInt8} (hc : ml c = true) (R : List UInt8) (p : Nat × Nat) : gd (c :: R) p = gd R (adv [c] p) := by
 have hb : eO (c :: R) = 1 := by
  rw [eO, if_neg, if_pos hc]; intro hn; obtain ⟨r, hr⟩ := oa hn; exact (uR hc).2.2.1 (List.cons.inj hr).1
 rw [jo (by omega), hb]
 rfl
theorem E8 {t : Tok} (h : Tk t) {c : UInt8} (hc : ml c = true) (R : List UInt8) (p : Nat × Nat) : gd (t.text ++ c :: R) p = (gd R (adv (t.text ++ [c]) p)).cons ⟨t.kind, t.text, t.n, p⟩ := by
 obtain ⟨a, l, h1, h2, h3⟩ := h.ex; have ht := DC (a := a) (l := l) (R := R) hc; have hb := B6 (R := R) hc h2; rw [h3] at ht; rw [h1]; rw [aA] at hb ht ⊢; rw [lO hb (by rw [ht]), iY, ht]; dsimp only; rw [← aA, bB, List.drop_left, CK hc, aA, ← aA, jj]
theorem FE {t : Tok} (h : Tk t) : ∀ c ∈ t.text, c ≠ 10 := by
 obtain ⟨a, l, h1, h2, h3⟩ := h.ex; rw [h1]; intro c hc
 cases ha : cd a with
 | true =>
  rw [gr ha] at h3; simp only [Prod.mk.injEq] at h3; have := lW cd (a :: l) c (by rw [h3.2.1, List.take_length]; exact hc)
  rintro rfl
  revert this; decide
 | false =>
  by_cases hq : a = 35
  · subst hq
    rw [fM] at h3; simp only [Prod.mk.injEq, ai] at h3
    rcases List.mem_cons.1 hc with rfl | hc
    · decide
    · have := lW cd l c (by rw [show bx cd l = l.length by omega, List.take_length]; exact hc)
      rintro rfl
      revert this; decide
  · rw [fD ha hq] at h3
    simp only [Prod.mk.injEq] at h3; have h4 := h3.2.1
    have h5 : eQ (a :: l) ≠ 0 := by rw [h4]; simp
    by_cases hp : (([61, 61] : List UInt8).isPrefixOf (a :: l) || ([33, 61] : List UInt8).isPrefixOf (a :: l) || ([60, 61] : List UInt8).isPrefixOf (a :: l)) = true
    · have e : eQ (a :: l) = 2 := by rw [eQ, if_pos hp]
      have hl : l.length = 1 := by rw [e] at h4; simpa using h4.symm
      obtain ⟨b, rfl⟩ := List.length_eq_one_iff.1 hl; simp only [iQ] at hp
      rcases hp with (hp | hp) | hp <;>
      · obtain ⟨r, hr⟩ := oa hp
        obtain ⟨rfl, h7⟩ := List.cons.inj hr; obtain ⟨rfl, _⟩ := List.cons.inj h7; simp only [List.mem_cons, List.not_mem_nil, or_false] at hc
        rcases hc with rfl | rfl <;> decide
    · have e : eQ (a :: l) = if iF.contains a then 1 else 0 := by rw [eQ, if_neg hp]
      by_cases hs : iF.contains a = true
      · rw [if_pos hs] at e
        have hl : l = [] := by rw [e] at h4; simpa using h4.symm
        subst hl; rw [List.mem_singleton] at hc; subst hc
        rintro rfl
        revert hs; decide
      · rw [if_neg hs] at e
        exact absurd e h5
def Tok.bare (t : Tok) : Nat × List UInt8 × Nat := (t.kind, t.text, t.n)
def bk : List Tok → Nat → List Tok
 | [], k => [⟨0, [], 0, (k + 1, 1)⟩]
 | t :: r, k => ⟨t.kind, t.text, t.n, (k, 1)⟩ :: bk r (k + 1)
theorem uP : ∀ (t0 : List Tok) (k : Nat), (bk t0 k).length = t0.length + 1
 | [], k => rfl
 | t :: r, k => by rw [bk, ai, uP r]; rfl
theorem ve {l : List UInt8} {ts : List Tok} (hl : l.length ≤ 8192) (h : gd l (1, 1) = .ok ts) : sv l = ts ∧ mV l = (0, 0, 0) := by
 rw [sv, mV, if_neg (by omega), if_neg (by omega), h]; exact ⟨rfl, rfl⟩
theorem wI {l : List UInt8} {q : Nat × Nat} (hl : l.length ≤ 8192) (h : gd l (1, 1) = .err q) : sv l = [] ∧ mV l = (3, q.1, q.2) := by
 rw [sv, mV, if_neg (by omega), if_neg (by omega), h]; exact ⟨rfl, rfl⟩
def down (d : Nat) (t : Tok) : Tok := { t with p := (t.p.1 + d, t.p.2) }
theorem Bx {c : UInt8} {l : List UInt8} (h : (dp (c :: l)).2.2.2 = true) : (dp (c :: l)).1 ≠ 0 := by
 cases ha : cd c with
 | true =>
  rw [gr ha]
  show (jY _).1 ≠ 0
  unfold jY; split
  · exact Nat.succ_ne_zero _
  · split
    · exact Nat.succ_ne_zero _
    · exact Nat.succ_ne_zero _
 | false =>
  by_cases hc : c = 35
  · subst hc; rw [fM]; exact Nat.succ_ne_zero _
  · rw [fD ha hc]; exact Nat.succ_ne_zero _
abbrev int (n : Int) : PV := .v (.int .i64 n)
abbrev vx (s : ByteArray) : PV := .v (.string s)
inductive X where
 | mk (op bin n kd : Int) (rc name : ByteArray) (kids : List X) (line col : Int)
def X.op : X → Int
 | ⟨a, _, _, _, _, _, _, _, _⟩ => a
def X.bin : X → Int
 | ⟨_, a, _, _, _, _, _, _, _⟩ => a
def X.n : X → Int
 | ⟨_, _, a, _, _, _, _, _, _⟩ => a
def X.kd : X → Int
 | ⟨_, _, _, a, _, _, _, _, _⟩ => a
def X.rc : X → ByteArray
 | ⟨_, _, _, _, a, _, _, _, _⟩ => a
def X.name : X → ByteArray
 | ⟨_, _, _, _, _, a, _, _, _⟩ => a
def X.kids : X → List X
 | ⟨_, _, _, _, _, _, a, _, _⟩ => a
def X.line : X → Int
 | ⟨_, _, _, _, _, _, _, a, _⟩ => a
def X.col : X → Int
 | ⟨_, _, _, _, _, _, _, _, a⟩ => a
structure Pl where
 mk ::
 op : Int
 base : ByteArray
 field : ByteArray
 index : X
 line : Int
 col : Int
structure Rt where
 mk ::
 op : Int
 e : X
 place : Pl
 name : ByteArray
 line : Int
 col : Int
inductive S where
 | mk (op : Int) (name : ByteArray) (right : Rt) (place : Pl) (e : X) (n : Int) (args : List X) (body : List S) (els : List S) (line : Int) (col : Int)
def S.op : S → Int
 | ⟨a, _, _, _, _, _, _, _, _, _, _⟩ => a
def S.name : S → ByteArray
 | ⟨_, a, _, _, _, _, _, _, _, _, _⟩ => a
def S.right : S → Rt
 | ⟨_, _, a, _, _, _, _, _, _, _, _⟩ => a
def S.place : S → Pl
 | ⟨_, _, _, a, _, _, _, _, _, _, _⟩ => a
def S.e : S → X
 | ⟨_, _, _, _, a, _, _, _, _, _, _⟩ => a
def S.n : S → Int
 | ⟨_, _, _, _, _, a, _, _, _, _, _⟩ => a
def S.args : S → List X
 | ⟨_, _, _, _, _, _, a, _, _, _, _⟩ => a
def S.body : S → List S
 | ⟨_, _, _, _, _, _, _, a, _, _, _⟩ => a
def S.els : S → List S
 | ⟨_, _, _, _, _, _, _, _, a, _, _⟩ => a
def S.line : S → Int
 | ⟨_, _, _, _, _, _, _, _, _, a, _⟩ => a
def S.col : S → Int
 | ⟨_, _, _, _, _, _, _, _, _, _, a⟩ => a
mutual
def X.enc : X → List PV
 | ⟨op, bin, n, kd, rc, name, kids, line, col⟩ => [int op, int bin, .v (.int .u64 n), int kd, vx rc, vx name, .sl (fc kids) .dead, int line, int col]
def fc : List X → List (List PV)
 | [] => []
 | x :: xs => x.enc :: fc xs
end
def Pl.enc (p : Pl) : List PV := [int p.op, vx p.base, vx p.field] ++ p.index.enc ++ [int p.line, int p.col]
def Rt.enc (p : Rt) : List PV := [int p.op] ++ p.e.enc ++ p.place.enc ++ [vx p.name, int p.line, int p.col]
mutual
def S.enc : S → List PV
 | ⟨op, name, right, place, e, n, args, body, els, line, col⟩ => [int op, vx name] ++ right.enc ++ place.enc ++ e.enc ++ [int n, .sl (fc args) .dead, .sl (fL body) .dead, .sl (fL els) .dead, int line, int col]
def fL : List S → List (List PV)
 | [] => []
 | x :: xs => x.enc :: fL xs
end
theorem X.eL (x : X) : x.enc = [int x.op, int x.bin, .v (.int .u64 x.n), int x.kd, vx x.rc, vx x.name, .sl (fc x.kids) .dead, int x.line, int x.col] := by cases x; simp only [X.enc]; rfl
theorem S.eL (x : S) : x.enc = [int x.op, vx x.name] ++ x.right.enc ++ x.place.enc ++ x.e.enc ++ [int x.n, .sl (fc x.args) .dead, .sl (fL x.body) .dead, .sl (fL x.els) .dead, int x.line, int x.col] := by cases x; simp only [S.enc]; rfl
theorem pE : ∀ xs, fc xs = xs.map X.enc
 | [] => by simp [fc]
 | x :: xs => by simp [fc, pE xs]
theorem oe : ∀ xs, fL xs = xs.map S.enc
 | [] => by simp [fL]
 | x :: xs => by simp [fL, oe xs]
theorem nt (xs : List X) : (fc xs).length = xs.length := by rw [pE, List.length_map]
theorem mK (xs : List S) : (fL xs).length = xs.length := by rw [oe, List.length_map]
theorem X.len (x : X) : x.enc.length = 9 := by simp only [X.eL]; rfl
theorem X.okc (x : X) : aG x.enc = true := by simp only [X.eL]; rfl
theorem X.can (x : X) : ah (.agg x.enc) = .agg x.enc := by simp only [X.eL]; rfl
theorem X.ly (x : X) : x.enc.map bU = x.enc := by simp only [X.eL]; rfl
theorem X.pl (x : X) : cC x.enc = some x.enc := by simp only [X.eL]; rfl
theorem X.fl (x : X) : x.enc.all dL = true := by simp only [X.eL]; rfl
theorem Pl.len (x : Pl) : x.enc.length = 14 := by simp only [Pl.enc, X.eL]; rfl
theorem Pl.okc (x : Pl) : aG x.enc = true := by simp only [Pl.enc, X.eL]; rfl
theorem Pl.ly (x : Pl) : x.enc.map bU = x.enc := by simp only [Pl.enc, X.eL]; rfl
theorem Pl.fl (x : Pl) : x.enc.all dL = true := by simp only [Pl.enc, X.eL]; rfl
theorem Rt.len (x : Rt) : x.enc.length = 27 := by simp only [Rt.enc, Pl.enc, X.eL]; rfl
theorem Rt.okc (x : Rt) : aG x.enc = true := by simp only [Rt.enc, Pl.enc, X.eL]; rfl
theorem Rt.ly (x : Rt) : x.enc.map bU = x.enc := by simp only [Rt.enc, Pl.enc, X.eL]; rfl
theorem Rt.fl (x : Rt) : x.enc.all dL = true := by simp only [Rt.enc, Pl.enc, X.eL]; rfl
theorem S.len (x : S) : x.enc.length = 58 := by simp only [S.eL, Rt.enc, Pl.enc, X.eL]; rfl
theorem S.okc (x : S) : aG x.enc = true := by simp only [S.eL, Rt.enc, Pl.enc, X.eL]; rfl
theorem S.can (x : S) : ah (.agg x.enc) = .agg x.enc := by simp only [S.eL, Rt.enc, Pl.enc, X.eL]; rfl
theorem S.ly (x : S) : x.enc.map bU = x.enc := by simp only [S.eL, Rt.enc, Pl.enc, X.eL]; rfl
theorem S.pl (x : S) : cC x.enc = some x.enc := by simp only [S.eL, Rt.enc, Pl.enc, X.eL]; rfl
theorem S.fl (x : S) : x.enc.all dL = true := by simp only [S.eL, Rt.enc, Pl.enc, X.eL]; rfl
mutual
def X.sz : X → Nat
 | ⟨_, _, _, _, _, _, ks, _, _⟩ => szs ks + 1
def szs : List X → Nat
 | [] => 0
 | x :: xs => x.sz + szs xs
end
theorem inR {α : Type} (p : List α) (x : α) (xs : List α) : eM (p.length : Int) (p ++ x :: xs).length = true := by
 simp [eM]; omega
theorem wz : ∀ (pre old cs : List PV), old.length = cs.length → laid (pre ++ old) pre.length cs = pre ++ cs
 | pre, [], [], _ => rfl
 | pre, o :: old, c :: cs, h => by
  have : (pre ++ o :: old).set pre.length c = (pre ++ [c]) ++ old := by simp
  rw [laid, this, show pre.length + 1 = (pre ++ [c]).length by simp, wz (pre ++ [c]) old cs (by simpa using h)]; simp
theorem jW (old cs : List PV) (h : old.length = cs.length) : laid old 0 cs = cs := wz [] old cs h
mutual
def S.sz : S → Nat
 | ⟨_, _, r, p, e, _, xs, b, c, _, _⟩ => r.e.sz + r.place.index.sz + p.index.sz + e.sz + szs xs + iG b + iG c + 1
def iG : List S → Nat
 | [] => 0
 | x :: xs => x.sz + iG xs
end
theorem S.F4 (x : S) : x.sz = x.right.e.sz + x.right.place.index.sz + x.place.index.sz + x.e.sz + szs x.args + iG x.body + iG x.els + 1 := by cases x; rfl
end Go.Proofs.YtlhlijaondmccaaGreatDoor.S
namespace Go.Proofs.YtlhlijaondmccaaGreatDoor.S
open Go Go.AM Go.Proofs
attribute [local simp] cY cu bV bW cv dS fk dY dh dW dc dX de fj bX gU dR gW gK gE AM.ab aL aM ag aY aN ay AM.onG fK bF dF Ex.ba cond_true cond_false cU cT cS cR cQ cW cP cX cV dZ di dj cr cw dQ dU nC n7 cZ lX mL lM my AM.du AM.cellsOf AM.ao bE zo u0 beq_true dm ai aD bh bu bP decide_true decide_false bC bm bn bA bf aB az bg aA u5 xT xS da db sj fg aw bB bj bM
def by8 (n : Int) (i : Nat) : UInt8 := UInt8.ofNat (IntKind.u8.wrap ((IntKind.u64.wrap n).fdiv (2 ^ i))).toNat
def gL (n : Int) : ByteArray := ⟨#[UInt8.ofNat (IntKind.u8.wrap (IntKind.u64.wrap n)).toNat, by8 n 8, by8 n 16, by8 n 24, by8 n 32, by8 n 40, by8 n 48, by8 n 56]⟩
def w64 (n : Int) : Int := IntKind.i64.wrap n
mutual
def X.text : X → List ByteArray
 | ⟨op, bin, n, kd, rc, name, ks, _, _⟩ => [⟨#[101, 120, 112, 114]⟩, gL op, gL bin, gL (w64 n), gL kd, rc, name, gL ks.length] ++ iz ks
def iz : List X → List ByteArray
 | [] => []
 | x :: xs => x.text ++ iz xs
end
theorem X.vy (x : X) : x.text = [⟨#[101, 120, 112, 114]⟩, gL x.op, gL x.bin, gL (w64 x.n), gL x.kd, x.rc, x.name, gL x.kids.length] ++ iz x.kids := by
 cases x; simp only [X.text]; rfl
theorem Ad : ∀ xs ys : List X, szs (xs ++ ys) = szs xs + szs ys
 | [], ys => by simp [szs]
 | x :: xs, ys => by simp [szs, Ad xs ys]; omega
def Pl.tx (p : Pl) : List ByteArray := [⟨#[112, 108, 97, 99, 101]⟩, gL p.op, p.base, p.field] ++ p.index.text
mutual
def S.tx : S → List ByteArray
 | ⟨op, name, right, place, e, n, args, body, els, _, _⟩ => [⟨#[115, 116, 109, 116]⟩, gL op, name, gL n, gL right.op, right.name, gL args.length] ++ right.e.text ++ right.place.tx ++ place.tx ++ e.text ++ iz args ++ ([⟨#[114, 111, 119]⟩, gL body.length] ++ tA body) ++ ([⟨#[114, 111, 119]⟩, gL els.length] ++ tA els)
def tA : List S → List ByteArray
 | [] => []
 | x :: xs => x.tx ++ tA xs
end
def sO (xs : List S) : List ByteArray := [⟨#[114, 111, 119]⟩, gL xs.length] ++ tA xs
def S.hd (x : S) : List ByteArray := [⟨#[115, 116, 109, 116]⟩, gL x.op, x.name, gL x.n, gL x.right.op, x.right.name, gL x.args.length]
theorem S.F6 (x : S) : x.tx = x.hd ++ x.right.e.text ++ x.right.place.tx ++ x.place.tx ++ x.e.text ++ iz x.args ++ sO x.body ++ sO x.els := by
 cases x; simp only [S.tx]; rfl
theorem qQ : ∀ (p : List S) (x : S), tA (p ++ [x]) = tA p ++ x.tx
 | [], x => by simp [tA]
 | y :: ys, x => by simp [tA, qQ ys x]
theorem xf : ∀ xs ys : List S, iG (xs ++ ys) = iG xs + iG ys
 | [], ys => by simp [iG]
 | x :: xs, ys => by simp [iG, xf xs ys]; omega
end Go.Proofs.YtlhlijaondmccaaGreatDoor.S
namespace Go.Proofs.YtlhlijaondmccaaGreatDoor.S
open Go Go.AM Go.Proofs
theorem dJ {α β : Type} (a : α) (f : α → Option β) : (some a).bind f = f a := by
 cases h : f a with
 | none => exact h
 | some b => exact h
theorem dK {α β : Type} {x y : Option α} (f : α → Option β) (h : x = y) : x.bind f = y.bind f := by rw [h]
inductive PR (α : Type) where
 | ok (a : α) (l : List Tok)
 | bad (e : Nat) (q : Nat × Nat)
def PR.map {α β : Type} (f : α → β) : PR α → PR β
 | .ok a l => .ok (f a) l
 | .bad e q => .bad e q
def pb {α β : Type} (x : Option (PR α)) (K : α → List Tok → Option (PR β)) : Option (PR β) := match x with
 | none => none
 | some (.bad e q) => some (.bad e q)
 | some (.ok a l) => K a l
def tC : Tok := ⟨0, [], 0, (0, 0)⟩
def hd (l : List Tok) : Tok := l.headD tC
def isT (l : List Tok) (s : List UInt8) : Bool := (decide ((hd l).kind = 2) || decide ((hd l).kind = 5)) && decide ((hd l).text = s)
def dq (l : List Tok) : List Tok := if (hd l).kind = 0 then l else l.tail
def cL (s : List UInt8) (l : List Tok) : PR Tok := if isT l s then .ok (hd l) l.tail else .bad 4 (hd l).p
def ec (k : Nat) (l : List Tok) : PR Tok := if (hd l).kind = k then .ok (hd l) (dq l) else .bad 4 (hd l).p
def mP {α : Type} (d : Nat) (t : Tok) (x : Option (PR α)) : Option (PR α) := if 12 < d + 1 then some (.bad 10 t.p) else x
structure Ty2 where
 kd : Int
 rc : ByteArray
def qj (l : List Tok) : PR Ty2 :=
 if isT l [105, 110, 116] then .ok ⟨1, bs []⟩ l.tail else
 if isT l [114, 101, 97, 108] then .ok ⟨2, bs []⟩ l.tail else
 if isT l [105, 110, 116, 115] then .ok ⟨3, bs []⟩ l.tail else
 (ec 1 l).map fun t => ⟨4, bs t.text⟩
structure Nm where
 name : ByteArray
 ty : Ty2
 line : Int
 col : Int
def jf (l : List Tok) : Option (PR Nm) :=
 pb (some (ec 1 l)) fun t l1 => pb (some (cL [58] l1)) fun _ l2 => pb (some (qj l2)) fun ty l3 => some (.ok ⟨bs t.text, ty, t.p.1, t.p.2⟩ l3)
def gy : Nat → List (List UInt8)
 | 0 => [[61, 61], [33, 61], [60], [60, 61]]
 | 1 => [[43], [45]]
 | _ => [[42], [47], [37]]
def vS (w : List UInt8) : Int := if w = [43] then 0 else if w = [45] then 1 else if w = [42] then 2 else if w = [47] then 3 else if w = [37] then 4 else if w = [61, 61] then 5 else if w = [33, 61] then 6 else if w = [60] then 7 else if w = [60, 61] then 8 else 0
def gx (lv : Nat) (t : Tok) : Option Int := if t.kind = 5 ∧ (gy lv).contains t.text = true then some (vS t.text) else none
def fR (t : Tok) : Int :=
 if t.kind = 2 ∨ t.kind = 5 then
  if t.text = [45] then 6 else if t.text = [114, 101, 97, 108] then 7 else if t.text = [116, 114, 117, 110, 99] then 8 else 0
 else 0
def x0 : X := ⟨0, 0, 0, 0, bs [], bs [], [], 0, 0⟩
def atX (t : Tok) (op n kd : Int) (rc name : List UInt8) : X := ⟨op, 0, n, kd, bs rc, bs name, [], t.p.1, t.p.2⟩
mutual
def il : Nat → Nat → List Tok → Option (PR X)
 | 0, _, _ => none
 | n + 1, d, l =>
  let t := hd l
  if t.kind = 3 then some (.ok (atX t 1 t.n 0 [] []) (dq l)) else
  if t.kind = 4 then some (.ok (atX t 2 t.n 0 [] []) (dq l)) else
  if t.kind = 1 then some (.ok (atX t 5 0 0 [] t.text) (dq l)) else
  if t.kind = 2 ∧ t.text = [105, 110, 112, 117, 116] then some ((ec 3 (dq l)).map fun u => atX t 4 u.n 0 [] []) else
  if t.kind = 2 ∧ t.text = [110, 105, 108] then
   (if isT (dq l) [105, 110, 116, 115] then some (.ok (atX t 3 0 3 [] []) (dq l).tail) else some ((ec 1 (dq l)).map fun u => atX t 3 0 4 u.text [])) else
  if t.kind = 5 ∧ t.text = [40] then mP d t (pb (dG n 0 (d + 1) (dq l)) fun e l1 => pb (some (cL [41] l1)) fun _ l2 => some (.ok e l2)) else
  some (.bad 4 t.p)
def fv : Nat → Nat → List Tok → Option (PR X)
 | 0, _, _ => none
 | n + 1, d, l =>
  let t := hd l
  if fR t = 0 then il n d l else
  mP d t (pb (fv n (d + 1) (dq l)) fun k l1 => some (.ok ⟨fR t, 0, 0, 0, bs [], bs [], [k], t.p.1, t.p.2⟩ l1))
def dG : Nat → Nat → Nat → List Tok → Option (PR X)
 | 0, _, _, _ => none
 | n + 1, lv, d, l => if lv = 3 then fv n d l else pb (dG n (lv + 1) d l) fun e l1 => ig n lv d e l1
def ig : Nat → Nat → Nat → X → List Tok → Option (PR X)
 | 0, _, _, _, _ => none
 | n + 1, lv, d, e, l =>
  let t := hd l
  match gx lv t with
  | none => some (.ok e l)
  | some b => pb (dG n (lv + 1) d (dq l)) fun k l1 =>
   if lv = 0 then some (.ok ⟨9, b, 0, 0, bs [], bs [], [e, k], t.p.1, t.p.2⟩ l1) else ig n lv d ⟨9, b, 0, 0, bs [], bs [], [e, k], t.p.1, t.p.2⟩ l1
end
def mC (n d : Nat) (l : List Tok) : Option (PR Pl) :=
 pb (some (ec 1 l)) fun t l1 =>
  if isT l1 [46] then pb (some (ec 1 l1.tail)) fun u l2 => some (.ok ⟨2, bs t.text, bs u.text, x0, t.p.1, t.p.2⟩ l2) else
  if isT l1 [91] then pb (dG n 0 d l1.tail) fun e l2 => pb (some (cL [93] l2)) fun _ l3 => some (.ok ⟨3, bs t.text, bs [], e, t.p.1, t.p.2⟩ l3) else
  some (.ok ⟨1, bs t.text, bs [], x0, t.p.1, t.p.2⟩ l1)
def pl0 : Pl := ⟨0, bs [], bs [], x0, 0, 0⟩
def gY (n d : Nat) (l : List Tok) : Option (PR Rt) :=
 let t := hd l
 if isT l [108, 111, 97, 100] then pb (mC n d l.tail) fun x l1 => some (.ok ⟨2, x0, x, bs [], t.p.1, t.p.2⟩ l1) else
 if isT l [115, 105, 122, 101] then pb (some (ec 1 l.tail)) fun u l1 => some (.ok ⟨5, x0, pl0, bs u.text, t.p.1, t.p.2⟩ l1) else
 if isT l [110, 101, 119] then
  (if isT l.tail [105, 110, 116, 115] then pb (dG n 0 d l.tail.tail) fun e l1 => some (.ok ⟨4, e, pl0, bs [], t.p.1, t.p.2⟩ l1)
   else pb (some (ec 1 l.tail)) fun u l1 => some (.ok ⟨3, x0, pl0, bs u.text, t.p.1, t.p.2⟩ l1)) else
 pb (dG n 0 d l) fun e l1 => some (.ok ⟨1, e, pl0, bs [], t.p.1, t.p.2⟩ l1)
def iH : Nat → Nat → Nat → List X → List Tok → Option (PR (List X))
 | 0, _, _, _, _ => none
 | n + 1, m, d, acc, l => pb (dG m 0 d l) fun e l1 =>
  if isT l1 [41] then some (.ok (acc ++ [e]) l1.tail) else pb (some (cL [44] l1)) fun _ l2 => iH n m d (acc ++ [e]) l2
def qV (n d : Nat) (l : List Tok) : Option (PR (List X)) := pb (some (cL [40] l)) fun _ l1 => if isT l1 [41] then some (.ok [] l1.tail) else iH n n d [] l1
def rt0 : Rt := ⟨0, x0, pl0, bs [], 0, 0⟩
abbrev mkS (t : Tok) (op : Int) (name : ByteArray) (right : Rt) (place : Pl) (e : X) (n : Int) (args : List X) (body els : List S) : S := ⟨op, name, right, place, e, n, args, body, els, t.p.1, t.p.2⟩
def eU (l : List Tok) : ByteArray × List Tok := if (hd l).kind = 1 then (bs (hd l).text, dq l) else (bs [], l)
def fV (s : S) (l : List Tok) : Option (PR S) := pb (some (cL [59] l)) fun _ l1 => some (.ok s l1)
mutual
def en : Nat → Nat → List Tok → Option (PR (List S))
 | 0, _, _ => none
 | n + 1, d, l => pb (some (cL [123] l)) fun t l1 => mP d t (j9 n (d + 1) [] l1)
def j9 : Nat → Nat → List S → List Tok → Option (PR (List S))
 | 0, _, _, _ => none
 | n + 1, d, acc, l => if isT l [125] then some (.ok acc l.tail) else pb (iC n d l) fun s l1 => j9 n d (acc ++ [s]) l1
def iB : Nat → Nat → Tok → ByteArray → List Tok → Option (PR S)
 | 0, _, _, _, _ => none
 | n + 1, d, t, name, l => pb (some (ec 3 l)) fun u l1 => pb (en n d l1) fun b l2 => some (.ok (mkS t 7 name rt0 pl0 x0 (IntKind.i64.wrap u.n) [] b []) l2)
def iC : Nat → Nat → List Tok → Option (PR S)
 | 0, _, _ => none
 | n + 1, d, l =>
  let t := hd l
  if t.kind = 1 then
   (if isT (dq l) [58] then pb (some (cL [108, 111, 111, 112] (dq l).tail)) fun _ l1 => iB n d t (bs t.text) l1
    else pb (some (cL [61] (dq l))) fun _ l1 => pb (gY n d l1) fun r l2 => fV (mkS t 3 (bs t.text) r pl0 x0 0 [] [] []) l2) else
  if isT l [108, 111, 111, 112] then iB n d t (bs []) l.tail else
  if isT l [105, 102] then
   pb (dG n 0 d l.tail) fun e l1 => pb (en n d l1) fun b l2 =>
    (if isT l2 [101, 108, 115, 101] then pb (en n d l2.tail) fun c l3 => some (.ok (mkS t 6 (bs []) rt0 pl0 e 0 [] b c) l3) else some (.ok (mkS t 6 (bs []) rt0 pl0 e 0 [] b []) l2)) else
  if isT l [97, 116, 111, 109, 105, 99] then pb (en n d l.tail) fun b l1 => some (.ok (mkS t 10 (bs []) rt0 pl0 x0 0 [] b []) l1) else
  if isT l [108, 101, 116] ∨ isT l [118, 97, 114] then
   pb (some (ec 1 (dq l))) fun u l1 => pb (some (cL [61] l1)) fun _ l2 => pb (gY n d l2) fun r l3 => fV (mkS t (if t.text = [118, 97, 114] then 2 else 1) (bs u.text) r pl0 x0 0 [] [] []) l3 else
  if isT l [115, 101, 116] then pb (mC n d l.tail) fun x l1 => pb (some (cL [61] l1)) fun _ l2 => pb (dG n 0 d l2) fun e l3 => fV (mkS t 4 (bs []) rt0 x e 0 [] [] []) l3 else
  if isT l [112, 114, 105, 110, 116] then pb (dG n 0 d l.tail) fun e l1 => fV (mkS t 5 (bs []) rt0 pl0 e 0 [] [] []) l1 else
  if isT l [98, 114, 101, 97, 107] then fV (mkS t 8 (eU l.tail).1 rt0 pl0 x0 0 [] [] []) (eU l.tail).2 else
  if isT l [99, 111, 110, 116, 105, 110, 117, 101] then fV (mkS t 9 (eU l.tail).1 rt0 pl0 x0 0 [] [] []) (eU l.tail).2 else
  if isT l [99, 97, 108, 108] then
   pb (some (ec 1 l.tail)) fun u l1 => pb (qV n d l1) fun xs l2 => fV (mkS t 11 (bs u.text) rt0 pl0 x0 0 xs [] []) l2 else
  some (.bad 4 t.p)
end
structure Rec where
 name : ByteArray
 fields : List Nm
 line : Int
 col : Int
structure Fu where
 name : ByteArray
 params : List Nm
 body : List S
 line : Int
 col : Int
structure Th where
 body : List S
 line : Int
 col : Int
structure Pg where
 gM : List Rec
 gls : List Nm
 gJ : List Fu
 ths : List Th
def gj : Nat → List Nm → List Tok → Option (PR (List Nm))
 | 0, _, _ => none
 | n + 1, acc, l => if isT l [125] then some (.ok acc l.tail) else pb (jf l) fun f l1 => pb (some (cL [59] l1)) fun _ l2 => gj n (acc ++ [f]) l2
def vq (n : Nat) (l : List Tok) : Option (PR Rec) :=
 pb (some (ec 1 l)) fun t l1 => pb (some (cL [123] l1)) fun _ l2 => pb (gj n [] l2) fun fs l3 => some (.ok ⟨bs t.text, fs, t.p.1, t.p.2⟩ l3)
def fu : Nat → List Nm → List Tok → Option (PR (List Nm))
 | 0, _, _ => none
 | n + 1, acc, l => pb (jf l) fun f l1 => if isT l1 [41] then some (.ok (acc ++ [f]) l1.tail) else pb (some (cL [44] l1)) fun _ l2 => fu n (acc ++ [f]) l2
def wj (n : Nat) (l : List Tok) : Option (PR Fu) :=
 pb (some (ec 1 l)) fun t l1 => pb (some (cL [40] l1)) fun _ l2 =>
  pb (if isT l2 [41] then some (.ok [] l2.tail) else fu n [] l2) fun ps l3 => pb (en n 0 l3) fun b l4 => some (.ok ⟨bs t.text, ps, b, t.p.1, t.p.2⟩ l4)
def eA : Nat → Nat → Pg → List Tok → Option (PR Pg)
 | 0, _, _, _ => none
 | n + 1, m, g, l =>
  let t := hd l
  if t.kind = 0 then some (.ok g l) else
  if isT l [114, 101, 99, 111, 114, 100] then pb (vq m l.tail) fun r l1 => eA n m { g with gM := g.gM ++ [r] } l1 else
  if isT l [103, 108, 111, 98, 97, 108] then pb (jf l.tail) fun x l1 => pb (some (cL [59] l1)) fun _ l2 => eA n m { g with gls := g.gls ++ [x] } l2 else
  if isT l [102, 117, 110] then pb (wj m l.tail) fun f l1 => eA n m { g with gJ := g.gJ ++ [f] } l1 else
  if isT l [116, 104, 114, 101, 97, 100] then pb (en m 0 l.tail) fun b l1 => eA n m { g with ths := g.ths ++ [⟨b, t.p.1, t.p.2⟩] } l1 else
  some (.bad 4 t.p)
def Gl (ts : List Tok) : Prop := ∀ t ∈ ts, t.kind = 2 → ∀ lv, lv < 3 → (gy lv).contains t.text = false
end Go.Proofs.YtlhlijaondmccaaGreatDoor.S
namespace Go.Proofs.YtlhlijaondmccaaGreatDoor.S
open Go Go.AM Go.Proofs
attribute [local simp] cY cu bV bW cv dS fk dY dh dW dc dX de fj bX gU dR gW gK gE AM.ab aL aM aY aN ay AM.onG fK bF dF Ex.ba cond_true cond_false cU cT cS cR cQ cW cP cX cV dZ di dj cr cZ AM.du AM.cellsOf AM.ao bE beq_true dm ai aD bh bu bP decide_true decide_false bC bm bn bA bf aB az bg aA da db fg aw bB bj bM cw dQ dU cI eu ep set_set eD dA fE dB cF bG dz cE dy cD dx eC eE fA fB bK cq eo fw ed aV aR aF AM.aQ ah dt bU aZ bc aJ aI AM.part aO aK bY cg cf cn cn.eS AM.dL bq bT dJ fQ aV laid aG aW cj
attribute [-simp] ag
attribute [local congr] dK
abbrev pcf (es : List (List PV)) (a d e q1 q2 : Int) : List PV := [.sl es .dead, .v (.int .i64 a), .v (.int .i64 d), .v (.int .i64 e), .v (.int .i64 q1), .v (.int .i64 q2)]
abbrev pcA (ts l : List Tok) : Int := ((ts.length - l.length : Nat) : Int)
abbrev pc (ts l : List Tok) (d : Nat) : List PV := pcf (au ts) (pcA ts l) d 0 0 0
structure Row (ts : List Tok) : Prop where
 len : ts.length < 100000
 shape : ∃ t0 q, ts = t0 ++ [⟨0, [], 0, q⟩] ∧ ∀ t ∈ t0, t.kind ≠ 0
 num : ∀ t ∈ ts, t.n < 9223372036854775808 ∨ t.kind = 4
 txt : ∀ t ∈ ts, t.text.length < 1000000
 sign : ∀ t ∈ ts, t.kind = 5 → ∀ c ∈ t.text, c ≠ 32
def Sfx (ts l : List Tok) : Prop := l ≠ [] ∧ ∃ dn, ts = dn ++ l
theorem Sfx.cons {ts l : List Tok} (h : Sfx ts l) : ∃ t r, l = t :: r := by
 obtain ⟨h1, _⟩ := h
 cases l with
 | nil => exact absurd rfl h1
 | cons t r => exact ⟨t, r, rfl⟩
theorem Sfx.tail {ts l : List Tok} (hr : Row ts) (h : Sfx ts l) (hk : (hd l).kind ≠ 0) : Sfx ts l.tail := by
 obtain ⟨t, r, rfl⟩ := h.cons; obtain ⟨_, dn, rfl⟩ := h; refine ⟨?_, dn ++ [t], by simp⟩; intro e; have e : r = [] := e; subst e; obtain ⟨t0, q, h1, _⟩ := hr.shape; have := List.append_inj_right' h1 rfl; obtain rfl := (List.cons.inj this).1; exact hk rfl
theorem Sfx.next {ts l : List Tok} (hr : Row ts) (h : Sfx ts l) : Sfx ts (dq l) := by
 unfold dq; split
 · exact h
 · rename_i hk; exact h.tail hr hk
theorem CF {l : List Tok} {s : List UInt8} (h : isT l s = true) : (hd l).kind ≠ 0 := by
 unfold isT at h; simp only [an, iQ, decide_eq_true_eq] at h; omega
theorem Sfx.isT {ts l : List Tok} (hr : Row ts) (h : Sfx ts l) {s : List UInt8} (hi : isT l s = true) : Sfx ts l.tail := h.tail hr (CF hi)
theorem CX {ts l : List Tok} (h : Sfx ts l) : pcA ts l.tail = pcA ts l + 1 := by
 obtain ⟨t, r, rfl⟩ := h.cons; obtain ⟨_, dn, rfl⟩ := h; simp only [pcA, List.tail_cons, bH, ai]; omega
theorem Fh {ts l : List Tok} (hr : Row ts) : 0 ≤ pcA ts l ∧ pcA ts l < 100000 := by
 have := hr.len
 simp only [pcA]; omega
theorem wS {ts l : List Tok} (hr : Row ts) (h : Sfx ts l) : IntKind.i64.wrap (pcA ts l + 1) = pcA ts l.tail := by
 have := Fh (l := l) hr; rw [CX h, IntWalk.i64_in _ (by omega)]
theorem BU {ts l : List Tok} (h : Sfx ts l) : cc Tryz.prog 101 (.sl (au ts) .dead) (.v (.int .i64 (pcA ts l))) = some (.fp (hd l).c 0) := by
 obtain ⟨t, r, rfl⟩ := h.cons; obtain ⟨_, dn, rfl⟩ := h
 have e : pcA (dn ++ t :: r) (t :: r) = (dn.length : Int) := by simp only [pcA, bH]; omega
 rw [e, G6]
 have h1 : eM (dn.length : Int) (au (dn ++ t :: r)).length = true := by rw [fN]; exact inR dn t r
 have h2 : (au (dn ++ t :: r))[(dn.length : Int).toNat]? = some t.c := by simp [au]
 rw [h1, h2]
 rfl
theorem aC {f : Nat} {args : List PV} {b : Nat} {c d : List PV} {x : PV} (h : ∀ X : St, b < X.stk.length → E L (.func f) args (X.af false b c) = some (x, X.af false b d)) {s : St} (hb : b < s.stk.length) (bl : List Blk) (tk : List (Nat × Nat)) (lp : List Aux) :
 E L (.func f) args ((s.af false b c).app bl tk lp) = some (x, (s.af false b d).app bl tk lp) := by
 rw [← bK bl tk lp hb, ← bK bl tk lp hb]; exact h _ (by rw [cw]; omega)
theorem eg {ts l : List Tok} (h : Sfx ts l) (d e q1 q2 : Int) {b : Nat} : ∀ X : St, b < X.stk.length → E L (.func 67) [.ptr false b 0] (X.af false b (pcf (au ts) (pcA ts l) d e q1 q2)) = some (.agg (hd l).c, X.af false b (pcf (au ts) (pcA ts l) d e q1 q2)) := by
 intro X hb; rw [GD]; obtain ⟨N, T, Lb, hN, hT, hL⟩ := lens3 X; rw [hN] at hb
 conv => lhs; rw [← al (X.af false b (pcf (au ts) (pcA ts l) d e q1 q2))]
 have hi := BU h
 generalize pcA ts l = a at *
 generalize au ts = es at *
 generalize hd l = t at *
 simp only [Tok.c, br] at hi ⊢; simp [S67, pcf, hN, hT, hL, hb, hi, laid, aG]
theorem lh {ts l : List Tok} (hr : Row ts) (h : Sfx ts l) (d : Nat) {b : Nat} : ∀ X : St, b < X.stk.length → E L (.func 151) [.ptr false b 0] (X.af false b (pc ts l d)) = some (.agg (hd l).c, X.af false b (pc ts (dq l) d)) := by
 intro X hb; rw [Ep]; obtain ⟨N, T, Lb, hN, hT, hL⟩ := lens3 X; rw [hN] at hb
 conv => lhs; rw [← al (X.af false b (pc ts l d))]
 have hi := BU h; have hw := wS hr h; unfold pc dq
 by_cases hk : (hd l).kind = 0
 · rw [if_pos hk]
   generalize pcA ts l = a at *
   generalize au ts = es at *
   generalize hd l = t at *
   simp only [Tok.c, br, hk] at hi ⊢; simp [Gu, pcf, hN, hT, hL, hb, hi, laid, aG]
 · rw [if_neg hk]
   have hk' : ¬ (((hd l).kind : Int) = 0) := by omega
   generalize pcA ts l = a at *
   generalize pcA ts l.tail = a' at *
   generalize au ts = es at *
   generalize hd l = t at *
   simp only [Tok.c, br] at hi ⊢; simp [Gu, pcf, hN, hT, hL, hb, hi, hk, hk', hw, laid, aG]
theorem jV {ts l : List Tok} (h : Sfx ts l) (d e q1 q2 : Int) (w : List UInt8) {b : Nat} : ∀ X : St, b < X.stk.length → E L (.func 120) [.ptr false b 0, str w] (X.af false b (pcf (au ts) (pcA ts l) d e q1 q2)) = some (.v (.bool (isT l w)), X.af false b (pcf (au ts) (pcA ts l) d e q1 q2)) := by
 intro X hb; have e67 := aC (eg h d e q1 q2 (b := b)) hb; rw [Eg]; obtain ⟨N, T, Lb, hN, hT, hL⟩ := lens3 X; rw [hN] at hb
 conv => lhs; rw [← al (X.af false b (pcf (au ts) (pcA ts l) d e q1 q2))]
 unfold isT
 generalize pcA ts l = a at *
 generalize au ts = es at *
 generalize hd l = t at *
 simp only [Tok.c, br, pcf] at e67
 by_cases h2 : t.kind = 2
 · simp [Ef, pcf, hN, hT, hL, hb, e67, h2, laid, aG]
 · have h2' : ¬ ((t.kind : Int) = 2) := by omega
   by_cases h5 : t.kind = 5
   · simp [Ef, pcf, hN, hT, hL, hb, e67, h5, laid, aG]
   · have h5' : ¬ ((t.kind : Int) = 5) := by omega
     simp [Ef, pcf, hN, hT, hL, hb, e67, h2, h2', h5, h5', laid, aG]
theorem aE {ts l : List Tok} (hr : Row ts) (h : Sfx ts l) (d : Nat) (w : List UInt8) {b : Nat} : ∀ X : St, b < X.stk.length → E L (.func 68) [.ptr false b 0, str w] (X.af false b (pc ts l d)) = some (.v (.bool (isT l w)), X.af false b (pc ts (if isT l w then l.tail else l) d)) := by
 intro X hb; have e120 := aC (jV h d 0 0 0 w (b := b)) hb; have hw := wS hr h; rw [GF]; obtain ⟨N, T, Lb, hN, hT, hL⟩ := lens3 X; rw [hN] at hb
 conv => lhs; rw [← al (X.af false b (pc ts l d))]
 unfold pc
 cases hi : isT l w with
 | true =>
  rw [hi] at e120; simp only [if_true]
  generalize pcA ts l = a at *
  generalize pcA ts l.tail = a' at *
  simp only [pcf] at e120; simp [S68, pcf, hN, hT, hL, hb, e120, hw, laid, aG]
 | false =>
  rw [hi] at e120; simp only [ae, if_false]
  generalize pcA ts l = a at *
  simp only [pcf] at e120; simp [S68, pcf, hN, hT, hL, hb, e120, laid, aG]
theorem xV : ja Tryz.prog 108 (.agg []) = some (.ifc 108 (.agg #[])) := by kernel_rfl
theorem vg {s : St} {bl : List Blk} {tk : List (Nat × Nat)} {lp : List Aux} {b off base sz : Nat} {old cs : List PV} (hb : b < s.stk.length) (ho : off + cs.length ≤ old.length) (hz : cs.length = sz) (h0 : sz ≠ 0) (hs : cs.all qP = true) (hk : aG cs = true) :
 aq base sz (.ptr false b off) (.agg cs) ((s.af false b old).app bl tk lp) = some ((s.af false b (laid old off cs)).app bl tk lp) := by
 have h1 : ((s.af false b old).app bl tk lp).blk false b = some old := by rw [ng (by rw [cI]; exact hb), vw old hb]
 have h2 : ∀ ds, ((s.af false b old).app bl tk lp).af false b ds = (s.af false b ds).app bl tk lp := fun ds => by rw [bK _ _ _ (by rw [cI]; exact hb), set_set]
 have h3 : dI (off + cs.length) old.length = true := by rw [Nat.ble_eq]; exact ho
 have h5 : (aj cs.length sz && !aj sz 0) = true := by
  rw [hz, Nat.beq_refl]
  cases sz with
  | zero => exact absurd rfl h0
  | succ n => rfl
 simp only [aq, AM.cellsOf, ag, putCells, h1, h3, hk, h5, bn, cond_true]
 cases fZ b base <;> simp [j8 hs, h2]
theorem nY (es : List (List PV)) (a d : Int) (e : Nat) (t : Tok) {b : Nat} : ∀ X : St, b < X.stk.length → E L (.func 74) [.ptr false b 0, .v (.int .i64 (e : Int)), .agg t.c] (X.af false b (pcf es a d 0 0 0)) = some (.pan 108 (.agg #[]), X.af false b (pcf es a d e t.p.1 t.p.2)) := by
 intro X hb; rw [GG]; obtain ⟨N, T, Lb, hN, hT, hL⟩ := lens3 X; rw [hN] at hb
 conv => lhs; rw [← al (X.af false b (pcf es a d 0 0 0))]
 simp only [Tok.c, br]; generalize (e : Int) = e'
 have hs : ∀ bl tk lp, aq N 3 (.ptr false b 3) (.agg [.v (.int .i64 e'), .v (.int .i64 (t.p.1 : Int)), .v (.int .i64 (t.p.2 : Int))]) ((X.af false b (pcf es a d 0 0 0)).app bl tk lp) = some ((X.af false b (pcf es a d e' t.p.1 t.p.2)).app bl tk lp) := fun bl tk lp => vg (hN ▸ hb) (by simp) rfl (by omega) rfl rfl
 simp only [pcf] at hs; simp [S74, pcf, hN, hT, hL, hb, hs, xV, aW, cj, laid, aG, uc]
def Rd {α : Type} (f : Nat) (args : List PV) (ts : List Tok) (d d' : Nat) (l : List Tok) (enc : α → PV) (x : PR α) : Prop := match x with
 | .ok a l' => Sfx ts l' ∧ ∀ b (X : St), b < X.stk.length → E L (.func f) (.ptr false b 0 :: args) (X.af false b (pc ts l d)) = some (enc a, X.af false b (pc ts l' d'))
 | .bad e q => ∃ a' d'', ∀ b (X : St), b < X.stk.length → E L (.func f) (.ptr false b 0 :: args) (X.af false b (pc ts l d)) = some (.pan 108 (.agg #[]), X.af false b (pcf (au ts) a' d'' e q.1 q.2))
abbrev aT (t : Tok) : PV := .agg t.c
theorem eZ {ts l : List Tok} (hr : Row ts) (h : Sfx ts l) (d : Nat) (w : List UInt8) : Rd 71 [str w] ts d d l aT (cL w l) := by
 have e67 := fun b X hb => aC (eg h d 0 0 0 (b := b)) (s := X) hb
 have e68 := fun b X hb => aC (aE hr h d w (b := b)) (s := X) hb
 unfold cL Rd
 cases hi : isT l w with
 | true =>
  rw [hi] at e68; simp only [if_true] at e68 ⊢; refine ⟨h.isT hr hi, fun b X hb => ?_⟩; have e67 := e67 b X hb; have e68 := e68 b X hb; rw [BQ]; obtain ⟨N, T, Lb, hN, hT, hL⟩ := lens3 X; rw [hN] at hb
  conv => lhs; rw [← al (X.af false b (pc ts l d))]
  simp only [pc, pcf, Tok.c, br] at e67 e68 ⊢
  generalize hd l = t at *
  generalize pcA ts l = a at *
  generalize pcA ts l.tail = a' at *
  generalize au ts = es at *
  simp [S71, pcf, hN, hT, hL, hb, e67, e68, laid, aG]
 | false =>
  rw [hi] at e68; simp only [ae, if_false] at e68 ⊢; refine ⟨pcA ts l, d, fun b X hb => ?_⟩; have e67 := e67 b X hb; have e68 := e68 b X hb; have e74 := aC (nY (au ts) (pcA ts l) d 4 (hd l) (b := b)) hb; rw [BQ]; obtain ⟨N, T, Lb, hN, hT, hL⟩ := lens3 X; rw [hN] at hb
  conv => lhs; rw [← al (X.af false b (pc ts l d))]
  simp only [pc, pcf, Tok.c, br, aa] at e67 e68 e74 ⊢
  generalize hd l = t at *
  generalize pcA ts l = a at *
  generalize au ts = es at *
  simp [S71, pcf, hN, hT, hL, hb, e67, e68, e74, laid, aG, aV, fQ]
theorem ic {ts l : List Tok} (hr : Row ts) (h : Sfx ts l) (d : Nat) (k : Nat) : Rd 121 [.v (.int .i64 (k : Int))] ts d d l aT (ec k l) := by
 have e67 := fun b X hb => aC (eg h d 0 0 0 (b := b)) (s := X) hb
 have e151 := fun b X hb => aC (lh hr h d (b := b)) (s := X) hb
 unfold ec Rd
 by_cases hk : (hd l).kind = k
 · rw [if_pos hk]
   refine ⟨h.next hr, fun b X hb => ?_⟩; have e67 := e67 b X hb; have e151 := e151 b X hb; rw [yQ]; obtain ⟨N, T, Lb, hN, hT, hL⟩ := lens3 X; rw [hN] at hb
   conv => lhs; rw [← al (X.af false b (pc ts l d))]
   simp only [pc, pcf, Tok.c, br, hk] at e67 e151 ⊢
   generalize hd l = t at *
   generalize pcA ts l = a at *
   generalize pcA ts (dq l) = a' at *
   generalize au ts = es at *
   simp [Gp, pcf, hN, hT, hL, hb, e67, e151, hk, laid, aG]
 · rw [if_neg hk]
   refine ⟨pcA ts l, d, fun b X hb => ?_⟩; have e67 := e67 b X hb; have e74 := aC (nY (au ts) (pcA ts l) d 4 (hd l) (b := b)) hb
   have hk' : ¬ (((hd l).kind : Int) = (k : Int)) := by omega
   rw [yQ]; obtain ⟨N, T, Lb, hN, hT, hL⟩ := lens3 X; rw [hN] at hb
   conv => lhs; rw [← al (X.af false b (pc ts l d))]
   simp only [pc, pcf, Tok.c, br, aa] at e67 e74 ⊢
   generalize hd l = t at *
   generalize pcA ts l = a at *
   generalize au ts = es at *
   simp [Gp, pcf, hN, hT, hL, hb, e67, e74, hk, hk', laid, aG, aV, fQ]
theorem uW {ts l : List Tok} (h : Sfx ts l) (d : Nat) (t : Tok) (hd : d < 1000) : Rd 123 [.agg t.c] ts d (d + 1) l (fun _ : Unit => .tup []) (if 12 < d + 1 then .bad 10 t.p else .ok () l) := by
 have hw : IntKind.i64.wrap ((d : Int) + 1) = ((d + 1 : Nat) : Int) := by rw [IntWalk.i64_in _ (by omega)]; omega
 unfold Rd
 by_cases hk : 12 < d + 1
 · rw [if_pos hk]
   refine ⟨pcA ts l, (d + 1 : Nat), fun b X hb => ?_⟩; have e74 := aC (nY (au ts) (pcA ts l) (d + 1 : Nat) 10 t (b := b)) hb
   have hk' : (12 : Int) < ((d + 1 : Nat) : Int) := by omega
   rw [yR]; obtain ⟨N, T, Lb, hN, hT, hL⟩ := lens3 X; rw [hN] at hb
   conv => lhs; rw [← al (X.af false b (pc ts l d))]
   simp only [pc, pcf, Tok.c, br, aa] at e74 ⊢
   generalize pcA ts l = a at *
   generalize au ts = es at *
   generalize ((d + 1 : Nat) : Int) = d1 at *
   simp [Gr, pcf, hN, hT, hL, hb, e74, hw, hk', laid, aG, aV, fQ]
 · rw [if_neg hk]
   refine ⟨h, fun b X hb => ?_⟩
   have hk' : ¬ ((12 : Int) < ((d + 1 : Nat) : Int)) := by omega
   rw [yR]; obtain ⟨N, T, Lb, hN, hT, hL⟩ := lens3 X; rw [hN] at hb
   conv => lhs; rw [← al (X.af false b (pc ts l d))]
   simp only [pc, pcf, Tok.c, br]
   generalize pcA ts l = a at *
   generalize au ts = es at *
   generalize ((d + 1 : Nat) : Int) = d1 at *
   simp [Gr, pcf, hN, hT, hL, hb, hw, hk', laid, aG, aV, fQ]
abbrev gR : PV := .agg [str [43], str [45], str [42], str [47], str [37], str [61, 61], str [33, 61], str [60], str [60, 61]]
theorem js : kv Tryz.prog 126 [(0, str [43]), (1, str [45]), (2, str [42]), (3, str [47]), (4, str [37]), (5, str [61, 61]), (6, str [33, 61]), (7, str [60]), (8, str [60, 61])] = some gR := by kernel_rfl
theorem zu (x0 x1 x2 x3 x4 x5 x6 x7 x8 : PV) : cG Tryz.prog 126 (.agg [x0, x1, x2, x3, x4, x5, x6, x7, x8]) (.v (.int .i64 0)) = some x0 := by kernel_rfl
theorem zx (x0 x1 x2 x3 x4 x5 x6 x7 x8 : PV) : cG Tryz.prog 126 (.agg [x0, x1, x2, x3, x4, x5, x6, x7, x8]) (.v (.int .i64 1)) = some x1 := by kernel_rfl
theorem zB (x0 x1 x2 x3 x4 x5 x6 x7 x8 : PV) : cG Tryz.prog 126 (.agg [x0, x1, x2, x3, x4, x5, x6, x7, x8]) (.v (.int .i64 2)) = some x2 := by kernel_rfl
theorem zE (x0 x1 x2 x3 x4 x5 x6 x7 x8 : PV) : cG Tryz.prog 126 (.agg [x0, x1, x2, x3, x4, x5, x6, x7, x8]) (.v (.int .i64 3)) = some x3 := by kernel_rfl
theorem zG (x0 x1 x2 x3 x4 x5 x6 x7 x8 : PV) : cG Tryz.prog 126 (.agg [x0, x1, x2, x3, x4, x5, x6, x7, x8]) (.v (.int .i64 4)) = some x4 := by kernel_rfl
theorem zH (x0 x1 x2 x3 x4 x5 x6 x7 x8 : PV) : cG Tryz.prog 126 (.agg [x0, x1, x2, x3, x4, x5, x6, x7, x8]) (.v (.int .i64 5)) = some x5 := by kernel_rfl
theorem zI (x0 x1 x2 x3 x4 x5 x6 x7 x8 : PV) : cG Tryz.prog 126 (.agg [x0, x1, x2, x3, x4, x5, x6, x7, x8]) (.v (.int .i64 6)) = some x6 := by kernel_rfl
theorem zJ (x0 x1 x2 x3 x4 x5 x6 x7 x8 : PV) : cG Tryz.prog 126 (.agg [x0, x1, x2, x3, x4, x5, x6, x7, x8]) (.v (.int .i64 7)) = some x7 := by kernel_rfl
theorem zK (x0 x1 x2 x3 x4 x5 x6 x7 x8 : PV) : cG Tryz.prog 126 (.agg [x0, x1, x2, x3, x4, x5, x6, x7, x8]) (.v (.int .i64 8)) = some x8 := by kernel_rfl
theorem GR (w : List UInt8) (X : St) : E L (.func 189) [str w] X = some (.v (.int .i64 (vS w)), X) := by
 rw [Ev]; obtain ⟨N, T, Lb, hN, hT, hL⟩ := lens3 X
 conv => lhs; rw [← al (X)]
 have s0 : w ≠ [43] → itE (fb.b0 (E L) itE N Lb) [str w, .v (.int .i64 0), gR, .v (.int .i64 0)] (X.app [] [] []) = itE (fb.b0 (E L) itE N Lb) [str w, .v (.int .i64 0), gR, .v (.int .i64 1)] (X.app [] [] []) := fun h => bQ (by simp [fb.b0, hN, hT, hL, zu, h, Ne.symm h, IntWalk.i64_in])
 have h0 : w = [43] → itE (fb.b0 (E L) itE N Lb) [str w, .v (.int .i64 0), gR, .v (.int .i64 0)] (X.app [] [] []) = some (.ret, [str w, .v (.int .i64 0), gR, .v (.int .i64 0)], X.app [] [] []) := fun h => eF (by subst h; simp [fb.b0, hN, hT, hL, zu])
 have s1 : w ≠ [45] → itE (fb.b0 (E L) itE N Lb) [str w, .v (.int .i64 0), gR, .v (.int .i64 1)] (X.app [] [] []) = itE (fb.b0 (E L) itE N Lb) [str w, .v (.int .i64 0), gR, .v (.int .i64 2)] (X.app [] [] []) := fun h => bQ (by simp [fb.b0, hN, hT, hL, zx, h, Ne.symm h, IntWalk.i64_in])
 have h1 : w = [45] → itE (fb.b0 (E L) itE N Lb) [str w, .v (.int .i64 0), gR, .v (.int .i64 1)] (X.app [] [] []) = some (.ret, [str w, .v (.int .i64 1), gR, .v (.int .i64 1)], X.app [] [] []) := fun h => eF (by subst h; simp [fb.b0, hN, hT, hL, zx])
 have s2 : w ≠ [42] → itE (fb.b0 (E L) itE N Lb) [str w, .v (.int .i64 0), gR, .v (.int .i64 2)] (X.app [] [] []) = itE (fb.b0 (E L) itE N Lb) [str w, .v (.int .i64 0), gR, .v (.int .i64 3)] (X.app [] [] []) := fun h => bQ (by simp [fb.b0, hN, hT, hL, zB, h, Ne.symm h, IntWalk.i64_in])
 have h2 : w = [42] → itE (fb.b0 (E L) itE N Lb) [str w, .v (.int .i64 0), gR, .v (.int .i64 2)] (X.app [] [] []) = some (.ret, [str w, .v (.int .i64 2), gR, .v (.int .i64 2)], X.app [] [] []) := fun h => eF (by subst h; simp [fb.b0, hN, hT, hL, zB])
 have s3 : w ≠ [47] → itE (fb.b0 (E L) itE N Lb) [str w, .v (.int .i64 0), gR, .v (.int .i64 3)] (X.app [] [] []) = itE (fb.b0 (E L) itE N Lb) [str w, .v (.int .i64 0), gR, .v (.int .i64 4)] (X.app [] [] []) := fun h => bQ (by simp [fb.b0, hN, hT, hL, zE, h, Ne.symm h, IntWalk.i64_in])
 have h3 : w = [47] → itE (fb.b0 (E L) itE N Lb) [str w, .v (.int .i64 0), gR, .v (.int .i64 3)] (X.app [] [] []) = some (.ret, [str w, .v (.int .i64 3), gR, .v (.int .i64 3)], X.app [] [] []) := fun h => eF (by subst h; simp [fb.b0, hN, hT, hL, zE])
 have s4 : w ≠ [37] → itE (fb.b0 (E L) itE N Lb) [str w, .v (.int .i64 0), gR, .v (.int .i64 4)] (X.app [] [] []) = itE (fb.b0 (E L) itE N Lb) [str w, .v (.int .i64 0), gR, .v (.int .i64 5)] (X.app [] [] []) := fun h => bQ (by simp [fb.b0, hN, hT, hL, zG, h, Ne.symm h, IntWalk.i64_in])
 have h4 : w = [37] → itE (fb.b0 (E L) itE N Lb) [str w, .v (.int .i64 0), gR, .v (.int .i64 4)] (X.app [] [] []) = some (.ret, [str w, .v (.int .i64 4), gR, .v (.int .i64 4)], X.app [] [] []) := fun h => eF (by subst h; simp [fb.b0, hN, hT, hL, zG])
 have s5 : w ≠ [61, 61] → itE (fb.b0 (E L) itE N Lb) [str w, .v (.int .i64 0), gR, .v (.int .i64 5)] (X.app [] [] []) = itE (fb.b0 (E L) itE N Lb) [str w, .v (.int .i64 0), gR, .v (.int .i64 6)] (X.app [] [] []) := fun h => bQ (by simp [fb.b0, hN, hT, hL, zH, h, Ne.symm h, IntWalk.i64_in])
 have h5 : w = [61, 61] → itE (fb.b0 (E L) itE N Lb) [str w, .v (.int .i64 0), gR, .v (.int .i64 5)] (X.app [] [] []) = some (.ret, [str w, .v (.int .i64 5), gR, .v (.int .i64 5)], X.app [] [] []) := fun h => eF (by subst h; simp [fb.b0, hN, hT, hL, zH])
 have s6 : w ≠ [33, 61] → itE (fb.b0 (E L) itE N Lb) [str w, .v (.int .i64 0), gR, .v (.int .i64 6)] (X.app [] [] []) = itE (fb.b0 (E L) itE N Lb) [str w, .v (.int .i64 0), gR, .v (.int .i64 7)] (X.app [] [] []) := fun h => bQ (by simp [fb.b0, hN, hT, hL, zI, h, Ne.symm h, IntWalk.i64_in])
 have h6 : w = [33, 61] → itE (fb.b0 (E L) itE N Lb) [str w, .v (.int .i64 0), gR, .v (.int .i64 6)] (X.app [] [] []) = some (.ret, [str w, .v (.int .i64 6), gR, .v (.int .i64 6)], X.app [] [] []) := fun h => eF (by subst h; simp [fb.b0, hN, hT, hL, zI])
 have s7 : w ≠ [60] → itE (fb.b0 (E L) itE N Lb) [str w, .v (.int .i64 0), gR, .v (.int .i64 7)] (X.app [] [] []) = itE (fb.b0 (E L) itE N Lb) [str w, .v (.int .i64 0), gR, .v (.int .i64 8)] (X.app [] [] []) := fun h => bQ (by simp [fb.b0, hN, hT, hL, zJ, h, Ne.symm h, IntWalk.i64_in])
 have h7 : w = [60] → itE (fb.b0 (E L) itE N Lb) [str w, .v (.int .i64 0), gR, .v (.int .i64 7)] (X.app [] [] []) = some (.ret, [str w, .v (.int .i64 7), gR, .v (.int .i64 7)], X.app [] [] []) := fun h => eF (by subst h; simp [fb.b0, hN, hT, hL, zJ])
 have s8 : w ≠ [60, 61] → itE (fb.b0 (E L) itE N Lb) [str w, .v (.int .i64 0), gR, .v (.int .i64 8)] (X.app [] [] []) = itE (fb.b0 (E L) itE N Lb) [str w, .v (.int .i64 0), gR, .v (.int .i64 9)] (X.app [] [] []) := fun h => bQ (by simp [fb.b0, hN, hT, hL, zK, h, Ne.symm h, IntWalk.i64_in])
 have h8 : w = [60, 61] → itE (fb.b0 (E L) itE N Lb) [str w, .v (.int .i64 0), gR, .v (.int .i64 8)] (X.app [] [] []) = some (.ret, [str w, .v (.int .i64 8), gR, .v (.int .i64 8)], X.app [] [] []) := fun h => eF (by subst h; simp [fb.b0, hN, hT, hL, zK])
 have s9 : itE (fb.b0 (E L) itE N Lb) [str w, .v (.int .i64 0), gR, .v (.int .i64 9)] (X.app [] [] []) = some (.exit 0, [str w, .v (.int .i64 0), gR, .v (.int .i64 9)], X.app [] [] []) := ft (by simp [fb.b0, hN, hT, hL]); unfold vS
 by_cases g0 : w = [43]
 · rw [if_pos g0]
   have e := h0 g0; simp [fb, hN, hT, hL, js, e]
 rw [if_neg g0]
 by_cases g1 : w = [45]
 · rw [if_pos g1]
   have e := h1 g1; rw [← s0 g0] at e; simp [fb, hN, hT, hL, js, e]
 rw [if_neg g1]
 by_cases g2 : w = [42]
 · rw [if_pos g2]
   have e := h2 g2; rw [← s1 g1, ← s0 g0] at e; simp [fb, hN, hT, hL, js, e]
 rw [if_neg g2]
 by_cases g3 : w = [47]
 · rw [if_pos g3]
   have e := h3 g3; rw [← s2 g2, ← s1 g1, ← s0 g0] at e; simp [fb, hN, hT, hL, js, e]
 rw [if_neg g3]
 by_cases g4 : w = [37]
 · rw [if_pos g4]
   have e := h4 g4; rw [← s3 g3, ← s2 g2, ← s1 g1, ← s0 g0] at e; simp [fb, hN, hT, hL, js, e]
 rw [if_neg g4]
 by_cases g5 : w = [61, 61]
 · rw [if_pos g5]
   have e := h5 g5; rw [← s4 g4, ← s3 g3, ← s2 g2, ← s1 g1, ← s0 g0] at e; simp [fb, hN, hT, hL, js, e]
 rw [if_neg g5]
 by_cases g6 : w = [33, 61]
 · rw [if_pos g6]
   have e := h6 g6; rw [← s5 g5, ← s4 g4, ← s3 g3, ← s2 g2, ← s1 g1, ← s0 g0] at e; simp [fb, hN, hT, hL, js, e]
 rw [if_neg g6]
 by_cases g7 : w = [60]
 · rw [if_pos g7]
   have e := h7 g7; rw [← s6 g6, ← s5 g5, ← s4 g4, ← s3 g3, ← s2 g2, ← s1 g1, ← s0 g0] at e; simp [fb, hN, hT, hL, js, e]
 rw [if_neg g7]
 by_cases g8 : w = [60, 61]
 · rw [if_pos g8]
   have e := h8 g8; rw [← s7 g7, ← s6 g6, ← s5 g5, ← s4 g4, ← s3 g3, ← s2 g2, ← s1 g1, ← s0 g0] at e; simp [fb, hN, hT, hL, js, e]
 rw [if_neg g8]; have e := s9; rw [← s8 g8, ← s7 g7, ← s6 g6, ← s5 g5, ← s4 g4, ← s3 g3, ← s2 g2, ← s1 g1, ← s0 g0] at e; simp [fb, hN, hT, hL, js, e]
theorem uQ : kv Tryz.prog 198 [(0, str [32, 61, 61, 32, 33, 61, 32, 60, 32, 60, 61, 32]), (1, str [32, 43, 32, 45, 32]), (2, str [32, 42, 32, 47, 32, 37, 32])] = some (.agg [str [32, 61, 61, 32, 33, 61, 32, 60, 32, 60, 61, 32], str [32, 43, 32, 45, 32], str [32, 42, 32, 47, 32, 37, 32]]) := by kernel_rfl
theorem Dl (lv : Nat) (h : lv < 3) (X : St) : E L (.func 188) [.v (.int .i64 (lv : Int))] X = some (str (32 :: iU (gy lv)), X) := by
 rw [Eu]; obtain ⟨N, T, Lb, hN, hT, hL⟩ := lens3 X
 conv => lhs; rw [← al (X)]
 obtain rfl | rfl | rfl : lv = 0 ∨ lv = 1 ∨ lv = 2 := by omega
 · simp [Et, hN, hT, hL, uQ, zw, gy, iU]
 · simp [Et, hN, hT, hL, uQ, zy, gy, iU]
 · simp [Et, hN, hT, hL, uQ, zC, gy, iU]
theorem Bh {lv : Nat} {w : List UInt8} (hw : ∀ c ∈ w, c ≠ 32) : Lib.contains (32 :: iU (gy lv)) (32 :: (w ++ [32])) = (gy lv).contains w := by
 refine kz hw _ ?_; unfold gy
 split <;> decide
theorem DF (w : List UInt8) (X : St) : E L (.func 197) [str w] X = some (.v (.int .i64 (if w = [45] then 6 else if w = [114, 101, 97, 108] then 7 else if w = [116, 114, 117, 110, 99] then 8 else 0)), X) := by
 rw [Ew]; obtain ⟨N, T, Lb, hN, hT, hL⟩ := lens3 X
 conv => lhs; rw [← al (X)]
 by_cases h1 : w = [45]
 · simp [BO, hN, hT, hL, h1]
 · by_cases h2 : w = [114, 101, 97, 108]
   · simp [BO, hN, hT, hL, h2]
   · by_cases h3 : w = [116, 114, 117, 110, 99]
     · simp [BO, hN, hT, hL, h3]
     · simp [BO, hN, hT, hL, h1, h2, h3]
abbrev iK (t : Ty2) : PV := .agg [.v (.int .i64 t.kd), .v (.string t.rc)]
abbrev iJ (x : Nm) : PV := .agg [.v (.string x.name), .v (.int .i64 x.ty.kd), .v (.string x.ty.rc), .v (.int .i64 x.line), .v (.int .i64 x.col)]
abbrev th : PV := .agg [str [], str [105, 110, 116], str [114, 101, 97, 108], str [105, 110, 116, 115]]
theorem pt : kv Tryz.prog 199 [(0, str []), (1, str [105, 110, 116]), (2, str [114, 101, 97, 108]), (3, str [105, 110, 116, 115])] = some th := by kernel_rfl
theorem aU {α : Type} {f : Nat} {args : List PV} {ts : List Tok} {d d' : Nat} {l : List Tok} {enc : α → PV} {x : PR α} {a : α} {l' : List Tok} (h : Rd f args ts d d' l enc x) (hx : x = .ok a l') {b : Nat} {s : St} (hb : b < s.stk.length) : ∀ (bl : List Blk) (tk : List (Nat × Nat)) (lp : List Aux),
 E L (.func f) (.ptr false b 0 :: args) ((s.af false b (pc ts l d)).app bl tk lp) = some (enc a, (s.af false b (pc ts l' d')).app bl tk lp) := by
 subst hx
 exact fun bl tk lp => aC (h.2 b) hb bl tk lp
theorem bO {α : Type} {f : Nat} {args : List PV} {ts : List Tok} {d d' : Nat} {l : List Tok} {enc : α → PV} {x : PR α} {a : α} {l' : List Tok} (h : Rd f args ts d d' l enc x) (hx : x = .ok a l') : Sfx ts l' := by
 subst hx; exact h.1
theorem bJ {α : Type} {f : Nat} {args : List PV} {ts : List Tok} {d d' : Nat} {l : List Tok} {enc : α → PV} {x : PR α} {e : Nat} {q : Nat × Nat} (h : Rd f args ts d d' l enc x) (hx : x = .bad e q) : ∃ a' d'', ∀ {b : Nat} {s : St} (hb : b < s.stk.length) (bl : List Blk) (tk : List (Nat × Nat)) (lp : List Aux),
 E L (.func f) (.ptr false b 0 :: args) ((s.af false b (pc ts l d)).app bl tk lp) = some (.pan 108 (.agg #[]), (s.af false b (pcf (au ts) a' d'' e q.1 q.2)).app bl tk lp) := by
 subst hx; obtain ⟨a', d'', h⟩ := h; exact ⟨a', d'', fun hb bl tk lp => aC (h _) hb bl tk lp⟩
theorem Hs {ts l : List Tok} (hr : Row ts) (h : Sfx ts l) (d : Nat) : Rd 122 [] ts d d l iK (qj l) := by
 have e68 := fun b (X : St) hb (w : List UInt8) => aC (aE hr h d w (b := b)) (s := X) hb
 have run : ∀ b (X : St), b < X.stk.length → ∀ N T Lb, X.stk.length = N → X.tk.length = T → X.lp.length = Lb →
  itE (na.b0 (E L) itE N Lb) [.ptr false b 0, .ptr false N 0, th, .v (.int .i64 0)] ((X.af false b (pc ts l d)).app [⟨[.v (.int .i64 0), str []], []⟩] [] []) =
   if isT l [105, 110, 116] then some (.ret, [.ptr false b 0, .ptr false N 0, th, .v (.int .i64 1)], (X.af false b (pc ts l.tail d)).app [⟨[.v (.int .i64 1), str []], []⟩] [] []) else
   if isT l [114, 101, 97, 108] then some (.ret, [.ptr false b 0, .ptr false N 0, th, .v (.int .i64 2)], (X.af false b (pc ts l.tail d)).app [⟨[.v (.int .i64 2), str []], []⟩] [] []) else
   if isT l [105, 110, 116, 115] then some (.ret, [.ptr false b 0, .ptr false N 0, th, .v (.int .i64 3)], (X.af false b (pc ts l.tail d)).app [⟨[.v (.int .i64 3), str []], []⟩] [] []) else
   some (.exit 0, [.ptr false b 0, .ptr false N 0, th, .v (.int .i64 4)], (X.af false b (pc ts l d)).app [⟨[.v (.int .i64 0), str []], []⟩] [] []) := by
  intro b X hb N T Lb hN hT hL; have e1 := e68 b X hb [105, 110, 116]; have e2 := e68 b X hb [114, 101, 97, 108]; have e3 := e68 b X hb [105, 110, 116, 115]; rw [hN] at hb; simp only [pc, pcf] at e1 e2 e3 ⊢; have w1 : IntKind.i64.wrap 1 = 1 := rfl; have w2 : IntKind.i64.wrap 2 = 2 := rfl; have w3 : IntKind.i64.wrap 3 = 3 := rfl; have w4 : IntKind.i64.wrap 4 = 4 := rfl; rw [bQ (vs' := [.ptr false b 0, .ptr false N 0, th, .v (.int .i64 1)]) (st' := (X.af false b (pc ts l d)).app [⟨[.v (.int .i64 0), str []], []⟩] [] []) (by simp [na.b0, pc, pcf, hN, hT, hL, hb, EZ, w1, aW, cj, laid, aG])]
  cases h1 : isT l [105, 110, 116] with
  | true =>
   rw [h1] at e1; simp only [if_true] at e1 ⊢; exact eF (by simp [na.b0, pc, pcf, hN, hT, hL, hb, zA, e1, aW, cj, laid, aG])
  | false =>
   rw [h1] at e1; simp only [ae, if_false] at e1 ⊢; rw [bQ (vs' := [.ptr false b 0, .ptr false N 0, th, .v (.int .i64 2)]) (st' := (X.af false b (pc ts l d)).app [⟨[.v (.int .i64 0), str []], []⟩] [] []) (by simp [na.b0, pc, pcf, hN, hT, hL, hb, zA, e1, w2, aW, cj, laid, aG])]
   cases h2 : isT l [114, 101, 97, 108] with
   | true =>
    rw [h2] at e2; simp only [if_true] at e2 ⊢; exact eF (by simp [na.b0, pc, pcf, hN, hT, hL, hb, zD, e2, aW, cj, laid, aG])
   | false =>
    rw [h2] at e2; simp only [ae, if_false] at e2 ⊢; rw [bQ (vs' := [.ptr false b 0, .ptr false N 0, th, .v (.int .i64 3)]) (st' := (X.af false b (pc ts l d)).app [⟨[.v (.int .i64 0), str []], []⟩] [] []) (by simp [na.b0, pc, pcf, hN, hT, hL, hb, zD, e2, w3, aW, cj, laid, aG])]
    cases h3 : isT l [105, 110, 116, 115] with
    | true =>
     rw [h3] at e3; simp only [if_true] at e3 ⊢; exact eF (by simp [na.b0, pc, pcf, hN, hT, hL, hb, zF, e3, aW, cj, laid, aG])
    | false =>
     rw [h3] at e3; simp only [ae, if_false] at e3 ⊢; rw [bQ (vs' := [.ptr false b 0, .ptr false N 0, th, .v (.int .i64 4)]) (st' := (X.af false b (pc ts l d)).app [⟨[.v (.int .i64 0), str []], []⟩] [] []) (by simp [na.b0, pc, pcf, hN, hT, hL, hb, zF, e3, w4, aW, cj, laid, aG])]; exact ft (by simp [na.b0, pc, pcf, hN, hT, hL, hb])
 have hk := ic hr h d 1; unfold qj
 cases h1 : isT l [105, 110, 116] with
 | true =>
  simp only [if_true]; refine ⟨h.isT hr h1, fun b X hb => ?_⟩; have e := run b X hb _ _ _ rfl rfl rfl; rw [h1] at e; rw [o6]; obtain ⟨N, T, Lb, hN, hT, hL⟩ := lens3 X; rw [hN] at hb; rw [hN] at e
  conv => lhs; rw [← al (X.af false b (pc ts l d))]
  simp only [if_true, pc, pcf, hT, hL] at e ⊢; simp [na, pcf, hN, hT, hL, hb, pt, e, laid, aG]
 | false =>
  simp only [ae, if_false]
  cases h2 : isT l [114, 101, 97, 108] with
  | true =>
   simp only [if_true]; refine ⟨h.isT hr h2, fun b X hb => ?_⟩; have e := run b X hb _ _ _ rfl rfl rfl; rw [h1, h2] at e; rw [o6]; obtain ⟨N, T, Lb, hN, hT, hL⟩ := lens3 X; rw [hN] at hb; rw [hN] at e
   conv => lhs; rw [← al (X.af false b (pc ts l d))]
   simp only [if_true, ae, if_false, pc, pcf, hT, hL] at e ⊢; simp [na, pcf, hN, hT, hL, hb, pt, e, laid, aG]
  | false =>
   simp only [ae, if_false]
   cases h3 : isT l [105, 110, 116, 115] with
   | true =>
    simp only [if_true]; refine ⟨h.isT hr h3, fun b X hb => ?_⟩; have e := run b X hb _ _ _ rfl rfl rfl; rw [h1, h2, h3] at e; rw [o6]; obtain ⟨N, T, Lb, hN, hT, hL⟩ := lens3 X; rw [hN] at hb; rw [hN] at e
    conv => lhs; rw [← al (X.af false b (pc ts l d))]
    simp only [if_true, ae, if_false, pc, pcf, hT, hL] at e ⊢; simp [na, pcf, hN, hT, hL, hb, pt, e, laid, aG]
   | false =>
    simp only [ae, if_false]
    cases hx : ec 1 l with
    | ok u l' =>
     refine ⟨bO hk hx, fun b X hb => ?_⟩; have e := run b X hb _ _ _ rfl rfl rfl; have ek := aU hk hx hb; rw [h1, h2, h3] at e; rw [o6]; obtain ⟨N, T, Lb, hN, hT, hL⟩ := lens3 X; rw [hN] at hb; rw [hN] at e
     conv => lhs; rw [← al (X.af false b (pc ts l d))]
     simp only [ae, if_false, pc, pcf, hT, hL, aT, Tok.c, br, aa] at e ek ⊢; simp [na, pcf, hN, hT, hL, hb, pt, e, ek, n0, aW, cj, laid, aG, aV]
    | bad e0 q =>
     obtain ⟨a', d'', ek⟩ := bJ hk hx; refine ⟨a', d'', fun b X hb => ?_⟩; have e := run b X hb _ _ _ rfl rfl rfl; have ek := ek hb; rw [h1, h2, h3] at e; rw [o6]; obtain ⟨N, T, Lb, hN, hT, hL⟩ := lens3 X; rw [hN] at hb; rw [hN] at e
     conv => lhs; rw [← al (X.af false b (pc ts l d))]
     simp only [ae, if_false, pc, pcf, hT, hL, aa] at e ek ⊢; simp [na, pcf, hN, hT, hL, hb, pt, e, ek, aV]
theorem wy {ts l : List Tok} (hr : Row ts) (h : Sfx ts l) (d : Nat) : ∀ b (X : St), b < X.stk.length → E L (.func 158) [.ptr false b 0] (X.af false b (pc ts l d)) = some (.v (.string (eU l).1), X.af false b (pc ts (eU l).2 d)) := by
 intro b X hb; have e67 := aC (eg h d 0 0 0 (b := b)) hb; have e151 := aC (lh hr h d (b := b)) hb; unfold eU
 by_cases hk : (hd l).kind = 1
 · rw [if_pos hk]
   rw [yU]; obtain ⟨N, T, Lb, hN, hT, hL⟩ := lens3 X; rw [hN] at hb
   conv => lhs; rw [← al (X.af false b (pc ts l d))]
   simp only [pc, pcf, Tok.c, br, hk, aa] at e67 e151 ⊢; simp [Gw, pcf, hN, hT, hL, hb, e67, e151, tQ, n0]
 · rw [if_neg hk]
   have hk' : ¬ (((hd l).kind : Int) = 1) := by omega
   rw [yU]; obtain ⟨N, T, Lb, hN, hT, hL⟩ := lens3 X; rw [hN] at hb
   conv => lhs; rw [← al (X.af false b (pc ts l d))]
   simp only [pc, pcf, Tok.c, br] at e67 ⊢; simp [Gw, pcf, hN, hT, hL, hb, e67, hk', tQ, n0]
theorem cM {α β : Type} {y : PR α} {a : α} {l' : List Tok} {K : α → List Tok → Option (PR β)} {x : PR β} (hx : pb (some y) K = some x) (hy : y = .ok a l') : K a l' = some x := by subst hy; exact hx
theorem bZ {α β : Type} {y : PR α} {e : Nat} {q : Nat × Nat} {K : α → List Tok → Option (PR β)} {x : PR β} (hx : pb (some y) K = some x) (hy : y = .bad e q) : x = .bad e q := by subst hy; exact (Option.some.inj hx).symm
theorem dP {α β : Type} {y : Option (PR α)} {K : α → List Tok → Option (PR β)} {x : PR β} (hx : pb y K = some x) : ∃ z, y = some z := by
 cases y with
 | none => cases hx
 | some z => exact ⟨z, rfl⟩
theorem sB {ts l : List Tok} (hr : Row ts) (h : Sfx ts l) (d : Nat) {x : PR Nm} (hx : jf l = some x) : Rd 70 [] ts d d l iJ x := by
 unfold jf at hx; have h1 := ic hr h d 1
 cases x1 : ec 1 l with
 | bad e q =>
  obtain rfl := bZ hx x1; obtain ⟨a', d'', e1⟩ := bJ h1 x1; refine ⟨a', d'', fun b X hb => ?_⟩; have e1 := e1 hb; rw [uH]; obtain ⟨N, T, Lb, hN, hT, hL⟩ := lens3 X; rw [hN] at hb
  conv => lhs; rw [← al (X.af false b (pc ts l d))]
  simp only [pc, pcf, aT, Tok.c, br, aa, iJ, iK] at e1 ⊢
  generalize au ts = es at *
  simp [S70, hN, hT, hL, hb, e1]
 | ok t l1 =>
  have hx := cM hx x1; have s1 := bO h1 x1; have h2 := eZ hr s1 d [58]
  cases x2 : cL [58] l1 with
  | bad e q =>
   obtain rfl := bZ hx x2; obtain ⟨a', d'', e2⟩ := bJ h2 x2; refine ⟨a', d'', fun b X hb => ?_⟩; have e2 := e2 hb; have e1 := aU h1 x1 hb; rw [uH]; obtain ⟨N, T, Lb, hN, hT, hL⟩ := lens3 X; rw [hN] at hb
   conv => lhs; rw [← al (X.af false b (pc ts l d))]
   simp only [pc, pcf, aT, Tok.c, br, aa, iJ, iK] at e1 e2 ⊢
   generalize au ts = es at *
   simp [S70, hN, hT, hL, hb, e1, e2]
  | ok u l2 =>
   have hx := cM hx x2; have s2 := bO h2 x2; have h3 := Hs hr s2 d
   cases x3 : qj l2 with
   | bad e q =>
    obtain rfl := bZ hx x3; obtain ⟨a', d'', e3⟩ := bJ h3 x3; refine ⟨a', d'', fun b X hb => ?_⟩; have e3 := e3 hb; have e1 := aU h1 x1 hb; have e2 := aU h2 x2 hb; rw [uH]; obtain ⟨N, T, Lb, hN, hT, hL⟩ := lens3 X; rw [hN] at hb
    conv => lhs; rw [← al (X.af false b (pc ts l d))]
    simp only [pc, pcf, aT, Tok.c, br, aa, iJ, iK] at e1 e2 e3 ⊢
    generalize au ts = es at *
    simp [S70, hN, hT, hL, hb, e1, e2, e3]
   | ok ty l3 =>
    obtain rfl := Option.some.inj (cM hx x3); refine ⟨bO h3 x3, fun b X hb => ?_⟩; have e1 := aU h1 x1 hb; have e2 := aU h2 x2 hb; have e3 := aU h3 x3 hb; rw [uH]; obtain ⟨N, T, Lb, hN, hT, hL⟩ := lens3 X; rw [hN] at hb
    conv => lhs; rw [← al (X.af false b (pc ts l d))]
    simp only [pc, pcf, aT, Tok.c, br, aa, iJ, iK] at e1 e2 e3 ⊢
    generalize au ts = es at *
    simp [S70, hN, hT, hL, hb, e1, e2, e3]
abbrev cx (x : X) : PV := .agg x.enc
abbrev z9 : List PV := [.v (.int .i64 0), .v (.int .i64 0), .v (.int .u64 0), .v (.int .i64 0), str [], str [], .sl [] .nil, .v (.int .i64 0), .v (.int .i64 0)]
theorem nP (x : X) : x.enc.take 9 = x.enc := List.take_of_length_le (by rw [X.len]; omega)
structure mX (ts : List Tok) (n : Nat) : Prop where
 atom : ∀ d l x, d ≤ 12 → Sfx ts l → il n d l = some x → Rd 198 [] ts d d l cx x
 pre : ∀ d l x, d ≤ 12 → Sfx ts l → fv n d l = some x → Rd 187 [] ts d d l cx x
 chain : ∀ lv d l x, lv ≤ 3 → d ≤ 12 → Sfx ts l → dG n lv d l = some x → Rd 173 [.v (.int .i64 (lv : Int))] ts d d l cx x
section
variable {ts : List Tok} (hr : Row ts) {n : Nat} (ih : mX ts n)
include hr ih
theorem la {d : Nat} {l : List Tok} {x : PR X} (hd12 : d ≤ 12) (h : Sfx ts l) (hx : dG n 0 d l = some x) : Rd 157 [] ts d d l cx x := by
 have h1 := ih.chain 0 d l x (by omega) hd12 h hx
 cases x with
 | bad e q =>
  obtain ⟨a', d'', e1⟩ := bJ h1 rfl; refine ⟨a', d'', fun b Y hb => ?_⟩; have e1 := e1 hb; rw [yT]; obtain ⟨N, T, Lb, hN, hT, hL⟩ := lens3 Y; rw [hN] at hb
  conv => lhs; rw [← al (Y.af false b (pc ts l d))]
  simp only [pc, pcf, eB] at e1 ⊢
  generalize au ts = es at *
  simp [Gv, hN, hT, hL, hb, e1]
 | ok a l' =>
  refine ⟨bO h1 rfl, fun b Y hb => ?_⟩; have e1 := aU h1 rfl hb; rw [yT]; obtain ⟨N, T, Lb, hN, hT, hL⟩ := lens3 Y; rw [hN] at hb
  conv => lhs; rw [← al (Y.af false b (pc ts l d))]
  simp only [pc, pcf, cx, eB] at e1 ⊢
  generalize au ts = es at *
  simp [Gv, hN, hT, hL, hb, e1, X.len, nP, X.okc, X.can, X.ly, X.fl, jW]
theorem EC : ∀ d l x, d ≤ 12 → Sfx ts l → il (n + 1) d l = some x → Rd 198 [] ts d d l cx x := by
 intro d l x hd12 h hx; have s1 := h.next hr
 have e151 := fun b (Y : St) hb => aC (lh hr h d (b := b)) (s := Y) hb
 simp only [il] at hx
 by_cases k3 : (hd l).kind = 3
 · rw [if_pos k3] at hx
   obtain rfl := Option.some.inj hx; refine ⟨s1, fun b Y hb => ?_⟩; have e151 := e151 b Y hb; rw [iA]; obtain ⟨N, T, Lb, hN, hT, hL⟩ := lens3 Y; rw [hN] at hb
   conv => lhs; rw [← al (Y.af false b (pc ts l d))]
   simp only [pc, pcf, cx, atX, Tok.c, br, aa] at e151 ⊢
   generalize hd l = t at *
   generalize au ts = es at *
   simp [oj, hN, hT, hL, hb, e151, k3, X.enc, fc]
 rw [if_neg k3] at hx
 have k3' : ¬ (((hd l).kind : Int) = 3) := by omega
 by_cases k4 : (hd l).kind = 4
 · rw [if_pos k4] at hx
   obtain rfl := Option.some.inj hx; refine ⟨s1, fun b Y hb => ?_⟩; have e151 := e151 b Y hb; rw [iA]; obtain ⟨N, T, Lb, hN, hT, hL⟩ := lens3 Y; rw [hN] at hb
   conv => lhs; rw [← al (Y.af false b (pc ts l d))]
   simp only [pc, pcf, cx, atX, Tok.c, br, aa] at e151 ⊢
   generalize hd l = t at *
   generalize au ts = es at *
   simp [oj, hN, hT, hL, hb, e151, k4, X.enc, fc]
 rw [if_neg k4] at hx
 have k4' : ¬ (((hd l).kind : Int) = 4) := by omega
 by_cases k1 : (hd l).kind = 1
 · rw [if_pos k1] at hx
   obtain rfl := Option.some.inj hx; refine ⟨s1, fun b Y hb => ?_⟩; have e151 := e151 b Y hb; rw [iA]; obtain ⟨N, T, Lb, hN, hT, hL⟩ := lens3 Y; rw [hN] at hb
   conv => lhs; rw [← al (Y.af false b (pc ts l d))]
   simp only [pc, pcf, cx, atX, Tok.c, br, aa] at e151 ⊢
   generalize hd l = t at *
   generalize au ts = es at *
   simp [oj, hN, hT, hL, hb, e151, k1, X.enc, fc]
 rw [if_neg k1] at hx
 have k1' : ¬ (((hd l).kind : Int) = 1) := by omega
 by_cases ki : (hd l).kind = 2 ∧ (hd l).text = [105, 110, 112, 117, 116]
 · rw [if_pos ki] at hx
   obtain ⟨k2, kt⟩ := ki; have h1 := ic hr s1 d 3
   cases x1 : ec 3 (dq l) with
   | bad e q =>
    simp only [x1, PR.map] at hx; obtain rfl := Option.some.inj hx; obtain ⟨a', d'', e1⟩ := bJ h1 x1; refine ⟨a', d'', fun b Y hb => ?_⟩; have e1 := e1 hb; have e151 := e151 b Y hb; rw [iA]; obtain ⟨N, T, Lb, hN, hT, hL⟩ := lens3 Y; rw [hN] at hb
    conv => lhs; rw [← al (Y.af false b (pc ts l d))]
    simp only [pc, pcf, cx, atX, Tok.c, br, aa] at e151 e1 ⊢
    generalize hd l = t at *
    generalize au ts = es at *
    simp [oj, hN, hT, hL, hb, e151, e1, k2, kt]
   | ok u l1 =>
    simp only [x1, PR.map] at hx; obtain rfl := Option.some.inj hx; refine ⟨bO h1 x1, fun b Y hb => ?_⟩; have e1 := aU h1 x1 hb; have e151 := e151 b Y hb; rw [iA]; obtain ⟨N, T, Lb, hN, hT, hL⟩ := lens3 Y; rw [hN] at hb
    conv => lhs; rw [← al (Y.af false b (pc ts l d))]
    simp only [pc, pcf, cx, aT, atX, Tok.c, br, aa] at e151 e1 ⊢
    generalize hd l = t at *
    generalize au ts = es at *
    simp [oj, hN, hT, hL, hb, e151, e1, k2, kt, qy, X.enc, fc]
 rw [if_neg ki] at hx
 by_cases kn : (hd l).kind = 2 ∧ (hd l).text = [110, 105, 108]
 · rw [if_pos kn] at hx
   obtain ⟨k2, kt⟩ := kn
   have e68 := fun b (Y : St) hb => aC (aE hr s1 d [105, 110, 116, 115] (b := b)) (s := Y) hb
   cases hi : isT (dq l) [105, 110, 116, 115] with
   | true =>
    rw [hi] at hx e68; simp only [if_true] at hx e68; obtain rfl := Option.some.inj hx; refine ⟨s1.isT hr hi, fun b Y hb => ?_⟩; have e68 := e68 b Y hb; have e151 := e151 b Y hb; rw [iA]; obtain ⟨N, T, Lb, hN, hT, hL⟩ := lens3 Y; rw [hN] at hb
    conv => lhs; rw [← al (Y.af false b (pc ts l d))]
    simp only [pc, pcf, cx, aT, atX, Tok.c, br, aa] at e151 e68 ⊢
    generalize hd l = t at *
    generalize au ts = es at *
    simp [oj, hN, hT, hL, hb, e151, e68, k2, kt, X.enc, fc]
   | false =>
    rw [hi] at hx e68; simp only [ae, if_false] at hx e68; have h1 := ic hr s1 d 1
    cases x1 : ec 1 (dq l) with
    | bad e q =>
     simp only [x1, PR.map] at hx; obtain rfl := Option.some.inj hx; obtain ⟨a', d'', e1⟩ := bJ h1 x1; refine ⟨a', d'', fun b Y hb => ?_⟩; have e1 := e1 hb; have e68 := e68 b Y hb; have e151 := e151 b Y hb; rw [iA]; obtain ⟨N, T, Lb, hN, hT, hL⟩ := lens3 Y; rw [hN] at hb
     conv => lhs; rw [← al (Y.af false b (pc ts l d))]
     simp only [pc, pcf, cx, atX, Tok.c, br, aa] at e151 e68 e1 ⊢
     generalize hd l = t at *
     generalize au ts = es at *
     simp [oj, hN, hT, hL, hb, e151, e68, e1, k2, kt]
    | ok u l1 =>
     simp only [x1, PR.map] at hx; obtain rfl := Option.some.inj hx; refine ⟨bO h1 x1, fun b Y hb => ?_⟩; have e1 := aU h1 x1 hb; have e68 := e68 b Y hb; have e151 := e151 b Y hb; rw [iA]; obtain ⟨N, T, Lb, hN, hT, hL⟩ := lens3 Y; rw [hN] at hb
     conv => lhs; rw [← al (Y.af false b (pc ts l d))]
     simp only [pc, pcf, cx, aT, atX, Tok.c, br, aa] at e151 e68 e1 ⊢
     generalize hd l = t at *
     generalize au ts = es at *
     simp [oj, hN, hT, hL, hb, e151, e68, e1, k2, kt, n0, X.enc, fc]
 rw [if_neg kn] at hx
 have ki' : (hd l).kind = 2 → (hd l).text ≠ [105, 110, 112, 117, 116] := fun a b => ki ⟨a, b⟩
 have kn' : (hd l).kind = 2 → (hd l).text ≠ [110, 105, 108] := fun a b => kn ⟨a, b⟩
 by_cases kp : (hd l).kind = 5 ∧ (hd l).text = [40]
 · rw [if_pos kp] at hx
   obtain ⟨k5, kt⟩ := kp; have h1 := uW s1 d (hd l) (by omega); unfold mP at hx
   by_cases hdd : 12 < d + 1
   · rw [if_pos hdd] at hx h1
     obtain rfl := Option.some.inj hx; obtain ⟨a', d'', e1⟩ := bJ h1 rfl; refine ⟨a', d'', fun b Y hb => ?_⟩; have e1 := e1 hb; have e151 := e151 b Y hb; rw [iA]; obtain ⟨N, T, Lb, hN, hT, hL⟩ := lens3 Y; rw [hN] at hb
     conv => lhs; rw [← al (Y.af false b (pc ts l d))]
     simp only [pc, pcf, cx, atX, Tok.c, br, k5, kt, aa] at e151 e1 ⊢
     generalize hd l = t at *
     generalize au ts = es at *
     simp [oj, hN, hT, hL, hb, e151, e1, k5, kt]
   · rw [if_neg hdd] at hx h1
     obtain ⟨y, hy⟩ := dP hx; rw [hy] at hx; have h2 := la hr ih (d := d + 1) (by omega) s1 hy
     have w1 : IntKind.i64.wrap (((d + 1 : Nat) : Int) - 1) = (d : Int) := by rw [IntWalk.i64_in _ (by omega)]; omega
     cases y with
     | bad e q =>
      obtain rfl := bZ hx rfl; obtain ⟨a', d'', e2⟩ := bJ h2 rfl; refine ⟨a', d'', fun b Y hb => ?_⟩; have e2 := e2 hb; have e1 := aU h1 rfl hb; have e151 := e151 b Y hb; rw [iA]; obtain ⟨N, T, Lb, hN, hT, hL⟩ := lens3 Y; rw [hN] at hb
      conv => lhs; rw [← al (Y.af false b (pc ts l d))]
      simp only [pc, pcf, cx, atX, Tok.c, br, k5, kt, aa] at e151 e1 e2 ⊢
      generalize ((d + 1 : Nat) : Int) = d1 at *
      generalize hd l = t at *
      generalize au ts = es at *
      simp [oj, hN, hT, hL, hb, e151, e1, e2, k5, kt]
     | ok v l1 =>
      have hx := cM hx rfl; have s2 := bO h2 rfl; have h3 := eZ hr s2 (d + 1) [41]
      cases x3 : cL [41] l1 with
      | bad e q =>
       obtain rfl := bZ hx x3; obtain ⟨a', d'', e3⟩ := bJ h3 x3; refine ⟨a', d'', fun b Y hb => ?_⟩; have e3 := e3 hb; have e2 := aU h2 rfl hb; have e1 := aU h1 rfl hb; have e151 := e151 b Y hb; rw [iA]; obtain ⟨N, T, Lb, hN, hT, hL⟩ := lens3 Y; rw [hN] at hb
       conv => lhs; rw [← al (Y.af false b (pc ts l d))]
       simp only [pc, pcf, cx, aT, atX, Tok.c, br, k5, kt, aa] at e151 e1 e2 e3 ⊢
       generalize ((d + 1 : Nat) : Int) = d1 at *
       generalize hd l = t at *
       generalize au ts = es at *
       simp [oj, hN, hT, hL, hb, e151, e1, e2, e3, k5, kt, X.len, nP, X.okc, X.can, jW]
      | ok u l2 =>
       obtain rfl := Option.some.inj (cM hx x3); refine ⟨bO h3 x3, fun b Y hb => ?_⟩; have e3 := aU h3 x3 hb; have e2 := aU h2 rfl hb; have e1 := aU h1 rfl hb; have e151 := e151 b Y hb; rw [iA]; obtain ⟨N, T, Lb, hN, hT, hL⟩ := lens3 Y; rw [hN] at hb
       conv => lhs; rw [← al (Y.af false b (pc ts l d))]
       simp only [pc, pcf, cx, aT, atX, Tok.c, br, k5, kt, aa] at e151 e1 e2 e3 ⊢
       generalize ((d + 1 : Nat) : Int) = d1 at *
       generalize hd l = t at *
       generalize au ts = es at *
       simp [oj, hN, hT, hL, hb, e151, e1, e2, e3, k5, kt, w1, X.len, nP, X.okc, X.can, X.ly, X.fl, jW]
 rw [if_neg kp] at hx; obtain rfl := Option.some.inj hx; refine ⟨pcA ts (dq l), d, fun b Y hb => ?_⟩; have e74 := aC (nY (au ts) (pcA ts (dq l)) d 4 (hd l) (b := b)) hb; have e151 := e151 b Y hb; rw [iA]; obtain ⟨N, T, Lb, hN, hT, hL⟩ := lens3 Y; rw [hN] at hb
 conv => lhs; rw [← al (Y.af false b (pc ts l d))]
 by_cases k2 : (hd l).kind = 2
 · have ki := ki' k2
   have kn := kn' k2; simp only [pc, pcf, cx, atX, Tok.c, br, k2, aa] at e151 e74 ⊢
   generalize hd l = t at *
   generalize au ts = es at *
   simp [oj, hN, hT, hL, hb, e151, e74, k2, ki, kn]
 · have k2' : ¬ (((hd l).kind : Int) = 2) := by omega
   by_cases k5 : (hd l).kind = 5
   · have kt : (hd l).text ≠ [40] := fun a => kp ⟨k5, a⟩
     simp only [pc, pcf, cx, atX, Tok.c, br, k5, aa] at e151 e74 ⊢
     generalize hd l = t at *
     generalize au ts = es at *
     simp [oj, hN, hT, hL, hb, e151, e74, k5, kt]
   · have k5' : ¬ (((hd l).kind : Int) = 5) := by omega
     simp only [pc, pcf, cx, atX, Tok.c, br, aa] at e151 e74 ⊢
     generalize hd l = t at *
     generalize au ts = es at *
     simp [oj, hN, hT, hL, hb, e151, e74, k1, k1', k2, k2', k3, k3', k4, k4', k5, k5']
end
section
variable {ts : List Tok} (hr : Row ts) {n : Nat} (ih : mX ts n)
include hr ih
theorem Hf : ∀ d l x, d ≤ 12 → Sfx ts l → fv (n + 1) d l = some x → Rd 187 [] ts d d l cx x := by
 intro d l x hd12 h hx; have s1 := h.next hr
 have e67 := fun b (Y : St) hb => aC (eg h d 0 0 0 (b := b)) (s := Y) hb
 have e151 := fun b (Y : St) hb => aC (lh hr h d (b := b)) (s := Y) hb
 simp only [fv] at hx
 by_cases hw : (hd l).kind = 2 ∨ (hd l).kind = 5
 · have e197 : ∀ Z, E L (.func 197) [str (hd l).text] Z = some (.v (.int .i64 (fR (hd l))), Z) := fun Z => by
    rw [DF, fR, if_pos hw]
   by_cases hu : fR (hd l) = 0
   · rw [if_pos hu] at hx
     have h1 := ih.atom d l x hd12 h hx; rw [hu] at e197
     cases x with
     | bad e q =>
      obtain ⟨a', d'', e1⟩ := bJ h1 rfl; refine ⟨a', d'', fun b Y hb => ?_⟩; have e1 := e1 hb; have e67 := e67 b Y hb; rw [mj]; obtain ⟨N, T, Lb, hN, hT, hL⟩ := lens3 Y; rw [hN] at hb
      conv => lhs; rw [← al (Y.af false b (pc ts l d))]
      rcases hw with k | k
      · simp only [pc, pcf, cx, Tok.c, br, k, aa] at e67 e1 ⊢
        generalize hd l = t at *
        generalize au ts = es at *
        simp [qp, hN, hT, hL, hb, e67, e1, e197]
      · simp only [pc, pcf, cx, Tok.c, br, k, aa] at e67 e1 ⊢
        generalize hd l = t at *
        generalize au ts = es at *
        simp [qp, hN, hT, hL, hb, e67, e1, e197]
     | ok v l1 =>
      refine ⟨bO h1 rfl, fun b Y hb => ?_⟩; have e1 := aU h1 rfl hb; have e67 := e67 b Y hb; rw [mj]; obtain ⟨N, T, Lb, hN, hT, hL⟩ := lens3 Y; rw [hN] at hb
      conv => lhs; rw [← al (Y.af false b (pc ts l d))]
      rcases hw with k | k
      · simp only [pc, pcf, cx, Tok.c, br, k, aa] at e67 e1 ⊢
        generalize hd l = t at *
        generalize au ts = es at *
        simp [qp, hN, hT, hL, hb, e67, e1, e197, X.len, nP, X.okc, X.can, X.ly, X.fl, jW]
      · simp only [pc, pcf, cx, Tok.c, br, k, aa] at e67 e1 ⊢
        generalize hd l = t at *
        generalize au ts = es at *
        simp [qp, hN, hT, hL, hb, e67, e1, e197, X.len, nP, X.okc, X.can, X.ly, X.fl, jW]
   · rw [if_neg hu] at hx
     have h1 := uW s1 d (hd l) (by omega); unfold mP at hx
     by_cases hdd : 12 < d + 1
     · rw [if_pos hdd] at hx h1
       obtain rfl := Option.some.inj hx; obtain ⟨a', d'', e1⟩ := bJ h1 rfl; refine ⟨a', d'', fun b Y hb => ?_⟩; have e1 := e1 hb; have e67 := e67 b Y hb; have e151 := e151 b Y hb; rw [mj]; obtain ⟨N, T, Lb, hN, hT, hL⟩ := lens3 Y; rw [hN] at hb
       conv => lhs; rw [← al (Y.af false b (pc ts l d))]
       rcases hw with k | k
       · simp only [pc, pcf, cx, Tok.c, br, k, aa] at e67 e151 e1 ⊢
         generalize fR (hd l) = u at *
         generalize hd l = t at *
         generalize au ts = es at *
         simp [qp, hN, hT, hL, hb, e67, e151, e1, e197, hu]
       · simp only [pc, pcf, cx, Tok.c, br, k, aa] at e67 e151 e1 ⊢
         generalize fR (hd l) = u at *
         generalize hd l = t at *
         generalize au ts = es at *
         simp [qp, hN, hT, hL, hb, e67, e151, e1, e197, hu]
     · rw [if_neg hdd] at hx h1
       obtain ⟨y, hy⟩ := dP hx; rw [hy] at hx; have h2 := ih.pre (d + 1) (dq l) y (by omega) s1 hy
       have w1 : IntKind.i64.wrap (((d + 1 : Nat) : Int) - 1) = (d : Int) := by rw [IntWalk.i64_in _ (by omega)]; omega
       cases y with
       | bad e q =>
        obtain rfl := bZ hx rfl; obtain ⟨a', d'', e2⟩ := bJ h2 rfl; refine ⟨a', d'', fun b Y hb => ?_⟩; have e2 := e2 hb; have e1 := aU h1 rfl hb; have e67 := e67 b Y hb; have e151 := e151 b Y hb; rw [mj]; obtain ⟨N, T, Lb, hN, hT, hL⟩ := lens3 Y; rw [hN] at hb
        conv => lhs; rw [← al (Y.af false b (pc ts l d))]
        rcases hw with k | k
        · simp only [pc, pcf, cx, Tok.c, br, k, aa] at e67 e151 e1 e2 ⊢
          generalize ((d + 1 : Nat) : Int) = d1 at *
          generalize fR (hd l) = u at *
          generalize hd l = t at *
          generalize au ts = es at *
          simp [qp, hN, hT, hL, hb, e67, e151, e1, e2, e197, hu]
        · simp only [pc, pcf, cx, Tok.c, br, k, aa] at e67 e151 e1 e2 ⊢
          generalize ((d + 1 : Nat) : Int) = d1 at *
          generalize fR (hd l) = u at *
          generalize hd l = t at *
          generalize au ts = es at *
          simp [qp, hN, hT, hL, hb, e67, e151, e1, e2, e197, hu]
       | ok v l1 =>
        obtain rfl := Option.some.inj (cM hx rfl); refine ⟨bO h2 rfl, fun b Y hb => ?_⟩; have e2 := aU h2 rfl hb; have e1 := aU h1 rfl hb; have e67 := e67 b Y hb; have e151 := e151 b Y hb; rw [mj]; obtain ⟨N, T, Lb, hN, hT, hL⟩ := lens3 Y; rw [hN] at hb
        conv => lhs; rw [← al (Y.af false b (pc ts l d))]
        rcases hw with k | k
        · simp only [pc, pcf, cx, Tok.c, br, k, aa] at e67 e151 e1 e2 ⊢
          generalize ((d + 1 : Nat) : Int) = d1 at *
          generalize fR (hd l) = u at *
          generalize hd l = t at *
          generalize au ts = es at *
          simp [qp, hN, hT, hL, hb, e67, e151, e1, e2, e197, hu, w1, aX, jh, gm, AM.cC, AM.eR, chunks, X.len, nP, X.okc, X.can, X.ly, X.fl, X.pl, X.enc, fc, jW]
        · simp only [pc, pcf, cx, Tok.c, br, k, aa] at e67 e151 e1 e2 ⊢
          generalize ((d + 1 : Nat) : Int) = d1 at *
          generalize fR (hd l) = u at *
          generalize hd l = t at *
          generalize au ts = es at *
          simp [qp, hN, hT, hL, hb, e67, e151, e1, e2, e197, hu, w1, aX, jh, gm, AM.cC, AM.eR, chunks, X.len, nP, X.okc, X.can, X.ly, X.fl, X.pl, X.enc, fc, jW]
 · have hu : fR (hd l) = 0 := by rw [fR, if_neg hw]
   rw [if_pos hu] at hx; have h1 := ih.atom d l x hd12 h hx
   have k2 : ¬ (((hd l).kind : Int) = 2) := by omega
   have k5 : ¬ (((hd l).kind : Int) = 5) := by omega
   have k2' : ¬ ((hd l).kind = 2) := by omega
   have k5' : ¬ ((hd l).kind = 5) := by omega
   cases x with
   | bad e q =>
    obtain ⟨a', d'', e1⟩ := bJ h1 rfl; refine ⟨a', d'', fun b Y hb => ?_⟩; have e1 := e1 hb; have e67 := e67 b Y hb; rw [mj]; obtain ⟨N, T, Lb, hN, hT, hL⟩ := lens3 Y; rw [hN] at hb
    conv => lhs; rw [← al (Y.af false b (pc ts l d))]
    simp only [pc, pcf, cx, Tok.c, br, aa] at e67 e1 ⊢
    generalize hd l = t at *
    generalize au ts = es at *
    simp [qp, hN, hT, hL, hb, e67, e1, k2, k5, k2', k5']
   | ok v l1 =>
    refine ⟨bO h1 rfl, fun b Y hb => ?_⟩; have e1 := aU h1 rfl hb; have e67 := e67 b Y hb; rw [mj]; obtain ⟨N, T, Lb, hN, hT, hL⟩ := lens3 Y; rw [hN] at hb
    conv => lhs; rw [← al (Y.af false b (pc ts l d))]
    simp only [pc, pcf, cx, Tok.c, br, aa] at e67 e1 ⊢
    generalize hd l = t at *
    generalize au ts = es at *
    simp [qp, hN, hT, hL, hb, e67, e1, k2, k5, k2', k5', X.len, nP, X.okc, X.can, X.ly, X.fl, jW]
end
end Go.Proofs.YtlhlijaondmccaaGreatDoor.S
namespace Go.Proofs.YtlhlijaondmccaaGreatDoor.S
open Go Go.AM Go.Proofs
theorem jd {b : List PV → St → Option (Ex × List PV × St)} {vs vs' : List PV} {st st' : St} {t : TypeId} {v : Value} (h : b vs st = some (.pan t v, vs', st')) : itE b vs st = some (.pan t v, vs', st') := by
 rw [sk, h]; rfl
theorem Fx {P : Program} {cst : Bool} {t : TypeId} {a b : List UInt8} (h : a.length + b.length < 4611686018427387904) : aH P cst .add t (str a) (str b) = some (str (a ++ b)) := by
 rw [rK _ _ _ _ _ (by rw [cq, cq]; omega), nV]
theorem ri : ∀ {l m l' m' : List PV}, cC l = some l' → cC m = some m' → cC (l ++ m) = some (l' ++ m')
 | [], m, l', m', hl, hm => by obtain rfl := Option.some.inj hl; exact hm
 | a :: l, m, l', m', hl, hm => by
  simp only [cC] at hl
  cases ha : eR a with
  | none => rw [ha] at hl; cases hl
  | some a' =>
   rw [ha] at hl
   cases hl' : cC l with
   | none => rw [hl'] at hl; cases hl
   | some l2 =>
    rw [hl'] at hl; obtain rfl := Option.some.inj hl; simp only [aA, cC, ha, ri hl' hm, ag]
theorem FT {sz : Nat} {z cs ds cs' ds' : List PV} (hz : z.length = sz) (hc : cs.length = sz) (hd : ds.length = sz) (hp : cC cs = some cs') (hq : cC ds = some ds') (hc' : cs'.length = sz) (hd' : ds'.length = sz) : aX sz z 2 [(0, .agg cs), (1, .agg ds)] = some (.sl [cs', ds'] .full) := by
 have h1 : laid (gm 2 z) 0 cs = cs ++ z := by
  have := laidB [] z z cs (by omega); simpa [gm] using this
 have h1' : laid (cs ++ z) sz ds = cs ++ ds := by
  have := laidB cs z [] ds (by omega); simpa [hc] using this
 have h2 : dI (0 + sz) (gm 2 z).length = true := by simp [gm, hz]
 have h2' : dI (1 * sz + sz) (cs ++ z).length = true := by simp [hz, hc]
 have h3 : aj cs.length sz = true := by rw [hc]; exact Nat.beq_refl _
 have h3' : aj ds.length sz = true := by rw [hd]; exact Nat.beq_refl _
 simp only [aX, jh, cj, AM.cellsOf, h3, Nat.zero_mul, h2, h3', bn, cond_true, h1, ag, Nat.one_mul] at h2' ⊢; simp only [h2', h1', bn, cond_true, cj, ag, ri hp hq, chunks]; rw [List.take_append_of_le_length (by omega), List.take_of_length_le (by omega), List.drop_append_of_le_length (by omega), List.drop_of_length_le (by omega)]; simp [List.take_of_length_le, hd']
attribute [local simp] cY cu bV bW cv dS fk dY dh dW dc dX de fj bX gU dR gW gK gE AM.ab aL aM aY aN ay AM.onG fK bF dF Ex.ba cond_true cond_false cU cT cS cR cQ cW cP cX cV dZ di dj cr cZ AM.du AM.cellsOf AM.ao bE beq_true dm ai aD bh bu bP decide_true decide_false bC bm bn bA bf aB az bg aA da db fg aw bB bj bM cw dQ dU cI eu ep set_set eD dA fE dB cF bG dz cE dy cD dx eC eE fA fB bK cq eo fw ed aV aR aF AM.aQ ah dt bU aZ bc aJ aI AM.part aO aK bY cg cf cn cn.eS AM.dL bq bT dJ fQ aV laid aG aW cj
attribute [-simp] ag
attribute [local congr] dK
def X.kD (x : X) (c : Cap) : List PV := [.v (.int .i64 x.op), .v (.int .i64 x.bin), .v (.int .u64 x.n), .v (.int .i64 x.kd), .v (.string x.rc), .v (.string x.name), .sl (fc x.kids) c, .v (.int .i64 x.line), .v (.int .i64 x.col)]
theorem AG (x : X) (c : Cap) : laid z9 0 (x.kD c) = x.kD c := jW _ _ rfl
theorem qv (x : X) : laid z9 0 x.enc = x.enc := jW _ _ (X.len x).symm
theorem tN (x : X) (c : Cap) (a0 a1 a2 a3 a4 a5 a6 a7 a8 : PV) : (((((((((x.kD c).set 0 a0).set 1 a1).set 2 a2).set 3 a3).set 4 a4).set 5 a5).set 6 a6).set 7 a7).set 8 a8 = [a0, a1, a2, a3, a4, a5, a6, a7, a8] := rfl
abbrev D3 (c : Cap) : Prop := c = .dead ∨ c = .full
theorem tM (x : X) : x.kD .dead = x.enc := by rw [X.eL]; rfl
theorem jy (x : X) (c : Cap) : (x.kD c).length = 9 := rfl
theorem kj (x : X) (c : Cap) : (x.kD c).take 9 = x.kD c := rfl
theorem lI (x : X) (c : Cap) : aG (x.kD c) = true := rfl
theorem zj (x : X) (c : Cap) : cC (x.kD c) = some x.enc := by rw [X.eL]; rfl
theorem EL (x : X) (c : Cap) : (x.kD c).all dL = true := rfl
theorem AF (x : X) (c : Cap) : (x.kD c).map bU = x.enc := by rw [X.eL]; rfl
theorem uY (x : X) {c : Cap} (hc : D3 c) (m : Nat) : (x.kD c).all (sf true m 4) = true := by rcases hc with rfl | rfl <;> rfl
abbrev mkB (e k : X) (b : Int) (t : Tok) : X := ⟨9, b, 0, 0, bs [], bs [], [e, k], t.p.1, t.p.2⟩
theorem Cl (e k : X) (b : Int) (t : Tok) (c : Cap) : (mkB e k b t).kD c = [.v (.int .i64 9), .v (.int .i64 b), .v (.int .u64 0), .v (.int .i64 0), str [], str [], .sl [e.enc, k.enc] c, .v (.int .i64 (t.p.1 : Int)), .v (.int .i64 (t.p.2 : Int))] := by
 simp only [X.kD, mkB, X.op, X.bin, X.n, X.kd, X.rc, X.name, X.kids, X.line, X.col, fc]
def yP (ts : List Tok) (lv d : Nat) (e : X) (l : List Tok) (x : PR X) : Prop := match x with
 | .ok a l' => Sfx ts l' ∧ ∀ b (Y : St), b < Y.stk.length → ∀ N T Lb, Y.stk.length = N → Y.tk.length = T → Y.lp.length = Lb → ∀ c, D3 c → ∃ c1 c2,
  itE (oi.b0 (E L) itE N Lb) [.ptr false b 0, .v (.int .i64 (lv : Int)), .ptr false N 0, .ptr false (N + 1) 0] ((Y.af false b (pc ts l d)).app [⟨z9, []⟩, ⟨e.kD c, []⟩] [] []) =
   some (.ret, [.ptr false b 0, .v (.int .i64 (lv : Int)), .ptr false N 0, .ptr false (N + 1) 0], (Y.af false b (pc ts l' d)).app [⟨a.kD c2, []⟩, ⟨c1, []⟩] [] [])
 | .bad er q => ∃ a' d'', ∀ b (Y : St), b < Y.stk.length → ∀ N T Lb, Y.stk.length = N → Y.tk.length = T → Y.lp.length = Lb → ∀ c, D3 c → ∃ c1 c2,
  itE (oi.b0 (E L) itE N Lb) [.ptr false b 0, .v (.int .i64 (lv : Int)), .ptr false N 0, .ptr false (N + 1) 0] ((Y.af false b (pc ts l d)).app [⟨z9, []⟩, ⟨e.kD c, []⟩] [] []) =
   some (.pan 108 (.agg #[]), [.ptr false b 0, .v (.int .i64 (lv : Int)), .ptr false N 0, .ptr false (N + 1) 0], (Y.af false b (pcf (au ts) a' d'' er q.1 q.2)).app [⟨c1, []⟩, ⟨c2, []⟩] [] [])
section
variable {ts : List Tok} (hr : Row ts) {n : Nat} (ih : mX ts n)
include hr ih
theorem Ft (ihr : ∀ lv d e l x, lv < 3 → d ≤ 12 → Sfx ts l → ig n lv d e l = some x → yP ts lv d e l x) : ∀ lv d e l x, lv < 3 → d ≤ 12 → Sfx ts l → ig (n + 1) lv d e l = some x → yP ts lv d e l x := by
 intro lv d e l x hlv hd12 h hx; have elz := AG e; have s1 := h.next hr
 have e67 := fun b (Y : St) hb => aC (eg h d 0 0 0 (b := b)) (s := Y) hb
 have e151 := fun b (Y : St) hb => aC (lh hr h d (b := b)) (s := Y) hb
 have e188 := Dl lv hlv
 have hmem : hd l ∈ ts := by
  obtain ⟨t, r, rfl⟩ := h.cons; obtain ⟨_, dn, rfl⟩ := h; simp [hd]
 have htx := hr.txt _ hmem
 have sg1 : aH Tryz.prog true .add 9 (str [32]) (str (hd l).text) = some (str (32 :: (hd l).text)) := by
  rw [Fx (by simp only [bz]; omega)]; rfl
 have sg2 : aH Tryz.prog true .add 9 (str (32 :: (hd l).text)) (str [32]) = some (str (32 :: ((hd l).text ++ [32]))) := by
  rw [Fx (by simp only [bz, ai, aD]; omega)]; rfl
 have e189 := GR (hd l).text; simp only [ig] at hx
 by_cases k5 : (hd l).kind = 5
 · have e169 : ∀ Z, E L (.func 169) [str (32 :: iU (gy lv)), str (32 :: ((hd l).text ++ [32]))] Z = some (.v (.bool ((gy lv).contains (hd l).text)), Z) := fun Z => by
    rw [uA (by
     obtain rfl | rfl | rfl : lv = 0 ∨ lv = 1 ∨ lv = 2 := by omega
     all_goals simp [gy, iU]), Bh (hr.sign _ hmem k5)]
   cases hc0 : (gy lv).contains (hd l).text with
   | false =>
    rw [hc0] at e169; rw [gx, if_neg (by rw [hc0]; simp)] at hx; obtain rfl := Option.some.inj hx; refine ⟨h, fun b Y hb N T Lb hN hT hL c hc => ⟨e.kD c, c, ?_⟩⟩; have e67 := e67 b Y hb
    have hb2 : b < N + 2 := by omega
    have hsf := uY e hc; simp only [pc, pcf, cx, Tok.c, br, k5, aa] at e67 ⊢
    generalize iU (gy lv) = sg at *
    generalize hd l = t at *
    generalize au ts = es at *
    apply eF; simp [oi.b0, hN, hT, hL, hb, hb2, elz, e67, e188, sg1, sg2, e169, jy, kj, lI, hsf, jW, cN, dS]
   | true =>
    rw [hc0] at e169; rw [gx, if_pos ⟨k5, hc0⟩] at hx; simp only at hx; obtain ⟨y, hy⟩ := dP hx; rw [hy] at hx; have h1 := ih.chain (lv + 1) d (dq l) y (by omega) hd12 s1 hy
    have w1 : IntKind.i64.wrap ((lv : Int) + 1) = ((lv + 1 : Nat) : Int) := by rw [IntWalk.i64_in _ (by omega)]; omega
    cases y with
    | bad er q =>
     obtain rfl := bZ hx rfl; obtain ⟨a', d'', e1⟩ := bJ h1 rfl; refine ⟨a', d'', fun b Y hb N T Lb hN hT hL c hc => ⟨z9, e.kD c, ?_⟩⟩; have e1 := e1 hb; have e67 := e67 b Y hb; have e151 := e151 b Y hb
     have hb2 : b < N + 2 := by omega
     have hsf := uY e hc; simp only [pc, pcf, cx, Tok.c, br, k5, aa] at e67 e151 e1 ⊢
     generalize ((lv + 1 : Nat) : Int) = lv1 at *
     generalize iU (gy lv) = sg at *
     generalize vS (hd l).text = bt at *
     generalize hd l = t at *
     generalize au ts = es at *
     apply jd; simp [oi.b0, hN, hT, hL, hb, hb2, elz, e67, e151, e188, e189, e1, sg1, sg2, e169, w1, jy, kj, lI, hsf, jW, cN, dS]
    | ok k l1 =>
     have hx := cM hx rfl; have s2 := bO h1 rfl
     by_cases h0 : lv = 0
     · subst h0
       simp only [if_true] at hx; obtain rfl := Option.some.inj hx; refine ⟨s2, fun b Y hb N T Lb hN hT hL c hc => ⟨(mkB e k (vS (hd l).text) (hd l)).kD .full, .full, ?_⟩⟩; have e1 := aU h1 rfl hb; have e67 := e67 b Y hb; have e151 := e151 b Y hb
       have hb2 : b < N + 2 := by omega
       have hl2 := FT (sz := 9) (z := z9) rfl (jy e c) (X.len k) (zj e c) (X.pl k) (X.len e) (X.len k); simp only [pc, pcf, cx, Cl, Tok.c, br, k5, eB, aa] at e67 e151 e1 e188 w1 ⊢
       generalize ((0 + 1 : Nat) : Int) = lv1 at *
       generalize iU (gy 0) = sg at *
       generalize vS (hd l).text = bt at *
       generalize hd l = t at *
       generalize au ts = es at *
       apply eF; simp only [Int.zero_add] at w1; simp [oi.b0, hN, hT, hL, hb, hb2, elz, e67, e151, e188, e189, e1, sg1, sg2, e169, w1, tN, hl2, jy, kj, lI, jW, cN, dS]
     · rw [if_neg h0] at hx
       have h2 := ihr lv d _ l1 x hlv hd12 s2 hx
       have h0' : ¬ ((lv : Int) = 0) := by omega
       have stp : ∀ b (Y : St), b < Y.stk.length → ∀ N T Lb, Y.stk.length = N → Y.tk.length = T → Y.lp.length = Lb → ∀ c, D3 c →
        oi.b0 (E L) itE N Lb [.ptr false b 0, .v (.int .i64 (lv : Int)), .ptr false N 0, .ptr false (N + 1) 0] ((Y.af false b (pc ts l d)).app [⟨z9, []⟩, ⟨e.kD c, []⟩] [] []) =
         some (.normal, [.ptr false b 0, .v (.int .i64 (lv : Int)), .ptr false N 0, .ptr false (N + 1) 0], (Y.af false b (pc ts l1 d)).app [⟨z9, []⟩, ⟨(mkB e k (vS (hd l).text) (hd l)).kD .full, []⟩] [] []) := by
        intro b Y hb N T Lb hN hT hL c hc; have e1 := aU h1 rfl hb; have e67 := e67 b Y hb; have e151 := e151 b Y hb
        have hb2 : b < N + 2 := by omega
        have hl2 := FT (sz := 9) (z := z9) rfl (jy e c) (X.len k) (zj e c) (X.pl k) (X.len e) (X.len k); simp only [pc, pcf, cx, Cl, Tok.c, br, k5, aa] at e67 e151 e1 ⊢
        generalize ((lv + 1 : Nat) : Int) = lv1 at *
        generalize iU (gy lv) = sg at *
        generalize vS (hd l).text = bt at *
        generalize hd l = t at *
        generalize au ts = es at *
        simp [oi.b0, hN, hT, hL, hb, hb2, elz, e67, e151, e188, e189, e1, sg1, sg2, e169, w1, h0, h0', tN, hl2, jy, kj, lI, jW, cN, dS]
       cases x with
       | ok a l2 =>
        refine ⟨h2.1, fun b Y hb N T Lb hN hT hL c hc => ?_⟩; obtain ⟨c1, c2, hit⟩ := h2.2 b Y hb N T Lb hN hT hL .full (.inr rfl); exact ⟨c1, c2, (bQ (stp b Y hb N T Lb hN hT hL c hc)).trans hit⟩
       | bad er q =>
        obtain ⟨a', d'', h2⟩ := h2; refine ⟨a', d'', fun b Y hb N T Lb hN hT hL c hc => ?_⟩; obtain ⟨c1, c2, hit⟩ := h2 b Y hb N T Lb hN hT hL .full (.inr rfl); exact ⟨c1, c2, (bQ (stp b Y hb N T Lb hN hT hL c hc)).trans hit⟩
 · rw [gx, if_neg (fun q => k5 q.1)] at hx
   obtain rfl := Option.some.inj hx; refine ⟨h, fun b Y hb N T Lb hN hT hL c hc => ⟨e.kD c, c, ?_⟩⟩; have e67 := e67 b Y hb
   have hb2 : b < N + 2 := by omega
   have hsf := uY e hc
   have k5' : ¬ (((hd l).kind : Int) = 5) := by omega
   simp only [pc, pcf, cx, Tok.c, br, aa] at e67 ⊢
   generalize hd l = t at *
   generalize au ts = es at *
   apply eF; simp [oi.b0, hN, hT, hL, hb, hb2, elz, e67, k5, k5', jy, kj, lI, hsf, jW, cN, dS]
end
end Go.Proofs.YtlhlijaondmccaaGreatDoor.S
namespace Go.Proofs.YtlhlijaondmccaaGreatDoor.S
open Go Go.AM Go.Proofs
attribute [local simp] cY cu bV bW cv dS fk dY dh dW dc dX de fj bX gU dR gW gK gE AM.ab aL aM aY aN ay AM.onG fK bF dF Ex.ba cond_true cond_false cU cT cS cR cQ cW cP cX cV dZ di dj cr cZ AM.du AM.cellsOf AM.ao bE beq_true dm ai aD bh bu bP decide_true decide_false bC bm bn bA bf aB az bg aA da db fg aw bB bj bM cw dQ dU cI eu ep set_set eD dA fE dB cF bG dz cE dy cD dx eC eE fA fB bK cq eo fw ed aV aR aF AM.aQ ah dt bU aZ bc aJ aI AM.part aO aK bY cg cf cn cn.eS AM.dL bq bT dJ fQ aV laid aG aW cj
attribute [-simp] ag
attribute [local congr] dK
section
variable {ts : List Tok} (hr : Row ts) {n : Nat} (ih : mX ts n)
include hr ih
theorem Cb (ihr : ∀ lv d e l x, lv < 3 → d ≤ 12 → Sfx ts l → ig n lv d e l = some x → yP ts lv d e l x) : ∀ lv d l x, lv ≤ 3 → d ≤ 12 → Sfx ts l → dG (n + 1) lv d l = some x → Rd 173 [.v (.int .i64 (lv : Int))] ts d d l cx x := by
 intro lv d l x hlv hd12 h hx; simp only [dG] at hx
 by_cases k3 : lv = 3
 · subst k3
   rw [if_pos rfl] at hx; have h1 := ih.pre d l x hd12 h hx
   cases x with
   | bad er q =>
    obtain ⟨a', d'', e1⟩ := bJ h1 rfl; refine ⟨a', d'', fun b Y hb => ?_⟩; have e1 := e1 hb; rw [pd]; obtain ⟨N, T, Lb, hN, hT, hL⟩ := lens3 Y; rw [hN] at hb
    conv => lhs; rw [← al (Y.af false b (pc ts l d))]
    simp only [pc, pcf, cx, aa] at e1 ⊢
    generalize au ts = es at *
    simp [oi, hN, hT, hL, hb, e1]
   | ok a l' =>
    refine ⟨bO h1 rfl, fun b Y hb => ?_⟩; have e1 := aU h1 rfl hb; rw [pd]; obtain ⟨N, T, Lb, hN, hT, hL⟩ := lens3 Y; rw [hN] at hb
    conv => lhs; rw [← al (Y.af false b (pc ts l d))]
    simp only [pc, pcf, cx, aa] at e1 ⊢
    generalize au ts = es at *
    simp [oi, hN, hT, hL, hb, e1, X.len, nP, X.okc, X.can, X.ly, X.fl, qv]
 rw [if_neg k3] at hx; obtain ⟨y, hy⟩ := dP hx; rw [hy] at hx; have h1 := ih.chain (lv + 1) d l y (by omega) hd12 h hy
 have w1 : IntKind.i64.wrap ((lv : Int) + 1) = ((lv + 1 : Nat) : Int) := by rw [IntWalk.i64_in _ (by omega)]; omega
 have k3' : ¬ ((lv : Int) = 3) := by omega
 cases y with
 | bad er q =>
  obtain rfl := bZ hx rfl; obtain ⟨a', d'', e1⟩ := bJ h1 rfl; refine ⟨a', d'', fun b Y hb => ?_⟩; have e1 := e1 hb; rw [pd]; obtain ⟨N, T, Lb, hN, hT, hL⟩ := lens3 Y; rw [hN] at hb
  conv => lhs; rw [← al (Y.af false b (pc ts l d))]
  simp only [pc, pcf, cx, aa] at e1 ⊢
  generalize ((lv + 1 : Nat) : Int) = lv1 at *
  generalize au ts = es at *
  simp [oi, hN, hT, hL, hb, e1, w1, k3, k3']
 | ok e l1 =>
  have hx := cM hx rfl; have s1 := bO h1 rfl; have h2 := ihr lv d e l1 x (by omega) hd12 s1 hx
  cases x with
  | bad er q =>
   obtain ⟨a', d'', h2⟩ := h2; refine ⟨a', d'', fun b Y hb => ?_⟩; have e1 := aU h1 rfl hb; obtain ⟨c1, c2, hit⟩ := h2 b Y hb _ _ _ rfl rfl rfl .dead (.inl rfl); rw [tM] at hit; rw [pd]; obtain ⟨N, T, Lb, hN, hT, hL⟩ := lens3 Y; rw [hN] at hb; rw [hN] at hit
   conv => lhs; rw [← al (Y.af false b (pc ts l d))]
   rw [hL] at hit
   have hb2 : b < N + 2 := by omega
   simp only [pc, pcf, cx, aa] at e1 hit ⊢
   generalize ((lv + 1 : Nat) : Int) = lv1 at *
   generalize au ts = es at *
   simp [oi, hN, hT, hL, hb, hb2, e1, w1, k3, k3', X.len, nP, X.okc, X.can, X.ly, X.fl, qv, hit, Ex.ba]
  | ok a l2 =>
   refine ⟨h2.1, fun b Y hb => ?_⟩; have e1 := aU h1 rfl hb; obtain ⟨c1, c2, hit⟩ := h2.2 b Y hb _ _ _ rfl rfl rfl .dead (.inl rfl); have hfl := EL a c2; rw [tM] at hit; rw [pd]; obtain ⟨N, T, Lb, hN, hT, hL⟩ := lens3 Y; rw [hN] at hb; rw [hN] at hit
   conv => lhs; rw [← al (Y.af false b (pc ts l d))]
   rw [hL] at hit
   have hb2 : b < N + 2 := by omega
   simp only [pc, pcf, cx, aa] at e1 hit ⊢
   generalize ((lv + 1 : Nat) : Int) = lv1 at *
   generalize au ts = es at *
   simp [oi, hN, hT, hL, hb, hb2, e1, w1, k3, k3', X.len, nP, X.okc, X.can, X.ly, X.fl, qv, hit, Ex.ba, jy, kj, lI, hfl, AF]
end
theorem zm {ts : List Tok} (hr : Row ts) : ∀ n, mX ts n ∧ ∀ lv d e l x, lv < 3 → d ≤ 12 → Sfx ts l → ig n lv d e l = some x → yP ts lv d e l x
 | 0 => by
  refine ⟨⟨?_, ?_, ?_⟩, ?_⟩
  · intro d l x _ _ h; simp [il] at h
  · intro d l x _ _ h; simp [fv] at h
  · intro lv d l x _ _ _ h; simp [dG] at h
  · intro lv d e l x _ _ _ h; simp [ig] at h
 | n + 1 => by
  obtain ⟨i, r⟩ := zm hr n; exact ⟨⟨EC hr i, Hf hr i, Cb hr i r⟩, Ft hr i r⟩
end Go.Proofs.YtlhlijaondmccaaGreatDoor.S
