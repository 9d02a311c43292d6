/- Part 7 of the proof of a law of the parser, its names made short by a program. No condition. -/
import Derived.Test.YtlhlijaondmccaaGreatDoorH6
import Derived.KernelRfl
import Derived.Test.YtlhlijaondmccaaGreatDoorRows
import Derived.WalkKit
import Derived.ProofKit
import Derived.LaidMore
import Derived.LaidLaws
import Derived.MakeChecks
import Derived.Stop.Joined
import Derived.Stop.LaidErr
import Derived.Lib.LaidTab
import Derived.OpenShut
import Derived.ShutString
import Derived.ChangeOld
import Derived.Below
import Derived.SizedLaws
import Derived.DataOpen
import Derived.ChangeSlices
import Derived.Test.YtlhlijaondmccaaGreatDoorCards
import Derived.Test.YtlhlijaondmccaaGreatDoorTie
import Derived.SevenTiedAt
set_option linter.all false
set_option maxRecDepth 100000
set_option maxHeartbeats 4000000
open _root_.Bool renaming and_self → br, and_true → bI, not_false → bg, not_true → bD, true_and → bn
open _root_.Int renaming cast_ofNat_Int → ab, natCast_zero → eD
open _root_.List renaming all_cons → bu, all_eq_true → dK, all_nil → bV, cons_append → aD, drop_nil → cc, drop_succ_cons → aM, drop_zero → aQ, getD_cons_succ → aN, getD_cons_zero → aO, getElem?_cons_succ → aA, getElem?_cons_zero → aB, getElem?_eq_getElem → cP, length → gG, length_append → ay, length_cons → ag, length_drop → cF, length_nil → aC, length_singleton → bC, map_cons → aW, map_nil → bc, modify_succ_cons → aK, modify_zero_cons → aL, nil_append → bh, take_left → bE, take_nil → bR, take_succ_cons → av, take_zero → aY, toList_toArray → aT
open _root_.Nat renaming add_zero → bx, le_refl → ao, reduceAdd → bU, zero_add → bj
open _root_.Option renaming bind_none → bf, bind_some → ah, map_some → aP
namespace Go.Proofs.YtlhlijaondmccaaGreatDoor.S
open Go Go.AM Go.Proofs
attribute [local simp] cZ cy bX bY cz eI fu dX di dV de dW dh ft bZ hZ dR ib gU gN AM.aa aN aO bf aP aw AM.onG fR bH dw Ex.ba cond_true cond_false cV cU cT cS cR cX cQ cY cW dY dj dm cx da AM.du AM.cellsOf AM.an bQ beq_true dr ag aC bj bx bU decide_true decide_false bI bn br bD bg aB aA bh aD db dc fm av bE aY bR cC dQ dT cL eB eA set_set eG dB fI dC cI bK dA cH dz cG dy eF eH fE fF bO cv eu fD dZ aZ aT aI AM.aS ai dt bW aW bc aL aK AM.part aQ aM cc cn cm cr cr.eT AM.dM bu bV eg gm aZ laid aH bm cq
attribute [-simp] ah
attribute [local congr] ej
abbrev cA : List UInt8 := [116, 104, 114, 101, 97, 100, 32, 123, 32, 112, 114, 105, 110, 116, 32, 49, 32, 43, 32, 50, 32, 42, 32, 51, 59, 32, 125]
abbrev cB : List UInt8 := [116, 104, 114, 101, 97, 100, 32, 123, 32, 112, 114, 105, 110, 116, 32, 59, 32, 125]
def Ho : PV → List (List PV)
 | .sl es _ => es
 | _ => []
def SA : List PV := ((ic cA).1.ths.flatMap fun t => ep t.body).flatten
def KA (i : Nat) : List PV := (Ho (SA.getD 49 .u)).getD i []
theorem pA : (nF (ic cA).1, (ic cA).2) = (.agg [.sl [] .dead, .sl [] .dead, .sl [] .dead, .sl [[.sl [SA] .dead, int 1, int 1]] .dead], (0, 0, 0)) := by kernel_rfl
theorem pB : (nF (ic cB).1, (ic cB).2) = (.agg [.sl [] .dead, .sl [] .dead, .sl [] .dead, .sl [] .dead], (4, 1, 16)) := by kernel_rfl
theorem sA0 : SA[0]? = some (int 5) := by kernel_rfl
theorem IV : SA[49]? = some (.sl [KA 0, KA 1] .dead) := by kernel_rfl
theorem sAl : SA.length = 58 := by kernel_rfl
theorem kAl : (KA 1).length = 9 := by kernel_rfl
theorem kA1 : (KA 1)[1]? = some (int 2) := by kernel_rfl
theorem E8 (b : Bool) (x y z u v w : Int) : aJ Tryz.prog b .eql 54 (.agg [.v (.int .i64 x), .v (.int .i64 y), .v (.int .i64 z)]) (.agg [.v (.int .i64 u), .v (.int .i64 v), .v (.int .i64 w)]) = some (.v (.bool ((x == u) && ((y == v) && ((z == w) && true))))) := by kernel_rfl
theorem uQ (st : St) : E L (.func 19) [] st = some (.v (.bool true), st) := by
 rw [GM]; obtain ⟨N, T, Lb, hN, hT, hL⟩ := lens3 st
 conv => lhs; rw [← al (st)]
 have e1 : ∀ X, E L (.func 20) [str cA] X = _ := uR (by decide)
 have e2 : ∀ X, E L (.func 20) [str cB] X = _ := uR (by decide)
 have a1 := congrArg Prod.fst pA; have a2 := congrArg Prod.snd pA; have b1 := congrArg Prod.fst pB; have b2 := congrArg Prod.snd pB; simp only at a1 a2 b1 b2; rw [a1, a2] at e1; rw [b1, b2] at e2; clear a1 a2 b1 b2; have s0 := sA0; have s49 := IV; have k1 := kA1; have sl := sAl; have kl := kAl
 generalize SA = s at *
 generalize KA 0 = k0 at *
 generalize KA 1 = k1' at *
 simp only [AV, ab, eD] at e1 e2
 have s0' : ∀ h : 0 < s.length, s[0] = int 5 := fun h => (List.getElem_eq_iff h).2 s0
 have s49' : ∀ h : 49 < s.length, s[49] = .sl [k0, k1'] .dead := fun h => (List.getElem_eq_iff h).2 s49
 have k1q : ∀ h : 1 < k1'.length, k1'[1] = int 2 := fun h => (List.getElem_eq_iff h).2 k1
 simp [S19, s0', s49', k1q, E8, e1, e2, s0, s49, k1, sl, kl, CX, CY, yl, F7, F8, CP, bm, cq, AM.part, dv]
end Go.Proofs.YtlhlijaondmccaaGreatDoor.S
namespace Go.Proofs.YtlhlijaondmccaaGreatDoor.S
open Go Go.AM Go.Proofs
abbrev Bq (l l' : List Tok) : Prop := l.map Tok.bare = l'.map Tok.bare
abbrev Tq (t u : Tok) : Prop := t.bare = u.bare
theorem Tq.k {t u : Tok} (h : Tq t u) : t.kind = u.kind := congrArg (fun x => x.1) h
theorem Tq.t {t u : Tok} (h : Tq t u) : t.text = u.text := congrArg (fun x => x.2.1) h
theorem Tq.m {t u : Tok} (h : Tq t u) : t.n = u.n := congrArg (fun x => x.2.2) h
theorem Bq.hd {l l' : List Tok} (h : Bq l l') : Tq (hd l) (hd l') := by
 cases l with
 | nil => cases l' with
  | nil => rfl
  | cons a l' => exact absurd (congrArg gG h) (by simp)
 | cons a l => cases l' with
  | nil => exact absurd (congrArg gG h) (by simp)
  | cons a' l' => simp only [Bq, aW, List.cons.injEq] at h; exact h.1
theorem Bq.tail {l l' : List Tok} (h : Bq l l') : Bq l.tail l'.tail := by
 cases l with
 | nil => cases l' with
  | nil => rfl
  | cons a l' => exact absurd (congrArg gG h) (by simp)
 | cons a l => cases l' with
  | nil => exact absurd (congrArg gG h) (by simp)
  | cons a' l' => simp only [Bq, aW, List.cons.injEq] at h; exact h.2
theorem Bq.isT {l l' : List Tok} (h : Bq l l') (s : List UInt8) : isT l s = isT l' s := by unfold S.isT; rw [h.hd.k, h.hd.t]
theorem Bq.next {l l' : List Tok} (h : Bq l l') : Bq (dI l) (dI l') := by
 unfold dI; rw [h.hd.k]; split
 · exact h
 · exact h.tail
inductive Pq {α : Type} (R : α → α → Prop) : Option (PR α) → Option (PR α) → Prop
 | none : Pq R none none
 | bad (e : Nat) (q q' : Nat × Nat) : Pq R (some (.bad e q)) (some (.bad e q'))
 | ok {a b : α} {l l' : List Tok} (h : R a b) (h' : Bq l l') : Pq R (some (.ok a l)) (some (.ok b l'))
theorem Pq.pb {α β : Type} {R : α → α → Prop} {T : β → β → Prop} {x y : Option (PR α)} (h : Pq R x y) {K K' : α → List Tok → Option (PR β)}
 (hk : ∀ a b l l', R a b → Bq l l' → Pq T (K a l) (K' b l')) : Pq T (S.pb x K) (S.pb y K') := by
 cases h with
 | none => exact .none
 | bad e q q' => exact .bad e q q'
 | ok h h' => exact hk _ _ _ _ h h'
theorem Pq.ite {α : Type} {R : α → α → Prop} {x y x' y' : Option (PR α)} {c c' : Prop} [Decidable c] [Decidable c'] (hc : c ↔ c') (h : Pq R x y) (h' : Pq R x' y') : Pq R (if c then x else x') (if c' then y else y') := by
 by_cases h0 : c
 · rw [if_pos h0, if_pos (hc.1 h0)]; exact h
 · rw [if_neg h0, if_neg fun e => h0 (hc.2 e)]; exact h'
theorem Pq.it {α : Type} {R : α → α → Prop} {x y x' y' : Option (PR α)} {l l' : List Tok} (hl : Bq l l') (s : List UInt8) (h : Pq R x y) (h' : Pq R x' y') : Pq R (if isT l s then x else x') (if isT l' s then y else y') := .ite (by rw [hl.isT]) h h'
theorem Pq.down {α : Type} {R : α → α → Prop} {x y : Option (PR α)} {d : Nat} {t u : Tok} (h : Pq R x y) : Pq R (pL d t x) (pL d u y) := .ite Iff.rfl (.bad ..) h
theorem ju (k : Nat) {l l' : List Tok} (h : Bq l l') : Pq Tq (some (eU k l)) (some (eU k l')) := by
 unfold eU; rw [h.hd.k]; split
 · exact .ok h.hd h.next
 · exact .bad ..
theorem iO (s : List UInt8) {l l' : List Tok} (h : Bq l l') : Pq Tq (some (dJ s l)) (some (dJ s l')) := by
 unfold dJ; rw [h.isT]; split
 · exact .ok h.hd h.tail
 · exact .bad ..
theorem IA {l l' : List Tok} (h : Bq l l') : Pq Eq (some (vM l)) (some (vM l')) := by
 unfold vM; simp only [h.isT]; split
 · exact .ok rfl h.tail
 split
 · exact .ok rfl h.tail
 split
 · exact .ok rfl h.tail
 have := ju 1 h
 generalize eU 1 l = x at *
 generalize eU 1 l' = y at *
 cases this with
 | bad e q q' => exact .bad ..
 | ok h1 h2 => exact .ok (by simp only [h1.t]) h2
abbrev Nq (a b : Nm) : Prop := nmT a = nmT b
theorem vx {l l' : List Tok} (h : Bq l l') : Pq Nq (mO l) (mO l') :=
 (ju 1 h).pb fun t u l1 l1' ht h1 => (iO _ h1).pb fun _ _ l2 l2' _ h2 => (IA h2).pb fun ty ty' l3 l3' hty h3 => .ok (by subst hty; simp only [Nq, nmT, ht.t]) h3
abbrev XqT (a b : X) : Prop := a.text = b.text
theorem tU {t u : Tok} (op : Int) {n n' kd kd' : Int} {rc rc' name name' : List UInt8} (h1 : n = n') (h2 : kd = kd') (h3 : rc = rc') (h4 : name = name') : XqT (atX t op n kd rc name) (atX u op n' kd' rc' name') := by
 subst h1 h2 h3 h4; simp only [XqT, X.sc]; rfl
theorem X.DQ {op bin n kd : Int} {rc name : ByteArray} {ks ks' : List X} {p p' : Int × Int} (h : eX ks = eX ks') (hl : ks.length = ks'.length) : XqT ⟨op, bin, n, kd, rc, name, ks, p.1, p.2⟩ ⟨op, bin, n, kd, rc, name, ks', p'.1, p'.2⟩ := by
 rw [XqT, X.sc, X.sc]; exact (congr (congrArg (fun (a : Nat) (b : List ByteArray) => [⟨#[101, 120, 112, 114]⟩, fc op, fc bin, fc (w64 n), fc kd, rc, name, fc a] ++ b) hl) h :)
theorem HD {t u : Tok} (lv : Nat) (h : Tq t u) : lH lv t = lH lv u := by unfold lH; rw [h.k, h.t]
theorem FZ {t u : Tok} (h : Tq t u) : iI t = iI u := by unfold iI; rw [h.k, h.t]
theorem CD : ∀ n : Nat, (∀ d {l l'}, Bq l l' → Pq XqT (lO n d l) (lO n d l')) ∧ (∀ d {l l'}, Bq l l' → Pq XqT (iv n d l) (iv n d l')) ∧
 (∀ lv d {l l'}, Bq l l' → Pq XqT (ff n lv d l) (ff n lv d l')) ∧ (∀ lv d {e e' l l'}, XqT e e' → Bq l l' → Pq XqT (j9 n lv d e l) (j9 n lv d e' l'))
 | 0 => by
  refine ⟨fun d l l' h => ?_, fun d l l' h => ?_, fun lv d l l' h => ?_, fun lv d e e' l l' _ h => ?_⟩
  · rw [lO, lO]; exact .none
  · rw [iv, iv]; exact .none
  · rw [ff, ff]; exact .none
  · rw [j9, j9]; exact .none
 | n + 1 => by
  obtain ⟨hA, hP, hC, hR⟩ := CD n; refine ⟨fun d l l' h => ?_, fun d l l' h => ?_, fun lv d l l' h => ?_, fun lv d e e' l l' he h => ?_⟩
  · rw [lO, lO]
    have k := h.hd.k; have t := h.hd.t; have m := h.hd.m; refine .ite (by rw [k]) (.ok (tU _ (by rw [m]) rfl rfl rfl) h.next) ?_; refine .ite (by rw [k]) (.ok (tU _ (by rw [m]) rfl rfl rfl) h.next) ?_; refine .ite (by rw [k]) (.ok (tU _ rfl rfl rfl (by rw [t])) h.next) ?_; refine .ite (by rw [k, t]) ?_ ?_
    · have := ju 3 h.next
      generalize eU 3 (dI l) = x at *
      generalize eU 3 (dI l') = y at *
      cases this with
      | bad e q q' => exact .bad ..
      | ok h1 h2 => exact .ok (tU _ (by rw [h1.m]) rfl rfl rfl) h2
    refine .ite (by rw [k, t]) ?_ ?_
    · refine .it h.next _ (.ok (tU _ rfl rfl rfl rfl) h.next.tail) ?_
      have := ju 1 h.next
      generalize eU 1 (dI l) = x at *
      generalize eU 1 (dI l') = y at *
      cases this with
      | bad e q q' => exact .bad ..
      | ok h1 h2 => exact .ok (tU _ rfl rfl (by rw [h1.t]) rfl) h2
    refine .ite (by rw [k, t]) (.down ((hC _ _ h.next).pb fun e e' l1 l1' he h1 => (iO _ h1).pb fun _ _ l2 l2' _ h2 => .ok he h2)) (.bad ..)
  · rw [iv, iv]
    have e := FZ h.hd; refine .ite (by rw [e]) (hA _ h) (.down ((hP _ h.next).pb fun k k' l1 l1' hk h1 => .ok ?_ h1)); rw [e]; exact X.DQ (p := ((hd l).p.1, (hd l).p.2)) (p' := ((hd l').p.1, (hd l').p.2)) (by simp only [eX]; rw [hk]) rfl
  · rw [ff, ff]
    exact .ite Iff.rfl (hP _ h) ((hC _ _ h).pb fun e e' l1 l1' he h1 => hR _ _ he h1)
  · rw [j9, j9]
    simp only [HD lv h.hd]
    cases lH lv (hd l') with
    | none => exact .ok he h
    | some b =>
     refine (hC _ _ h.next).pb fun k k' l1 l1' hk h1 => ?_
     have hn : ∀ p p' : Int × Int, XqT ⟨9, b, 0, 0, bs [], bs [], [e, k], p.1, p.2⟩ ⟨9, b, 0, 0, bs [], bs [], [e', k'], p'.1, p'.2⟩ := fun p p' => X.DQ (by simp only [eX]; rw [hk, he]) rfl
     exact .ite Iff.rfl (.ok (hn ((hd l).p.1, (hd l).p.2) ((hd l').p.1, (hd l').p.2)) h1) (hR _ _ (hn ((hd l).p.1, (hd l).p.2) ((hd l').p.1, (hd l').p.2)) h1)
theorem mF (n lv d : Nat) {l l' : List Tok} (h : Bq l l') : Pq XqT (ff n lv d l) (ff n lv d l') := (CD n).2.2.1 lv d h
abbrev Lq (a b : Pl) : Prop := a.tx = b.tx
theorem Ac (n d : Nat) {l l' : List Tok} (h : Bq l l') : Pq Lq (nQ n d l) (nQ n d l') :=
 (ju 1 h).pb fun t u l1 l1' ht h1 => by
  refine .it h1 _ ((ju 1 h1.tail).pb fun v w l2 l2' hv h2 => .ok ?_ h2) (.it h1 _ ((mF n 0 d h1.tail).pb fun e e' l2 l2' he h2 => (iO _ h2).pb fun _ _ l3 l3' _ h3 => .ok ?_ h3) (.ok ?_ h1))
  · simp only [Lq, Pl.tx, ht.t, hv.t]
  · simp only [Lq, Pl.tx, ht.t]; rw [he]
  · simp only [Lq, Pl.tx, ht.t]
def rtT (r : Rt) : ByteArray × Int × List ByteArray × List ByteArray := (r.name, r.op, r.e.text, r.place.tx)
abbrev RqT (a b : Rt) : Prop := rtT a = rtT b
theorem Ag (n d : Nat) {l l' : List Tok} (h : Bq l l') : Pq RqT (jw n d l) (jw n d l') := by
 unfold jw; refine .it h _ ((Ac n d h.tail).pb fun x y l1 l1' hx h1 => .ok ?_ h1) ?_
 · simp only [RqT, rtT]; rw [hx]
 refine .it h _ ((ju 1 h.tail).pb fun x y l1 l1' hx h1 => .ok ?_ h1) ?_
 · simp only [RqT, rtT]; rw [hx.t]
 refine .it h _ (.it h.tail _ ((mF n 0 d h.tail.tail).pb fun x y l1 l1' hx h1 => .ok ?_ h1) ((ju 1 h.tail).pb fun x y l1 l1' hx h1 => .ok ?_ h1)) ((mF n 0 d h).pb fun x y l1 l1' hx h1 => .ok ?_ h1)
 · simp only [RqT, rtT]; rw [hx]
 · simp only [RqT, rtT]; rw [hx.t]
 · simp only [RqT, rtT]; rw [hx]
abbrev Aq (a b : List X) : Prop := eX a = eX b ∧ a.length = b.length
theorem n8 : ∀ (p : List X) (x : X), eX (p ++ [x]) = eX p ++ x.text
 | [], x => by simp [eX]
 | y :: p, x => by simp [eX, n8 p x]
theorem Aq.add {a b : List X} (h : Aq a b) {x y : X} (hx : XqT x y) : Aq (a ++ [x]) (b ++ [y]) := by
 refine ⟨?_, by simp [h.2]⟩; rw [n8, n8, h.1, hx]
theorem B9 : ∀ (n m d : Nat) {a a' : List X} {l l' : List Tok}, Aq a a' → Bq l l' → Pq Aq (lN n m d a l) (lN n m d a' l')
 | 0, _, _, _, _, _, _, _, _ => by rw [lN, lN]; exact .none
 | n + 1, m, d, a, a', l, l', ha, h => by
  rw [lN, lN]
  exact (mF m 0 d h).pb fun e e' l1 l1' he h1 => .it h1 _ (.ok (ha.add he) h1.tail) ((iO _ h1).pb fun _ _ l2 l2' _ h2 => B9 n m d (ha.add he) h2)
theorem ER (n d : Nat) {l l' : List Tok} (h : Bq l l') : Pq Aq (sn n d l) (sn n d l') :=
 (iO _ h).pb fun _ _ l1 l1' _ h1 => .it h1 _ (.ok ⟨rfl, rfl⟩ h1.tail) (B9 n n d ⟨rfl, rfl⟩ h1)
abbrev Sq (a b : S) : Prop := a.tx = b.tx
abbrev Wq (a b : List S) : Prop := lI a = lI b ∧ a.length = b.length
theorem Wq.row {a b : List S} (h : Wq a b) : iD a = iD b := by unfold iD; rw [h.1, h.2]
theorem Wq.add {a b : List S} (h : Wq a b) {x y : S} (hx : Sq x y) : Wq (a ++ [x]) (b ++ [y]) := by
 refine ⟨?_, by simp [h.2]⟩; rw [oA, oA, h.1, hx]
theorem nO {t u : Tok} (op : Int) {nm nm' : ByteArray} {r r' : Rt} {p p' : Pl} {e e' : X} {n n' : Int} {a a' : List X} {b b' c c' : List S} (h1 : nm = nm') (h2 : RqT r r') (h3 : Lq p p') (h4 : XqT e e') (h5 : n = n') (h6 : Aq a a') (h7 : Wq b b') (h8 : Wq c c') :
 Sq (mkS t op nm r p e n a b c) (mkS u op nm' r' p' e' n' a' b' c') := by
 subst h1 h5; simp only [RqT, rtT, Prod.mk.injEq] at h2; obtain ⟨q1, q2, q3, q4⟩ := h2; rw [Sq, S.DV, S.DV]
 show [⟨#[115, 116, 109, 116]⟩, fc op, nm, fc n, fc r.op, r.name, fc a.length] ++ r.e.text ++ r.place.tx ++ p.tx ++ e.text ++ eX a ++ iD b ++ iD c = [⟨#[115, 116, 109, 116]⟩, fc op, nm, fc n, fc r'.op, r'.name, fc a'.length] ++ r'.e.text ++ r'.place.tx ++ p'.tx ++ e'.text ++ eX a' ++ iD b' ++ iD c'
 rw [q1, q2, q3, q4, h6.1, h6.2, h7.row, h8.row, h3, h4]
theorem Wq.nil : Wq [] [] := ⟨rfl, rfl⟩
theorem Aq.nil : Aq [] [] := ⟨rfl, rfl⟩
theorem pj {s s' : S} {l l' : List Tok} (hs : Sq s s') (h : Bq l l') : Pq Sq (gQ s l) (gQ s' l') := (iO _ h).pb fun _ _ l1 l1' _ h1 => .ok hs h1
theorem rY {l l' : List Tok} (h : Bq l l') : (gj l).1 = (gj l').1 ∧ Bq (gj l).2 (gj l').2 := by
 unfold gj; rw [h.hd.k, h.hd.t]; split
 · exact ⟨rfl, h.next⟩
 · exact ⟨rfl, h⟩
theorem yI : ∀ n : Nat, (∀ d {l l'}, Bq l l' → Pq Wq (fX n d l) (fX n d l')) ∧ (∀ d {a a' l l'}, Wq a a' → Bq l l' → Pq Wq (oH n d a l) (oH n d a' l')) ∧
 (∀ d {t u} (nm : ByteArray) {l l'}, Bq l l' → Pq Sq (jI n d t nm l) (jI n d u nm l')) ∧ (∀ d {l l'}, Bq l l' → Pq Sq (mm n d l) (mm n d l'))
 | 0 => by
  refine ⟨fun d l l' h => ?_, fun d a a' l l' _ h => ?_, fun d t u nm l l' h => ?_, fun d l l' h => ?_⟩
  · rw [fX, fX]; exact .none
  · rw [oH, oH]; exact .none
  · rw [jI, jI]; exact .none
  · rw [mm, mm]; exact .none
 | n + 1 => by
  obtain ⟨hB, hW, hL, hS⟩ := yI n; refine ⟨fun d l l' h => ?_, fun d a a' l l' ha h => ?_, fun d t u nm l l' h => ?_, fun d l l' h => ?_⟩
  · rw [fX, fX]
    exact (iO _ h).pb fun t u l1 l1' _ h1 => .down (hW _ .nil h1)
  · rw [oH, oH]
    exact .it h _ (.ok ha h.tail) ((hS d h).pb fun s s' l1 l1' hs h1 => hW _ (ha.add hs) h1)
  · rw [jI, jI]
    exact (ju 3 h).pb fun v w l1 l1' hv h1 => (hB d h1).pb fun b b' l2 l2' hb h2 => .ok (nO _ rfl rfl rfl rfl (by rw [hv.m]) .nil hb .nil) h2
  · rw [mm, mm]
    have k := h.hd.k; have t := h.hd.t; refine .ite (by rw [k]) (.it h.next _ ((iO _ h.next.tail).pb fun _ _ l1 l1' _ h1 => by rw [t]; exact hL d _ h1) ((iO _ h.next).pb fun _ _ l1 l1' _ h1 => (Ag n d h1).pb fun r r' l2 l2' hr h2 => pj (nO _ (by rw [t]) hr rfl rfl rfl .nil .nil .nil) h2)) ?_; refine .it h _ (hL d _ h.tail) ?_; refine .it h _ ((mF n 0 d h.tail).pb fun e e' l1 l1' he h1 => (hB d h1).pb fun b b' l2 l2' hb h2 => .it h2 _ ((hB d h2.tail).pb fun c c' l3 l3' hc h3 => .ok (nO _ rfl rfl rfl he rfl .nil hb hc) h3) (.ok (nO _ rfl rfl rfl he rfl .nil hb .nil) h2)) ?_; refine .it h _ ((hB d h.tail).pb fun b b' l1 l1' hb h1 => .ok (nO _ rfl rfl rfl rfl rfl .nil hb .nil) h1) ?_; refine .ite (by rw [h.isT, h.isT]) ((ju 1 h.next).pb fun v w l1 l1' hv h1 => (iO _ h1).pb fun _ _ l2 l2' _ h2 => (Ag n d h2).pb fun r r' l3 l3' hr h3 => pj (by rw [t]; exact nO _ (by rw [hv.t]) hr rfl rfl rfl .nil .nil .nil) h3) ?_; refine .it h _ ((Ac n d h.tail).pb fun x x' l1 l1' hx h1 => (iO _ h1).pb fun _ _ l2 l2' _ h2 => (mF n 0 d h2).pb fun e e' l3 l3' he h3 => pj (nO _ rfl rfl hx he rfl .nil .nil .nil) h3) ?_; refine .it h _ ((mF n 0 d h.tail).pb fun e e' l1 l1' he h1 => pj (nO _ rfl rfl rfl he rfl .nil .nil .nil) h1) ?_; refine .it h _ (pj (nO _ (rY h.tail).1 rfl rfl rfl rfl .nil .nil .nil) (rY h.tail).2) ?_; refine .it h _ (pj (nO _ (rY h.tail).1 rfl rfl rfl rfl .nil .nil .nil) (rY h.tail).2) ?_; exact .it h _ ((ju 1 h.tail).pb fun v w l1 l1' hv h1 => (ER n d h1).pb fun xs xs' l2 l2' hx h2 => pj (nO _ (by rw [hv.t]) rfl rfl rfl rfl hx .nil .nil) h2) (.bad ..)
abbrev Mq (a b : List Nm) : Prop := a.flatMap nmT = b.flatMap nmT ∧ a.length = b.length
theorem Mq.add {a b : List Nm} (h : Mq a b) {x y : Nm} (hx : Nq x y) : Mq (a ++ [x]) (b ++ [y]) := by
 refine ⟨?_, by simp [h.2]⟩; simp only [List.flatMap_append, h.1, List.flatMap_cons, List.flatMap_nil]; rw [hx]
theorem Mq.row {a b : List Nm} (h : Mq a b) : kU a = kU b := by unfold kU; rw [h.1, h.2]
theorem wA : ∀ (n : Nat) {a a' : List Nm} {l l' : List Tok}, Mq a a' → Bq l l' → Pq Mq (iM n a l) (iM n a' l')
 | 0, _, _, _, _, _, _ => by rw [iM, iM]; exact .none
 | n + 1, a, a', l, l', ha, h => by
  rw [iM, iM]; exact .it h _ (.ok ha h.tail) ((vx h).pb fun f f' l1 l1' hf h1 => (iO _ h1).pb fun _ _ l2 l2' _ h2 => wA n (ha.add hf) h2)
abbrev Cq (a b : Rec) : Prop := a.tx = b.tx
theorem It (n : Nat) {l l' : List Tok} (h : Bq l l') : Pq Cq (yA n l) (yA n l') :=
 (ju 1 h).pb fun t u l1 l1' ht h1 => (iO _ h1).pb fun _ _ l2 l2' _ h2 => (wA n ⟨rfl, rfl⟩ h2).pb fun fs fs' l3 l3' hf h3 => .ok (by simp only [Cq, Rec.tx, ht.t, hf.row]) h3
theorem w5 : ∀ (n : Nat) {a a' : List Nm} {l l' : List Tok}, Mq a a' → Bq l l' → Pq Mq (iu n a l) (iu n a' l')
 | 0, _, _, _, _, _, _ => by rw [iu, iu]; exact .none
 | n + 1, a, a', l, l', ha, h => by
  rw [iu, iu]
  exact (vx h).pb fun f f' l1 l1' hf h1 => .it h1 _ (.ok (ha.add hf) h1.tail) ((iO _ h1).pb fun _ _ l2 l2' _ h2 => w5 n (ha.add hf) h2)
abbrev Uq (a b : Fu) : Prop := a.tx = b.tx
theorem H4 (n : Nat) {l l' : List Tok} (h : Bq l l') : Pq Uq (AW n l) (AW n l') :=
 (ju 1 h).pb fun t u l1 l1' ht h1 => (iO _ h1).pb fun _ _ l2 l2' _ h2 => (Pq.it (R := Mq) h2 _ (.ok ⟨rfl, rfl⟩ h2.tail) (w5 n ⟨rfl, rfl⟩ h2)).pb fun ps ps' l3 l3' hp h3 =>
  ((yI n).1 0 h3).pb fun b b' l4 l4' hb h4 => .ok (by simp only [Uq, Fu.tx, ht.t, hp.row, hb.row]) h4
structure Gq (a b : Pg) : Prop where
 rl : a.fO.length = b.fO.length
 r : a.fO.flatMap Rec.tx = b.fO.flatMap Rec.tx
 g : Mq a.gls b.gls
 fl : a.fQ.length = b.fQ.length
 f : a.fQ.flatMap Fu.tx = b.fQ.flatMap Fu.tx
 tl : a.ths.length = b.ths.length
 t : a.ths.flatMap Th.tx = b.ths.flatMap Th.tx
theorem Gq.tx {a b : Pg} (h : Gq a b) : a.tx = b.tx := by unfold Pg.tx Pg.hd; rw [h.rl, h.r, h.g.row, h.fl, h.f, h.tl, h.t]
theorem fm1 {α β : Type} (f : α → List β) {a b : List α} {x y : α} (h : a.flatMap f = b.flatMap f) (hx : f x = f y) : (a ++ [x]).flatMap f = (b ++ [y]).flatMap f := by
 simp only [List.flatMap_append, h, List.flatMap_cons, List.flatMap_nil, hx]
theorem Hq {α : Type} {a b : List α} {x y : α} (h : a.length = b.length) : (a ++ [x]).length = (b ++ [y]).length := by simp [h]
theorem sZ : ∀ (n m : Nat) {g g' : Pg} {l l' : List Tok}, Gq g g' → Bq l l' → Pq Gq (gz n m g l) (gz n m g' l')
 | 0, _, _, _, _, _, _, _ => by rw [gz, gz]; exact .none
 | n + 1, m, g, g', l, l', hg, h => by
  rw [gz, gz]; refine .ite (by rw [h.hd.k]) (.ok hg h) ?_; refine .it h _ ((It m h.tail).pb fun r r' l1 l1' hr h1 => sZ n m ⟨Hq hg.rl, fm1 _ hg.r hr, hg.g, hg.fl, hg.f, hg.tl, hg.t⟩ h1) ?_; refine .it h _ ((vx h.tail).pb fun r r' l1 l1' hr h1 => (iO _ h1).pb fun _ _ l2 l2' _ h2 => sZ n m ⟨hg.rl, hg.r, hg.g.add hr, hg.fl, hg.f, hg.tl, hg.t⟩ h2) ?_; refine .it h _ ((H4 m h.tail).pb fun r r' l1 l1' hr h1 => sZ n m ⟨hg.rl, hg.r, hg.g, Hq hg.fl, fm1 _ hg.f hr, hg.tl, hg.t⟩ h1) ?_; exact .it h _ (((yI m).1 0 h.tail).pb fun b b' l1 l1' hb h1 => sZ n m ⟨hg.rl, hg.r, hg.g, hg.fl, hg.f, Hq hg.tl, fm1 _ hg.t (by simp only [Th.tx]; exact hb.row)⟩ h1) (.bad ..)
theorem Gq.refl (g : Pg) : Gq g g := ⟨rfl, rfl, ⟨rfl, rfl⟩, rfl, rfl, rfl, rfl⟩
theorem FB {ts us : List Tok} (h : Bq ts us) : (∃ g g' l l', kW ts = .ok g l ∧ kW us = .ok g' l' ∧ g.tx = g'.tx) ∨ ∃ e q q', kW ts = .bad e q ∧ kW us = .bad e q' := by
 have := sZ 10000 100000 (.refl ⟨[], [], [], []⟩) h; unfold kW
 generalize gz 10000 100000 ⟨[], [], [], []⟩ ts = x at *
 generalize gz 10000 100000 ⟨[], [], [], []⟩ us = y at *
 cases this with
 | none => exact .inr ⟨_, _, _, rfl, rfl⟩
 | bad e q q' => exact .inr ⟨_, _, _, rfl, rfl⟩
 | ok h1 h2 => exact .inl ⟨_, _, _, _, rfl, rfl, h1.tx⟩
def txl : List Tok → Nat
 | [] => 0
 | t :: r => t.text.length + txl r
theorem wU : ∀ (k : Nat) (rest : List UInt8) (p : Nat × Nat), rest.length = k → ∀ ts, fM rest p = .ok ts → txl ts ≤ rest.length ∧ ts.length ≤ rest.length + 1 := by
 intro k
 induction k using Nat.strongRecOn with
 | ind k ih =>
  intro rest p hk ts h
  cases rest with
  | nil =>
   rw [lX] at h; obtain rfl := LR.ok.inj h; exact ⟨ao _, ao _⟩
  | cons c l =>
   by_cases hb : eP (c :: l) = 0
   · cases ht : (dp (c :: l)).2.2.2 with
     | false => rw [nM hb ht] at h; cases h
     | true =>
      rw [lY hb ht] at h; have hpos := la ht; have hle := oB c l; have hdl : ((c :: l).drop (dp (c :: l)).2.1).length = (c :: l).length - (dp (c :: l)).2.1 := cF ..
      have htl : ((c :: l).take (dp (c :: l)).2.1).length = (dp (c :: l)).2.1 := by rw [List.length_take]; omega
      cases hr : fM ((c :: l).drop (dp (c :: l)).2.1) (adv ((c :: l).take (dp (c :: l)).2.1) p) with
      | err q => rw [hr] at h; cases h
      | ok ts' =>
       rw [hr] at h; obtain rfl := LR.ok.inj h; have := ih _ (by simp only [ag] at hdl hk; omega) _ _ rfl ts' hr; simp only [txl, je, ag] at this hdl htl hle ⊢; omega
   · rw [jv hb] at h
     have hle := od (c :: l); have hdl : ((c :: l).drop (eP (c :: l))).length = (c :: l).length - eP (c :: l) := cF ..; have := ih _ (by simp only [ag] at hdl hk; omega) _ _ rfl ts h; omega
theorem tY : ∀ ts : List Tok, (fC ts).length = txl ts + ts.length
 | [] => rfl
 | t :: r => by simp only [fC, txl, ay, ag, tY r]; omega
theorem qf {α : Type} (w : α → Nat) : ∀ {l : List α} {x : α}, x ∈ l → w x ≤ (l.map w).sum
 | y :: l, x, h => by
  rcases List.mem_cons.1 h with rfl | h
  · simp only [aW, List.sum_cons]; omega
  · have := qf w h
    simp only [aW, List.sum_cons]; omega
theorem rZ {α : Type} (w : α → Nat) (h : ∀ x, 1 ≤ w x) : ∀ l : List α, l.length ≤ (l.map w).sum
 | [] => ao _
 | x :: l => by
  have := rZ w h l; have := h x
  simp only [aW, List.sum_cons, ag]; omega
theorem vn {α β : Type} (f : α → List β) (w : α → Nat) (h : ∀ x, (f x).length ≤ 40 * w x) : ∀ l : List α, (l.flatMap f).length ≤ 40 * (l.map w).sum
 | [] => ao _
 | x :: l => by
  have := vn f w h l; have := h x
  simp only [aW, List.sum_cons, List.flatMap_cons, ay]; omega
theorem xp {g : Pg} (h : g.sz ≤ 70000) : g.small ∧ g.tx.length ≤ 40 * g.sz + 4 := by
 unfold Pg.sz at h ⊢; have a1 := rZ (fun r : Rec => r.fields.length + 1) (fun _ => by omega) g.fO; have a2 := rZ (fun f : Fu => f.params.length + fv f.body + 1) (fun _ => by omega) g.fQ; have a3 := rZ (fun t : Th => fv t.body + 1) (fun _ => by omega) g.ths; refine ⟨⟨by omega, fun x hx => ?_, by omega, by omega, fun x hx => ?_, fun x hx => ?_, by omega, fun x hx => ?_⟩, ?_⟩
 · have := qf (fun r : Rec => r.fields.length + 1) hx; omega
 · have := qf (fun f : Fu => f.params.length + fv f.body + 1) hx; omega
 · have := qf (fun f : Fu => f.params.length + fv f.body + 1) hx; omega
 · have := qf (fun t : Th => fv t.body + 1) hx; omega
 have b1 := vn Rec.tx (fun r : Rec => r.fields.length + 1) (fun x => by have := jm x.fields; simp only [Rec.tx, ag]; omega) g.fO; have b2 := vn Fu.tx (fun f : Fu => f.params.length + fv f.body + 1) (fun x => by have := jm x.params; have := nV x.body; have := iG x.body; simp only [Fu.tx, ag, ay]; omega) g.fQ; have b3 := vn Th.tx (fun t : Th => fv t.body + 1) (fun x => by have := nV x.body; have := iG x.body; simp only [Th.tx]; omega) g.ths; have b4 := jm g.gls; have b5 : g.hd.length = 3 := rfl; simp only [Pg.tx, ay]; omega
theorem rC {l : List UInt8} : (ic l).1.small ∧ (ic l).1.tx.length ≤ 3000000 := by
 have h0 : pg0.small ∧ pg0.tx.length ≤ 3000000 := ⟨(xp (g := pg0) (by decide)).1, by decide⟩; unfold ic; split
 · rename_i h
   split
   · rename_i g l' e
     have hlen : l.length ≤ 8192 := by
      unfold lW at h; split at h
      · simp at h
      · omega
     have hn : (qP l).length ≤ 8193 := by
      cases hx : fM l (1, 1) with
      | ok ts => rw [(mN hlen hx).1]; have := (wU _ _ _ rfl ts hx).2; omega
      | err q => rw [(qc hlen hx).1]; simp
     have hz := (sX hn).2 g l' e; have := xp hz; exact ⟨this.1, by have := this.2; show g.tx.length ≤ _; omega⟩
   · exact h0
 · exact h0
theorem ux {l : List UInt8} {ts : List Tok} (hl : l.length ≤ 8192) (h : fM l (1, 1) = .ok ts) : ic l = match kW ts with | .ok g _ => (g, 0, 0, 0) | .bad e q => (pg0, e, q.1, q.2) := by
 have := mN hl h; unfold ic; rw [this.1, this.2]
 rfl
theorem HB {l l' : List UInt8} {ts us : List Tok} (hl : l.length ≤ 8192) (hl' : l'.length ≤ 8192) (h : fM l (1, 1) = .ok ts) (h' : fM l' (1, 1) = .ok us) (hq : Bq ts us) :
 (ic l).2.1 = (ic l').2.1 ∧ (ic l).1.tx = (ic l').1.tx := by
 rw [ux hl h, ux hl' h']
 rcases FB hq with ⟨g, g', k, k', e, e', ht⟩ | ⟨e, q, q', h1, h2⟩
 · rw [e, e']; exact ⟨rfl, ht⟩
 · rw [h1, h2]; exact ⟨rfl, rfl⟩
theorem IJ {ts : List Tok} {i : Nat} {c : Cap} (k : IntKind) (h : i < ts.length) : bJ Tryz.prog 65 (.sl (az ts) c) (.v (.int k (i : Int))) = some (.fp (Tok.c ts[i]) 0) := by
 rw [Ie]
 have h1 : dv (i : Int) (az ts).length = true := by simp [dv, gu, h]
 rw [h1, cond_true, Int.toNat_natCast, az, List.getElem?_map, cP h]
 rfl
theorem AE {ts : List Tok} (l : List UInt8) (hM : (fC ts).length < 1000000) (hlen : ts.length < 1000000) {X : St} {N T Lb : Nat} (hN : X.stk.length = N) (hT : X.tk.length = T) (hL : X.lp.length = Lb) : ∀ (b a : List Tok), ts = a ++ b →
 itE (S7.b0 (E L) itE N Lb) [str l, .v (.bool false), str (fC a), .sl (az ts) .dead, .v (.int .i64 (ts.length : Int)), .v (.int .i64 (a.length : Int))] (X.app [] [] []) = some (.exit 0, [str l, .v (.bool false), str (fC ts), .sl (az ts) .dead, .v (.int .i64 (ts.length : Int)), .v (.int .i64 (ts.length : Int))], X.app [] [] []) := by
 intro b
 induction b with
 | nil =>
  intro a h; rw [List.append_nil] at h; subst h; apply fk; simp [S7.b0, cZ, cy, bX, bY, cz, eI, fu, dX, di, dV, de, dW, dh, ft, bZ, hZ, dR, ib, gU, gN, AM.aa, aN, aO, ah, bf, aP, aw, AM.onG, fR, bH, dw, Ex.ba, cond_true, cond_false, cV, cU, cT, cS, cR, cX, cQ, cY, cW, dY, dj, dm, cx, da, AM.du, AM.cellsOf, AM.an, bQ, beq_true, dr, ag, aC, bj, bx, bU, decide_true, decide_false, bI, bn, br, bD, bg, aB, aA, bh, aD, db, dc, fm, av, bE, aY, bR, cC, dQ, dT, cL, eB, eA, set_set, eG, dB, fI, dC, cI, bK, dA, cH, dz, cG, dy, eF, eH, fE, fF, bO, cv, eu, fD, dZ, aZ, hN, hT, hL, aT, aI, AM.aS, ai, dt, bW, aW, bc, aL, aK, AM.part, aQ, aM, cc, cn, cm, cr, cr.eT, AM.dM, bu, bV, dG]
 | cons t b ih =>
  intro a h
  have hlt : a.length < ts.length := by rw [h]; simp
  have hlt' : (a.length : Int) < (ts.length : Int) := by omega
  have hx := IJ (c := .dead) .i64 hlt
  have hat : ts[a.length] = t := by simp [h]
  rw [hat] at hx
  have w1 : IntKind.i64.wrap ((a.length : Int) + 1) = ((a.length + 1 : Nat) : Int) := by rw [IntWalk.i64_in _ (by omega)]; omega
  have hb : (fC a).length + (t.text.length + 1) ≤ (fC ts).length := by rw [h, mE]; simp [fC]
  have s1 : ∀ cst, aJ Tryz.prog cst .add 9 (str (fC a)) (str t.text) = some (str (fC a ++ t.text)) := fun cst => FO (by omega)
  have s2 : ∀ cst, aJ Tryz.prog cst .add 9 (str (fC a ++ t.text)) (str [10]) = some (str (fC (a ++ [t]))) := fun cst => by
   rw [FO (by simp only [ay, bC]; omega), mE]; simp [fC]
  rw [bP (vs' := [str l, .v (.bool false), str (fC (a ++ [t])), .sl (az ts) .dead, .v (.int .i64 (ts.length : Int)), .v (.int .i64 ((a ++ [t]).length : Int))]) (st' := X.app [] [] [])]
  · exact ih (a ++ [t]) (by rw [h]; simp)
  · rw [ay, bC]
    generalize ((a.length + 1 : Nat) : Int) = j at w1 ⊢; simp only [Tok.c, bw] at hx; simp [S7.b0, cZ, cy, bX, bY, cz, eI, fu, dX, di, dV, de, dW, dh, ft, bZ, hZ, dR, ib, gU, gN, AM.aa, aN, aO, ah, bf, aP, aw, AM.onG, fR, bH, dw, Ex.ba, cond_true, cond_false, cV, cU, cT, cS, cR, cX, cQ, cY, cW, dY, dj, dm, cx, da, AM.du, AM.cellsOf, AM.an, bQ, beq_true, dr, ag, aC, bj, bx, bU, decide_true, decide_false, bI, bn, br, bD, bg, aB, aA, bh, aD, db, dc, fm, av, bE, aY, bR, cC, dQ, dT, cL, eB, eA, set_set, eG, dB, fI, dC, cI, bK, dA, cH, dz, cG, dy, eF, eH, fE, fF, bO, cv, eu, fD, dZ, aZ, hN, hT, hL, aT, aI, AM.aS, ai, dt, bW, aW, bc, aL, aK, AM.part, aQ, aM, cc, cn, cm, cr, cr.eT, AM.dM, bu, bV, hlt', hx, w1, s1, s2, laid, aH, dG, eI]
section
attribute [local simp] cZ cy bX bY cz eI fu dX di dV de dW dh ft bZ hZ dR ib gU gN AM.aa aN aO bf aP aw AM.onG fR bH dw Ex.ba cond_true cond_false cV cU cT cS cR cX cQ cY cW dY dj dm cx da AM.du AM.cellsOf AM.an bQ beq_true dr ag aC bj bx bU decide_true decide_false bI bn br bD bg aB aA bh aD db dc fm av bE aY bR cC dQ dT cL eB eA set_set eG dB fI dC cI bK dA cH dz cG dy eF eH fE fF bO cv eu fD dZ aZ aT aI AM.aS ai dt bW aW bc aL aK AM.part aQ aM cc cn cm cr cr.eT AM.dM bu bV eg gm aZ laid aH bm cq
attribute [-simp] ah
attribute [local congr] ej
theorem kB (s : ByteArray) (st : St) : E L (.func 7) [.v (.string s)] st = some (.v (.bool true), st) := by
 obtain ⟨l, rfl⟩ : ∃ l, s = bs l := ⟨s.data.toList, (AJ s).symm⟩
 rw [HZ]; obtain ⟨N, T, Lb, hN, hT, hL⟩ := lens3 st
 conv => lhs; rw [← al (st)]
 by_cases hl : 8192 < l.length
 · have hl' : (8192 : Int) < (l.length : Int) := by omega
   simp [S7, hN, hT, hL, uQ, dH, hl']
 have hl' : ¬ ((8192 : Int) < (l.length : Int)) := by omega
 have e26 : ∀ X, E L (.func 26) [str l] X = _ := Gn (by omega)
 cases hx : fM l (1, 1) with
 | err q =>
  obtain ⟨h1, h2⟩ := qc (by omega) hx; rw [h1, h2] at e26; simp only [az, bc] at e26; simp [S7, hN, hT, hL, uQ, dH, hl', e26, bm, cq]
 | ok ts =>
  obtain ⟨h1, h2⟩ := mN (by omega) hx; rw [h1, h2] at e26; have hc := wU _ _ _ rfl ts hx; have hbl := tY ts; have hit := AE (ts := ts) l (by omega) (by omega) hN hT hL ts [] rfl; have hll := gu ts; simp only [fC, aC, eD] at e26 hit
  by_cases hb : 8192 < (fC ts).length
  · have hb' : (8192 : Int) < ((fC ts).length : Int) := by omega
    generalize ts.length = n at *
    generalize az ts = es at *
    simp [S7, hN, hT, hL, uQ, dH, hl', hb', e26, hit, CZ, hll, bm, cq]
  · have hb' : ¬ ((8192 : Int) < ((fC ts).length : Int)) := by omega
    obtain ⟨ms, g1, g2, g3, g4⟩ := Cg hx (by omega)
    have hy : fM (fC ts) (1, 1) = .ok ms := by
     cases hy : fM (fC ts) (1, 1) with
     | ok us => rw [← g1, (mN (by omega) hy).1]
     | err q => rw [(qc (by omega) hy).2] at g2; simp at g2
    have hsq := HB (by omega) (by omega) hx hy g3.symm; have p1 := rC (l := l); have p2 := rC (l := fC ts)
    have f1 : ∀ X, E L (.func 20) [str l] X = _ := uR (by omega)
    have f2 : ∀ X, E L (.func 20) [str (fC ts)] X = _ := uR (by omega)
    generalize ic l = P1 at *
    generalize ic (fC ts) = P2 at *
    obtain ⟨G1, c1, q1⟩ := P1; obtain ⟨G2, c2, q2⟩ := P2; obtain ⟨r1, r2⟩ := hsq; simp only at r1 r2 p1 p2 f1 f2; subst r1
    have x1 : ∀ X, E L (.func 23) [nF G1] X = _ := w9 G1 p1.1
    have x2 : ∀ X, E L (.func 23) [nF G2] X = _ := w9 G2 p2.1
    rw [← r2] at x2
    have x3 : ∀ X, E L (.func 22) [.sl (strs G1.tx) .dead, .sl (strs G1.tx) .dead] X = _ := HE G1.tx G1.tx (by have := p1.2; omega)
    rw [decide_eq_true rfl] at x3; simp only [nF, pgC, AV] at f1 f2 x1 x2
    generalize fC ts = bt at *
    generalize ts.length = n at *
    generalize az ts = es at *
    simp [S7, hN, hT, hL, uQ, dH, hl', hb', e26, hit, CZ, hll, f1, f2, x1, x2, x3, bm, cq]
end
end Go.Proofs.YtlhlijaondmccaaGreatDoor.S
namespace Go.Proofs.YtlhlijaondmccaaGreatDoor
open Go Go.AM Go.ChangeShapes Go.WideShapes Go.ChangeAt Go.RowKit
theorem own : ownKnob Tryz.prog.godebug = none := by kernel_rfl
theorem tK {H : Type} {enc : TypeId × Value → H} {a : Assume} {C : Checked} {os : Os} {f : FuncId} {fn : Func} {s : ChangeSpec} {conds : List PathCond} {apart fresh handsOn again : Bool} {X : World → Array Value → Prop}
 (hX : ∀ (w w' : World) (args : Array Value), w.heap = w'.heap → X w args → X w' args)
 (own : ownKnob C.prog.godebug = none) (started : os.Started) (noInit : C.prog.inits.idxOf? f = none) (hfn : C.prog.funcs[f]? = some fn)
 (witness : ∃ (w : World) (tape : Tape) (i : Input), w.os = os ∧ (w.forCall tape i).Shaped C.prog ∧ i.vars = [] ∧ Input.okWide C.prog (w.forCall tape i) .any w.heap.size f i ∧
  ((s.pre enc C.prog fn conds apart (w.forCall tape i).memory i.args ∧ X (w.forCall tape i).memory i.args) ∧ sizedMet enc C.prog fn (OpenSpec.ofChange s) apart (w.forCall tape i).memory i.args) ∧ a.holds C.prog (lone (Frame.enter C.prog f i.args .normal) [] (w.forCall tape i)))
 (contract : ∀ (W : World) (base : Nat) (args : Array Value) (ds gs : List (DataW H)) (before : List MemPlace),
  (∀ (j : Nat) t v, fn.params[j]? = some t → args[j]? = some v → Value.okWide C.prog W .any base t v) →
  DataW.Whole enc C.prog fn.params.toList s.vars apart W args.toList ds gs before → X W args → W.ShapedOpen C.prog →
  Calls C.prog f args W fun e W' => ∃ v, e = .returned v ∧ s.post enc C.prog fn apart fresh handsOn again W args v W') :
 ReturnsInHanded a C os f .any (fun w args => (s.pre enc C.prog fn conds apart w args ∧ X w args) ∧ sizedMet enc C.prog fn (OpenSpec.ofChange s) apart w args) (s.post enc C.prog fn apart fresh handsOn again) := by
 refine returnsInHanded_of_calls own started noInit witness ?_; intro w tape i _ hsh _ hok hpre _; obtain ⟨_, _, _, fn', hfn', _, _, _, _, hval⟩ := hok; have e : fn' = fn := Option.some.inj (hfn'.symm.trans hfn); subst e; obtain ⟨⟨⟨ds, gs, before, hw, hc⟩, hx⟩, hz⟩ := hpre; have hw' := DataW.Whole.of_heap (w' := w.forCall tape i) (by rfl) hw
 refine (contract (w.forCall tape i) w.heap.size i.args ds gs before hval hw' (hX _ _ _ (by rfl) hx) hsh).mono fun e W' ⟨v, he, hp⟩ => ?_
 subst he; exact ChangeSpec.post_blind hp
theorem H6 : Tryz.prog.globalNamed "strconv.ErrSyntax" = some 4 := by kernel_rfl
theorem H5 : Tryz.prog.globalNamed "strconv.ErrRange" = some 5 := by kernel_rfl
theorem Iy : (Tryz.prog.globals[4]?).map (·.type) = some 128 := by kernel_rfl
theorem Ix : (Tryz.prog.globals[5]?).map (·.type) = some 128 := by kernel_rfl
theorem II : Tryz.prog.globalNamed "internal/strconv.uint64pow10" = some 0 := by kernel_rfl
theorem Iz : (Tryz.prog.globals[0]?).map (·.type) = some 185 := by kernel_rfl
theorem star : "*errors.errorString" = "*" ++ "errors.errorString" := by decide
theorem Gi (u : TypeId) (h : Tryz.prog.typeName? 3 u = some "*errors.errorString") : u = 230 :=
 typeName_ptr_named (nm := "errors.errorString") (by rw [← star]; kernel_rfl) (by kernel_rfl) (by decide) u (by rw [← star]; exact h)
theorem zs {W : World} {g o : Nat} {v : Value} (h : W.cell? ⟨g, o, none⟩ = some v) : g < W.heap.size := by
 unfold World.cell? at h
 cases hb : W.heap[g]? with
 | none => simp [hb] at h
 | some x => exact (Array.getElem?_eq_some_iff.1 hb).1
theorem Hm {W : World} (hs : W.ShapedOpen Tryz.prog) (hL : laidMetH Tryz.prog Rows.parseBlanksRow.laid W) : ∃ gv : GV, S.Gvs gv ∧ nr gv W (Cw W) := by
 rw [MakeChecks.laidMetH_plain _ _ _ (by kernel_rfl)] at hL
 have hT : Lib.TabIs Tryz.prog W "internal/strconv.uint64pow10" .u64 Lib.pow10Tab := Lib.tabIs_of_head II Iz Tryz.underlying185 Tryz.underlying34 (by kernel_rfl) (by kernel_rfl) hL.tail.tail
 obtain ⟨a1, s1, hv1, _⟩ := laid_sentinel hL.tail.tail.tail H5 Ix Tryz.underlying128 Gi Tryz.underlying230 Tryz.underlying232 rfl rfl Tryz.underlying9 (by kernel_rfl) (by kernel_rfl); obtain ⟨a2, s2, hv2, _⟩ := laid_sentinel hL.tail.tail.tail.tail H6 Iy Tryz.underlying128 Gi Tryz.underlying230 Tryz.underlying232 rfl rfl Tryz.underlying9 (by kernel_rfl) (by kernel_rfl); obtain ⟨m, hm⟩ := cell_of_shapedOpen_int (g := 3) (k := .i64) (zero := #[.int .i64 0]) (t := 3) hs (of_decide_eq_true (by kernel_rfl)) (by kernel_rfl) rfl (by kernel_rfl) (by kernel_rfl) Tryz.underlying3
 have c1 : W.cell? ⟨4, 0, none⟩ = some (.iface 230 (.pointer (some a2))) := by simpa using World.var?_cell H6 hv2 0
 have c2 : W.cell? ⟨5, 0, none⟩ = some (.iface 230 (.pointer (some a1))) := by simpa using World.var?_cell H5 hv1 0
 refine ⟨⟨fun g o => if g < 6 ∧ o = 0 then W.cell? ⟨g, o, none⟩ else none, W⟩, ⟨⟨m, ?_⟩, ⟨.iface 230 (.pointer (some a2)), ?_, .inr ⟨230, .pointer (some a2), rfl⟩⟩, ⟨.iface 230 (.pointer (some a1)), ?_, .inr ⟨230, .pointer (some a1), rfl⟩⟩, hT, ?_⟩, fun g o v h => ?_, ao _, Below.refl _ _⟩
 · show (if 3 < 6 ∧ 0 = 0 then W.cell? ⟨3, 0, none⟩ else none) = _
   rw [if_pos (by omega)]; exact hm
 · show (if 4 < 6 ∧ 0 = 0 then W.cell? ⟨4, 0, none⟩ else none) = _
   rw [if_pos (by omega)]; exact c1
 · show (if 5 < 6 ∧ 0 = 0 then W.cell? ⟨5, 0, none⟩ else none) = _
   rw [if_pos (by omega)]; exact c2
 · exact zs c2
 · have h' : (if g < 6 ∧ o = 0 then W.cell? ⟨g, o, none⟩ else none) = some v := h
   split at h'
   · exact ⟨zs h', h'⟩
   · cases h'
theorem Cy (os : Os) (args : Array Value) : laidMetH Tryz.prog Rows.parseBlanksRow.laid ((World.doorLaid Tryz.prog 128 os).forCall (fun _ _ => 0) ⟨#[], args, []⟩).memory :=
 laidMetH_of_parts3 (fuel := 8) (laidMet_of_run' 65 (by kernel_rfl) (by kernel_rfl)) (by kernel_rfl) (by kernel_rfl)
end Go.Proofs.YtlhlijaondmccaaGreatDoor
namespace Go.Proofs.YtlhlijaondmccaaGreatDoor.Pure
open Go Go.AM Go.Proofs
theorem kB (s : ByteArray) : ∃ k st', evF S.L k (.func 7) [.v (.string s)] st0 = some (.v (.bool true), st') := by
 obtain ⟨k, hk⟩ := HP (S.kB s st0); exact ⟨k, st0, hk⟩
end Go.Proofs.YtlhlijaondmccaaGreatDoor.Pure
namespace Go.Proofs.YtlhlijaondmccaaGreatDoor.rB
open Go Go.AM Go.ChangeShapes Go.WideShapes Go.ChangeAt Go.RowKit
open Go.ChangeMaps (open_string shut_string)
theorem lifted (os : Os) (started : os.Started) (H : Type) (enc : TypeId × Value → H) :
 ReturnsInHanded {} Tryz.checked os 7 .any (fun w args => (Rows.parseBlanksSpec.pre enc Tryz.prog Tryz.f7 [] false w args ∧ laidMetH Tryz.prog Rows.parseBlanksRow.laid w) ∧ sizedMet enc Tryz.prog Tryz.f7 (OpenSpec.ofChange Rows.parseBlanksSpec) false w args)
  (Rows.parseBlanksSpec.post enc Tryz.prog Tryz.f7 false true false false) := by
 refine tK (C := Tryz.checked) (X := fun w _ => laidMetH Tryz.prog Rows.parseBlanksRow.laid w) (fun _ _ _ hh h => h.of_heap hh) own started (by kernel_rfl) Tryz.func7
  (ChangeSpec.witness_shaped (enc := enc) (C := Tryz.checked) (os := os) (X := fun w _ => laidMetH Tryz.prog Rows.parseBlanksRow.laid w) false (World.doorLaid Tryz.prog 128 os) #[.string ByteArray.empty] 8 rfl (World.shaped_of_RefB (by kernel_rfl) (by kernel_rfl)) (by kernel_rfl) (by kernel_rfl) (by kernel_rfl) (Cy os _)) ?_
 intro W base args ds gs before hval0 hW hL hshape
 have hval : ∀ (j : Nat) t v, Tryz.f7.params[j]? = some t → args[j]? = some v → Value.okWide Tryz.prog W .any base t v := hval0
 have hW' := hW; obtain ⟨p, q, hA0, hV, rfl, hfz, hnd⟩ := hW; have hA : DataW.TrodAll enc Tryz.prog W 0 (fun _ => true) true Tryz.f7.params.toList args.toList ds p := hA0; rw [Tryz.params7] at hA hval; obtain ⟨v0, vs0, d0, ds0, p0, q0, hargs, rfl, rfl, h0, r0⟩ := trodAll_cons hA; obtain ⟨rfl, rfl, rfl⟩ := trodAll_nil r0
 obtain rfl : args = #[v0] := by cases args; simp_all
 obtain ⟨rfl, rfl⟩ := trodVars_none hV; obtain ⟨a0, rfl, rfl, rfl, y0⟩ := open_string Tryz.underlying9 (hval 0 9 v0 rfl rfl) h0; clear hA0 hval0; obtain ⟨gv, hgv, hgi⟩ := Hm hshape hL; obtain ⟨kf, st', hev⟩ := Pure.kB a0
 refine (AY (xs := #[.string a0]) (S.ok hgv) hev hgi rfl ?_).mono fun e W' ⟨he, bel⟩ => ?_
 · intro i x p hx hp
   match i, hx, hp with
   | 0, hx, hp => cases hx; cases hp; exact FJ _ _ _
   | i + 1, hx, hp => simp at hx
 subst he; exact ⟨_, rfl, _, _, _, [], _, [], hW', trodAll_mk1 (shut_bool Tryz.underlying4 _), (trodAll_cons_mk (shut_string Tryz.underlying9 y0) trodAll_mk0), rfl, bel.frame _, fun h => by cases h⟩
theorem over : Rows.parseBlanksRow.holds Tryz.pinned (OpenSpec.ofChange Rows.parseBlanksSpec) :=
 OpenClaim.holds_of_wide 7 Tryz.f7 rfl rfl rfl rfl rfl rfl rfl ⟨rfl, rfl, rfl, rfl, rfl⟩ rfl rfl rfl rfl rfl (by kernel_rfl) Tryz.func7 (by kernel_rfl)
  (of_decide_eq_true (by kernel_rfl)) (by unfold Func.isWrapper; first | (rw [if_pos (by decide +kernel)]; kernel_rfl) | (rw [if_neg (by decide +kernel)]; exact ⟨rfl, rfl⟩))
  (fun os started H enc _ => lifted os started H enc)
theorem H3 : Rows.ParseBlanksCardSaid :=
 Claim7.holds_tied_plain_at .later [] [.data, .data, .data, .sentinel, .sentinel] true (true, "4b081b2d0e68a4549e9a20eea754eccd794c0f4fa15186553da4b61523f2fafe") true
  over (fun _ h => by cases h) (by kernel_rfl) (fun _ h => by cases h) parseBlanks_row_tie rfl ⟨rfl, rfl⟩ (by kernel_rfl) rfl
  (fun f fn hf hfn => by
   obtain rfl : f = 7 := Option.some.inj ((show Tryz.prog.funcNamed "padlock/padlocklaw05.ParseBlanks" = some 7 by kernel_rfl).symm.trans hf) |>.symm
   obtain rfl : fn = Tryz.f7 := (Option.some.inj (Tryz.func7.symm.trans hfn)).symm
   exact ⟨by kernel_rfl, fun j t ht => by
    rw [Tryz.params7] at ht
    have hm : t ∈ [9] := by simpa using Array.mem_of_getElem? ht
    have hall : ([9].all fun u => !Tryz.prog.wantsStandIn u) = true := by kernel_rfl
    exact (show Tryz.prog.wantsStandIn t = false by simpa using dK.1 hall t hm)⟩)
  (by kernel_rfl)
#print axioms H3
end Go.Proofs.YtlhlijaondmccaaGreatDoor.rB
namespace Go.Proofs.YtlhlijaondmccaaGreatDoor
theorem parseBlanks_holds : Rows.ParseBlanksCardSaid := rB.H3
end Go.Proofs.YtlhlijaondmccaaGreatDoor
