/- Part 6 of the proof of a law of the parser, its names made short by a program. No condition. -/
import Derived.Test.YtlhlijaondmccaaDoorB5
import Derived.KernelRfl
import Derived.Test.YtlhlijaondmccaaDoorRows
import Derived.WalkKit
import Derived.ProofKit
import Derived.LaidMore
import Derived.LaidLaws
import Derived.MakeChecks
import Derived.Stop.Joined
import Derived.Stop.LaidErr
import Derived.Lib.LaidTab
import Derived.OpenShut
import Derived.ShutString
import Derived.ChangeOld
import Derived.Below
import Derived.SizedLaws
import Derived.DataOpen
import Derived.ChangeSlices
import Derived.Test.YtlhlijaondmccaaDoorCards
import Derived.Test.YtlhlijaondmccaaDoorTie
import Derived.SevenTiedAt
set_option linter.all false
set_option maxRecDepth 100000
set_option maxHeartbeats 4000000
open _root_.Bool renaming and_eq_true → ao, and_self → bq, and_true → bL, false_eq_true → ab, not_false → ba, not_true → bA, true_and → bB
open _root_.Int renaming cast_ofNat_Int → aa, natCast_zero → ic
open _root_.List renaming all_cons → bC, all_eq_true → dG, all_nil → cr, cons_append → aw, drop_nil → cf, drop_succ_cons → aM, drop_zero → bm, getD_cons_succ → aQ, getD_cons_zero → aR, getElem?_cons_succ → az, getElem?_cons_zero → aC, isPrefixOf → ij, length_append → bM, length_cons → al, length_drop → fY, length_nil → aF, length_singleton → bG, map_cons → aX, map_nil → aS, modify_succ_cons → aN, modify_zero_cons → aO, nil_append → aZ, take_left → bK, take_nil → bR, take_succ_cons → aA, take_zero → bu, toList_toArray → aU
open _root_.Nat renaming add_zero → bz, beq → ai, ble → dr, blt → fJ, le_refl → aq, reduceAdd → bS, zero_add → bf
open _root_.Option renaming bind_none → bg, bind_some → ag, map_some → aP
namespace Go.Proofs.YtlhlijaondmccaaDoor.S
open Go Go.AM Go.Proofs
attribute [local simp] da cD bT bU cE fc fw ef dj ec dh ed di fv bV gZ dW hI gV gO AM.ae aQ aR bg aP aD AM.onG fP cc eB Ex.bh cond_true cond_false cW cV cU cT cS cY cR cZ cX eg dm dp cC db AM.dt AM.cellsOf AM.an bQ beq_true cM al aF bf bz bS decide_true decide_false bL bB bq bA ba aC az aZ aw dc de ft aA bK bu bR cz dV dZ cK eA ew set_set eD dD fM dE cI bD dC dB cH dA eC eE fG fH bE cm ep fF dP aL aU aE AM.aT ah cQ bO aX aS aO aN AM.part bm aM cf cj cg cd cd.eO AM.dM bC cr dI fE aL laid aH bc cv
attribute [-simp] ag
attribute [local congr] dJ
abbrev z4 : List PV := [.sl [] .nil, .sl [] .nil, .sl [] .nil, .sl [] .nil]
def lT (ts : List Tok) (d : Nat) (g : Pg) (l : List Tok) (x : PR Pg) : Prop := match x with
 | .ok g' l' => Sfx ts l' ∧ ∀ b (Y : St), b < Y.stk.length → ∀ N T Lb, Y.stk.length = N → Y.tk.length = T → Y.lp.length = Lb → ∀ c1 c2 c3 c4 tk, jm T tk c1 c2 c3 c4 g → ∃ k1 k2 k3 k4 P tk',
  itE (S26.b0 (E L) itE N Lb) [.ptr false b 0, .ptr false N 0, .ptr false (N + 1) 0] ((Y.af false b (pc ts l d)).app [⟨z4, []⟩, ⟨pgC g c1 c2 c3 c4, []⟩] tk []) =
   some (.ret, [.ptr false b 0, .ptr false N 0, .ptr false (N + 1) 0], (Y.af false b (pc ts l' d)).app [⟨pgC g' k1 k2 k3 k4, []⟩, ⟨P, []⟩] tk' [])
 | .bad er p => ∃ a' d'', ∀ b (Y : St), b < Y.stk.length → ∀ N T Lb, Y.stk.length = N → Y.tk.length = T → Y.lp.length = Lb → ∀ c1 c2 c3 c4 tk, jm T tk c1 c2 c3 c4 g → ∃ P0 P1 tk',
  itE (S26.b0 (E L) itE N Lb) [.ptr false b 0, .ptr false N 0, .ptr false (N + 1) 0] ((Y.af false b (pc ts l d)).app [⟨z4, []⟩, ⟨pgC g c1 c2 c3 c4, []⟩] tk []) =
   some (.pan 92 (.agg #[]), [.ptr false b 0, .ptr false N 0, .ptr false (N + 1) 0], (Y.af false b (pcf (ax ts) a' d'' er p.1 p.2)).app [⟨P0, []⟩, ⟨P1, []⟩] tk' [])
theorem j9 (m : Nat) (es : List (List PV)) (c : Cap) : sf true m 4 (.sl es c) = c.sf true m := rfl
theorem jm.sfs {T : Nat} {tk : List (Nat × Nat)} {c1 c2 c3 c4 : Cap} {g : Pg} (h : jm T tk c1 c2 c3 c4 g) (m : Nat) : c1.sf true m = true ∧ c2.sf true m = true ∧ c3.sf true m = true ∧ c4.sf true m = true :=
 ⟨h.o1.sfc m, h.o2.sfc m, h.o3.sfc m, h.o4.sfc m⟩
section
variable {ts : List Tok} (hr : Row ts)
include hr
theorem Bh {d : Nat} {g : Pg} {l : List Tok} {x : PR Pg} (h : Sfx ts l) (k0 : (hd l).kind = 0) (hx : some (.ok g l) = some x) : lT ts d g l x := by
 obtain rfl := Option.some.inj hx; refine ⟨h, fun b Y hb N T Lb hN hT hL c1 c2 c3 c4 tk ho => ⟨c1, c2, c3, c4, pgC g c1 c2 c3 c4, tk, ?_⟩⟩; have e67 := ay (dH h d 0 0 0 (b := b)) (s := Y) hb; obtain ⟨f1, f2, f3, f4⟩ := ho.sfs (N + 2)
 have hb2 : b < N + 2 := by omega
 simp only [pc, pcf, aJ, Tok.c, bj, jq, hU, hZ, lU, cq, nmC, aa, if_true, if_false, ab, k0] at e67 ⊢
 generalize ax ts = es at *
 apply eK; simp [S26.b0, hN, hT, hL, hb, hb2, e67, k0, f1, f2, f3, f4, cu, aY, jt, fT, AM.cy, AM.eL, chunks, Ex.bh, fm, fc, j9]
theorem vf {d : Nat} {g : Pg} {l : List Tok} {x : PR Pg} (hd0 : d = 0) {n m : Nat} (hm : m ≤ 1000000) (ih : qO ts m) (hg : g.hM.length < 1000000) (ihp : ∀ g2 l x, g2.hM.length + g2.gls.length + g2.gY.length + g2.ths.length = g.hM.length + g.gls.length + g.gY.length + g.ths.length + 1 → Sfx ts l → fQ n m g2 l = some x → lT ts d g2 l x) (h : Sfx ts l) (k0 : (hd l).kind ≠ 0)  (pk : isT l [114, 101, 99, 111, 114, 100] = true) (hx : (pb (zl m l.tail) fun r l1 => fQ n m { g with hM := g.hM ++ [r] } l1) = some x) : lT ts d g l x := by
 have k0' : ¬ (((hd l).kind : Int) = 0) := by omega
 have s0 := h.isT hr pk; obtain ⟨y, hy⟩ := dw hx; rw [hy] at hx; have h2 := EC hr (d := d) hm s0 hy
 cases y with
 | bad er q =>
  obtain rfl := bJ hx rfl; obtain ⟨a', d'', eb⟩ := bn h2 rfl; refine ⟨a', d'', fun b Y hb N T Lb hN hT hL c1 c2 c3 c4 tk ho => ⟨z4, pgC g c1 c2 c3 c4, tk, ?_⟩⟩; have eb := eb hb; have e67 := ay (dH h d 0 0 0 (b := b)) (s := Y) hb; have f_0 := ay (aB hr h d [114, 101, 99, 111, 114, 100] (b := b)) (s := Y) hb; have eb := eb; obtain ⟨f1, f2, f3, f4⟩ := ho.sfs (N + 2)
  have hb2 : b < N + 2 := by omega
  simp only [pc, pcf, aJ, Tok.c, bj, jq, hU, hZ, lU, cq, nmC, aa, if_true, if_false, ab, pk] at e67 f_0 eb ⊢
  generalize ax ts = es at *
  apply iE; simp [S26.b0, hN, hT, hL, hb, hb2, e67, f_0, eb, pk, f1, f2, f3, f4, k0, k0', cu, aY, jt, fT, AM.cy, AM.eL, chunks, Ex.bh, fm, fc, j9]
 | ok r l1 =>
  have hx := cx hx rfl
  try dsimp only at hx
  have s1 := br h2 rfl; have h4 := ihp _ l1 x (by simp only [bM, bG]; omega) s1 hx
  have stp : ∀ b (Y : St), b < Y.stk.length → ∀ N T Lb, Y.stk.length = N → Y.tk.length = T → Y.lp.length = Lb → ∀ c1 c2 c3 c4 tk, jm T tk c1 c2 c3 c4 g → ∃ c' tk', jm T tk' c' c2 c3 c4 { g with hM := g.hM ++ [r] } ∧
   S26.b0 (E L) itE N Lb [.ptr false b 0, .ptr false N 0, .ptr false (N + 1) 0] ((Y.af false b (pc ts l d)).app [⟨z4, []⟩, ⟨pgC g c1 c2 c3 c4, []⟩] tk []) = some (.normal, [.ptr false b 0, .ptr false N 0, .ptr false (N + 1) 0], (Y.af false b (pc ts l1 d)).app [⟨z4, []⟩, ⟨pgC { g with hM := g.hM ++ [r] } c' c2 c3 c4, []⟩] tk' []) := by
   intro b Y hb N T Lb hN hT hL c1 c2 c3 c4 tk ho; obtain ⟨c', tk', ea, ho'⟩ := ho.g1 (b := b) (cs := pc ts l1 d) hT r hg; refine ⟨c', tk', ho', ?_⟩; have e67 := ay (dH h d 0 0 0 (b := b)) (s := Y) hb; have f_0 := ay (aB hr h d [114, 101, 99, 111, 114, 100] (b := b)) (s := Y) hb; have e2 := aK h2 rfl hb; have ea := ea; obtain ⟨f1, f2, f3, f4⟩ := ho.sfs (N + 2); obtain ⟨f1', f2', f3', f4'⟩ := ho'.sfs (N + 2)
   have hb2 : b < N + 2 := by omega
   simp only [pc, pcf, aJ, Tok.c, bj, jq, hU, hZ, lU, cq, nmC, aa, if_true, if_false, ab, pk] at e67 f_0 e2 ea ⊢
   generalize ax ts = es at *
   simp [S26.b0, hN, hT, hL, hb, hb2, e67, f_0, e2, ea, pk, f1, f2, f3, f4, f1', f2', f3', f4', k0, k0', cu, aY, jt, fT, AM.cy, AM.eL, chunks, Ex.bh, fm, fc, j9]
  cases x with
  | ok g' l' =>
   refine ⟨h4.1, fun b Y hb N T Lb hN hT hL c1 c2 c3 c4 tk ho => ?_⟩; obtain ⟨c', tk1, ho1, hs⟩ := stp b Y hb N T Lb hN hT hL c1 c2 c3 c4 tk ho; obtain ⟨k1, k2, k3, k4, P, tk', hit⟩ := h4.2 b Y hb N T Lb hN hT hL c' c2 c3 c4 tk1 ho1; exact ⟨k1, k2, k3, k4, P, tk', (bW hs).trans hit⟩
  | bad er p =>
   obtain ⟨a', d'', h4⟩ := h4; refine ⟨a', d'', fun b Y hb N T Lb hN hT hL c1 c2 c3 c4 tk ho => ?_⟩; obtain ⟨c', tk1, ho1, hs⟩ := stp b Y hb N T Lb hN hT hL c1 c2 c3 c4 tk ho; obtain ⟨P0, P1, tk', hit⟩ := h4 b Y hb N T Lb hN hT hL c' c2 c3 c4 tk1 ho1; exact ⟨P0, P1, tk', (bW hs).trans hit⟩
theorem ve {d : Nat} {g : Pg} {l : List Tok} {x : PR Pg} (hd0 : d = 0) {n m : Nat} (hm : m ≤ 1000000) (ih : qO ts m) (hg : g.gls.length < 1000000) (ihp : ∀ g2 l x, g2.hM.length + g2.gls.length + g2.gY.length + g2.ths.length = g.hM.length + g.gls.length + g.gY.length + g.ths.length + 1 → Sfx ts l → fQ n m g2 l = some x → lT ts d g2 l x) (h : Sfx ts l) (k0 : (hd l).kind ≠ 0) (p0 : isT l [114, 101, 99, 111, 114, 100] = false) (pk : isT l [103, 108, 111, 98, 97, 108] = true) (hx : (pb (mH l.tail) fun r l1 => pb (some (cF [59] l1)) fun _ l2 => fQ n m { g with gls := g.gls ++ [r] } l2) = some x) : lT ts d g l x := by
 have k0' : ¬ (((hd l).kind : Int) = 0) := by omega
 have s0 := h.isT hr pk; obtain ⟨y, hy⟩ := dw hx; rw [hy] at hx; have h2 := ru hr s0 d hy
 cases y with
 | bad er q =>
  obtain rfl := bJ hx rfl; obtain ⟨a', d'', eb⟩ := bn h2 rfl; refine ⟨a', d'', fun b Y hb N T Lb hN hT hL c1 c2 c3 c4 tk ho => ⟨z4, pgC g c1 c2 c3 c4, tk, ?_⟩⟩; have eb := eb hb; have e67 := ay (dH h d 0 0 0 (b := b)) (s := Y) hb; have f_0 := ay (aB hr h d [114, 101, 99, 111, 114, 100] (b := b)) (s := Y) hb; have f_1 := ay (aB hr h d [103, 108, 111, 98, 97, 108] (b := b)) (s := Y) hb; have eb := eb; obtain ⟨f1, f2, f3, f4⟩ := ho.sfs (N + 2)
  have hb2 : b < N + 2 := by omega
  simp only [pc, pcf, aJ, Tok.c, bj, jq, hU, hZ, lU, cq, nmC, aa, if_true, if_false, ab, p0, pk] at e67 f_0 f_1 eb ⊢
  generalize ax ts = es at *
  apply iE; simp [S26.b0, hN, hT, hL, hb, hb2, e67, f_0, f_1, eb, p0, pk, f1, f2, f3, f4, k0, k0', cu, aY, jt, fT, AM.cy, AM.eL, chunks, Ex.bh, fm, fc, j9]
 | ok r l1 =>
  have hx := cx hx rfl
  try dsimp only at hx
  have s1 := br h2 rfl; have h3 := eI hr s1 d [59]
  cases x3 : cF [59] l1 with
  | bad e q =>
   obtain rfl := bJ hx x3; obtain ⟨a', d'', eb⟩ := bn h3 x3; refine ⟨a', d'', fun b Y hb N T Lb hN hT hL c1 c2 c3 c4 tk ho => ?_⟩; obtain ⟨c', tk', ea, ho'⟩ := ho.g2 (b := b) (cs := pc ts l1 d) hT r hg; refine ⟨z4, pgC { g with gls := g.gls ++ [r] } c1 c' c3 c4, tk', ?_⟩; have eb := eb hb; have e67 := ay (dH h d 0 0 0 (b := b)) (s := Y) hb; have f_0 := ay (aB hr h d [114, 101, 99, 111, 114, 100] (b := b)) (s := Y) hb; have f_1 := ay (aB hr h d [103, 108, 111, 98, 97, 108] (b := b)) (s := Y) hb; have e2 := aK h2 rfl hb; have ea := ea; have eb := eb; obtain ⟨f1, f2, f3, f4⟩ := ho.sfs (N + 2); obtain ⟨f1', f2', f3', f4'⟩ := ho'.sfs (N + 2)
   have hb2 : b < N + 2 := by omega
   simp only [pc, pcf, aJ, Tok.c, bj, jq, hU, hZ, lU, cq, nmC, aa, if_true, if_false, ab, p0, pk] at e67 f_0 f_1 e2 ea eb ⊢
   generalize ax ts = es at *
   apply iE; simp [S26.b0, hN, hT, hL, hb, hb2, e67, f_0, f_1, e2, ea, eb, p0, pk, f1, f2, f3, f4, f1', f2', f3', f4', k0, k0', cu, aY, jt, fT, AM.cy, AM.eL, chunks, Ex.bh, fm, fc, j9]
  | ok u l2 =>
   have hx := cx hx x3
   try dsimp only at hx
   have s2 := br h3 x3; have h4 := ihp _ l2 x (by simp only [bM, bG]; omega) s2 hx
   have stp : ∀ b (Y : St), b < Y.stk.length → ∀ N T Lb, Y.stk.length = N → Y.tk.length = T → Y.lp.length = Lb → ∀ c1 c2 c3 c4 tk, jm T tk c1 c2 c3 c4 g → ∃ c' tk', jm T tk' c1 c' c3 c4 { g with gls := g.gls ++ [r] } ∧
    S26.b0 (E L) itE N Lb [.ptr false b 0, .ptr false N 0, .ptr false (N + 1) 0] ((Y.af false b (pc ts l d)).app [⟨z4, []⟩, ⟨pgC g c1 c2 c3 c4, []⟩] tk []) = some (.normal, [.ptr false b 0, .ptr false N 0, .ptr false (N + 1) 0], (Y.af false b (pc ts l2 d)).app [⟨z4, []⟩, ⟨pgC { g with gls := g.gls ++ [r] } c1 c' c3 c4, []⟩] tk' []) := by
    intro b Y hb N T Lb hN hT hL c1 c2 c3 c4 tk ho; obtain ⟨c', tk', ea, ho'⟩ := ho.g2 (b := b) (cs := pc ts l1 d) hT r hg; refine ⟨c', tk', ho', ?_⟩; have e67 := ay (dH h d 0 0 0 (b := b)) (s := Y) hb; have f_0 := ay (aB hr h d [114, 101, 99, 111, 114, 100] (b := b)) (s := Y) hb; have f_1 := ay (aB hr h d [103, 108, 111, 98, 97, 108] (b := b)) (s := Y) hb; have e2 := aK h2 rfl hb; have ea := ea; have e3 := aK h3 x3 hb; obtain ⟨f1, f2, f3, f4⟩ := ho.sfs (N + 2); obtain ⟨f1', f2', f3', f4'⟩ := ho'.sfs (N + 2)
    have hb2 : b < N + 2 := by omega
    simp only [pc, pcf, aJ, Tok.c, bj, jq, hU, hZ, lU, cq, nmC, aa, if_true, if_false, ab, p0, pk] at e67 f_0 f_1 e2 ea e3 ⊢
    generalize ax ts = es at *
    simp [S26.b0, hN, hT, hL, hb, hb2, e67, f_0, f_1, e2, ea, e3, p0, pk, f1, f2, f3, f4, f1', f2', f3', f4', k0, k0', cu, aY, jt, fT, AM.cy, AM.eL, chunks, Ex.bh, fm, fc, j9]
   cases x with
   | ok g' l' =>
    refine ⟨h4.1, fun b Y hb N T Lb hN hT hL c1 c2 c3 c4 tk ho => ?_⟩; obtain ⟨c', tk1, ho1, hs⟩ := stp b Y hb N T Lb hN hT hL c1 c2 c3 c4 tk ho; obtain ⟨k1, k2, k3, k4, P, tk', hit⟩ := h4.2 b Y hb N T Lb hN hT hL c1 c' c3 c4 tk1 ho1; exact ⟨k1, k2, k3, k4, P, tk', (bW hs).trans hit⟩
   | bad er p =>
    obtain ⟨a', d'', h4⟩ := h4; refine ⟨a', d'', fun b Y hb N T Lb hN hT hL c1 c2 c3 c4 tk ho => ?_⟩; obtain ⟨c', tk1, ho1, hs⟩ := stp b Y hb N T Lb hN hT hL c1 c2 c3 c4 tk ho; obtain ⟨P0, P1, tk', hit⟩ := h4 b Y hb N T Lb hN hT hL c1 c' c3 c4 tk1 ho1; exact ⟨P0, P1, tk', (bW hs).trans hit⟩
theorem zh {d : Nat} {g : Pg} {l : List Tok} {x : PR Pg} (hd0 : d = 0) {n m : Nat} (hm : m ≤ 1000000) (ih : qO ts m) (hg : g.gY.length < 1000000) (ihp : ∀ g2 l x, g2.hM.length + g2.gls.length + g2.gY.length + g2.ths.length = g.hM.length + g.gls.length + g.gY.length + g.ths.length + 1 → Sfx ts l → fQ n m g2 l = some x → lT ts d g2 l x) (h : Sfx ts l) (k0 : (hd l).kind ≠ 0) (p0 : isT l [114, 101, 99, 111, 114, 100] = false) (p1 : isT l [103, 108, 111, 98, 97, 108] = false) (pk : isT l [102, 117, 110] = true) (hx : (pb (AH m l.tail) fun r l1 => fQ n m { g with gY := g.gY ++ [r] } l1) = some x) : lT ts d g l x := by
 have k0' : ¬ (((hd l).kind : Int) = 0) := by omega
 have s0 := h.isT hr pk; obtain ⟨y, hy⟩ := dw hx; rw [hy] at hx; have h2 := Et hr hd0 hm ih s0 hy
 cases y with
 | bad er q =>
  obtain rfl := bJ hx rfl; obtain ⟨a', d'', eb⟩ := bn h2 rfl; refine ⟨a', d'', fun b Y hb N T Lb hN hT hL c1 c2 c3 c4 tk ho => ⟨z4, pgC g c1 c2 c3 c4, tk, ?_⟩⟩; have eb := eb hb; have e67 := ay (dH h d 0 0 0 (b := b)) (s := Y) hb; have f_0 := ay (aB hr h d [114, 101, 99, 111, 114, 100] (b := b)) (s := Y) hb; have f_1 := ay (aB hr h d [103, 108, 111, 98, 97, 108] (b := b)) (s := Y) hb; have f_2 := ay (aB hr h d [102, 117, 110] (b := b)) (s := Y) hb; have eb := eb; obtain ⟨f1, f2, f3, f4⟩ := ho.sfs (N + 2)
  have hb2 : b < N + 2 := by omega
  simp only [pc, pcf, aJ, Tok.c, bj, jq, hU, hZ, lU, cq, nmC, aa, if_true, if_false, ab, p0, p1, pk] at e67 f_0 f_1 f_2 eb ⊢
  generalize ax ts = es at *
  apply iE; simp [S26.b0, hN, hT, hL, hb, hb2, e67, f_0, f_1, f_2, eb, p0, p1, pk, f1, f2, f3, f4, k0, k0', cu, aY, jt, fT, AM.cy, AM.eL, chunks, Ex.bh, fm, fc, j9]
 | ok r l1 =>
  have hx := cx hx rfl
  try dsimp only at hx
  have s1 := br h2 rfl; have h4 := ihp _ l1 x (by simp only [bM, bG]; omega) s1 hx
  have stp : ∀ b (Y : St), b < Y.stk.length → ∀ N T Lb, Y.stk.length = N → Y.tk.length = T → Y.lp.length = Lb → ∀ c1 c2 c3 c4 tk, jm T tk c1 c2 c3 c4 g → ∃ c' tk', jm T tk' c1 c2 c' c4 { g with gY := g.gY ++ [r] } ∧
   S26.b0 (E L) itE N Lb [.ptr false b 0, .ptr false N 0, .ptr false (N + 1) 0] ((Y.af false b (pc ts l d)).app [⟨z4, []⟩, ⟨pgC g c1 c2 c3 c4, []⟩] tk []) = some (.normal, [.ptr false b 0, .ptr false N 0, .ptr false (N + 1) 0], (Y.af false b (pc ts l1 d)).app [⟨z4, []⟩, ⟨pgC { g with gY := g.gY ++ [r] } c1 c2 c' c4, []⟩] tk' []) := by
   intro b Y hb N T Lb hN hT hL c1 c2 c3 c4 tk ho; obtain ⟨c', tk', ea, ho'⟩ := ho.g3 (b := b) (cs := pc ts l1 d) hT r hg; refine ⟨c', tk', ho', ?_⟩; have e67 := ay (dH h d 0 0 0 (b := b)) (s := Y) hb; have f_0 := ay (aB hr h d [114, 101, 99, 111, 114, 100] (b := b)) (s := Y) hb; have f_1 := ay (aB hr h d [103, 108, 111, 98, 97, 108] (b := b)) (s := Y) hb; have f_2 := ay (aB hr h d [102, 117, 110] (b := b)) (s := Y) hb; have e2 := aK h2 rfl hb; have ea := ea; obtain ⟨f1, f2, f3, f4⟩ := ho.sfs (N + 2); obtain ⟨f1', f2', f3', f4'⟩ := ho'.sfs (N + 2)
   have hb2 : b < N + 2 := by omega
   simp only [pc, pcf, aJ, Tok.c, bj, jq, hU, hZ, lU, cq, nmC, aa, if_true, if_false, ab, p0, p1, pk] at e67 f_0 f_1 f_2 e2 ea ⊢
   generalize ax ts = es at *
   simp [S26.b0, hN, hT, hL, hb, hb2, e67, f_0, f_1, f_2, e2, ea, p0, p1, pk, f1, f2, f3, f4, f1', f2', f3', f4', k0, k0', cu, aY, jt, fT, AM.cy, AM.eL, chunks, Ex.bh, fm, fc, j9]
  cases x with
  | ok g' l' =>
   refine ⟨h4.1, fun b Y hb N T Lb hN hT hL c1 c2 c3 c4 tk ho => ?_⟩; obtain ⟨c', tk1, ho1, hs⟩ := stp b Y hb N T Lb hN hT hL c1 c2 c3 c4 tk ho; obtain ⟨k1, k2, k3, k4, P, tk', hit⟩ := h4.2 b Y hb N T Lb hN hT hL c1 c2 c' c4 tk1 ho1; exact ⟨k1, k2, k3, k4, P, tk', (bW hs).trans hit⟩
  | bad er p =>
   obtain ⟨a', d'', h4⟩ := h4; refine ⟨a', d'', fun b Y hb N T Lb hN hT hL c1 c2 c3 c4 tk ho => ?_⟩; obtain ⟨c', tk1, ho1, hs⟩ := stp b Y hb N T Lb hN hT hL c1 c2 c3 c4 tk ho; obtain ⟨P0, P1, tk', hit⟩ := h4 b Y hb N T Lb hN hT hL c1 c2 c' c4 tk1 ho1; exact ⟨P0, P1, tk', (bW hs).trans hit⟩
theorem vg {d : Nat} {g : Pg} {l : List Tok} {x : PR Pg} (hd0 : d = 0) {n m : Nat} (hm : m ≤ 1000000) (ih : qO ts m) (hg : g.ths.length < 1000000) (ihp : ∀ g2 l x, g2.hM.length + g2.gls.length + g2.gY.length + g2.ths.length = g.hM.length + g.gls.length + g.gY.length + g.ths.length + 1 → Sfx ts l → fQ n m g2 l = some x → lT ts d g2 l x) (h : Sfx ts l) (k0 : (hd l).kind ≠ 0) (p0 : isT l [114, 101, 99, 111, 114, 100] = false) (p1 : isT l [103, 108, 111, 98, 97, 108] = false) (p2 : isT l [102, 117, 110] = false) (pk : isT l [116, 104, 114, 101, 97, 100] = true) (hx : (pb (fk m d l.tail) fun r l1 => fQ n m { g with ths := g.ths ++ [⟨r, (hd l).p.1, (hd l).p.2⟩] } l1) = some x) : lT ts d g l x := by
 have k0' : ¬ (((hd l).kind : Int) = 0) := by omega
 have s0 := h.isT hr pk; obtain ⟨y, hy⟩ := dw hx; rw [hy] at hx; have h2 := ih.blk _ _ _ (by omega) s0 hy
 cases y with
 | bad er q =>
  obtain rfl := bJ hx rfl; obtain ⟨a', d'', eb⟩ := bn h2 rfl; refine ⟨a', d'', fun b Y hb N T Lb hN hT hL c1 c2 c3 c4 tk ho => ⟨z4, pgC g c1 c2 c3 c4, tk, ?_⟩⟩; have eb := eb hb; have e67 := ay (dH h d 0 0 0 (b := b)) (s := Y) hb; have f_0 := ay (aB hr h d [114, 101, 99, 111, 114, 100] (b := b)) (s := Y) hb; have f_1 := ay (aB hr h d [103, 108, 111, 98, 97, 108] (b := b)) (s := Y) hb; have f_2 := ay (aB hr h d [102, 117, 110] (b := b)) (s := Y) hb; have f_3 := ay (aB hr h d [116, 104, 114, 101, 97, 100] (b := b)) (s := Y) hb; have eb := eb; obtain ⟨f1, f2, f3, f4⟩ := ho.sfs (N + 2)
  have hb2 : b < N + 2 := by omega
  simp only [pc, pcf, aJ, Tok.c, bj, jq, hU, hZ, lU, cq, nmC, aa, if_true, if_false, ab, p0, p1, p2, pk] at e67 f_0 f_1 f_2 f_3 eb ⊢
  generalize ax ts = es at *
  apply iE; simp [S26.b0, hN, hT, hL, hb, hb2, e67, f_0, f_1, f_2, f_3, eb, p0, p1, p2, pk, f1, f2, f3, f4, k0, k0', cu, aY, jt, fT, AM.cy, AM.eL, chunks, Ex.bh, fm, fc, j9]
 | ok r l1 =>
  have hx := cx hx rfl
  try dsimp only at hx
  have s1 := br h2 rfl; have h4 := ihp _ l1 x (by simp only [bM, bG]; omega) s1 hx
  have stp : ∀ b (Y : St), b < Y.stk.length → ∀ N T Lb, Y.stk.length = N → Y.tk.length = T → Y.lp.length = Lb → ∀ c1 c2 c3 c4 tk, jm T tk c1 c2 c3 c4 g → ∃ c' tk', jm T tk' c1 c2 c3 c' { g with ths := g.ths ++ [⟨r, (hd l).p.1, (hd l).p.2⟩] } ∧
   S26.b0 (E L) itE N Lb [.ptr false b 0, .ptr false N 0, .ptr false (N + 1) 0] ((Y.af false b (pc ts l d)).app [⟨z4, []⟩, ⟨pgC g c1 c2 c3 c4, []⟩] tk []) = some (.normal, [.ptr false b 0, .ptr false N 0, .ptr false (N + 1) 0], (Y.af false b (pc ts l1 d)).app [⟨z4, []⟩, ⟨pgC { g with ths := g.ths ++ [⟨r, (hd l).p.1, (hd l).p.2⟩] } c1 c2 c3 c', []⟩] tk' []) := by
   intro b Y hb N T Lb hN hT hL c1 c2 c3 c4 tk ho; obtain ⟨c', tk', ea, ho'⟩ := ho.g4 (b := b) (cs := pc ts l1 d) hT ⟨r, (hd l).p.1, (hd l).p.2⟩ hg; refine ⟨c', tk', ho', ?_⟩; have e67 := ay (dH h d 0 0 0 (b := b)) (s := Y) hb; have f_0 := ay (aB hr h d [114, 101, 99, 111, 114, 100] (b := b)) (s := Y) hb; have f_1 := ay (aB hr h d [103, 108, 111, 98, 97, 108] (b := b)) (s := Y) hb; have f_2 := ay (aB hr h d [102, 117, 110] (b := b)) (s := Y) hb; have f_3 := ay (aB hr h d [116, 104, 114, 101, 97, 100] (b := b)) (s := Y) hb; have e2 := aK h2 rfl hb; have ea := ea; obtain ⟨f1, f2, f3, f4⟩ := ho.sfs (N + 2); obtain ⟨f1', f2', f3', f4'⟩ := ho'.sfs (N + 2)
   have hb2 : b < N + 2 := by omega
   simp only [pc, pcf, aJ, Tok.c, bj, jq, hU, hZ, lU, cq, nmC, aa, if_true, if_false, ab, p0, p1, p2, pk] at e67 f_0 f_1 f_2 f_3 e2 ea ⊢
   generalize ax ts = es at *
   simp [S26.b0, hN, hT, hL, hb, hb2, e67, f_0, f_1, f_2, f_3, e2, ea, p0, p1, p2, pk, f1, f2, f3, f4, f1', f2', f3', f4', k0, k0', cu, aY, jt, fT, AM.cy, AM.eL, chunks, Ex.bh, fm, fc, j9]
  cases x with
  | ok g' l' =>
   refine ⟨h4.1, fun b Y hb N T Lb hN hT hL c1 c2 c3 c4 tk ho => ?_⟩; obtain ⟨c', tk1, ho1, hs⟩ := stp b Y hb N T Lb hN hT hL c1 c2 c3 c4 tk ho; obtain ⟨k1, k2, k3, k4, P, tk', hit⟩ := h4.2 b Y hb N T Lb hN hT hL c1 c2 c3 c' tk1 ho1; exact ⟨k1, k2, k3, k4, P, tk', (bW hs).trans hit⟩
  | bad er p =>
   obtain ⟨a', d'', h4⟩ := h4; refine ⟨a', d'', fun b Y hb N T Lb hN hT hL c1 c2 c3 c4 tk ho => ?_⟩; obtain ⟨c', tk1, ho1, hs⟩ := stp b Y hb N T Lb hN hT hL c1 c2 c3 c4 tk ho; obtain ⟨P0, P1, tk', hit⟩ := h4 b Y hb N T Lb hN hT hL c1 c2 c3 c' tk1 ho1; exact ⟨P0, P1, tk', (bW hs).trans hit⟩
theorem zj {d : Nat} {g : Pg} {l : List Tok} {x : PR Pg}  (h : Sfx ts l) (k0 : (hd l).kind ≠ 0) (p0 : isT l [114, 101, 99, 111, 114, 100] = false) (p1 : isT l [103, 108, 111, 98, 97, 108] = false) (p2 : isT l [102, 117, 110] = false) (p3 : isT l [116, 104, 114, 101, 97, 100] = false)  (hx : some (.bad 4 (hd l).p) = some x) : lT ts d g l x := by
 have k0' : ¬ (((hd l).kind : Int) = 0) := by omega
 obtain rfl := Option.some.inj hx; refine ⟨pcA ts l, d, fun b Y hb N T Lb hN hT hL c1 c2 c3 c4 tk ho => ⟨z4, pgC g c1 c2 c3 c4, tk, ?_⟩⟩; have e67 := ay (dH h d 0 0 0 (b := b)) (s := Y) hb; have f_0 := ay (aB hr h d [114, 101, 99, 111, 114, 100] (b := b)) (s := Y) hb; have f_1 := ay (aB hr h d [103, 108, 111, 98, 97, 108] (b := b)) (s := Y) hb; have f_2 := ay (aB hr h d [102, 117, 110] (b := b)) (s := Y) hb; have f_3 := ay (aB hr h d [116, 104, 114, 101, 97, 100] (b := b)) (s := Y) hb; have e74 := ay (nb (ax ts) (pcA ts l) d 4 (hd l) (b := b)) (s := Y) hb; obtain ⟨f1, f2, f3, f4⟩ := ho.sfs (N + 2)
 have hb2 : b < N + 2 := by omega
 simp only [pc, pcf, aJ, Tok.c, bj, jq, hU, hZ, lU, cq, nmC, aa, if_true, if_false, ab, p0, p1, p2, p3] at e67 f_0 f_1 f_2 f_3 e74 ⊢
 generalize ax ts = es at *
 apply iE; simp [S26.b0, hN, hT, hL, hb, hb2, e67, f_0, f_1, f_2, f_3, e74, p0, p1, p2, p3, f1, f2, f3, f4, k0, k0', cu, aY, jt, fT, AM.cy, AM.eL, chunks, Ex.bh, fm, fc, j9]
end
abbrev pg0 : Pg := ⟨[], [], [], []⟩
theorem zi {ts : List Tok} (hr : Row ts) {m : Nat} (hm : m ≤ 1000000) (ih : qO ts m) : ∀ n g l x, g.hM.length + g.gls.length + g.gY.length + g.ths.length + n ≤ 1000000 → Sfx ts l → fQ n m g l = some x → lT ts 0 g l x := by
 intro n
 induction n with
 | zero => intro g l x _ _ hx; simp [fQ] at hx
 | succ n ihn =>
  intro g l x hg h hx; simp only [fQ] at hx
  have ihp : ∀ g2 l x, g2.hM.length + g2.gls.length + g2.gY.length + g2.ths.length = g.hM.length + g.gls.length + g.gY.length + g.ths.length + 1 → Sfx ts l → fQ n m g2 l = some x → lT ts 0 g2 l x := fun g2 l x e h hx => ihn g2 l x (by omega) h hx
  by_cases k0 : (hd l).kind = 0
  · rw [if_pos k0] at hx
    exact Bh hr h k0 hx
  rw [if_neg k0] at hx
  cases p0 : isT l [114, 101, 99, 111, 114, 100] with
  | true => rw [if_pos p0] at hx; exact vf hr rfl hm ih (by omega) ihp h k0 p0 hx
  | false =>
  rw [if_neg (by rw [p0]; decide)] at hx
  cases p1 : isT l [103, 108, 111, 98, 97, 108] with
  | true => rw [if_pos p1] at hx; exact ve hr rfl hm ih (by omega) ihp h k0 p0 p1 hx
  | false =>
  rw [if_neg (by rw [p1]; decide)] at hx
  cases p2 : isT l [102, 117, 110] with
  | true => rw [if_pos p2] at hx; exact zh hr rfl hm ih (by omega) ihp h k0 p0 p1 p2 hx
  | false =>
  rw [if_neg (by rw [p2]; decide)] at hx
  cases p3 : isT l [116, 104, 114, 101, 97, 100] with
  | true => rw [if_pos p3] at hx; exact vg hr rfl hm ih (by omega) ihp h k0 p0 p1 p2 p3 hx
  | false =>
  rw [if_neg (by rw [p3]; decide)] at hx; exact zj hr h k0 p0 p1 p2 p3 hx
theorem wI {ts : List Tok} (hr : Row ts) {m n : Nat} (hm : m ≤ 1000000) (hn : n ≤ 1000000) {l : List Tok} {x : PR Pg} (h : Sfx ts l) (hx : fQ n m pg0 l = some x) : Rd 26 [] ts 0 0 l nB x := by
 have h1 := zi hr hm (BA hr m hm).1 n pg0 l x (by simpa using hn) h hx
 cases x with
 | bad er q =>
  obtain ⟨a', d'', h1⟩ := h1; refine ⟨a', d'', fun b Y hb => ?_⟩; obtain ⟨P0, P1, tk', hit⟩ := h1 b Y hb _ _ _ rfl rfl rfl .nil .nil .nil .nil [] (jm.zero _); rw [zY]; obtain ⟨N, T, Lb, hN, hT, hL⟩ := lens3 Y; rw [hN] at hb; rw [hN] at hit
  conv => lhs; rw [← ak (Y.af false b (pc ts l 0))]
  rw [hL] at hit; simp only [pc, pcf, z4, pgC, pg0, j5, nms, nS, mR, aS, ic] at hit ⊢
  generalize ax ts = es at *
  simp [S26, hN, hT, hL, hb, hit, Ex.bh]
 | ok g l' =>
  refine ⟨h1.1, fun b Y hb => ?_⟩; obtain ⟨k1, k2, k3, k4, P, tk', hit⟩ := h1.2 b Y hb _ _ _ rfl rfl rfl .nil .nil .nil .nil [] (jm.zero _); rw [zY]; obtain ⟨N, T, Lb, hN, hT, hL⟩ := lens3 Y; rw [hN] at hb; rw [hN] at hit
  conv => lhs; rw [← ak (Y.af false b (pc ts l 0))]
  rw [hL] at hit; simp only [pc, pcf, z4, pgC, pg0, j5, nms, nS, mR, aS, ic] at hit ⊢
  generalize ax ts = es at *
  simp [S26, hN, hT, hL, hb, hit, Ex.bh]; exact ⟨rfl, rfl, rfl, rfl⟩
end Go.Proofs.YtlhlijaondmccaaDoor.S
namespace Go.Proofs.YtlhlijaondmccaaDoor.S
open Go Go.AM Go.Proofs
def Tot {α : Type} (c : α → Nat) (m : Nat) (o : Option (PR α)) : Prop := ∃ x, o = some x ∧ ∀ a l', x = .ok a l' → c a + 8 * l'.length ≤ m
section
variable {α β : Type} {c : α → Nat} {c' : β → Nat} {m m' : Nat}
theorem Tot.le {k : α → Nat} {o : Option (PR α)} (h : Tot c m o) (hm : ∀ a n, c a + 8 * n ≤ m → k a + 8 * n ≤ m') : Tot k m' o := by
 obtain ⟨x, h1, h2⟩ := h; exact ⟨x, h1, fun a l' e => hm a l'.length (h2 a l' e)⟩
theorem dL {a : α} {l : List Tok} (h : c a + 8 * l.length ≤ m) : Tot c m (some (.ok a l)) := ⟨_, rfl, fun a l' e => by cases e; exact h⟩
theorem kG {e : Nat} {q : Nat × Nat} : Tot c m (some (.bad e q : PR α)) := ⟨_, rfl, fun a l' e => by cases e⟩
theorem bY {x : Option (PR α)} {K : α → List Tok → Option (PR β)} (h : Tot c m x) (hk : ∀ a l', c a + 8 * l'.length ≤ m → Tot c' m' (K a l')) : Tot c' m' (pb x K) := by
 obtain ⟨x, rfl, h2⟩ := h
 cases x with
 | ok a l => exact hk a l (h2 a l rfl)
 | bad e q => exact kG
theorem dx {p : Prop} [Decidable p] {x y : Option (PR α)} (h : p → Tot c m x) (g : ¬ p → Tot c m y) : Tot c m (if p then x else y) := by
 split
 · exact h ‹_›
 · exact g ‹_›
theorem ud {f : α → β} {x : PR α} (h : Tot (fun a => c' (f a)) m (some x)) : Tot c' m (some (x.map f)) := by
 obtain ⟨y, h1, h2⟩ := h; obtain rfl := Option.some.inj h1
 cases x with
 | ok a l => exact dL (h2 a l rfl)
 | bad e q => exact kG
theorem rV {d : Nat} {t : Tok} {x : Option (PR α)} (h : Tot c m x) : Tot c m (mq d t x) := dx (fun _ => kG) fun _ => h
end
theorem wv {l : List Tok} (h : (hd l).kind ≠ 0) : 1 ≤ l.length := by
 cases l with
 | nil => exact absurd rfl h
 | cons t r => simp
theorem AR {l : List Tok} {s : List UInt8} (h : isT l s = true) : (hd l).kind ≠ 0 := by
 unfold isT at h; simp only [ao, Bool.or_eq_true, decide_eq_true_eq] at h; omega
theorem dv {l : List Tok} {s : List UInt8} (h : isT l s = true) : 1 ≤ l.length ∧ l.tail.length = l.length - 1 := ⟨wv (AR h), List.length_tail⟩
theorem gh {l : List Tok} (h : (hd l).kind ≠ 0) : 1 ≤ l.length ∧ (cP l).length = l.length - 1 := ⟨wv h, by rw [cP, if_neg h]; exact List.length_tail⟩
theorem u5 (l : List Tok) : (cP l).length ≤ l.length := by
 unfold cP; split
 · exact aq _
 · rw [List.length_tail]; omega
theorem fA (s : List UInt8) (l : List Tok) : Tot (fun _ => 8) (8 * l.length) (some (cF s l)) := by
 unfold cF; split
 · rename_i h; have := dv h; exact dL (by omega)
 · exact kG
theorem gm {k : Nat} (hk : k ≠ 0) (l : List Tok) : Tot (fun _ => 8) (8 * l.length) (some (eM k l)) := by
 unfold eM; split
 · rename_i h; have := gh (l := l) (by omega); exact dL (by omega)
 · exact kG
theorem Dd (l : List Tok) : Tot (fun _ => 8) (8 * l.length) (some (vK l)) := by
 unfold vK; split
 · rename_i h; have := dv h; exact dL (by omega)
 split
 · rename_i h; have := dv h; exact dL (by omega)
 split
 · rename_i h; have := dv h; exact dL (by omega)
 exact ud (gm (by omega) l)
theorem pT (l : List Tok) : Tot (fun _ => 24) (8 * l.length) (mH l) :=
 bY (gm (by omega) l) fun t l1 h1 => bY (fA _ l1) fun _ l2 h2 => bY (Dd l2) fun ty l3 h3 => dL (by omega)
abbrev wX (e : X) : Nat := e.sz + 7
theorem mT : x0.sz = 1 := by simp [x0, X.sz, szs]
theorem po (t : Tok) (op n kd : Int) (rc name : List UInt8) : (atX t op n kd rc name).sz = 1 := by simp [atX, X.sz, szs]
theorem Ag (a b c d : Int) (r n : ByteArray) (e k : X) (p q : Int) : X.sz ⟨a, b, c, d, r, n, [e, k], p, q⟩ = e.sz + k.sz + 1 := by simp [X.sz, szs]
theorem Fw (a b c d : Int) (r n : ByteArray) (k : X) (p q : Int) : X.sz ⟨a, b, c, d, r, n, [k], p, q⟩ = k.sz + 1 := by simp [X.sz, szs]
structure Fy (n : Nat) : Prop where
 atom : ∀ d l, 10 * l.length + 1 ≤ n → Tot wX (8 * l.length) (iA n d l)
 pre : ∀ d l, 10 * l.length + 2 ≤ n → Tot wX (8 * l.length) (ff n d l)
 chain : ∀ lv d l, lv ≤ 3 → 10 * l.length + 6 ≤ n + lv → Tot wX (8 * l.length) (cN n lv d l)
 rest : ∀ lv d e l, lv < 3 → 10 * l.length + 1 ≤ n → Tot X.sz (e.sz + 8 * l.length) (gD n lv d e l)
theorem xE : ∀ n, Fy n
 | 0 => ⟨fun d l h => by omega, fun d l h => by omega, fun lv d l h h' => by omega, fun lv d e l h h' => by omega⟩
 | n + 1 => by
  have ih := xE n; refine ⟨fun d l h => ?_, fun d l h => ?_, fun lv d l hlv h => ?_, fun lv d e l hlv h => ?_⟩
  · simp only [iA]
    refine dx (fun k => dL ?_) fun _ => dx (fun k => dL ?_) fun _ => dx (fun k => dL ?_) fun _ => dx (fun k => ?_) fun _ => dx (fun k => ?_) fun _ => dx (fun k => ?_) fun _ => kG
    · have := gh (l := l) (by omega); simp only [wX, po]; omega
    · have := gh (l := l) (by omega); simp only [wX, po]; omega
    · have := gh (l := l) (by omega); simp only [wX, po]; omega
    · have := gh (l := l) (by omega)
      exact ud ((gm (by omega) (cP l)).le fun a n h => by simp only [wX, po]; omega)
    · have := gh (l := l) (by omega)
      refine dx (fun k => dL ?_) fun _ => ud ((gm (by omega) (cP l)).le fun a n h => by simp only [wX, po]; omega)
      have := dv k; simp only [wX, po]; omega
    · have := gh (l := l) (by omega)
      exact rV (bY (ih.chain 0 (d + 1) (cP l) (by omega) (by omega)) fun e l1 h1 => bY (fA _ l1) fun _ l2 h2 => dL (by omega))
  · simp only [ff]
    refine dx (fun k => ih.atom d l (by omega)) fun k => ?_
    have : (hd l).kind ≠ 0 := by
     intro q; apply k; unfold eS; rw [if_neg (by omega)]
    have := gh this; exact rV (bY (ih.pre (d + 1) (cP l) (by omega)) fun e l1 h1 => dL (by simp only [wX, Fw] at h1 ⊢; omega))
  · simp only [cN]
    refine dx (fun k => ih.pre d l (by omega)) fun k => ?_
    exact bY (ih.chain (lv + 1) d l (by omega) (by omega)) fun e l1 h1 => (ih.rest lv d e l1 (by omega) (by simp only [wX] at h1; omega)).le fun a n h => by simp only [wX] at h1 ⊢; omega
  · simp only [gD]
    cases hs : gI lv (hd l) with
    | none => exact dL (aq _)
    | some b =>
     have : (hd l).kind ≠ 0 := by
      unfold gI at hs; split at hs
      · omega
      · cases hs
     have := gh this
     exact bY (ih.chain (lv + 1) d (cP l) (by omega) (by omega)) fun k l1 h1 => dx (fun _ => dL (by simp only [wX, Ag] at h1 ⊢; omega)) fun _ => (ih.rest lv d _ l1 hlv (by simp only [wX] at h1; omega)).le fun a n h => by simp only [wX, Ag] at h1 h ⊢; omega
theorem jW {n d : Nat} {l : List Tok} (h : 10 * l.length + 6 ≤ n) : Tot wX (8 * l.length) (cN n 0 d l) := (xE n).chain 0 d l (by omega) (by omega)
abbrev wP (p : Pl) : Nat := p.index.sz + 7
theorem sR {n d : Nat} {l : List Tok} (h : 10 * l.length + 6 ≤ n) : Tot wP (8 * l.length) (nX n d l) :=
 bY (gm (by omega) l) fun t l1 h1 => dx
  (fun k => by have := dv k; exact bY (gm (by omega) l1.tail) fun u l2 h2 => dL (by simp only [wP, mT]; omega)) fun _ => dx
  (fun k => by have := dv k; exact bY (jW (by omega)) fun e l2 h2 => bY (fA _ l2) fun _ l3 h3 => dL (by simp only [wP, wX] at h2 ⊢; omega)) fun _ => dL (by simp only [wP, mT]; omega)
abbrev wR (r : Rt) : Nat := r.e.sz + r.place.index.sz + 6
theorem sU {n d : Nat} {l : List Tok} (h : 10 * l.length + 6 ≤ n) : Tot wR (8 * l.length) (j6 n d l) := by
 simp only [j6]
 refine dx (fun k => ?_) fun _ => dx (fun k => ?_) fun _ => dx (fun k => dx (fun k' => ?_) fun _ => ?_) fun _ => ?_
 · have := dv k; exact bY (sR (by omega)) fun x l1 h1 => dL (by simp only [wP, wR, mT] at h1 ⊢; omega)
 · have := dv k; exact bY (gm (by omega) _) fun x l1 h1 => dL (by simp only [wR, mT, pl0]; omega)
 · have := dv k; have := dv k'; exact bY (jW (by omega)) fun x l1 h1 => dL (by simp only [wX, wR, mT, pl0] at h1 ⊢; omega)
 · have := dv k; exact bY (gm (by omega) _) fun x l1 h1 => dL (by simp only [wR, mT, pl0]; omega)
 · exact bY (jW (by omega)) fun x l1 h1 => dL (by simp only [wX, wR, mT, pl0] at h1 ⊢; omega)
theorem vD (xs : List X) (x : X) : szs (xs ++ [x]) = szs xs + x.sz := by rw [qJ]; simp [szs]
theorem zA (xs : List S) (x : S) : gS (xs ++ [x]) = gS xs + x.sz := by rw [vx]; simp [gS]
theorem uu {m d : Nat} : ∀ (n : Nat) (acc : List X) (l : List Tok), l.length + 1 ≤ n → 10 * l.length + 6 ≤ m → Tot szs (szs acc + 8 * l.length) (nw n m d acc l)
 | 0, acc, l, h, _ => by omega
 | n + 1, acc, l, h, hm => by
  simp only [nw]
  refine bY (jW hm) fun e l1 h1 => dx (fun k => dL (by have := dv k; simp only [wX, vD] at h1 ⊢; omega)) fun _ => bY (fA _ l1) fun _ l2 h2 => ?_
  simp only [wX] at h1
  exact (uu n _ l2 (by omega) (by omega)).le fun a n h => by simp only [vD] at h ⊢; omega
theorem yJ {n d : Nat} {l : List Tok} (h : 10 * l.length + 6 ≤ n) : Tot (fun xs => szs xs + 8) (8 * l.length) (sn n d l) :=
 bY (fA _ l) fun _ l1 h1 => dx (fun k => dL (by have := dv k; simp only [szs]; omega)) fun _ => (uu n [] l1 (by omega) (by omega)).le fun a n h => by simp only [szs] at h; omega
theorem j7 {m : Nat} {s : S} {l : List Tok} (h : s.sz + 8 * l.length ≤ m + 8) : Tot S.sz m (fI s l) := bY (fA _ l) fun _ l1 h1 => dL (by omega)
theorem jZ (t : Tok) (op : Int) (name : ByteArray) (right : Rt) (place : Pl) (e : X) (n : Int) (args : List X) (body els : List S) : (mkS t op name right place e n args body els).sz = right.e.sz + right.place.index.sz + place.index.sz + e.sz + szs args + gS body + gS els + 1 := S.vC _
theorem EE : rt0.e.sz = 1 ∧ rt0.place.index.sz = 1 ∧ pl0.index.sz = 1 := ⟨mT, mT, mT⟩
structure StT (n : Nat) : Prop where
 blk : ∀ d l, 10 * l.length + 7 ≤ n → Tot (fun b => gS b + 8) (8 * l.length) (fk n d l)
 row : ∀ d acc l, 10 * l.length + 9 ≤ n → Tot gS (gS acc + 8 * l.length) (kP n d acc l)
 lp : ∀ d t nm l, 10 * l.length + 8 ≤ n → Tot (fun s : S => s.sz + 1) (8 * l.length) (ky n d t nm l)
 st : ∀ d l, 10 * l.length + 8 ≤ n → Tot (fun s : S => s.sz + 1) (8 * l.length) (lY n d l)
theorem wO : ∀ n, StT n
 | 0 => ⟨fun d l h => by omega, fun d acc l h => by omega, fun d t nm l h => by omega, fun d l h => by omega⟩
 | n + 1 => by
  have ih := wO n; have z := EE; have z0 := mT; refine ⟨fun d l h => ?_, fun d acc l h => ?_, fun d t nm l h => ?_, fun d l h => ?_⟩
  · simp only [fk]
    exact bY (fA _ _) fun t l1 h1 => rV ((ih.row (d + 1) [] l1 (by omega)).le fun a n h => by simp only [gS] at h; omega)
  · simp only [kP]
    refine dx (fun k => dL (by have := dv k; omega)) fun _ => bY (ih.st d l (by omega)) fun s l1 h1 => ?_
    have : 1 ≤ s.sz := by rw [S.vC]; omega
    exact (ih.row d _ l1 (by omega)).le fun a n h => by simp only [zA] at h; omega
  · simp only [ky]
    exact bY (gm (by omega) l) fun u l1 h1 => bY (ih.blk d l1 (by omega)) fun b l2 h2 => dL (by simp only [jZ, szs, gS, z, z0]; omega)
  · simp only [lY]
    refine dx (fun k => ?_) fun _ => dx (fun k => ?_) fun _ => dx (fun k => ?_) fun _ => dx (fun k => ?_) fun _ => dx (fun k => ?_) fun _ => dx (fun k => ?_) fun _ => dx (fun k => ?_) fun _ => dx (fun k => ?_) fun _ => dx (fun k => ?_) fun _ => dx (fun k => ?_) fun _ => kG
    · have := gh (l := l) (by omega)
      refine dx (fun k' => ?_) fun _ => ?_
      · have := dv k'
        exact bY (fA _ _) fun _ l1 h1 => (ih.lp d _ _ l1 (by omega)).le fun a n h => by omega
      · exact bY (fA _ _) fun _ l1 h1 => bY (sU (by omega)) fun r l2 h2 => (j7 (m := 8 * l.length - 1) (by simp only [wR] at h2; simp only [jZ, szs, gS, z, z0]; omega)).le fun a n h => by omega
    · have := dv k; exact (ih.lp d _ _ l.tail (by omega)).le fun a n h => by omega
    · have := dv k
      refine bY (jW (by omega)) fun e l1 h1 => ?_
      simp only [wX] at h1
      exact bY (ih.blk d l1 (by omega)) fun b l2 h2 => dx
       (fun k' => by have := dv k'; exact bY (ih.blk d l2.tail (by omega)) fun c l3 h3 => dL (by simp only [jZ, szs, gS, z, z0]; omega)) fun _ => dL (by simp only [jZ, szs, gS, z, z0]; omega)
    · have := dv k; exact bY (ih.blk d l.tail (by omega)) fun b l1 h1 => dL (by simp only [jZ, szs, gS, z, z0]; omega)
    · have : (hd l).kind ≠ 0 := by rcases k with k | k <;> exact AR k
      have := gh this
      exact bY (gm (by omega) _) fun u l1 h1 => bY (fA _ l1) fun _ l2 h2 => bY (sU (by omega)) fun r l3 h3 => (j7 (m := 8 * l.length - 1) (by simp only [wR] at h3; simp only [jZ, szs, gS, z, z0]; omega)).le fun a n h => by omega
    · have := dv k
      refine bY (sR (by omega)) fun x l1 h1 => bY (fA _ l1) fun _ l2 h2 => ?_
      simp only [wP] at h1
      exact bY (jW (by omega)) fun e l3 h3 => (j7 (m := 8 * l.length - 1) (by simp only [wX] at h3; simp only [jZ, szs, gS, z, z0]; omega)).le fun a n h => by omega
    · have := dv k; exact bY (jW (by omega)) fun e l1 h1 => (j7 (m := 8 * l.length - 1) (by simp only [wX] at h1; simp only [jZ, szs, gS, z, z0]; omega)).le fun a n h => by omega
    · have := dv k
      have h2 : (gz l.tail).2.length ≤ l.tail.length := by
       unfold gz; split
       · exact u5 _
       · exact aq _
      exact (j7 (m := 8 * l.length - 1) (by simp only [jZ, szs, gS, z, z0]; omega)).le fun a n h => by omega
    · have := dv k
      have h2 : (gz l.tail).2.length ≤ l.tail.length := by
       unfold gz; split
       · exact u5 _
       · exact aq _
      exact (j7 (m := 8 * l.length - 1) (by simp only [jZ, szs, gS, z, z0]; omega)).le fun a n h => by omega
    · have := dv k
      exact bY (gm (by omega) _) fun u l1 h1 => bY (yJ (by omega)) fun xs l2 h2 => (j7 (m := 8 * l.length - 1) (by simp only [jZ, szs, gS, z, z0]; omega)).le fun a n h => by omega
theorem re : ∀ (n : Nat) (acc : List Nm) (l : List Tok), l.length + 1 ≤ n → Tot List.length (acc.length + 8 * l.length) (iV n acc l)
 | 0, acc, l, h => by omega
 | n + 1, acc, l, h => by
  simp only [iV]
  exact dx (fun k => dL (by have := dv k; omega)) fun _ => bY (pT l) fun f l1 h1 => bY (fA _ l1) fun _ l2 h2 =>
   (re n _ l2 (by omega)).le fun a n h => by simp only [bM, bG] at h; omega
theorem CX {n : Nat} {l : List Tok} (h : l.length + 1 ≤ n) : Tot (fun r : Rec => r.fields.length + 1) (8 * l.length) (zl n l) :=
 bY (gm (by omega) l) fun t l1 h1 => bY (fA _ l1) fun _ l2 h2 => bY (re n [] l2 (by omega)) fun fs l3 h3 => dL (by simp only [aF] at h3; show fs.length + 1 + 8 * l3.length ≤ _; omega)
theorem rC : ∀ (n : Nat) (acc : List Nm) (l : List Tok), l.length + 1 ≤ n → Tot List.length (acc.length + 8 * l.length) (iH n acc l)
 | 0, acc, l, h => by omega
 | n + 1, acc, l, h => by
  simp only [iH]
  exact bY (pT l) fun f l1 h1 => dx (fun k => dL (by have := dv k; simp only [bM, bG]; omega)) fun _ => bY (fA _ l1) fun _ l2 h2 =>
   (rC n _ l2 (by omega)).le fun a n h => by simp only [bM, bG] at h; omega
theorem CD {n : Nat} {l : List Tok} (h : 10 * l.length + 7 ≤ n) : Tot (fun f : Fu => f.params.length + gS f.body + 1) (8 * l.length) (AH n l) :=
 bY (gm (by omega) l) fun t l1 h1 => bY (fA _ l1) fun _ l2 h2 => bY (c := List.length) (m := 8 * l2.length)
  (dx (fun k => dL (by have := dv k; simp only [aF]; omega)) fun _ => (rC n [] l2 (by omega)).le fun a n h => by simpa using h) fun ps l3 h3 =>
  bY ((wO n).blk 0 l3 (by omega)) fun b l4 h4 => dL (by simp only []; omega)
def Pg.sz (g : Pg) : Nat := (g.hM.map fun r => r.fields.length + 1).sum + g.gls.length + (g.gY.map fun f => f.params.length + gS f.body + 1).sum + (g.ths.map fun t => gS t.body + 1).sum
theorem vh {m : Nat} : ∀ (n : Nat) (g : Pg) (l : List Tok), l.length + 1 ≤ n → 10 * l.length + 7 ≤ m → Tot Pg.sz (g.sz + 8 * l.length) (fQ n m g l)
 | 0, g, l, h, _ => by omega
 | n + 1, g, l, h, hm => by
  simp only [fQ]
  refine dx (fun k => dL (aq _)) fun k0 => ?_
  have := wv k0
  have go : ∀ g' l2, l2.length < l.length → g'.sz + 8 * l2.length ≤ g.sz + 8 * l.length → Tot Pg.sz (g.sz + 8 * l.length) (fQ n m g' l2) := fun g' l2 h2 h3 => (vh n g' l2 (by omega) (by omega)).le fun a n h => by omega
  refine dx (fun k => ?_) fun _ => dx (fun k => ?_) fun _ => dx (fun k => ?_) fun _ => dx (fun k => ?_) fun _ => kG
  · have := dv k; exact bY (CX (by omega)) fun r l1 h1 => go _ _ (by omega) (by simp only [Pg.sz, List.map_append, List.sum_append, aX, aS, List.sum_cons, List.sum_nil] at h1 ⊢; omega)
  · have := dv k; exact bY (pT _) fun r l1 h1 => bY (fA _ l1) fun _ l2 h2 => go _ _ (by omega) (by simp only [Pg.sz, bM, bG]; omega)
  · have := dv k; exact bY (CD (by omega)) fun r l1 h1 => go _ _ (by omega) (by simp only [Pg.sz, List.map_append, List.sum_append, aX, aS, List.sum_cons, List.sum_nil] at h1 ⊢; omega)
  · have := dv k; exact bY ((wO m).blk 0 l.tail (by omega)) fun r l1 h1 => go _ _ (by omega) (by simp only [Pg.sz, List.map_append, List.sum_append, aX, aS, List.sum_cons, List.sum_nil] at h1 ⊢; omega)
theorem AZ : ∀ (k : Nat) (rest : List UInt8) (p : Nat × Nat), rest.length = k → ∀ ts, eP rest p = .ok ts → ts.length ≤ rest.length + 1 ∧ ∀ t ∈ ts, t.text.length ≤ rest.length := by
 intro k
 induction k using Nat.strongRecOn with
 | ind k ih =>
  intro rest p hk ts h
  cases rest with
  | nil =>
   rw [mE] at h; obtain rfl := LR.ok.inj h; exact ⟨by simp, by simp⟩
  | cons c l =>
   by_cases hb : eV (c :: l) = 0
   · cases ht : (dN (c :: l)).2.2.2 with
     | false => rw [kY hb ht] at h; cases h
     | true =>
      rw [kZ hb ht] at h; have hpos := ke ht; have hdl : ((c :: l).drop (dN (c :: l)).2.1).length = (c :: l).length - (dN (c :: l)).2.1 := fY ..
      cases hr : eP ((c :: l).drop (dN (c :: l)).2.1) (adv ((c :: l).take (dN (c :: l)).2.1) p) with
      | err q => rw [hr] at h; cases h
      | ok ts' =>
       rw [hr] at h; obtain rfl := LR.ok.inj h; simp only [al] at hdl hk; obtain ⟨h1, h2⟩ := ih _ (by omega) _ _ rfl ts' hr; refine ⟨by simp only [al]; omega, fun t hm => ?_⟩
       rcases List.mem_cons.1 hm with rfl | hm
       · simp only [kF]; exact Nat.le_trans (List.length_take_le _ _) (nr c l)
       · have := h2 t hm; simp only [al]; omega
   · rw [im hb] at h
     have hdl : ((c :: l).drop (eV (c :: l))).length = (c :: l).length - eV (c :: l) := fY ..; simp only [al] at hdl hk; obtain ⟨h1, h2⟩ := ih _ (by omega) _ _ rfl ts h; exact ⟨by simp only [al]; omega, fun t hm => by have := h2 t hm; simp only [al]; omega⟩
theorem wZ : ∀ w ∈ kS, ∀ lv, lv < 3 → (fV lv).contains w = false := by
 intro w hw lv hlv
 have : lv = 0 ∨ lv = 1 ∨ lv = 2 := by omega
 rcases this with rfl | rfl | rfl <;> revert w <;> decide
theorem o7 {t : Tok} (h : Tk t) : t.kind ≠ 0 ∧ (t.n < 9223372036854775808 ∨ t.kind = 4) ∧ (t.kind = 5 → ∀ c ∈ t.text, c ≠ 32) ∧ (t.kind = 2 → kg t.text = true) := by
 obtain ⟨a, l, h1, h2, h3⟩ := h.ex; have hk := zM (c := a) (l := l) (by rw [h3]); rw [h3] at hk; refine ⟨hk, ?_⟩; rw [h1]
 cases ha : eo a with
 | true =>
  rw [ib ha] at h3; obtain ⟨e1, e2⟩ := Prod.mk.inj h3; obtain ⟨e2, e3⟩ := Prod.mk.inj e2; obtain ⟨e3, e4⟩ := Prod.mk.inj e3; rw [e2, List.take_length] at e1 e3; unfold kH at e1 e3
  cases hw : kg (a :: l) with
  | true =>
   simp only [hw, if_true] at e1 e3; exact ⟨.inl (by omega), fun q => by omega, fun _ => rfl⟩
  | false =>
   cases hn : qg (a :: l) with
   | true =>
    simp only [hw, hn, if_true, if_false, ab] at e1 e3; exact ⟨.inl (by omega), fun q => by omega, fun q => by omega⟩
   | false =>
    simp only [hw, hn, if_false, ab] at e1 e3; have := ye (a :: l); exact ⟨.inl (by omega), fun q => by omega, fun q => by omega⟩
 | false =>
  by_cases hc : a = 35
  · subst hc
    rw [gG] at h3; obtain ⟨e1, e2⟩ := Prod.mk.inj h3; exact ⟨.inr e1.symm, fun q => by omega, fun q => by omega⟩
  · rw [gk ha hc] at h3
    obtain ⟨e1, e2⟩ := Prod.mk.inj h3; obtain ⟨e2, e3⟩ := Prod.mk.inj e2; obtain ⟨e3, e4⟩ := Prod.mk.inj e3; refine ⟨.inl (by omega), fun _ => ?_, fun q => by omega⟩; unfold eU at e2; split at e2
    · rename_i hp
      have : ∃ b, l = [b] := by
       cases l with
       | nil => simp at e2
       | cons b l => cases l with
        | nil => exact ⟨b, rfl⟩
        | cons _ _ => simp at e2
      obtain ⟨b, rfl⟩ := this; simp only [Bool.or_eq_true, ij, ao, beq_iff_eq] at hp; intro c hm; simp only [List.mem_cons, List.not_mem_nil, or_false] at hm
      rcases hp with (⟨rfl, rfl, _⟩ | ⟨rfl, rfl, _⟩) | ⟨rfl, rfl, _⟩ <;> rcases hm with rfl | rfl <;> decide
    · simp only at e2
      split at e2
      · rename_i hs
        have : l = [] := List.length_eq_zero_iff.1 (by simp only [al] at e2; omega); subst this; intro c hm; rw [List.mem_singleton] at hm; subst hm
        rintro rfl
        revert hs
        decide
      · simp at e2
theorem CQ {l : List UInt8} (hl : l.length ≤ 8192) {p : Nat × Nat} {ts : List Tok} (h : eP l p = .ok ts) : Row ts ∧ DT ts ∧ ts.length ≤ l.length + 1 := by
 obtain ⟨t0, h1, h2⟩ := rn l.length l p rfl ts h; obtain ⟨h3, h4⟩ := AZ l.length l p rfl ts h
 have hm : ∀ t ∈ ts, Tk t ∨ t = ⟨0, [], 0, adv l p⟩ := by
  intro t ht; rw [h2] at ht
  rcases List.mem_append.1 ht with ht | ht
  · exact .inl (h1 t ht)
  · exact .inr (List.mem_singleton.1 ht)
 refine ⟨⟨by omega, ⟨t0, adv l p, h2, fun t ht => (o7 (h1 t ht)).1⟩, fun t ht => ?_, fun t ht => by have := h4 t ht; omega, fun t ht k => ?_⟩, fun t ht k => ?_, h3⟩
 · rcases hm t ht with q | rfl
   · exact (o7 q).2.1
   · exact .inl (by simp)
 · rcases hm t ht with q | rfl
   · exact (o7 q).2.2.1 k
   · simp at k
 · rcases hm t ht with q | rfl
   · have := (o7 q).2.2.2 k
     exact wZ _ (by simpa [kg] using this)
   · simp at k
def iO (ts : List Tok) : PR Pg := ((fQ 10000 100000 ⟨[], [], [], []⟩ ts).getD (.bad 0 (0, 0)))
theorem iP {ts : List Tok} (h : ts.length ≤ 8193) : fQ 10000 100000 ⟨[], [], [], []⟩ ts = some (iO ts) ∧ ∀ g l', iO ts = .ok g l' → g.sz ≤ 70000 := by
 obtain ⟨x, h1, h2⟩ := vh (m := 100000) 10000 ⟨[], [], [], []⟩ ts (by omega) (by omega); unfold iO; rw [h1]; refine ⟨rfl, fun g l' e => ?_⟩; have := h2 g l' e; simp only [Pg.sz, aS, List.sum_nil, aF] at this; simp only [Pg.sz]; omega
def gQ (l : List UInt8) : Pg × Nat × Nat × Nat := if (pD l).1 = 0 then match iO (uY l) with | .ok g _ => (g, 0, 0, 0) | .bad e q => (pg0, e, q.1, q.2) else (pg0, pD l)
def zg {R : Type} (x : Ex) (A B : Option R) : Option R := match x with
 | .normal => A
 | .ret => B
 | _ => none
noncomputable def H47 (a0 a1 a2 : PV) (st : St) : Option St :=
(bc [(0, 1), (1, 1), (2, 1), (3, 1)] [.sl [] .nil, .sl [] .nil, .sl [] .nil, .sl [] .nil] []).bind fun p1 =>
(aj false 1 a0 st).bind fun p2 =>
(aE p2).bind fun p3 =>
(an p3 3).bind fun p4 =>
(aj true 3 p4 st).bind fun p5 =>
(av st.stk.length 4 a1 p1 st).bind fun st6 =>
(av st.stk.length 3 a2 p5 st6).bind fun st7 =>
some st7
theorem DR (a0 a1 a2 : PV) (st : St) : AK [a0, a1, a2] 92 (.agg #[]) st = H47 a0 a1 a2 st := by kernel_rfl
noncomputable def S10 (call : bF) (a0 : PV) (st : St) : Option (PV × St) :=
let q2 : PV := .ptr false st.stk.length 0
let st1 := st.push [.sl [] .nil, .sl [] .nil, .sl [] .nil, .sl [] .nil]
let q4 : PV := .ptr false st1.stk.length 0
let st3 := st1.push [.v (.int .i64 0), .v (.int .i64 0), .v (.int .i64 0)]
(call (.func 24) [ah a0] st3).bind fun r5 =>
(aT r5.1 0).bind fun p6 =>
(aT r5.1 1).bind fun p7 =>
let q9 : PV := .ptr false r5.2.stk.length 0
let st8 := r5.2.push [.v (.int .i64 0), .v (.int .i64 0), .v (.int .i64 0)]
(av st.stk.length 3 q9 p7 st8).bind fun st10 =>
(aj true 3 q9 st10).bind fun p11 =>
(bc [(0, 1), (1, 1), (2, 1)] [.v (.int .i64 0), .v (.int .i64 0), .v (.int .i64 0)] []).bind fun p12 =>
(aW Tryd.prog false .neq 38 p11 p12).bind fun p13 =>
aD p13 fun b14 => (bif b14 then
(bc [(0, 1), (1, 1), (2, 1), (3, 1)] [.sl [] .nil, .sl [] .nil, .sl [] .nil, .sl [] .nil] []).bind fun p16 =>
(aj true 3 q9 st10).bind fun p17 =>
bw (st10 = st10) <|
(av st.stk.length 4 q2 p16 st10).bind fun st18 =>
bw (((aj true 3 q9 st18).bind fun p19 =>
some (Rs.ret p19, st18)) = some (Rs.ret p17, st18)) <|
(av st.stk.length 3 q4 p17 st18).bind fun st20 =>
some (Ex.ret, [q2, q4, p6], st20)
else
some (Ex.normal, [q2, q4, p6], st10)).bind fun r15 =>
zg r15.1 ((bc [(0, 1), (1, 1), (2, 1), (3, 3)] [.sl [] .nil, .v (.int .i64 0), .v (.int .i64 0), .v (.int .i64 0), .v (.int .i64 0), .v (.int .i64 0)] [(0, (ae r15.2.1 2))]).bind fun p21 =>
(cellsOf p21).bind fun b22 =>
let q24 : PV := .ptr false r15.2.2.stk.length 0
let st23 := r15.2.2.push b22
let q26 : PV := .ptr false st23.stk.length 0
let st25 := st23.push [.v (.pointer none)]
(av st.stk.length 1 q26 q24 st25).bind fun st27 =>
(kT (Fn.func 25) true [q26, (ae r15.2.1 0), (ae r15.2.1 1)]).bind fun p28 =>
ry 25 3 p28 fun cs29 =>
(aj false 1 q26 st27).bind fun p30 =>
(call (.func 26) [ah p30] st27).bind fun r31 =>
aL r31 (fun p32 st33 =>
(bc [(0, 1), (1, 1), (2, 1)] [.v (.int .i64 0), .v (.int .i64 0), .v (.int .i64 0)] []).bind fun p37 =>
(av st.stk.length 4 (ae r15.2.1 0) p32 st33).bind fun st38 =>
(av st.stk.length 3 (ae r15.2.1 1) p37 st38).bind fun st39 =>
(aj true 4 (ae r15.2.1 0) st39).bind fun p40 =>
(aj true 3 (ae r15.2.1 1) st39).bind fun p41 =>
fin st.stk.length st.tk.length st.lp.length [p40, p41] st39) (fun t34 x35 st36 =>
(AK cs29 t34 x35 st36).bind fun st42 =>
(aj true 4 (ae r15.2.1 0) st42).bind fun p43 =>
(aj true 3 (ae r15.2.1 1) st42).bind fun p44 =>
fin st.stk.length st.tk.length st.lp.length [p43, p44] st42)) ((aj true 4 (ae r15.2.1 0) r15.2.2).bind fun p45 =>
(aj true 3 (ae r15.2.1 1) r15.2.2).bind fun p46 =>
fin st.stk.length st.tk.length st.lp.length [p45, p46] r15.2.2)
theorem vT (a0 : PV) (st : St) : E L (.func 10) [a0] st = S10 (E L) a0 st := (xa (L := L) (q := ju.lL) (by kernel_rfl) _ _).trans (by kernel_rfl)
theorem BB {s : St} {N : Nat} (hN : s.stk.length = N) {j off base sz : Nat} {bl : List Blk} {x : Blk} {cs : List PV} {tk : List (Nat × Nat)} {lp : List Aux} (hj : bl[j]? = some x) (hb : N + j < base) (hl : off + cs.length ≤ x.cs.length) (hz : cs.length = sz) (h0 : sz ≠ 0) (hs : cs.all pR = true) (hk : aH cs = true) :
 av base sz (.ptr false (N + j) off) (.agg cs) (s.app bl tk lp) = some (s.app (bl.modify j fun y => ⟨laid x.cs off cs, y.tk⟩) tk lp) := by
 subst hN
 have h1 : (s.app bl tk lp).blk false (s.stk.length + j) = some x.cs := by
  show ((s.stk ++ bl)[s.stk.length + j]?).map Blk.cs = _
  rw [List.getElem?_append_right (by omega), show s.stk.length + j - s.stk.length = j by omega, hj]
  rfl
 have h3 : dr (off + cs.length) x.cs.length = true := by rw [Nat.ble_eq]; exact hl
 have h5 : (ai cs.length sz && !ai sz 0) = true := by
  rw [hz, Nat.beq_refl]
  cases sz with
  | zero => exact absurd rfl h0
  | succ n => rfl
 have h6 : fJ (s.stk.length + j) base = true := by rw [Nat.blt_eq]; exact hb
 simp only [av, AM.cellsOf, ag, putCells, h1, h3, hk, h5, h6, bq, cond_true, Bool.or_true, Bool.false_or, jC hs, iQ]
attribute [local simp] da cD bT bU cE fc fw ef dj ec dh ed di fv bV gZ dW hI gV gO AM.ae aQ aR bg aP aD AM.onG fP cc eB Ex.bh cond_true cond_false cW cV cU cT cS cY cR cZ cX eg dm dp cC db AM.dt AM.cellsOf AM.an bQ beq_true cM al aF bf bz bS decide_true decide_false bL bB bq bA ba aC az aZ aw dc de ft aA bK bu bR cz dV dZ cK eA ew set_set eD dD fM dE cI bD dC dB cH dA eC eE fG fH bE cm ep fF dP aL aU aE AM.aT ah cQ bO aX aS aO aN AM.part bm aM cf cj cg cd cd.eO AM.dM bC cr dI fE aL laid aH bc cv
attribute [-simp] ag
attribute [local congr] dJ
theorem nf (b : Bool) (x y z u v w : Int) : aW Tryd.prog b .neq 38 (.agg [.v (.int .i64 x), .v (.int .i64 y), .v (.int .i64 z)]) (.agg [.v (.int .i64 u), .v (.int .i64 v), .v (.int .i64 w)]) = some (.v (.bool (!((x == u) && ((y == v) && ((z == w) && true)))))) := by kernel_rfl
abbrev z3 : List PV := [.v (.int .i64 0), .v (.int .i64 0), .v (.int .i64 0)]
abbrev lZ (A B F : List PV) (p : List PV) (N : Nat) : List Blk := [⟨A, []⟩, ⟨B, []⟩, ⟨F, []⟩, ⟨p, []⟩, ⟨[.ptr false (N + 3) 0], []⟩]
theorem DS {s : St} {N T Lb : Nat} (hN : s.stk.length = N) (hT : s.tk.length = T) (hL : s.lp.length = Lb) (F : List PV) (es : List (List PV)) (a d e q1 q2 : Int) :
 H47 (.ptr false (N + 4) 0) (.ptr false N 0) (.ptr false (N + 1) 0) (s.app (lZ z4 z3 F (pcf es a d e q1 q2) N) [] []) = some (s.app (lZ z4 [.v (.int .i64 e), .v (.int .i64 q1), .v (.int .i64 q2)] F (pcf es a d e q1 q2) N) [] []) := by
 have hlen : (s.app (lZ z4 z3 F (pcf es a d e q1 q2) N) [] []).stk.length = N + 5 := by rw [cz, hN]; rfl
 have s1 := BB hN (j := 0) (off := 0) (base := N + 5) (sz := 4) (bl := lZ z4 z3 F (pcf es a d e q1 q2) N) (x := ⟨z4, []⟩) (cs := z4) (tk := []) (lp := []) rfl (by omega) (by decide) rfl (by decide) rfl rfl; have s2 := BB hN (j := 1) (off := 0) (base := N + 5) (sz := 3) (bl := lZ z4 z3 F (pcf es a d e q1 q2) N) (x := ⟨z3, []⟩) (cs := [.v (.int .i64 e), .v (.int .i64 q1), .v (.int .i64 q2)]) (tk := []) (lp := []) rfl (by omega) (aq 3) rfl (by decide) rfl rfl; have m1 : (lZ z4 z3 F (pcf es a d e q1 q2) N).modify 0 (fun y => ⟨laid (⟨z4, []⟩ : Blk).cs 0 z4, y.tk⟩) = lZ z4 z3 F (pcf es a d e q1 q2) N := rfl; have m2 : (lZ z4 z3 F (pcf es a d e q1 q2) N).modify 1 (fun y => ⟨laid (⟨z3, []⟩ : Blk).cs 0 [.v (.int .i64 e), .v (.int .i64 q1), .v (.int .i64 q2)], y.tk⟩) = lZ z4 [.v (.int .i64 e), .v (.int .i64 q1), .v (.int .i64 q2)] F (pcf es a d e q1 q2) N := rfl; rw [m1] at s1; rw [m2] at s2; unfold H47; rw [hlen]; simp only [lZ, pcf, z4, z3, bz] at s1 s2 ⊢; simp [hN, hT, hL, s1, s2, bc, cv]
theorem tc {l : List UInt8} (hl : l.length < 100000) (st : St) : E L (.func 10) [str l] st = some (.tup [nB (gQ l).1, .agg (uK (gQ l).2)], st) := by
 have e46 := DG (l := l) (by omega); unfold gQ
 by_cases h0 : (pD l).1 = 0
 · rw [if_pos h0]
   have hlen : l.length ≤ 8192 := by
    have := h0; unfold pD at this; split at this
    · simp at this
    · omega
   obtain ⟨ts, hts⟩ : ∃ ts, eP l (1, 1) = .ok ts := by
    cases hL : eP l (1, 1) with
    | ok ts => exact ⟨ts, rfl⟩
    | err q => have := (uZ hlen hL).2; rw [this] at h0; simp at h0
   have hlt := xZ hlen hts; rw [hlt.1] at e46 ⊢; rw [hlt.2] at e46; obtain ⟨hr, hns, hn⟩ := CQ hlen hts
   have hne : ts ≠ [] := by
    obtain ⟨t0, q, e, _⟩ := hr.shape
    rw [e]; simp
   have hp := (iP (ts := ts) (by omega)).1; have h1 := wI hr (m := 100000) (n := 10000) (by omega) (by omega) ⟨hne, [], rfl⟩ hp
   have hA : pcA ts ts = 0 := by simp [pcA]
   cases hq : iO ts with
   | ok g l' =>
    rw [hq] at h1; rw [vT]; obtain ⟨N, T, Lb, hN, hT, hL⟩ := lens3 st
    conv => lhs; rw [← ak st]
    have e48 := h1.2 (N + 3) (st.app (lZ z4 z3 z3 (pc ts ts 0) N) [] []) (by rw [cz, hN]; show N + 3 < N + 5; omega)
    have m1 : ∀ cs, (st.app (lZ z4 z3 z3 (pc ts ts 0) N) [] []).af false (N + 3) cs = st.app (lZ z4 z3 z3 cs N) [] [] := fun cs => by subst hN; exact iQ st _ [] [] 3 cs
    rw [m1, m1] at e48; simp only [pc, pcf, lZ, z3, z4, hA, nB, ic] at e46 e48 ⊢
    generalize ax ts = es at *
    generalize j5 g.hM = rs at *
    generalize nms g.gls = gs at *
    generalize nS g.gY = fs at *
    generalize mR g.ths = hs at *
    simp [S10, nf, hN, hT, hL, e46, e48, zg, bc, cv, kT, ry, eQ]
   | bad er q =>
    rw [hq] at h1; obtain ⟨a', d'', h1⟩ := h1; rw [vT]; obtain ⟨N, T, Lb, hN, hT, hL⟩ := lens3 st
    conv => lhs; rw [← ak st]
    have e48 := h1 (N + 3) (st.app (lZ z4 z3 z3 (pc ts ts 0) N) [] []) (by rw [cz, hN]; show N + 3 < N + 5; omega)
    have m1 : ∀ cs, (st.app (lZ z4 z3 z3 (pc ts ts 0) N) [] []).af false (N + 3) cs = st.app (lZ z4 z3 z3 cs N) [] [] := fun cs => by subst hN; exact iQ st _ [] [] 3 cs
    rw [m1, m1] at e48; have e47 := DS hN hT hL z3 (ax ts) a' d'' er q.1 q.2; rw [← DR] at e47; have ez : (j5 pg0.hM = [] ∧ nms pg0.gls = []) ∧ nS pg0.gY = [] ∧ mR pg0.ths = [] := ⟨⟨rfl, rfl⟩, rfl, rfl⟩; simp only [pc, pcf, lZ, z3, z4, hA, nB, ez, ic] at e46 e47 e48 ⊢
    generalize ax ts = es at *
    simp [S10, nf, hN, hT, hL, e46, e47, e48, zg, bc, cv, kT, ry, eQ]; exact ⟨rfl, rfl, rfl, rfl⟩
 · rw [if_neg h0]
   have h0' : ¬ (((pD l).1 : Int) = 0) := by omega
   rw [vT]; obtain ⟨N, T, Lb, hN, hT, hL⟩ := lens3 st
   conv => lhs; rw [← ak st]
   have ez : (j5 pg0.hM = [] ∧ nms pg0.gls = []) ∧ nS pg0.gY = [] ∧ mR pg0.ths = [] := ⟨⟨rfl, rfl⟩, rfl, rfl⟩
   generalize pD l = f at *
   simp only [nB, ez]; simp [S10, nf, hN, hT, hL, e46, h0, h0', zg, bc, cv]; exact ⟨rfl, rfl, rfl, rfl⟩
end Go.Proofs.YtlhlijaondmccaaDoor.S
namespace Go.Proofs.YtlhlijaondmccaaDoor.S
open Go Go.AM Go.Proofs
attribute [local simp] da cD bT bU cE fc fw ef dj ec dh ed di fv bV gZ dW hI gV gO AM.ae aQ aR bg aP aD AM.onG fP cc eB Ex.bh cond_true cond_false cW cV cU cT cS cY cR cZ cX eg dm dp cC db AM.dt AM.cellsOf AM.an bQ beq_true cM al aF bf bz bS decide_true decide_false bL bB bq bA ba aC az aZ aw dc de ft aA bK bu bR cz dV dZ cK eA ew set_set eD dD fM dE cI bD dC dB cH dA eC eE fG fH bE cm ep fF dP aL aU aE AM.aT ah cQ bO aX aS aO aN AM.part bm aM cf cj cg cd cd.eO AM.dM bC cr dI fE aL laid aH bc cv
attribute [-simp] ag
attribute [local congr] dJ
abbrev cA : List UInt8 := [116, 104, 114, 101, 97, 100, 32, 123, 32, 112, 114, 105, 110, 116, 32, 49, 32, 43, 32, 50, 32, 42, 32, 51, 59, 32, 125]
abbrev cB : List UInt8 := [116, 104, 114, 101, 97, 100, 32, 123, 32, 112, 114, 105, 110, 116, 32, 59, 32, 125]
def Ev : PV → List (List PV)
 | .sl es _ => es
 | _ => []
def SA : List PV := ((gQ cA).1.ths.flatMap fun t => fg t.body).flatten
def KA (i : Nat) : List PV := (Ev (SA.getD 49 .u)).getD i []
theorem pA : (nB (gQ cA).1, (gQ cA).2) = (.agg [.sl [] .dead, .sl [] .dead, .sl [] .dead, .sl [[.sl [SA] .dead, int 1, int 1]] .dead], (0, 0, 0)) := by kernel_rfl
theorem pB : (nB (gQ cB).1, (gQ cB).2) = (.agg [.sl [] .dead, .sl [] .dead, .sl [] .dead, .sl [] .dead], (4, 1, 16)) := by kernel_rfl
theorem sA0 : SA[0]? = some (int 5) := by kernel_rfl
theorem FU : SA[49]? = some (.sl [KA 0, KA 1] .dead) := by kernel_rfl
theorem sAl : SA.length = 58 := by kernel_rfl
theorem kAl : (KA 1).length = 9 := by kernel_rfl
theorem kA1 : (KA 1)[1]? = some (int 2) := by kernel_rfl
theorem CC (b : Bool) (x y z u v w : Int) : aW Tryd.prog b .eql 38 (.agg [.v (.int .i64 x), .v (.int .i64 y), .v (.int .i64 z)]) (.agg [.v (.int .i64 u), .v (.int .i64 v), .v (.int .i64 w)]) = some (.v (.bool ((x == u) && ((y == v) && ((z == w) && true))))) := by kernel_rfl
theorem xf (st : St) : E L (.func 9) [] st = some (.v (.bool true), st) := by
 rw [EY]; obtain ⟨N, T, Lb, hN, hT, hL⟩ := lens3 st
 conv => lhs; rw [← ak (st)]
 have e1 : ∀ X, E L (.func 10) [str cA] X = _ := tc (by decide)
 have e2 : ∀ X, E L (.func 10) [str cB] X = _ := tc (by decide)
 have a1 := congrArg Prod.fst pA; have a2 := congrArg Prod.snd pA; have b1 := congrArg Prod.fst pB; have b2 := congrArg Prod.snd pB; simp only at a1 a2 b1 b2; rw [a1, a2] at e1; rw [b1, b2] at e2; clear a1 a2 b1 b2; have s0 := sA0; have s49 := FU; have k1 := kA1; have sl := sAl; have kl := kAl
 generalize SA = s at *
 generalize KA 0 = k0 at *
 generalize KA 1 = k1' at *
 simp only [uK, aa, ic] at e1 e2
 have s0' : ∀ h : 0 < s.length, s[0] = int 5 := fun h => (List.getElem_eq_iff h).2 s0
 have s49' : ∀ h : 49 < s.length, s[49] = .sl [k0, k1'] .dead := fun h => (List.getElem_eq_iff h).2 s49
 have k1q : ∀ h : 1 < k1'.length, k1'[1] = int 2 := fun h => (List.getElem_eq_iff h).2 k1
 simp [S9, s0', s49', k1q, CC, e1, e2, s0, s49, k1, sl, kl, AV, AW, AY, Dn, Dp, Dr, bc, cv, AM.part, ej]
end Go.Proofs.YtlhlijaondmccaaDoor.S
namespace Go.Proofs.YtlhlijaondmccaaDoor.S
open Go Go.AM Go.Proofs
abbrev Bq (l l' : List Tok) : Prop := l.map Tok.bare = l'.map Tok.bare
abbrev Tq (t u : Tok) : Prop := t.bare = u.bare
theorem Tq.k {t u : Tok} (h : Tq t u) : t.kind = u.kind := congrArg (fun x => x.1) h
theorem Tq.t {t u : Tok} (h : Tq t u) : t.text = u.text := congrArg (fun x => x.2.1) h
theorem Tq.m {t u : Tok} (h : Tq t u) : t.n = u.n := congrArg (fun x => x.2.2) h
abbrev XqT (a b : X) : Prop := a.text = b.text
theorem qR {t u : Tok} (op : Int) {n n' kd kd' : Int} {rc rc' name name' : List UInt8} (h1 : n = n') (h2 : kd = kd') (h3 : rc = rc') (h4 : name = name') : XqT (atX t op n kd rc name) (atX u op n' kd' rc' name') := by
 subst h1 h2 h3 h4; simp only [XqT, X.qK]; rfl
theorem X.BJ {op bin n kd : Int} {rc name : ByteArray} {ks ks' : List X} {p p' : Int × Int} (h : iI ks = iI ks') (hl : ks.length = ks'.length) : XqT ⟨op, bin, n, kd, rc, name, ks, p.1, p.2⟩ ⟨op, bin, n, kd, rc, name, ks', p'.1, p'.2⟩ := by
 rw [XqT, X.qK, X.qK]; exact (congr (congrArg (fun (a : Nat) (b : List ByteArray) => [⟨#[101, 120, 112, 114]⟩, kN op, kN bin, kN (w64 n), kN kd, rc, name, kN a] ++ b) hl) h :)
theorem EG {t u : Tok} (lv : Nat) (h : Tq t u) : gI lv t = gI lv u := by unfold gI; rw [h.k, h.t]
theorem De {t u : Tok} (h : Tq t u) : eS t = eS u := by unfold eS; rw [h.k, h.t]
section
variable {s c : Tok} {R R' : List Tok} {α β : Type}
def Tw (s c : Tok) (R R' : List Tok) (Q : α → α → Prop) (x y : Option (PR α)) : Prop := ∀ a l b l', x = some (.ok a l) → y = some (.ok b l') → ∃ Z Z', l = Z ++ s :: R ∧ l' = Z' ++ c :: R' ∧ Bq Z Z' ∧ Q a b
variable {Q : α → α → Prop} {T : β → β → Prop}
theorem Tw.bx {e : Nat} {q : Nat × Nat} {y : Option (PR α)} : Tw s c R R' Q (some (.bad e q)) y := fun a l b l' h => by cases h
theorem Tw.by {e : Nat} {q : Nat × Nat} {x : Option (PR α)} : Tw s c R R' Q x (some (.bad e q)) := fun a l b l' _ h => by cases h
theorem Tw.nx {y : Option (PR α)} : Tw s c R R' Q none y := fun a l b l' h => by cases h
theorem Tw.ny {x : Option (PR α)} : Tw s c R R' Q x none := fun a l b l' _ h => by cases h
theorem Tw.ok {a b : α} {Z Z' : List Tok} (h : Bq Z Z') (hq : Q a b) : Tw s c R R' Q (some (.ok a (Z ++ s :: R))) (some (.ok b (Z' ++ c :: R'))) := fun a1 l b1 l' e e' => by
 cases e; cases e'; exact ⟨Z, Z', rfl, rfl, h, hq⟩
theorem Tw.pb {x y : Option (PR α)} {K K' : α → List Tok → Option (PR β)} (h : Tw s c R R' Q x y) (hk : ∀ a b Z Z', Q a b → Bq Z Z' → Tw s c R R' T (K a (Z ++ s :: R)) (K' b (Z' ++ c :: R'))) : Tw s c R R' T (S.pb x K) (S.pb y K') := by
 intro a l b l' e e'
 match x, y, h, e, e' with
 | none, _, h, e, e' => cases e
 | some (.bad _ _), _, h, e, e' => cases e
 | some (.ok _ _), none, h, e, e' => cases e'
 | some (.ok _ _), some (.bad _ _), h, e, e' => cases e'
 | some (.ok a0 l0), some (.ok b0 l0'), h, e, e' =>
  obtain ⟨Z, Z', rfl, rfl, h1, h2⟩ := h a0 l0 b0 l0' rfl rfl; exact hk a0 b0 Z Z' h2 h1 a l b l' e e'
theorem Tw.ite {p p' : Prop} [Decidable p] [Decidable p'] {x y x' y' : Option (PR α)} (hp : p ↔ p') (h : p → Tw s c R R' Q x y) (h' : ¬ p → Tw s c R R' Q x' y') : Tw s c R R' Q (if p then x else x') (if p' then y else y') := by
 by_cases h0 : p
 · rw [if_pos h0, if_pos (hp.1 h0)]; exact h h0
 · rw [if_neg h0, if_neg fun e => h0 (hp.2 e)]; exact h' h0
theorem Tw.down {x y : Option (PR α)} {d d' : Nat} {t t' : Tok} (h : Tw s c R R' Q x y) : Tw s c R R' Q (mq d t x) (mq d' t' y) := by
 unfold mq; split
 · exact .bx
 split
 · exact .by
 exact h
theorem Tw.map {x y : PR α} {f g : α → β} (h : Tw s c R R' Q (some x) (some y)) (hf : ∀ a b, Q a b → T (f a) (g b)) : Tw s c R R' T (some (x.map f)) (some (y.map g)) := by
 intro a l b l' e e'
 match x, y, h, e, e' with
 | .bad _ _, _, h, e, e' => cases e
 | .ok _ _, .bad _ _, h, e, e' => cases e'
 | .ok a0 l0, .ok b0 l0', h, e, e' =>
  obtain ⟨Z, Z', h1, h2, h3, h4⟩ := h a0 l0 b0 l0' rfl rfl
  cases e; cases e'
  exact ⟨Z, Z', h1, h2, h3, hf _ _ h4⟩
variable (hs : s.kind = 5 ∧ s.text = [59]) (hc : c.kind = 5 ∧ c.text = [41])
include hs hc
theorem wA {k : Nat} (hk : k ≠ 5 ∧ k ≠ 0) {A A' : List Tok} (h : Bq A A') : Tw s c R R' Tq (some (eM k (A ++ s :: R))) (some (eM k (A' ++ c :: R'))) := by
 match A, A', h with
 | [], [], h => unfold eM; rw [if_neg (show ¬ (hd ([] ++ s :: R)).kind = k by show ¬ s.kind = k; omega)]; exact .bx
 | [], _ :: _, h => cases h
 | _ :: _, [], h => cases h
 | t :: A, t' :: A', h =>
  simp only [Bq, aX, List.cons.injEq] at h; have h1 : Tq t t' := h.1
  show Tw s c R R' Tq (some (if t.kind = k then .ok t (cP (t :: (A ++ s :: R))) else .bad 4 t.p)) (some (if t'.kind = k then .ok t' (cP (t' :: (A' ++ c :: R'))) else .bad 4 t'.p))
  rw [← h1.k]
  by_cases e : t.kind = k
  · rw [if_pos e, if_pos e]
    have e0 : t.kind ≠ 0 := by omega
    have e1 : t'.kind ≠ 0 := by rw [← h1.k]; exact e0
    rw [show cP (t :: (A ++ s :: R)) = A ++ s :: R from if_neg e0, show cP (t' :: (A' ++ c :: R')) = A' ++ c :: R' from if_neg e1]; exact .ok h.2 h1
  · rw [if_neg e]; exact .bx
theorem Ez (u : List UInt8) {A A' : List Tok} (h : Bq A A') : Tw s c R R' (fun _ _ => True) (some (cF u (A ++ s :: R))) (some (cF u (A' ++ c :: R'))) := by
 match A, A', h with
 | [], [], h =>
  unfold cF
  by_cases e : u = [59]
  · subst e
    rw [show isT ([] ++ c :: R') [59] = false by simp [isT, hd, hc.2], if_neg (by simp : ¬ (false = true))]; exact .by
  · rw [show isT ([] ++ s :: R) u = false by simp only [isT, hd, aZ, List.headD_cons, hs.2, Bool.and_eq_false_iff, decide_eq_false_iff_not]; exact .inr fun q => e q.symm, if_neg (by simp : ¬ (false = true))]; exact .bx
 | [], _ :: _, h => cases h
 | _ :: _, [], h => cases h
 | t :: A, t' :: A', h =>
  simp only [Bq, aX, List.cons.injEq] at h; have h1 : Tq t t' := h.1; unfold cF; rw [show isT (t' :: A' ++ c :: R') u = isT (t :: A ++ s :: R) u by unfold isT; show (_ && _) = (_ && _); rw [show hd (t' :: A' ++ c :: R') = t' from rfl, show hd (t :: A ++ s :: R) = t from rfl, h1.k, h1.t]]; split
  · exact .ok h.2 trivial
  · exact .bx
theorem Ay : ∀ n : Nat, (∀ n' d d' A A', Bq A A' → Tw s c R R' XqT (iA n d (A ++ s :: R)) (iA n' d' (A' ++ c :: R'))) ∧ (∀ n' d d' A A', Bq A A' → Tw s c R R' XqT (ff n d (A ++ s :: R)) (ff n' d' (A' ++ c :: R'))) ∧
 (∀ n' lv d d' A A', Bq A A' → Tw s c R R' XqT (cN n lv d (A ++ s :: R)) (cN n' lv d' (A' ++ c :: R'))) ∧ (∀ n' lv d d' e e' A A', XqT e e' → Bq A A' → Tw s c R R' XqT (gD n lv d e (A ++ s :: R)) (gD n' lv d' e' (A' ++ c :: R')))
 | 0 => by
  refine ⟨fun n' d d' A A' h => ?_, fun n' d d' A A' h => ?_, fun n' lv d d' A A' h => ?_, fun n' lv d d' e e' A A' _ h => ?_⟩
  · rw [iA]; exact .nx
  · rw [ff]; exact .nx
  · rw [cN]; exact .nx
  · rw [gD]; exact .nx
 | n + 1 => by
  obtain ⟨hA, hP, hC, hR⟩ := Ay n
  have key : ∀ {t t' : Tok} {A A' : List Tok}, Bq (t :: A) (t' :: A') → Tq t t' ∧ Bq A A' := fun h => by simpa only [Bq, aX, List.cons.injEq] using h
  have nx : ∀ {t : Tok} {l : List Tok}, t.kind ≠ 0 → cP (t :: l) = l := fun h => if_neg h
  refine ⟨fun n' d d' A A' h => ?_, fun n' d d' A A' h => ?_, fun n' lv d d' A A' h => ?_, fun n' lv d d' e1 e' A A' he h => ?_⟩
  · cases n' with
    | zero => rw [iA.eq_1]; exact .ny
    | succ n' =>
     rw [iA, iA]
     match A, A', h with
     | [], _ :: _, h => cases h
     | _ :: _, [], h => cases h
     | [], [], h =>
      have h0 : (hd ([] ++ s :: R)).kind = 5 := hs.1; have h1 : (hd ([] ++ s :: R)).text = [59] := hs.2; simp only [h0, h1]; exact .bx
     | t :: A, t' :: A', h =>
      obtain ⟨h1, h2⟩ := key h; have k := h1.k; have x := h1.t; have m := h1.m
      show Tw s c R R' XqT (if t.kind = 3 then _ else _) (if t'.kind = 3 then _ else _)
      refine .ite (by rw [k]) (fun q => ?_) fun _ => .ite (by show t.kind = 4 ↔ t'.kind = 4; rw [k]) (fun q => ?_) fun _ => .ite (by show t.kind = 1 ↔ t'.kind = 1; rw [k]) (fun q => ?_) fun _ => .ite (by show t.kind = 2 ∧ t.text = _ ↔ t'.kind = 2 ∧ t'.text = _; rw [k, x]) (fun q => ?_) fun _ =>
       .ite (by show t.kind = 2 ∧ t.text = _ ↔ t'.kind = 2 ∧ t'.text = _; rw [k, x]) (fun q => ?_) fun _ => .ite (by show t.kind = 5 ∧ t.text = _ ↔ t'.kind = 5 ∧ t'.text = _; rw [k, x]) (fun q => ?_) fun _ => .bx
      · have q : t.kind = 3 := q
        rw [aw, aw, nx (by omega), nx (by omega)]; exact .ok h2 (qR _ (by show (t.n : Int) = t'.n; rw [m]) rfl rfl rfl)
      · have q : t.kind = 4 := q
        rw [aw, aw, nx (by omega), nx (by omega)]; exact .ok h2 (qR _ (by show (t.n : Int) = t'.n; rw [m]) rfl rfl rfl)
      · have q : t.kind = 1 := q
        rw [aw, aw, nx (by omega), nx (by omega)]; exact .ok h2 (qR _ rfl rfl rfl x)
      · have q : t.kind = 2 := q.1
        rw [aw, aw, nx (by omega), nx (by omega)]
        exact (wA hs hc (by decide) h2).map fun a b hq => qR _ (by rw [hq.m]) rfl rfl rfl
      · have q : t.kind = 2 := q.1
        rw [aw, aw, nx (by omega), nx (by omega)]
        match A, A', h2 with
        | [], _ :: _, h => cases h
        | _ :: _, [], h => cases h
        | [], [], h2 =>
         rw [show isT ([] ++ s :: R) [105, 110, 116, 115] = false by simp [isT, hd, hs.2], show isT ([] ++ c :: R') [105, 110, 116, 115] = false by simp [isT, hd, hc.2], if_neg (by simp : ¬ (false = true)), if_neg (by simp : ¬ (false = true))]
         exact (wA hs hc (by decide) h2).map fun a b hq => qR _ rfl rfl (by rw [hq.t]) rfl
        | u :: A, u' :: A', h2 =>
         obtain ⟨h3, h4⟩ := key h2
         refine .ite (by rw [show isT (u' :: A' ++ c :: R') [105, 110, 116, 115] = isT (u :: A ++ s :: R) [105, 110, 116, 115] by unfold isT; show (_ && _) = (_ && _); rw [show hd (u' :: A' ++ c :: R') = u' from rfl, show hd (u :: A ++ s :: R) = u from rfl, h3.k, h3.t]]) (fun _ => .ok h4 (qR _ rfl rfl rfl rfl)) fun _ => (wA hs hc (by decide) h2).map fun a b hq => qR _ rfl rfl (by rw [hq.t]) rfl
      · have q : t.kind = 5 := q.1
        rw [aw, aw, nx (by omega), nx (by omega)]; exact .down ((hC _ _ _ _ A A' h2).pb fun e e' Z Z' he h3 => (Ez hs hc _ h3).pb fun _ _ Y Y' _ h4 => .ok h4 he)
  · cases n' with
    | zero => rw [ff.eq_1]; exact .ny
    | succ n' =>
     rw [ff, ff]
     match A, A', h with
     | [], _ :: _, h => cases h
     | _ :: _, [], h => cases h
     | [], [], h =>
      have h0 : eS (hd ([] ++ s :: R)) = 0 := by show eS s = 0; simp [eS, hs.1, hs.2]
      have h1 : eS (hd ([] ++ c :: R')) = 0 := by show eS c = 0; simp [eS, hc.1, hc.2]
      simp only [h0, h1, if_true]; exact hA _ _ _ [] [] h
     | t :: A, t' :: A', h =>
      obtain ⟨h1, h2⟩ := key h; have e := De h1
      show Tw s c R R' XqT (if eS t = 0 then _ else _) (if eS t' = 0 then _ else _)
      refine .ite (by rw [e]) (fun _ => hA _ _ _ (t :: A) (t' :: A') h) fun q => ?_
      have k0 : t.kind ≠ 0 := fun k0 => q (by simp [eS, k0])
      rw [aw, aw, nx k0, nx (by rw [← h1.k]; exact k0)]; refine .down ((hP _ _ _ A A' h2).pb fun k k' Z Z' hk h3 => .ok h3 ?_)
      show XqT ⟨eS t, 0, 0, 0, bs [], bs [], [k], t.p.1, t.p.2⟩ ⟨eS t', 0, 0, 0, bs [], bs [], [k'], t'.p.1, t'.p.2⟩
      rw [e]; exact X.BJ (p := (t.p.1, t.p.2)) (p' := (t'.p.1, t'.p.2)) (by simp only [iI]; rw [hk]) rfl
  · cases n' with
    | zero => rw [cN.eq_1]; exact .ny
    | succ n' =>
     rw [cN, cN]
     exact .ite Iff.rfl (fun _ => hP _ _ _ A A' h) fun _ => (hC _ _ _ _ A A' h).pb fun e e' Z Z' he h1 => hR _ _ _ _ e e' Z Z' he h1
  · cases n' with
    | zero => rw [gD.eq_1]; exact .ny
    | succ n' =>
     rw [gD, gD]
     match A, A', h with
     | [], _ :: _, h => cases h
     | _ :: _, [], h => cases h
     | [], [], h =>
      have sg : ∀ {t : Tok}, t.kind = 5 → (t.text = [59] ∨ t.text = [41]) → gI lv t = none := fun {t} k x => by
       unfold gI; rw [if_neg]
       rintro ⟨_, q⟩
       rcases x with x | x <;> rw [x] at q <;> (match lv, q with | 0, q => simp [fV] at q | 1, q => simp [fV] at q | n + 2, q => simp [fV] at q)
      have h0 : gI lv (hd ([] ++ s :: R)) = none := sg hs.1 (.inl hs.2); have h1 : gI lv (hd ([] ++ c :: R')) = none := sg hc.1 (.inr hc.2); simp only [h0, h1]; exact .ok (Z := []) (Z' := []) rfl he
     | t :: A, t' :: A', h =>
      obtain ⟨h1, h2⟩ := key h; have e := EG lv h1
      show Tw s c R R' XqT (match gI lv t with | none => _ | some b => _) (match gI lv t' with | none => _ | some b => _)
      rw [← e]
      cases hb : gI lv t with
      | none => exact .ok h he
      | some b =>
       have k0 : t.kind ≠ 0 := fun k0 => by simp [gI, k0] at hb
       show Tw s c R R' XqT (S.pb (cN n (lv + 1) d (cP (t :: (A ++ s :: R)))) _) (S.pb (cN n' (lv + 1) d' (cP (t' :: (A' ++ c :: R')))) _)
       rw [nx k0, nx (by rw [← h1.k]; exact k0)]
       refine (hC _ _ _ _ A A' h2).pb fun k k' Z Z' hk h3 => ?_
       have hn : XqT ⟨9, b, 0, 0, bs [], bs [], [e1, k], t.p.1, t.p.2⟩ ⟨9, b, 0, 0, bs [], bs [], [e', k'], t'.p.1, t'.p.2⟩ := X.BJ (p := (t.p.1, t.p.2)) (p' := (t'.p.1, t'.p.2)) (by simp only [iI]; rw [hk, he]) rfl
       exact .ite Iff.rfl (fun _ => .ok h3 hn) fun _ => hR _ _ _ _ _ _ Z Z' hn h3
end
def Bd {α : Type} (x : Option (PR α)) : Prop := ∀ e q, x = some (.bad e q) → e ≠ 0
section
variable {α β : Type}
theorem Bd.ok {a : α} {l : List Tok} : Bd (some (.ok a l)) := fun e q h => by cases h
theorem Bd.b4 {q : Nat × Nat} : Bd (some (.bad 4 q) : Option (PR α)) := fun e q h => by cases h; decide
theorem Bd.b10 {q : Nat × Nat} : Bd (some (.bad 10 q) : Option (PR α)) := fun e q h => by cases h; decide
theorem Bd.non : Bd (none : Option (PR α)) := fun e q h => by cases h
theorem Bd.pb {x : Option (PR α)} {K : α → List Tok → Option (PR β)} (h : Bd x) (hk : ∀ a l, Bd (K a l)) : Bd (S.pb x K) := by
 match x, h with
 | none, _ => exact .non
 | some (.bad e0 q0), h => exact fun e q he => by cases he; exact h e0 q0 rfl
 | some (.ok a l), h => exact hk a l
theorem Bd.ite {p : Prop} [Decidable p] {x y : Option (PR α)} (h : Bd x) (h' : Bd y) : Bd (if p then x else y) := by split <;> assumption
theorem Bd.down {d : Nat} {t : Tok} {x : Option (PR α)} (h : Bd x) : Bd (mq d t x) := .ite .b10 h
theorem Bd.map {x : PR α} {f : α → β} (h : Bd (some x)) : Bd (some (x.map f)) := by
 match x, h with
 | .ok a l, _ => exact .ok
 | .bad e0 q0, h => exact fun e q he => by cases he; exact h e0 q0 rfl
end
theorem hG (s : List UInt8) (l : List Tok) : Bd (some (cF s l)) := by unfold cF; split; exact .ok; exact .b4
theorem iN (k : Nat) (l : List Tok) : Bd (some (eM k l)) := by unfold eM; split; exact .ok; exact .b4
theorem Ft (l : List Tok) : Bd (some (vK l)) := by
 unfold vK; split
 · exact .ok
 split
 · exact .ok
 split
 · exact .ok
 exact (iN 1 l).map
theorem tR (l : List Tok) : Bd (mH l) := (iN 1 l).pb fun _ l1 => (hG _ l1).pb fun _ l2 => (Ft l2).pb fun _ _ => .ok
theorem Ax : ∀ n : Nat, (∀ d l, Bd (iA n d l)) ∧ (∀ d l, Bd (ff n d l)) ∧ (∀ lv d l, Bd (cN n lv d l)) ∧ (∀ lv d e l, Bd (gD n lv d e l))
 | 0 => ⟨fun d l => by rw [iA]; exact .non, fun d l => by rw [ff]; exact .non, fun lv d l => by rw [cN]; exact .non, fun lv d e l => by rw [gD]; exact .non⟩
 | n + 1 => by
  obtain ⟨hA, hP, hC, hR⟩ := Ax n; refine ⟨fun d l => ?_, fun d l => ?_, fun lv d l => ?_, fun lv d e l => ?_⟩
  · rw [iA]
    exact .ite .ok (.ite .ok (.ite .ok (.ite (iN _ _).map (.ite (.ite .ok (iN _ _).map) (.ite (.down ((hC _ _ _).pb fun _ _ => (hG _ _).pb fun _ _ => .ok)) .b4)))))
  · rw [ff]; exact .ite (hA _ _) (.down ((hP _ _).pb fun _ _ => .ok))
  · rw [cN]; exact .ite (hP _ _) ((hC _ _ _).pb fun _ _ => hR _ _ _ _)
  · rw [gD]
    split
    · exact .ok
    · exact (hC _ _ _).pb fun _ _ => .ite .ok (hR _ _ _ _)
theorem lC (n lv d : Nat) (l : List Tok) : Bd (cN n lv d l) := (Ax n).2.2.1 lv d l
theorem yd (n d : Nat) (l : List Tok) : Bd (nX n d l) := (iN _ _).pb fun _ _ => .ite ((iN _ _).pb fun _ _ => .ok) (.ite ((lC _ _ _ _).pb fun _ _ => (hG _ _).pb fun _ _ => .ok) .ok)
theorem yj (n d : Nat) (l : List Tok) : Bd (j6 n d l) := .ite ((yd _ _ _).pb fun _ _ => .ok) (.ite ((iN _ _).pb fun _ _ => .ok) (.ite (.ite ((lC _ _ _ _).pb fun _ _ => .ok) ((iN _ _).pb fun _ _ => .ok)) ((lC _ _ _ _).pb fun _ _ => .ok)))
theorem Aa : ∀ (n m d : Nat) (acc : List X) (l : List Tok), Bd (nw n m d acc l)
 | 0, _, _, _, _ => by rw [nw]; exact .non
 | n + 1, m, d, acc, l => by rw [nw]; exact (lC _ _ _ _).pb fun _ _ => .ite .ok ((hG _ _).pb fun _ _ => Aa n m d _ _)
theorem Cj (n d : Nat) (l : List Tok) : Bd (sn n d l) := (hG _ _).pb fun _ _ => .ite .ok (Aa _ _ _ _ _)
theorem n8 (s : S) (l : List Tok) : Bd (fI s l) := (hG _ _).pb fun _ _ => .ok
theorem BC : ∀ n : Nat, (∀ d l, Bd (fk n d l)) ∧ (∀ d acc l, Bd (kP n d acc l)) ∧ (∀ d t nm l, Bd (ky n d t nm l)) ∧ (∀ d l, Bd (lY n d l))
 | 0 => ⟨fun d l => by rw [fk]; exact .non, fun d acc l => by rw [kP]; exact .non, fun d t nm l => by rw [ky]; exact .non, fun d l => by rw [lY]; exact .non⟩
 | n + 1 => by
  obtain ⟨hB, hW, hL, hS⟩ := BC n; refine ⟨fun d l => ?_, fun d acc l => ?_, fun d t nm l => ?_, fun d l => ?_⟩
  · rw [fk]; exact (hG _ _).pb fun _ _ => .down (hW _ _ _)
  · rw [kP]; exact .ite .ok ((hS _ _).pb fun _ _ => hW _ _ _)
  · rw [ky]; exact (iN _ _).pb fun _ _ => (hB _ _).pb fun _ _ => .ok
  · rw [lY]
    exact .ite (.ite ((hG _ _).pb fun _ _ => hL _ _ _ _) ((hG _ _).pb fun _ _ => (yj _ _ _).pb fun _ _ => n8 _ _)) (.ite (hL _ _ _ _) (.ite ((lC _ _ _ _).pb fun _ _ => (hB _ _).pb fun _ _ => .ite ((hB _ _).pb fun _ _ => .ok) .ok) (.ite ((hB _ _).pb fun _ _ => .ok)
     (.ite ((iN _ _).pb fun _ _ => (hG _ _).pb fun _ _ => (yj _ _ _).pb fun _ _ => n8 _ _) (.ite ((yd _ _ _).pb fun _ _ => (hG _ _).pb fun _ _ => (lC _ _ _ _).pb fun _ _ => n8 _ _) (.ite ((lC _ _ _ _).pb fun _ _ => n8 _ _) (.ite (n8 _ _) (.ite (n8 _ _)
      (.ite ((iN _ _).pb fun _ _ => (Cj _ _ _).pb fun _ _ => n8 _ _) .b4)))))))))
theorem xv (n d : Nat) (l : List Tok) : Bd (fk n d l) := (BC n).1 d l
theorem uI : ∀ (n : Nat) (acc : List Nm) (l : List Tok), Bd (iV n acc l)
 | 0, _, _ => by rw [iV]; exact .non
 | n + 1, acc, l => by rw [iV]; exact .ite .ok ((tR _).pb fun _ _ => (hG _ _).pb fun _ _ => uI n _ _)
theorem u9 : ∀ (n : Nat) (acc : List Nm) (l : List Tok), Bd (iH n acc l)
 | 0, _, _ => by rw [iH]; exact .non
 | n + 1, acc, l => by rw [iH]; exact (tR _).pb fun _ _ => .ite .ok ((hG _ _).pb fun _ _ => u9 n _ _)
theorem Fl (n : Nat) (l : List Tok) : Bd (zl n l) := (iN _ _).pb fun _ _ => (hG _ _).pb fun _ _ => (uI _ _ _).pb fun _ _ => .ok
theorem E2 (n : Nat) (l : List Tok) : Bd (AH n l) := (iN _ _).pb fun _ _ => (hG _ _).pb fun _ _ => (Bd.ite .ok (u9 _ _ _)).pb fun _ _ => (xv _ _ _).pb fun _ _ => .ok
theorem rF (m : Nat) : ∀ (n : Nat) (g : Pg) (l : List Tok), Bd (fQ n m g l)
 | 0, _, _ => by rw [fQ]; exact .non
 | n + 1, g, l => by
  rw [fQ]; exact .ite .ok (.ite ((Fl _ _).pb fun _ _ => rF m n _ _) (.ite ((tR _).pb fun _ _ => (hG _ _).pb fun _ _ => rF m n _ _) (.ite ((E2 _ _).pb fun _ _ => rF m n _ _) (.ite ((xv _ _ _).pb fun _ _ => rF m n _ _) .b4))))
theorem zf {ts : List Tok} (h : ts.length ≤ 8193) {e : Nat} {q : Nat × Nat} (hb : iO ts = .bad e q) : e ≠ 0 := by
 have h1 := rF 100000 10000 ⟨[], [], [], []⟩ ts; rw [(iP h).1, hb] at h1; exact h1 e q rfl
theorem js {α β : Type} {x : Option (PR α)} {K : α → List Tok → Option (PR β)} {b : β} {l : List Tok} (h : S.pb x K = some (.ok b l)) : ∃ a l1, x = some (.ok a l1) ∧ K a l1 = some (.ok b l) := by
 match x, h with
 | some (.ok a l1), h => exact ⟨a, l1, rfl, h⟩
abbrev k1 : Tok := ⟨2, [116, 104, 114, 101, 97, 100], 0, (1, 1)⟩
abbrev k2 : Tok := ⟨5, [123], 0, (1, 8)⟩
abbrev k3 : Tok := ⟨2, [112, 114, 105, 110, 116], 0, (1, 10)⟩
abbrev kO : Tok := ⟨5, [40], 0, (1, 16)⟩
abbrev sg (w : List UInt8) (q : Nat × Nat) : Tok := ⟨5, w, 0, q⟩
abbrev en (q : Nat × Nat) : Tok := ⟨0, [], 0, q⟩
theorem yf (n m : Nat) (l : List Tok) : fQ (n + 1) (m + 3) ⟨[], [], [], []⟩ (k1 :: k2 :: k3 :: l) =
 S.pb (S.pb (S.pb (cN m 0 1 l) fun e l1 => fI (mkS k3 5 (bs []) rt0 pl0 e 0 [] [] []) l1) fun s l1 => kP (m + 1) 1 ([] ++ [s]) l1) fun b l1 => fQ n (m + 3) ⟨[], [], [], [] ++ [⟨b, k1.p.1, k1.p.2⟩]⟩ l1 := by
 rw [fQ]
 show S.pb (fk (m + 2 + 1) 0 (k2 :: k3 :: l)) _ = _
 rw [fk]
 show S.pb (kP (m + 1 + 1) 1 [] (k3 :: l)) _ = _
 rw [kP]
 show S.pb (S.pb (lY (m + 1) 1 (k3 :: l)) _) _ = _
 rw [lY]
 rfl
theorem tD (n lv d : Nat) (l : List Tok) (h : lv ≠ 3) : cN (n + 1) lv d l = S.pb (cN n (lv + 1) d l) fun e l1 => gD n lv d e l1 := by rw [cN, if_neg h]
theorem FD (n d : Nat) (l : List Tok) : cN (n + 1) 3 d l = ff n d l := by rw [cN, if_pos rfl]
theorem Fk (n d : Nat) (l : List Tok) : ff (n + 1) d (kO :: l) = iA n d (kO :: l) := by rw [ff]; rfl
theorem FC (n : Nat) (l : List Tok) : iA (n + 1) 1 (kO :: l) = S.pb (cN n 0 2 l) fun e l1 => S.pb (some (cF [41] l1)) fun _ l2 => some (.ok e l2) := by rw [iA]; rfl
theorem Cu (k : Nat) (l : List Tok) : cN (k + 6) 0 1 (kO :: l) =
 S.pb (S.pb (S.pb (S.pb (cN k 0 2 l) fun e l1 => S.pb (some (cF [41] l1)) fun _ l2 => some (.ok e l2)) fun e l1 => gD (k + 3) 2 1 e l1) fun e l1 => gD (k + 4) 1 1 e l1) fun e l1 => gD (k + 5) 0 1 e l1 := by
 rw [tD (k + 5) 0 1 _ (by decide), tD (k + 4) (0 + 1) 1 _ (by decide), tD (k + 3) (0 + 1 + 1) 1 _ (by decide), FD, Fk, FC]
theorem pN (k lv : Nat) (hl : lv < 3) (e : X) (q : Nat × Nat) (l : List Tok) : gD (k + 1) lv 1 e (sg [59] q :: l) = some (.ok e (sg [59] q :: l)) := by
 rw [gD]
 have : gI lv (hd (sg [59] q :: l)) = none := by
  match lv, hl with
  | 0, _ => rfl
  | 1, _ => rfl
  | 2, _ => rfl
 simp only [this]
theorem vq (m : Nat) (s : S) (q q1 q2 : Nat × Nat) : S.pb (fI s (sg [59] q :: [sg [125] q1, en q2])) (fun s l1 => kP (m + 1) 1 ([] ++ [s]) l1) = some (.ok [s] [en q2]) := by
 show kP (m + 1) 1 ([] ++ [s]) [sg [125] q1, en q2] = _
 rw [kP]; rfl
theorem yg (n m : Nat) (g : Pg) (q : Nat × Nat) : fQ (n + 1) m g [en q] = some (.ok g [en q]) := by rw [fQ]; rfl
theorem Ct {A : List Tok} {q0 q1 q2 r0 r1 r2 r3 : Nat × Nat} {g g' : Pg} {l l' : List Tok} (hn : A.length ≤ 8000) (h : iO (k1 :: k2 :: k3 :: (A ++ sg [59] q0 :: [sg [125] q1, en q2])) = .ok g l)
 (h' : iO (k1 :: k2 :: k3 :: kO :: (A ++ sg [41] r0 :: [sg [59] r1, sg [125] r2, en r3])) = .ok g' l') :
 ∃ e e', g = ⟨[], [], [], [⟨[mkS k3 5 (bs []) rt0 pl0 e 0 [] [] []], 1, 1⟩]⟩ ∧ g' = ⟨[], [], [], [⟨[mkS k3 5 (bs []) rt0 pl0 e' 0 [] [] []], 1, 1⟩]⟩ ∧ e.text = e'.text := by
 have p1 := (iP (ts := k1 :: k2 :: k3 :: (A ++ sg [59] q0 :: [sg [125] q1, en q2])) (by simp; omega)).1; have p2 := (iP (ts := k1 :: k2 :: k3 :: kO :: (A ++ sg [41] r0 :: [sg [59] r1, sg [125] r2, en r3])) (by simp; omega)).1; rw [h] at p1; rw [h'] at p2; have p1 := (yf 9999 99997 _).symm.trans p1; have p2 := (yf 9999 99997 _).symm.trans p2; obtain ⟨b, lb, h1, h2⟩ := js p1; obtain ⟨s, ls, h3, h4⟩ := js h1; obtain ⟨e, le, h5, h6⟩ := js h3; obtain ⟨b', lb', h1', h2'⟩ := js p2; obtain ⟨s', ls', h3', h4'⟩ := js h1'; obtain ⟨e', le', h5', h6'⟩ := js h3'; have h5' := (Cu 99991 _).symm.trans h5'; obtain ⟨e3, l3, a3, b3⟩ := js h5'; obtain ⟨e2, l2, a2, b2⟩ := js a3; obtain ⟨e1, l1, a1, b1⟩ := js a2; obtain ⟨e0, l0, a0, b0⟩ := js a1; obtain ⟨tt, lt, c0, c1⟩ := js b0; obtain ⟨Z, Z', z1, z2, z3, z4⟩ := (Ay (s := sg [59] q0) (c := sg [41] r0) (R := [sg [125] q1, en q2]) (R' := [sg [59] r1, sg [125] r2, en r3]) ⟨rfl, rfl⟩ ⟨rfl, rfl⟩ 99997).2.2.1 99991 0 1 2 A A rfl e le e0 l0 h5 a0; subst z1 z2
 match Z, Z', z3 with
 | [], _ :: _, z3 => cases z3
 | _ :: _, [], z3 => cases z3
 | z :: Z, z' :: Z', z3 =>
  obtain ⟨u, lu, d0, -⟩ := js h6
  have w1 : z.text = [59] := by
   have := Option.some.inj d0; unfold cF at this; split at this
   · rename_i c; simp only [isT, ao, decide_eq_true_eq] at c; exact c.2
   · cases this
  have w2 : z'.text = [41] := by
   have := Option.some.inj c0; unfold cF at this; split at this
   · rename_i c; simp only [isT, ao, decide_eq_true_eq] at c; exact c.2
   · cases this
  simp only [Bq, aX, List.cons.injEq] at z3; have : z.text = z'.text := congrArg (fun x => x.2.1) z3.1; rw [w1, w2] at this; cases this
 | [], [], _ =>
  have f1 : S.pb (fI (mkS k3 5 (bs []) rt0 pl0 e 0 [] [] []) (sg [59] q0 :: [sg [125] q1, en q2])) (fun s l1 => kP (99997 + 1) 1 ([] ++ [s]) l1) = some (.ok b lb) := by
   rw [show fI (mkS k3 5 (bs []) rt0 pl0 e 0 [] [] []) (sg [59] q0 :: [sg [125] q1, en q2]) = some (.ok s ls) from h6]; exact h4
  rw [vq] at f1; obtain ⟨rfl, rfl⟩ := PR.ok.inj (Option.some.inj f1); have f2 := (yg 9998 _ _ _).symm.trans h2; obtain ⟨rfl, -⟩ := PR.ok.inj (Option.some.inj f2); have c0 : cF [41] (sg [41] r0 :: [sg [59] r1, sg [125] r2, en r3]) = .ok tt lt := Option.some.inj c0
  have e0' : cF [41] (sg [41] r0 :: [sg [59] r1, sg [125] r2, en r3]) = .ok (sg [41] r0) [sg [59] r1, sg [125] r2, en r3] := by kernel_rfl
  rw [e0'] at c0; obtain ⟨rfl, rfl⟩ := PR.ok.inj c0; obtain ⟨rfl, rfl⟩ := PR.ok.inj (Option.some.inj c1); rw [pN _ 2 (by decide)] at b1; obtain ⟨rfl, rfl⟩ := PR.ok.inj (Option.some.inj b1); rw [pN _ 1 (by decide)] at b2; obtain ⟨rfl, rfl⟩ := PR.ok.inj (Option.some.inj b2); rw [pN _ 0 (by decide)] at b3; obtain ⟨rfl, rfl⟩ := PR.ok.inj (Option.some.inj b3)
  have f3 : S.pb (fI (mkS k3 5 (bs []) rt0 pl0 e0 0 [] [] []) (sg [59] r1 :: [sg [125] r2, en r3])) (fun s l1 => kP (99997 + 1) 1 ([] ++ [s]) l1) = some (.ok b' lb') := by
   rw [show fI (mkS k3 5 (bs []) rt0 pl0 e0 0 [] [] []) (sg [59] r1 :: [sg [125] r2, en r3]) = some (.ok s' ls') from h6']; exact h4'
  rw [vq] at f3; obtain ⟨rfl, rfl⟩ := PR.ok.inj (Option.some.inj f3); have f4 := (yg 9998 _ _ _).symm.trans h2'; obtain ⟨rfl, -⟩ := PR.ok.inj (Option.some.inj f4); exact ⟨e, e0, rfl, rfl, z4⟩
def txl : List Tok → Nat
 | [] => 0
 | t :: r => t.text.length + txl r
theorem oM : ∀ (k : Nat) (rest : List UInt8) (p : Nat × Nat), rest.length = k → ∀ ts, eP rest p = .ok ts → txl ts ≤ rest.length ∧ ts.length ≤ rest.length + 1 := by
 intro k
 induction k using Nat.strongRecOn with
 | ind k ih =>
  intro rest p hk ts h
  cases rest with
  | nil =>
   rw [mE] at h; obtain rfl := LR.ok.inj h; exact ⟨aq _, aq _⟩
  | cons c l =>
   by_cases hb : eV (c :: l) = 0
   · cases ht : (dN (c :: l)).2.2.2 with
     | false => rw [kY hb ht] at h; cases h
     | true =>
      rw [kZ hb ht] at h; have hpos := ke ht; have hle := nr c l; have hdl : ((c :: l).drop (dN (c :: l)).2.1).length = (c :: l).length - (dN (c :: l)).2.1 := fY ..
      have htl : ((c :: l).take (dN (c :: l)).2.1).length = (dN (c :: l)).2.1 := by rw [List.length_take]; omega
      cases hr : eP ((c :: l).drop (dN (c :: l)).2.1) (adv ((c :: l).take (dN (c :: l)).2.1) p) with
      | err q => rw [hr] at h; cases h
      | ok ts' =>
       rw [hr] at h; obtain rfl := LR.ok.inj h; have := ih _ (by simp only [al] at hdl hk; omega) _ _ rfl ts' hr; simp only [txl, kF, al] at this hdl htl hle ⊢; omega
   · rw [im hb] at h
     have hle := mX (c :: l); have hdl : ((c :: l).drop (eV (c :: l))).length = (c :: l).length - eV (c :: l) := fY ..; have := ih _ (by simp only [al] at hdl hk; omega) _ _ rfl ts h; omega
theorem ze {l : List UInt8} {ts : List Tok} (hl : l.length ≤ 8192) (h : eP l (1, 1) = .ok ts) : gQ l = match iO ts with | .ok g _ => (g, 0, 0, 0) | .bad e q => (pg0, e, q.1, q.2) := by
 have := xZ hl h; unfold gQ; rw [this.1, this.2]
 rfl
theorem sO {l : List UInt8} (hl : l.length ≤ 8192) : (∃ ts g k, eP l (1, 1) = .ok ts ∧ iO ts = .ok g k ∧ gQ l = (g, 0, 0, 0)) ∨ ((gQ l).1 = pg0 ∧ (gQ l).2.1 ≠ 0) := by
 cases hx : eP l (1, 1) with
 | err q =>
  refine .inr ?_; have := uZ hl hx; unfold gQ; rw [this.2]; exact ⟨rfl, fun h => nomatch (show (3 : Nat) = 0 from h)⟩
 | ok ts =>
  rw [ze hl hx]; have hn := (oM _ _ _ rfl ts hx).2
  cases hp : iO ts with
  | ok g k => exact .inl ⟨ts, g, k, rfl, hp, rfl⟩
  | bad e q => exact .inr ⟨rfl, zf (by omega) hp⟩
abbrev wX1 : List UInt8 := [116, 104, 114, 101, 97, 100, 32, 123, 32, 112, 114, 105, 110, 116]
abbrev wX2 : List UInt8 := [116, 104, 114, 101, 97, 100, 32, 123, 32, 112, 114, 105, 110, 116, 32, 40]
theorem E9 : eP wX1 (1, 1) = .ok [k1, k2, k3, en (1, 15)] := by kernel_rfl
theorem Fa : eP wX2 (1, 1) = .ok [k1, k2, k3, kO, en (1, 17)] := by kernel_rfl
theorem Fb (p : Nat × Nat) : eP [59, 32, 125] p = .ok [sg [59] p, sg [125] (adv [59, 32] p), en (adv [59, 32, 125] p)] := by kernel_rfl
theorem Fc (p : Nat × Nat) : eP [41, 59, 32, 125] p = .ok [sg [41] p, sg [59] (adv [41] p), sg [125] (adv [41, 59, 32] p), en (adv [41, 59, 32, 125] p)] := by kernel_rfl
abbrev tx1 (e : List UInt8) : List UInt8 := wX1 ++ 10 :: (e ++ 10 :: [59, 32, 125])
abbrev tx2 (e : List UInt8) : List UInt8 := wX2 ++ 10 :: (e ++ 10 :: [41, 59, 32, 125])
theorem Fe (e : List UInt8) : eP (tx1 e) (1, 1) = match eP e (2, 1) with
 | .err q => .err q
 | .ok ts => .ok (k1 :: k2 :: k3 :: (ts.dropLast ++ sg [59] (adv (e ++ [10]) (2, 1)) :: [sg [125] (adv [59, 32] (adv (e ++ [10]) (2, 1))), en (adv [59, 32, 125] (adv (e ++ [10]) (2, 1)))])) := by
 rw [ng (e ++ 10 :: [59, 32, 125]) _ wX1 (1, 1) rfl, E9]
 show (eP (e ++ 10 :: [59, 32, 125]) (2, 1)).pre [k1, k2, k3] = _
 rw [ng [59, 32, 125] _ e (2, 1) rfl]
 cases eP e (2, 1) with
 | err q => rfl
 | ok ts =>
  show ((eP [59, 32, 125] (adv (e ++ [10]) (2, 1))).pre ts.dropLast).pre [k1, k2, k3] = _
  rw [Fb]; rfl
theorem Ff (e : List UInt8) : eP (tx2 e) (1, 1) = match eP e (2, 1) with
 | .err q => .err q
 | .ok ts => .ok (k1 :: k2 :: k3 :: kO :: (ts.dropLast ++ sg [41] (adv (e ++ [10]) (2, 1)) :: [sg [59] (adv [41] (adv (e ++ [10]) (2, 1))), sg [125] (adv [41, 59, 32] (adv (e ++ [10]) (2, 1))), en (adv [41, 59, 32, 125] (adv (e ++ [10]) (2, 1)))])) := by
 rw [ng (e ++ 10 :: [41, 59, 32, 125]) _ wX2 (1, 1) rfl, Fa]
 show (eP (e ++ 10 :: [41, 59, 32, 125]) (2, 1)).pre [k1, k2, k3, kO] = _
 rw [ng [41, 59, 32, 125] _ e (2, 1) rfl]
 cases eP e (2, 1) with
 | err q => rfl
 | ok ts =>
  show ((eP [41, 59, 32, 125] (adv (e ++ [10]) (2, 1))).pre ts.dropLast).pre [k1, k2, k3, kO] = _
  rw [Fc]; rfl
theorem yL {e : List UInt8} (he : e.length ≤ 4096) {ts1 ts2 : List Tok} {g g' : Pg} {l l' : List Tok} (x1 : eP (tx1 e) (1, 1) = .ok ts1) (x2 : eP (tx2 e) (1, 1) = .ok ts2) (h : iO ts1 = .ok g l) (h' : iO ts2 = .ok g' l') :
 ∃ a b, g = ⟨[], [], [], [⟨[mkS k3 5 (bs []) rt0 pl0 a 0 [] [] []], 1, 1⟩]⟩ ∧ g' = ⟨[], [], [], [⟨[mkS k3 5 (bs []) rt0 pl0 b 0 [] [] []], 1, 1⟩]⟩ ∧ a.text = b.text := by
 rw [Fe] at x1; rw [Ff] at x2
 cases hx : eP e (2, 1) with
 | err q => rw [hx] at x1; cases x1
 | ok ts =>
  rw [hx] at x1 x2; obtain rfl := LR.ok.inj x1; obtain rfl := LR.ok.inj x2; have := (oM _ _ _ rfl ts hx).2; exact Ct (by rw [List.length_dropLast]; omega) h h'
theorem xB (a : X) : (S.enc (mkS k3 5 (bs []) rt0 pl0 a 0 [] [] [])).length = 58 := by cases a; rfl
theorem Dl (a : X) : ((S.enc (mkS k3 5 (bs []) rt0 pl0 a 0 [] [] [])).drop 43).take 9 = a.enc := by cases a; rfl
theorem Dk (a : X) : a.enc.map bO = a.enc := by cases a; rfl
attribute [local simp] da cD bT bU cE fc fw ef dj ec dh ed di fv bV gZ dW hI gV gO AM.ae aQ aR bg aP aD AM.onG fP cc eB Ex.bh cond_true cond_false cW cV cU cT cS cY cR cZ cX eg dm dp cC db AM.dt AM.cellsOf AM.an bQ beq_true cM al aF bf bz bS decide_true decide_false bL bB bq bA ba aC az aZ aw dc de ft aA bK bu bR cz dV dZ cK eA ew set_set eD dD fM dE cI bD dC dB cH dA eC eE fG fH bE cm ep fF dP aL aU aE AM.aT ah cQ bO aX aS aO aN AM.part bm aM cf cj cg cd cd.eO AM.dM bC cr dI fE aL laid aH bc cv
attribute [-simp] ag
attribute [local congr] dJ
theorem iJ (s1 : ByteArray) (st : St) : E L (.func 5) [.v (.string s1)] st = some (.v (.bool true), st) := by
 obtain ⟨e, rfl⟩ : ∃ l, s1 = bs l := ⟨s1.data.toList, (yN s1).symm⟩
 rw [EX]; obtain ⟨N, T, Lb, hN, hT, hL⟩ := lens3 st
 conv => lhs; rw [← ak (st)]
 by_cases hl : 4096 < e.length
 · have hl' : (4096 : Int) < (e.length : Int) := by omega
   simp [S5, hN, hT, hL, xf, lW, hl']
 have hl' : ¬ ((4096 : Int) < (e.length : Int)) := by omega
 have a1 : ∀ cst, aW Tryd.prog cst .add 9 (str [116, 104, 114, 101, 97, 100, 32, 123, 32, 112, 114, 105, 110, 116, 10]) (str e) = some (str (wX1 ++ 10 :: e)) := fun cst => zs (by simp only [al, aF]; omega)
 have a2 : ∀ cst, aW Tryd.prog cst .add 9 (str (wX1 ++ 10 :: e)) (str [10, 59, 32, 125]) = some (str (tx1 e)) := fun cst => by
  rw [zs (by simp only [bM, al, aF]; omega)]; simp
 have b1 : ∀ cst, aW Tryd.prog cst .add 9 (str [116, 104, 114, 101, 97, 100, 32, 123, 32, 112, 114, 105, 110, 116, 32, 40, 10]) (str e) = some (str (wX2 ++ 10 :: e)) := fun cst => zs (by simp only [al, aF]; omega)
 have b2 : ∀ cst, aW Tryd.prog cst .add 9 (str (wX2 ++ 10 :: e)) (str [10, 41, 59, 32, 125]) = some (str (tx2 e)) := fun cst => by
  rw [zs (by simp only [bM, al, aF]; omega)]; simp
 have l1 : (tx1 e).length ≤ 8192 := by simp only [bM, al, aF]; omega
 have l2 : (tx2 e).length ≤ 8192 := by simp only [bM, al, aF]; omega
 have f1 : ∀ X, E L (.func 10) [str (tx1 e)] X = _ := tc (by omega)
 have f2 : ∀ X, E L (.func 10) [str (tx2 e)] X = _ := tc (by omega)
 have o1 := sO l1; have o2 := sO l2
 have key := fun ts1 ts2 g g' l l' => yL (e := e) (by omega) (ts1 := ts1) (ts2 := ts2) (g := g) (g' := g') (l := l) (l' := l')
 generalize tx1 e = t1 at *
 generalize tx2 e = t2 at *
 generalize wX1 ++ 10 :: e = t3 at *
 generalize wX2 ++ 10 :: e = t4 at *
 rcases o1 with ⟨ts1, g, l, x1, q1, r1⟩ | ⟨r1, r2⟩
 · rw [r1] at f1
   rcases o2 with ⟨ts2, g', l', x2, q2, r2⟩ | ⟨r2, r3⟩
   · rw [r2] at f2
     obtain ⟨a, b, rfl, rfl, hab⟩ := key ts1 ts2 g g' l l' x1 x2 q1 q2; have n1 := xB a; have n2 := xB b; have d1 := Dl a; have d2 := Dl b; have c1 := Dk a; have c2 := Dk b
     have sza : a.sz ≤ 70000 := by
      have := (iP (ts := ts1) (by have := (oM _ _ _ rfl ts1 x1).2; omega)).2 _ _ q1; simp only [Pg.sz, aS, List.sum_nil, aF, aX, List.sum_cons, gS, S.sz] at this; omega
     have szb : b.sz ≤ 70000 := by
      have := (iP (ts := ts2) (by have := (oM _ _ _ rfl ts2 x2).2; omega)).2 _ _ q2; simp only [Pg.sz, aS, List.sum_nil, aF, aX, List.sum_cons, gS, S.sz] at this; omega
     have v1 : ∀ X, E L (.func 12) [.agg a.enc] X = _ := tK 1000000 a (by omega) (by omega)
     have v2 : ∀ X, E L (.func 12) [.agg b.enc] X = _ := tK 1000000 b (by omega) (by omega)
     have v3 : ∀ X, E L (.func 11) [.sl (strs b.text) .dead, .sl (strs b.text) .dead] X = _ := EH b.text b.text (by rw [X.rS]; omega)
     rw [decide_eq_true rfl] at v3; rw [hab] at v1; have h1 : mR [⟨[mkS k3 5 (bs []) rt0 pl0 a 0 [] [] []], 1, 1⟩] = [[.sl [S.enc (mkS k3 5 (bs []) rt0 pl0 a 0 [] [] [])] .dead, .v (.int .i64 1), .v (.int .i64 1)]] := rfl; have h2 : mR [⟨[mkS k3 5 (bs []) rt0 pl0 b 0 [] [] []], 1, 1⟩] = [[.sl [S.enc (mkS k3 5 (bs []) rt0 pl0 b 0 [] [] [])] .dead, .v (.int .i64 1), .v (.int .i64 1)]] := rfl; simp only [nB, pgC, uK, h1, h2, ic] at f1 f2; clear h1 h2
     generalize S.enc (mkS k3 5 (bs []) rt0 pl0 a 0 [] [] []) = A at *
     generalize S.enc (mkS k3 5 (bs []) rt0 pl0 b 0 [] [] []) = B at *
     generalize a.enc = A1 at *
     generalize b.enc = B1 at *
     generalize strs b.text = T at *
     simp [S5, hN, hT, hL, xf, lW, hl', a1, a2, b1, b2, f1, f2, nf, n1, n2, d1, d2, c1, c2, v1, v2, v3, AV, AW, Dn, Dp, bc, cv, AM.part, ej]
   · generalize gQ t2 = P2 at *
     obtain ⟨G2, c2, d2⟩ := P2; simp only at r2 r3
     have r3' : ¬ ((c2 : Int) = 0) := by omega
     simp only [nB, pgC, uK, ic] at f1 f2; simp [S5, hN, hT, hL, xf, lW, hl', a1, a2, b1, b2, f1, f2, nf, r3, r3', bc, cv]
 · generalize gQ t1 = P1 at *
   generalize gQ t2 = P2 at *
   obtain ⟨G1, c1, d1⟩ := P1; obtain ⟨G2, c2, d2⟩ := P2; simp only at r1 r2
   have r3' : ¬ ((c1 : Int) = 0) := by omega
   simp only [nB, pgC, uK] at f1 f2; simp [S5, hN, hT, hL, xf, lW, hl', a1, a2, b1, b2, f1, f2, nf, r2, r3', bc, cv]
end Go.Proofs.YtlhlijaondmccaaDoor.S
namespace Go.Proofs.YtlhlijaondmccaaDoor
open Go Go.AM Go.ChangeShapes Go.WideShapes Go.ChangeAt Go.RowKit
theorem own : ownKnob Tryd.prog.godebug = none := by kernel_rfl
theorem sc {H : Type} {enc : TypeId × Value → H} {a : Assume} {C : Checked} {os : Os} {f : FuncId} {fn : Func} {s : ChangeSpec} {conds : List PathCond} {apart fresh handsOn again : Bool} {X : World → Array Value → Prop}
 (hX : ∀ (w w' : World) (args : Array Value), w.heap = w'.heap → X w args → X w' args)
 (own : ownKnob C.prog.godebug = none) (started : os.Started) (noInit : C.prog.inits.idxOf? f = none) (hfn : C.prog.funcs[f]? = some fn)
 (witness : ∃ (w : World) (tape : Tape) (i : Input), w.os = os ∧ (w.forCall tape i).Shaped C.prog ∧ i.vars = [] ∧ Input.okWide C.prog (w.forCall tape i) .any w.heap.size f i ∧
  ((s.pre enc C.prog fn conds apart (w.forCall tape i).memory i.args ∧ X (w.forCall tape i).memory i.args) ∧ sizedMet enc C.prog fn (OpenSpec.ofChange s) apart (w.forCall tape i).memory i.args) ∧ a.holds C.prog (lone (Frame.enter C.prog f i.args .normal) [] (w.forCall tape i)))
 (contract : ∀ (W : World) (base : Nat) (args : Array Value) (ds gs : List (DataW H)) (before : List MemPlace),
  (∀ (j : Nat) t v, fn.params[j]? = some t → args[j]? = some v → Value.okWide C.prog W .any base t v) →
  DataW.Whole enc C.prog fn.params.toList s.vars apart W args.toList ds gs before → X W args → W.ShapedOpen C.prog →
  Calls C.prog f args W fun e W' => ∃ v, e = .returned v ∧ s.post enc C.prog fn apart fresh handsOn again W args v W') :
 ReturnsInHanded a C os f .any (fun w args => (s.pre enc C.prog fn conds apart w args ∧ X w args) ∧ sizedMet enc C.prog fn (OpenSpec.ofChange s) apart w args) (s.post enc C.prog fn apart fresh handsOn again) := by
 refine returnsInHanded_of_calls own started noInit witness ?_; intro w tape i _ hsh _ hok hpre _; obtain ⟨_, _, _, fn', hfn', _, _, _, _, hval⟩ := hok; have e : fn' = fn := Option.some.inj (hfn'.symm.trans hfn); subst e; obtain ⟨⟨⟨ds, gs, before, hw, hc⟩, hx⟩, hz⟩ := hpre; have hw' := DataW.Whole.of_heap (w' := w.forCall tape i) (by rfl) hw
 refine (contract (w.forCall tape i) w.heap.size i.args ds gs before hval hw' (hX _ _ _ (by rfl) hx) hsh).mono fun e W' ⟨v, he, hp⟩ => ?_
 subst he; exact ChangeSpec.post_blind hp
theorem E4 : Tryd.prog.globalNamed "strconv.ErrSyntax" = some 2 := by kernel_rfl
theorem E3 : Tryd.prog.globalNamed "strconv.ErrRange" = some 3 := by kernel_rfl
theorem Fq : (Tryd.prog.globals[2]?).map (·.type) = some 110 := by kernel_rfl
theorem Fp : (Tryd.prog.globals[3]?).map (·.type) = some 110 := by kernel_rfl
theorem FF : Tryd.prog.globalNamed "internal/strconv.uint64pow10" = some 1 := by kernel_rfl
theorem Fs : (Tryd.prog.globals[1]?).map (·.type) = some 206 := by kernel_rfl
theorem star : "*errors.errorString" = "*" ++ "errors.errorString" := by decide
theorem DB (u : TypeId) (h : Tryd.prog.typeName? 3 u = some "*errors.errorString") : u = 216 :=
 typeName_ptr_named (nm := "errors.errorString") (by rw [← star]; kernel_rfl) (by kernel_rfl) (by decide) u (by rw [← star]; exact h)
theorem xw {W : World} {g o : Nat} {v : Value} (h : W.cell? ⟨g, o, none⟩ = some v) : g < W.heap.size := by
 unfold World.cell? at h
 cases hb : W.heap[g]? with
 | none => simp [hb] at h
 | some x => exact (Array.getElem?_eq_some_iff.1 hb).1
theorem Eu {W : World} (hs : W.ShapedOpen Tryd.prog) (hL : laidMetH Tryd.prog Rows.parseDeepRow.laid W) : ∃ gv : GV, S.Gvs gv ∧ mc gv W (Aq W) := by
 rw [MakeChecks.laidMetH_plain _ _ _ (by kernel_rfl)] at hL
 have hT : Lib.TabIs Tryd.prog W "internal/strconv.uint64pow10" .u64 Lib.pow10Tab := Lib.tabIs_of_head FF Fs Tryd.underlying206 Tryd.underlying45 (by kernel_rfl) (by kernel_rfl) hL.tail.tail
 obtain ⟨a1, s1, hv1, _⟩ := laid_sentinel hL.tail.tail.tail E3 Fp Tryd.underlying110 DB Tryd.underlying216 Tryd.underlying218 rfl rfl Tryd.underlying9 (by kernel_rfl) (by kernel_rfl); obtain ⟨a2, s2, hv2, _⟩ := laid_sentinel hL.tail.tail.tail.tail E4 Fq Tryd.underlying110 DB Tryd.underlying216 Tryd.underlying218 rfl rfl Tryd.underlying9 (by kernel_rfl) (by kernel_rfl); obtain ⟨m, hm⟩ := cell_of_shapedOpen_int (g := 0) (k := .i64) (zero := #[.int .i64 0]) (t := 3) hs (of_decide_eq_true (by kernel_rfl)) (by kernel_rfl) rfl (by kernel_rfl) (by kernel_rfl) Tryd.underlying3
 have c1 : W.cell? ⟨2, 0, none⟩ = some (.iface 216 (.pointer (some a2))) := by simpa using World.var?_cell E4 hv2 0
 have c2 : W.cell? ⟨3, 0, none⟩ = some (.iface 216 (.pointer (some a1))) := by simpa using World.var?_cell E3 hv1 0
 refine ⟨⟨fun g o => if g < 6 ∧ o = 0 then W.cell? ⟨g, o, none⟩ else none, W⟩, ⟨⟨m, ?_⟩, ⟨.iface 216 (.pointer (some a2)), ?_, .inr ⟨216, .pointer (some a2), rfl⟩⟩, ⟨.iface 216 (.pointer (some a1)), ?_, .inr ⟨216, .pointer (some a1), rfl⟩⟩, hT, ?_⟩, fun g o v h => ?_, aq _, Below.refl _ _⟩
 · show (if 0 < 6 ∧ 0 = 0 then W.cell? ⟨0, 0, none⟩ else none) = _
   rw [if_pos (by omega)]; exact hm
 · show (if 2 < 6 ∧ 0 = 0 then W.cell? ⟨2, 0, none⟩ else none) = _
   rw [if_pos (by omega)]; exact c1
 · show (if 3 < 6 ∧ 0 = 0 then W.cell? ⟨3, 0, none⟩ else none) = _
   rw [if_pos (by omega)]; exact c2
 · exact xw c2
 · have h' : (if g < 6 ∧ o = 0 then W.cell? ⟨g, o, none⟩ else none) = some v := h
   split at h'
   · exact ⟨xw h', h'⟩
   · cases h'
theorem Ar (os : Os) (args : Array Value) : laidMetH Tryd.prog Rows.parseDeepRow.laid ((World.doorLaid Tryd.prog 110 os).forCall (fun _ _ => 0) ⟨#[], args, []⟩).memory :=
 laidMetH_of_parts3 (fuel := 8) (laidMet_of_run' 65 (by kernel_rfl) (by kernel_rfl)) (by kernel_rfl) (by kernel_rfl)
end Go.Proofs.YtlhlijaondmccaaDoor
namespace Go.Proofs.YtlhlijaondmccaaDoor.Pure
open Go Go.AM Go.Proofs
theorem iJ (s1 : ByteArray) : ∃ k st', evF S.L k (.func 5) [.v (.string s1)] st0 = some (.v (.bool true), st') := by
 obtain ⟨k, hk⟩ := ES (S.iJ s1 st0); exact ⟨k, st0, hk⟩
end Go.Proofs.YtlhlijaondmccaaDoor.Pure
namespace Go.Proofs.YtlhlijaondmccaaDoor.nC
open Go Go.AM Go.ChangeShapes Go.WideShapes Go.ChangeAt Go.RowKit
open Go.ChangeMaps (open_string shut_string)
theorem lifted (os : Os) (started : os.Started) (H : Type) (enc : TypeId × Value → H) :
 ReturnsInHanded {} Tryd.checked os 5 .any (fun w args => (Rows.parseBracketsSpec.pre enc Tryd.prog Tryd.f5 [] false w args ∧ laidMetH Tryd.prog Rows.parseBracketsRow.laid w) ∧ sizedMet enc Tryd.prog Tryd.f5 (OpenSpec.ofChange Rows.parseBracketsSpec) false w args)
  (Rows.parseBracketsSpec.post enc Tryd.prog Tryd.f5 false true false false) := by
 refine sc (C := Tryd.checked) (X := fun w _ => laidMetH Tryd.prog Rows.parseBracketsRow.laid w) (fun _ _ _ hh h => h.of_heap hh) own started (by kernel_rfl) Tryd.func5
  (ChangeSpec.witness_shaped (enc := enc) (C := Tryd.checked) (os := os) (X := fun w _ => laidMetH Tryd.prog Rows.parseBracketsRow.laid w) false (World.doorLaid Tryd.prog 110 os) #[.string ByteArray.empty] 8 rfl (World.shaped_of_RefB (by kernel_rfl) (by kernel_rfl)) (by kernel_rfl) (by kernel_rfl) (by kernel_rfl) (Ar os _)) ?_
 intro W base args ds gs before hval0 hW hL hshape
 have hval : ∀ (j : Nat) t v, Tryd.f5.params[j]? = some t → args[j]? = some v → Value.okWide Tryd.prog W .any base t v := hval0
 have hW' := hW; obtain ⟨p, q, hA0, hV, rfl, hfz, hnd⟩ := hW; have hA : DataW.TrodAll enc Tryd.prog W 0 (fun _ => true) true Tryd.f5.params.toList args.toList ds p := hA0; rw [Tryd.params5] at hA hval; obtain ⟨v0, vs0, d0, ds0, p0, q0, hargs, rfl, rfl, h0, r0⟩ := trodAll_cons hA; obtain ⟨rfl, rfl, rfl⟩ := trodAll_nil r0
 obtain rfl : args = #[v0] := by cases args; simp_all
 obtain ⟨rfl, rfl⟩ := trodVars_none hV; obtain ⟨a0, rfl, rfl, rfl, y0⟩ := open_string Tryd.underlying9 (hval 0 9 v0 rfl rfl) h0; clear hA0 hval0; obtain ⟨gv, hgv, hgi⟩ := Eu hshape hL; obtain ⟨kf, st', hev⟩ := Pure.iJ a0
 refine (yX (xs := #[.string a0]) (S.ok hgv) hev hgi rfl ?_).mono fun e W' ⟨he, bel⟩ => ?_
 · intro i x p hx hp
   match i, hx, hp with
   | 0, hx, hp => cases hx; cases hp; exact CZ _ _ _
   | i + 1, hx, hp => simp at hx
 subst he; exact ⟨_, rfl, _, _, _, [], _, [], hW', trodAll_mk1 (shut_bool Tryd.underlying4 _), (trodAll_cons_mk (shut_string Tryd.underlying9 y0) trodAll_mk0), rfl, bel.frame _, fun h => by cases h⟩
theorem over : Rows.parseBracketsRow.holds Tryd.pinned (OpenSpec.ofChange Rows.parseBracketsSpec) :=
 OpenClaim.holds_of_wide 5 Tryd.f5 rfl rfl rfl rfl rfl rfl rfl ⟨rfl, rfl, rfl, rfl, rfl⟩ rfl rfl rfl rfl rfl (by kernel_rfl) Tryd.func5 (by kernel_rfl)
  (of_decide_eq_true (by kernel_rfl)) (by unfold Func.isWrapper; first | (rw [if_pos (by decide +kernel)]; kernel_rfl) | (rw [if_neg (by decide +kernel)]; exact ⟨rfl, rfl⟩))
  (fun os started H enc _ => lifted os started H enc)
theorem E1 : Rows.ParseBracketsCardSaid :=
 Claim7.holds_tied_plain_at .later [] [.data, .data, .data, .sentinel, .sentinel] true (true, "fa14c5bee940d3225b8df54b2ac2da5d3b75d6be3c2368ae27aca9884776013a") true
  over (fun _ h => by cases h) (by kernel_rfl) (fun _ h => by cases h) parseBrackets_row_tie rfl ⟨rfl, rfl⟩ (by kernel_rfl) rfl
  (fun f fn hf hfn => by
   obtain rfl : f = 5 := Option.some.inj ((show Tryd.prog.funcNamed "padlock/padlocklaw05.ParseBrackets" = some 5 by kernel_rfl).symm.trans hf) |>.symm
   obtain rfl : fn = Tryd.f5 := (Option.some.inj (Tryd.func5.symm.trans hfn)).symm
   exact ⟨by kernel_rfl, fun j t ht => by
    rw [Tryd.params5] at ht
    have hm : t ∈ [9] := by simpa using Array.mem_of_getElem? ht
    have hall : ([9].all fun u => !Tryd.prog.wantsStandIn u) = true := by kernel_rfl
    exact (show Tryd.prog.wantsStandIn t = false by simpa using dG.1 hall t hm)⟩)
  (by kernel_rfl)
#print axioms E1
end Go.Proofs.YtlhlijaondmccaaDoor.nC
namespace Go.Proofs.YtlhlijaondmccaaDoor
theorem parseBrackets_holds : Rows.ParseBracketsCardSaid := nC.E1
end Go.Proofs.YtlhlijaondmccaaDoor
