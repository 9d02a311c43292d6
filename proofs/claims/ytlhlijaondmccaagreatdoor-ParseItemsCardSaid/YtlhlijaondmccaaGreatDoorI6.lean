/- Part 6 of the proof of a law of the parser, its names made short by a program. No condition. -/
import Derived.Test.YtlhlijaondmccaaGreatDoorI5
import Derived.KernelRfl
import Derived.Test.YtlhlijaondmccaaGreatDoorRows
import Derived.WalkKit
import Derived.ProofKit
import Derived.LaidMore
import Derived.LaidLaws
import Derived.MakeChecks
import Derived.Stop.Joined
import Derived.Stop.LaidErr
import Derived.Lib.LaidTab
import Derived.OpenShut
import Derived.ShutString
import Derived.ChangeOld
import Derived.Below
import Derived.SizedLaws
import Derived.DataOpen
import Derived.ChangeSlices
import Derived.Test.YtlhlijaondmccaaGreatDoorCards
import Derived.Test.YtlhlijaondmccaaGreatDoorTie
import Derived.SevenTiedAt
set_option linter.all false
set_option maxRecDepth 100000
set_option maxHeartbeats 4000000
open _root_.Bool renaming and_eq_true → aw, and_self → bu, and_true → bF, false_eq_true → ab, not_false → bg, not_true → bD, true_and → bE
open _root_.Int renaming cast_ofNat_Int → aa
open _root_.List renaming all_cons → bG, all_eq_true → dM, all_nil → cg, cons_append → al, drop_nil → cf, drop_succ_cons → aQ, drop_zero → br, getD_cons_succ → aR, getD_cons_zero → aS, getElem?_cons_succ → az, getElem?_cons_zero → aB, isPrefixOf → iU, length → fQ, length_append → au, length_cons → ah, length_drop → eN, length_nil → ay, length_singleton → bQ, map_cons → bc, map_nil → bh, mem_cons_of_mem → bV, mem_cons_self → bx, modify_succ_cons → aO, modify_zero_cons → aP, nil_append → aU, take_left → bI, take_nil → bR, take_succ_cons → aA, take_zero → ba, toList_toArray → aX
open _root_.Nat renaming add_zero → bz, beq → ak, ble → dB, blt → gi, le_refl → aq, reduceAdd → bT, zero_add → bj
open _root_.Option renaming bind_none → bf, bind_some → aj, map_some → aN
open _root_.Or renaming inl → cN, inr → cK
namespace Go.Proofs.YtlhlijaondmccaaGreatDoor.S
open Go Go.AM Go.Proofs
def gZ (T : Nat) (tk : List (Nat × Nat)) (c : Cap) (n sz : Nat) : Prop := (c = .nil ∨ c = .full) ∨ ∃ j, c = .own .fr (T + j) n ∧ tk[j]? = some (n, sz)
theorem gZ.grow {T : Nat} {tk : List (Nat × Nat)} {c : Cap} {sz bytes : Nat} {es ys : List (List PV)} (h : gZ T tk c es.length sz) {b : Nat} {cs : List PV} {Y : St} (hT : Y.tk.length = T)
 (h1 : (es.length + ys.length) * bytes ≤ bP) (h2 : cM sz es = true) (h3 : cM sz ys = true) (h4 : sz ≠ 0) (h5 : bytes ≠ 0) :
 ∃ c' tk', (∀ (bl : List Blk) (lp : List Aux) (base : Nat) (z : List PV), bA base z sz bytes (.sl es c) ys ((Y.af false b cs).app bl tk lp) = some (.sl (es ++ ys) c', (Y.af false b cs).app bl tk' lp)) ∧ gZ T tk' c' (es ++ ys).length sz := by
 subst hT; exact dV (s := Y.af false b cs) h h1 h2 h3 h4 h5
theorem Fs {sz : Nat} {z cs cs' : List PV} (hz : z.length = sz) (hc : cs.length = sz) (hp : cv cs = some cs') (hc' : cs'.length = sz) : aF sz z 1 [(0, .agg cs)] = some (.sl [cs'] .full) := by
 have h1 : laid (gw 1 z) 0 cs = cs := by
  have := laidB [] z [] cs (by omega); simpa [gw] using this
 have h2 : dB (0 + sz) (gw 1 z).length = true := by simp [gw, hz]
 have h3 : ak cs.length sz = true := by rw [hc]; exact Nat.beq_refl _
 simp only [aF, jr, cz, AM.cellsOf, h3, Nat.zero_mul, h2, bu, cond_true, h1, aj, hp, chunks]; rw [List.take_of_length_le (by omega)]
theorem zi (l : List X) : cM 9 (ep l) = true := by rw [nx]; exact jQ _ X.len l
theorem BY (a b : List X) : ep (a ++ b) = ep a ++ ep b := by simp only [nx, List.map_append]
theorem xd (l : List S) : cM 58 (dQ l) = true := by rw [mg]; exact jQ _ S.len l
theorem AV (a b : List S) : dQ (a ++ b) = dQ a ++ dQ b := by simp only [mg, List.map_append]
attribute [local simp] cX cx bY bZ cy fq fv ec de dY db dZ dc fu cc im dS iq ic hO AM.ae aR aS bf aN aE AM.onG gb bW ef Ex.bn cond_true cond_false cT cS cR cQ cP cV cO cW cU ed dh di cw cY AM.du AM.cellsOf AM.an bX beq_true cM ah ay bj bz bT decide_true decide_false bF bE bu bD bg aB az aU al cZ da ft aA bI ba bR cC dR dX cJ eE eD set_set eI dy fT dz cI bK dx dw cH dv eH eJ fM fN bM cu eB fL dW aV aX aI AM.aY ai dt bU bc bh aP aO AM.part br aQ cf cm cj cn cn.eS AM.dN bG cg dJ fW aV laid aJ bq cz
attribute [-simp] aj
attribute [local congr] dK
def GK (ts : List Tok) (d : Nat) (acc : List X) (l : List Tok) (x : PR (List X)) : Prop := match x with
 | .ok xs l' => Sfx ts l' ∧ ∀ b (Y : St), b < Y.stk.length → ∀ N T Lb, Y.stk.length = N → Y.tk.length = T → Y.lp.length = Lb → ∀ c tk q, gZ T tk c acc.length 9 → ∃ c' tk',
  itE (pg.b0 (E L) itE N Lb) [.ptr false b 0, q, .sl (ep acc) c] ((Y.af false b (pc ts l d)).app [] tk []) = some (.ret, [.ptr false b 0, .sl (ep xs) c', .sl (ep xs) c'], (Y.af false b (pc ts l' d)).app [] tk' [])
 | .bad er p => ∃ a' d'', ∀ b (Y : St), b < Y.stk.length → ∀ N T Lb, Y.stk.length = N → Y.tk.length = T → Y.lp.length = Lb → ∀ c tk q, gZ T tk c acc.length 9 → ∃ y z tk',
  itE (pg.b0 (E L) itE N Lb) [.ptr false b 0, q, .sl (ep acc) c] ((Y.af false b (pc ts l d)).app [] tk []) = some (.pan 108 (.agg #[]), [.ptr false b 0, y, z], (Y.af false b (pcf (aC ts) a' d'' er p.1 p.2)).app [] tk' [])
section
variable {ts : List Tok} (hr : Row ts) {m : Nat} (ihe : nc ts m)
include hr ihe
theorem xH {d : Nat} (hd12 : d ≤ 12) : ∀ n acc l x, acc.length + n ≤ 1000000 → Sfx ts l → js n m d acc l = some x → GK ts d acc l x := by
 intro n
 induction n with
 | zero => intro acc l x _ _ hx; simp [js] at hx
 | succ n ih =>
  intro acc l x hac h hx; simp only [js] at hx; obtain ⟨y, hy⟩ := dF hx; rw [hy] at hx; have h1 := lh hr ihe hd12 h hy
  cases y with
  | bad er q =>
   obtain rfl := bS hx rfl; obtain ⟨a', d'', e1⟩ := bC h1 rfl; refine ⟨a', d'', fun b Y hb N T Lb hN hT hL c tk q ho => ⟨q, .sl (ep acc) c, tk, ?_⟩⟩; have e1 := e1 hb; simp only [pc, pcf] at e1 ⊢
   generalize aC ts = es at *
   apply jh; simp [pg.b0, hN, hT, hL, hb, e1]
  | ok e l1 =>
   have hx := cG hx rfl
   try dsimp only at hx
   have s1 := bH h1 rfl
   have own : ∀ (b : Nat) (Y : St) (T : Nat), Y.tk.length = T → ∀ c tk, gZ T tk c acc.length 9 → ∃ c' tk', (∀ (bl : List Blk) (lp : List Aux) (base : Nat) (z : List PV), bA base z 9 104 (.sl (ep acc) c) [e.enc] ((Y.af false b (pc ts l1 d)).app bl tk lp) = some (.sl (ep (acc ++ [e])) c', (Y.af false b (pc ts l1 d)).app bl tk' lp)) ∧ gZ T tk' c' (acc ++ [e]).length 9 := by
    intro b Y T hT c tk ho; rw [← iu] at ho; have := ho.grow (ys := [e.enc]) (bytes := 104) (b := b) (cs := pc ts l1 d) hT (by rw [iu, bQ]; unfold bP; omega) (zi _) (by simpa [ep] using zi [e]) (by omega) (by omega); simpa [BY, ep, iu] using this
   have hl := Fs (sz := 9) (z := z9) rfl (X.len e) (X.pl e) (X.len e)
   cases i2 : isT l1 [41] with
   | true =>
    rw [if_pos i2] at hx; obtain rfl := Option.some.inj hx; refine ⟨s1.isT hr i2, fun b Y hb N T Lb hN hT hL c tk q ho => ?_⟩; obtain ⟨c', tk', ea, _⟩ := own b Y T hT c tk ho; refine ⟨c', tk', ?_⟩; have e1 := aT h1 rfl hb; have e2 := aD (aG hr s1 d [41] (b := b)) (s := Y) hb; simp only [pc, pcf, cq, i2, if_true] at e1 e2 ea ⊢
    generalize aC ts = es at *
    apply eZ; simp [pg.b0, hN, hT, hL, hb, e1, e2, hl, aZ, ea, i2]
   | false =>
    rw [if_neg (by rw [i2]; decide)] at hx; have h3 := eW hr s1 d [44]
    cases x3 : dm [44] l1 with
    | bad er q =>
     obtain rfl := bS hx x3; obtain ⟨a', d'', eb⟩ := bC h3 x3; refine ⟨a', d'', fun b Y hb N T Lb hN hT hL c tk q ho => ?_⟩; obtain ⟨c', tk', ea, _⟩ := own b Y T hT c tk ho; refine ⟨q, .sl (ep (acc ++ [e])) c', tk', ?_⟩; have e1 := aT h1 rfl hb; have e2 := aD (aG hr s1 d [41] (b := b)) (s := Y) hb; have eb := eb hb; simp only [pc, pcf, cq, aM, i2, if_false, ab] at e1 e2 ea eb ⊢
     generalize aC ts = es at *
     apply jh; simp [pg.b0, hN, hT, hL, hb, e1, e2, hl, aZ, ea, eb, i2]
    | ok u l3 =>
     have hx := cG hx x3
     try dsimp only at hx
     have s3 := bH h3 x3; have h4 := ih (acc ++ [e]) l3 x (by simp only [au, bQ]; omega) s3 hx
     have stp : ∀ b (Y : St), b < Y.stk.length → ∀ N T Lb, Y.stk.length = N → Y.tk.length = T → Y.lp.length = Lb → ∀ c tk q, gZ T tk c acc.length 9 → ∃ c' tk', gZ T tk' c' (acc ++ [e]).length 9 ∧
      pg.b0 (E L) itE N Lb [.ptr false b 0, q, .sl (ep acc) c] ((Y.af false b (pc ts l d)).app [] tk []) = some (.normal, [.ptr false b 0, q, .sl (ep (acc ++ [e])) c'], (Y.af false b (pc ts l3 d)).app [] tk' []) := by
      intro b Y hb N T Lb hN hT hL c tk q ho; obtain ⟨c', tk', ea, ho'⟩ := own b Y T hT c tk ho; refine ⟨c', tk', ho', ?_⟩; have e1 := aT h1 rfl hb; have e2 := aD (aG hr s1 d [41] (b := b)) (s := Y) hb; have e3 := aT h3 x3 hb; simp only [pc, pcf, cq, aM, i2, if_false, ab] at e1 e2 e3 ea ⊢
      generalize aC ts = es at *
      simp [pg.b0, hN, hT, hL, hb, e1, e2, e3, hl, aZ, ea, i2]
     cases x with
     | ok xs l' =>
      refine ⟨h4.1, fun b Y hb N T Lb hN hT hL c tk q ho => ?_⟩; obtain ⟨c1, tk1, ho1, hs⟩ := stp b Y hb N T Lb hN hT hL c tk q ho; obtain ⟨c', tk', hit⟩ := h4.2 b Y hb N T Lb hN hT hL c1 tk1 q ho1; exact ⟨c', tk', (cd hs).trans hit⟩
     | bad er p =>
      obtain ⟨a', d'', h4⟩ := h4; refine ⟨a', d'', fun b Y hb N T Lb hN hT hL c tk q ho => ?_⟩; obtain ⟨c1, tk1, ho1, hs⟩ := stp b Y hb N T Lb hN hT hL c tk q ho; obtain ⟨y, z, tk', hit⟩ := h4 b Y hb N T Lb hN hT hL c1 tk1 q ho1; exact ⟨y, z, tk', (cd hs).trans hit⟩
theorem Ee {d : Nat} {l : List Tok} {x : PR (List X)} (hd12 : d ≤ 12) (hm : m ≤ 1000000) (h : Sfx ts l) (hx : pt m d l = some x) : Rd 159 [] ts d d l fS x := by
 unfold pt at hx; have h1 := eW hr h d [40]
 cases x1 : dm [40] l with
 | bad e q =>
  obtain rfl := bS hx x1; obtain ⟨a', d'', eb⟩ := bC h1 x1; refine ⟨a', d'', fun b Y hb => ?_⟩; have eb := eb hb; rw [rL]; obtain ⟨N, T, Lb, hN, hT, hL⟩ := lens3 Y; rw [hN] at hb
  conv => lhs; rw [← ao (Y.af false b (pc ts l d))]
  simp only [pc, pcf, aM] at eb ⊢
  generalize aC ts = es at *
  simp [pg, hN, hT, hL, hb, eb]
 | ok u l1 =>
  have hx := cG hx x1
  try dsimp only at hx
  have s1 := bH h1 x1
  cases i2 : isT l1 [41] with
  | true =>
   rw [if_pos i2] at hx; obtain rfl := Option.some.inj hx; refine ⟨s1.isT hr i2, fun b Y hb => ?_⟩; have e1 := aT h1 x1 hb; have e2 := aD (aG hr s1 d [41] (b := b)) (s := Y) hb; rw [rL]; obtain ⟨N, T, Lb, hN, hT, hL⟩ := lens3 Y; rw [hN] at hb
   conv => lhs; rw [← ao (Y.af false b (pc ts l d))]
   simp only [pc, pcf, aM, i2, if_true] at e1 e2 ⊢
   generalize aC ts = es at *
   simp [pg, hN, hT, hL, hb, e1, e2, i2, ep]
  | false =>
   rw [if_neg (by rw [i2]; decide)] at hx; have h3 := xH hr ihe hd12 m [] l1 x (by simpa using hm) s1 hx
   cases x with
   | bad er q =>
    obtain ⟨a', d'', h3⟩ := h3; refine ⟨a', d'', fun b Y hb => ?_⟩; have e1 := aT h1 x1 hb; have e2 := aD (aG hr s1 d [41] (b := b)) (s := Y) hb; obtain ⟨y, z, tk', hit⟩ := h3 b Y hb _ _ _ rfl rfl rfl .nil [] (.sl [] .nil) (.inl (.inl rfl)); rw [rL]; obtain ⟨N, T, Lb, hN, hT, hL⟩ := lens3 Y; rw [hN] at hb; rw [hN] at hit
    conv => lhs; rw [← ao (Y.af false b (pc ts l d))]
    rw [hL] at hit; simp only [pc, pcf, aM, ep, i2, if_false, ab] at e1 e2 hit ⊢
    generalize aC ts = es at *
    simp [pg, hN, hT, hL, hb, e1, e2, i2, hit, Ex.bn]
   | ok xs l3 =>
    refine ⟨h3.1, fun b Y hb => ?_⟩; have e1 := aT h1 x1 hb; have e2 := aD (aG hr s1 d [41] (b := b)) (s := Y) hb; obtain ⟨c', tk', hit⟩ := h3.2 b Y hb _ _ _ rfl rfl rfl .nil [] (.sl [] .nil) (.inl (.inl rfl)); rw [rL]; obtain ⟨N, T, Lb, hN, hT, hL⟩ := lens3 Y; rw [hN] at hb; rw [hN] at hit
    conv => lhs; rw [← ao (Y.af false b (pc ts l d))]
    rw [hL] at hit; simp only [pc, pcf, aM, ep, i2, if_false, ab] at e1 e2 hit ⊢
    generalize aC ts = es at *
    simp [pg, hN, hT, hL, hb, e1, e2, i2, hit, Ex.bn]
end
end Go.Proofs.YtlhlijaondmccaaGreatDoor.S
namespace Go.Proofs.YtlhlijaondmccaaGreatDoor.S
open Go Go.AM Go.Proofs
attribute [local simp] cX cx bY bZ cy fq fv ec de dY db dZ dc fu cc im dS iq ic hO AM.ae aR aS bf aN aE AM.onG gb bW ef Ex.bn cond_true cond_false cT cS cR cQ cP cV cO cW cU ed dh di cw cY AM.du AM.cellsOf AM.an bX beq_true cM ah ay bj bz bT decide_true decide_false bF bE bu bD bg aB az aU al cZ da ft aA bI ba bR cC dR dX cJ eE eD set_set eI dy fT dz cI bK dx dw cH dv eH eJ fM fN bM cu eB fL dW aV aX aI AM.aY ai dt bU bc bh aP aO AM.part br aQ cf cm cj cn cn.eS AM.dN bG cg dJ fW aV laid aJ bq cz
attribute [-simp] aj
attribute [local congr] dK
def DJ (ts : List Tok) (d : Nat) (acc : List S) (l : List Tok) (x : PR (List S)) : Prop := match x with
 | .ok xs l' => Sfx ts l' ∧ ∀ b (Y : St), b < Y.stk.length → ∀ N T Lb, Y.stk.length = N → Y.tk.length = T → Y.lp.length = Lb → ∀ c tk, gZ T tk c acc.length 58 → ∃ c' tk',
  itE (S73.b0 (E L) itE N Lb) [.ptr false b 0, .sl (dQ acc) c] ((Y.af false b (pc ts l d)).app [] tk []) = some (.exit 0, [.ptr false b 0, .sl (dQ xs) c'], (Y.af false b (pc ts l' d)).app [] tk' [])
 | .bad er p => ∃ a' d'', ∀ b (Y : St), b < Y.stk.length → ∀ N T Lb, Y.stk.length = N → Y.tk.length = T → Y.lp.length = Lb → ∀ c tk, gZ T tk c acc.length 58 → ∃ z tk',
  itE (S73.b0 (E L) itE N Lb) [.ptr false b 0, .sl (dQ acc) c] ((Y.af false b (pc ts l d)).app [] tk []) = some (.pan 108 (.agg #[]), [.ptr false b 0, z], (Y.af false b (pcf (aC ts) a' d'' er p.1 p.2)).app [] tk' [])
section
variable {ts : List Tok} (hr : Row ts) {n : Nat} (ih : sb ts n)
include hr ih
theorem Gw (ihr : ∀ d acc l x, d ≤ 12 → acc.length + n ≤ 1000000 → Sfx ts l → lI n d acc l = some x → DJ ts d acc l x) :
 ∀ d acc l x, d ≤ 12 → acc.length + (n + 1) ≤ 1000000 → Sfx ts l → lI (n + 1) d acc l = some x → DJ ts d acc l x := by
 intro d acc l x hd12 hac h hx; simp only [lI] at hx
 cases i1 : isT l [125] with
 | true =>
  rw [if_pos i1] at hx; obtain rfl := Option.some.inj hx; refine ⟨h.isT hr i1, fun b Y hb N T Lb hN hT hL c tk ho => ⟨c, tk, ?_⟩⟩; have e1 := aD (aG hr h d [125] (b := b)) (s := Y) hb; simp only [pc, pcf, i1, if_true] at e1 ⊢
  generalize aC ts = es at *
  apply iS; simp [S73.b0, hN, hT, hL, hb, e1, i1]
 | false =>
  rw [if_neg (by rw [i1]; decide)] at hx; obtain ⟨y, hy⟩ := dF hx; rw [hy] at hx; have h2 := ih.st d l y hd12 h hy
  cases y with
  | bad er q =>
   obtain rfl := bS hx rfl; obtain ⟨a', d'', eb⟩ := bC h2 rfl; refine ⟨a', d'', fun b Y hb N T Lb hN hT hL c tk ho => ⟨.sl (dQ acc) c, tk, ?_⟩⟩; have e1 := aD (aG hr h d [125] (b := b)) (s := Y) hb; have eb := eb hb; simp only [pc, pcf, en, i1, if_false, ab] at e1 eb ⊢
   generalize aC ts = es at *
   apply jh; simp [S73.b0, hN, hT, hL, hb, e1, eb, i1]
  | ok s l1 =>
   have hx := cG hx rfl
   try dsimp only at hx
   have s1 := bH h2 rfl
   have own : ∀ (b : Nat) (Y : St) (T : Nat), Y.tk.length = T → ∀ c tk, gZ T tk c acc.length 58 → ∃ c' tk', (∀ (bl : List Blk) (lp : List Aux) (base : Nat) (z : List PV), bA base z 58 688 (.sl (dQ acc) c) [s.enc] ((Y.af false b (pc ts l1 d)).app bl tk lp) = some (.sl (dQ (acc ++ [s])) c', (Y.af false b (pc ts l1 d)).app bl tk' lp)) ∧ gZ T tk' c' (acc ++ [s]).length 58 := by
    intro b Y T hT c tk ho; rw [← jo] at ho; have := ho.grow (ys := [s.enc]) (bytes := 688) (b := b) (cs := pc ts l1 d) hT (by rw [jo, bQ]; unfold bP; omega) (xd _) (by simpa [dQ] using xd [s]) (by omega) (by omega); simpa [AV, dQ, jo] using this
   have hl := Fs (sz := 58) (z := y58 0 0) rfl (S.len s) (S.pl s) (S.len s); have h4 := ihr d (acc ++ [s]) l1 x hd12 (by simp only [au, bQ]; omega) s1 hx
   have stp : ∀ b (Y : St), b < Y.stk.length → ∀ N T Lb, Y.stk.length = N → Y.tk.length = T → Y.lp.length = Lb → ∀ c tk, gZ T tk c acc.length 58 → ∃ c' tk', gZ T tk' c' (acc ++ [s]).length 58 ∧
    S73.b0 (E L) itE N Lb [.ptr false b 0, .sl (dQ acc) c] ((Y.af false b (pc ts l d)).app [] tk []) = some (.normal, [.ptr false b 0, .sl (dQ (acc ++ [s])) c'], (Y.af false b (pc ts l1 d)).app [] tk' []) := by
    intro b Y hb N T Lb hN hT hL c tk ho; obtain ⟨c', tk', ea, ho'⟩ := own b Y T hT c tk ho; refine ⟨c', tk', ho', ?_⟩; have e1 := aD (aG hr h d [125] (b := b)) (s := Y) hb; have e2 := aT h2 rfl hb; simp only [pc, pcf, en, i1, if_false, ab] at e1 e2 ea ⊢
    generalize aC ts = es at *
    simp [S73.b0, hN, hT, hL, hb, e1, e2, yG, hl, aZ, ea, i1]
   cases x with
   | ok xs l' =>
    refine ⟨h4.1, fun b Y hb N T Lb hN hT hL c tk ho => ?_⟩; obtain ⟨c1, tk1, ho1, hs⟩ := stp b Y hb N T Lb hN hT hL c tk ho; obtain ⟨c', tk', hit⟩ := h4.2 b Y hb N T Lb hN hT hL c1 tk1 ho1; exact ⟨c', tk', (cd hs).trans hit⟩
   | bad er p =>
    obtain ⟨a', d'', h4⟩ := h4; refine ⟨a', d'', fun b Y hb N T Lb hN hT hL c tk ho => ?_⟩; obtain ⟨c1, tk1, ho1, hs⟩ := stp b Y hb N T Lb hN hT hL c tk ho; obtain ⟨z, tk', hit⟩ := h4 b Y hb N T Lb hN hT hL c1 tk1 ho1; exact ⟨z, tk', (cd hs).trans hit⟩
end
theorem BQ {ts : List Tok} (hr : Row ts) {n : Nat} (hn : n ≤ 1000000) (ihr : ∀ d acc l x, d ≤ 12 → acc.length + n ≤ 1000000 → Sfx ts l → lI n d acc l = some x → DJ ts d acc l x) :
 ∀ d l x, d ≤ 12 → Sfx ts l → eX (n + 1) d l = some x → Rd 73 [] ts d d l cE x := by
 intro d l x hd12 h hx; simp only [eX] at hx; have h1 := eW hr h d [123]
 cases x1 : dm [123] l with
 | bad e q =>
  obtain rfl := bS hx x1; obtain ⟨a', d'', eb⟩ := bC h1 x1; refine ⟨a', d'', fun b Y hb => ?_⟩; have eb := eb hb; rw [uL]; obtain ⟨N, T, Lb, hN, hT, hL⟩ := lens3 Y; rw [hN] at hb
  conv => lhs; rw [← ao (Y.af false b (pc ts l d))]
  simp only [pc, pcf, aM] at eb ⊢
  generalize aC ts = es at *
  simp [S73, hN, hT, hL, hb, eb]
 | ok t l1 =>
  have hx := cG hx x1
  try dsimp only at hx
  have s1 := bH h1 x1; have h2 := uX s1 d t (by omega); unfold nv at hx
  by_cases hdd : 12 < d + 1
  · rw [if_pos hdd] at hx h2
    obtain rfl := Option.some.inj hx; obtain ⟨a', d'', eb⟩ := bC h2 rfl; refine ⟨a', d'', fun b Y hb => ?_⟩; have e1 := aT h1 x1 hb; have eb := eb hb; rw [uL]; obtain ⟨N, T, Lb, hN, hT, hL⟩ := lens3 Y; rw [hN] at hb
    conv => lhs; rw [← ao (Y.af false b (pc ts l d))]
    simp only [pc, pcf, aM, Tok.c, bw] at e1 eb ⊢
    generalize aC ts = es at *
    simp [S73, hN, hT, hL, hb, e1, eb]
  · rw [if_neg hdd] at hx h2
    have h3 := ihr (d + 1) [] l1 x (by omega) (by simpa using hn) s1 hx
    have w1 : IntKind.i64.wrap (((d + 1 : Nat) : Int) - 1) = (d : Int) := by rw [IntWalk.i64_in _ (by omega)]; omega
    cases x with
    | bad er q =>
     obtain ⟨a', d'', h3⟩ := h3; refine ⟨a', d'', fun b Y hb => ?_⟩; have e1 := aT h1 x1 hb; have e2 := aT h2 rfl hb; obtain ⟨z, tk', hit⟩ := h3 b Y hb _ _ _ rfl rfl rfl .nil [] (.inl (.inl rfl)); rw [uL]; obtain ⟨N, T, Lb, hN, hT, hL⟩ := lens3 Y; rw [hN] at hb; rw [hN] at hit
     conv => lhs; rw [← ao (Y.af false b (pc ts l d))]
     rw [hL] at hit; simp only [pc, pcf, aM, Tok.c, bw, dQ] at e1 e2 hit ⊢
     generalize ((d + 1 : Nat) : Int) = d1 at *
     generalize aC ts = es at *
     simp [S73, hN, hT, hL, hb, e1, e2, hit, Ex.bn]
    | ok xs l3 =>
     refine ⟨h3.1, fun b Y hb => ?_⟩; have e1 := aT h1 x1 hb; have e2 := aT h2 rfl hb; obtain ⟨c', tk', hit⟩ := h3.2 b Y hb _ _ _ rfl rfl rfl .nil [] (.inl (.inl rfl)); rw [uL]; obtain ⟨N, T, Lb, hN, hT, hL⟩ := lens3 Y; rw [hN] at hb; rw [hN] at hit
     conv => lhs; rw [← ao (Y.af false b (pc ts l d))]
     rw [hL] at hit; simp only [pc, pcf, aM, Tok.c, bw, dQ] at e1 e2 hit ⊢
     generalize ((d + 1 : Nat) : Int) = d1 at *
     generalize aC ts = es at *
     simp [S73, hN, hT, hL, hb, e1, e2, hit, w1, Ex.bn]
end Go.Proofs.YtlhlijaondmccaaGreatDoor.S
namespace Go.Proofs.YtlhlijaondmccaaGreatDoor.S
open Go Go.AM Go.Proofs
attribute [local simp] cX cx bY bZ cy fq fv ec de dY db dZ dc fu cc im dS iq ic hO AM.ae aR aS bf aN aE AM.onG gb bW ef Ex.bn cond_true cond_false cT cS cR cQ cP cV cO cW cU ed dh di cw cY AM.du AM.cellsOf AM.an bX beq_true cM ah ay bj bz bT decide_true decide_false bF bE bu bD bg aB az aU al cZ da ft aA bI ba bR cC dR dX cJ eE eD set_set eI dy fT dz cI bK dx dw cH dv eH eJ fM fN bM cu eB fL dW aV aX aI AM.aY ai dt bU bc bh aP aO AM.part br aQ cf cm cj cn cn.eS AM.dN bG cg dJ fW aV laid aJ bq cz
attribute [-simp] aj
attribute [local congr] dK
attribute [local simp] xI yZ y6 vP vQ vR vS Fi BH BI y8 BJ Fh xJ BG yG Ab Ad Ac xy Ds zZ z8 Dt z6 Aa FD Dp Dq Dr zY z7 X.len Pl.len Rt.len X.okc Pl.okc Rt.okc X.fl Pl.fl Rt.fl X.lD Pl.lD Rt.lD S.zh S.len S.okc S.fl S.lD S.can S.take fZ qG BU ep dQ
theorem pQ {l : List Tok} {s : List UInt8} (h : isT l s = true) : (hd l).text = s := by
 unfold isT at h; simp only [aw, decide_eq_true_eq] at h; exact h.2
theorem Sfx.label {ts l : List Tok} (hr : Row ts) (h : Sfx ts l) : Sfx ts (eO l).2 := by
 unfold eO; split
 · exact h.next hr
 · exact h
section
variable {ts : List Tok} (hr : Row ts) {n : Nat} (hn : n ≤ 1000000) (ihe : nc ts n) (ih : sb ts n)
include hr hn ihe ih
theorem Be {d : Nat} {l : List Tok} {x : PR S} (hd12 : d ≤ 12) (h : Sfx ts l) (k1 : (hd l).kind = 1) (hx : (if isT (dp l) [58] then pb (some (dm [108, 111, 111, 112] (dp l).tail)) fun _ l1 => iF n d (hd l) (bs (hd l).text) l1
 else pb (some (dm [61] (dp l))) fun _ l1 => pb (iJ n d l1) fun r l2 => gn (mkS (hd l) 3 (bs (hd l).text) r pl0 x0 0 [] [] []) l2) = some x) : Rd 124 [] ts d d l en x := by
 have e67 := fun b (Y : St) hb => aD (dO h d 0 0 0 (b := b)) (s := Y) hb
 have h1 := Al hr ihe ih d l x hd12 h hx
 cases x with
 | bad e q =>
  obtain ⟨a', d'', eb⟩ := bC h1 rfl; refine ⟨a', d'', fun b Y hb => ?_⟩; have eb := eb hb; have e67 := e67 b Y hb; rw [dr]; obtain ⟨N, T, Lb, hN, hT, hL⟩ := lens3 Y; rw [hN] at hb
  conv => lhs; rw [← ao (Y.af false b (pc ts l d))]
  simp only [pc, pcf, aM, Tok.c, bw, aa, if_true, if_false, ab, cq, eF, eY, en, cE, fC, k1] at e67 eb ⊢
  generalize aC ts = es at *
  simp (maxDischargeDepth := 8) [il, hN, hT, hL, hb, e67, eb, k1]
 | ok v1 l1 =>
  refine ⟨bH h1 rfl, fun b Y hb => ?_⟩; have e67 := e67 b Y hb; have e1 := aT h1 rfl hb; rw [dr]; obtain ⟨N, T, Lb, hN, hT, hL⟩ := lens3 Y; rw [hN] at hb
  conv => lhs; rw [← ao (Y.af false b (pc ts l d))]
  simp only [pc, pcf, aM, Tok.c, bw, aa, if_true, if_false, ab, cq, eF, eY, en, cE, fC, k1] at e67 e1 ⊢
  generalize aC ts = es at *
  simp (maxDischargeDepth := 8) [il, hN, hT, hL, hb, e67, e1, k1]
theorem Bd {d : Nat} {l : List Tok} {x : PR S} (hd12 : d ≤ 12) (h : Sfx ts l) (k1 : (hd l).kind ≠ 1)  (pk : isT l [108, 111, 111, 112] = true) (hx : iF n d (hd l) (bs []) l.tail = some x) : Rd 124 [] ts d d l en x := by
 have e67 := fun b (Y : St) hb => aD (dO h d 0 0 0 (b := b)) (s := Y) hb
 have g0 := fun b (Y : St) hb => aD (aG hr h d [108, 111, 111, 112] (b := b)) (s := Y) hb
 have k1' : ¬ (((hd l).kind : Int) = 1) := by omega
 have s0 := h.isT hr pk; have h1 := ih.lp _ _ _ _ _ hd12 s0 hx
 cases x with
 | bad e q =>
  obtain ⟨a', d'', eb⟩ := bC h1 rfl; refine ⟨a', d'', fun b Y hb => ?_⟩; have eb := eb hb; have e67 := e67 b Y hb; have f0 := g0 b Y hb; rw [dr]; obtain ⟨N, T, Lb, hN, hT, hL⟩ := lens3 Y; rw [hN] at hb
  conv => lhs; rw [← ao (Y.af false b (pc ts l d))]
  simp only [pc, pcf, aM, Tok.c, bw, aa, if_true, if_false, ab, cq, eF, eY, en, cE, fC, fS, pk] at e67 f0 eb ⊢
  generalize aC ts = es at *
  simp (maxDischargeDepth := 8) [il, hN, hT, hL, hb, e67, f0, eb, pk, k1, k1']
 | ok v1 l1 =>
  refine ⟨bH h1 rfl, fun b Y hb => ?_⟩; have e67 := e67 b Y hb; have f0 := g0 b Y hb; have e1 := aT h1 rfl hb; rw [dr]; obtain ⟨N, T, Lb, hN, hT, hL⟩ := lens3 Y; rw [hN] at hb
  conv => lhs; rw [← ao (Y.af false b (pc ts l d))]
  simp only [pc, pcf, aM, Tok.c, bw, aa, if_true, if_false, ab, cq, eF, eY, en, cE, fC, fS, pk] at e67 f0 e1 ⊢
  generalize aC ts = es at *
  simp (maxDischargeDepth := 8) [il, hN, hT, hL, hb, e67, f0, e1, pk, k1, k1']
theorem E8 {d : Nat} {l : List Tok} {x : PR S} (hd12 : d ≤ 12) (h : Sfx ts l) (k1 : (hd l).kind ≠ 1) (p0 : isT l [108, 111, 111, 112] = false) (pk : isT l [105, 102] = true) (hx : (pb (dT n 0 d l.tail) fun e l1 => pb (eX n d l1) fun b l2 =>
 (if isT l2 [101, 108, 115, 101] then pb (eX n d l2.tail) fun c l3 => some (.ok (mkS (hd l) 6 (bs []) rt0 pl0 e 0 [] b c) l3) else some (.ok (mkS (hd l) 6 (bs []) rt0 pl0 e 0 [] b []) l2))) = some x) : Rd 124 [] ts d d l en x := by
 have e67 := fun b (Y : St) hb => aD (dO h d 0 0 0 (b := b)) (s := Y) hb
 have g0 := fun b (Y : St) hb => aD (aG hr h d [108, 111, 111, 112] (b := b)) (s := Y) hb
 have g1 := fun b (Y : St) hb => aD (aG hr h d [105, 102] (b := b)) (s := Y) hb
 have k1' : ¬ (((hd l).kind : Int) = 1) := by omega
 have s0 := h.isT hr pk; have h1 := Ak hr ihe ih d (hd l) l.tail x hd12 s0 hx
 cases x with
 | bad e q =>
  obtain ⟨a', d'', eb⟩ := bC h1 rfl; refine ⟨a', d'', fun b Y hb => ?_⟩; have eb := eb hb; have e67 := e67 b Y hb; have f0 := g0 b Y hb; have f1 := g1 b Y hb; rw [dr]; obtain ⟨N, T, Lb, hN, hT, hL⟩ := lens3 Y; rw [hN] at hb
  conv => lhs; rw [← ao (Y.af false b (pc ts l d))]
  simp only [pc, pcf, aM, Tok.c, bw, aa, if_true, if_false, ab, cq, eF, eY, en, cE, fC, fS, p0, pk] at e67 f0 f1 eb ⊢
  generalize aC ts = es at *
  simp (maxDischargeDepth := 8) [il, hN, hT, hL, hb, e67, f0, f1, eb, p0, pk, k1, k1']
 | ok v1 l1 =>
  refine ⟨bH h1 rfl, fun b Y hb => ?_⟩; have e67 := e67 b Y hb; have f0 := g0 b Y hb; have f1 := g1 b Y hb; have e1 := aT h1 rfl hb; rw [dr]; obtain ⟨N, T, Lb, hN, hT, hL⟩ := lens3 Y; rw [hN] at hb
  conv => lhs; rw [← ao (Y.af false b (pc ts l d))]
  simp only [pc, pcf, aM, Tok.c, bw, aa, if_true, if_false, ab, cq, eF, eY, en, cE, fC, fS, p0, pk] at e67 f0 f1 e1 ⊢
  generalize aC ts = es at *
  simp (maxDischargeDepth := 8) [il, hN, hT, hL, hb, e67, f0, f1, e1, p0, pk, k1, k1']
theorem xl {d : Nat} {l : List Tok} {x : PR S} (hd12 : d ≤ 12) (h : Sfx ts l) (k1 : (hd l).kind ≠ 1) (p0 : isT l [108, 111, 111, 112] = false) (p1 : isT l [105, 102] = false) (pk : isT l [97, 116, 111, 109, 105, 99] = true) (hx : (pb (eX n d l.tail) fun b l1 => some (.ok (mkS (hd l) 10 (bs []) rt0 pl0 x0 0 [] b []) l1)) = some x) : Rd 124 [] ts d d l en x := by
 have e67 := fun b (Y : St) hb => aD (dO h d 0 0 0 (b := b)) (s := Y) hb
 have g0 := fun b (Y : St) hb => aD (aG hr h d [108, 111, 111, 112] (b := b)) (s := Y) hb
 have g1 := fun b (Y : St) hb => aD (aG hr h d [105, 102] (b := b)) (s := Y) hb
 have g2 := fun b (Y : St) hb => aD (aG hr h d [97, 116, 111, 109, 105, 99] (b := b)) (s := Y) hb
 have k1' : ¬ (((hd l).kind : Int) = 1) := by omega
 have s0 := h.isT hr pk; obtain ⟨y1, hy1⟩ := dF hx; rw [hy1] at hx; have h1 := ih.blk _ _ _ hd12 s0 hy1
 cases y1 with
 | bad e q =>
  obtain rfl := bS hx rfl; obtain ⟨a', d'', eb⟩ := bC h1 rfl; refine ⟨a', d'', fun b Y hb => ?_⟩; have eb := eb hb; have e67 := e67 b Y hb; have f0 := g0 b Y hb; have f1 := g1 b Y hb; have f2 := g2 b Y hb; rw [dr]; obtain ⟨N, T, Lb, hN, hT, hL⟩ := lens3 Y; rw [hN] at hb
  conv => lhs; rw [← ao (Y.af false b (pc ts l d))]
  simp only [pc, pcf, aM, Tok.c, bw, aa, if_true, if_false, ab, cq, eF, eY, en, cE, fC, fS, p0, p1, pk] at e67 f0 f1 f2 eb ⊢
  generalize aC ts = es at *
  simp (maxDischargeDepth := 8) [il, hN, hT, hL, hb, e67, f0, f1, f2, eb, p0, p1, pk, k1, k1']
 | ok b1 l1 =>
  have hx := cG hx rfl
  try dsimp only at hx
  have s1 := bH h1 rfl; obtain rfl := Option.some.inj hx; refine ⟨s1, fun b Y hb => ?_⟩; have e67 := e67 b Y hb; have f0 := g0 b Y hb; have f1 := g1 b Y hb; have f2 := g2 b Y hb; have e1 := aT h1 rfl hb; rw [dr]; obtain ⟨N, T, Lb, hN, hT, hL⟩ := lens3 Y; rw [hN] at hb
  conv => lhs; rw [← ao (Y.af false b (pc ts l d))]
  simp only [pc, pcf, aM, Tok.c, bw, aa, if_true, if_false, ab, cq, eF, eY, en, cE, fC, fS, p0, p1, pk] at e67 f0 f1 f2 e1 ⊢
  generalize aC ts = es at *
  simp (maxDischargeDepth := 8) [il, hN, hT, hL, hb, e67, f0, f1, f2, e1, p0, p1, pk, k1, k1']
theorem De {d : Nat} {l : List Tok} {x : PR S} (hd12 : d ≤ 12) (h : Sfx ts l) (k1 : (hd l).kind ≠ 1) (p0 : isT l [108, 111, 111, 112] = false) (p1 : isT l [105, 102] = false) (p2 : isT l [97, 116, 111, 109, 105, 99] = false) (pk : isT l [108, 101, 116] = true) (hx : (pb (some (eg 1 (dp l))) fun u l1 => pb (some (dm [61] l1)) fun _ l2 => pb (iJ n d l2) fun r l3 => gn (mkS (hd l) 1 (bs u.text) r pl0 x0 0 [] [] []) l3) = some x) : Rd 124 [] ts d d l en x := by
 have e67 := fun b (Y : St) hb => aD (dO h d 0 0 0 (b := b)) (s := Y) hb
 have g0 := fun b (Y : St) hb => aD (aG hr h d [108, 111, 111, 112] (b := b)) (s := Y) hb
 have g1 := fun b (Y : St) hb => aD (aG hr h d [105, 102] (b := b)) (s := Y) hb
 have g2 := fun b (Y : St) hb => aD (aG hr h d [97, 116, 111, 109, 105, 99] (b := b)) (s := Y) hb
 have g3 := fun b (Y : St) hb => aD (kc h d 0 0 0 [108, 101, 116] (b := b)) (s := Y) hb
 have k1' : ¬ (((hd l).kind : Int) = 1) := by omega
 have s0 := h.next hr
 have e151 := fun b (Y : St) hb => aD (ll hr h d (b := b)) (s := Y) hb
 have kt := pQ pk; have h1 := ik hr s0 d 1
 cases x1 : eg 1 (dp l) with
 | bad e q =>
  obtain rfl := bS hx x1; obtain ⟨a', d'', eb⟩ := bC h1 x1; refine ⟨a', d'', fun b Y hb => ?_⟩; have eb := eb hb; have e67 := e67 b Y hb; have f0 := g0 b Y hb; have f1 := g1 b Y hb; have f2 := g2 b Y hb; have f3 := g3 b Y hb; have e151 := e151 b Y hb; rw [dr]; obtain ⟨N, T, Lb, hN, hT, hL⟩ := lens3 Y; rw [hN] at hb
  conv => lhs; rw [← ao (Y.af false b (pc ts l d))]
  simp only [pc, pcf, aM, Tok.c, bw, aa, if_true, if_false, ab, cq, eF, eY, en, cE, fC, fS, p0, p1, p2, pk, kt] at e67 f0 f1 f2 f3 e151 eb ⊢
  generalize aC ts = es at *
  simp (maxDischargeDepth := 8) [il, hN, hT, hL, hb, e67, f0, f1, f2, f3, e151, eb, p0, p1, p2, pk, kt, k1, k1']
 | ok u1 l1 =>
  have hx := cG hx x1
  try dsimp only at hx
  have s1 := bH h1 x1; have h2 := eW hr s1 d [61]
  cases x2 : dm [61] l1 with
  | bad e q =>
   obtain rfl := bS hx x2; obtain ⟨a', d'', eb⟩ := bC h2 x2; refine ⟨a', d'', fun b Y hb => ?_⟩; have eb := eb hb; have e67 := e67 b Y hb; have f0 := g0 b Y hb; have f1 := g1 b Y hb; have f2 := g2 b Y hb; have f3 := g3 b Y hb; have e151 := e151 b Y hb; have e1 := aT h1 x1 hb; rw [dr]; obtain ⟨N, T, Lb, hN, hT, hL⟩ := lens3 Y; rw [hN] at hb
   conv => lhs; rw [← ao (Y.af false b (pc ts l d))]
   simp only [pc, pcf, aM, Tok.c, bw, aa, if_true, if_false, ab, cq, eF, eY, en, cE, fC, fS, p0, p1, p2, pk, kt] at e67 f0 f1 f2 f3 e151 e1 eb ⊢
   generalize aC ts = es at *
   simp (maxDischargeDepth := 8) [il, hN, hT, hL, hb, e67, f0, f1, f2, f3, e151, e1, eb, p0, p1, p2, pk, kt, k1, k1']
  | ok u2 l2 =>
   have hx := cG hx x2
   try dsimp only at hx
   have s2 := bH h2 x2; obtain ⟨y3, hy3⟩ := dF hx; rw [hy3] at hx; have h3 := qS hr ihe hd12 s2 hy3
   cases y3 with
   | bad e q =>
    obtain rfl := bS hx rfl; obtain ⟨a', d'', eb⟩ := bC h3 rfl; refine ⟨a', d'', fun b Y hb => ?_⟩; have eb := eb hb; have e67 := e67 b Y hb; have f0 := g0 b Y hb; have f1 := g1 b Y hb; have f2 := g2 b Y hb; have f3 := g3 b Y hb; have e151 := e151 b Y hb; have e1 := aT h1 x1 hb; have e2 := aT h2 x2 hb; rw [dr]; obtain ⟨N, T, Lb, hN, hT, hL⟩ := lens3 Y; rw [hN] at hb
    conv => lhs; rw [← ao (Y.af false b (pc ts l d))]
    simp only [pc, pcf, aM, Tok.c, bw, aa, if_true, if_false, ab, cq, eF, eY, en, cE, fC, fS, p0, p1, p2, pk, kt] at e67 f0 f1 f2 f3 e151 e1 e2 eb ⊢
    generalize aC ts = es at *
    simp (maxDischargeDepth := 8) [il, hN, hT, hL, hb, e67, f0, f1, f2, f3, e151, e1, e2, eb, p0, p1, p2, pk, kt, k1, k1']
   | ok r3 l3 =>
    have hx := cG hx rfl
    try dsimp only at hx
    have s3 := bH h3 rfl; unfold gn at hx; have h4 := eW hr s3 d [59]
    cases x4 : dm [59] l3 with
    | bad e q =>
     obtain rfl := bS hx x4; obtain ⟨a', d'', eb⟩ := bC h4 x4; refine ⟨a', d'', fun b Y hb => ?_⟩; have eb := eb hb; have e67 := e67 b Y hb; have f0 := g0 b Y hb; have f1 := g1 b Y hb; have f2 := g2 b Y hb; have f3 := g3 b Y hb; have e151 := e151 b Y hb; have e1 := aT h1 x1 hb; have e2 := aT h2 x2 hb; have e3 := aT h3 rfl hb; rw [dr]; obtain ⟨N, T, Lb, hN, hT, hL⟩ := lens3 Y; rw [hN] at hb
     conv => lhs; rw [← ao (Y.af false b (pc ts l d))]
     simp only [pc, pcf, aM, Tok.c, bw, aa, if_true, if_false, ab, cq, eF, eY, en, cE, fC, fS, p0, p1, p2, pk, kt] at e67 f0 f1 f2 f3 e151 e1 e2 e3 eb ⊢
     generalize aC ts = es at *
     simp (maxDischargeDepth := 8) [il, hN, hT, hL, hb, e67, f0, f1, f2, f3, e151, e1, e2, e3, eb, p0, p1, p2, pk, kt, k1, k1']
    | ok u4 l4 =>
     have hx := cG hx x4
     try dsimp only at hx
     have s4 := bH h4 x4; obtain rfl := Option.some.inj hx; refine ⟨s4, fun b Y hb => ?_⟩; have e67 := e67 b Y hb; have f0 := g0 b Y hb; have f1 := g1 b Y hb; have f2 := g2 b Y hb; have f3 := g3 b Y hb; have e151 := e151 b Y hb; have e1 := aT h1 x1 hb; have e2 := aT h2 x2 hb; have e3 := aT h3 rfl hb; have e4 := aT h4 x4 hb; rw [dr]; obtain ⟨N, T, Lb, hN, hT, hL⟩ := lens3 Y; rw [hN] at hb
     conv => lhs; rw [← ao (Y.af false b (pc ts l d))]
     simp only [pc, pcf, aM, Tok.c, bw, aa, if_true, if_false, ab, cq, eF, eY, en, cE, fC, fS, p0, p1, p2, pk, kt] at e67 f0 f1 f2 f3 e151 e1 e2 e3 e4 ⊢
     generalize aC ts = es at *
     simp (maxDischargeDepth := 8) [il, hN, hT, hL, hb, e67, f0, f1, f2, f3, e151, e1, e2, e3, e4, p0, p1, p2, pk, kt, k1, k1']
theorem Dg {d : Nat} {l : List Tok} {x : PR S} (hd12 : d ≤ 12) (h : Sfx ts l) (k1 : (hd l).kind ≠ 1) (p0 : isT l [108, 111, 111, 112] = false) (p1 : isT l [105, 102] = false) (p2 : isT l [97, 116, 111, 109, 105, 99] = false) (p3 : isT l [108, 101, 116] = false) (pk : isT l [118, 97, 114] = true) (hx : (pb (some (eg 1 (dp l))) fun u l1 => pb (some (dm [61] l1)) fun _ l2 => pb (iJ n d l2) fun r l3 => gn (mkS (hd l) 2 (bs u.text) r pl0 x0 0 [] [] []) l3) = some x) : Rd 124 [] ts d d l en x := by
 have e67 := fun b (Y : St) hb => aD (dO h d 0 0 0 (b := b)) (s := Y) hb
 have g0 := fun b (Y : St) hb => aD (aG hr h d [108, 111, 111, 112] (b := b)) (s := Y) hb
 have g1 := fun b (Y : St) hb => aD (aG hr h d [105, 102] (b := b)) (s := Y) hb
 have g2 := fun b (Y : St) hb => aD (aG hr h d [97, 116, 111, 109, 105, 99] (b := b)) (s := Y) hb
 have g3 := fun b (Y : St) hb => aD (kc h d 0 0 0 [108, 101, 116] (b := b)) (s := Y) hb
 have g4 := fun b (Y : St) hb => aD (kc h d 0 0 0 [118, 97, 114] (b := b)) (s := Y) hb
 have k1' : ¬ (((hd l).kind : Int) = 1) := by omega
 have s0 := h.next hr
 have e151 := fun b (Y : St) hb => aD (ll hr h d (b := b)) (s := Y) hb
 have kt := pQ pk; have h1 := ik hr s0 d 1
 cases x1 : eg 1 (dp l) with
 | bad e q =>
  obtain rfl := bS hx x1; obtain ⟨a', d'', eb⟩ := bC h1 x1; refine ⟨a', d'', fun b Y hb => ?_⟩; have eb := eb hb; have e67 := e67 b Y hb; have f0 := g0 b Y hb; have f1 := g1 b Y hb; have f2 := g2 b Y hb; have f3 := g3 b Y hb; have f4 := g4 b Y hb; have e151 := e151 b Y hb; rw [dr]; obtain ⟨N, T, Lb, hN, hT, hL⟩ := lens3 Y; rw [hN] at hb
  conv => lhs; rw [← ao (Y.af false b (pc ts l d))]
  simp only [pc, pcf, aM, Tok.c, bw, aa, if_true, if_false, ab, cq, eF, eY, en, cE, fC, fS, p0, p1, p2, p3, pk, kt] at e67 f0 f1 f2 f3 f4 e151 eb ⊢
  generalize aC ts = es at *
  simp (maxDischargeDepth := 8) [il, hN, hT, hL, hb, e67, f0, f1, f2, f3, f4, e151, eb, p0, p1, p2, p3, pk, kt, k1, k1']
 | ok u1 l1 =>
  have hx := cG hx x1
  try dsimp only at hx
  have s1 := bH h1 x1; have h2 := eW hr s1 d [61]
  cases x2 : dm [61] l1 with
  | bad e q =>
   obtain rfl := bS hx x2; obtain ⟨a', d'', eb⟩ := bC h2 x2; refine ⟨a', d'', fun b Y hb => ?_⟩; have eb := eb hb; have e67 := e67 b Y hb; have f0 := g0 b Y hb; have f1 := g1 b Y hb; have f2 := g2 b Y hb; have f3 := g3 b Y hb; have f4 := g4 b Y hb; have e151 := e151 b Y hb; have e1 := aT h1 x1 hb; rw [dr]; obtain ⟨N, T, Lb, hN, hT, hL⟩ := lens3 Y; rw [hN] at hb
   conv => lhs; rw [← ao (Y.af false b (pc ts l d))]
   simp only [pc, pcf, aM, Tok.c, bw, aa, if_true, if_false, ab, cq, eF, eY, en, cE, fC, fS, p0, p1, p2, p3, pk, kt] at e67 f0 f1 f2 f3 f4 e151 e1 eb ⊢
   generalize aC ts = es at *
   simp (maxDischargeDepth := 8) [il, hN, hT, hL, hb, e67, f0, f1, f2, f3, f4, e151, e1, eb, p0, p1, p2, p3, pk, kt, k1, k1']
  | ok u2 l2 =>
   have hx := cG hx x2
   try dsimp only at hx
   have s2 := bH h2 x2; obtain ⟨y3, hy3⟩ := dF hx; rw [hy3] at hx; have h3 := qS hr ihe hd12 s2 hy3
   cases y3 with
   | bad e q =>
    obtain rfl := bS hx rfl; obtain ⟨a', d'', eb⟩ := bC h3 rfl; refine ⟨a', d'', fun b Y hb => ?_⟩; have eb := eb hb; have e67 := e67 b Y hb; have f0 := g0 b Y hb; have f1 := g1 b Y hb; have f2 := g2 b Y hb; have f3 := g3 b Y hb; have f4 := g4 b Y hb; have e151 := e151 b Y hb; have e1 := aT h1 x1 hb; have e2 := aT h2 x2 hb; rw [dr]; obtain ⟨N, T, Lb, hN, hT, hL⟩ := lens3 Y; rw [hN] at hb
    conv => lhs; rw [← ao (Y.af false b (pc ts l d))]
    simp only [pc, pcf, aM, Tok.c, bw, aa, if_true, if_false, ab, cq, eF, eY, en, cE, fC, fS, p0, p1, p2, p3, pk, kt] at e67 f0 f1 f2 f3 f4 e151 e1 e2 eb ⊢
    generalize aC ts = es at *
    simp (maxDischargeDepth := 8) [il, hN, hT, hL, hb, e67, f0, f1, f2, f3, f4, e151, e1, e2, eb, p0, p1, p2, p3, pk, kt, k1, k1']
   | ok r3 l3 =>
    have hx := cG hx rfl
    try dsimp only at hx
    have s3 := bH h3 rfl; unfold gn at hx; have h4 := eW hr s3 d [59]
    cases x4 : dm [59] l3 with
    | bad e q =>
     obtain rfl := bS hx x4; obtain ⟨a', d'', eb⟩ := bC h4 x4; refine ⟨a', d'', fun b Y hb => ?_⟩; have eb := eb hb; have e67 := e67 b Y hb; have f0 := g0 b Y hb; have f1 := g1 b Y hb; have f2 := g2 b Y hb; have f3 := g3 b Y hb; have f4 := g4 b Y hb; have e151 := e151 b Y hb; have e1 := aT h1 x1 hb; have e2 := aT h2 x2 hb; have e3 := aT h3 rfl hb; rw [dr]; obtain ⟨N, T, Lb, hN, hT, hL⟩ := lens3 Y; rw [hN] at hb
     conv => lhs; rw [← ao (Y.af false b (pc ts l d))]
     simp only [pc, pcf, aM, Tok.c, bw, aa, if_true, if_false, ab, cq, eF, eY, en, cE, fC, fS, p0, p1, p2, p3, pk, kt] at e67 f0 f1 f2 f3 f4 e151 e1 e2 e3 eb ⊢
     generalize aC ts = es at *
     simp (maxDischargeDepth := 8) [il, hN, hT, hL, hb, e67, f0, f1, f2, f3, f4, e151, e1, e2, e3, eb, p0, p1, p2, p3, pk, kt, k1, k1']
    | ok u4 l4 =>
     have hx := cG hx x4
     try dsimp only at hx
     have s4 := bH h4 x4; obtain rfl := Option.some.inj hx; refine ⟨s4, fun b Y hb => ?_⟩; have e67 := e67 b Y hb; have f0 := g0 b Y hb; have f1 := g1 b Y hb; have f2 := g2 b Y hb; have f3 := g3 b Y hb; have f4 := g4 b Y hb; have e151 := e151 b Y hb; have e1 := aT h1 x1 hb; have e2 := aT h2 x2 hb; have e3 := aT h3 rfl hb; have e4 := aT h4 x4 hb; rw [dr]; obtain ⟨N, T, Lb, hN, hT, hL⟩ := lens3 Y; rw [hN] at hb
     conv => lhs; rw [← ao (Y.af false b (pc ts l d))]
     simp only [pc, pcf, aM, Tok.c, bw, aa, if_true, if_false, ab, cq, eF, eY, en, cE, fC, fS, p0, p1, p2, p3, pk, kt] at e67 f0 f1 f2 f3 f4 e151 e1 e2 e3 e4 ⊢
     generalize aC ts = es at *
     simp (maxDischargeDepth := 8) [il, hN, hT, hL, hb, e67, f0, f1, f2, f3, f4, e151, e1, e2, e3, e4, p0, p1, p2, p3, pk, kt, k1, k1']
theorem Df {d : Nat} {l : List Tok} {x : PR S} (hd12 : d ≤ 12) (h : Sfx ts l) (k1 : (hd l).kind ≠ 1) (p0 : isT l [108, 111, 111, 112] = false) (p1 : isT l [105, 102] = false) (p2 : isT l [97, 116, 111, 109, 105, 99] = false) (p3 : isT l [108, 101, 116] = false) (p4 : isT l [118, 97, 114] = false) (pk : isT l [115, 101, 116] = true) (hx : (pb (lH n d l.tail) fun x l1 => pb (some (dm [61] l1)) fun _ l2 => pb (dT n 0 d l2) fun e l3 => gn (mkS (hd l) 4 (bs []) rt0 x e 0 [] [] []) l3) = some x) : Rd 124 [] ts d d l en x := by
 have e67 := fun b (Y : St) hb => aD (dO h d 0 0 0 (b := b)) (s := Y) hb
 have g0 := fun b (Y : St) hb => aD (aG hr h d [108, 111, 111, 112] (b := b)) (s := Y) hb
 have g1 := fun b (Y : St) hb => aD (aG hr h d [105, 102] (b := b)) (s := Y) hb
 have g2 := fun b (Y : St) hb => aD (aG hr h d [97, 116, 111, 109, 105, 99] (b := b)) (s := Y) hb
 have g3 := fun b (Y : St) hb => aD (kc h d 0 0 0 [108, 101, 116] (b := b)) (s := Y) hb
 have g4 := fun b (Y : St) hb => aD (kc h d 0 0 0 [118, 97, 114] (b := b)) (s := Y) hb
 have g5 := fun b (Y : St) hb => aD (aG hr h d [115, 101, 116] (b := b)) (s := Y) hb
 have k1' : ¬ (((hd l).kind : Int) = 1) := by omega
 have s0 := h.isT hr pk; obtain ⟨y1, hy1⟩ := dF hx; rw [hy1] at hx; have h1 := um hr ihe hd12 s0 hy1
 cases y1 with
 | bad e q =>
  obtain rfl := bS hx rfl; obtain ⟨a', d'', eb⟩ := bC h1 rfl; refine ⟨a', d'', fun b Y hb => ?_⟩; have eb := eb hb; have e67 := e67 b Y hb; have f0 := g0 b Y hb; have f1 := g1 b Y hb; have f2 := g2 b Y hb; have f3 := g3 b Y hb; have f4 := g4 b Y hb; have f5 := g5 b Y hb; rw [dr]; obtain ⟨N, T, Lb, hN, hT, hL⟩ := lens3 Y; rw [hN] at hb
  conv => lhs; rw [← ao (Y.af false b (pc ts l d))]
  simp only [pc, pcf, aM, Tok.c, bw, aa, if_true, if_false, ab, cq, eF, eY, en, cE, fC, fS, p0, p1, p2, p3, p4, pk] at e67 f0 f1 f2 f3 f4 f5 eb ⊢
  generalize aC ts = es at *
  simp (maxDischargeDepth := 8) [il, hN, hT, hL, hb, e67, f0, f1, f2, f3, f4, f5, eb, p0, p1, p2, p3, p4, pk, k1, k1']
 | ok pl1 l1 =>
  have hx := cG hx rfl
  try dsimp only at hx
  have s1 := bH h1 rfl; have h2 := eW hr s1 d [61]
  cases x2 : dm [61] l1 with
  | bad e q =>
   obtain rfl := bS hx x2; obtain ⟨a', d'', eb⟩ := bC h2 x2; refine ⟨a', d'', fun b Y hb => ?_⟩; have eb := eb hb; have e67 := e67 b Y hb; have f0 := g0 b Y hb; have f1 := g1 b Y hb; have f2 := g2 b Y hb; have f3 := g3 b Y hb; have f4 := g4 b Y hb; have f5 := g5 b Y hb; have e1 := aT h1 rfl hb; rw [dr]; obtain ⟨N, T, Lb, hN, hT, hL⟩ := lens3 Y; rw [hN] at hb
   conv => lhs; rw [← ao (Y.af false b (pc ts l d))]
   simp only [pc, pcf, aM, Tok.c, bw, aa, if_true, if_false, ab, cq, eF, eY, en, cE, fC, fS, p0, p1, p2, p3, p4, pk] at e67 f0 f1 f2 f3 f4 f5 e1 eb ⊢
   generalize aC ts = es at *
   simp (maxDischargeDepth := 8) [il, hN, hT, hL, hb, e67, f0, f1, f2, f3, f4, f5, e1, eb, p0, p1, p2, p3, p4, pk, k1, k1']
  | ok u2 l2 =>
   have hx := cG hx x2
   try dsimp only at hx
   have s2 := bH h2 x2; obtain ⟨y3, hy3⟩ := dF hx; rw [hy3] at hx; have h3 := lh hr ihe hd12 s2 hy3
   cases y3 with
   | bad e q =>
    obtain rfl := bS hx rfl; obtain ⟨a', d'', eb⟩ := bC h3 rfl; refine ⟨a', d'', fun b Y hb => ?_⟩; have eb := eb hb; have e67 := e67 b Y hb; have f0 := g0 b Y hb; have f1 := g1 b Y hb; have f2 := g2 b Y hb; have f3 := g3 b Y hb; have f4 := g4 b Y hb; have f5 := g5 b Y hb; have e1 := aT h1 rfl hb; have e2 := aT h2 x2 hb; rw [dr]; obtain ⟨N, T, Lb, hN, hT, hL⟩ := lens3 Y; rw [hN] at hb
    conv => lhs; rw [← ao (Y.af false b (pc ts l d))]
    simp only [pc, pcf, aM, Tok.c, bw, aa, if_true, if_false, ab, cq, eF, eY, en, cE, fC, fS, p0, p1, p2, p3, p4, pk] at e67 f0 f1 f2 f3 f4 f5 e1 e2 eb ⊢
    generalize aC ts = es at *
    simp (maxDischargeDepth := 8) [il, hN, hT, hL, hb, e67, f0, f1, f2, f3, f4, f5, e1, e2, eb, p0, p1, p2, p3, p4, pk, k1, k1']
   | ok x3 l3 =>
    have hx := cG hx rfl
    try dsimp only at hx
    have s3 := bH h3 rfl; unfold gn at hx; have h4 := eW hr s3 d [59]
    cases x4 : dm [59] l3 with
    | bad e q =>
     obtain rfl := bS hx x4; obtain ⟨a', d'', eb⟩ := bC h4 x4; refine ⟨a', d'', fun b Y hb => ?_⟩; have eb := eb hb; have e67 := e67 b Y hb; have f0 := g0 b Y hb; have f1 := g1 b Y hb; have f2 := g2 b Y hb; have f3 := g3 b Y hb; have f4 := g4 b Y hb; have f5 := g5 b Y hb; have e1 := aT h1 rfl hb; have e2 := aT h2 x2 hb; have e3 := aT h3 rfl hb; rw [dr]; obtain ⟨N, T, Lb, hN, hT, hL⟩ := lens3 Y; rw [hN] at hb
     conv => lhs; rw [← ao (Y.af false b (pc ts l d))]
     simp only [pc, pcf, aM, Tok.c, bw, aa, if_true, if_false, ab, cq, eF, eY, en, cE, fC, fS, p0, p1, p2, p3, p4, pk] at e67 f0 f1 f2 f3 f4 f5 e1 e2 e3 eb ⊢
     generalize aC ts = es at *
     simp (maxDischargeDepth := 8) [il, hN, hT, hL, hb, e67, f0, f1, f2, f3, f4, f5, e1, e2, e3, eb, p0, p1, p2, p3, p4, pk, k1, k1']
    | ok u4 l4 =>
     have hx := cG hx x4
     try dsimp only at hx
     have s4 := bH h4 x4; obtain rfl := Option.some.inj hx; refine ⟨s4, fun b Y hb => ?_⟩; have e67 := e67 b Y hb; have f0 := g0 b Y hb; have f1 := g1 b Y hb; have f2 := g2 b Y hb; have f3 := g3 b Y hb; have f4 := g4 b Y hb; have f5 := g5 b Y hb; have e1 := aT h1 rfl hb; have e2 := aT h2 x2 hb; have e3 := aT h3 rfl hb; have e4 := aT h4 x4 hb; rw [dr]; obtain ⟨N, T, Lb, hN, hT, hL⟩ := lens3 Y; rw [hN] at hb
     conv => lhs; rw [← ao (Y.af false b (pc ts l d))]
     simp only [pc, pcf, aM, Tok.c, bw, aa, if_true, if_false, ab, cq, eF, eY, en, cE, fC, fS, p0, p1, p2, p3, p4, pk] at e67 f0 f1 f2 f3 f4 f5 e1 e2 e3 e4 ⊢
     generalize aC ts = es at *
     simp (maxDischargeDepth := 8) [il, hN, hT, hL, hb, e67, f0, f1, f2, f3, f4, f5, e1, e2, e3, e4, p0, p1, p2, p3, p4, pk, k1, k1']
theorem yx {d : Nat} {l : List Tok} {x : PR S} (hd12 : d ≤ 12) (h : Sfx ts l) (k1 : (hd l).kind ≠ 1) (p0 : isT l [108, 111, 111, 112] = false) (p1 : isT l [105, 102] = false) (p2 : isT l [97, 116, 111, 109, 105, 99] = false) (p3 : isT l [108, 101, 116] = false) (p4 : isT l [118, 97, 114] = false) (p5 : isT l [115, 101, 116] = false) (pk : isT l [112, 114, 105, 110, 116] = true) (hx : (pb (dT n 0 d l.tail) fun e l1 => gn (mkS (hd l) 5 (bs []) rt0 pl0 e 0 [] [] []) l1) = some x) : Rd 124 [] ts d d l en x := by
 have e67 := fun b (Y : St) hb => aD (dO h d 0 0 0 (b := b)) (s := Y) hb
 have g0 := fun b (Y : St) hb => aD (aG hr h d [108, 111, 111, 112] (b := b)) (s := Y) hb
 have g1 := fun b (Y : St) hb => aD (aG hr h d [105, 102] (b := b)) (s := Y) hb
 have g2 := fun b (Y : St) hb => aD (aG hr h d [97, 116, 111, 109, 105, 99] (b := b)) (s := Y) hb
 have g3 := fun b (Y : St) hb => aD (kc h d 0 0 0 [108, 101, 116] (b := b)) (s := Y) hb
 have g4 := fun b (Y : St) hb => aD (kc h d 0 0 0 [118, 97, 114] (b := b)) (s := Y) hb
 have g5 := fun b (Y : St) hb => aD (aG hr h d [115, 101, 116] (b := b)) (s := Y) hb
 have g6 := fun b (Y : St) hb => aD (aG hr h d [112, 114, 105, 110, 116] (b := b)) (s := Y) hb
 have k1' : ¬ (((hd l).kind : Int) = 1) := by omega
 have s0 := h.isT hr pk; obtain ⟨y1, hy1⟩ := dF hx; rw [hy1] at hx; have h1 := lh hr ihe hd12 s0 hy1
 cases y1 with
 | bad e q =>
  obtain rfl := bS hx rfl; obtain ⟨a', d'', eb⟩ := bC h1 rfl; refine ⟨a', d'', fun b Y hb => ?_⟩; have eb := eb hb; have e67 := e67 b Y hb; have f0 := g0 b Y hb; have f1 := g1 b Y hb; have f2 := g2 b Y hb; have f3 := g3 b Y hb; have f4 := g4 b Y hb; have f5 := g5 b Y hb; have f6 := g6 b Y hb; rw [dr]; obtain ⟨N, T, Lb, hN, hT, hL⟩ := lens3 Y; rw [hN] at hb
  conv => lhs; rw [← ao (Y.af false b (pc ts l d))]
  simp only [pc, pcf, aM, Tok.c, bw, aa, if_true, if_false, ab, cq, eF, eY, en, cE, fC, fS, p0, p1, p2, p3, p4, p5, pk] at e67 f0 f1 f2 f3 f4 f5 f6 eb ⊢
  generalize aC ts = es at *
  simp (maxDischargeDepth := 8) [il, hN, hT, hL, hb, e67, f0, f1, f2, f3, f4, f5, f6, eb, p0, p1, p2, p3, p4, p5, pk, k1, k1']
 | ok x1 l1 =>
  have hx := cG hx rfl
  try dsimp only at hx
  have s1 := bH h1 rfl; unfold gn at hx; have h2 := eW hr s1 d [59]
  cases x2 : dm [59] l1 with
  | bad e q =>
   obtain rfl := bS hx x2; obtain ⟨a', d'', eb⟩ := bC h2 x2; refine ⟨a', d'', fun b Y hb => ?_⟩; have eb := eb hb; have e67 := e67 b Y hb; have f0 := g0 b Y hb; have f1 := g1 b Y hb; have f2 := g2 b Y hb; have f3 := g3 b Y hb; have f4 := g4 b Y hb; have f5 := g5 b Y hb; have f6 := g6 b Y hb; have e1 := aT h1 rfl hb; rw [dr]; obtain ⟨N, T, Lb, hN, hT, hL⟩ := lens3 Y; rw [hN] at hb
   conv => lhs; rw [← ao (Y.af false b (pc ts l d))]
   simp only [pc, pcf, aM, Tok.c, bw, aa, if_true, if_false, ab, cq, eF, eY, en, cE, fC, fS, p0, p1, p2, p3, p4, p5, pk] at e67 f0 f1 f2 f3 f4 f5 f6 e1 eb ⊢
   generalize aC ts = es at *
   simp (maxDischargeDepth := 8) [il, hN, hT, hL, hb, e67, f0, f1, f2, f3, f4, f5, f6, e1, eb, p0, p1, p2, p3, p4, p5, pk, k1, k1']
  | ok u2 l2 =>
   have hx := cG hx x2
   try dsimp only at hx
   have s2 := bH h2 x2; obtain rfl := Option.some.inj hx; refine ⟨s2, fun b Y hb => ?_⟩; have e67 := e67 b Y hb; have f0 := g0 b Y hb; have f1 := g1 b Y hb; have f2 := g2 b Y hb; have f3 := g3 b Y hb; have f4 := g4 b Y hb; have f5 := g5 b Y hb; have f6 := g6 b Y hb; have e1 := aT h1 rfl hb; have e2 := aT h2 x2 hb; rw [dr]; obtain ⟨N, T, Lb, hN, hT, hL⟩ := lens3 Y; rw [hN] at hb
   conv => lhs; rw [← ao (Y.af false b (pc ts l d))]
   simp only [pc, pcf, aM, Tok.c, bw, aa, if_true, if_false, ab, cq, eF, eY, en, cE, fC, fS, p0, p1, p2, p3, p4, p5, pk] at e67 f0 f1 f2 f3 f4 f5 f6 e1 e2 ⊢
   generalize aC ts = es at *
   simp (maxDischargeDepth := 8) [il, hN, hT, hL, hb, e67, f0, f1, f2, f3, f4, f5, f6, e1, e2, p0, p1, p2, p3, p4, p5, pk, k1, k1']
theorem yu {d : Nat} {l : List Tok} {x : PR S} (hd12 : d ≤ 12) (h : Sfx ts l) (k1 : (hd l).kind ≠ 1) (p0 : isT l [108, 111, 111, 112] = false) (p1 : isT l [105, 102] = false) (p2 : isT l [97, 116, 111, 109, 105, 99] = false) (p3 : isT l [108, 101, 116] = false) (p4 : isT l [118, 97, 114] = false) (p5 : isT l [115, 101, 116] = false) (p6 : isT l [112, 114, 105, 110, 116] = false) (pk : isT l [98, 114, 101, 97, 107] = true) (hx : gn (mkS (hd l) 8 (eO l.tail).1 rt0 pl0 x0 0 [] [] []) (eO l.tail).2 = some x) : Rd 124 [] ts d d l en x := by
 have e67 := fun b (Y : St) hb => aD (dO h d 0 0 0 (b := b)) (s := Y) hb
 have g0 := fun b (Y : St) hb => aD (aG hr h d [108, 111, 111, 112] (b := b)) (s := Y) hb
 have g1 := fun b (Y : St) hb => aD (aG hr h d [105, 102] (b := b)) (s := Y) hb
 have g2 := fun b (Y : St) hb => aD (aG hr h d [97, 116, 111, 109, 105, 99] (b := b)) (s := Y) hb
 have g3 := fun b (Y : St) hb => aD (kc h d 0 0 0 [108, 101, 116] (b := b)) (s := Y) hb
 have g4 := fun b (Y : St) hb => aD (kc h d 0 0 0 [118, 97, 114] (b := b)) (s := Y) hb
 have g5 := fun b (Y : St) hb => aD (aG hr h d [115, 101, 116] (b := b)) (s := Y) hb
 have g6 := fun b (Y : St) hb => aD (aG hr h d [112, 114, 105, 110, 116] (b := b)) (s := Y) hb
 have g7 := fun b (Y : St) hb => aD (aG hr h d [98, 114, 101, 97, 107] (b := b)) (s := Y) hb
 have k1' : ¬ (((hd l).kind : Int) = 1) := by omega
 have s0 := h.isT hr pk; have s1 := s0.label hr
 have e158 := fun b (Y : St) hb => aD (wy hr s0 d b) (s := Y) hb
 unfold gn at hx; have h1 := eW hr s1 d [59]
 cases x1 : dm [59] (eO l.tail).2 with
 | bad e q =>
  obtain rfl := bS hx x1; obtain ⟨a', d'', eb⟩ := bC h1 x1; refine ⟨a', d'', fun b Y hb => ?_⟩; have eb := eb hb; have e67 := e67 b Y hb; have f0 := g0 b Y hb; have f1 := g1 b Y hb; have f2 := g2 b Y hb; have f3 := g3 b Y hb; have f4 := g4 b Y hb; have f5 := g5 b Y hb; have f6 := g6 b Y hb; have f7 := g7 b Y hb; have e158 := e158 b Y hb; rw [dr]; obtain ⟨N, T, Lb, hN, hT, hL⟩ := lens3 Y; rw [hN] at hb
  conv => lhs; rw [← ao (Y.af false b (pc ts l d))]
  simp only [pc, pcf, aM, Tok.c, bw, aa, if_true, if_false, ab, cq, eF, eY, en, cE, fC, fS, p0, p1, p2, p3, p4, p5, p6, pk] at e67 f0 f1 f2 f3 f4 f5 f6 f7 e158 eb ⊢
  generalize aC ts = es at *
  simp (maxDischargeDepth := 8) [il, hN, hT, hL, hb, e67, f0, f1, f2, f3, f4, f5, f6, f7, e158, eb, p0, p1, p2, p3, p4, p5, p6, pk, k1, k1']
 | ok u1 l1 =>
  have hx := cG hx x1
  try dsimp only at hx
  have s1 := bH h1 x1; obtain rfl := Option.some.inj hx; refine ⟨s1, fun b Y hb => ?_⟩; have e67 := e67 b Y hb; have f0 := g0 b Y hb; have f1 := g1 b Y hb; have f2 := g2 b Y hb; have f3 := g3 b Y hb; have f4 := g4 b Y hb; have f5 := g5 b Y hb; have f6 := g6 b Y hb; have f7 := g7 b Y hb; have e158 := e158 b Y hb; have e1 := aT h1 x1 hb; rw [dr]; obtain ⟨N, T, Lb, hN, hT, hL⟩ := lens3 Y; rw [hN] at hb
  conv => lhs; rw [← ao (Y.af false b (pc ts l d))]
  simp only [pc, pcf, aM, Tok.c, bw, aa, if_true, if_false, ab, cq, eF, eY, en, cE, fC, fS, p0, p1, p2, p3, p4, p5, p6, pk] at e67 f0 f1 f2 f3 f4 f5 f6 f7 e158 e1 ⊢
  generalize aC ts = es at *
  simp (maxDischargeDepth := 8) [il, hN, hT, hL, hb, e67, f0, f1, f2, f3, f4, f5, f6, f7, e158, e1, p0, p1, p2, p3, p4, p5, p6, pk, k1, k1']
theorem tH {d : Nat} {l : List Tok} {x : PR S} (hd12 : d ≤ 12) (h : Sfx ts l) (k1 : (hd l).kind ≠ 1) (p0 : isT l [108, 111, 111, 112] = false) (p1 : isT l [105, 102] = false) (p2 : isT l [97, 116, 111, 109, 105, 99] = false) (p3 : isT l [108, 101, 116] = false) (p4 : isT l [118, 97, 114] = false) (p5 : isT l [115, 101, 116] = false) (p6 : isT l [112, 114, 105, 110, 116] = false) (p7 : isT l [98, 114, 101, 97, 107] = false) (pk : isT l [99, 111, 110, 116, 105, 110, 117, 101] = true) (hx : gn (mkS (hd l) 9 (eO l.tail).1 rt0 pl0 x0 0 [] [] []) (eO l.tail).2 = some x) : Rd 124 [] ts d d l en x := by
 have e67 := fun b (Y : St) hb => aD (dO h d 0 0 0 (b := b)) (s := Y) hb
 have g0 := fun b (Y : St) hb => aD (aG hr h d [108, 111, 111, 112] (b := b)) (s := Y) hb
 have g1 := fun b (Y : St) hb => aD (aG hr h d [105, 102] (b := b)) (s := Y) hb
 have g2 := fun b (Y : St) hb => aD (aG hr h d [97, 116, 111, 109, 105, 99] (b := b)) (s := Y) hb
 have g3 := fun b (Y : St) hb => aD (kc h d 0 0 0 [108, 101, 116] (b := b)) (s := Y) hb
 have g4 := fun b (Y : St) hb => aD (kc h d 0 0 0 [118, 97, 114] (b := b)) (s := Y) hb
 have g5 := fun b (Y : St) hb => aD (aG hr h d [115, 101, 116] (b := b)) (s := Y) hb
 have g6 := fun b (Y : St) hb => aD (aG hr h d [112, 114, 105, 110, 116] (b := b)) (s := Y) hb
 have g7 := fun b (Y : St) hb => aD (aG hr h d [98, 114, 101, 97, 107] (b := b)) (s := Y) hb
 have g8 := fun b (Y : St) hb => aD (aG hr h d [99, 111, 110, 116, 105, 110, 117, 101] (b := b)) (s := Y) hb
 have k1' : ¬ (((hd l).kind : Int) = 1) := by omega
 have s0 := h.isT hr pk; have s1 := s0.label hr
 have e158 := fun b (Y : St) hb => aD (wy hr s0 d b) (s := Y) hb
 unfold gn at hx; have h1 := eW hr s1 d [59]
 cases x1 : dm [59] (eO l.tail).2 with
 | bad e q =>
  obtain rfl := bS hx x1; obtain ⟨a', d'', eb⟩ := bC h1 x1; refine ⟨a', d'', fun b Y hb => ?_⟩; have eb := eb hb; have e67 := e67 b Y hb; have f0 := g0 b Y hb; have f1 := g1 b Y hb; have f2 := g2 b Y hb; have f3 := g3 b Y hb; have f4 := g4 b Y hb; have f5 := g5 b Y hb; have f6 := g6 b Y hb; have f7 := g7 b Y hb; have f8 := g8 b Y hb; have e158 := e158 b Y hb; rw [dr]; obtain ⟨N, T, Lb, hN, hT, hL⟩ := lens3 Y; rw [hN] at hb
  conv => lhs; rw [← ao (Y.af false b (pc ts l d))]
  simp only [pc, pcf, aM, Tok.c, bw, aa, if_true, if_false, ab, cq, eF, eY, en, cE, fC, fS, p0, p1, p2, p3, p4, p5, p6, p7, pk] at e67 f0 f1 f2 f3 f4 f5 f6 f7 f8 e158 eb ⊢
  generalize aC ts = es at *
  simp (maxDischargeDepth := 8) [il, hN, hT, hL, hb, e67, f0, f1, f2, f3, f4, f5, f6, f7, f8, e158, eb, p0, p1, p2, p3, p4, p5, p6, p7, pk, k1, k1']
 | ok u1 l1 =>
  have hx := cG hx x1
  try dsimp only at hx
  have s1 := bH h1 x1; obtain rfl := Option.some.inj hx; refine ⟨s1, fun b Y hb => ?_⟩; have e67 := e67 b Y hb; have f0 := g0 b Y hb; have f1 := g1 b Y hb; have f2 := g2 b Y hb; have f3 := g3 b Y hb; have f4 := g4 b Y hb; have f5 := g5 b Y hb; have f6 := g6 b Y hb; have f7 := g7 b Y hb; have f8 := g8 b Y hb; have e158 := e158 b Y hb; have e1 := aT h1 x1 hb; rw [dr]; obtain ⟨N, T, Lb, hN, hT, hL⟩ := lens3 Y; rw [hN] at hb
  conv => lhs; rw [← ao (Y.af false b (pc ts l d))]
  simp only [pc, pcf, aM, Tok.c, bw, aa, if_true, if_false, ab, cq, eF, eY, en, cE, fC, fS, p0, p1, p2, p3, p4, p5, p6, p7, pk] at e67 f0 f1 f2 f3 f4 f5 f6 f7 f8 e158 e1 ⊢
  generalize aC ts = es at *
  simp (maxDischargeDepth := 8) [il, hN, hT, hL, hb, e67, f0, f1, f2, f3, f4, f5, f6, f7, f8, e158, e1, p0, p1, p2, p3, p4, p5, p6, p7, pk, k1, k1']
theorem Bc {d : Nat} {l : List Tok} {x : PR S} (hd12 : d ≤ 12) (h : Sfx ts l) (k1 : (hd l).kind ≠ 1) (p0 : isT l [108, 111, 111, 112] = false) (p1 : isT l [105, 102] = false) (p2 : isT l [97, 116, 111, 109, 105, 99] = false) (p3 : isT l [108, 101, 116] = false) (p4 : isT l [118, 97, 114] = false) (p5 : isT l [115, 101, 116] = false) (p6 : isT l [112, 114, 105, 110, 116] = false) (p7 : isT l [98, 114, 101, 97, 107] = false) (p8 : isT l [99, 111, 110, 116, 105, 110, 117, 101] = false) (pk : isT l [99, 97, 108, 108] = true) (hx : (pb (some (eg 1 l.tail)) fun u l1 => pb (pt n d l1) fun xs l2 => gn (mkS (hd l) 11 (bs u.text) rt0 pl0 x0 0 xs [] []) l2) = some x) : Rd 124 [] ts d d l en x := by
 have e67 := fun b (Y : St) hb => aD (dO h d 0 0 0 (b := b)) (s := Y) hb
 have g0 := fun b (Y : St) hb => aD (aG hr h d [108, 111, 111, 112] (b := b)) (s := Y) hb
 have g1 := fun b (Y : St) hb => aD (aG hr h d [105, 102] (b := b)) (s := Y) hb
 have g2 := fun b (Y : St) hb => aD (aG hr h d [97, 116, 111, 109, 105, 99] (b := b)) (s := Y) hb
 have g3 := fun b (Y : St) hb => aD (kc h d 0 0 0 [108, 101, 116] (b := b)) (s := Y) hb
 have g4 := fun b (Y : St) hb => aD (kc h d 0 0 0 [118, 97, 114] (b := b)) (s := Y) hb
 have g5 := fun b (Y : St) hb => aD (aG hr h d [115, 101, 116] (b := b)) (s := Y) hb
 have g6 := fun b (Y : St) hb => aD (aG hr h d [112, 114, 105, 110, 116] (b := b)) (s := Y) hb
 have g7 := fun b (Y : St) hb => aD (aG hr h d [98, 114, 101, 97, 107] (b := b)) (s := Y) hb
 have g8 := fun b (Y : St) hb => aD (aG hr h d [99, 111, 110, 116, 105, 110, 117, 101] (b := b)) (s := Y) hb
 have g9 := fun b (Y : St) hb => aD (aG hr h d [99, 97, 108, 108] (b := b)) (s := Y) hb
 have k1' : ¬ (((hd l).kind : Int) = 1) := by omega
 have s0 := h.isT hr pk; have h1 := ik hr s0 d 1
 cases x1 : eg 1 l.tail with
 | bad e q =>
  obtain rfl := bS hx x1; obtain ⟨a', d'', eb⟩ := bC h1 x1; refine ⟨a', d'', fun b Y hb => ?_⟩; have eb := eb hb; have e67 := e67 b Y hb; have f0 := g0 b Y hb; have f1 := g1 b Y hb; have f2 := g2 b Y hb; have f3 := g3 b Y hb; have f4 := g4 b Y hb; have f5 := g5 b Y hb; have f6 := g6 b Y hb; have f7 := g7 b Y hb; have f8 := g8 b Y hb; have f9 := g9 b Y hb; rw [dr]; obtain ⟨N, T, Lb, hN, hT, hL⟩ := lens3 Y; rw [hN] at hb
  conv => lhs; rw [← ao (Y.af false b (pc ts l d))]
  simp only [pc, pcf, aM, Tok.c, bw, aa, if_true, if_false, ab, cq, eF, eY, en, cE, fC, fS, p0, p1, p2, p3, p4, p5, p6, p7, p8, pk] at e67 f0 f1 f2 f3 f4 f5 f6 f7 f8 f9 eb ⊢
  generalize aC ts = es at *
  simp (maxDischargeDepth := 8) [il, hN, hT, hL, hb, e67, f0, f1, f2, f3, f4, f5, f6, f7, f8, f9, eb, p0, p1, p2, p3, p4, p5, p6, p7, p8, pk, k1, k1']
 | ok u1 l1 =>
  have hx := cG hx x1
  try dsimp only at hx
  have s1 := bH h1 x1; obtain ⟨y2, hy2⟩ := dF hx; rw [hy2] at hx; have h2 := Ee hr ihe hd12 hn s1 hy2
  cases y2 with
  | bad e q =>
   obtain rfl := bS hx rfl; obtain ⟨a', d'', eb⟩ := bC h2 rfl; refine ⟨a', d'', fun b Y hb => ?_⟩; have eb := eb hb; have e67 := e67 b Y hb; have f0 := g0 b Y hb; have f1 := g1 b Y hb; have f2 := g2 b Y hb; have f3 := g3 b Y hb; have f4 := g4 b Y hb; have f5 := g5 b Y hb; have f6 := g6 b Y hb; have f7 := g7 b Y hb; have f8 := g8 b Y hb; have f9 := g9 b Y hb; have e1 := aT h1 x1 hb; rw [dr]; obtain ⟨N, T, Lb, hN, hT, hL⟩ := lens3 Y; rw [hN] at hb
   conv => lhs; rw [← ao (Y.af false b (pc ts l d))]
   simp only [pc, pcf, aM, Tok.c, bw, aa, if_true, if_false, ab, cq, eF, eY, en, cE, fC, fS, p0, p1, p2, p3, p4, p5, p6, p7, p8, pk] at e67 f0 f1 f2 f3 f4 f5 f6 f7 f8 f9 e1 eb ⊢
   generalize aC ts = es at *
   simp (maxDischargeDepth := 8) [il, hN, hT, hL, hb, e67, f0, f1, f2, f3, f4, f5, f6, f7, f8, f9, e1, eb, p0, p1, p2, p3, p4, p5, p6, p7, p8, pk, k1, k1']
  | ok xs2 l2 =>
   have hx := cG hx rfl
   try dsimp only at hx
   have s2 := bH h2 rfl; unfold gn at hx; have h3 := eW hr s2 d [59]
   cases x3 : dm [59] l2 with
   | bad e q =>
    obtain rfl := bS hx x3; obtain ⟨a', d'', eb⟩ := bC h3 x3; refine ⟨a', d'', fun b Y hb => ?_⟩; have eb := eb hb; have e67 := e67 b Y hb; have f0 := g0 b Y hb; have f1 := g1 b Y hb; have f2 := g2 b Y hb; have f3 := g3 b Y hb; have f4 := g4 b Y hb; have f5 := g5 b Y hb; have f6 := g6 b Y hb; have f7 := g7 b Y hb; have f8 := g8 b Y hb; have f9 := g9 b Y hb; have e1 := aT h1 x1 hb; have e2 := aT h2 rfl hb; rw [dr]; obtain ⟨N, T, Lb, hN, hT, hL⟩ := lens3 Y; rw [hN] at hb
    conv => lhs; rw [← ao (Y.af false b (pc ts l d))]
    simp only [pc, pcf, aM, Tok.c, bw, aa, if_true, if_false, ab, cq, eF, eY, en, cE, fC, fS, p0, p1, p2, p3, p4, p5, p6, p7, p8, pk] at e67 f0 f1 f2 f3 f4 f5 f6 f7 f8 f9 e1 e2 eb ⊢
    generalize aC ts = es at *
    simp (maxDischargeDepth := 8) [il, hN, hT, hL, hb, e67, f0, f1, f2, f3, f4, f5, f6, f7, f8, f9, e1, e2, eb, p0, p1, p2, p3, p4, p5, p6, p7, p8, pk, k1, k1']
   | ok u3 l3 =>
    have hx := cG hx x3
    try dsimp only at hx
    have s3 := bH h3 x3; obtain rfl := Option.some.inj hx; refine ⟨s3, fun b Y hb => ?_⟩; have e67 := e67 b Y hb; have f0 := g0 b Y hb; have f1 := g1 b Y hb; have f2 := g2 b Y hb; have f3 := g3 b Y hb; have f4 := g4 b Y hb; have f5 := g5 b Y hb; have f6 := g6 b Y hb; have f7 := g7 b Y hb; have f8 := g8 b Y hb; have f9 := g9 b Y hb; have e1 := aT h1 x1 hb; have e2 := aT h2 rfl hb; have e3 := aT h3 x3 hb; rw [dr]; obtain ⟨N, T, Lb, hN, hT, hL⟩ := lens3 Y; rw [hN] at hb
    conv => lhs; rw [← ao (Y.af false b (pc ts l d))]
    simp only [pc, pcf, aM, Tok.c, bw, aa, if_true, if_false, ab, cq, eF, eY, en, cE, fC, fS, p0, p1, p2, p3, p4, p5, p6, p7, p8, pk] at e67 f0 f1 f2 f3 f4 f5 f6 f7 f8 f9 e1 e2 e3 ⊢
    generalize aC ts = es at *
    simp (maxDischargeDepth := 8) [il, hN, hT, hL, hb, e67, f0, f1, f2, f3, f4, f5, f6, f7, f8, f9, e1, e2, e3, p0, p1, p2, p3, p4, p5, p6, p7, p8, pk, k1, k1']
theorem Bf {d : Nat} {l : List Tok} {x : PR S} (hd12 : d ≤ 12) (h : Sfx ts l) (k1 : (hd l).kind ≠ 1) (p0 : isT l [108, 111, 111, 112] = false) (p1 : isT l [105, 102] = false) (p2 : isT l [97, 116, 111, 109, 105, 99] = false) (p3 : isT l [108, 101, 116] = false) (p4 : isT l [118, 97, 114] = false) (p5 : isT l [115, 101, 116] = false) (p6 : isT l [112, 114, 105, 110, 116] = false) (p7 : isT l [98, 114, 101, 97, 107] = false) (p8 : isT l [99, 111, 110, 116, 105, 110, 117, 101] = false) (p9 : isT l [99, 97, 108, 108] = false)  (hx : some (.bad 4 (hd l).p) = some x) : Rd 124 [] ts d d l en x := by
 have e67 := fun b (Y : St) hb => aD (dO h d 0 0 0 (b := b)) (s := Y) hb
 have k1' : ¬ (((hd l).kind : Int) = 1) := by omega
 obtain rfl := Option.some.inj hx; refine ⟨pcA ts l, d, fun b Y hb => ?_⟩; have e74 := aD (oc (aC ts) (pcA ts l) d 4 (hd l) (b := b)) hb; have e67 := e67 b Y hb; have f0 := aD (aG hr h d [108, 111, 111, 112] (b := b)) (s := Y) hb; have f1 := aD (aG hr h d [105, 102] (b := b)) (s := Y) hb; have f2 := aD (aG hr h d [97, 116, 111, 109, 105, 99] (b := b)) (s := Y) hb; have f3 := aD (kc h d 0 0 0 [108, 101, 116] (b := b)) (s := Y) hb; have f4 := aD (kc h d 0 0 0 [118, 97, 114] (b := b)) (s := Y) hb; have f5 := aD (aG hr h d [115, 101, 116] (b := b)) (s := Y) hb; have f6 := aD (aG hr h d [112, 114, 105, 110, 116] (b := b)) (s := Y) hb; have f7 := aD (aG hr h d [98, 114, 101, 97, 107] (b := b)) (s := Y) hb; have f8 := aD (aG hr h d [99, 111, 110, 116, 105, 110, 117, 101] (b := b)) (s := Y) hb; have f9 := aD (aG hr h d [99, 97, 108, 108] (b := b)) (s := Y) hb; have e74 := e74; rw [dr]; obtain ⟨N, T, Lb, hN, hT, hL⟩ := lens3 Y; rw [hN] at hb
 conv => lhs; rw [← ao (Y.af false b (pc ts l d))]
 simp only [pc, pcf, aM, Tok.c, bw, aa, if_true, if_false, ab, cq, eF, eY, en, cE, fC, p0, p1, p2, p3, p4, p5, p6, p7, p8, p9] at e67 f0 f1 f2 f3 f4 f5 f6 f7 f8 f9 e74 ⊢
 generalize aC ts = es at *
 simp (maxDischargeDepth := 8) [il, hN, hT, hL, hb, e67, f0, f1, f2, f3, f4, f5, f6, f7, f8, f9, e74, p0, p1, p2, p3, p4, p5, p6, p7, p8, p9, k1, k1']
end
end Go.Proofs.YtlhlijaondmccaaGreatDoor.S
namespace Go.Proofs.YtlhlijaondmccaaGreatDoor.S
open Go Go.AM Go.Proofs
theorem E9 {ts : List Tok} (hr : Row ts) {n : Nat} (hn : n ≤ 1000000) (ihe : nc ts n) (ih : sb ts n) : ∀ d l x, d ≤ 12 → Sfx ts l → ju (n + 1) d l = some x → Rd 124 [] ts d d l en x := by
 intro d l x hd12 h hx; simp only [ju] at hx
 by_cases k1 : (hd l).kind = 1
 · rw [if_pos k1] at hx
   exact Be hr hn ihe ih hd12 h k1 hx
 rw [if_neg k1] at hx
 cases p0 : isT l [108, 111, 111, 112] with
 | true => rw [if_pos p0] at hx; exact Bd hr hn ihe ih hd12 h k1 p0 hx
 | false =>
 rw [if_neg (by rw [p0]; decide)] at hx
 cases p1 : isT l [105, 102] with
 | true => rw [if_pos p1] at hx; exact E8 hr hn ihe ih hd12 h k1 p0 p1 hx
 | false =>
 rw [if_neg (by rw [p1]; decide)] at hx
 cases p2 : isT l [97, 116, 111, 109, 105, 99] with
 | true => rw [if_pos p2] at hx; exact xl hr hn ihe ih hd12 h k1 p0 p1 p2 hx
 | false =>
 rw [if_neg (by rw [p2]; decide)] at hx
 cases p3 : isT l [108, 101, 116] with
 | true =>
  rw [if_pos (cN p3), if_neg (by rw [pQ p3]; decide)] at hx; exact De hr hn ihe ih hd12 h k1 p0 p1 p2 p3 hx
 | false =>
 cases p4 : isT l [118, 97, 114] with
 | true =>
  rw [if_pos (cK p4), if_pos (pQ p4)] at hx; exact Dg hr hn ihe ih hd12 h k1 p0 p1 p2 p3 p4 hx
 | false =>
 rw [if_neg (by rw [p3, p4]; decide)] at hx
 cases p5 : isT l [115, 101, 116] with
 | true => rw [if_pos p5] at hx; exact Df hr hn ihe ih hd12 h k1 p0 p1 p2 p3 p4 p5 hx
 | false =>
 rw [if_neg (by rw [p5]; decide)] at hx
 cases p6 : isT l [112, 114, 105, 110, 116] with
 | true => rw [if_pos p6] at hx; exact yx hr hn ihe ih hd12 h k1 p0 p1 p2 p3 p4 p5 p6 hx
 | false =>
 rw [if_neg (by rw [p6]; decide)] at hx
 cases p7 : isT l [98, 114, 101, 97, 107] with
 | true => rw [if_pos p7] at hx; exact yu hr hn ihe ih hd12 h k1 p0 p1 p2 p3 p4 p5 p6 p7 hx
 | false =>
 rw [if_neg (by rw [p7]; decide)] at hx
 cases p8 : isT l [99, 111, 110, 116, 105, 110, 117, 101] with
 | true => rw [if_pos p8] at hx; exact tH hr hn ihe ih hd12 h k1 p0 p1 p2 p3 p4 p5 p6 p7 p8 hx
 | false =>
 rw [if_neg (by rw [p8]; decide)] at hx
 cases p9 : isT l [99, 97, 108, 108] with
 | true => rw [if_pos p9] at hx; exact Bc hr hn ihe ih hd12 h k1 p0 p1 p2 p3 p4 p5 p6 p7 p8 p9 hx
 | false =>
 rw [if_neg (by rw [p9]; decide)] at hx; exact Bf hr hn ihe ih hd12 h k1 p0 p1 p2 p3 p4 p5 p6 p7 p8 p9 hx
theorem Dc {ts : List Tok} (hr : Row ts) : ∀ n, n ≤ 1000000 → sb ts n ∧ ∀ d acc l x, d ≤ 12 → acc.length + n ≤ 1000000 → Sfx ts l → lI n d acc l = some x → DJ ts d acc l x
 | 0, _ => by
  refine ⟨⟨?_, ?_, ?_⟩, ?_⟩
  · intro d l x _ _ h; simp [eX] at h
  · intro d t name l x _ _ h; simp [iF] at h
  · intro d l x _ _ h; simp [ju] at h
  · intro d acc l x _ _ _ h; simp [lI] at h
 | n + 1, hn => by
  obtain ⟨i, r⟩ := Dc hr n (by omega); obtain ⟨e, _⟩ := zj hr n; exact ⟨⟨BQ hr (by omega) r, fun d t name l x h1 h2 h3 => EN hr i d t name l x h1 h2 h3, E9 hr (by omega) e i⟩, Gw hr i r⟩
abbrev nmC (x : Nm) : List PV := [.v (.string x.name), .v (.int .i64 x.ty.kd), .v (.string x.ty.rc), .v (.int .i64 x.line), .v (.int .i64 x.col)]
def nms (l : List Nm) : List (List PV) := l.map nmC
theorem mH (l : List Nm) : cM 5 (nms l) = true := jQ nmC (fun _ => rfl) l
theorem rS (a b : List Nm) : nms (a ++ b) = nms a ++ nms b := List.map_append ..
theorem fg (a : List Nm) : (nms a).length = a.length := List.length_map ..
abbrev jZ (r : Rec) : PV := .agg [.v (.string r.name), .sl (nms r.fields) .dead, .v (.int .i64 r.line), .v (.int .i64 r.col)]
attribute [local simp] cX cx bY bZ cy fq fv ec de dY db dZ dc fu cc im dS iq ic hO AM.ae aR aS bf aN aE AM.onG gb bW ef Ex.bn cond_true cond_false cT cS cR cQ cP cV cO cW cU ed dh di cw cY AM.du AM.cellsOf AM.an bX beq_true cM ah ay bj bz bT decide_true decide_false bF bE bu bD bg aB az aU al cZ da ft aA bI ba bR cC dR dX cJ eE eD set_set eI dy fT dz cI bK dx dw cH dv eH eJ fM fN bM cu eB fL dW aV aX aI AM.aY ai dt bU bc bh aP aO AM.part br aQ cf cm cj cn cn.eS AM.dN bG cg dJ fW aV laid aJ bq cz
attribute [-simp] aj
attribute [local congr] dK
def FJ (ts : List Tok) (d : Nat) (acc : List Nm) (l : List Tok) (x : PR (List Nm)) : Prop := match x with
 | .ok xs l' => Sfx ts l' ∧ ∀ b (Y : St), b < Y.stk.length → ∀ N T Lb, Y.stk.length = N → Y.tk.length = T → Y.lp.length = Lb → ∀ c tk (B0 B1 : List PV) (nm : ByteArray) (ln cl : Int), gZ T tk c acc.length 5 → ∃ c' tk',
  itE (S69.b0 (E L) itE N Lb) [.ptr false b 0, .ptr false N 0, .ptr false (N + 2) 0] ((Y.af false b (pc ts l d)).app [⟨B0, []⟩, ⟨B1, []⟩, ⟨[.v (.string nm), .sl (nms acc) c, .v (.int .i64 ln), .v (.int .i64 cl)], []⟩] tk []) =
   some (.exit 0, [.ptr false b 0, .ptr false N 0, .ptr false (N + 2) 0], (Y.af false b (pc ts l' d)).app [⟨B0, []⟩, ⟨B1, []⟩, ⟨[.v (.string nm), .sl (nms xs) c', .v (.int .i64 ln), .v (.int .i64 cl)], []⟩] tk' [])
 | .bad er p => ∃ a' d'', ∀ b (Y : St), b < Y.stk.length → ∀ N T Lb, Y.stk.length = N → Y.tk.length = T → Y.lp.length = Lb → ∀ c tk (B0 B1 : List PV) (nm : ByteArray) (ln cl : Int), gZ T tk c acc.length 5 → ∃ B2 tk',
  itE (S69.b0 (E L) itE N Lb) [.ptr false b 0, .ptr false N 0, .ptr false (N + 2) 0] ((Y.af false b (pc ts l d)).app [⟨B0, []⟩, ⟨B1, []⟩, ⟨[.v (.string nm), .sl (nms acc) c, .v (.int .i64 ln), .v (.int .i64 cl)], []⟩] tk []) =
   some (.pan 108 (.agg #[]), [.ptr false b 0, .ptr false N 0, .ptr false (N + 2) 0], (Y.af false b (pcf (aC ts) a' d'' er p.1 p.2)).app [⟨B0, []⟩, ⟨B1, []⟩, ⟨B2, []⟩] tk' [])
section
variable {ts : List Tok} (hr : Row ts)
include hr
theorem wg {d : Nat} : ∀ n acc l x, acc.length + n ≤ 1000000 → Sfx ts l → gr n acc l = some x → FJ ts d acc l x := by
 intro n
 induction n with
 | zero => intro acc l x _ _ hx; simp [gr] at hx
 | succ n ih =>
  intro acc l x hac h hx; simp only [gr] at hx
  cases i1 : isT l [125] with
  | true =>
   rw [if_pos i1] at hx; obtain rfl := Option.some.inj hx; refine ⟨h.isT hr i1, fun b Y hb N T Lb hN hT hL c tk B0 B1 nm ln cl ho => ⟨c, tk, ?_⟩⟩; have e1 := aD (aG hr h d [125] (b := b)) (s := Y) hb; simp only [pc, pcf, i1, if_true] at e1 ⊢
   generalize aC ts = es at *
   apply iS; simp [S69.b0, hN, hT, hL, hb, e1, i1]
  | false =>
   rw [if_neg (by rw [i1]; decide)] at hx; obtain ⟨y, hy⟩ := dF hx; rw [hy] at hx; have h2 := sJ hr h d hy
   cases y with
   | bad er q =>
    obtain rfl := bS hx rfl; obtain ⟨a', d'', eb⟩ := bC h2 rfl; refine ⟨a', d'', fun b Y hb N T Lb hN hT hL c tk B0 B1 nm ln cl ho => ⟨[.v (.string nm), .sl (nms acc) c, .v (.int .i64 ln), .v (.int .i64 cl)], tk, ?_⟩⟩; have e1 := aD (aG hr h d [125] (b := b)) (s := Y) hb; have eb := eb hb; simp only [pc, pcf, i1, if_false, ab] at e1 eb ⊢
    generalize aC ts = es at *
    apply jh; simp [S69.b0, hN, hT, hL, hb, e1, eb, i1]
   | ok s l1 =>
    have hx := cG hx rfl
    try dsimp only at hx
    have s1 := bH h2 rfl
    have own : ∀ (b : Nat) (Y : St) (T : Nat), Y.tk.length = T → ∀ c tk, gZ T tk c acc.length 5 → ∃ c' tk', (∀ (bl : List Blk) (lp : List Aux) (base : Nat) (z : List PV), bA base z 5 56 (.sl (nms acc) c) [nmC s] ((Y.af false b (pc ts l1 d)).app bl tk lp) = some (.sl (nms (acc ++ [s])) c', (Y.af false b (pc ts l1 d)).app bl tk' lp)) ∧ gZ T tk' c' (acc ++ [s]).length 5 := by
     intro b Y T hT c tk ho; rw [← fg] at ho; have := ho.grow (ys := [nmC s]) (bytes := 56) (b := b) (cs := pc ts l1 d) hT (by rw [fg, bQ]; unfold bP; omega) (mH _) (mH [s]) (by omega) (by omega); rw [rS]; simpa [fg, nms] using this
    have h3 := eW hr s1 d [59]
    cases x3 : dm [59] l1 with
    | bad er q =>
     obtain rfl := bS hx x3; obtain ⟨a', d'', eb⟩ := bC h3 x3; refine ⟨a', d'', fun b Y hb N T Lb hN hT hL c tk B0 B1 nm ln cl ho => ?_⟩; obtain ⟨c', tk', ea, _⟩ := own b Y T hT c tk ho; refine ⟨[.v (.string nm), .sl (nms (acc ++ [s])) c', .v (.int .i64 ln), .v (.int .i64 cl)], tk', ?_⟩; have e1 := aD (aG hr h d [125] (b := b)) (s := Y) hb; have e2 := aT h2 rfl hb; have eb := eb hb; simp only [pc, pcf, aM, iL, iM, nmC, i1, if_false, ab] at e1 e2 ea eb ⊢
     generalize aC ts = es at *
     apply jh; simp [S69.b0, hN, hT, hL, hb, e1, e2, aZ, ea, eb, i1, aF, jr, gw, AM.cv, AM.eK, chunks]
    | ok u l3 =>
     have hx := cG hx x3
     try dsimp only at hx
     have s3 := bH h3 x3; have h4 := ih (acc ++ [s]) l3 x (by simp only [au, bQ]; omega) s3 hx
     have stp : ∀ b (Y : St), b < Y.stk.length → ∀ N T Lb, Y.stk.length = N → Y.tk.length = T → Y.lp.length = Lb → ∀ c tk (B0 B1 : List PV) (nm : ByteArray) (ln cl : Int), gZ T tk c acc.length 5 → ∃ c' tk', gZ T tk' c' (acc ++ [s]).length 5 ∧
      S69.b0 (E L) itE N Lb [.ptr false b 0, .ptr false N 0, .ptr false (N + 2) 0] ((Y.af false b (pc ts l d)).app [⟨B0, []⟩, ⟨B1, []⟩, ⟨[.v (.string nm), .sl (nms acc) c, .v (.int .i64 ln), .v (.int .i64 cl)], []⟩] tk []) =
       some (.normal, [.ptr false b 0, .ptr false N 0, .ptr false (N + 2) 0], (Y.af false b (pc ts l3 d)).app [⟨B0, []⟩, ⟨B1, []⟩, ⟨[.v (.string nm), .sl (nms (acc ++ [s])) c', .v (.int .i64 ln), .v (.int .i64 cl)], []⟩] tk' []) := by
      intro b Y hb N T Lb hN hT hL c tk B0 B1 nm ln cl ho; obtain ⟨c', tk', ea, ho'⟩ := own b Y T hT c tk ho; refine ⟨c', tk', ho', ?_⟩; have e1 := aD (aG hr h d [125] (b := b)) (s := Y) hb; have e2 := aT h2 rfl hb; have e3 := aT h3 x3 hb; simp only [pc, pcf, aM, iL, iM, nmC, i1, if_false, ab] at e1 e2 e3 ea ⊢
      generalize aC ts = es at *
      simp [S69.b0, hN, hT, hL, hb, e1, e2, e3, aZ, ea, i1, aF, jr, gw, AM.cv, AM.eK, chunks]
     cases x with
     | ok xs l' =>
      refine ⟨h4.1, fun b Y hb N T Lb hN hT hL c tk B0 B1 nm ln cl ho => ?_⟩; obtain ⟨c1, tk1, ho1, hs⟩ := stp b Y hb N T Lb hN hT hL c tk B0 B1 nm ln cl ho; obtain ⟨c', tk', hit⟩ := h4.2 b Y hb N T Lb hN hT hL c1 tk1 B0 B1 nm ln cl ho1; exact ⟨c', tk', (cd hs).trans hit⟩
     | bad er p =>
      obtain ⟨a', d'', h4⟩ := h4; refine ⟨a', d'', fun b Y hb N T Lb hN hT hL c tk B0 B1 nm ln cl ho => ?_⟩; obtain ⟨c1, tk1, ho1, hs⟩ := stp b Y hb N T Lb hN hT hL c tk B0 B1 nm ln cl ho; obtain ⟨z, tk', hit⟩ := h4 b Y hb N T Lb hN hT hL c1 tk1 B0 B1 nm ln cl ho1; exact ⟨z, tk', (cd hs).trans hit⟩
theorem Gv {d n : Nat} {l : List Tok} {x : PR Rec} (hn : n ≤ 1000000) (h : Sfx ts l) (hx : vu n l = some x) : Rd 69 [] ts d d l jZ x := by
 unfold vu at hx; have h1 := ik hr h d 1
 cases x1 : eg 1 l with
 | bad e q =>
  obtain rfl := bS hx x1; obtain ⟨a', d'', eb⟩ := bC h1 x1; refine ⟨a', d'', fun b Y hb => ?_⟩; have eb := eb hb; rw [uJ]; obtain ⟨N, T, Lb, hN, hT, hL⟩ := lens3 Y; rw [hN] at hb
  conv => lhs; rw [← ao (Y.af false b (pc ts l d))]
  simp only [pc, pcf, aM, Tok.c, bw, aa] at eb ⊢
  generalize aC ts = es at *
  simp [S69, hN, hT, hL, hb, eb]
 | ok t l1 =>
  have hx := cG hx x1
  try dsimp only at hx
  have s1 := bH h1 x1; have h2 := eW hr s1 d [123]
  cases x2 : dm [123] l1 with
  | bad e q =>
   obtain rfl := bS hx x2; obtain ⟨a', d'', eb⟩ := bC h2 x2; refine ⟨a', d'', fun b Y hb => ?_⟩; have e1 := aT h1 x1 hb; have eb := eb hb; rw [uJ]; obtain ⟨N, T, Lb, hN, hT, hL⟩ := lens3 Y; rw [hN] at hb
   conv => lhs; rw [← ao (Y.af false b (pc ts l d))]
   simp only [pc, pcf, aM, Tok.c, bw, aa] at e1 eb ⊢
   generalize aC ts = es at *
   simp [S69, hN, hT, hL, hb, e1, eb]
  | ok u l2 =>
   have hx := cG hx x2
   try dsimp only at hx
   have s2 := bH h2 x2; obtain ⟨y, hy⟩ := dF hx; rw [hy] at hx; have h3 := wg hr (d := d) n [] l2 y (by simpa using hn) s2 hy
   cases y with
   | bad er q =>
    obtain rfl := bS hx rfl; obtain ⟨a', d'', h3⟩ := h3; refine ⟨a', d'', fun b Y hb => ?_⟩; have e1 := aT h1 x1 hb; have e2 := aT h2 x2 hb; obtain ⟨z, tk', hit⟩ := h3 b Y hb _ _ _ rfl rfl rfl .nil [] [str [], .sl [] .nil, .v (.int .i64 0), .v (.int .i64 0)] t.c (bs t.text) t.p.1 t.p.2 (.inl (.inl rfl)); rw [uJ]; obtain ⟨N, T, Lb, hN, hT, hL⟩ := lens3 Y; rw [hN] at hb; rw [hN] at hit
    conv => lhs; rw [← ao (Y.af false b (pc ts l d))]
    rw [hL] at hit; simp only [pc, pcf, aM, Tok.c, bw, aa, nms, bh] at e1 e2 hit ⊢
    generalize aC ts = es at *
    simp [S69, hN, hT, hL, hb, e1, e2, hit, Ex.bn]
   | ok fs l3 =>
    obtain rfl := Option.some.inj (cG hx rfl); refine ⟨h3.1, fun b Y hb => ?_⟩; have e1 := aT h1 x1 hb; have e2 := aT h2 x2 hb; obtain ⟨c', tk', hit⟩ := h3.2 b Y hb _ _ _ rfl rfl rfl .nil [] [str [], .sl [] .nil, .v (.int .i64 0), .v (.int .i64 0)] t.c (bs t.text) t.p.1 t.p.2 (.inl (.inl rfl)); rw [uJ]; obtain ⟨N, T, Lb, hN, hT, hL⟩ := lens3 Y; rw [hN] at hb; rw [hN] at hit
    conv => lhs; rw [← ao (Y.af false b (pc ts l d))]
    rw [hL] at hit; simp only [pc, pcf, aM, Tok.c, bw, aa, nms, bh] at e1 e2 hit ⊢
    generalize aC ts = es at *
    simp [S69, hN, hT, hL, hb, e1, e2, hit, Ex.bn]
    rfl
end
abbrev mW (r : Fu) : PV := .agg [.v (.string r.name), .sl (nms r.params) .dead, .sl (dQ r.body) .dead, .v (.int .i64 r.line), .v (.int .i64 r.col)]
attribute [local simp] cX cx bY bZ cy fq fv ec de dY db dZ dc fu cc im dS iq ic hO AM.ae aR aS bf aN aE AM.onG gb bW ef Ex.bn cond_true cond_false cT cS cR cQ cP cV cO cW cU ed dh di cw cY AM.du AM.cellsOf AM.an bX beq_true cM ah ay bj bz bT decide_true decide_false bF bE bu bD bg aB az aU al cZ da ft aA bI ba bR cC dR dX cJ eE eD set_set eI dy fT dz cI bK dx dw cH dv eH eJ fM fN bM cu eB fL dW aV aX aI AM.aY ai dt bU bc bh aP aO AM.part br aQ cf cm cj cn cn.eS AM.dN bG cg dJ fW aV laid aJ bq cz
attribute [local congr] dK
abbrev fuC (nm : ByteArray) (ps : List Nm) (c : Cap) (ln cl : Int) : List PV := [.v (.string nm), .sl (nms ps) c, .sl [] .nil, .v (.int .i64 ln), .v (.int .i64 cl)]
def FN (ts : List Tok) (d : Nat) (acc : List Nm) (l : List Tok) (x : PR (List Nm)) : Prop := match x with
 | .ok xs l' => Sfx ts l' ∧ ∀ b (Y : St), b < Y.stk.length → ∀ N T Lb, Y.stk.length = N → Y.tk.length = T → Y.lp.length = Lb → ∀ c tk (B0 B1 : List PV) (nm : ByteArray) (ln cl : Int), gZ T tk c acc.length 5 → ∃ c' tk',
  itE (S72.b0 (E L) itE N Lb) [.ptr false b 0, .ptr false N 0, .ptr false (N + 2) 0] ((Y.af false b (pc ts l d)).app [⟨B0, []⟩, ⟨B1, []⟩, ⟨fuC nm acc c ln cl, []⟩] tk []) =
   some (.exit 0, [.ptr false b 0, .ptr false N 0, .ptr false (N + 2) 0], (Y.af false b (pc ts l' d)).app [⟨B0, []⟩, ⟨B1, []⟩, ⟨fuC nm xs c' ln cl, []⟩] tk' [])
 | .bad er p => ∃ a' d'', ∀ b (Y : St), b < Y.stk.length → ∀ N T Lb, Y.stk.length = N → Y.tk.length = T → Y.lp.length = Lb → ∀ c tk (B0 B1 : List PV) (nm : ByteArray) (ln cl : Int), gZ T tk c acc.length 5 → ∃ B2 tk',
  itE (S72.b0 (E L) itE N Lb) [.ptr false b 0, .ptr false N 0, .ptr false (N + 2) 0] ((Y.af false b (pc ts l d)).app [⟨B0, []⟩, ⟨B1, []⟩, ⟨fuC nm acc c ln cl, []⟩] tk []) =
   some (.pan 108 (.agg #[]), [.ptr false b 0, .ptr false N 0, .ptr false (N + 2) 0], (Y.af false b (pcf (aC ts) a' d'' er p.1 p.2)).app [⟨B0, []⟩, ⟨B1, []⟩, ⟨B2, []⟩] tk' [])
section
variable {ts : List Tok} (hr : Row ts)
include hr
theorem wL {d : Nat} : ∀ n acc l x, acc.length + n ≤ 1000000 → Sfx ts l → gd n acc l = some x → FN ts d acc l x := by
 intro n
 induction n with
 | zero => intro acc l x _ _ hx; simp [gd] at hx
 | succ n ih =>
  intro acc l x hac h hx; simp only [gd] at hx; obtain ⟨y, hy⟩ := dF hx; rw [hy] at hx; have h2 := sJ hr h d hy
  cases y with
  | bad er q =>
   obtain rfl := bS hx rfl; obtain ⟨a', d'', eb⟩ := bC h2 rfl; refine ⟨a', d'', fun b Y hb N T Lb hN hT hL c tk B0 B1 nm ln cl ho => ⟨fuC nm acc c ln cl, tk, ?_⟩⟩; have eb := eb hb; simp only [pc, pcf, fuC] at eb ⊢
   generalize aC ts = es at *
   apply jh; simp [S72.b0, hN, hT, hL, hb, eb]
  | ok s l1 =>
   have hx := cG hx rfl
   try dsimp only at hx
   have s1 := bH h2 rfl
   have own : ∀ (b : Nat) (Y : St) (T : Nat), Y.tk.length = T → ∀ c tk, gZ T tk c acc.length 5 → ∃ c' tk', (∀ (bl : List Blk) (lp : List Aux) (base : Nat) (z : List PV), bA base z 5 56 (.sl (nms acc) c) [nmC s] ((Y.af false b (pc ts l1 d)).app bl tk lp) = some (.sl (nms (acc ++ [s])) c', (Y.af false b (pc ts l1 d)).app bl tk' lp)) ∧ gZ T tk' c' (acc ++ [s]).length 5 := by
    intro b Y T hT c tk ho; rw [← fg] at ho; have := ho.grow (ys := [nmC s]) (bytes := 56) (b := b) (cs := pc ts l1 d) hT (by rw [fg, bQ]; unfold bP; omega) (mH _) (mH [s]) (by omega) (by omega); rw [rS]; simpa [fg, nms] using this
   cases i1 : isT l1 [41] with
   | true =>
    rw [if_pos i1] at hx; obtain rfl := Option.some.inj hx; refine ⟨s1.isT hr i1, fun b Y hb N T Lb hN hT hL c tk B0 B1 nm ln cl ho => ?_⟩; obtain ⟨c', tk', ea, _⟩ := own b Y T hT c tk ho; refine ⟨c', tk', ?_⟩; have e1 := aD (aG hr s1 d [41] (b := b)) (s := Y) hb; have e2 := aT h2 rfl hb; simp only [pc, pcf, fuC, iL, iM, nmC, i1, if_true] at e1 e2 ea ⊢
    generalize aC ts = es at *
    apply iS; simp [S72.b0, hN, hT, hL, hb, e1, e2, aZ, ea, i1, aF, jr, gw, AM.cv, AM.eK, chunks, Ex.bn]
   | false =>
    rw [if_neg (by rw [i1]; decide)] at hx; have h3 := eW hr s1 d [44]
    cases x3 : dm [44] l1 with
    | bad er q =>
     obtain rfl := bS hx x3; obtain ⟨a', d'', eb⟩ := bC h3 x3; refine ⟨a', d'', fun b Y hb N T Lb hN hT hL c tk B0 B1 nm ln cl ho => ?_⟩; obtain ⟨c', tk', ea, _⟩ := own b Y T hT c tk ho; refine ⟨fuC nm (acc ++ [s]) c' ln cl, tk', ?_⟩; have e1 := aD (aG hr s1 d [41] (b := b)) (s := Y) hb; have e2 := aT h2 rfl hb; have eb := eb hb; simp only [pc, pcf, fuC, aM, iL, iM, nmC, i1, if_false, ab] at e1 e2 ea eb ⊢
     generalize aC ts = es at *
     apply jh; simp [S72.b0, hN, hT, hL, hb, e1, e2, aZ, ea, eb, i1, aF, jr, gw, AM.cv, AM.eK, chunks]
    | ok u l3 =>
     have hx := cG hx x3
     try dsimp only at hx
     have s3 := bH h3 x3; have h4 := ih (acc ++ [s]) l3 x (by simp only [au, bQ]; omega) s3 hx
     have stp : ∀ b (Y : St), b < Y.stk.length → ∀ N T Lb, Y.stk.length = N → Y.tk.length = T → Y.lp.length = Lb → ∀ c tk (B0 B1 : List PV) (nm : ByteArray) (ln cl : Int), gZ T tk c acc.length 5 → ∃ c' tk', gZ T tk' c' (acc ++ [s]).length 5 ∧
      S72.b0 (E L) itE N Lb [.ptr false b 0, .ptr false N 0, .ptr false (N + 2) 0] ((Y.af false b (pc ts l d)).app [⟨B0, []⟩, ⟨B1, []⟩, ⟨fuC nm acc c ln cl, []⟩] tk []) =
       some (.normal, [.ptr false b 0, .ptr false N 0, .ptr false (N + 2) 0], (Y.af false b (pc ts l3 d)).app [⟨B0, []⟩, ⟨B1, []⟩, ⟨fuC nm (acc ++ [s]) c' ln cl, []⟩] tk' []) := by
      intro b Y hb N T Lb hN hT hL c tk B0 B1 nm ln cl ho; obtain ⟨c', tk', ea, ho'⟩ := own b Y T hT c tk ho; refine ⟨c', tk', ho', ?_⟩; have e1 := aD (aG hr s1 d [41] (b := b)) (s := Y) hb; have e2 := aT h2 rfl hb; have e3 := aT h3 x3 hb; simp only [pc, pcf, fuC, aM, iL, iM, nmC, i1, if_false, ab] at e1 e2 e3 ea ⊢
      generalize aC ts = es at *
      simp [S72.b0, hN, hT, hL, hb, e1, e2, e3, aZ, ea, i1, aF, jr, gw, AM.cv, AM.eK, chunks]
     cases x with
     | ok xs l' =>
      refine ⟨h4.1, fun b Y hb N T Lb hN hT hL c tk B0 B1 nm ln cl ho => ?_⟩; obtain ⟨c1, tk1, ho1, hs⟩ := stp b Y hb N T Lb hN hT hL c tk B0 B1 nm ln cl ho; obtain ⟨c', tk', hit⟩ := h4.2 b Y hb N T Lb hN hT hL c1 tk1 B0 B1 nm ln cl ho1; exact ⟨c', tk', (cd hs).trans hit⟩
     | bad er p =>
      obtain ⟨a', d'', h4⟩ := h4; refine ⟨a', d'', fun b Y hb N T Lb hN hT hL c tk B0 B1 nm ln cl ho => ?_⟩; obtain ⟨c1, tk1, ho1, hs⟩ := stp b Y hb N T Lb hN hT hL c tk B0 B1 nm ln cl ho; obtain ⟨z, tk', hit⟩ := h4 b Y hb N T Lb hN hT hL c1 tk1 B0 B1 nm ln cl ho1; exact ⟨z, tk', (cd hs).trans hit⟩
end
end Go.Proofs.YtlhlijaondmccaaGreatDoor.S
namespace Go.Proofs.YtlhlijaondmccaaGreatDoor.S
open Go Go.AM Go.Proofs
attribute [local simp] cX cx bY bZ cy fq fv ec de dY db dZ dc fu cc im dS iq ic hO AM.ae aR aS bf aN aE AM.onG gb bW ef Ex.bn cond_true cond_false cT cS cR cQ cP cV cO cW cU ed dh di cw cY AM.du AM.cellsOf AM.an bX beq_true cM ah ay bj bz bT decide_true decide_false bF bE bu bD bg aB az aU al cZ da ft aA bI ba bR cC dR dX cJ eE eD set_set eI dy fT dz cI bK dx dw cH dv eH eJ fM fN bM cu eB fL dW aV aX aI AM.aY ai dt bU bc bh aP aO AM.part br aQ cf cm cj cn cn.eS AM.dN bG cg dJ fW aV laid aJ bq cz
attribute [-simp] aj
attribute [local congr] dK
theorem Gj {ts : List Tok} (hr : Row ts) {d n : Nat} (hd : d = 0) (hn : n ≤ 1000000) (ih : sb ts n) {l : List Tok} {x : PR Fu} (h : Sfx ts l) (hx : wo n l = some x) : Rd 72 [] ts d d l mW x := by
 have hx : (pb (some (eg 1 l)) fun t l1 => pb (some (dm [40] l1)) fun _ l2 =>
  pb (if isT l2 [41] then some (.ok [] l2.tail) else gd n [] l2) fun ps l3 => pb (eX n d l3) fun b l4 => some (.ok (⟨bs t.text, ps, b, t.p.1, t.p.2⟩ : Fu) l4)) = some x := by subst hd; exact hx
 have hd12 : d ≤ 12 := by omega
 have h1 := ik hr h d 1
 cases x1 : eg 1 l with
 | bad e q =>
  obtain rfl := bS hx x1; obtain ⟨a', d'', eb⟩ := bC h1 x1; refine ⟨a', d'', fun b Y hb => ?_⟩; have eb := eb hb; have eb := eb; rw [oE]; obtain ⟨N, T, Lb, hN, hT, hL⟩ := lens3 Y; rw [hN] at hb
  conv => lhs; rw [← ao (Y.af false b (pc ts l d))]
  simp only [pc, pcf, aM, Tok.c, bw, fuC, cE, aa, nms, bh, if_true, if_false, ab] at eb ⊢
  generalize aC ts = es at *
  simp [S72, hN, hT, hL, hb, eb, Ex.bn]
 | ok t l1 =>
  have hx := cG hx x1
  try dsimp only at hx
  have s1 := bH h1 x1; have h2 := eW hr s1 d [40]
  cases x2 : dm [40] l1 with
  | bad e q =>
   obtain rfl := bS hx x2; obtain ⟨a', d'', eb⟩ := bC h2 x2; refine ⟨a', d'', fun b Y hb => ?_⟩; have eb := eb hb; have e1 := aT h1 x1 hb; have eb := eb; rw [oE]; obtain ⟨N, T, Lb, hN, hT, hL⟩ := lens3 Y; rw [hN] at hb
   conv => lhs; rw [← ao (Y.af false b (pc ts l d))]
   simp only [pc, pcf, aM, Tok.c, bw, fuC, cE, aa, nms, bh, if_true, if_false, ab] at e1 eb ⊢
   generalize aC ts = es at *
   simp [S72, hN, hT, hL, hb, e1, eb, Ex.bn]
  | ok u l2 =>
   have hx := cG hx x2
   try dsimp only at hx
   have s2 := bH h2 x2
   cases i3 : isT l2 [41] with
   | true =>
    rw [if_pos i3] at hx; have s3 := s2.isT hr i3; have hx := cG hx rfl
    try dsimp only at hx
    obtain ⟨z, hz⟩ := dF hx; rw [hz] at hx; have h5 := ih.blk _ _ _ hd12 s3 hz
    cases z with
    | bad e q =>
     obtain rfl := bS hx rfl; obtain ⟨a', d'', eb⟩ := bC h5 rfl; refine ⟨a', d'', fun b Y hb => ?_⟩; have eb := eb hb; have e1 := aT h1 x1 hb; have e2 := aT h2 x2 hb; have e3 := aD (aG hr s2 d [41] (b := b)) (s := Y) hb; have eb := eb; rw [oE]; obtain ⟨N, T, Lb, hN, hT, hL⟩ := lens3 Y; rw [hN] at hb
     conv => lhs; rw [← ao (Y.af false b (pc ts l d))]
     simp only [pc, pcf, aM, Tok.c, bw, fuC, cE, aa, nms, bh, if_true, if_false, ab, i3] at e1 e2 e3 eb ⊢
     generalize aC ts = es at *
     simp [S72, hN, hT, hL, hb, e1, e2, e3, eb, i3, Ex.bn]
    | ok bd l5 =>
     obtain rfl := Option.some.inj (cG hx rfl); refine ⟨bH h5 rfl, fun b Y hb => ?_⟩; have e1 := aT h1 x1 hb; have e2 := aT h2 x2 hb; have e3 := aD (aG hr s2 d [41] (b := b)) (s := Y) hb; have e5 := aT h5 rfl hb; rw [oE]; obtain ⟨N, T, Lb, hN, hT, hL⟩ := lens3 Y; rw [hN] at hb
     conv => lhs; rw [← ao (Y.af false b (pc ts l d))]
     simp only [pc, pcf, aM, Tok.c, bw, fuC, cE, aa, nms, bh, if_true, if_false, ab, i3] at e1 e2 e3 e5 ⊢
     generalize aC ts = es at *
     simp [S72, hN, hT, hL, hb, e1, e2, e3, e5, i3, Ex.bn]
     rfl
   | false =>
    rw [if_neg (by rw [i3]; decide)] at hx; obtain ⟨y, hy⟩ := dF hx; rw [hy] at hx; have h4 := wL hr (d := d) n [] l2 y (by simpa using hn) s2 hy
    cases y with
    | bad er q =>
     obtain rfl := bS hx rfl; obtain ⟨a', d'', h4⟩ := h4; refine ⟨a', d'', fun b Y hb => ?_⟩; have e1 := aT h1 x1 hb; have e2 := aT h2 x2 hb; have e3 := aD (aG hr s2 d [41] (b := b)) (s := Y) hb; obtain ⟨z, tk', hit⟩ := h4 b Y hb _ _ _ rfl rfl rfl .nil [] [str [], .sl [] .nil, .sl [] .nil, .v (.int .i64 0), .v (.int .i64 0)] t.c (bs t.text) t.p.1 t.p.2 (.inl (.inl rfl)); rw [oE]; obtain ⟨N, T, Lb, hN, hT, hL⟩ := lens3 Y; rw [hN] at hb; rw [hN] at hit
     conv => lhs; rw [← ao (Y.af false b (pc ts l d))]
     rw [hL] at hit; simp only [pc, pcf, aM, Tok.c, bw, fuC, cE, aa, nms, bh, if_true, if_false, ab, i3] at e1 e2 e3 hit ⊢
     generalize aC ts = es at *
     simp [S72, hN, hT, hL, hb, e1, e2, e3, hit, i3, Ex.bn]
    | ok ps l4 =>
     have hx := cG hx rfl
     try dsimp only at hx
     have s4 := h4.1; obtain ⟨z, hz⟩ := dF hx; rw [hz] at hx; have h5 := ih.blk _ _ _ hd12 s4 hz
     cases z with
     | bad e q =>
      obtain rfl := bS hx rfl; obtain ⟨a', d'', eb⟩ := bC h5 rfl; refine ⟨a', d'', fun b Y hb => ?_⟩; have eb := eb hb; have e1 := aT h1 x1 hb; have e2 := aT h2 x2 hb; have e3 := aD (aG hr s2 d [41] (b := b)) (s := Y) hb; have eb := eb; obtain ⟨c', tk', hit⟩ := h4.2 b Y hb _ _ _ rfl rfl rfl .nil [] [str [], .sl [] .nil, .sl [] .nil, .v (.int .i64 0), .v (.int .i64 0)] t.c (bs t.text) t.p.1 t.p.2 (.inl (.inl rfl)); rw [oE]; obtain ⟨N, T, Lb, hN, hT, hL⟩ := lens3 Y; rw [hN] at hb; rw [hN] at hit
      conv => lhs; rw [← ao (Y.af false b (pc ts l d))]
      rw [hL] at hit; simp only [pc, pcf, aM, Tok.c, bw, fuC, cE, aa, nms, bh, if_true, if_false, ab, i3] at e1 e2 e3 eb hit ⊢
      generalize aC ts = es at *
      simp [S72, hN, hT, hL, hb, e1, e2, e3, eb, hit, i3, Ex.bn]
     | ok bd l5 =>
      obtain rfl := Option.some.inj (cG hx rfl); refine ⟨bH h5 rfl, fun b Y hb => ?_⟩; have e1 := aT h1 x1 hb; have e2 := aT h2 x2 hb; have e3 := aD (aG hr s2 d [41] (b := b)) (s := Y) hb; have e5 := aT h5 rfl hb; obtain ⟨c', tk', hit⟩ := h4.2 b Y hb _ _ _ rfl rfl rfl .nil [] [str [], .sl [] .nil, .sl [] .nil, .v (.int .i64 0), .v (.int .i64 0)] t.c (bs t.text) t.p.1 t.p.2 (.inl (.inl rfl)); rw [oE]; obtain ⟨N, T, Lb, hN, hT, hL⟩ := lens3 Y; rw [hN] at hb; rw [hN] at hit
      conv => lhs; rw [← ao (Y.af false b (pc ts l d))]
      rw [hL] at hit; simp only [pc, pcf, aM, Tok.c, bw, fuC, cE, aa, nms, bh, if_true, if_false, ab, i3] at e1 e2 e3 e5 hit ⊢
      generalize aC ts = es at *
      simp [S72, hN, hT, hL, hb, e1, e2, e3, e5, hit, i3, Ex.bn]
      rfl
end Go.Proofs.YtlhlijaondmccaaGreatDoor.S
namespace Go.Proofs.YtlhlijaondmccaaGreatDoor.S
open Go Go.AM Go.Proofs
theorem gZ.zo {T : Nat} {tk : List (Nat × Nat)} {c : Cap} {sz bytes : Nat} {es ys : List (List PV)} (h : gZ T tk c es.length sz) {b : Nat} {cs : List PV} {Y : St} (hT : Y.tk.length = T)
 (h1 : (es.length + ys.length) * bytes ≤ bP) (h2 : cM sz es = true) (h3 : cM sz ys = true) (h4 : sz ≠ 0) (h5 : bytes ≠ 0) :
 ∃ c' tk', (∀ (bl : List Blk) (lp : List Aux) (base : Nat) (z : List PV), bA base z sz bytes (.sl es c) ys ((Y.af false b cs).app bl tk lp) = some (.sl (es ++ ys) c', (Y.af false b cs).app bl tk' lp)) ∧ gZ T tk' c' (es ++ ys).length sz ∧
  (∀ {c2 n2 sz2}, gZ T tk c2 n2 sz2 → qw c c2 → gZ T tk' c2 n2 sz2 ∧ qw c' c2) := by
 subst hT; obtain ⟨c', tk', a, b, _, d⟩ := vK (s := Y.af false b cs) h h1 h2 h3 h4 h5; exact ⟨c', tk', a, b, d⟩
theorem gZ.sfc {T : Nat} {tk : List (Nat × Nat)} {c : Cap} {n sz : Nat} (h : gZ T tk c n sz) (m : Nat) : c.sf true m = true := by
 rcases h with (rfl | rfl) | ⟨j, rfl, _⟩ <;> rfl
abbrev recC (r : Rec) : List PV := [.v (.string r.name), .sl (nms r.fields) .dead, .v (.int .i64 r.line), .v (.int .i64 r.col)]
abbrev fuE (r : Fu) : List PV := [.v (.string r.name), .sl (nms r.params) .dead, .sl (dQ r.body) .dead, .v (.int .i64 r.line), .v (.int .i64 r.col)]
abbrev thC (r : Th) : List PV := [.sl (dQ r.body) .dead, .v (.int .i64 r.line), .v (.int .i64 r.col)]
def gL (l : List Rec) : List (List PV) := l.map recC
theorem nK (l : List Rec) : cM 4 (gL l) = true := jQ recC (fun _ => rfl) l
theorem uq (a b : List Rec) : gL (a ++ b) = gL a ++ gL b := List.map_append ..
theorem fD (a : List Rec) : (gL a).length = a.length := List.length_map ..
def jx (l : List Fu) : List (List PV) := l.map fuE
theorem pP (l : List Fu) : cM 5 (jx l) = true := jQ fuE (fun _ => rfl) l
theorem wq (a b : List Fu) : jx (a ++ b) = jx a ++ jx b := List.map_append ..
theorem gg (a : List Fu) : (jx a).length = a.length := List.length_map ..
def jB (l : List Th) : List (List PV) := l.map thC
theorem qq (l : List Th) : cM 3 (jB l) = true := jQ thC (fun _ => rfl) l
theorem xu (a b : List Th) : jB (a ++ b) = jB a ++ jB b := List.map_append ..
theorem gh (a : List Th) : (jB a).length = a.length := List.length_map ..
abbrev pgC (g : Pg) (c1 c2 c3 c4 : Cap) : List PV := [.sl (gL g.fa) c1, .sl (nms g.gls) c2, .sl (jx g.fe) c3, .sl (jB g.ths) c4]
abbrev lR (g : Pg) : PV := .agg (pgC g .dead .dead .dead .dead)
structure jW (T : Nat) (tk : List (Nat × Nat)) (c1 c2 c3 c4 : Cap) (g : Pg) : Prop where
 o1 : gZ T tk c1 g.fa.length 4
 o2 : gZ T tk c2 g.gls.length 5
 o3 : gZ T tk c3 g.fe.length 5
 o4 : gZ T tk c4 g.ths.length 3
 d12 : qw c1 c2
 d13 : qw c1 c3
 d14 : qw c1 c4
 d23 : qw c2 c3
 d24 : qw c2 c4
 d34 : qw c3 c4
section
variable {T : Nat} {tk : List (Nat × Nat)} {c1 c2 c3 c4 : Cap} {g : Pg} (h : jW T tk c1 c2 c3 c4 g) {b : Nat} {cs : List PV} {Y : St} (hT : Y.tk.length = T)
include h hT
theorem jW.g1 (r : Rec) (hl : g.fa.length < 1000000) : ∃ c' tk', (∀ (bl : List Blk) (lp : List Aux) (base : Nat) (z : List PV), bA base z 4 56 (.sl (gL g.fa) c1) [recC r] ((Y.af false b cs).app bl tk lp) = some (.sl (gL (g.fa ++ [r])) c', (Y.af false b cs).app bl tk' lp)) ∧ jW T tk' c' c2 c3 c4 { g with fa := g.fa ++ [r] } := by
 have o := h.o1; rw [← fD] at o; obtain ⟨c', tk', a, o', r'⟩ := o.zo (ys := [recC r]) (bytes := 56) (b := b) (cs := cs) hT (by rw [fD, bQ]; unfold bP; omega) (nK _) (nK [r]) (by omega) (by omega); have e : gL (g.fa ++ [r]) = gL g.fa ++ [recC r] := uq _ _; refine ⟨c', tk', fun bl lp base z => by rw [e]; exact a bl lp base z, ?_⟩; rw [← e, fD] at o'; obtain ⟨q2, e2⟩ := r' h.o2 h.d12; obtain ⟨q3, e3⟩ := r' h.o3 h.d13; obtain ⟨q4, e4⟩ := r' h.o4 h.d14; exact ⟨o', q2, q3, q4, e2, e3, e4, h.d23, h.d24, h.d34⟩
theorem jW.g2 (r : Nm) (hl : g.gls.length < 1000000) : ∃ c' tk', (∀ (bl : List Blk) (lp : List Aux) (base : Nat) (z : List PV), bA base z 5 56 (.sl (nms g.gls) c2) [nmC r] ((Y.af false b cs).app bl tk lp) = some (.sl (nms (g.gls ++ [r])) c', (Y.af false b cs).app bl tk' lp)) ∧ jW T tk' c1 c' c3 c4 { g with gls := g.gls ++ [r] } := by
 have o := h.o2; rw [← fg] at o; obtain ⟨c', tk', a, o', r'⟩ := o.zo (ys := [nmC r]) (bytes := 56) (b := b) (cs := cs) hT (by rw [fg, bQ]; unfold bP; omega) (mH _) (mH [r]) (by omega) (by omega); have e : nms (g.gls ++ [r]) = nms g.gls ++ [nmC r] := rS _ _; refine ⟨c', tk', fun bl lp base z => by rw [e]; exact a bl lp base z, ?_⟩; rw [← e, fg] at o'; obtain ⟨q1, e1⟩ := r' h.o1 (h.d12).symm; obtain ⟨q3, e3⟩ := r' h.o3 h.d23; obtain ⟨q4, e4⟩ := r' h.o4 h.d24; exact ⟨q1, o', q3, q4, (e1).symm, h.d13, h.d14, e3, e4, h.d34⟩
theorem jW.g3 (r : Fu) (hl : g.fe.length < 1000000) : ∃ c' tk', (∀ (bl : List Blk) (lp : List Aux) (base : Nat) (z : List PV), bA base z 5 80 (.sl (jx g.fe) c3) [fuE r] ((Y.af false b cs).app bl tk lp) = some (.sl (jx (g.fe ++ [r])) c', (Y.af false b cs).app bl tk' lp)) ∧ jW T tk' c1 c2 c' c4 { g with fe := g.fe ++ [r] } := by
 have o := h.o3; rw [← gg] at o; obtain ⟨c', tk', a, o', r'⟩ := o.zo (ys := [fuE r]) (bytes := 80) (b := b) (cs := cs) hT (by rw [gg, bQ]; unfold bP; omega) (pP _) (pP [r]) (by omega) (by omega); have e : jx (g.fe ++ [r]) = jx g.fe ++ [fuE r] := wq _ _; refine ⟨c', tk', fun bl lp base z => by rw [e]; exact a bl lp base z, ?_⟩; rw [← e, gg] at o'; obtain ⟨q1, e1⟩ := r' h.o1 (h.d13).symm; obtain ⟨q2, e2⟩ := r' h.o2 (h.d23).symm; obtain ⟨q4, e4⟩ := r' h.o4 h.d34; exact ⟨q1, q2, o', q4, h.d12, (e1).symm, h.d14, (e2).symm, h.d24, e4⟩
theorem jW.g4 (r : Th) (hl : g.ths.length < 1000000) : ∃ c' tk', (∀ (bl : List Blk) (lp : List Aux) (base : Nat) (z : List PV), bA base z 3 40 (.sl (jB g.ths) c4) [thC r] ((Y.af false b cs).app bl tk lp) = some (.sl (jB (g.ths ++ [r])) c', (Y.af false b cs).app bl tk' lp)) ∧ jW T tk' c1 c2 c3 c' { g with ths := g.ths ++ [r] } := by
 have o := h.o4; rw [← gh] at o; obtain ⟨c', tk', a, o', r'⟩ := o.zo (ys := [thC r]) (bytes := 40) (b := b) (cs := cs) hT (by rw [gh, bQ]; unfold bP; omega) (qq _) (qq [r]) (by omega) (by omega); have e : jB (g.ths ++ [r]) = jB g.ths ++ [thC r] := xu _ _; refine ⟨c', tk', fun bl lp base z => by rw [e]; exact a bl lp base z, ?_⟩; rw [← e, gh] at o'; obtain ⟨q1, e1⟩ := r' h.o1 (h.d14).symm; obtain ⟨q2, e2⟩ := r' h.o2 (h.d24).symm; obtain ⟨q3, e3⟩ := r' h.o3 (h.d34).symm; exact ⟨q1, q2, q3, o', h.d12, h.d13, (e1).symm, h.d23, (e2).symm, (e3).symm⟩
end
theorem jW.zero (T : Nat) : jW T [] .nil .nil .nil .nil ⟨[], [], [], []⟩ :=
 ⟨.inl (.inl rfl), .inl (.inl rfl), .inl (.inl rfl), .inl (.inl rfl), .inl rfl, .inl rfl, .inl rfl, .inl rfl, .inl rfl, .inl rfl⟩
end Go.Proofs.YtlhlijaondmccaaGreatDoor.S
namespace Go.Proofs.YtlhlijaondmccaaGreatDoor.S
open Go Go.AM Go.Proofs
attribute [local simp] cX cx bY bZ cy fq fv ec de dY db dZ dc fu cc im dS iq ic hO AM.ae aR aS bf aN aE AM.onG gb bW ef Ex.bn cond_true cond_false cT cS cR cQ cP cV cO cW cU ed dh di cw cY AM.du AM.cellsOf AM.an bX beq_true cM ah ay bj bz bT decide_true decide_false bF bE bu bD bg aB az aU al cZ da ft aA bI ba bR cC dR dX cJ eE eD set_set eI dy fT dz cI bK dx dw cH dv eH eJ fM fN bM cu eB fL dW aV aX aI AM.aY ai dt bU bc bh aP aO AM.part br aQ cf cm cj cn cn.eS AM.dN bG cg dJ fW aV laid aJ bq cz
attribute [-simp] aj
attribute [local congr] dK
abbrev z4 : List PV := [.sl [] .nil, .sl [] .nil, .sl [] .nil, .sl [] .nil]
def mV (ts : List Tok) (d : Nat) (g : Pg) (l : List Tok) (x : PR Pg) : Prop := match x with
 | .ok g' l' => Sfx ts l' ∧ ∀ b (Y : St), b < Y.stk.length → ∀ N T Lb, Y.stk.length = N → Y.tk.length = T → Y.lp.length = Lb → ∀ c1 c2 c3 c4 tk, jW T tk c1 c2 c3 c4 g → ∃ k1 k2 k3 k4 P tk',
  itE (S48.b0 (E L) itE N Lb) [.ptr false b 0, .ptr false N 0, .ptr false (N + 1) 0] ((Y.af false b (pc ts l d)).app [⟨z4, []⟩, ⟨pgC g c1 c2 c3 c4, []⟩] tk []) =
   some (.ret, [.ptr false b 0, .ptr false N 0, .ptr false (N + 1) 0], (Y.af false b (pc ts l' d)).app [⟨pgC g' k1 k2 k3 k4, []⟩, ⟨P, []⟩] tk' [])
 | .bad er p => ∃ a' d'', ∀ b (Y : St), b < Y.stk.length → ∀ N T Lb, Y.stk.length = N → Y.tk.length = T → Y.lp.length = Lb → ∀ c1 c2 c3 c4 tk, jW T tk c1 c2 c3 c4 g → ∃ P0 P1 tk',
  itE (S48.b0 (E L) itE N Lb) [.ptr false b 0, .ptr false N 0, .ptr false (N + 1) 0] ((Y.af false b (pc ts l d)).app [⟨z4, []⟩, ⟨pgC g c1 c2 c3 c4, []⟩] tk []) =
   some (.pan 108 (.agg #[]), [.ptr false b 0, .ptr false N 0, .ptr false (N + 1) 0], (Y.af false b (pcf (aC ts) a' d'' er p.1 p.2)).app [⟨P0, []⟩, ⟨P1, []⟩] tk' [])
theorem kW (m : Nat) (es : List (List PV)) (c : Cap) : sf true m 4 (.sl es c) = c.sf true m := rfl
theorem jW.sfs {T : Nat} {tk : List (Nat × Nat)} {c1 c2 c3 c4 : Cap} {g : Pg} (h : jW T tk c1 c2 c3 c4 g) (m : Nat) : c1.sf true m = true ∧ c2.sf true m = true ∧ c3.sf true m = true ∧ c4.sf true m = true :=
 ⟨h.o1.sfc m, h.o2.sfc m, h.o3.sfc m, h.o4.sfc m⟩
section
variable {ts : List Tok} (hr : Row ts)
include hr
theorem CP {d : Nat} {g : Pg} {l : List Tok} {x : PR Pg} (h : Sfx ts l) (k0 : (hd l).kind = 0) (hx : some (.ok g l) = some x) : mV ts d g l x := by
 obtain rfl := Option.some.inj hx; refine ⟨h, fun b Y hb N T Lb hN hT hL c1 c2 c3 c4 tk ho => ⟨c1, c2, c3, c4, pgC g c1 c2 c3 c4, tk, ?_⟩⟩; have e67 := aD (dO h d 0 0 0 (b := b)) (s := Y) hb; obtain ⟨f1, f2, f3, f4⟩ := ho.sfs (N + 2)
 have hb2 : b < N + 2 := by omega
 simp only [pc, pcf, aM, Tok.c, bw, jZ, iL, iM, mW, cE, nmC, aa, if_true, if_false, ab, k0] at e67 ⊢
 generalize aC ts = es at *
 apply eZ; simp [S48.b0, hN, hT, hL, hb, hb2, e67, k0, f1, f2, f3, f4, aZ, aF, jr, gw, AM.cv, AM.eK, chunks, Ex.bn, fG, fq, kW]
theorem wZ {d : Nat} {g : Pg} {l : List Tok} {x : PR Pg} (hd0 : d = 0) {n m : Nat} (hm : m ≤ 1000000) (ih : sb ts m) (hg : g.fa.length < 1000000) (ihp : ∀ g2 l x, g2.fa.length + g2.gls.length + g2.fe.length + g2.ths.length = g.fa.length + g.gls.length + g.fe.length + g.ths.length + 1 → Sfx ts l → dq n m g2 l = some x → mV ts d g2 l x) (h : Sfx ts l) (k0 : (hd l).kind ≠ 0)  (pk : isT l [114, 101, 99, 111, 114, 100] = true) (hx : (pb (vu m l.tail) fun r l1 => dq n m { g with fa := g.fa ++ [r] } l1) = some x) : mV ts d g l x := by
 have k0' : ¬ (((hd l).kind : Int) = 0) := by omega
 have s0 := h.isT hr pk; obtain ⟨y, hy⟩ := dF hx; rw [hy] at hx; have h2 := Gv hr (d := d) hm s0 hy
 cases y with
 | bad er q =>
  obtain rfl := bS hx rfl; obtain ⟨a', d'', eb⟩ := bC h2 rfl; refine ⟨a', d'', fun b Y hb N T Lb hN hT hL c1 c2 c3 c4 tk ho => ⟨z4, pgC g c1 c2 c3 c4, tk, ?_⟩⟩; have eb := eb hb; have e67 := aD (dO h d 0 0 0 (b := b)) (s := Y) hb; have f_0 := aD (aG hr h d [114, 101, 99, 111, 114, 100] (b := b)) (s := Y) hb; have eb := eb; obtain ⟨f1, f2, f3, f4⟩ := ho.sfs (N + 2)
  have hb2 : b < N + 2 := by omega
  simp only [pc, pcf, aM, Tok.c, bw, jZ, iL, iM, mW, cE, nmC, aa, if_true, if_false, ab, pk] at e67 f_0 eb ⊢
  generalize aC ts = es at *
  apply jh; simp [S48.b0, hN, hT, hL, hb, hb2, e67, f_0, eb, pk, f1, f2, f3, f4, k0, k0', aZ, aF, jr, gw, AM.cv, AM.eK, chunks, Ex.bn, fG, fq, kW]
 | ok r l1 =>
  have hx := cG hx rfl
  try dsimp only at hx
  have s1 := bH h2 rfl; have h4 := ihp _ l1 x (by simp only [au, bQ]; omega) s1 hx
  have stp : ∀ b (Y : St), b < Y.stk.length → ∀ N T Lb, Y.stk.length = N → Y.tk.length = T → Y.lp.length = Lb → ∀ c1 c2 c3 c4 tk, jW T tk c1 c2 c3 c4 g → ∃ c' tk', jW T tk' c' c2 c3 c4 { g with fa := g.fa ++ [r] } ∧
   S48.b0 (E L) itE N Lb [.ptr false b 0, .ptr false N 0, .ptr false (N + 1) 0] ((Y.af false b (pc ts l d)).app [⟨z4, []⟩, ⟨pgC g c1 c2 c3 c4, []⟩] tk []) = some (.normal, [.ptr false b 0, .ptr false N 0, .ptr false (N + 1) 0], (Y.af false b (pc ts l1 d)).app [⟨z4, []⟩, ⟨pgC { g with fa := g.fa ++ [r] } c' c2 c3 c4, []⟩] tk' []) := by
   intro b Y hb N T Lb hN hT hL c1 c2 c3 c4 tk ho; obtain ⟨c', tk', ea, ho'⟩ := ho.g1 (b := b) (cs := pc ts l1 d) hT r hg; refine ⟨c', tk', ho', ?_⟩; have e67 := aD (dO h d 0 0 0 (b := b)) (s := Y) hb; have f_0 := aD (aG hr h d [114, 101, 99, 111, 114, 100] (b := b)) (s := Y) hb; have e2 := aT h2 rfl hb; have ea := ea; obtain ⟨f1, f2, f3, f4⟩ := ho.sfs (N + 2); obtain ⟨f1', f2', f3', f4'⟩ := ho'.sfs (N + 2)
   have hb2 : b < N + 2 := by omega
   simp only [pc, pcf, aM, Tok.c, bw, jZ, iL, iM, mW, cE, nmC, aa, if_true, if_false, ab, pk] at e67 f_0 e2 ea ⊢
   generalize aC ts = es at *
   simp [S48.b0, hN, hT, hL, hb, hb2, e67, f_0, e2, ea, pk, f1, f2, f3, f4, f1', f2', f3', f4', k0, k0', aZ, aF, jr, gw, AM.cv, AM.eK, chunks, Ex.bn, fG, fq, kW]
  cases x with
  | ok g' l' =>
   refine ⟨h4.1, fun b Y hb N T Lb hN hT hL c1 c2 c3 c4 tk ho => ?_⟩; obtain ⟨c', tk1, ho1, hs⟩ := stp b Y hb N T Lb hN hT hL c1 c2 c3 c4 tk ho; obtain ⟨k1, k2, k3, k4, P, tk', hit⟩ := h4.2 b Y hb N T Lb hN hT hL c' c2 c3 c4 tk1 ho1; exact ⟨k1, k2, k3, k4, P, tk', (cd hs).trans hit⟩
  | bad er p =>
   obtain ⟨a', d'', h4⟩ := h4; refine ⟨a', d'', fun b Y hb N T Lb hN hT hL c1 c2 c3 c4 tk ho => ?_⟩; obtain ⟨c', tk1, ho1, hs⟩ := stp b Y hb N T Lb hN hT hL c1 c2 c3 c4 tk ho; obtain ⟨P0, P1, tk', hit⟩ := h4 b Y hb N T Lb hN hT hL c' c2 c3 c4 tk1 ho1; exact ⟨P0, P1, tk', (cd hs).trans hit⟩
theorem wY {d : Nat} {g : Pg} {l : List Tok} {x : PR Pg} (hd0 : d = 0) {n m : Nat} (hm : m ≤ 1000000) (ih : sb ts m) (hg : g.gls.length < 1000000) (ihp : ∀ g2 l x, g2.fa.length + g2.gls.length + g2.fe.length + g2.ths.length = g.fa.length + g.gls.length + g.fe.length + g.ths.length + 1 → Sfx ts l → dq n m g2 l = some x → mV ts d g2 l x) (h : Sfx ts l) (k0 : (hd l).kind ≠ 0) (p0 : isT l [114, 101, 99, 111, 114, 100] = false) (pk : isT l [103, 108, 111, 98, 97, 108] = true) (hx : (pb (kR l.tail) fun r l1 => pb (some (dm [59] l1)) fun _ l2 => dq n m { g with gls := g.gls ++ [r] } l2) = some x) : mV ts d g l x := by
 have k0' : ¬ (((hd l).kind : Int) = 0) := by omega
 have s0 := h.isT hr pk; obtain ⟨y, hy⟩ := dF hx; rw [hy] at hx; have h2 := sJ hr s0 d hy
 cases y with
 | bad er q =>
  obtain rfl := bS hx rfl; obtain ⟨a', d'', eb⟩ := bC h2 rfl; refine ⟨a', d'', fun b Y hb N T Lb hN hT hL c1 c2 c3 c4 tk ho => ⟨z4, pgC g c1 c2 c3 c4, tk, ?_⟩⟩; have eb := eb hb; have e67 := aD (dO h d 0 0 0 (b := b)) (s := Y) hb; have f_0 := aD (aG hr h d [114, 101, 99, 111, 114, 100] (b := b)) (s := Y) hb; have f_1 := aD (aG hr h d [103, 108, 111, 98, 97, 108] (b := b)) (s := Y) hb; have eb := eb; obtain ⟨f1, f2, f3, f4⟩ := ho.sfs (N + 2)
  have hb2 : b < N + 2 := by omega
  simp only [pc, pcf, aM, Tok.c, bw, jZ, iL, iM, mW, cE, nmC, aa, if_true, if_false, ab, p0, pk] at e67 f_0 f_1 eb ⊢
  generalize aC ts = es at *
  apply jh; simp [S48.b0, hN, hT, hL, hb, hb2, e67, f_0, f_1, eb, p0, pk, f1, f2, f3, f4, k0, k0', aZ, aF, jr, gw, AM.cv, AM.eK, chunks, Ex.bn, fG, fq, kW]
 | ok r l1 =>
  have hx := cG hx rfl
  try dsimp only at hx
  have s1 := bH h2 rfl; have h3 := eW hr s1 d [59]
  cases x3 : dm [59] l1 with
  | bad e q =>
   obtain rfl := bS hx x3; obtain ⟨a', d'', eb⟩ := bC h3 x3; refine ⟨a', d'', fun b Y hb N T Lb hN hT hL c1 c2 c3 c4 tk ho => ?_⟩; obtain ⟨c', tk', ea, ho'⟩ := ho.g2 (b := b) (cs := pc ts l1 d) hT r hg; refine ⟨z4, pgC { g with gls := g.gls ++ [r] } c1 c' c3 c4, tk', ?_⟩; have eb := eb hb; have e67 := aD (dO h d 0 0 0 (b := b)) (s := Y) hb; have f_0 := aD (aG hr h d [114, 101, 99, 111, 114, 100] (b := b)) (s := Y) hb; have f_1 := aD (aG hr h d [103, 108, 111, 98, 97, 108] (b := b)) (s := Y) hb; have e2 := aT h2 rfl hb; have ea := ea; have eb := eb; obtain ⟨f1, f2, f3, f4⟩ := ho.sfs (N + 2); obtain ⟨f1', f2', f3', f4'⟩ := ho'.sfs (N + 2)
   have hb2 : b < N + 2 := by omega
   simp only [pc, pcf, aM, Tok.c, bw, jZ, iL, iM, mW, cE, nmC, aa, if_true, if_false, ab, p0, pk] at e67 f_0 f_1 e2 ea eb ⊢
   generalize aC ts = es at *
   apply jh; simp [S48.b0, hN, hT, hL, hb, hb2, e67, f_0, f_1, e2, ea, eb, p0, pk, f1, f2, f3, f4, f1', f2', f3', f4', k0, k0', aZ, aF, jr, gw, AM.cv, AM.eK, chunks, Ex.bn, fG, fq, kW]
  | ok u l2 =>
   have hx := cG hx x3
   try dsimp only at hx
   have s2 := bH h3 x3; have h4 := ihp _ l2 x (by simp only [au, bQ]; omega) s2 hx
   have stp : ∀ b (Y : St), b < Y.stk.length → ∀ N T Lb, Y.stk.length = N → Y.tk.length = T → Y.lp.length = Lb → ∀ c1 c2 c3 c4 tk, jW T tk c1 c2 c3 c4 g → ∃ c' tk', jW T tk' c1 c' c3 c4 { g with gls := g.gls ++ [r] } ∧
    S48.b0 (E L) itE N Lb [.ptr false b 0, .ptr false N 0, .ptr false (N + 1) 0] ((Y.af false b (pc ts l d)).app [⟨z4, []⟩, ⟨pgC g c1 c2 c3 c4, []⟩] tk []) = some (.normal, [.ptr false b 0, .ptr false N 0, .ptr false (N + 1) 0], (Y.af false b (pc ts l2 d)).app [⟨z4, []⟩, ⟨pgC { g with gls := g.gls ++ [r] } c1 c' c3 c4, []⟩] tk' []) := by
    intro b Y hb N T Lb hN hT hL c1 c2 c3 c4 tk ho; obtain ⟨c', tk', ea, ho'⟩ := ho.g2 (b := b) (cs := pc ts l1 d) hT r hg; refine ⟨c', tk', ho', ?_⟩; have e67 := aD (dO h d 0 0 0 (b := b)) (s := Y) hb; have f_0 := aD (aG hr h d [114, 101, 99, 111, 114, 100] (b := b)) (s := Y) hb; have f_1 := aD (aG hr h d [103, 108, 111, 98, 97, 108] (b := b)) (s := Y) hb; have e2 := aT h2 rfl hb; have ea := ea; have e3 := aT h3 x3 hb; obtain ⟨f1, f2, f3, f4⟩ := ho.sfs (N + 2); obtain ⟨f1', f2', f3', f4'⟩ := ho'.sfs (N + 2)
    have hb2 : b < N + 2 := by omega
    simp only [pc, pcf, aM, Tok.c, bw, jZ, iL, iM, mW, cE, nmC, aa, if_true, if_false, ab, p0, pk] at e67 f_0 f_1 e2 ea e3 ⊢
    generalize aC ts = es at *
    simp [S48.b0, hN, hT, hL, hb, hb2, e67, f_0, f_1, e2, ea, e3, p0, pk, f1, f2, f3, f4, f1', f2', f3', f4', k0, k0', aZ, aF, jr, gw, AM.cv, AM.eK, chunks, Ex.bn, fG, fq, kW]
   cases x with
   | ok g' l' =>
    refine ⟨h4.1, fun b Y hb N T Lb hN hT hL c1 c2 c3 c4 tk ho => ?_⟩; obtain ⟨c', tk1, ho1, hs⟩ := stp b Y hb N T Lb hN hT hL c1 c2 c3 c4 tk ho; obtain ⟨k1, k2, k3, k4, P, tk', hit⟩ := h4.2 b Y hb N T Lb hN hT hL c1 c' c3 c4 tk1 ho1; exact ⟨k1, k2, k3, k4, P, tk', (cd hs).trans hit⟩
   | bad er p =>
    obtain ⟨a', d'', h4⟩ := h4; refine ⟨a', d'', fun b Y hb N T Lb hN hT hL c1 c2 c3 c4 tk ho => ?_⟩; obtain ⟨c', tk1, ho1, hs⟩ := stp b Y hb N T Lb hN hT hL c1 c2 c3 c4 tk ho; obtain ⟨P0, P1, tk', hit⟩ := h4 b Y hb N T Lb hN hT hL c1 c' c3 c4 tk1 ho1; exact ⟨P0, P1, tk', (cd hs).trans hit⟩
theorem AL {d : Nat} {g : Pg} {l : List Tok} {x : PR Pg} (hd0 : d = 0) {n m : Nat} (hm : m ≤ 1000000) (ih : sb ts m) (hg : g.fe.length < 1000000) (ihp : ∀ g2 l x, g2.fa.length + g2.gls.length + g2.fe.length + g2.ths.length = g.fa.length + g.gls.length + g.fe.length + g.ths.length + 1 → Sfx ts l → dq n m g2 l = some x → mV ts d g2 l x) (h : Sfx ts l) (k0 : (hd l).kind ≠ 0) (p0 : isT l [114, 101, 99, 111, 114, 100] = false) (p1 : isT l [103, 108, 111, 98, 97, 108] = false) (pk : isT l [102, 117, 110] = true) (hx : (pb (wo m l.tail) fun r l1 => dq n m { g with fe := g.fe ++ [r] } l1) = some x) : mV ts d g l x := by
 have k0' : ¬ (((hd l).kind : Int) = 0) := by omega
 have s0 := h.isT hr pk; obtain ⟨y, hy⟩ := dF hx; rw [hy] at hx; have h2 := Gj hr hd0 hm ih s0 hy
 cases y with
 | bad er q =>
  obtain rfl := bS hx rfl; obtain ⟨a', d'', eb⟩ := bC h2 rfl; refine ⟨a', d'', fun b Y hb N T Lb hN hT hL c1 c2 c3 c4 tk ho => ⟨z4, pgC g c1 c2 c3 c4, tk, ?_⟩⟩; have eb := eb hb; have e67 := aD (dO h d 0 0 0 (b := b)) (s := Y) hb; have f_0 := aD (aG hr h d [114, 101, 99, 111, 114, 100] (b := b)) (s := Y) hb; have f_1 := aD (aG hr h d [103, 108, 111, 98, 97, 108] (b := b)) (s := Y) hb; have f_2 := aD (aG hr h d [102, 117, 110] (b := b)) (s := Y) hb; have eb := eb; obtain ⟨f1, f2, f3, f4⟩ := ho.sfs (N + 2)
  have hb2 : b < N + 2 := by omega
  simp only [pc, pcf, aM, Tok.c, bw, jZ, iL, iM, mW, cE, nmC, aa, if_true, if_false, ab, p0, p1, pk] at e67 f_0 f_1 f_2 eb ⊢
  generalize aC ts = es at *
  apply jh; simp [S48.b0, hN, hT, hL, hb, hb2, e67, f_0, f_1, f_2, eb, p0, p1, pk, f1, f2, f3, f4, k0, k0', aZ, aF, jr, gw, AM.cv, AM.eK, chunks, Ex.bn, fG, fq, kW]
 | ok r l1 =>
  have hx := cG hx rfl
  try dsimp only at hx
  have s1 := bH h2 rfl; have h4 := ihp _ l1 x (by simp only [au, bQ]; omega) s1 hx
  have stp : ∀ b (Y : St), b < Y.stk.length → ∀ N T Lb, Y.stk.length = N → Y.tk.length = T → Y.lp.length = Lb → ∀ c1 c2 c3 c4 tk, jW T tk c1 c2 c3 c4 g → ∃ c' tk', jW T tk' c1 c2 c' c4 { g with fe := g.fe ++ [r] } ∧
   S48.b0 (E L) itE N Lb [.ptr false b 0, .ptr false N 0, .ptr false (N + 1) 0] ((Y.af false b (pc ts l d)).app [⟨z4, []⟩, ⟨pgC g c1 c2 c3 c4, []⟩] tk []) = some (.normal, [.ptr false b 0, .ptr false N 0, .ptr false (N + 1) 0], (Y.af false b (pc ts l1 d)).app [⟨z4, []⟩, ⟨pgC { g with fe := g.fe ++ [r] } c1 c2 c' c4, []⟩] tk' []) := by
   intro b Y hb N T Lb hN hT hL c1 c2 c3 c4 tk ho; obtain ⟨c', tk', ea, ho'⟩ := ho.g3 (b := b) (cs := pc ts l1 d) hT r hg; refine ⟨c', tk', ho', ?_⟩; have e67 := aD (dO h d 0 0 0 (b := b)) (s := Y) hb; have f_0 := aD (aG hr h d [114, 101, 99, 111, 114, 100] (b := b)) (s := Y) hb; have f_1 := aD (aG hr h d [103, 108, 111, 98, 97, 108] (b := b)) (s := Y) hb; have f_2 := aD (aG hr h d [102, 117, 110] (b := b)) (s := Y) hb; have e2 := aT h2 rfl hb; have ea := ea; obtain ⟨f1, f2, f3, f4⟩ := ho.sfs (N + 2); obtain ⟨f1', f2', f3', f4'⟩ := ho'.sfs (N + 2)
   have hb2 : b < N + 2 := by omega
   simp only [pc, pcf, aM, Tok.c, bw, jZ, iL, iM, mW, cE, nmC, aa, if_true, if_false, ab, p0, p1, pk] at e67 f_0 f_1 f_2 e2 ea ⊢
   generalize aC ts = es at *
   simp [S48.b0, hN, hT, hL, hb, hb2, e67, f_0, f_1, f_2, e2, ea, p0, p1, pk, f1, f2, f3, f4, f1', f2', f3', f4', k0, k0', aZ, aF, jr, gw, AM.cv, AM.eK, chunks, Ex.bn, fG, fq, kW]
  cases x with
  | ok g' l' =>
   refine ⟨h4.1, fun b Y hb N T Lb hN hT hL c1 c2 c3 c4 tk ho => ?_⟩; obtain ⟨c', tk1, ho1, hs⟩ := stp b Y hb N T Lb hN hT hL c1 c2 c3 c4 tk ho; obtain ⟨k1, k2, k3, k4, P, tk', hit⟩ := h4.2 b Y hb N T Lb hN hT hL c1 c2 c' c4 tk1 ho1; exact ⟨k1, k2, k3, k4, P, tk', (cd hs).trans hit⟩
  | bad er p =>
   obtain ⟨a', d'', h4⟩ := h4; refine ⟨a', d'', fun b Y hb N T Lb hN hT hL c1 c2 c3 c4 tk ho => ?_⟩; obtain ⟨c', tk1, ho1, hs⟩ := stp b Y hb N T Lb hN hT hL c1 c2 c3 c4 tk ho; obtain ⟨P0, P1, tk', hit⟩ := h4 b Y hb N T Lb hN hT hL c1 c2 c' c4 tk1 ho1; exact ⟨P0, P1, tk', (cd hs).trans hit⟩
theorem w5 {d : Nat} {g : Pg} {l : List Tok} {x : PR Pg} (hd0 : d = 0) {n m : Nat} (hm : m ≤ 1000000) (ih : sb ts m) (hg : g.ths.length < 1000000) (ihp : ∀ g2 l x, g2.fa.length + g2.gls.length + g2.fe.length + g2.ths.length = g.fa.length + g.gls.length + g.fe.length + g.ths.length + 1 → Sfx ts l → dq n m g2 l = some x → mV ts d g2 l x) (h : Sfx ts l) (k0 : (hd l).kind ≠ 0) (p0 : isT l [114, 101, 99, 111, 114, 100] = false) (p1 : isT l [103, 108, 111, 98, 97, 108] = false) (p2 : isT l [102, 117, 110] = false) (pk : isT l [116, 104, 114, 101, 97, 100] = true) (hx : (pb (eX m d l.tail) fun r l1 => dq n m { g with ths := g.ths ++ [⟨r, (hd l).p.1, (hd l).p.2⟩] } l1) = some x) : mV ts d g l x := by
 have k0' : ¬ (((hd l).kind : Int) = 0) := by omega
 have s0 := h.isT hr pk; obtain ⟨y, hy⟩ := dF hx; rw [hy] at hx; have h2 := ih.blk _ _ _ (by omega) s0 hy
 cases y with
 | bad er q =>
  obtain rfl := bS hx rfl; obtain ⟨a', d'', eb⟩ := bC h2 rfl; refine ⟨a', d'', fun b Y hb N T Lb hN hT hL c1 c2 c3 c4 tk ho => ⟨z4, pgC g c1 c2 c3 c4, tk, ?_⟩⟩; have eb := eb hb; have e67 := aD (dO h d 0 0 0 (b := b)) (s := Y) hb; have f_0 := aD (aG hr h d [114, 101, 99, 111, 114, 100] (b := b)) (s := Y) hb; have f_1 := aD (aG hr h d [103, 108, 111, 98, 97, 108] (b := b)) (s := Y) hb; have f_2 := aD (aG hr h d [102, 117, 110] (b := b)) (s := Y) hb; have f_3 := aD (aG hr h d [116, 104, 114, 101, 97, 100] (b := b)) (s := Y) hb; have eb := eb; obtain ⟨f1, f2, f3, f4⟩ := ho.sfs (N + 2)
  have hb2 : b < N + 2 := by omega
  simp only [pc, pcf, aM, Tok.c, bw, jZ, iL, iM, mW, cE, nmC, aa, if_true, if_false, ab, p0, p1, p2, pk] at e67 f_0 f_1 f_2 f_3 eb ⊢
  generalize aC ts = es at *
  apply jh; simp [S48.b0, hN, hT, hL, hb, hb2, e67, f_0, f_1, f_2, f_3, eb, p0, p1, p2, pk, f1, f2, f3, f4, k0, k0', aZ, aF, jr, gw, AM.cv, AM.eK, chunks, Ex.bn, fG, fq, kW]
 | ok r l1 =>
  have hx := cG hx rfl
  try dsimp only at hx
  have s1 := bH h2 rfl; have h4 := ihp _ l1 x (by simp only [au, bQ]; omega) s1 hx
  have stp : ∀ b (Y : St), b < Y.stk.length → ∀ N T Lb, Y.stk.length = N → Y.tk.length = T → Y.lp.length = Lb → ∀ c1 c2 c3 c4 tk, jW T tk c1 c2 c3 c4 g → ∃ c' tk', jW T tk' c1 c2 c3 c' { g with ths := g.ths ++ [⟨r, (hd l).p.1, (hd l).p.2⟩] } ∧
   S48.b0 (E L) itE N Lb [.ptr false b 0, .ptr false N 0, .ptr false (N + 1) 0] ((Y.af false b (pc ts l d)).app [⟨z4, []⟩, ⟨pgC g c1 c2 c3 c4, []⟩] tk []) = some (.normal, [.ptr false b 0, .ptr false N 0, .ptr false (N + 1) 0], (Y.af false b (pc ts l1 d)).app [⟨z4, []⟩, ⟨pgC { g with ths := g.ths ++ [⟨r, (hd l).p.1, (hd l).p.2⟩] } c1 c2 c3 c', []⟩] tk' []) := by
   intro b Y hb N T Lb hN hT hL c1 c2 c3 c4 tk ho; obtain ⟨c', tk', ea, ho'⟩ := ho.g4 (b := b) (cs := pc ts l1 d) hT ⟨r, (hd l).p.1, (hd l).p.2⟩ hg; refine ⟨c', tk', ho', ?_⟩; have e67 := aD (dO h d 0 0 0 (b := b)) (s := Y) hb; have f_0 := aD (aG hr h d [114, 101, 99, 111, 114, 100] (b := b)) (s := Y) hb; have f_1 := aD (aG hr h d [103, 108, 111, 98, 97, 108] (b := b)) (s := Y) hb; have f_2 := aD (aG hr h d [102, 117, 110] (b := b)) (s := Y) hb; have f_3 := aD (aG hr h d [116, 104, 114, 101, 97, 100] (b := b)) (s := Y) hb; have e2 := aT h2 rfl hb; have ea := ea; obtain ⟨f1, f2, f3, f4⟩ := ho.sfs (N + 2); obtain ⟨f1', f2', f3', f4'⟩ := ho'.sfs (N + 2)
   have hb2 : b < N + 2 := by omega
   simp only [pc, pcf, aM, Tok.c, bw, jZ, iL, iM, mW, cE, nmC, aa, if_true, if_false, ab, p0, p1, p2, pk] at e67 f_0 f_1 f_2 f_3 e2 ea ⊢
   generalize aC ts = es at *
   simp [S48.b0, hN, hT, hL, hb, hb2, e67, f_0, f_1, f_2, f_3, e2, ea, p0, p1, p2, pk, f1, f2, f3, f4, f1', f2', f3', f4', k0, k0', aZ, aF, jr, gw, AM.cv, AM.eK, chunks, Ex.bn, fG, fq, kW]
  cases x with
  | ok g' l' =>
   refine ⟨h4.1, fun b Y hb N T Lb hN hT hL c1 c2 c3 c4 tk ho => ?_⟩; obtain ⟨c', tk1, ho1, hs⟩ := stp b Y hb N T Lb hN hT hL c1 c2 c3 c4 tk ho; obtain ⟨k1, k2, k3, k4, P, tk', hit⟩ := h4.2 b Y hb N T Lb hN hT hL c1 c2 c3 c' tk1 ho1; exact ⟨k1, k2, k3, k4, P, tk', (cd hs).trans hit⟩
  | bad er p =>
   obtain ⟨a', d'', h4⟩ := h4; refine ⟨a', d'', fun b Y hb N T Lb hN hT hL c1 c2 c3 c4 tk ho => ?_⟩; obtain ⟨c', tk1, ho1, hs⟩ := stp b Y hb N T Lb hN hT hL c1 c2 c3 c4 tk ho; obtain ⟨P0, P1, tk', hit⟩ := h4 b Y hb N T Lb hN hT hL c1 c2 c3 c' tk1 ho1; exact ⟨P0, P1, tk', (cd hs).trans hit⟩
theorem AO {d : Nat} {g : Pg} {l : List Tok} {x : PR Pg}  (h : Sfx ts l) (k0 : (hd l).kind ≠ 0) (p0 : isT l [114, 101, 99, 111, 114, 100] = false) (p1 : isT l [103, 108, 111, 98, 97, 108] = false) (p2 : isT l [102, 117, 110] = false) (p3 : isT l [116, 104, 114, 101, 97, 100] = false)  (hx : some (.bad 4 (hd l).p) = some x) : mV ts d g l x := by
 have k0' : ¬ (((hd l).kind : Int) = 0) := by omega
 obtain rfl := Option.some.inj hx; refine ⟨pcA ts l, d, fun b Y hb N T Lb hN hT hL c1 c2 c3 c4 tk ho => ⟨z4, pgC g c1 c2 c3 c4, tk, ?_⟩⟩; have e67 := aD (dO h d 0 0 0 (b := b)) (s := Y) hb; have f_0 := aD (aG hr h d [114, 101, 99, 111, 114, 100] (b := b)) (s := Y) hb; have f_1 := aD (aG hr h d [103, 108, 111, 98, 97, 108] (b := b)) (s := Y) hb; have f_2 := aD (aG hr h d [102, 117, 110] (b := b)) (s := Y) hb; have f_3 := aD (aG hr h d [116, 104, 114, 101, 97, 100] (b := b)) (s := Y) hb; have e74 := aD (oc (aC ts) (pcA ts l) d 4 (hd l) (b := b)) (s := Y) hb; obtain ⟨f1, f2, f3, f4⟩ := ho.sfs (N + 2)
 have hb2 : b < N + 2 := by omega
 simp only [pc, pcf, aM, Tok.c, bw, jZ, iL, iM, mW, cE, nmC, aa, if_true, if_false, ab, p0, p1, p2, p3] at e67 f_0 f_1 f_2 f_3 e74 ⊢
 generalize aC ts = es at *
 apply jh; simp [S48.b0, hN, hT, hL, hb, hb2, e67, f_0, f_1, f_2, f_3, e74, p0, p1, p2, p3, f1, f2, f3, f4, k0, k0', aZ, aF, jr, gw, AM.cv, AM.eK, chunks, Ex.bn, fG, fq, kW]
end
abbrev pg0 : Pg := ⟨[], [], [], []⟩
theorem AN {ts : List Tok} (hr : Row ts) {m : Nat} (hm : m ≤ 1000000) (ih : sb ts m) : ∀ n g l x, g.fa.length + g.gls.length + g.fe.length + g.ths.length + n ≤ 1000000 → Sfx ts l → dq n m g l = some x → mV ts 0 g l x := by
 intro n
 induction n with
 | zero => intro g l x _ _ hx; simp [dq] at hx
 | succ n ihn =>
  intro g l x hg h hx; simp only [dq] at hx
  have ihp : ∀ g2 l x, g2.fa.length + g2.gls.length + g2.fe.length + g2.ths.length = g.fa.length + g.gls.length + g.fe.length + g.ths.length + 1 → Sfx ts l → dq n m g2 l = some x → mV ts 0 g2 l x := fun g2 l x e h hx => ihn g2 l x (by omega) h hx
  by_cases k0 : (hd l).kind = 0
  · rw [if_pos k0] at hx
    exact CP hr h k0 hx
  rw [if_neg k0] at hx
  cases p0 : isT l [114, 101, 99, 111, 114, 100] with
  | true => rw [if_pos p0] at hx; exact wZ hr rfl hm ih (by omega) ihp h k0 p0 hx
  | false =>
  rw [if_neg (by rw [p0]; decide)] at hx
  cases p1 : isT l [103, 108, 111, 98, 97, 108] with
  | true => rw [if_pos p1] at hx; exact wY hr rfl hm ih (by omega) ihp h k0 p0 p1 hx
  | false =>
  rw [if_neg (by rw [p1]; decide)] at hx
  cases p2 : isT l [102, 117, 110] with
  | true => rw [if_pos p2] at hx; exact AL hr rfl hm ih (by omega) ihp h k0 p0 p1 p2 hx
  | false =>
  rw [if_neg (by rw [p2]; decide)] at hx
  cases p3 : isT l [116, 104, 114, 101, 97, 100] with
  | true => rw [if_pos p3] at hx; exact w5 hr rfl hm ih (by omega) ihp h k0 p0 p1 p2 p3 hx
  | false =>
  rw [if_neg (by rw [p3]; decide)] at hx; exact AO hr h k0 p0 p1 p2 p3 hx
theorem yj {ts : List Tok} (hr : Row ts) {m n : Nat} (hm : m ≤ 1000000) (hn : n ≤ 1000000) {l : List Tok} {x : PR Pg} (h : Sfx ts l) (hx : dq n m pg0 l = some x) : Rd 48 [] ts 0 0 l lR x := by
 have h1 := AN hr hm (Dc hr m hm).1 n pg0 l x (by simpa using hn) h hx
 cases x with
 | bad er q =>
  obtain ⟨a', d'', h1⟩ := h1; refine ⟨a', d'', fun b Y hb => ?_⟩; obtain ⟨P0, P1, tk', hit⟩ := h1 b Y hb _ _ _ rfl rfl rfl .nil .nil .nil .nil [] (jW.zero _); rw [Bz]; obtain ⟨N, T, Lb, hN, hT, hL⟩ := lens3 Y; rw [hN] at hb; rw [hN] at hit
  conv => lhs; rw [← ao (Y.af false b (pc ts l 0))]
  rw [hL] at hit; simp only [pc, pcf, z4, pgC, pg0, gL, nms, jx, jB, bh, Int.natCast_zero] at hit ⊢
  generalize aC ts = es at *
  simp [S48, hN, hT, hL, hb, hit, Ex.bn]
 | ok g l' =>
  refine ⟨h1.1, fun b Y hb => ?_⟩; obtain ⟨k1, k2, k3, k4, P, tk', hit⟩ := h1.2 b Y hb _ _ _ rfl rfl rfl .nil .nil .nil .nil [] (jW.zero _); rw [Bz]; obtain ⟨N, T, Lb, hN, hT, hL⟩ := lens3 Y; rw [hN] at hb; rw [hN] at hit
  conv => lhs; rw [← ao (Y.af false b (pc ts l 0))]
  rw [hL] at hit; simp only [pc, pcf, z4, pgC, pg0, gL, nms, jx, jB, bh, Int.natCast_zero] at hit ⊢
  generalize aC ts = es at *
  simp [S48, hN, hT, hL, hb, hit, Ex.bn]; exact ⟨rfl, rfl, rfl, rfl⟩
end Go.Proofs.YtlhlijaondmccaaGreatDoor.S
namespace Go.Proofs.YtlhlijaondmccaaGreatDoor.S
open Go Go.AM Go.Proofs
def Tot {α : Type} (c : α → Nat) (m : Nat) (o : Option (PR α)) : Prop := ∃ x, o = some x ∧ ∀ a l', x = .ok a l' → c a + 8 * l'.length ≤ m
section
variable {α β : Type} {c : α → Nat} {c' : β → Nat} {m m' : Nat}
theorem Tot.le {k : α → Nat} {o : Option (PR α)} (h : Tot c m o) (hm : ∀ a n, c a + 8 * n ≤ m → k a + 8 * n ≤ m') : Tot k m' o := by
 obtain ⟨x, h1, h2⟩ := h; exact ⟨x, h1, fun a l' e => hm a l'.length (h2 a l' e)⟩
theorem dU {a : α} {l : List Tok} (h : c a + 8 * l.length ≤ m) : Tot c m (some (.ok a l)) := ⟨_, rfl, fun a l' e => by cases e; exact h⟩
theorem lz {e : Nat} {q : Nat × Nat} : Tot c m (some (.bad e q : PR α)) := ⟨_, rfl, fun a l' e => by cases e⟩
theorem cr {x : Option (PR α)} {K : α → List Tok → Option (PR β)} (h : Tot c m x) (hk : ∀ a l', c a + 8 * l'.length ≤ m → Tot c' m' (K a l')) : Tot c' m' (pb x K) := by
 obtain ⟨x, rfl, h2⟩ := h
 cases x with
 | ok a l => exact hk a l (h2 a l rfl)
 | bad e q => exact lz
theorem dI {p : Prop} [Decidable p] {x y : Option (PR α)} (h : p → Tot c m x) (g : ¬ p → Tot c m y) : Tot c m (if p then x else y) := by
 split
 · exact h ‹_›
 · exact g ‹_›
theorem vB {f : α → β} {x : PR α} (h : Tot (fun a => c' (f a)) m (some x)) : Tot c' m (some (x.map f)) := by
 obtain ⟨y, h1, h2⟩ := h; obtain rfl := Option.some.inj h1
 cases x with
 | ok a l => exact dU (h2 a l rfl)
 | bad e q => exact lz
theorem tq {d : Nat} {t : Tok} {x : Option (PR α)} (h : Tot c m x) : Tot c m (nv d t x) := dI (fun _ => lz) fun _ => h
end
theorem xT {l : List Tok} (h : (hd l).kind ≠ 0) : 1 ≤ l.length := by
 cases l with
 | nil => exact absurd rfl h
 | cons t r => simp
theorem Cj {l : List Tok} {s : List UInt8} (h : isT l s = true) : (hd l).kind ≠ 0 := by
 unfold isT at h; simp only [aw, Bool.or_eq_true, decide_eq_true_eq] at h; omega
theorem dE {l : List Tok} {s : List UInt8} (h : isT l s = true) : 1 ≤ l.length ∧ l.tail.length = l.length - 1 := ⟨xT (Cj h), List.length_tail⟩
theorem gK {l : List Tok} (h : (hd l).kind ≠ 0) : 1 ≤ l.length ∧ (dp l).length = l.length - 1 := ⟨xT h, by rw [dp, if_neg h]; exact List.length_tail⟩
theorem wI (l : List Tok) : (dp l).length ≤ l.length := by
 unfold dp; split
 · exact aq _
 · rw [List.length_tail]; omega
theorem fX (s : List UInt8) (l : List Tok) : Tot (fun _ => 8) (8 * l.length) (some (dm s l)) := by
 unfold dm; split
 · rename_i h; have := dE h; exact dU (by omega)
 · exact lz
theorem gQ {k : Nat} (hk : k ≠ 0) (l : List Tok) : Tot (fun _ => 8) (8 * l.length) (some (eg k l)) := by
 unfold eg; split
 · rename_i h; have := gK (l := l) (by omega); exact dU (by omega)
 · exact lz
theorem Fc (l : List Tok) : Tot (fun _ => 8) (8 * l.length) (some (rK l)) := by
 unfold rK; split
 · rename_i h; have := dE h; exact dU (by omega)
 split
 · rename_i h; have := dE h; exact dU (by omega)
 split
 · rename_i h; have := dE h; exact dU (by omega)
 exact vB (gQ (by omega) l)
theorem qX (l : List Tok) : Tot (fun _ => 24) (8 * l.length) (kR l) :=
 cr (gQ (by omega) l) fun t l1 h1 => cr (fX _ l1) fun _ l2 h2 => cr (Fc l2) fun ty l3 h3 => dU (by omega)
abbrev wX (e : X) : Nat := e.sz + 7
theorem nU : x0.sz = 1 := by simp [x0, X.sz, szs]
theorem qB (t : Tok) (op n kd : Int) (rc name : List UInt8) : (atX t op n kd rc name).sz = 1 := by simp [atX, X.sz, szs]
theorem BL (a b c d : Int) (r n : ByteArray) (e k : X) (p q : Int) : X.sz ⟨a, b, c, d, r, n, [e, k], p, q⟩ = e.sz + k.sz + 1 := by simp [X.sz, szs]
theorem Hv (a b c d : Int) (r n : ByteArray) (k : X) (p q : Int) : X.sz ⟨a, b, c, d, r, n, [k], p, q⟩ = k.sz + 1 := by simp [X.sz, szs]
structure Hx (n : Nat) : Prop where
 atom : ∀ d l, 10 * l.length + 1 ≤ n → Tot wX (8 * l.length) (jt n d l)
 pre : ∀ d l, 10 * l.length + 2 ≤ n → Tot wX (8 * l.length) (gf n d l)
 chain : ∀ lv d l, lv ≤ 3 → 10 * l.length + 6 ≤ n + lv → Tot wX (8 * l.length) (dT n lv d l)
 rest : ∀ lv d e l, lv < 3 → 10 * l.length + 1 ≤ n → Tot X.sz (e.sz + 8 * l.length) (iO n lv d e l)
theorem zk : ∀ n, Hx n
 | 0 => ⟨fun d l h => by omega, fun d l h => by omega, fun lv d l h h' => by omega, fun lv d e l h h' => by omega⟩
 | n + 1 => by
  have ih := zk n; refine ⟨fun d l h => ?_, fun d l h => ?_, fun lv d l hlv h => ?_, fun lv d e l hlv h => ?_⟩
  · simp only [jt]
    refine dI (fun k => dU ?_) fun _ => dI (fun k => dU ?_) fun _ => dI (fun k => dU ?_) fun _ => dI (fun k => ?_) fun _ => dI (fun k => ?_) fun _ => dI (fun k => ?_) fun _ => lz
    · have := gK (l := l) (by omega); simp only [wX, qB]; omega
    · have := gK (l := l) (by omega); simp only [wX, qB]; omega
    · have := gK (l := l) (by omega); simp only [wX, qB]; omega
    · have := gK (l := l) (by omega)
      exact vB ((gQ (by omega) (dp l)).le fun a n h => by simp only [wX, qB]; omega)
    · have := gK (l := l) (by omega)
      refine dI (fun k => dU ?_) fun _ => vB ((gQ (by omega) (dp l)).le fun a n h => by simp only [wX, qB]; omega)
      have := dE k; simp only [wX, qB]; omega
    · have := gK (l := l) (by omega)
      exact tq (cr (ih.chain 0 (d + 1) (dp l) (by omega) (by omega)) fun e l1 h1 => cr (fX _ l1) fun _ l2 h2 => dU (by omega))
  · simp only [gf]
    refine dI (fun k => ih.atom d l (by omega)) fun k => ?_
    have : (hd l).kind ≠ 0 := by
     intro q; apply k; unfold gy; rw [if_neg (by omega)]
    have := gK this; exact tq (cr (ih.pre (d + 1) (dp l) (by omega)) fun e l1 h1 => dU (by simp only [wX, Hv] at h1 ⊢; omega))
  · simp only [dT]
    refine dI (fun k => ih.pre d l (by omega)) fun k => ?_
    exact cr (ih.chain (lv + 1) d l (by omega) (by omega)) fun e l1 h1 => (ih.rest lv d e l1 (by omega) (by simp only [wX] at h1; omega)).le fun a n h => by simp only [wX] at h1 ⊢; omega
  · simp only [iO]
    cases hs : iB lv (hd l) with
    | none => exact dU (aq _)
    | some b =>
     have : (hd l).kind ≠ 0 := by
      unfold iB at hs; split at hs
      · omega
      · cases hs
     have := gK this
     exact cr (ih.chain (lv + 1) d (dp l) (by omega) (by omega)) fun k l1 h1 => dI (fun _ => dU (by simp only [wX, BL] at h1 ⊢; omega)) fun _ => (ih.rest lv d _ l1 hlv (by simp only [wX] at h1; omega)).le fun a n h => by simp only [wX, BL] at h1 h ⊢; omega
theorem kN {n d : Nat} {l : List Tok} (h : 10 * l.length + 6 ≤ n) : Tot wX (8 * l.length) (dT n 0 d l) := (zk n).chain 0 d l (by omega) (by omega)
abbrev wP (p : Pl) : Nat := p.index.sz + 7
theorem uo {n d : Nat} {l : List Tok} (h : 10 * l.length + 6 ≤ n) : Tot wP (8 * l.length) (lH n d l) :=
 cr (gQ (by omega) l) fun t l1 h1 => dI
  (fun k => by have := dE k; exact cr (gQ (by omega) l1.tail) fun u l2 h2 => dU (by simp only [wP, nU]; omega)) fun _ => dI
  (fun k => by have := dE k; exact cr (kN (by omega)) fun e l2 h2 => cr (fX _ l2) fun _ l3 h3 => dU (by simp only [wP, wX] at h2 ⊢; omega)) fun _ => dU (by simp only [wP, nU]; omega)
abbrev wR (r : Rt) : Nat := r.e.sz + r.place.index.sz + 6
theorem uv {n d : Nat} {l : List Tok} (h : 10 * l.length + 6 ≤ n) : Tot wR (8 * l.length) (iJ n d l) := by
 simp only [iJ]
 refine dI (fun k => ?_) fun _ => dI (fun k => ?_) fun _ => dI (fun k => dI (fun k' => ?_) fun _ => ?_) fun _ => ?_
 · have := dE k; exact cr (uo (by omega)) fun x l1 h1 => dU (by simp only [wP, wR, nU] at h1 ⊢; omega)
 · have := dE k; exact cr (gQ (by omega) _) fun x l1 h1 => dU (by simp only [wR, nU, pl0]; omega)
 · have := dE k; have := dE k'; exact cr (kN (by omega)) fun x l1 h1 => dU (by simp only [wX, wR, nU, pl0] at h1 ⊢; omega)
 · have := dE k; exact cr (gQ (by omega) _) fun x l1 h1 => dU (by simp only [wR, nU, pl0]; omega)
 · exact cr (kN (by omega)) fun x l1 h1 => dU (by simp only [wX, wR, nU, pl0] at h1 ⊢; omega)
theorem xn (xs : List X) (x : X) : szs (xs ++ [x]) = szs xs + x.sz := by rw [qn]; simp [szs]
theorem Ba (xs : List S) (x : S) : fj (xs ++ [x]) = fj xs + x.sz := by rw [td]; simp [fj]
theorem vO {m d : Nat} : ∀ (n : Nat) (acc : List X) (l : List Tok), l.length + 1 ≤ n → 10 * l.length + 6 ≤ m → Tot szs (szs acc + 8 * l.length) (js n m d acc l)
 | 0, acc, l, h, _ => by omega
 | n + 1, acc, l, h, hm => by
  simp only [js]
  refine cr (kN hm) fun e l1 h1 => dI (fun k => dU (by have := dE k; simp only [wX, xn] at h1 ⊢; omega)) fun _ => cr (fX _ l1) fun _ l2 h2 => ?_
  simp only [wX] at h1
  exact (vO n _ l2 (by omega) (by omega)).le fun a n h => by simp only [xn] at h ⊢; omega
theorem Ai {n d : Nat} {l : List Tok} (h : 10 * l.length + 6 ≤ n) : Tot (fun xs => szs xs + 8) (8 * l.length) (pt n d l) :=
 cr (fX _ l) fun _ l1 h1 => dI (fun k => dU (by have := dE k; simp only [szs]; omega)) fun _ => (vO n [] l1 (by omega) (by omega)).le fun a n h => by simp only [szs] at h; omega
theorem kU {m : Nat} {s : S} {l : List Tok} (h : s.sz + 8 * l.length ≤ m + 8) : Tot S.sz m (gn s l) := cr (fX _ l) fun _ l1 h1 => dU (by omega)
theorem kQ (t : Tok) (op : Int) (name : ByteArray) (right : Rt) (place : Pl) (e : X) (n : Int) (args : List X) (body els : List S) : (mkS t op name right place e n args body els).sz = right.e.sz + right.place.index.sz + place.index.sz + e.sz + szs args + fj body + fj els + 1 := S.rB _
theorem Gx : rt0.e.sz = 1 ∧ rt0.place.index.sz = 1 ∧ pl0.index.sz = 1 := ⟨nU, nU, nU⟩
structure StT (n : Nat) : Prop where
 blk : ∀ d l, 10 * l.length + 7 ≤ n → Tot (fun b => fj b + 8) (8 * l.length) (eX n d l)
 row : ∀ d acc l, 10 * l.length + 9 ≤ n → Tot fj (fj acc + 8 * l.length) (lI n d acc l)
 lp : ∀ d t nm l, 10 * l.length + 8 ≤ n → Tot (fun s : S => s.sz + 1) (8 * l.length) (iF n d t nm l)
 st : ∀ d l, 10 * l.length + 8 ≤ n → Tot (fun s : S => s.sz + 1) (8 * l.length) (ju n d l)
theorem yq : ∀ n, StT n
 | 0 => ⟨fun d l h => by omega, fun d acc l h => by omega, fun d t nm l h => by omega, fun d l h => by omega⟩
 | n + 1 => by
  have ih := yq n; have z := Gx; have z0 := nU; refine ⟨fun d l h => ?_, fun d acc l h => ?_, fun d t nm l h => ?_, fun d l h => ?_⟩
  · simp only [eX]
    exact cr (fX _ _) fun t l1 h1 => tq ((ih.row (d + 1) [] l1 (by omega)).le fun a n h => by simp only [fj] at h; omega)
  · simp only [lI]
    refine dI (fun k => dU (by have := dE k; omega)) fun _ => cr (ih.st d l (by omega)) fun s l1 h1 => ?_
    have : 1 ≤ s.sz := by rw [S.rB]; omega
    exact (ih.row d _ l1 (by omega)).le fun a n h => by simp only [Ba] at h; omega
  · simp only [iF]
    exact cr (gQ (by omega) l) fun u l1 h1 => cr (ih.blk d l1 (by omega)) fun b l2 h2 => dU (by simp only [kQ, szs, fj, z, z0]; omega)
  · simp only [ju]
    refine dI (fun k => ?_) fun _ => dI (fun k => ?_) fun _ => dI (fun k => ?_) fun _ => dI (fun k => ?_) fun _ => dI (fun k => ?_) fun _ => dI (fun k => ?_) fun _ => dI (fun k => ?_) fun _ => dI (fun k => ?_) fun _ => dI (fun k => ?_) fun _ => dI (fun k => ?_) fun _ => lz
    · have := gK (l := l) (by omega)
      refine dI (fun k' => ?_) fun _ => ?_
      · have := dE k'
        exact cr (fX _ _) fun _ l1 h1 => (ih.lp d _ _ l1 (by omega)).le fun a n h => by omega
      · exact cr (fX _ _) fun _ l1 h1 => cr (uv (by omega)) fun r l2 h2 => (kU (m := 8 * l.length - 1) (by simp only [wR] at h2; simp only [kQ, szs, fj, z, z0]; omega)).le fun a n h => by omega
    · have := dE k; exact (ih.lp d _ _ l.tail (by omega)).le fun a n h => by omega
    · have := dE k
      refine cr (kN (by omega)) fun e l1 h1 => ?_
      simp only [wX] at h1
      exact cr (ih.blk d l1 (by omega)) fun b l2 h2 => dI
       (fun k' => by have := dE k'; exact cr (ih.blk d l2.tail (by omega)) fun c l3 h3 => dU (by simp only [kQ, szs, fj, z, z0]; omega)) fun _ => dU (by simp only [kQ, szs, fj, z, z0]; omega)
    · have := dE k; exact cr (ih.blk d l.tail (by omega)) fun b l1 h1 => dU (by simp only [kQ, szs, fj, z, z0]; omega)
    · have : (hd l).kind ≠ 0 := by rcases k with k | k <;> exact Cj k
      have := gK this
      exact cr (gQ (by omega) _) fun u l1 h1 => cr (fX _ l1) fun _ l2 h2 => cr (uv (by omega)) fun r l3 h3 => (kU (m := 8 * l.length - 1) (by simp only [wR] at h3; simp only [kQ, szs, fj, z, z0]; omega)).le fun a n h => by omega
    · have := dE k
      refine cr (uo (by omega)) fun x l1 h1 => cr (fX _ l1) fun _ l2 h2 => ?_
      simp only [wP] at h1
      exact cr (kN (by omega)) fun e l3 h3 => (kU (m := 8 * l.length - 1) (by simp only [wX] at h3; simp only [kQ, szs, fj, z, z0]; omega)).le fun a n h => by omega
    · have := dE k; exact cr (kN (by omega)) fun e l1 h1 => (kU (m := 8 * l.length - 1) (by simp only [wX] at h1; simp only [kQ, szs, fj, z, z0]; omega)).le fun a n h => by omega
    · have := dE k
      have h2 : (eO l.tail).2.length ≤ l.tail.length := by
       unfold eO; split
       · exact wI _
       · exact aq _
      exact (kU (m := 8 * l.length - 1) (by simp only [kQ, szs, fj, z, z0]; omega)).le fun a n h => by omega
    · have := dE k
      have h2 : (eO l.tail).2.length ≤ l.tail.length := by
       unfold eO; split
       · exact wI _
       · exact aq _
      exact (kU (m := 8 * l.length - 1) (by simp only [kQ, szs, fj, z, z0]; omega)).le fun a n h => by omega
    · have := dE k
      exact cr (gQ (by omega) _) fun u l1 h1 => cr (Ai (by omega)) fun xs l2 h2 => (kU (m := 8 * l.length - 1) (by simp only [kQ, szs, fj, z, z0]; omega)).le fun a n h => by omega
theorem sv : ∀ (n : Nat) (acc : List Nm) (l : List Tok), l.length + 1 ≤ n → Tot fQ (acc.length + 8 * l.length) (gr n acc l)
 | 0, acc, l, h => by omega
 | n + 1, acc, l, h => by
  simp only [gr]
  exact dI (fun k => dU (by have := dE k; omega)) fun _ => cr (qX l) fun f l1 h1 => cr (fX _ l1) fun _ l2 h2 =>
   (sv n _ l2 (by omega)).le fun a n h => by simp only [au, bQ] at h; omega
theorem EX {n : Nat} {l : List Tok} (h : l.length + 1 ≤ n) : Tot (fun r : Rec => r.fields.length + 1) (8 * l.length) (vu n l) :=
 cr (gQ (by omega) l) fun t l1 h1 => cr (fX _ l1) fun _ l2 h2 => cr (sv n [] l2 (by omega)) fun fs l3 h3 => dU (by simp only [ay] at h3; show fs.length + 1 + 8 * l3.length ≤ _; omega)
theorem sP : ∀ (n : Nat) (acc : List Nm) (l : List Tok), l.length + 1 ≤ n → Tot fQ (acc.length + 8 * l.length) (gd n acc l)
 | 0, acc, l, h => by omega
 | n + 1, acc, l, h => by
  simp only [gd]
  exact cr (qX l) fun f l1 h1 => dI (fun k => dU (by have := dE k; simp only [au, bQ]; omega)) fun _ => cr (fX _ l1) fun _ l2 h2 =>
   (sP n _ l2 (by omega)).le fun a n h => by simp only [au, bQ] at h; omega
theorem Ev {n : Nat} {l : List Tok} (h : 10 * l.length + 7 ≤ n) : Tot (fun f : Fu => f.params.length + fj f.body + 1) (8 * l.length) (wo n l) :=
 cr (gQ (by omega) l) fun t l1 h1 => cr (fX _ l1) fun _ l2 h2 => cr (c := fQ) (m := 8 * l2.length)
  (dI (fun k => dU (by have := dE k; simp only [ay]; omega)) fun _ => (sP n [] l2 (by omega)).le fun a n h => by simpa using h) fun ps l3 h3 =>
  cr ((yq n).blk 0 l3 (by omega)) fun b l4 h4 => dU (by simp only []; omega)
def Pg.sz (g : Pg) : Nat := (g.fa.map fun r => r.fields.length + 1).sum + g.gls.length + (g.fe.map fun f => f.params.length + fj f.body + 1).sum + (g.ths.map fun t => fj t.body + 1).sum
theorem qb {m : Nat} : ∀ (n : Nat) (g : Pg) (l : List Tok), l.length + 1 ≤ n → 10 * l.length + 7 ≤ m → Tot Pg.sz (g.sz + 8 * l.length) (dq n m g l)
 | 0, g, l, h, _ => by omega
 | n + 1, g, l, h, hm => by
  simp only [dq]
  refine dI (fun k => dU (aq _)) fun k0 => ?_
  have := xT k0
  have go : ∀ g' l2, l2.length < l.length → g'.sz + 8 * l2.length ≤ g.sz + 8 * l.length → Tot Pg.sz (g.sz + 8 * l.length) (dq n m g' l2) := fun g' l2 h2 h3 => (qb n g' l2 (by omega) (by omega)).le fun a n h => by omega
  refine dI (fun k => ?_) fun _ => dI (fun k => ?_) fun _ => dI (fun k => ?_) fun _ => dI (fun k => ?_) fun _ => lz
  · have := dE k; exact cr (EX (by omega)) fun r l1 h1 => go _ _ (by omega) (by simp only [Pg.sz, List.map_append, List.sum_append, bc, bh, List.sum_cons, List.sum_nil] at h1 ⊢; omega)
  · have := dE k; exact cr (qX _) fun r l1 h1 => cr (fX _ l1) fun _ l2 h2 => go _ _ (by omega) (by simp only [Pg.sz, au, bQ]; omega)
  · have := dE k; exact cr (Ev (by omega)) fun r l1 h1 => go _ _ (by omega) (by simp only [Pg.sz, List.map_append, List.sum_append, bc, bh, List.sum_cons, List.sum_nil] at h1 ⊢; omega)
  · have := dE k; exact cr ((yq m).blk 0 l.tail (by omega)) fun r l1 h1 => go _ _ (by omega) (by simp only [Pg.sz, List.map_append, List.sum_append, bc, bh, List.sum_cons, List.sum_nil] at h1 ⊢; omega)
theorem Cu : ∀ (k : Nat) (rest : List UInt8) (p : Nat × Nat), rest.length = k → ∀ ts, fH rest p = .ok ts → ts.length ≤ rest.length + 1 ∧ ∀ t ∈ ts, t.text.length ≤ rest.length := by
 intro k
 induction k using Nat.strongRecOn with
 | ind k ih =>
  intro rest p hk ts h
  cases rest with
  | nil =>
   rw [jP] at h; obtain rfl := LR.ok.inj h; exact ⟨by simp, by simp⟩
  | cons c l =>
   by_cases hb : fk (c :: l) = 0
   · cases ht : (dH (c :: l)).2.2.2 with
     | false => rw [jk hb ht] at h; cases h
     | true =>
      rw [jl hb ht] at h; have hpos := jq ht; have hdl : ((c :: l).drop (dH (c :: l)).2.1).length = (c :: l).length - (dH (c :: l)).2.1 := eN ..
      cases hr : fH ((c :: l).drop (dH (c :: l)).2.1) (adv ((c :: l).take (dH (c :: l)).2.1) p) with
      | err q => rw [hr] at h; cases h
      | ok ts' =>
       rw [hr] at h; obtain rfl := LR.ok.inj h; simp only [ah] at hdl hk; obtain ⟨h1, h2⟩ := ih _ (by omega) _ _ rfl ts' hr; refine ⟨by simp only [ah]; omega, fun t hm => ?_⟩
       rcases List.mem_cons.1 hm with rfl | hm
       · simp only [ly]; exact Nat.le_trans (List.length_take_le _ _) (mS c l)
       · have := h2 t hm; simp only [ah]; omega
   · rw [gz hb] at h
     have hdl : ((c :: l).drop (fk (c :: l))).length = (c :: l).length - fk (c :: l) := eN ..; simp only [ah] at hdl hk; obtain ⟨h1, h2⟩ := ih _ (by omega) _ _ rfl ts h; exact ⟨by simp only [ah]; omega, fun t hm => by have := h2 t hm; simp only [ah]; omega⟩
theorem yD : ∀ w ∈ lM, ∀ lv, lv < 3 → (ig lv).contains w = false := by
 intro w hw lv hlv
 have : lv = 0 ∨ lv = 1 ∨ lv = 2 := by omega
 rcases this with rfl | rfl | rfl <;> revert w <;> decide
theorem nT {t : Tok} (h : Tk t) : t.kind ≠ 0 ∧ (t.n < 9223372036854775808 ∨ t.kind = 4) ∧ (t.kind = 5 → ∀ c ∈ t.text, c ≠ 32) ∧ (t.kind = 2 → kY t.text = true) := by
 obtain ⟨a, l, h1, h2, h3⟩ := h.ex; have hk := Bm (c := a) (l := l) (by rw [h3]); rw [h3] at hk; refine ⟨hk, ?_⟩; rw [h1]
 cases ha : eL a with
 | true =>
  rw [iP ha] at h3; obtain ⟨e1, e2⟩ := Prod.mk.inj h3; obtain ⟨e2, e3⟩ := Prod.mk.inj e2; obtain ⟨e3, e4⟩ := Prod.mk.inj e3; rw [e2, List.take_length] at e1 e3; unfold lA at e1 e3
  cases hw : kY (a :: l) with
  | true =>
   simp only [hw, if_true] at e1 e3; exact ⟨.inl (by omega), fun q => by omega, fun _ => rfl⟩
  | false =>
   cases hn : rp (a :: l) with
   | true =>
    simp only [hw, hn, if_true, if_false, ab] at e1 e3; exact ⟨.inl (by omega), fun q => by omega, fun q => by omega⟩
   | false =>
    simp only [hw, hn, if_false, ab] at e1 e3; have := zN (a :: l); exact ⟨.inl (by omega), fun q => by omega, fun q => by omega⟩
 | false =>
  by_cases hc : a = 35
  · subst hc
    rw [ia] at h3; obtain ⟨e1, e2⟩ := Prod.mk.inj h3; exact ⟨.inr e1.symm, fun q => by omega, fun q => by omega⟩
  · rw [gP ha hc] at h3
    obtain ⟨e1, e2⟩ := Prod.mk.inj h3; obtain ⟨e2, e3⟩ := Prod.mk.inj e2; obtain ⟨e3, e4⟩ := Prod.mk.inj e3; refine ⟨.inl (by omega), fun _ => ?_, fun q => by omega⟩; unfold fw at e2; split at e2
    · rename_i hp
      have : ∃ b, l = [b] := by
       cases l with
       | nil => simp at e2
       | cons b l => cases l with
        | nil => exact ⟨b, rfl⟩
        | cons _ _ => simp at e2
      obtain ⟨b, rfl⟩ := this; simp only [Bool.or_eq_true, iU, aw, beq_iff_eq] at hp; intro c hm; simp only [List.mem_cons, List.not_mem_nil, or_false] at hm
      rcases hp with (⟨rfl, rfl, _⟩ | ⟨rfl, rfl, _⟩) | ⟨rfl, rfl, _⟩ <;> rcases hm with rfl | rfl <;> decide
    · simp only at e2
      split at e2
      · rename_i hs
        have : l = [] := List.length_eq_zero_iff.1 (by simp only [ah] at e2; omega); subst this; intro c hm; rw [List.mem_singleton] at hm; subst hm
        rintro rfl
        revert hs
        decide
      · simp at e2
theorem EM {l : List UInt8} (hl : l.length ≤ 8192) {p : Nat × Nat} {ts : List Tok} (h : fH l p = .ok ts) : Row ts ∧ FM ts ∧ ts.length ≤ l.length + 1 := by
 obtain ⟨t0, h1, h2⟩ := mG l.length l p rfl ts h; obtain ⟨h3, h4⟩ := Cu l.length l p rfl ts h
 have hm : ∀ t ∈ ts, Tk t ∨ t = ⟨0, [], 0, adv l p⟩ := by
  intro t ht; rw [h2] at ht
  rcases List.mem_append.1 ht with ht | ht
  · exact .inl (h1 t ht)
  · exact .inr (List.mem_singleton.1 ht)
 refine ⟨⟨by omega, ⟨t0, adv l p, h2, fun t ht => (nT (h1 t ht)).1⟩, fun t ht => ?_, fun t ht => by have := h4 t ht; omega, fun t ht k => ?_⟩, fun t ht k => ?_, h3⟩
 · rcases hm t ht with q | rfl
   · exact (nT q).2.1
   · exact .inl (by simp)
 · rcases hm t ht with q | rfl
   · exact (nT q).2.2.1 k
   · simp at k
 · rcases hm t ht with q | rfl
   · have := (nT q).2.2.2 k
     exact yD _ (by simpa [kY] using this)
   · simp at k
def jz (ts : List Tok) : PR Pg := ((dq 10000 100000 ⟨[], [], [], []⟩ ts).getD (.bad 0 (0, 0)))
theorem iX {ts : List Tok} (h : ts.length ≤ 8193) : dq 10000 100000 ⟨[], [], [], []⟩ ts = some (jz ts) ∧ ∀ g l', jz ts = .ok g l' → g.sz ≤ 70000 := by
 obtain ⟨x, h1, h2⟩ := qb (m := 100000) 10000 ⟨[], [], [], []⟩ ts (by omega) (by omega); unfold jz; rw [h1]; refine ⟨rfl, fun g l' e => ?_⟩; have := h2 g l' e; simp only [Pg.sz, bh, List.sum_nil, ay] at this; simp only [Pg.sz]; omega
def gm (l : List UInt8) : Pg × Nat × Nat × Nat := if (kZ l).1 = 0 then match jz (nD l) with | .ok g _ => (g, 0, 0, 0) | .bad e q => (pg0, e, q.1, q.2) else (pg0, kZ l)
def AK {R : Type} (x : Ex) (A B : Option R) : Option R := match x with
 | .normal => A
 | .ret => B
 | _ => none
noncomputable def H47 (a0 a1 a2 : PV) (st : St) : Option St :=
(bq [(0, 1), (1, 1), (2, 1), (3, 1)] [.sl [] .nil, .sl [] .nil, .sl [] .nil, .sl [] .nil] []).bind fun p1 =>
(ag false 1 a0 st).bind fun p2 =>
(aI p2).bind fun p3 =>
(an p3 3).bind fun p4 =>
(ag true 3 p4 st).bind fun p5 =>
(av st.stk.length 4 a1 p1 st).bind fun st6 =>
(av st.stk.length 3 a2 p5 st6).bind fun st7 =>
some st7
theorem FK (a0 a1 a2 : PV) (st : St) : Cd [a0, a1, a2] 108 (.agg #[]) st = H47 a0 a1 a2 st := by kernel_rfl
noncomputable def S20 (call : bB) (a0 : PV) (st : St) : Option (PV × St) :=
let q2 : PV := .ptr false st.stk.length 0
let st1 := st.push [.sl [] .nil, .sl [] .nil, .sl [] .nil, .sl [] .nil]
let q4 : PV := .ptr false st1.stk.length 0
let st3 := st1.push [.v (.int .i64 0), .v (.int .i64 0), .v (.int .i64 0)]
(call (.func 46) [ai a0] st3).bind fun r5 =>
(aY r5.1 0).bind fun p6 =>
(aY r5.1 1).bind fun p7 =>
let q9 : PV := .ptr false r5.2.stk.length 0
let st8 := r5.2.push [.v (.int .i64 0), .v (.int .i64 0), .v (.int .i64 0)]
(av st.stk.length 3 q9 p7 st8).bind fun st10 =>
(ag true 3 q9 st10).bind fun p11 =>
(bq [(0, 1), (1, 1), (2, 1)] [.v (.int .i64 0), .v (.int .i64 0), .v (.int .i64 0)] []).bind fun p12 =>
(aW Tryz.prog false .neq 54 p11 p12).bind fun p13 =>
aE p13 fun b14 => (bif b14 then
(bq [(0, 1), (1, 1), (2, 1), (3, 1)] [.sl [] .nil, .sl [] .nil, .sl [] .nil, .sl [] .nil] []).bind fun p16 =>
(ag true 3 q9 st10).bind fun p17 =>
aH (st10 = st10) <|
(av st.stk.length 4 q2 p16 st10).bind fun st18 =>
aH (((ag true 3 q9 st18).bind fun p19 =>
some (Rs.ret p19, st18)) = some (Rs.ret p17, st18)) <|
(av st.stk.length 3 q4 p17 st18).bind fun st20 =>
some (Ex.ret, [q2, q4, p6], st20)
else
some (Ex.normal, [q2, q4, p6], st10)).bind fun r15 =>
AK r15.1 ((bq [(0, 1), (1, 1), (2, 1), (3, 3)] [.sl [] .nil, .v (.int .i64 0), .v (.int .i64 0), .v (.int .i64 0), .v (.int .i64 0), .v (.int .i64 0)] [(0, (ae r15.2.1 2))]).bind fun p21 =>
(cellsOf p21).bind fun b22 =>
let q24 : PV := .ptr false r15.2.2.stk.length 0
let st23 := r15.2.2.push b22
let q26 : PV := .ptr false st23.stk.length 0
let st25 := st23.push [.v (.pointer none)]
(av st.stk.length 1 q26 q24 st25).bind fun st27 =>
(lN (Fn.func 47) true [q26, (ae r15.2.1 0), (ae r15.2.1 1)]).bind fun p28 =>
sL 47 3 p28 fun cs29 =>
(ag false 1 q26 st27).bind fun p30 =>
(call (.func 48) [ai p30] st27).bind fun r31 =>
aV r31 (fun p32 st33 =>
(bq [(0, 1), (1, 1), (2, 1)] [.v (.int .i64 0), .v (.int .i64 0), .v (.int .i64 0)] []).bind fun p37 =>
(av st.stk.length 4 (ae r15.2.1 0) p32 st33).bind fun st38 =>
(av st.stk.length 3 (ae r15.2.1 1) p37 st38).bind fun st39 =>
(ag true 4 (ae r15.2.1 0) st39).bind fun p40 =>
(ag true 3 (ae r15.2.1 1) st39).bind fun p41 =>
fin st.stk.length st.tk.length st.lp.length [p40, p41] st39) (fun t34 x35 st36 =>
(Cd cs29 t34 x35 st36).bind fun st42 =>
(ag true 4 (ae r15.2.1 0) st42).bind fun p43 =>
(ag true 3 (ae r15.2.1 1) st42).bind fun p44 =>
fin st.stk.length st.tk.length st.lp.length [p43, p44] st42)) ((ag true 4 (ae r15.2.1 0) r15.2.2).bind fun p45 =>
(ag true 3 (ae r15.2.1 1) r15.2.2).bind fun p46 =>
fin st.stk.length st.tk.length st.lp.length [p45, p46] r15.2.2)
theorem xC (a0 : PV) (st : St) : E L (.func 20) [a0] st = S20 (E L) a0 st := (yJ (L := L) (q := j5.mL) (by kernel_rfl) _ _).trans (by kernel_rfl)
theorem Dd {s : St} {N : Nat} (hN : s.stk.length = N) {j off base sz : Nat} {bl : List Blk} {x : Blk} {cs : List PV} {tk : List (Nat × Nat)} {lp : List Aux} (hj : bl[j]? = some x) (hb : N + j < base) (hl : off + cs.length ≤ x.cs.length) (hz : cs.length = sz) (h0 : sz ≠ 0) (hs : cs.all qV = true) (hk : aJ cs = true) :
 av base sz (.ptr false (N + j) off) (.agg cs) (s.app bl tk lp) = some (s.app (bl.modify j fun y => ⟨laid x.cs off cs, y.tk⟩) tk lp) := by
 subst hN
 have h1 : (s.app bl tk lp).blk false (s.stk.length + j) = some x.cs := by
  show ((s.stk ++ bl)[s.stk.length + j]?).map Blk.cs = _
  rw [List.getElem?_append_right (by omega), show s.stk.length + j - s.stk.length = j by omega, hj]
  rfl
 have h3 : dB (off + cs.length) x.cs.length = true := by rw [Nat.ble_eq]; exact hl
 have h5 : (ak cs.length sz && !ak sz 0) = true := by
  rw [hz, Nat.beq_refl]
  cases sz with
  | zero => exact absurd rfl h0
  | succ n => rfl
 have h6 : gi (s.stk.length + j) base = true := by rw [Nat.blt_eq]; exact hb
 simp only [av, AM.cellsOf, aj, putCells, h1, h3, hk, h5, h6, bu, cond_true, Bool.or_true, Bool.false_or, kk hs, jA]
attribute [local simp] cX cx bY bZ cy fq fv ec de dY db dZ dc fu cc im dS iq ic hO AM.ae aR aS bf aN aE AM.onG gb bW ef Ex.bn cond_true cond_false cT cS cR cQ cP cV cO cW cU ed dh di cw cY AM.du AM.cellsOf AM.an bX beq_true cM ah ay bj bz bT decide_true decide_false bF bE bu bD bg aB az aU al cZ da ft aA bI ba bR cC dR dX cJ eE eD set_set eI dy fT dz cI bK dx dw cH dv eH eJ fM fN bM cu eB fL dW aV aX aI AM.aY ai dt bU bc bh aP aO AM.part br aQ cf cm cj cn cn.eS AM.dN bG cg dJ fW aV laid aJ bq cz
attribute [-simp] aj
attribute [local congr] dK
theorem oe (b : Bool) (x y z u v w : Int) : aW Tryz.prog b .neq 54 (.agg [.v (.int .i64 x), .v (.int .i64 y), .v (.int .i64 z)]) (.agg [.v (.int .i64 u), .v (.int .i64 v), .v (.int .i64 w)]) = some (.v (.bool (!((x == u) && ((y == v) && ((z == w) && true)))))) := by kernel_rfl
abbrev z3 : List PV := [.v (.int .i64 0), .v (.int .i64 0), .v (.int .i64 0)]
abbrev na (A B F : List PV) (p : List PV) (N : Nat) : List Blk := [⟨A, []⟩, ⟨B, []⟩, ⟨F, []⟩, ⟨p, []⟩, ⟨[.ptr false (N + 3) 0], []⟩]
theorem FL {s : St} {N T Lb : Nat} (hN : s.stk.length = N) (hT : s.tk.length = T) (hL : s.lp.length = Lb) (F : List PV) (es : List (List PV)) (a d e q1 q2 : Int) :
 H47 (.ptr false (N + 4) 0) (.ptr false N 0) (.ptr false (N + 1) 0) (s.app (na z4 z3 F (pcf es a d e q1 q2) N) [] []) = some (s.app (na z4 [.v (.int .i64 e), .v (.int .i64 q1), .v (.int .i64 q2)] F (pcf es a d e q1 q2) N) [] []) := by
 have hlen : (s.app (na z4 z3 F (pcf es a d e q1 q2) N) [] []).stk.length = N + 5 := by rw [cC, hN]; rfl
 have s1 := Dd hN (j := 0) (off := 0) (base := N + 5) (sz := 4) (bl := na z4 z3 F (pcf es a d e q1 q2) N) (x := ⟨z4, []⟩) (cs := z4) (tk := []) (lp := []) rfl (by omega) (by decide) rfl (by decide) rfl rfl; have s2 := Dd hN (j := 1) (off := 0) (base := N + 5) (sz := 3) (bl := na z4 z3 F (pcf es a d e q1 q2) N) (x := ⟨z3, []⟩) (cs := [.v (.int .i64 e), .v (.int .i64 q1), .v (.int .i64 q2)]) (tk := []) (lp := []) rfl (by omega) (aq 3) rfl (by decide) rfl rfl; have m1 : (na z4 z3 F (pcf es a d e q1 q2) N).modify 0 (fun y => ⟨laid (⟨z4, []⟩ : Blk).cs 0 z4, y.tk⟩) = na z4 z3 F (pcf es a d e q1 q2) N := rfl; have m2 : (na z4 z3 F (pcf es a d e q1 q2) N).modify 1 (fun y => ⟨laid (⟨z3, []⟩ : Blk).cs 0 [.v (.int .i64 e), .v (.int .i64 q1), .v (.int .i64 q2)], y.tk⟩) = na z4 [.v (.int .i64 e), .v (.int .i64 q1), .v (.int .i64 q2)] F (pcf es a d e q1 q2) N := rfl; rw [m1] at s1; rw [m2] at s2; unfold H47; rw [hlen]; simp only [na, pcf, z4, z3, bz] at s1 s2 ⊢; simp [hN, hT, hL, s1, s2, bq, cz]
theorem rY {l : List UInt8} (hl : l.length < 100000) (st : St) : E L (.func 20) [str l] st = some (.tup [lR (gm l).1, .agg (wk (gm l).2)], st) := by
 have e46 := FG (l := l) (by omega); unfold gm
 by_cases h0 : (kZ l).1 = 0
 · rw [if_pos h0]
   have hlen : l.length ≤ 8192 := by
    have := h0; unfold kZ at this; split at this
    · simp at this
    · omega
   obtain ⟨ts, hts⟩ : ∃ ts, fH l (1, 1) = .ok ts := by
    cases hL : fH l (1, 1) with
    | ok ts => exact ⟨ts, rfl⟩
    | err q => have := (hI hlen hL).2; rw [this] at h0; simp at h0
   have hlt := gY hlen hts; rw [hlt.1] at e46 ⊢; rw [hlt.2] at e46; obtain ⟨hr, hns, hn⟩ := EM hlen hts
   have hne : ts ≠ [] := by
    obtain ⟨t0, q, e, _⟩ := hr.shape
    rw [e]; simp
   have hp := (iX (ts := ts) (by omega)).1; have h1 := yj hr (m := 100000) (n := 10000) (by omega) (by omega) ⟨hne, [], rfl⟩ hp
   have hA : pcA ts ts = 0 := by simp [pcA]
   cases hq : jz ts with
   | ok g l' =>
    rw [hq] at h1; rw [xC]; obtain ⟨N, T, Lb, hN, hT, hL⟩ := lens3 st
    conv => lhs; rw [← ao st]
    have e48 := h1.2 (N + 3) (st.app (na z4 z3 z3 (pc ts ts 0) N) [] []) (by rw [cC, hN]; show N + 3 < N + 5; omega)
    have m1 : ∀ cs, (st.app (na z4 z3 z3 (pc ts ts 0) N) [] []).af false (N + 3) cs = st.app (na z4 z3 z3 cs N) [] [] := fun cs => by subst hN; exact jA st _ [] [] 3 cs
    rw [m1, m1] at e48; simp only [pc, pcf, na, z3, z4, hA, lR, Int.natCast_zero] at e46 e48 ⊢
    generalize aC ts = es at *
    generalize gL g.fa = rs at *
    generalize nms g.gls = gs at *
    generalize jx g.fe = fs at *
    generalize jB g.ths = hs at *
    simp [S20, oe, hN, hT, hL, e46, e48, AK, bq, cz, lN, sL, fi]
   | bad er q =>
    rw [hq] at h1; obtain ⟨a', d'', h1⟩ := h1; rw [xC]; obtain ⟨N, T, Lb, hN, hT, hL⟩ := lens3 st
    conv => lhs; rw [← ao st]
    have e48 := h1 (N + 3) (st.app (na z4 z3 z3 (pc ts ts 0) N) [] []) (by rw [cC, hN]; show N + 3 < N + 5; omega)
    have m1 : ∀ cs, (st.app (na z4 z3 z3 (pc ts ts 0) N) [] []).af false (N + 3) cs = st.app (na z4 z3 z3 cs N) [] [] := fun cs => by subst hN; exact jA st _ [] [] 3 cs
    rw [m1, m1] at e48; have e47 := FL hN hT hL z3 (aC ts) a' d'' er q.1 q.2; rw [← FK] at e47; have ez : (gL pg0.fa = [] ∧ nms pg0.gls = []) ∧ jx pg0.fe = [] ∧ jB pg0.ths = [] := ⟨⟨rfl, rfl⟩, rfl, rfl⟩; simp only [pc, pcf, na, z3, z4, hA, lR, ez, Int.natCast_zero] at e46 e47 e48 ⊢
    generalize aC ts = es at *
    simp [S20, oe, hN, hT, hL, e46, e47, e48, AK, bq, cz, lN, sL, fi]; exact ⟨rfl, rfl, rfl, rfl⟩
 · rw [if_neg h0]
   have h0' : ¬ (((kZ l).1 : Int) = 0) := by omega
   rw [xC]; obtain ⟨N, T, Lb, hN, hT, hL⟩ := lens3 st
   conv => lhs; rw [← ao st]
   have ez : (gL pg0.fa = [] ∧ nms pg0.gls = []) ∧ jx pg0.fe = [] ∧ jB pg0.ths = [] := ⟨⟨rfl, rfl⟩, rfl, rfl⟩
   generalize kZ l = f at *
   simp only [lR, ez]; simp [S20, oe, hN, hT, hL, e46, h0, h0', AK, bq, cz]; exact ⟨rfl, rfl, rfl, rfl⟩
end Go.Proofs.YtlhlijaondmccaaGreatDoor.S
namespace Go.Proofs.YtlhlijaondmccaaGreatDoor.S
open Go Go.AM Go.Proofs
attribute [local simp] cX cx bY bZ cy fq fv ec de dY db dZ dc fu cc im dS iq ic hO AM.ae aR aS aj bf aN aE AM.onG gb bW ef Ex.bn cond_true cond_false cT cS cR cQ cP cV cO cW cU ed dh di cw cC dR dX nE og cY mi mP lU oQ AM.du AM.cellsOf AM.an bX zl va beq_true cM ah ay bj bz bT decide_true decide_false bF bE bu bD bg aB az aU al vc xV xU cZ da sA ft aA bI ba bR
theorem vd {σ : Type} {b : List PV → St → Option (Ex × List PV × St)} {n : Nat} {P : Nat → σ → Prop} {vs : Nat → σ → List PV} {st : Nat → σ → St} {e : Nat}
 (step : ∀ i a, i < n → P i a → ∃ a', P (i + 1) a' ∧ b (vs i a) (st i a) = some (.normal, vs (i + 1) a', st (i + 1) a'))
 (stop : ∀ a, P n a → b (vs n a) (st n a) = some (.exit e, vs n a, st n a)) (a : σ) (h : P 0 a) : ∃ a', P n a' ∧ itE b (vs 0 a) (st 0 a) = some (.exit e, vs n a', st n a') := by
 have go : ∀ k i a, i + k = n → P i a → ∃ a', P n a' ∧ itE b (vs i a) (st i a) = some (.exit e, vs n a', st n a') := by
  intro k
  induction k with
  | zero =>
   intro i a hi ha
   obtain rfl : i = n := by omega
   exact ⟨a, ha, iS (stop a ha)⟩
  | succ k ih =>
   intro i a hi ha; obtain ⟨a1, h1, h2⟩ := step i a (by omega) ha; obtain ⟨a2, h3, h4⟩ := ih (i + 1) a1 (by omega) h1; exact ⟨a2, h3, by rw [cd h2, h4]⟩
 exact go n 0 a (by omega) h
theorem pO {α β : Type} (f : α → List β) (l : List α) (i : Nat) (h : i < l.length) : (l.take (i + 1)).flatMap f = (l.take i).flatMap f ++ f l[i] := by
 rw [List.take_succ_eq_append_getElem h, List.flatMap_append]; simp
theorem zm {α β : Type} (f : α → List β) (l : List α) (i : Nat) (h : i < l.length) : ((l.take i).flatMap f).length + (f l[i]).length ≤ (l.flatMap f).length := by
 rw [← au, ← pO f l i h]
 have e : l.flatMap f = (l.take (i + 1)).flatMap f ++ (l.drop (i + 1)).flatMap f := by rw [← List.flatMap_append, List.take_append_drop]
 rw [e, au]; omega
theorem EB {n i : Nat} (h : i < n) : dD (i : Int) n = true := by simp [dD]; omega
def nmT (n : Nm) : List ByteArray := [n.name, eV n.ty.kd, n.ty.rc]
def kS (l : List Nm) : List ByteArray := eV l.length :: l.flatMap nmT
theorem jm (l : List Nm) : (kS l).length = 1 + 3 * l.length := by
 have : (l.flatMap nmT).length = 3 * l.length := by
  induction l with
  | nil => rfl
  | cons x l ih => simp only [List.flatMap_cons, au, ih, ah]; simp [nmT]; omega
 simp only [kS, ah, this]; omega
theorem vm (l : List Nm) (hl : l.length ≤ 100000) (st : St) : E L (.func 52) [.sl (nms l) .dead] st = some (.sl (strs (kS l)) .dead, st) := by
 obtain ⟨s, rfl⟩ : ∃ s : St, st = s.app [] [] [] := ⟨st, (ao st).symm⟩
 have hT := jm l
 obtain ⟨⟨c, tk⟩, ho, hit⟩ := vd (b := S52.b0 (E L) itE s.stk.length s.lp.length) (n := l.length) (e := 0) (P := fun i a => Own s a.2 a.1 (strs (eV l.length :: (l.take i).flatMap nmT)).length 1)
  (vs := fun i a => [.sl (strs (eV l.length :: (l.take i).flatMap nmT)) a.1, .sl (nms l) .dead, int l.length, int i]) (st := fun i a => s.app [] a.2 [])
  (fun i a hi ho => by
   obtain ⟨c, tk⟩ := a
   have hlt : (i : Int) < (l.length : Int) := by omega
   have g1 : (nms l)[i]? = some (nmC l[i]) := by simp [nms, hi]
   have w1 : IntKind.i64.wrap ((i : Int) + 1) = ((i + 1 : Nat) : Int) := IntWalk.i64_in _ (by omega); have hle := zm nmT l i hi
   have hlT : (l.flatMap nmT).length = 3 * l.length := by simp only [kS, ah] at hT; omega
   obtain ⟨c1, tk1, e1, o1⟩ := dV (ys := strs (nmT l[i])) (bytes := 16) ho (by simp only [eG, ah, bP]; omega) (dj _) (dj _) (by decide) (by decide); rw [fJ, al, ← pO nmT l i hi] at e1 o1; refine ⟨(c1, tk1), o1, ?_⟩; have el : (nmC l[i]).length = 5 := rfl; have ew : AM.part true 5 0 (nmC l[i]) = some (.agg (nmC l[i])) := rfl; have eo : aJ (nmC l[i]) = true := rfl; have p0 : AM.part false 1 0 (nmC l[i]) = some (gN (l[i]).name) := rfl; have p1 : AM.part false 1 1 (nmC l[i]) = some (int (l[i]).ty.kd) := rfl; have p2 : AM.part false 1 2 (nmC l[i]) = some (gN (l[i]).ty.rc) := rfl; have hb : aF 1 [.v (.string ⟨#[]⟩)] 3 [(0, gN (l[i]).name), (1, gN (eV (l[i]).ty.kd)), (2, gN (l[i]).ty.rc)] = some (.sl (strs (nmT l[i])) .full) := rfl; have rr := EB hi
   generalize eV l.length :: (l.take (i + 1)).flatMap nmT = A at *
   generalize eV l.length :: (l.take i).flatMap nmT = B at *
   simp [S52.b0, hlt, G8, fg, rr, fD, gg, gh, g1, el, ew, eo, iw, p0, p1, p2, mR, hb, e1, w1, o1.sfc])
  (fun a ho => by
   obtain ⟨c, tk⟩ := a
   simp [S52.b0, Own.sfc ho]) (.full, []) (Own.full ..)
 simp only [ba, List.flatMap_nil, List.take_length] at hit; rw [show ((0 : Nat) : Int) = 0 from rfl] at hit; rw [F1]; have hb : aF 1 [.v (.string ⟨#[]⟩)] 1 [(0, gN (eV l.length))] = some (.sl (strs [eV l.length]) .full) := rfl; simp [S52, Cp, fg, mR, hb, hit, kS]
def Rec.tx (r : Rec) : List ByteArray := r.name :: kS r.fields
def Fu.tx (r : Fu) : List ByteArray := r.name :: (kS r.params ++ iz r.body)
def Th.tx (r : Th) : List ByteArray := iz r.body
def Pg.hd (p : Pg) : List ByteArray := [eV p.fa.length, eV p.fe.length, eV p.ths.length]
def Pg.tx (p : Pg) : List ByteArray := p.hd ++ p.fa.flatMap Rec.tx ++ kS p.gls ++ p.fe.flatMap Fu.tx ++ p.ths.flatMap Th.tx
theorem lT {α β : Type} (f : α → List β) (k : Nat) : ∀ (l : List α), (∀ x ∈ l, (f x).length ≤ k) → (l.flatMap f).length ≤ l.length * k
 | [], _ => by simp
 | x :: l, h => by
  have h1 := h x bx
  have h2 := lT f k l fun y hy => h y (bV _ hy)
  simp only [List.flatMap_cons, au, ah, Nat.add_mul]; omega
theorem EY (s : St) (pb : Blk) (hpb : pb.cs.all (sf true (s.stk.length + 1) 4) = true) (l : List Rec) (hb : ∀ x ∈ l, x.fields.length ≤ 100000) (hl : l.length ≤ 100000) (A : List ByteArray) (hA : A.length ≤ 1000) (c0 : Cap) (tk0 : List (Nat × Nat)) (h0 : Own s tk0 c0 (strs A).length 1) :
 ∃ c tk, Own s tk c (strs (A ++ l.flatMap Rec.tx)).length 1 ∧ itE (S23.b0 (E L) itE s.stk.length s.lp.length) [.ptr false s.stk.length 0, .sl (strs A) c0, .sl (gL l) .dead, int l.length, int 0] (s.app [pb] tk0 []) =
  some (.exit 0, [.ptr false s.stk.length 0, .sl (strs (A ++ l.flatMap Rec.tx)) c, .sl (gL l) .dead, int l.length, int l.length], s.app [pb] tk []) := by
 have hT : (l.flatMap Rec.tx).length ≤ l.length * 300002 := lT _ _ _ fun x hx => by have := hb x hx; have := jm x.fields; simp only [Rec.tx, ah]; omega
 obtain ⟨⟨c, tk⟩, ho, hit⟩ := vd (b := S23.b0 (E L) itE s.stk.length s.lp.length) (n := l.length) (e := 0) (P := fun i a => Own s a.2 a.1 (strs (A ++ (l.take i).flatMap Rec.tx)).length 1)
  (vs := fun i a => [.ptr false s.stk.length 0, .sl (strs (A ++ (l.take i).flatMap Rec.tx)) a.1, .sl (gL l) .dead, int l.length, int i]) (st := fun i a => s.app [pb] a.2 [])
  (fun i a hi ho => by
   obtain ⟨c, tk⟩ := a
   have hlt : (i : Int) < (l.length : Int) := by omega
   have g1 : (gL l)[i]? = some (recC l[i]) := by simp [gL, hi]
   have w1 : IntKind.i64.wrap ((i : Int) + 1) = ((i + 1 : Nat) : Int) := IntWalk.i64_in _ (by omega); have hle := zm Rec.tx l i hi
   have hlx : (Rec.tx l[i]).length = 1 + (kS (l[i]).fields).length := by simp only [Rec.tx, ah]; omega
   obtain ⟨c1, tk1, e1, o1⟩ := dV (ys := strs [(l[i]).name]) (bytes := 16) ho (by simp only [eG, au, ah, ay, bP]; omega) (dj _) (dj _) (by decide) (by decide); rw [fJ] at e1 o1; obtain ⟨c2, tk2, e2, o2⟩ := dV (ys := strs (kS (l[i]).fields)) (bytes := 16) o1 (by simp only [eG, au, ah, ay, bP]; omega) (dj _) (dj _) (by decide) (by decide)
   have ex : A ++ (l.take i).flatMap Rec.tx ++ [(l[i]).name] ++ kS (l[i]).fields = A ++ (l.take (i + 1)).flatMap Rec.tx := by rw [pO _ _ _ hi]; simp [Rec.tx]
   rw [fJ, ex] at e2 o2; refine ⟨(c2, tk2), o2, ?_⟩; have el : (recC l[i]).length = 4 := rfl; have ew : AM.part true 4 0 (recC l[i]) = some (.agg (recC l[i])) := rfl; have eo : aJ (recC l[i]) = true := rfl; have p0 : AM.part false 1 0 (recC l[i]) = some (gN (l[i]).name) := rfl; have p1 : AM.part false 1 1 (recC l[i]) = some (.sl (nms (l[i]).fields) .dead) := rfl; have hbs : aF 1 [.v (.string ⟨#[]⟩)] 1 [(0, gN (l[i]).name)] = some (.sl (strs [(l[i]).name]) .full) := rfl; have rr := EB hi; have nm := vm (l[i]).fields (hb _ (List.getElem_mem hi))
   generalize A ++ (l.take (i + 1)).flatMap Rec.tx = B at *
   generalize A ++ (l.take i).flatMap Rec.tx ++ [(l[i]).name] = D at *
   generalize A ++ (l.take i).flatMap Rec.tx = B' at *
   simp [S23.b0, hlt, G7, rr, fD, gg, gh, g1, el, ew, eo, iw, p0, p1, nm, hbs, e1, e2, w1, o2.sfc, hpb])
  (fun a ho => by
   obtain ⟨c, tk⟩ := a
   simp [S23.b0, Own.sfc ho, hpb]) (c0, tk0) (by simpa using h0)
 simp only [ba, List.flatMap_nil, List.take_length, List.append_nil] at hit ho; rw [show ((0 : Nat) : Int) = 0 from rfl] at hit; exact ⟨c, tk, ho, hit⟩
theorem Ew (s : St) (pb : Blk) (hpb : pb.cs.all (sf true (s.stk.length + 1) 4) = true) (l : List Fu) (hb : ∀ x ∈ l, x.params.length ≤ 100000) (hb2 : ∀ x ∈ l, fj x.body ≤ 100000) (hl : l.length ≤ 100000) (A : List ByteArray) (hA : A.length ≤ 100000000000) (c0 : Cap) (tk0 : List (Nat × Nat)) (h0 : Own s tk0 c0 (strs A).length 1) :
 ∃ c tk, Own s tk c (strs (A ++ l.flatMap Fu.tx)).length 1 ∧ itE (S23.b1 (E L) itE s.stk.length s.lp.length) [.ptr false s.stk.length 0, .sl (strs A) c0, .sl (jx l) .dead, int l.length, int 0] (s.app [pb] tk0 []) =
  some (.exit 2, [.ptr false s.stk.length 0, .sl (strs (A ++ l.flatMap Fu.tx)) c, .sl (jx l) .dead, int l.length, int l.length], s.app [pb] tk []) := by
 have hT : (l.flatMap Fu.tx).length ≤ l.length * 5000000 := lT _ _ _ fun x hx => by
  have := hb x hx; have := hb2 x hx; have := jm x.params; have := iC x.body; have := nN x.body
  simp only [Fu.tx, ah, au]; omega
 obtain ⟨⟨c, tk⟩, ho, hit⟩ := vd (b := S23.b1 (E L) itE s.stk.length s.lp.length) (n := l.length) (e := 2) (P := fun i a => Own s a.2 a.1 (strs (A ++ (l.take i).flatMap Fu.tx)).length 1)
  (vs := fun i a => [.ptr false s.stk.length 0, .sl (strs (A ++ (l.take i).flatMap Fu.tx)) a.1, .sl (jx l) .dead, int l.length, int i]) (st := fun i a => s.app [pb] a.2 [])
  (fun i a hi ho => by
   obtain ⟨c, tk⟩ := a
   have hlt : (i : Int) < (l.length : Int) := by omega
   have g1 : (jx l)[i]? = some (fuE l[i]) := by simp [jx, hi]
   have w1 : IntKind.i64.wrap ((i : Int) + 1) = ((i + 1 : Nat) : Int) := IntWalk.i64_in _ (by omega); have hle := zm Fu.tx l i hi
   have hlx : (Fu.tx l[i]).length = 1 + (kS (l[i]).params).length + (iz (l[i]).body).length := by simp only [Fu.tx, ah, au]; omega
   obtain ⟨c1, tk1, e1, o1⟩ := dV (ys := strs [(l[i]).name]) (bytes := 16) ho (by simp only [eG, au, ah, ay, bP]; omega) (dj _) (dj _) (by decide) (by decide); rw [fJ] at e1 o1; obtain ⟨c2, tk2, e2, o2⟩ := dV (ys := strs (kS (l[i]).params)) (bytes := 16) o1 (by simp only [eG, au, ah, ay, bP]; omega) (dj _) (dj _) (by decide) (by decide); rw [fJ] at e2 o2; obtain ⟨c3, tk3, e3, o3⟩ := dV (ys := strs (iz (l[i]).body)) (bytes := 16) o2 (by simp only [eG, au, ah, ay, bP]; omega) (dj _) (dj _) (by decide) (by decide)
   have ex : A ++ (l.take i).flatMap Fu.tx ++ [(l[i]).name] ++ kS (l[i]).params ++ iz (l[i]).body = A ++ (l.take (i + 1)).flatMap Fu.tx := by rw [pO _ _ _ hi]; simp [Fu.tx]
   rw [fJ, ex] at e3 o3; refine ⟨(c3, tk3), o3, ?_⟩; have el : (fuE l[i]).length = 5 := rfl; have ew : AM.part true 5 0 (fuE l[i]) = some (.agg (fuE l[i])) := rfl; have eo : aJ (fuE l[i]) = true := rfl; have p0 : AM.part false 1 0 (fuE l[i]) = some (gN (l[i]).name) := rfl; have p1 : AM.part false 1 1 (fuE l[i]) = some (.sl (nms (l[i]).params) .dead) := rfl; have p2 : AM.part false 1 2 (fuE l[i]) = some (.sl (dQ (l[i]).body) .dead) := rfl; have hbs : aF 1 [.v (.string ⟨#[]⟩)] 1 [(0, gN (l[i]).name)] = some (.sl (strs [(l[i]).name]) .full) := rfl; have rr := EB hi; have nm := vm (l[i]).params (hb _ (List.getElem_mem hi)); have rv := CY _ (l[i]).body (aq _) (by have := hb2 _ (List.getElem_mem hi); omega)
   generalize A ++ (l.take (i + 1)).flatMap Fu.tx = B at *
   generalize A ++ (l.take i).flatMap Fu.tx ++ [(l[i]).name] ++ kS (l[i]).params = D2 at *
   generalize A ++ (l.take i).flatMap Fu.tx ++ [(l[i]).name] = D at *
   generalize A ++ (l.take i).flatMap Fu.tx = B' at *
   simp [S23.b1, hlt, G9, rr, fD, gg, gh, g1, el, ew, eo, iw, p0, p1, p2, nm, rv, hbs, e1, e2, e3, w1, o3.sfc, hpb])
  (fun a ho => by
   obtain ⟨c, tk⟩ := a
   simp [S23.b1, Own.sfc ho, hpb]) (c0, tk0) (by simpa using h0)
 simp only [ba, List.flatMap_nil, List.take_length, List.append_nil] at hit ho; rw [show ((0 : Nat) : Int) = 0 from rfl] at hit; exact ⟨c, tk, ho, hit⟩
theorem Fa (s : St) (pb : Blk) (hpb : pb.cs.all (sf true (s.stk.length + 1) 4) = true) (l : List Th) (hb2 : ∀ x ∈ l, fj x.body ≤ 100000) (hl : l.length ≤ 100000) (A : List ByteArray) (hA : A.length ≤ 4000000000000) (c0 : Cap) (tk0 : List (Nat × Nat)) (h0 : Own s tk0 c0 (strs A).length 1) :
 ∃ c tk, Own s tk c (strs (A ++ l.flatMap Th.tx)).length 1 ∧ itE (S23.b2 (E L) itE s.stk.length s.lp.length) [.sl (strs A) c0, .sl (jB l) .dead, int l.length, int 0] (s.app [pb] tk0 []) =
  some (.exit 4, [.sl (strs (A ++ l.flatMap Th.tx)) c, .sl (jB l) .dead, int l.length, int l.length], s.app [pb] tk []) := by
 have hT : (l.flatMap Th.tx).length ≤ l.length * 5000000 := lT _ _ _ fun x hx => by
  have := hb2 x hx; have := iC x.body; have := nN x.body
  simp only [Th.tx]; omega
 obtain ⟨⟨c, tk⟩, ho, hit⟩ := vd (b := S23.b2 (E L) itE s.stk.length s.lp.length) (n := l.length) (e := 4) (P := fun i a => Own s a.2 a.1 (strs (A ++ (l.take i).flatMap Th.tx)).length 1)
  (vs := fun i a => [.sl (strs (A ++ (l.take i).flatMap Th.tx)) a.1, .sl (jB l) .dead, int l.length, int i]) (st := fun i a => s.app [pb] a.2 [])
  (fun i a hi ho => by
   obtain ⟨c, tk⟩ := a
   have hlt : (i : Int) < (l.length : Int) := by omega
   have g1 : (jB l)[i]? = some (thC l[i]) := by simp [jB, hi]
   have w1 : IntKind.i64.wrap ((i : Int) + 1) = ((i + 1 : Nat) : Int) := IntWalk.i64_in _ (by omega); have hle := zm Th.tx l i hi; have hlx : (Th.tx l[i]).length = (iz (l[i]).body).length := rfl; obtain ⟨c3, tk3, e3, o3⟩ := dV (ys := strs (iz (l[i]).body)) (bytes := 16) ho (by simp only [eG, au, ah, ay, bP]; omega) (dj _) (dj _) (by decide) (by decide)
   have ex : A ++ (l.take i).flatMap Th.tx ++ iz (l[i]).body = A ++ (l.take (i + 1)).flatMap Th.tx := by rw [pO _ _ _ hi]; simp [Th.tx]
   rw [fJ, ex] at e3 o3; refine ⟨(c3, tk3), o3, ?_⟩; have el : (thC l[i]).length = 3 := rfl; have ew : AM.part true 3 0 (thC l[i]) = some (.agg (thC l[i])) := rfl; have eo : aJ (thC l[i]) = true := rfl; have p2 : AM.part false 1 0 (thC l[i]) = some (.sl (dQ (l[i]).body) .dead) := rfl; have rr := EB hi; have rv := CY _ (l[i]).body (aq _) (by have := hb2 _ (List.getElem_mem hi); omega)
   generalize A ++ (l.take (i + 1)).flatMap Th.tx = B at *
   generalize A ++ (l.take i).flatMap Th.tx = B' at *
   simp [S23.b2, hlt, Fl, rr, fD, gg, gh, g1, el, ew, eo, iw, p2, rv, e3, w1, o3.sfc, hpb])
  (fun a ho => by
   obtain ⟨c, tk⟩ := a
   simp [S23.b2, Own.sfc ho, hpb]) (c0, tk0) (by simpa using h0)
 simp only [ba, List.flatMap_nil, List.take_length, List.append_nil] at hit ho; rw [show ((0 : Nat) : Int) = 0 from rfl] at hit; exact ⟨c, tk, ho, hit⟩
structure Pg.small (p : Pg) : Prop where
 rl : p.fa.length ≤ 100000
 rr : ∀ x ∈ p.fa, x.fields.length ≤ 100000
 gl : p.gls.length ≤ 100000
 fl : p.fe.length ≤ 100000
 fp : ∀ x ∈ p.fe, x.params.length ≤ 100000
 fb : ∀ x ∈ p.fe, fj x.body ≤ 100000
 tl : p.ths.length ≤ 100000
 tb : ∀ x ∈ p.ths, fj x.body ≤ 100000
theorem wV (p : Pg) (h : p.small) (st : St) : E L (.func 23) [lR p] st = some (.sl (strs p.tx) .dead, st) := by
 obtain ⟨s, rfl⟩ : ∃ s : St, st = s.app [] [] [] := ⟨st, (ao st).symm⟩
 have hpb : (⟨(pgC p .dead .dead .dead .dead), []⟩ : Blk).cs.all (sf true (s.stk.length + 1) 4) = true := rfl
 have hT1 : (p.fa.flatMap Rec.tx).length ≤ p.fa.length * 300002 := lT _ _ _ fun x hx => by have := h.rr x hx; have := jm x.fields; simp only [Rec.tx, ah]; omega
 have hT2 : (p.fe.flatMap Fu.tx).length ≤ p.fe.length * 5000000 := lT _ _ _ fun x hx => by
  have := h.fp x hx; have := h.fb x hx; have := jm x.params; have := iC x.body; have := nN x.body
  simp only [Fu.tx, ah, au]; omega
 have hl1 := h.rl; have hl2 := h.fl; have hl3 := h.gl; have hgl := jm p.gls; obtain ⟨c1, k1, o1, e1⟩ := EY s ⟨(pgC p .dead .dead .dead .dead), []⟩ hpb p.fa h.rr h.rl p.hd (by show 3 ≤ 1000; decide) .full [] (Own.full ..); obtain ⟨c2, k2, e2, o2⟩ := dV (ys := strs (kS p.gls)) (bytes := 16) o1 (by simp only [eG, au, ah, ay, bP]; have : p.hd.length = 3 := rfl; omega) (dj _) (dj _) (by decide) (by decide); rw [fJ] at e2 o2; obtain ⟨c3, k3, o3, e3⟩ := Ew s ⟨(pgC p .dead .dead .dead .dead), []⟩ hpb p.fe h.fp h.fb h.fl _ (by simp only [au]; have : p.hd.length = 3 := rfl; omega) c2 k2 o2; obtain ⟨c4, k4, o4, e4⟩ := Fa s ⟨(pgC p .dead .dead .dead .dead), []⟩ hpb p.ths h.tb h.tl _ (by simp only [au]; have : p.hd.length = 3 := rfl; omega) c3 k3 o3; have hbs : aF 1 [.v (.string ⟨#[]⟩)] 3 [(0, gN (eV p.fa.length)), (1, gN (eV p.fe.length)), (2, gN (eV p.ths.length))] = some (.sl (strs p.hd) .full) := rfl; have p0 : AM.part false 1 0 (pgC p .dead .dead .dead .dead) = some (.sl (gL p.fa) .dead) := rfl; have p1 : AM.part false 1 1 (pgC p .dead .dead .dead .dead) = some (.sl (nms p.gls) .dead) := rfl; have p2 : AM.part false 1 2 (pgC p .dead .dead .dead .dead) = some (.sl (jx p.fe) .dead) := rfl; have p3 : AM.part false 1 3 (pgC p .dead .dead .dead .dead) = some (.sl (jB p.ths) .dead) := rfl; have nm := vm p.gls (by have := h.gl; omega); rw [FY, show Pg.tx p = p.hd ++ p.fa.flatMap Rec.tx ++ kS p.gls ++ p.fe.flatMap Fu.tx ++ p.ths.flatMap Th.tx from rfl]
 generalize p.hd ++ p.fa.flatMap Rec.tx ++ kS p.gls ++ p.fe.flatMap Fu.tx ++ p.ths.flatMap Th.tx = A4 at *
 generalize p.hd ++ p.fa.flatMap Rec.tx ++ kS p.gls ++ p.fe.flatMap Fu.tx = A3 at *
 generalize p.hd ++ p.fa.flatMap Rec.tx ++ kS p.gls = A2 at *
 generalize p.hd ++ p.fa.flatMap Rec.tx = A1 at *
 simp [S23, fD, gg, gh, fg, p0, p1, p2, p3, Co, Cr, ya, mR, hbs, e1, nm, e2, e3, e4]
end Go.Proofs.YtlhlijaondmccaaGreatDoor.S
namespace Go.Proofs.YtlhlijaondmccaaGreatDoor.S
open Go Go.AM Go.Proofs
attribute [local simp] cX cx bY bZ cy fq fv ec de dY db dZ dc fu cc im dS iq ic hO AM.ae aR aS bf aN aE AM.onG gb bW ef Ex.bn cond_true cond_false cT cS cR cQ cP cV cO cW cU ed dh di cw cY AM.du AM.cellsOf AM.an bX beq_true cM ah ay bj bz bT decide_true decide_false bF bE bu bD bg aB az aU al cZ da ft aA bI ba bR cC dR dX cJ eE eD set_set eI dy fT dz cI bK dx dw cH dv eH eJ fM fN bM cu eB fL dW aV aX aI AM.aY ai dt bU bc bh aP aO AM.part br aQ cf cm cj cn cn.eS AM.dN bG cg dJ fW aV laid aJ bq cz
attribute [-simp] aj
attribute [local congr] dK
abbrev cA : List UInt8 := [116, 104, 114, 101, 97, 100, 32, 123, 32, 112, 114, 105, 110, 116, 32, 49, 32, 43, 32, 50, 32, 42, 32, 51, 59, 32, 125]
abbrev cB : List UInt8 := [116, 104, 114, 101, 97, 100, 32, 123, 32, 112, 114, 105, 110, 116, 32, 59, 32, 125]
def Gm : PV → List (List PV)
 | .sl es _ => es
 | _ => []
def SA : List PV := ((gm cA).1.ths.flatMap fun t => dQ t.body).flatten
def KA (i : Nat) : List PV := (Gm (SA.getD 49 .u)).getD i []
theorem pA : (lR (gm cA).1, (gm cA).2) = (.agg [.sl [] .dead, .sl [] .dead, .sl [] .dead, .sl [[.sl [SA] .dead, int 1, int 1]] .dead], (0, 0, 0)) := by kernel_rfl
theorem pB : (lR (gm cB).1, (gm cB).2) = (.agg [.sl [] .dead, .sl [] .dead, .sl [] .dead, .sl [] .dead], (4, 1, 16)) := by kernel_rfl
theorem sA0 : SA[0]? = some (int 5) := by kernel_rfl
theorem HN : SA[49]? = some (.sl [KA 0, KA 1] .dead) := by kernel_rfl
theorem sAl : SA.length = 58 := by kernel_rfl
theorem kAl : (KA 1).length = 9 := by kernel_rfl
theorem kA1 : (KA 1)[1]? = some (int 2) := by kernel_rfl
theorem Eu (b : Bool) (x y z u v w : Int) : aW Tryz.prog b .eql 54 (.agg [.v (.int .i64 x), .v (.int .i64 y), .v (.int .i64 z)]) (.agg [.v (.int .i64 u), .v (.int .i64 v), .v (.int .i64 w)]) = some (.v (.bool ((x == u) && ((y == v) && ((z == w) && true))))) := by kernel_rfl
theorem rX (st : St) : E L (.func 19) [] st = some (.v (.bool true), st) := by
 rw [FW]; obtain ⟨N, T, Lb, hN, hT, hL⟩ := lens3 st
 conv => lhs; rw [← ao (st)]
 have e1 : ∀ X, E L (.func 20) [str cA] X = _ := rY (by decide)
 have e2 : ∀ X, E L (.func 20) [str cB] X = _ := rY (by decide)
 have a1 := congrArg Prod.fst pA; have a2 := congrArg Prod.snd pA; have b1 := congrArg Prod.fst pB; have b2 := congrArg Prod.snd pB; simp only at a1 a2 b1 b2; rw [a1, a2] at e1; rw [b1, b2] at e2; clear a1 a2 b1 b2; have s0 := sA0; have s49 := HN; have k1 := kA1; have sl := sAl; have kl := kAl
 generalize SA = s at *
 generalize KA 0 = k0 at *
 generalize KA 1 = k1' at *
 simp only [wk, aa, Int.natCast_zero] at e1 e2
 have s0' : ∀ h : 0 < s.length, s[0] = int 5 := fun h => (List.getElem_eq_iff h).2 s0
 have s49' : ∀ h : 49 < s.length, s[49] = .sl [k0, k1'] .dead := fun h => (List.getElem_eq_iff h).2 s49
 have k1q : ∀ h : 1 < k1'.length, k1'[1] = int 2 := fun h => (List.getElem_eq_iff h).2 k1
 simp [S19, s0', s49', k1q, Eu, e1, e2, s0, s49, k1, sl, kl, ya, Cs, yb, Fl, Fm, Cg, bq, cz, AM.part, dD]
end Go.Proofs.YtlhlijaondmccaaGreatDoor.S
namespace Go.Proofs.YtlhlijaondmccaaGreatDoor.S
open Go Go.AM Go.Proofs
abbrev Bq (l l' : List Tok) : Prop := l.map Tok.bare = l'.map Tok.bare
abbrev Tq (t u : Tok) : Prop := t.bare = u.bare
theorem Tq.k {t u : Tok} (h : Tq t u) : t.kind = u.kind := congrArg (fun x => x.1) h
theorem Tq.t {t u : Tok} (h : Tq t u) : t.text = u.text := congrArg (fun x => x.2.1) h
theorem Tq.m {t u : Tok} (h : Tq t u) : t.n = u.n := congrArg (fun x => x.2.2) h
theorem Bq.hd {l l' : List Tok} (h : Bq l l') : Tq (hd l) (hd l') := by
 cases l with
 | nil => cases l' with
  | nil => rfl
  | cons a l' => exact absurd (congrArg fQ h) (by simp)
 | cons a l => cases l' with
  | nil => exact absurd (congrArg fQ h) (by simp)
  | cons a' l' => simp only [Bq, bc, List.cons.injEq] at h; exact h.1
theorem Bq.tail {l l' : List Tok} (h : Bq l l') : Bq l.tail l'.tail := by
 cases l with
 | nil => cases l' with
  | nil => rfl
  | cons a l' => exact absurd (congrArg fQ h) (by simp)
 | cons a l => cases l' with
  | nil => exact absurd (congrArg fQ h) (by simp)
  | cons a' l' => simp only [Bq, bc, List.cons.injEq] at h; exact h.2
theorem Bq.isT {l l' : List Tok} (h : Bq l l') (s : List UInt8) : isT l s = isT l' s := by unfold S.isT; rw [h.hd.k, h.hd.t]
theorem Bq.next {l l' : List Tok} (h : Bq l l') : Bq (dp l) (dp l') := by
 unfold dp; rw [h.hd.k]; split
 · exact h
 · exact h.tail
inductive Pq {α : Type} (R : α → α → Prop) : Option (PR α) → Option (PR α) → Prop
 | none : Pq R none none
 | bad (e : Nat) (q q' : Nat × Nat) (he : e ≠ 0 := by decide) : Pq R (some (.bad e q)) (some (.bad e q'))
 | ok {a b : α} {l l' : List Tok} (h : R a b) (h' : Bq l l') : Pq R (some (.ok a l)) (some (.ok b l'))
theorem Pq.pb {α β : Type} {R : α → α → Prop} {T : β → β → Prop} {x y : Option (PR α)} (h : Pq R x y) {K K' : α → List Tok → Option (PR β)}
 (hk : ∀ a b l l', R a b → Bq l l' → Pq T (K a l) (K' b l')) : Pq T (S.pb x K) (S.pb y K') := by
 cases h with
 | none => exact .none
 | bad e q q' he => exact .bad e q q' he
 | ok h h' => exact hk _ _ _ _ h h'
theorem Pq.ite {α : Type} {R : α → α → Prop} {x y x' y' : Option (PR α)} {c c' : Prop} [Decidable c] [Decidable c'] (hc : c ↔ c') (h : Pq R x y) (h' : Pq R x' y') : Pq R (if c then x else x') (if c' then y else y') := by
 by_cases h0 : c
 · rw [if_pos h0, if_pos (hc.1 h0)]; exact h
 · rw [if_neg h0, if_neg fun e => h0 (hc.2 e)]; exact h'
theorem Pq.it {α : Type} {R : α → α → Prop} {x y x' y' : Option (PR α)} {l l' : List Tok} (hl : Bq l l') (s : List UInt8) (h : Pq R x y) (h' : Pq R x' y') : Pq R (if isT l s then x else x') (if isT l' s then y else y') := .ite (by rw [hl.isT]) h h'
theorem Pq.down {α : Type} {R : α → α → Prop} {x y : Option (PR α)} {d : Nat} {t u : Tok} (h : Pq R x y) : Pq R (nv d t x) (nv d u y) := .ite Iff.rfl (.bad ..) h
theorem jy (k : Nat) {l l' : List Tok} (h : Bq l l') : Pq Tq (some (eg k l)) (some (eg k l')) := by
 unfold eg; rw [h.hd.k]; split
 · exact .ok h.hd h.next
 · exact .bad ..
theorem iI (s : List UInt8) {l l' : List Tok} (h : Bq l l') : Pq Tq (some (dm s l)) (some (dm s l')) := by
 unfold dm; rw [h.isT]; split
 · exact .ok h.hd h.tail
 · exact .bad ..
theorem Ht {l l' : List Tok} (h : Bq l l') : Pq Eq (some (rK l)) (some (rK l')) := by
 unfold rK; simp only [h.isT]; split
 · exact .ok rfl h.tail
 split
 · exact .ok rfl h.tail
 split
 · exact .ok rfl h.tail
 have := jy 1 h
 generalize eg 1 l = x at *
 generalize eg 1 l' = y at *
 cases this with
 | bad e q q' he => exact .bad _ _ _ he
 | ok h1 h2 => exact .ok (by simp only [h1.t]) h2
abbrev Nq (a b : Nm) : Prop := nmT a = nmT b
theorem vl {l l' : List Tok} (h : Bq l l') : Pq Nq (kR l) (kR l') :=
 (jy 1 h).pb fun t u l1 l1' ht h1 => (iI _ h1).pb fun _ _ l2 l2' _ h2 => (Ht h2).pb fun ty ty' l3 l3' hty h3 => .ok (by subst hty; simp only [Nq, nmT, ht.t]) h3
abbrev XqT (a b : X) : Prop := a.text = b.text
theorem tL {t u : Tok} (op : Int) {n n' kd kd' : Int} {rc rc' name name' : List UInt8} (h1 : n = n') (h2 : kd = kd') (h3 : rc = rc') (h4 : name = name') : XqT (atX t op n kd rc name) (atX u op n' kd' rc' name') := by
 subst h1 h2 h3 h4; simp only [XqT, X.rV]; rfl
theorem X.Dj {op bin n kd : Int} {rc name : ByteArray} {ks ks' : List X} {p p' : Int × Int} (h : eP ks = eP ks') (hl : ks.length = ks'.length) : XqT ⟨op, bin, n, kd, rc, name, ks, p.1, p.2⟩ ⟨op, bin, n, kd, rc, name, ks', p'.1, p'.2⟩ := by
 rw [XqT, X.rV, X.rV]; exact (congr (congrArg (fun (a : Nat) (b : List ByteArray) => [⟨#[101, 120, 112, 114]⟩, eV op, eV bin, eV (w64 n), eV kd, rc, name, eV a] ++ b) hl) h :)
theorem Gz {t u : Tok} (lv : Nat) (h : Tq t u) : iB lv t = iB lv u := by unfold iB; rw [h.k, h.t]
theorem Fe {t u : Tok} (h : Tq t u) : gy t = gy u := by unfold gy; rw [h.k, h.t]
theorem B5 : ∀ n : Nat, (∀ d {l l'}, Bq l l' → Pq XqT (jt n d l) (jt n d l')) ∧ (∀ d {l l'}, Bq l l' → Pq XqT (gf n d l) (gf n d l')) ∧
 (∀ lv d {l l'}, Bq l l' → Pq XqT (dT n lv d l) (dT n lv d l')) ∧ (∀ lv d {e e' l l'}, XqT e e' → Bq l l' → Pq XqT (iO n lv d e l) (iO n lv d e' l'))
 | 0 => by
  refine ⟨fun d l l' h => ?_, fun d l l' h => ?_, fun lv d l l' h => ?_, fun lv d e e' l l' _ h => ?_⟩
  · rw [jt, jt]; exact .none
  · rw [gf, gf]; exact .none
  · rw [dT, dT]; exact .none
  · rw [iO, iO]; exact .none
 | n + 1 => by
  obtain ⟨hA, hP, hC, hR⟩ := B5 n; refine ⟨fun d l l' h => ?_, fun d l l' h => ?_, fun lv d l l' h => ?_, fun lv d e e' l l' he h => ?_⟩
  · rw [jt, jt]
    have k := h.hd.k; have t := h.hd.t; have m := h.hd.m; refine .ite (by rw [k]) (.ok (tL _ (by rw [m]) rfl rfl rfl) h.next) ?_; refine .ite (by rw [k]) (.ok (tL _ (by rw [m]) rfl rfl rfl) h.next) ?_; refine .ite (by rw [k]) (.ok (tL _ rfl rfl rfl (by rw [t])) h.next) ?_; refine .ite (by rw [k, t]) ?_ ?_
    · have := jy 3 h.next
      generalize eg 3 (dp l) = x at *
      generalize eg 3 (dp l') = y at *
      cases this with
      | bad e q q' he => exact .bad _ _ _ he
      | ok h1 h2 => exact .ok (tL _ (by rw [h1.m]) rfl rfl rfl) h2
    refine .ite (by rw [k, t]) ?_ ?_
    · refine .it h.next _ (.ok (tL _ rfl rfl rfl rfl) h.next.tail) ?_
      have := jy 1 h.next
      generalize eg 1 (dp l) = x at *
      generalize eg 1 (dp l') = y at *
      cases this with
      | bad e q q' he => exact .bad _ _ _ he
      | ok h1 h2 => exact .ok (tL _ rfl rfl (by rw [h1.t]) rfl) h2
    refine .ite (by rw [k, t]) (.down ((hC _ _ h.next).pb fun e e' l1 l1' he h1 => (iI _ h1).pb fun _ _ l2 l2' _ h2 => .ok he h2)) (.bad ..)
  · rw [gf, gf]
    have e := Fe h.hd; refine .ite (by rw [e]) (hA _ h) (.down ((hP _ h.next).pb fun k k' l1 l1' hk h1 => .ok ?_ h1)); rw [e]; exact X.Dj (p := ((hd l).p.1, (hd l).p.2)) (p' := ((hd l').p.1, (hd l').p.2)) (by simp only [eP]; rw [hk]) rfl
  · rw [dT, dT]
    exact .ite Iff.rfl (hP _ h) ((hC _ _ h).pb fun e e' l1 l1' he h1 => hR _ _ he h1)
  · rw [iO, iO]
    simp only [Gz lv h.hd]
    cases iB lv (hd l') with
    | none => exact .ok he h
    | some b =>
     refine (hC _ _ h.next).pb fun k k' l1 l1' hk h1 => ?_
     have hn : ∀ p p' : Int × Int, XqT ⟨9, b, 0, 0, bs [], bs [], [e, k], p.1, p.2⟩ ⟨9, b, 0, 0, bs [], bs [], [e', k'], p'.1, p'.2⟩ := fun p p' => X.Dj (by simp only [eP]; rw [hk, he]) rfl
     exact .ite Iff.rfl (.ok (hn ((hd l).p.1, (hd l).p.2) ((hd l').p.1, (hd l').p.2)) h1) (hR _ _ (hn ((hd l).p.1, (hd l).p.2) ((hd l').p.1, (hd l').p.2)) h1)
theorem mz (n lv d : Nat) {l l' : List Tok} (h : Bq l l') : Pq XqT (dT n lv d l) (dT n lv d l') := (B5 n).2.2.1 lv d h
abbrev Lq (a b : Pl) : Prop := a.tx = b.tx
theorem zM (n d : Nat) {l l' : List Tok} (h : Bq l l') : Pq Lq (lH n d l) (lH n d l') :=
 (jy 1 h).pb fun t u l1 l1' ht h1 => by
  refine .it h1 _ ((jy 1 h1.tail).pb fun v w l2 l2' hv h2 => .ok ?_ h2) (.it h1 _ ((mz n 0 d h1.tail).pb fun e e' l2 l2' he h2 => (iI _ h2).pb fun _ _ l3 l3' _ h3 => .ok ?_ h3) (.ok ?_ h1))
  · simp only [Lq, Pl.tx, ht.t, hv.t]
  · simp only [Lq, Pl.tx, ht.t]; rw [he]
  · simp only [Lq, Pl.tx, ht.t]
def rtT (r : Rt) : ByteArray × Int × List ByteArray × List ByteArray := (r.name, r.op, r.e.text, r.place.tx)
abbrev RqT (a b : Rt) : Prop := rtT a = rtT b
theorem zS (n d : Nat) {l l' : List Tok} (h : Bq l l') : Pq RqT (iJ n d l) (iJ n d l') := by
 unfold iJ; refine .it h _ ((zM n d h.tail).pb fun x y l1 l1' hx h1 => .ok ?_ h1) ?_
 · simp only [RqT, rtT]; rw [hx]
 refine .it h _ ((jy 1 h.tail).pb fun x y l1 l1' hx h1 => .ok ?_ h1) ?_
 · simp only [RqT, rtT]; rw [hx.t]
 refine .it h _ (.it h.tail _ ((mz n 0 d h.tail.tail).pb fun x y l1 l1' hx h1 => .ok ?_ h1) ((jy 1 h.tail).pb fun x y l1 l1' hx h1 => .ok ?_ h1)) ((mz n 0 d h).pb fun x y l1 l1' hx h1 => .ok ?_ h1)
 · simp only [RqT, rtT]; rw [hx]
 · simp only [RqT, rtT]; rw [hx.t]
 · simp only [RqT, rtT]; rw [hx]
abbrev Aq (a b : List X) : Prop := eP a = eP b ∧ a.length = b.length
theorem nW : ∀ (p : List X) (x : X), eP (p ++ [x]) = eP p ++ x.text
 | [], x => by simp [eP]
 | y :: p, x => by simp [eP, nW p x]
theorem Aq.add {a b : List X} (h : Aq a b) {x y : X} (hx : XqT x y) : Aq (a ++ [x]) (b ++ [y]) := by
 refine ⟨?_, by simp [h.2]⟩; rw [nW, nW, h.1, hx]
theorem BE : ∀ (n m d : Nat) {a a' : List X} {l l' : List Tok}, Aq a a' → Bq l l' → Pq Aq (js n m d a l) (js n m d a' l')
 | 0, _, _, _, _, _, _, _, _ => by rw [js, js]; exact .none
 | n + 1, m, d, a, a', l, l', ha, h => by
  rw [js, js]
  exact (mz m 0 d h).pb fun e e' l1 l1' he h1 => .it h1 _ (.ok (ha.add he) h1.tail) ((iI _ h1).pb fun _ _ l2 l2' _ h2 => BE n m d (ha.add he) h2)
theorem Ed (n d : Nat) {l l' : List Tok} (h : Bq l l') : Pq Aq (pt n d l) (pt n d l') :=
 (iI _ h).pb fun _ _ l1 l1' _ h1 => .it h1 _ (.ok ⟨rfl, rfl⟩ h1.tail) (BE n n d ⟨rfl, rfl⟩ h1)
abbrev Sq (a b : S) : Prop := a.tx = b.tx
abbrev Wq (a b : List S) : Prop := lJ a = lJ b ∧ a.length = b.length
theorem Wq.row {a b : List S} (h : Wq a b) : iz a = iz b := by unfold iz; rw [h.1, h.2]
theorem Wq.add {a b : List S} (h : Wq a b) {x y : S} (hx : Sq x y) : Wq (a ++ [x]) (b ++ [y]) := by
 refine ⟨?_, by simp [h.2]⟩; rw [oo, oo, h.1, hx]
theorem nF {t u : Tok} (op : Int) {nm nm' : ByteArray} {r r' : Rt} {p p' : Pl} {e e' : X} {n n' : Int} {a a' : List X} {b b' c c' : List S} (h1 : nm = nm') (h2 : RqT r r') (h3 : Lq p p') (h4 : XqT e e') (h5 : n = n') (h6 : Aq a a') (h7 : Wq b b') (h8 : Wq c c') :
 Sq (mkS t op nm r p e n a b c) (mkS u op nm' r' p' e' n' a' b' c') := by
 subst h1 h5; simp only [RqT, rtT, Prod.mk.injEq] at h2; obtain ⟨q1, q2, q3, q4⟩ := h2; rw [Sq, S.Dm, S.Dm]
 show [⟨#[115, 116, 109, 116]⟩, eV op, nm, eV n, eV r.op, r.name, eV a.length] ++ r.e.text ++ r.place.tx ++ p.tx ++ e.text ++ eP a ++ iz b ++ iz c = [⟨#[115, 116, 109, 116]⟩, eV op, nm, eV n, eV r'.op, r'.name, eV a'.length] ++ r'.e.text ++ r'.place.tx ++ p'.tx ++ e'.text ++ eP a' ++ iz b' ++ iz c'
 rw [q1, q2, q3, q4, h6.1, h6.2, h7.row, h8.row, h3, h4]
theorem Wq.nil : Wq [] [] := ⟨rfl, rfl⟩
theorem Aq.nil : Aq [] [] := ⟨rfl, rfl⟩
theorem oX {s s' : S} {l l' : List Tok} (hs : Sq s s') (h : Bq l l') : Pq Sq (gn s l) (gn s' l') := (iI _ h).pb fun _ _ l1 l1' _ h1 => .ok hs h1
theorem rQ {l l' : List Tok} (h : Bq l l') : (eO l).1 = (eO l').1 ∧ Bq (eO l).2 (eO l').2 := by
 unfold eO; rw [h.hd.k, h.hd.t]; split
 · exact ⟨rfl, h.next⟩
 · exact ⟨rfl, h⟩
theorem yy : ∀ n : Nat, (∀ d {l l'}, Bq l l' → Pq Wq (eX n d l) (eX n d l')) ∧ (∀ d {a a' l l'}, Wq a a' → Bq l l' → Pq Wq (lI n d a l) (lI n d a' l')) ∧
 (∀ d {t u} (nm : ByteArray) {l l'}, Bq l l' → Pq Sq (iF n d t nm l) (iF n d u nm l')) ∧ (∀ d {l l'}, Bq l l' → Pq Sq (ju n d l) (ju n d l'))
 | 0 => by
  refine ⟨fun d l l' h => ?_, fun d a a' l l' _ h => ?_, fun d t u nm l l' h => ?_, fun d l l' h => ?_⟩
  · rw [eX, eX]; exact .none
  · rw [lI, lI]; exact .none
  · rw [iF, iF]; exact .none
  · rw [ju, ju]; exact .none
 | n + 1 => by
  obtain ⟨hB, hW, hL, hS⟩ := yy n; refine ⟨fun d l l' h => ?_, fun d a a' l l' ha h => ?_, fun d t u nm l l' h => ?_, fun d l l' h => ?_⟩
  · rw [eX, eX]
    exact (iI _ h).pb fun t u l1 l1' _ h1 => .down (hW _ .nil h1)
  · rw [lI, lI]
    exact .it h _ (.ok ha h.tail) ((hS d h).pb fun s s' l1 l1' hs h1 => hW _ (ha.add hs) h1)
  · rw [iF, iF]
    exact (jy 3 h).pb fun v w l1 l1' hv h1 => (hB d h1).pb fun b b' l2 l2' hb h2 => .ok (nF _ rfl rfl rfl rfl (by rw [hv.m]) .nil hb .nil) h2
  · rw [ju, ju]
    have k := h.hd.k; have t := h.hd.t; refine .ite (by rw [k]) (.it h.next _ ((iI _ h.next.tail).pb fun _ _ l1 l1' _ h1 => by rw [t]; exact hL d _ h1) ((iI _ h.next).pb fun _ _ l1 l1' _ h1 => (zS n d h1).pb fun r r' l2 l2' hr h2 => oX (nF _ (by rw [t]) hr rfl rfl rfl .nil .nil .nil) h2)) ?_; refine .it h _ (hL d _ h.tail) ?_; refine .it h _ ((mz n 0 d h.tail).pb fun e e' l1 l1' he h1 => (hB d h1).pb fun b b' l2 l2' hb h2 => .it h2 _ ((hB d h2.tail).pb fun c c' l3 l3' hc h3 => .ok (nF _ rfl rfl rfl he rfl .nil hb hc) h3) (.ok (nF _ rfl rfl rfl he rfl .nil hb .nil) h2)) ?_; refine .it h _ ((hB d h.tail).pb fun b b' l1 l1' hb h1 => .ok (nF _ rfl rfl rfl rfl rfl .nil hb .nil) h1) ?_; refine .ite (by rw [h.isT, h.isT]) ((jy 1 h.next).pb fun v w l1 l1' hv h1 => (iI _ h1).pb fun _ _ l2 l2' _ h2 => (zS n d h2).pb fun r r' l3 l3' hr h3 => oX (by rw [t]; exact nF _ (by rw [hv.t]) hr rfl rfl rfl .nil .nil .nil) h3) ?_; refine .it h _ ((zM n d h.tail).pb fun x x' l1 l1' hx h1 => (iI _ h1).pb fun _ _ l2 l2' _ h2 => (mz n 0 d h2).pb fun e e' l3 l3' he h3 => oX (nF _ rfl rfl hx he rfl .nil .nil .nil) h3) ?_; refine .it h _ ((mz n 0 d h.tail).pb fun e e' l1 l1' he h1 => oX (nF _ rfl rfl rfl he rfl .nil .nil .nil) h1) ?_; refine .it h _ (oX (nF _ (rQ h.tail).1 rfl rfl rfl rfl .nil .nil .nil) (rQ h.tail).2) ?_; refine .it h _ (oX (nF _ (rQ h.tail).1 rfl rfl rfl rfl .nil .nil .nil) (rQ h.tail).2) ?_; exact .it h _ ((jy 1 h.tail).pb fun v w l1 l1' hv h1 => (Ed n d h1).pb fun xs xs' l2 l2' hx h2 => oX (nF _ (by rw [hv.t]) rfl rfl rfl rfl hx .nil .nil) h2) (.bad ..)
abbrev Mq (a b : List Nm) : Prop := a.flatMap nmT = b.flatMap nmT ∧ a.length = b.length
theorem Mq.add {a b : List Nm} (h : Mq a b) {x y : Nm} (hx : Nq x y) : Mq (a ++ [x]) (b ++ [y]) := by
 refine ⟨?_, by simp [h.2]⟩; simp only [List.flatMap_append, h.1, List.flatMap_cons, List.flatMap_nil]; rw [hx]
theorem Mq.row {a b : List Nm} (h : Mq a b) : kS a = kS b := by unfold kS; rw [h.1, h.2]
theorem wj : ∀ (n : Nat) {a a' : List Nm} {l l' : List Tok}, Mq a a' → Bq l l' → Pq Mq (gr n a l) (gr n a' l')
 | 0, _, _, _, _, _, _ => by rw [gr, gr]; exact .none
 | n + 1, a, a', l, l', ha, h => by
  rw [gr, gr]; exact .it h _ (.ok ha h.tail) ((vl h).pb fun f f' l1 l1' hf h1 => (iI _ h1).pb fun _ _ l2 l2' _ h2 => wj n (ha.add hf) h2)
abbrev Cq (a b : Rec) : Prop := a.tx = b.tx
theorem Hl (n : Nat) {l l' : List Tok} (h : Bq l l') : Pq Cq (vu n l) (vu n l') :=
 (jy 1 h).pb fun t u l1 l1' ht h1 => (iI _ h1).pb fun _ _ l2 l2' _ h2 => (wj n ⟨rfl, rfl⟩ h2).pb fun fs fs' l3 l3' hf h3 => .ok (by simp only [Cq, Rec.tx, ht.t, hf.row]) h3
theorem wM : ∀ (n : Nat) {a a' : List Nm} {l l' : List Tok}, Mq a a' → Bq l l' → Pq Mq (gd n a l) (gd n a' l')
 | 0, _, _, _, _, _, _ => by rw [gd, gd]; exact .none
 | n + 1, a, a', l, l', ha, h => by
  rw [gd, gd]
  exact (vl h).pb fun f f' l1 l1' hf h1 => .it h1 _ (.ok (ha.add hf) h1.tail) ((iI _ h1).pb fun _ _ l2 l2' _ h2 => wM n (ha.add hf) h2)
abbrev Uq (a b : Fu) : Prop := a.tx = b.tx
theorem GZ (n : Nat) {l l' : List Tok} (h : Bq l l') : Pq Uq (wo n l) (wo n l') :=
 (jy 1 h).pb fun t u l1 l1' ht h1 => (iI _ h1).pb fun _ _ l2 l2' _ h2 => (Pq.it (R := Mq) h2 _ (.ok ⟨rfl, rfl⟩ h2.tail) (wM n ⟨rfl, rfl⟩ h2)).pb fun ps ps' l3 l3' hp h3 =>
  ((yy n).1 0 h3).pb fun b b' l4 l4' hb h4 => .ok (by simp only [Uq, Fu.tx, ht.t, hp.row, hb.row]) h4
structure Gq (a b : Pg) : Prop where
 rl : a.fa.length = b.fa.length
 r : a.fa.flatMap Rec.tx = b.fa.flatMap Rec.tx
 g : Mq a.gls b.gls
 fl : a.fe.length = b.fe.length
 f : a.fe.flatMap Fu.tx = b.fe.flatMap Fu.tx
 tl : a.ths.length = b.ths.length
 t : a.ths.flatMap Th.tx = b.ths.flatMap Th.tx
theorem Gq.tx {a b : Pg} (h : Gq a b) : a.tx = b.tx := by unfold Pg.tx Pg.hd; rw [h.rl, h.r, h.g.row, h.fl, h.f, h.tl, h.t]
theorem fm1 {α β : Type} (f : α → List β) {a b : List α} {x y : α} (h : a.flatMap f = b.flatMap f) (hx : f x = f y) : (a ++ [x]).flatMap f = (b ++ [y]).flatMap f := by
 simp only [List.flatMap_append, h, List.flatMap_cons, List.flatMap_nil, hx]
theorem Gp {α : Type} {a b : List α} {x y : α} (h : a.length = b.length) : (a ++ [x]).length = (b ++ [y]).length := by simp [h]
theorem qQ : ∀ (n m : Nat) {g g' : Pg} {l l' : List Tok}, Gq g g' → Bq l l' → Pq Gq (dq n m g l) (dq n m g' l')
 | 0, _, _, _, _, _, _, _ => by rw [dq, dq]; exact .none
 | n + 1, m, g, g', l, l', hg, h => by
  rw [dq, dq]; refine .ite (by rw [h.hd.k]) (.ok hg h) ?_; refine .it h _ ((Hl m h.tail).pb fun r r' l1 l1' hr h1 => qQ n m ⟨Gp hg.rl, fm1 _ hg.r hr, hg.g, hg.fl, hg.f, hg.tl, hg.t⟩ h1) ?_; refine .it h _ ((vl h.tail).pb fun r r' l1 l1' hr h1 => (iI _ h1).pb fun _ _ l2 l2' _ h2 => qQ n m ⟨hg.rl, hg.r, hg.g.add hr, hg.fl, hg.f, hg.tl, hg.t⟩ h2) ?_; refine .it h _ ((GZ m h.tail).pb fun r r' l1 l1' hr h1 => qQ n m ⟨hg.rl, hg.r, hg.g, Gp hg.fl, fm1 _ hg.f hr, hg.tl, hg.t⟩ h1) ?_; exact .it h _ (((yy m).1 0 h.tail).pb fun b b' l1 l1' hb h1 => qQ n m ⟨hg.rl, hg.r, hg.g, hg.fl, hg.f, Gp hg.tl, fm1 _ hg.t (by simp only [Th.tx]; exact hb.row)⟩ h1) (.bad ..)
theorem Gq.refl (g : Pg) : Gq g g := ⟨rfl, rfl, ⟨rfl, rfl⟩, rfl, rfl, rfl, rfl⟩
theorem AJ {ts : List Tok} (h : ts.length ≤ 8193) {e : Nat} {q : Nat × Nat} (hb : jz ts = .bad e q) : e ≠ 0 := by
 have h1 := qQ 10000 100000 (.refl ⟨[], [], [], []⟩) (rfl : Bq ts ts); rw [(iX h).1, hb] at h1
 cases h1 with
 | bad _ _ _ he => exact he
def txl : List Tok → Nat
 | [] => 0
 | t :: r => t.text.length + txl r
theorem pT : ∀ (k : Nat) (rest : List UInt8) (p : Nat × Nat), rest.length = k → ∀ ts, fH rest p = .ok ts → txl ts ≤ rest.length ∧ ts.length ≤ rest.length + 1 := by
 intro k
 induction k using Nat.strongRecOn with
 | ind k ih =>
  intro rest p hk ts h
  cases rest with
  | nil =>
   rw [jP] at h; obtain rfl := LR.ok.inj h; exact ⟨aq _, aq _⟩
  | cons c l =>
   by_cases hb : fk (c :: l) = 0
   · cases ht : (dH (c :: l)).2.2.2 with
     | false => rw [jk hb ht] at h; cases h
     | true =>
      rw [jl hb ht] at h; have hpos := jq ht; have hle := mS c l; have hdl : ((c :: l).drop (dH (c :: l)).2.1).length = (c :: l).length - (dH (c :: l)).2.1 := eN ..
      have htl : ((c :: l).take (dH (c :: l)).2.1).length = (dH (c :: l)).2.1 := by rw [List.length_take]; omega
      cases hr : fH ((c :: l).drop (dH (c :: l)).2.1) (adv ((c :: l).take (dH (c :: l)).2.1) p) with
      | err q => rw [hr] at h; cases h
      | ok ts' =>
       rw [hr] at h; obtain rfl := LR.ok.inj h; have := ih _ (by simp only [ah] at hdl hk; omega) _ _ rfl ts' hr; simp only [txl, ly, ah] at this hdl htl hle ⊢; omega
   · rw [gz hb] at h
     have hle := my (c :: l); have hdl : ((c :: l).drop (fk (c :: l))).length = (c :: l).length - fk (c :: l) := eN ..; have := ih _ (by simp only [ah] at hdl hk; omega) _ _ rfl ts h; omega
theorem BK {a b : List Tok} (h : a.map Tok.bare = b.map Tok.bare) : a.length = b.length := by
 have := congrArg fQ h; simpa using this
theorem pX {α : Type} (w : α → Nat) : ∀ {l : List α} {x : α}, x ∈ l → w x ≤ (l.map w).sum
 | y :: l, x, h => by
  rcases List.mem_cons.1 h with rfl | h
  · simp only [bc, List.sum_cons]; omega
  · have := pX w h
    simp only [bc, List.sum_cons]; omega
theorem rR {α : Type} (w : α → Nat) (h : ∀ x, 1 ≤ w x) : ∀ l : List α, l.length ≤ (l.map w).sum
 | [] => aq _
 | x :: l => by
  have := rR w h l; have := h x
  simp only [bc, List.sum_cons, ah]; omega
theorem vb {α β : Type} (f : α → List β) (w : α → Nat) (h : ∀ x, (f x).length ≤ 40 * w x) : ∀ l : List α, (l.flatMap f).length ≤ 40 * (l.map w).sum
 | [] => aq _
 | x :: l => by
  have := vb f w h l; have := h x
  simp only [bc, List.sum_cons, List.flatMap_cons, au]; omega
theorem nQ {g : Pg} (h : g.sz ≤ 70000) : g.small ∧ g.tx.length ≤ 40 * g.sz + 4 := by
 unfold Pg.sz at h ⊢; have a1 := rR (fun r : Rec => r.fields.length + 1) (fun _ => by omega) g.fa; have a2 := rR (fun f : Fu => f.params.length + fj f.body + 1) (fun _ => by omega) g.fe; have a3 := rR (fun t : Th => fj t.body + 1) (fun _ => by omega) g.ths; refine ⟨⟨by omega, fun x hx => ?_, by omega, by omega, fun x hx => ?_, fun x hx => ?_, by omega, fun x hx => ?_⟩, ?_⟩
 · have := pX (fun r : Rec => r.fields.length + 1) hx; omega
 · have := pX (fun f : Fu => f.params.length + fj f.body + 1) hx; omega
 · have := pX (fun f : Fu => f.params.length + fj f.body + 1) hx; omega
 · have := pX (fun t : Th => fj t.body + 1) hx; omega
 have b1 := vb Rec.tx (fun r : Rec => r.fields.length + 1) (fun x => by have := jm x.fields; simp only [Rec.tx, ah]; omega) g.fa; have b2 := vb Fu.tx (fun f : Fu => f.params.length + fj f.body + 1) (fun x => by have := jm x.params; have := nN x.body; have := iC x.body; simp only [Fu.tx, ah, au]; omega) g.fe; have b3 := vb Th.tx (fun t : Th => fj t.body + 1) (fun x => by have := nN x.body; have := iC x.body; simp only [Th.tx]; omega) g.ths; have b4 := jm g.gls; have b5 : g.hd.length = 3 := rfl; simp only [Pg.tx, au]; omega
theorem wO {l : List UInt8} : (gm l).1.small ∧ (gm l).1.tx.length ≤ 3000000 := by
 have h0 : pg0.small ∧ pg0.tx.length ≤ 3000000 := ⟨(nQ (g := pg0) (by decide)).1, by decide⟩; unfold gm; split
 · rename_i h
   split
   · rename_i g l' e
     have hlen : l.length ≤ 8192 := by
      unfold kZ at h; split at h
      · simp at h
      · omega
     have hn : (nD l).length ≤ 8193 := by
      cases hx : fH l (1, 1) with
      | ok ts => rw [(gY hlen hx).1]; have := (pT _ _ _ rfl ts hx).2; omega
      | err q => rw [(hI hlen hx).1]; simp
     have hz := (iX hn).2 g l' e; have := nQ hz; exact ⟨this.1, by have := this.2; show g.tx.length ≤ _; omega⟩
   · exact h0
 · exact h0
theorem ui {l : List UInt8} {ts : List Tok} (hl : l.length ≤ 8192) (h : fH l (1, 1) = .ok ts) : gm l = match jz ts with | .ok g _ => (g, 0, 0, 0) | .bad e q => (pg0, e, q.1, q.2) := by
 have := gY hl h; unfold gm; rw [this.1, this.2]
 rfl
section
attribute [local simp] cX cx bY bZ cy fq fv ec de dY db dZ dc fu cc im dS iq ic hO AM.ae aR aS bf aN aE AM.onG gb bW ef Ex.bn cond_true cond_false cT cS cR cQ cP cV cO cW cU ed dh di cw cY AM.du AM.cellsOf AM.an bX beq_true cM ah ay bj bz bT decide_true decide_false bF bE bu bD bg aB az aU al cZ da ft aA bI ba bR cC dR dX cJ eE eD set_set eI dy fT dz cI bK dx dw cH dv eH eJ fM fN bM cu eB fL dW aV aX aI AM.aY ai dt bU bc bh aP aO AM.part br aQ cf cm cj cn cn.eS AM.dN bG cg dJ fW aV laid aJ bq cz
attribute [-simp] aj
attribute [local congr] dK
end
end Go.Proofs.YtlhlijaondmccaaGreatDoor.S
namespace Go.Proofs.YtlhlijaondmccaaGreatDoor
open Go Go.AM Go.ChangeShapes Go.WideShapes Go.ChangeAt Go.RowKit
theorem own : ownKnob Tryz.prog.godebug = none := by kernel_rfl
theorem tC {H : Type} {enc : TypeId × Value → H} {a : Assume} {C : Checked} {os : Os} {f : FuncId} {fn : Func} {s : ChangeSpec} {conds : List PathCond} {apart fresh handsOn again : Bool} {X : World → Array Value → Prop}
 (hX : ∀ (w w' : World) (args : Array Value), w.heap = w'.heap → X w args → X w' args)
 (own : ownKnob C.prog.godebug = none) (started : os.Started) (noInit : C.prog.inits.idxOf? f = none) (hfn : C.prog.funcs[f]? = some fn)
 (witness : ∃ (w : World) (tape : Tape) (i : Input), w.os = os ∧ (w.forCall tape i).Shaped C.prog ∧ i.vars = [] ∧ Input.okWide C.prog (w.forCall tape i) .any w.heap.size f i ∧
  ((s.pre enc C.prog fn conds apart (w.forCall tape i).memory i.args ∧ X (w.forCall tape i).memory i.args) ∧ sizedMet enc C.prog fn (OpenSpec.ofChange s) apart (w.forCall tape i).memory i.args) ∧ a.holds C.prog (lone (Frame.enter C.prog f i.args .normal) [] (w.forCall tape i)))
 (contract : ∀ (W : World) (base : Nat) (args : Array Value) (ds gs : List (DataW H)) (before : List MemPlace),
  (∀ (j : Nat) t v, fn.params[j]? = some t → args[j]? = some v → Value.okWide C.prog W .any base t v) →
  DataW.Whole enc C.prog fn.params.toList s.vars apart W args.toList ds gs before → X W args → W.ShapedOpen C.prog →
  Calls C.prog f args W fun e W' => ∃ v, e = .returned v ∧ s.post enc C.prog fn apart fresh handsOn again W args v W') :
 ReturnsInHanded a C os f .any (fun w args => (s.pre enc C.prog fn conds apart w args ∧ X w args) ∧ sizedMet enc C.prog fn (OpenSpec.ofChange s) apart w args) (s.post enc C.prog fn apart fresh handsOn again) := by
 refine returnsInHanded_of_calls own started noInit witness ?_; intro w tape i _ hsh _ hok hpre _; obtain ⟨_, _, _, fn', hfn', _, _, _, _, hval⟩ := hok; have e : fn' = fn := Option.some.inj (hfn'.symm.trans hfn); subst e; obtain ⟨⟨⟨ds, gs, before, hw, hc⟩, hx⟩, hz⟩ := hpre; have hw' := DataW.Whole.of_heap (w' := w.forCall tape i) (by rfl) hw
 refine (contract (w.forCall tape i) w.heap.size i.args ds gs before hval hw' (hX _ _ _ (by rfl) hx) hsh).mono fun e W' ⟨v, he, hp⟩ => ?_
 subst he; exact ChangeSpec.post_blind hp
theorem G4 : Tryz.prog.globalNamed "strconv.ErrSyntax" = some 4 := by kernel_rfl
theorem G0 : Tryz.prog.globalNamed "strconv.ErrRange" = some 5 := by kernel_rfl
theorem Hq : (Tryz.prog.globals[4]?).map (·.type) = some 128 := by kernel_rfl
theorem Hp : (Tryz.prog.globals[5]?).map (·.type) = some 128 := by kernel_rfl
theorem HC : Tryz.prog.globalNamed "internal/strconv.uint64pow10" = some 0 := by kernel_rfl
theorem Hr : (Tryz.prog.globals[0]?).map (·.type) = some 185 := by kernel_rfl
theorem star : "*errors.errorString" = "*" ++ "errors.errorString" := by decide
theorem FA (u : TypeId) (h : Tryz.prog.typeName? 3 u = some "*errors.errorString") : u = 230 :=
 typeName_ptr_named (nm := "errors.errorString") (by rw [← star]; kernel_rfl) (by kernel_rfl) (by decide) u (by rw [← star]; exact h)
theorem zc {W : World} {g o : Nat} {v : Value} (h : W.cell? ⟨g, o, none⟩ = some v) : g < W.heap.size := by
 unfold World.cell? at h
 cases hb : W.heap[g]? with
 | none => simp [hb] at h
 | some x => exact (Array.getElem?_eq_some_iff.1 hb).1
theorem Gk {W : World} (hs : W.ShapedOpen Tryz.prog) (hL : laidMetH Tryz.prog Rows.parseBlanksRow.laid W) : ∃ gv : GV, S.Gvs gv ∧ nf gv W (BV W) := by
 rw [MakeChecks.laidMetH_plain _ _ _ (by kernel_rfl)] at hL
 have hT : Lib.TabIs Tryz.prog W "internal/strconv.uint64pow10" .u64 Lib.pow10Tab := Lib.tabIs_of_head HC Hr Tryz.underlying185 Tryz.underlying34 (by kernel_rfl) (by kernel_rfl) hL.tail.tail
 obtain ⟨a1, s1, hv1, _⟩ := laid_sentinel hL.tail.tail.tail G0 Hp Tryz.underlying128 FA Tryz.underlying230 Tryz.underlying232 rfl rfl Tryz.underlying9 (by kernel_rfl) (by kernel_rfl); obtain ⟨a2, s2, hv2, _⟩ := laid_sentinel hL.tail.tail.tail.tail G4 Hq Tryz.underlying128 FA Tryz.underlying230 Tryz.underlying232 rfl rfl Tryz.underlying9 (by kernel_rfl) (by kernel_rfl); obtain ⟨m, hm⟩ := cell_of_shapedOpen_int (g := 3) (k := .i64) (zero := #[.int .i64 0]) (t := 3) hs (of_decide_eq_true (by kernel_rfl)) (by kernel_rfl) rfl (by kernel_rfl) (by kernel_rfl) Tryz.underlying3
 have c1 : W.cell? ⟨4, 0, none⟩ = some (.iface 230 (.pointer (some a2))) := by simpa using World.var?_cell G4 hv2 0
 have c2 : W.cell? ⟨5, 0, none⟩ = some (.iface 230 (.pointer (some a1))) := by simpa using World.var?_cell G0 hv1 0
 refine ⟨⟨fun g o => if g < 6 ∧ o = 0 then W.cell? ⟨g, o, none⟩ else none, W⟩, ⟨⟨m, ?_⟩, ⟨.iface 230 (.pointer (some a2)), ?_, .inr ⟨230, .pointer (some a2), rfl⟩⟩, ⟨.iface 230 (.pointer (some a1)), ?_, .inr ⟨230, .pointer (some a1), rfl⟩⟩, hT, ?_⟩, fun g o v h => ?_, aq _, Below.refl _ _⟩
 · show (if 3 < 6 ∧ 0 = 0 then W.cell? ⟨3, 0, none⟩ else none) = _
   rw [if_pos (by omega)]; exact hm
 · show (if 4 < 6 ∧ 0 = 0 then W.cell? ⟨4, 0, none⟩ else none) = _
   rw [if_pos (by omega)]; exact c1
 · show (if 5 < 6 ∧ 0 = 0 then W.cell? ⟨5, 0, none⟩ else none) = _
   rw [if_pos (by omega)]; exact c2
 · exact zc c2
 · have h' : (if g < 6 ∧ o = 0 then W.cell? ⟨g, o, none⟩ else none) = some v := h
   split at h'
   · exact ⟨zc h', h'⟩
   · cases h'
theorem BW (os : Os) (args : Array Value) : laidMetH Tryz.prog Rows.parseBlanksRow.laid ((World.doorLaid Tryz.prog 128 os).forCall (fun _ _ => 0) ⟨#[], args, []⟩).memory :=
 laidMetH_of_parts3 (fuel := 8) (laidMet_of_run' 65 (by kernel_rfl) (by kernel_rfl)) (by kernel_rfl) (by kernel_rfl)
end Go.Proofs.YtlhlijaondmccaaGreatDoor
namespace Go.Proofs.YtlhlijaondmccaaGreatDoor.S
open Go Go.AM Go.Proofs
section
variable {E : Tok} {B : List Tok} {α β : Type} {A : List Tok}
def Lk (E : Tok) (B : List Tok) (c k : Bool) (A : List Tok) (x y : Option (PR α)) : Prop :=
 ∀ a l', x = some (.ok a l') → ∃ C A', A = C ++ A' ∧ l' = A' ++ [E] ∧ (c = true → C ≠ []) ∧ ((k = true ∨ A' ≠ []) → y = some (.ok a (A' ++ B)))
theorem Lk.dn {c k : Bool} {x y : Option (PR α)} (h : Lk E B true true A x y) : Lk E B c k A x y := fun a l' e =>
 let ⟨C, A', h1, h2, h3, h4⟩ := h a l' e
 ⟨C, A', h1, h2, fun _ => h3 rfl, fun _ => h4 (.inl rfl)⟩
theorem Lk.kw {x y : Option (PR α)} (h : Lk E B false true A x y) : Lk E B false false A x y := fun a l' e =>
 let ⟨C, A', h1, h2, h3, h4⟩ := h a l' e
 ⟨C, A', h1, h2, fun h => (nomatch h), fun _ => h4 (.inl rfl)⟩
theorem Lk.bad {c k : Bool} {e : Nat} {q : Nat × Nat} {y : Option (PR α)} : Lk E B c k A (some (.bad e q)) y := fun a l' h => by cases h
theorem Lk.non {c k : Bool} {y : Option (PR α)} : Lk E B c k A none y := fun a l' h => by cases h
theorem Lk.jO {a : α} : Lk E B false true A (some (.ok a (A ++ [E]))) (some (.ok a (A ++ B))) := fun a' l' h => by
 cases h; exact ⟨[], A, rfl, rfl, fun h => (nomatch h), fun _ => rfl⟩
theorem Lk.tl {a : α} {t : Tok} : Lk E B true true (t :: A) (some (.ok a (A ++ [E]))) (some (.ok a (A ++ B))) := fun a' l' h => by
 cases h; exact ⟨[t], A, rfl, rfl, fun _ => by simp, fun _ => rfl⟩
theorem Lk.cons {c k : Bool} {x y : Option (PR α)} {t : Tok} (h : Lk E B c k A x y) : Lk E B c k (t :: A) x y := fun a l' e =>
 let ⟨C, A', h1, h2, h3, h4⟩ := h a l' e
 ⟨t :: C, A', by rw [h1]; rfl, h2, fun _ => by simp, h4⟩
theorem Lk.zd {c : Bool} {x y : Option (PR α)} {t : Tok} (h : Lk E B c true A x y) : Lk E B true true (t :: A) x y := fun a l' e =>
 let ⟨C, A', h1, h2, h3, h4⟩ := h a l' e
 ⟨t :: C, A', by rw [h1]; rfl, h2, fun _ => by simp, h4⟩
theorem Lk.any {c : Bool} {x y y' : Option (PR α)} (h : Lk E B c false [] x y) : Lk E B c false [] x y' := fun a l' e =>
 let ⟨C, A', h1, h2, h3, h4⟩ := h a l' e
 ⟨C, A', h1, h2, h3, fun q => by
  rcases q with q | q
  · cases q
  · exact absurd (List.append_eq_nil_iff.1 h1.symm).2 q⟩
theorem Lk.Eb {k : Bool} {x y y' : Option (PR α)} (h : Lk E B true true [] x y) : Lk E B true k [] x y' := fun a l' e =>
 let ⟨C, A', h1, h2, h3, h4⟩ := h a l' e
 absurd (List.append_eq_nil_iff.1 h1.symm).1 (h3 rfl)
theorem Lk.pbT {c k : Bool} {x y : Option (PR α)} {K K' : α → List Tok → Option (PR β)} (h : Lk E B c k A x y) (hk : ∀ a C A', A = C ++ A' → Lk E B true true A' (K a (A' ++ [E])) (K' a (A' ++ B))) : Lk E B true true A (S.pb x K) (S.pb y K') := by
 intro b l' e
 match x, h, e with
 | none, h, e => cases e
 | some (.bad _ _), h, e => cases e
 | some (.ok a0 l0), h, e =>
  obtain ⟨C, A', rfl, rfl, h3, h4⟩ := h a0 l0 rfl; obtain ⟨C1, A1, rfl, rfl, h5, h6⟩ := hk a0 C A' rfl b l' e; have hc := h5 rfl; rw [h4 (.inr (by simp [hc]))]; exact ⟨C ++ C1, A1, by simp, rfl, fun _ => by simp [hc], fun _ => h6 (.inl rfl)⟩
theorem Lk.pbK {x y : Option (PR α)} {K K' : α → List Tok → Option (PR β)} (h : Lk E B true true A x y) (hk : ∀ a C A', A = C ++ A' → Lk E B false true A' (K a (A' ++ [E])) (K' a (A' ++ B))) : Lk E B true true A (S.pb x K) (S.pb y K') := by
 intro b l' e
 match x, h, e with
 | none, h, e => cases e
 | some (.bad _ _), h, e => cases e
 | some (.ok a0 l0), h, e =>
  obtain ⟨C, A', rfl, rfl, h3, h4⟩ := h a0 l0 rfl; obtain ⟨C1, A1, rfl, rfl, h5, h6⟩ := hk a0 C A' rfl b l' e; rw [h4 (.inl rfl)]; exact ⟨C ++ C1, A1, by simp, rfl, fun _ => by simp [h3 rfl], fun _ => h6 (.inl rfl)⟩
theorem Lk.pbW {c k c' k' : Bool} {x y : Option (PR α)} {K K' : α → List Tok → Option (PR β)} (h : Lk E B c k A x y) (hk : ∀ a C A', A = C ++ A' → Lk E B c' k' A' (K a (A' ++ [E])) (K' a (A' ++ B))) : Lk E B false false A (S.pb x K) (S.pb y K') := by
 intro b l' e
 match x, h, e with
 | none, h, e => cases e
 | some (.bad _ _), h, e => cases e
 | some (.ok a0 l0), h, e =>
  obtain ⟨C, A', rfl, rfl, h3, h4⟩ := h a0 l0 rfl; obtain ⟨C1, A1, rfl, rfl, h5, h6⟩ := hk a0 C A' rfl b l' e; refine ⟨C ++ C1, A1, by simp, rfl, fun q => (nomatch q), fun q => ?_⟩; have q := q.resolve_left (by simp); rw [h4 (.inr (by simp [q]))]; exact h6 (.inr q)
theorem Lk.ite {c k : Bool} {p p' : Prop} [Decidable p] [Decidable p'] {x y x' y' : Option (PR α)} (hp : p ↔ p') (h : p → Lk E B c k A x y) (h' : ¬ p → Lk E B c k A x' y') : Lk E B c k A (if p then x else x') (if p' then y else y') := by
 by_cases h0 : p
 · rw [if_pos h0, if_pos (hp.1 h0)]; exact h h0
 · rw [if_neg h0, if_neg fun e => h0 (hp.2 e)]; exact h' h0
theorem Lk.down {c k : Bool} {x y : Option (PR α)} {d : Nat} {t : Tok} (h : Lk E B c k A x y) : Lk E B c k A (nv d t x) (nv d t y) := .ite Iff.rfl (fun _ => .bad) fun _ => h
theorem Lk.map {c k : Bool} {x y : PR α} {f : α → β} (h : Lk E B c k A (some x) (some y)) : Lk E B c k A (some (x.map f)) (some (y.map f)) := by
 intro b l' e
 match x, h, e with
 | .bad _ _, h, e => cases e
 | .ok a0 l0, h, e =>
  obtain ⟨C, A', h1, h2, h3, h4⟩ := h a0 l0 rfl; cases e; refine ⟨C, A', h1, h2, h3, fun q => ?_⟩
  rw [Option.some.inj (h4 q)]; rfl
variable (hE : E.kind = 0)
include hE
theorem wx (s : List UInt8) : isT [E] s = false := by simp [isT, hd, hE]
theorem Lk.it {c k : Bool} {x y x' y' : Option (PR α)} {s : List UInt8} (hf : ∀ t A0, A = t :: A0 → Lk E B c k A x y) (hg : Lk E B c k A x' y') (hn : A = [] → k = true → c = true) :
 Lk E B c k A (if isT (A ++ [E]) s then x else x') (if isT (A ++ B) s then y else y') := by
 cases A with
 | nil =>
  rw [show isT ([] ++ [E]) s = false from wx hE s, if_neg (by simp)]
  cases k with
  | false => exact hg.any
  | true =>
   have hc := hn rfl rfl; subst hc; exact hg.Eb
 | cons t A0 => exact .ite (by rw [show isT (t :: A0 ++ [E]) s = isT (t :: A0 ++ B) s from rfl]) (fun _ => hf t A0 rfl) fun _ => hg
theorem iH (s : List UInt8) : Lk E B true true A (some (dm s (A ++ [E]))) (some (dm s (A ++ B))) := by
 cases A with
 | nil => rw [dm, show isT ([] ++ [E]) s = false from wx hE s, if_neg (by simp)]; exact .bad
 | cons t A0 =>
  unfold dm; rw [show isT (t :: A0 ++ B) s = isT (t :: A0 ++ [E]) s from rfl]; split
  · exact .tl
  · exact .bad
omit hE in
theorem ff {t : Tok} {l : List Tok} (h : t.kind ≠ 0) : dp (t :: l) = l := if_neg h
theorem ji {k : Nat} (hk : k ≠ 0) : Lk E B true true A (some (eg k (A ++ [E]))) (some (eg k (A ++ B))) := by
 cases A with
 | nil => rw [eg, if_neg (by show ¬ E.kind = k; omega)]; exact .bad
 | cons t A0 =>
  show Lk E B true true (t :: A0) (some (if t.kind = k then .ok t (dp (t :: A0 ++ [E])) else .bad 4 t.p)) (some (if t.kind = k then .ok t (dp (t :: A0 ++ B)) else .bad 4 t.p))
  by_cases h : t.kind = k
  · rw [if_pos h, if_pos h, al, al, ff (by omega), ff (by omega)]; exact .tl
  · rw [if_neg h]; exact .bad
theorem Hs : Lk E B true true A (some (rK (A ++ [E]))) (some (rK (A ++ B))) := by
 unfold rK
 cases A with
 | nil =>
  simp only [aU, wx hE, ab, if_false]; have := ji (B := B) (A := []) hE (k := 1) (by decide); exact (this.map (f := fun t => (⟨4, bs t.text⟩ : Ty2))).Eb
 | cons t A0 =>
  have := (ji (B := B) (A := t :: A0) hE (k := 1) (by decide)).map (f := fun t => (⟨4, bs t.text⟩ : Ty2)); simp only [show ∀ s, isT (t :: A0 ++ B) s = isT (t :: A0 ++ [E]) s from fun _ => rfl]; split
  · exact .tl
  split
  · exact .tl
  split
  · exact .tl
  exact this
theorem vk : Lk E B true true A (kR (A ++ [E])) (kR (A ++ B)) :=
 (ji hE (by decide)).pbT fun t _ A1 _ => (iH hE _).pbT fun _ _ A2 _ => (Hs hE).pbK fun ty _ A3 _ => .jO
theorem B4 : ∀ n : Nat, (∀ d A, Lk E B true true A (jt n d (A ++ [E])) (jt n d (A ++ B))) ∧ (∀ d A, Lk E B true true A (gf n d (A ++ [E])) (gf n d (A ++ B))) ∧
 (∀ lv d A, Lk E B false false A (dT n lv d (A ++ [E])) (dT n lv d (A ++ B))) ∧ (∀ lv d e A, Lk E B false false A (iO n lv d e (A ++ [E])) (iO n lv d e (A ++ B)))
 | 0 => by
  refine ⟨fun d A => ?_, fun d A => ?_, fun lv d A => ?_, fun lv d e A => ?_⟩
  · rw [jt]; exact .non
  · rw [gf]; exact .non
  · rw [dT]; exact .non
  · rw [iO]; exact .non
 | n + 1 => by
  obtain ⟨hA, hP, hC, hR⟩ := B4 n; refine ⟨fun d A => ?_, fun d A => ?_, fun lv d A => ?_, fun lv d e A => ?_⟩
  · rw [jt, jt]
    cases A with
    | nil =>
     have h0 : (hd ([] ++ [E])).kind = 0 := hE; simp only [h0]; exact .bad
    | cons t A0 =>
     refine .ite Iff.rfl (fun h => ?_) fun _ => .ite Iff.rfl (fun h => ?_) fun _ => .ite Iff.rfl (fun h => ?_) fun _ => .ite Iff.rfl (fun h => ?_) fun _ => .ite Iff.rfl (fun h => ?_) fun _ => .ite Iff.rfl (fun h => ?_) fun _ => .bad
     · have h : t.kind = 3 := h
       rw [al, al, ff (by omega), ff (by omega)]; exact .tl
     · have h : t.kind = 4 := h
       rw [al, al, ff (by omega), ff (by omega)]; exact .tl
     · have h : t.kind = 1 := h
       rw [al, al, ff (by omega), ff (by omega)]; exact .tl
     · have h : t.kind = 2 := h.1
       rw [al, al, ff (by omega), ff (by omega)]; exact (ji hE (by decide)).map.zd
     · have h : t.kind = 2 := h.1
       rw [al, al, ff (by omega), ff (by omega)]; exact .cons (.it hE (fun u A1 e => by subst e; exact .tl) (ji hE (by decide)).map fun _ _ => rfl)
     · have h : t.kind = 5 := h.1
       rw [al, al, ff (by omega), ff (by omega)]; exact .down (.zd ((hC _ _ A0).pbT fun e _ A1 _ => (iH hE _).pbK fun _ _ A2 _ => .jO))
  · rw [gf, gf]
    cases A with
    | nil =>
     have h0 : gy (hd ([] ++ [E])) = 0 := by show gy E = 0; simp [gy, hE]
     simp only [h0, if_true]; exact (hA d []).Eb
    | cons t A0 =>
     refine .ite Iff.rfl (fun _ => hA d (t :: A0)) fun h => ?_
     have h1 : t.kind ≠ 0 := fun h0 => h (by show gy t = 0; simp [gy, h0])
     rw [al, al, ff h1, ff h1]; exact .down (.zd ((hP _ A0).pbK fun k _ A1 _ => .jO))
  · rw [dT, dT]
    exact .ite Iff.rfl (fun _ => (hP d A).dn) fun _ => (hC _ _ A).pbW fun e _ A1 _ => hR _ _ e A1
  · rw [iO, iO]
    cases A with
    | nil =>
     have h0 : iB lv (hd ([] ++ [E])) = none := by show iB lv E = none; simp [iB, hE]
     simp only [h0]; exact (Lk.jO (A := [])).kw.any
    | cons t A0 =>
     show Lk E B false false (t :: A0) (match iB lv t with | none => _ | some b => _) (match iB lv t with | none => _ | some b => _)
     cases hs : iB lv t with
     | none => exact Lk.jO.kw
     | some b =>
      have h1 : t.kind ≠ 0 := fun h0 => by simp [iB, h0] at hs
      rw [al, al, ff h1, ff h1]; exact .cons ((hC _ _ A0).pbW fun k _ A1 _ => .ite Iff.rfl (fun _ => Lk.jO.kw) fun _ => hR _ _ _ A1)
theorem lf (n lv d : Nat) (A : List Tok) : Lk E B false false A (dT n lv d (A ++ [E])) (dT n lv d (A ++ B)) := (B4 hE n).2.2.1 lv d A
theorem zL (n d : Nat) (A : List Tok) : Lk E B false false A (lH n d (A ++ [E])) (lH n d (A ++ B)) :=
 (ji hE (by decide)).pbW fun t _ A1 _ => .it hE (c := false) (k := false) (fun u A2 e => by subst e; exact .cons ((ji hE (by decide)).pbW fun _ _ A3 _ => Lk.jO))
  (.it hE (fun u A2 e => by subst e; exact .cons ((lf hE n 0 d A2).pbW fun _ _ A3 _ => (iH hE _).pbK fun _ _ A4 _ => .jO)) Lk.jO.kw fun _ h => nomatch h) fun _ h => nomatch h
theorem zR (n d : Nat) (A : List Tok) : Lk E B false false A (iJ n d (A ++ [E])) (iJ n d (A ++ B)) := by
 cases A with
 | nil =>
  unfold iJ; simp only [aU, wx hE, ab, if_false]; exact ((lf (B := B) hE n 0 d []).pbW (K' := fun e l1 => some (.ok ⟨1, e, pl0, bs [], E.p.1, E.p.2⟩ l1)) fun e _ A1 _ => Lk.jO).any
 | cons t A0 =>
  refine .ite Iff.rfl (fun _ => .cons ((zL hE n d A0).pbW fun _ _ A1 _ => Lk.jO)) fun _ => .ite Iff.rfl (fun _ => .cons ((ji hE (by decide)).pbW fun _ _ A1 _ => Lk.jO)) fun _ => .ite Iff.rfl (fun _ => .cons (.it hE ?_ ?_ fun _ h => nomatch h)) fun _ => (lf hE n 0 d (t :: A0)).pbW fun _ _ A1 _ => Lk.jO
  · intro u A1 e
    subst e; exact .cons ((lf hE n 0 d A1).pbW fun _ _ A2 _ => Lk.jO)
  · exact (ji hE (by decide)).pbW fun _ _ A1 _ => Lk.jO
theorem BD : ∀ (n m d : Nat) (acc : List X) (A : List Tok), Lk E B true true A (js n m d acc (A ++ [E])) (js n m d acc (A ++ B))
 | 0, _, _, _, _ => by rw [js]; exact .non
 | n + 1, m, d, acc, A => by
  rw [js, js]
  exact (lf hE m 0 d A).pbT fun e _ A1 _ => .it hE (fun u A2 q => by subst q; exact .tl) ((iH hE _).pbT fun _ _ A2 _ => BD n m d _ A2) fun _ _ => rfl
theorem Ec (n d : Nat) (A : List Tok) : Lk E B true true A (pt n d (A ++ [E])) (pt n d (A ++ B)) :=
 (iH hE _).pbT fun _ _ A1 _ => .it hE (fun u A2 q => by subst q; exact .tl) (BD hE n n d [] A1) fun _ _ => rfl
theorem nP (s : S) (A : List Tok) : Lk E B true true A (gn s (A ++ [E])) (gn s (A ++ B)) := (iH hE _).pbK fun _ _ A1 _ => .jO
theorem zH (f : ByteArray → S) (A : List Tok) : Lk E B true true A (gn (f (eO (A ++ [E])).1) (eO (A ++ [E])).2) (gn (f (eO (A ++ B)).1) (eO (A ++ B)).2) := by
 cases A with
 | nil =>
  have h0 : eO ([] ++ [E]) = (bs [], [E]) := if_neg (by show ¬ E.kind = 1; omega); rw [h0]; exact (nP (B := B) hE _ []).Eb
 | cons t A0 =>
  by_cases h : t.kind = 1
  · have h0 : ∀ l, eO (t :: l) = (bs t.text, l) := fun l => (if_pos h).trans (by rw [ff (by omega)]; rfl)
    rw [al, al, h0, h0]; exact (nP hE _ A0).zd
  · have h0 : ∀ l, eO (t :: l) = (bs [], t :: l) := fun l => if_neg h
    rw [al, al, h0, h0]; exact nP hE _ (t :: A0)
theorem yw : ∀ n : Nat, (∀ d A, Lk E B true true A (eX n d (A ++ [E])) (eX n d (A ++ B))) ∧ (∀ d acc A, Lk E B true true A (lI n d acc (A ++ [E])) (lI n d acc (A ++ B))) ∧
 (∀ d t nm A, Lk E B true true A (iF n d t nm (A ++ [E])) (iF n d t nm (A ++ B))) ∧ (∀ d A, Lk E B false false A (ju n d (A ++ [E])) (ju n d (A ++ B)))
 | 0 => by
  refine ⟨fun d A => ?_, fun d acc A => ?_, fun d t nm A => ?_, fun d A => ?_⟩
  · rw [eX]; exact .non
  · rw [lI]; exact .non
  · rw [iF]; exact .non
  · rw [ju]; exact .non
 | n + 1 => by
  obtain ⟨hB, hW, hL, hS⟩ := yw n; refine ⟨fun d A => ?_, fun d acc A => ?_, fun d t nm A => ?_, fun d A => ?_⟩
  · rw [eX, eX]
    exact (iH hE _).pbT fun t _ A1 _ => .down (hW _ _ A1)
  · rw [lI, lI]
    exact .it hE (fun u A1 q => by subst q; exact .tl) ((hS d A).pbT fun s _ A1 _ => hW _ _ A1) fun _ _ => rfl
  · rw [iF, iF]
    exact (ji hE (by decide)).pbT fun u _ A1 _ => (hB d A1).pbK fun b _ A2 _ => .jO
  · rw [ju, ju]
    cases A with
    | nil =>
     have h0 : (hd [E]).kind = 0 := hE; simp only [aU, wx hE, h0, ab, if_false, or_self, show ¬ (0 = 1) by decide]; exact .bad
    | cons t A0 =>
     refine .ite Iff.rfl (fun h => ?_) fun _ => .ite Iff.rfl (fun _ => ((hL d t _ A0).dn.cons)) fun _ => .ite Iff.rfl (fun _ => ?_) fun _ => .ite Iff.rfl (fun _ => .cons ((hB d A0).pbW fun b _ A1 _ => Lk.jO)) fun _ => .ite Iff.rfl (fun h => ?_) fun _ =>
      .ite Iff.rfl (fun _ => ?_) fun _ => .ite Iff.rfl (fun _ => ?_) fun _ => .ite Iff.rfl (fun _ => ?_) fun _ => .ite Iff.rfl (fun _ => ?_) fun _ => .ite Iff.rfl (fun _ => ?_) fun _ => .bad
     · have h : t.kind = 1 := h
       rw [al, al, ff (by omega), ff (by omega)]; refine .cons (.it hE (fun u A1 q => ?_) ((iH hE _).pbW fun _ _ A1 _ => (zR hE n d A1).pbT fun r _ A2 _ => nP hE _ A2) fun _ h => nomatch h); subst q; exact .cons ((iH hE _).pbW fun _ _ A2 _ => hL d t _ A2)
     · exact .cons ((lf hE n 0 d A0).pbW fun e _ A1 _ => (hB d A1).pbW fun b _ A2 _ => .it hE (c := false) (k := false) (fun u A3 q => by subst q; exact .cons ((hB d A3).pbW fun c _ A4 _ => Lk.jO)) Lk.jO.kw fun _ h => nomatch h)
     · have h1 : t.kind ≠ 0 := by
        rcases h with h | h <;> simp only [isT, aw, Bool.or_eq_true, decide_eq_true_eq] at h <;> have h := h.1 <;> have h : t.kind = 2 ∨ t.kind = 5 := h <;> omega
       rw [al, al, ff h1, ff h1]; exact .cons ((ji hE (by decide)).pbW fun u _ A1 _ => (iH hE _).pbT fun _ _ A2 _ => (zR hE n d A2).pbT fun r _ A3 _ => nP hE _ A3)
     · exact .cons ((zL hE n d A0).pbW fun x _ A1 _ => (iH hE _).pbT fun _ _ A2 _ => (lf hE n 0 d A2).pbT fun e _ A3 _ => nP hE _ A3)
     · exact .cons ((lf hE n 0 d A0).pbW fun e _ A1 _ => nP hE _ A1)
     · exact .cons (zH hE (fun nm => mkS t 8 nm rt0 pl0 x0 0 [] [] []) A0).dn
     · exact .cons (zH hE (fun nm => mkS t 9 nm rt0 pl0 x0 0 [] [] []) A0).dn
     · exact .cons ((ji hE (by decide)).pbW fun u _ A1 _ => (Ec hE n d A1).pbT fun xs _ A2 _ => nP hE _ A2)
theorem we : ∀ (n : Nat) (acc : List Nm) (A : List Tok), Lk E B true true A (gr n acc (A ++ [E])) (gr n acc (A ++ B))
 | 0, _, _ => by rw [gr]; exact .non
 | n + 1, acc, A => by
  rw [gr, gr]
  exact .it hE (fun u A1 q => by subst q; exact .tl) ((vk hE).pbT fun f _ A1 _ => (iH hE _).pbT fun _ _ A2 _ => we n _ A2) fun _ _ => rfl
theorem Hk (n : Nat) (A : List Tok) : Lk E B true true A (vu n (A ++ [E])) (vu n (A ++ B)) :=
 (ji hE (by decide)).pbT fun t _ A1 _ => (iH hE _).pbT fun _ _ A2 _ => (we hE n [] A2).pbK fun fs _ A3 _ => .jO
theorem wK : ∀ (n : Nat) (acc : List Nm) (A : List Tok), Lk E B true true A (gd n acc (A ++ [E])) (gd n acc (A ++ B))
 | 0, _, _ => by rw [gd]; exact .non
 | n + 1, acc, A => by
  rw [gd, gd]
  exact (vk hE).pbT fun f _ A1 _ => .it hE (fun u A2 q => by subst q; exact .tl) ((iH hE _).pbT fun _ _ A2 _ => wK n _ A2) fun _ _ => rfl
theorem GY (n : Nat) (A : List Tok) : Lk E B true true A (wo n (A ++ [E])) (wo n (A ++ B)) :=
 (ji hE (by decide)).pbT fun t _ A1 _ => (iH hE _).pbT fun _ _ A2 _ => (Lk.it hE (c := true) (k := true) (fun u A3 q => by subst q; exact .tl) (wK hE n [] A2) fun _ _ => rfl).pbT fun ps _ A3 _ =>
  ((yw hE n).1 0 A3).pbK fun b _ A4 _ => .jO
theorem CQ (m : Nat) : ∀ (n : Nat) (g : Pg) (A : List Tok) (g1 : Pg) (l' : List Tok), (∀ t ∈ A, t.kind ≠ 0) → dq n m g (A ++ [E]) = some (.ok g1 l') → ∃ k, k ≤ n ∧ k ≤ A.length ∧ ∀ n', dq (n' + k) m g (A ++ B) = dq n' m g1 B
 | 0, g, A, g1, l', hA, h => by rw [dq] at h; cases h
 | n + 1, g, [], g1, l', hA, h => by
  rw [dq] at h; have h0 : (hd ([] ++ [E])).kind = 0 := hE; simp only [h0, if_true, Option.some.injEq, PR.ok.injEq] at h; obtain ⟨rfl, -⟩ := h; exact ⟨0, by omega, by simp, fun n' => rfl⟩
 | n + 1, g, t :: A0, g1, l', hA, h => by
  have ht := hA t bx
  have step : ∀ {α : Type} (x : Option (PR α)) (y : Option (PR α)) (K : α → Pg), Lk E B true true A0 x y → S.pb x (fun r l1 => dq n m (K r) l1) = some (.ok g1 l') → ∃ k, k ≤ n + 1 ∧ k ≤ (t :: A0).length ∧ ∀ n', ∃ j, n' + k = j + 1 ∧ S.pb y (fun r l1 => dq j m (K r) l1) = dq n' m g1 B := by
   intro α x y K hL hx
   match x, hL, hx with
   | none, _, hx => cases hx
   | some (.bad _ _), _, hx => cases hx
   | some (.ok a l1), hL, hx =>
    obtain ⟨C, A1, h1, rfl, h3, h4⟩ := hL a l1 rfl; obtain ⟨k, hk, hk2, hn⟩ := CQ m n (K a) A1 g1 l' (fun u hu => hA u (by rw [h1]; simp [hu])) hx; refine ⟨k + 1, by omega, ?_, fun n' => ⟨n' + k, by omega, ?_⟩⟩
    · have := congrArg fQ h1
      simp only [au, ah] at this ⊢; omega
    · rw [h4 (.inl rfl)]; exact hn n'
  rw [dq] at h; have c0 : ¬ (hd (t :: A0 ++ [E])).kind = 0 := ht; rw [if_neg c0] at h
  have fin : ∀ {α : Type} (x y : Option (PR α)) (K : α → Pg), Lk E B true true A0 x y → S.pb x (fun r l1 => dq n m (K r) l1) = some (.ok g1 l') → (∀ j, dq (j + 1) m g (t :: A0 ++ B) = S.pb y (fun r l1 => dq j m (K r) l1)) → ∃ k, k ≤ n + 1 ∧ k ≤ (t :: A0).length ∧ ∀ n', dq (n' + k) m g (t :: A0 ++ B) = dq n' m g1 B := by
   intro α x y K hL hx hj; obtain ⟨k, h1, h2, h3⟩ := step x y K hL hx; refine ⟨k, h1, h2, fun n' => ?_⟩; obtain ⟨j, e, h4⟩ := h3 n'; rw [e, hj, h4]
  have c0' : ¬ (hd (t :: A0 ++ B)).kind = 0 := ht
  have eT : ∀ s, isT (t :: A0 ++ B) s = isT (t :: A0 ++ [E]) s := fun _ => rfl
  have pa : ∀ {α β : Type} (x : Option (PR α)) (K : α → List Tok → Option (PR Tok)) (G : α → Pg) (j : Nat), (S.pb x fun r l1 => S.pb (K r l1) fun _ l2 => dq j m (G r) l2) = S.pb (S.pb x fun r l1 => S.pb (K r l1) fun _ l2 => some (.ok r l2)) fun r l2 => dq j m (G r) l2 := by
   intro α β x K G j
   match x with
   | none => rfl
   | some (.bad _ _) => rfl
   | some (.ok a l1) =>
    show S.pb (K a l1) _ = S.pb (S.pb (K a l1) _) _
    match K a l1 with
    | none => rfl
    | some (.bad _ _) => rfl
    | some (.ok _ _) => rfl
  by_cases c1 : isT (t :: A0 ++ [E]) [114, 101, 99, 111, 114, 100] = true
  · rw [if_pos c1] at h
    exact fin _ _ _ (Hk hE m A0) h fun j => by rw [dq, if_neg c0', eT, if_pos c1]; rfl
  rw [if_neg c1] at h
  by_cases c2 : isT (t :: A0 ++ [E]) [103, 108, 111, 98, 97, 108] = true
  · rw [if_pos c2, pa (β := Unit)] at h
    exact fin _ _ _ ((vk hE).pbT fun f _ A1 _ => (iH hE _).pbK fun _ _ A2 _ => .jO) h fun j => by rw [dq, if_neg c0', eT, if_neg c1, eT, if_pos c2, pa (β := Unit)]; rfl
  rw [if_neg c2] at h
  by_cases c3 : isT (t :: A0 ++ [E]) [102, 117, 110] = true
  · rw [if_pos c3] at h
    exact fin _ _ _ (GY hE m A0) h fun j => by rw [dq, if_neg c0', eT, if_neg c1, eT, if_neg c2, eT, if_pos c3]; rfl
  rw [if_neg c3] at h
  by_cases c4 : isT (t :: A0 ++ [E]) [116, 104, 114, 101, 97, 100] = true
  · rw [if_pos c4] at h
    exact fin _ _ _ ((yw hE m).1 0 A0) h fun j => by rw [dq, if_neg c0', eT, if_neg c1, eT, if_neg c2, eT, if_neg c3, eT, if_pos c4]; rfl
  rw [if_neg c4] at h; cases h
end
def Pg.add (a b : Pg) : Pg := ⟨a.fa ++ b.fa, a.gls ++ b.gls, a.fe ++ b.fe, a.ths ++ b.ths⟩
def AF (g : Pg) (x : Option (PR Pg)) : Option (PR Pg) := x.map (PR.map g.add)
theorem EP {α : Type} (g : Pg) (x : Option (PR α)) (K : α → List Tok → Option (PR Pg)) : AF g (S.pb x K) = S.pb x fun a l => AF g (K a l) := by
 match x with
 | none => rfl
 | some (.bad _ _) => rfl
 | some (.ok _ _) => rfl
theorem wW (m : Nat) (g : Pg) : ∀ (n : Nat) (h : Pg) (l : List Tok), dq n m (g.add h) l = AF g (dq n m h l)
 | 0, h, l => by rw [dq, dq]; rfl
 | n + 1, h, l => by
  rw [dq, dq]; simp only [apply_ite (AF g), EP, ← wW m g n]
  have e : ∀ h : Pg, some (PR.ok (g.add h) l) = AF g (some (.ok h l)) := fun _ => rfl
  have e2 : some (PR.bad 4 (hd l).p) = AF g (some (PR.bad 4 (hd l).p)) := rfl; simp only [Pg.add, List.append_assoc]
  rfl
theorem pZ {α β : Type} {x : Option (PR α)} {K K' : α → List Tok → Option (PR β)} {r : PR β} (h : S.pb x K = some r) (hk : ∀ a l, K a l = some r → K' a l = some r) : S.pb x K' = some r := by
 match x, h with
 | some (.bad _ _), h => exact h
 | some (.ok a l), h => exact hk a l h
theorem lZ (m : Nat) : ∀ (n : Nat) (g : Pg) (l : List Tok) (r : PR Pg), dq n m g l = some r → dq (n + 1) m g l = some r
 | 0, g, l, r, h => by rw [dq] at h; cases h
 | n + 1, g, l, r, h => by
  rw [dq] at h ⊢; split at h
  · rename_i c; rw [if_pos c]; exact h
  rename_i c; rw [if_neg c]
  split at h
  · rename_i c; rw [if_pos c]; exact pZ h fun a l h => lZ m n _ _ _ h
  rename_i c; rw [if_neg c]
  split at h
  · rename_i c; rw [if_pos c]; exact pZ h fun a l h => pZ h fun a l h => lZ m n _ _ _ h
  rename_i c; rw [if_neg c]
  split at h
  · rename_i c; rw [if_pos c]; exact pZ h fun a l h => lZ m n _ _ _ h
  rename_i c; rw [if_neg c]
  split at h
  · rename_i c; rw [if_pos c]; exact pZ h fun a l h => lZ m n _ _ _ h
  rename_i c; rw [if_neg c]
  exact h
theorem zO (m : Nat) {n : Nat} {g : Pg} {l : List Tok} {r : PR Pg} (h : dq n m g l = some r) : ∀ k, dq (n + k) m g l = some r
 | 0 => h
 | k + 1 => lZ m (n + k) g l r (zO m h k)
theorem Gq.add {g h h' : Pg} (q : Gq h h') : Gq (g.add h) (g.add h') := by
 refine ⟨?_, ?_, ⟨?_, ?_⟩, ?_, ?_, ?_, ?_⟩ <;> simp only [Pg.add, au, List.flatMap_append, q.rl, q.r, q.g.1, q.g.2, q.fl, q.f, q.tl, q.t]
theorem Pg.add_nil (g : Pg) : g.add ⟨[], [], [], []⟩ = g := by simp [Pg.add]
theorem EE {A us vs : List Tok} {E : Tok} {g1 g2 : Pg} {k1 k2 : List Tok} (hE : E.kind = 0) (hA : ∀ t ∈ A, t.kind ≠ 0) (hn : A.length ≤ 4096) (hv : vs.length ≤ 4097) (h1 : jz (A ++ [E]) = .ok g1 k1) (h2 : jz us = .ok g2 k2) (hq : Bq us vs) (hu : us.length ≤ 8193) :
 ∃ g k, jz (A ++ vs) = .ok g k ∧ g.tx = (g1.add g2).tx := by
 have p1 := (iX (ts := A ++ [E]) (by simp; omega)).1; have p2 := (iX (ts := us) hu).1; have p3 := (iX (ts := A ++ vs) (by simp; omega)).1; rw [h1] at p1; rw [h2] at p2; obtain ⟨k, hk, hk2, hl⟩ := CQ (B := vs) hE 100000 10000 _ A g1 k1 hA p1; have hq2 := qQ 10000 100000 (.refl ⟨[], [], [], []⟩) hq; rw [p2] at hq2; obtain ⟨r, hr, -⟩ := qb (m := 100000) (10000 - k) ⟨[], [], [], []⟩ vs (by omega) (by omega); have hr2 := zO 100000 hr k; rw [show 10000 - k + k = 10000 by omega] at hr2; rw [hr2] at hq2; have hl2 := hl (10000 - k); rw [show 10000 - k + k = 10000 by omega, p3] at hl2; have ha := wW 100000 g1 (10000 - k) ⟨[], [], [], []⟩ vs; rw [Pg.add_nil, hr] at ha; rw [ha] at hl2
 cases hq2 with
 | ok a b =>
  rename_i g3 k3; have e := Option.some.inj hl2; exact ⟨g1.add g3, k3, e, a.add.tx.symm⟩
theorem wQ {ts : List Tok} (h : ts.length ≤ 8193) {g : Pg} {k : List Tok} (hb : jz ts = .ok g k) : g.sz ≤ 8 * ts.length := by
 obtain ⟨x, h1, h2⟩ := qb (m := 100000) 10000 ⟨[], [], [], []⟩ ts (by omega) (by omega); have := (iX h).1; rw [h1, hb] at this; have h3 := h2 g k (Option.some.inj this); have h0 : Pg.sz ⟨[], [], [], []⟩ = 0 := rfl; omega
theorem BC (g h : Pg) : (g.add h).sz = g.sz + h.sz := by
 simp only [Pg.sz, Pg.add, List.map_append, List.sum_append, au]; omega
theorem uj {l : List UInt8} (hl : l.length ≤ 8192) : (∃ ts g k, fH l (1, 1) = .ok ts ∧ jz ts = .ok g k ∧ gm l = (g, 0, 0, 0)) ∨ ((gm l).1 = pg0 ∧ (gm l).2.1 ≠ 0) := by
 cases hx : fH l (1, 1) with
 | err q =>
  refine .inr ?_; have := hI hl hx; unfold gm; rw [this.2]; exact ⟨rfl, fun h => nomatch (show (3 : Nat) = 0 from h)⟩
 | ok ts =>
  rw [ui hl hx]; have hn := (pT _ _ _ rfl ts hx).2
  cases hp : jz ts with
  | ok g k => exact .inl ⟨ts, g, k, rfl, hp, rfl⟩
  | bad e q => exact .inr ⟨rfl, AJ (by omega) hp⟩
attribute [local simp] cX cx bY bZ cy fq fv ec de dY db dZ dc fu cc im dS iq ic hO AM.ae aR aS bf aN aE AM.onG gb bW ef Ex.bn cond_true cond_false cT cS cR cQ cP cV cO cW cU ed dh di cw cY AM.du AM.cellsOf AM.an bX beq_true cM ah ay bj bz bT decide_true decide_false bF bE bu bD bg aB az aU al cZ da ft aA bI ba bR cC dR dX cJ eE eD set_set eI dy fT dz cI bK dx dw cH dv eH eJ fM fN bM cu eB fL dW aV aX aI AM.aY ai dt bU bc bh aP aO AM.part br aQ cf cm cj cn cn.eS AM.dN bG cg dJ fW aV laid aJ bq cz
attribute [-simp] aj
attribute [local congr] dK
theorem sx (b : Bool) (x y z u v w : Int) : aW Tryz.prog b .eql 54 (.agg [.v (.int .i64 x), .v (.int .i64 y), .v (.int .i64 z)]) (.agg [.v (.int .i64 u), .v (.int .i64 v), .v (.int .i64 w)]) = some (.v (.bool ((x == u) && ((y == v) && ((z == w) && true))))) := by kernel_rfl
theorem lC (s1 s2 : ByteArray) (st : St) : E L (.func 6) [.v (.string s1), .v (.string s2)] st = some (.v (.bool true), st) := by
 obtain ⟨a, rfl⟩ : ∃ l, s1 = bs l := ⟨s1.data.toList, (tP s1).symm⟩
 obtain ⟨b, rfl⟩ : ∃ l, s2 = bs l := ⟨s2.data.toList, (tP s2).symm⟩
 rw [GU]; obtain ⟨N, T, Lb, hN, hT, hL⟩ := lens3 st
 conv => lhs; rw [← ao (st)]
 by_cases hl : 4096 < a.length
 · have hl' : (4096 : Int) < (a.length : Int) := by omega
   simp [S6, hN, hT, hL, rX, lV, hl']
 have hl' : ¬ ((4096 : Int) < (a.length : Int)) := by omega
 by_cases hm : 4096 ≤ b.length
 · have hm' : (4096 : Int) ≤ (b.length : Int) := by omega
   simp [S6, hN, hT, hL, rX, lV, hl', hm']
 have hm' : ¬ ((4096 : Int) ≤ (b.length : Int)) := by omega
 have a1 : ∀ cst, aW Tryz.prog cst .add 9 (str a) (str [10]) = some (str (a ++ [10])) := fun cst => E5 (by simp; omega)
 have a2 : ∀ cst, aW Tryz.prog cst .add 9 (str (a ++ [10])) (str b) = some (str (a ++ 10 :: b)) := fun cst => by rw [E5 (by simp; omega)]; simp
 have f1 : ∀ X, E L (.func 20) [str a] X = _ := rY (by omega)
 have f2 : ∀ X, E L (.func 20) [str b] X = _ := rY (by omega)
 have f3 : ∀ X, E L (.func 20) [str (a ++ 10 :: b)] X = _ := rY (by simp; omega)
 rcases uj (l := a) (by omega) with ⟨ts1, g1, k1, x1, q1, r1⟩ | ⟨r1, r2⟩
 · rw [r1] at f1
   rcases uj (l := b) (by omega) with ⟨ts2, g2, k2, x2, q2, r2⟩ | ⟨r2, r3⟩
   · rw [r2] at f2
     have hlen : (a ++ 10 :: b).length ≤ 8192 := by simp; omega
     obtain ⟨t0, hTk, ht0⟩ := mG _ _ _ rfl ts1 x1; have hn1 := (pT _ _ _ rfl ts1 x1).2; have hn2 := (pT _ _ _ rfl ts2 x2).2
     obtain ⟨us, x3, hus⟩ : ∃ us, fH (a ++ 10 :: b) (1, 1) = .ok (t0 ++ us) ∧ Bq ts2 us := by
      rcases Av (a := a) (b := b) (by omega) (by omega) with ⟨q, h, _⟩ | ⟨_, _, e, _, _, _, h, _⟩ | ⟨u0, q0, vs, _, h3, _, h4, _, _, h5, h6⟩
      · rw [x1] at h; cases h
      · rw [(gY (by omega) x2).2] at h; simp at h
      · rw [(gY (by omega) x1).1, ht0] at h3
        rw [(gY (by omega) x2).1] at h4; obtain rfl := (List.append_inj' h3 rfl).1; subst h4; refine ⟨List.map (down q0.1) ts2, ?_, ?_⟩
        · cases hy : fH (a ++ 10 :: b) (1, 1) with
          | ok ws => rw [← h5, (gY hlen hy).1]
          | err q => rw [(hI hlen hy).2] at h6; simp at h6
        · simp only [Bq, List.map_map]; exact List.map_congr_left fun t _ => rfl
     have hl0 := congrArg fQ ht0; simp only [au, ah, ay] at hl0; have hul := BK hus; rw [ht0] at q1; obtain ⟨g, k, q3, q4⟩ := EE (A := t0) (us := ts2) (vs := us) (g1 := g1) (g2 := g2) rfl (fun t ht => (nT (hTk t ht)).1) (by omega) (by omega) q1 q2 hus (by omega)
     have r3 : gm (a ++ 10 :: b) = (g, 0, 0, 0) := by rw [ui hlen x3, q3]
     rw [r3] at f3; have z1 := wQ (by simp; omega) q1; have z2 := wQ (by omega) q2; have z3 := wO (l := a ++ 10 :: b); rw [r3] at z3; simp only [au, ah, ay] at z1; have z4 := nQ (g := g1.add g2) (by rw [BC]; omega)
     have y1 : ∀ X, E L (.func 23) [lR g] X = _ := wV g z3.1
     have y2 : ∀ X, E L (.func 23) [lR (g1.add g2)] X = _ := wV (g1.add g2) z4.1
     rw [q4] at y1
     have y3 : ∀ X, E L (.func 22) [.sl (strs (g1.add g2).tx) .dead, .sl (strs (g1.add g2).tx) .dead] X = _ := GA (g1.add g2).tx (g1.add g2).tx (by have := z4.2; rw [BC] at this; omega)
     rw [decide_eq_true rfl] at y3; have w1 := (nQ (g := g1) (by omega)).1; have w2 := (nQ (g := g2) (by omega)).1; have u1 := w1.rl; have u2 := w2.rl; have u3 := w1.gl; have u4 := w2.gl; have u5 := w1.fl; have u6 := w2.fl; have u7 := w1.tl; have u8 := w2.tl; obtain ⟨c1, k1, e1, o1⟩ := dV (s := st) (tk := []) (c := .full) (es := []) (ys := gL g1.fa) (sz := 4) (bytes := 56) (Own.full ..) (by simp only [fD, bP, ay]; omega) rfl (nK _) (by decide) (by decide); obtain ⟨c2, k2, e2, o2⟩ := dV (ys := gL g2.fa) (sz := 4) (bytes := 56) o1 (by simp only [fD, bP, au, ay]; omega) (nK _) (nK _) (by decide) (by decide); obtain ⟨c3, k3, e3, o3⟩ := dV (s := st) (tk := k2) (c := .full) (es := []) (ys := nms g1.gls) (sz := 5) (bytes := 56) (Own.full ..) (by simp only [fg, bP, ay]; omega) rfl (mH _) (by decide) (by decide); obtain ⟨c4, k4, e4, o4⟩ := dV (ys := nms g2.gls) (sz := 5) (bytes := 56) o3 (by simp only [fg, bP, au, ay]; omega) (mH _) (mH _) (by decide) (by decide); obtain ⟨c5, k5, e5, o5⟩ := dV (s := st) (tk := k4) (c := .full) (es := []) (ys := jx g1.fe) (sz := 5) (bytes := 80) (Own.full ..) (by simp only [gg, bP, ay]; omega) rfl (pP _) (by decide) (by decide); obtain ⟨c6, k6, e6, o6⟩ := dV (ys := jx g2.fe) (sz := 5) (bytes := 80) o5 (by simp only [gg, bP, au, ay]; omega) (pP _) (pP _) (by decide) (by decide); obtain ⟨c7, k7, e7, o7⟩ := dV (s := st) (tk := k6) (c := .full) (es := []) (ys := jB g1.ths) (sz := 3) (bytes := 40) (Own.full ..) (by simp only [gh, bP, ay]; omega) rfl (qq _) (by decide) (by decide); obtain ⟨c8, k8, e8, o8⟩ := dV (ys := jB g2.ths) (sz := 3) (bytes := 40) o7 (by simp only [gh, bP, au, ay]; omega) (qq _) (qq _) (by decide) (by decide); have b1 : aF 4 [str [], .sl [] .nil, .v (.int .i64 0), .v (.int .i64 0)] 0 [] = some (.sl [] .full) := rfl; have b2 : aF 5 [str [], .v (.int .i64 0), str [], .v (.int .i64 0), .v (.int .i64 0)] 0 [] = some (.sl [] .full) := rfl; have b3 : aF 5 [str [], .sl [] .nil, .sl [] .nil, .v (.int .i64 0), .v (.int .i64 0)] 0 [] = some (.sl [] .full) := rfl; have b4 : aF 3 [.sl [] .nil, .v (.int .i64 0), .v (.int .i64 0)] 0 [] = some (.sl [] .full) := rfl
     generalize (g1.add g2).tx = T at *
     simp only [lR, pgC, wk, Pg.add, uq, rS, wq, xu, aU, Int.natCast_zero] at f1 f2 f3 y1 y2 e1 e2 e3 e4 e5 e6 e7 e8 o2 o4 o6 o8
     generalize gL g1.fa = R1 at *
     generalize gL g2.fa = R2 at *
     generalize nms g1.gls = G1 at *
     generalize nms g2.gls = G2 at *
     generalize jx g1.fe = U1 at *
     generalize jx g2.fe = U2 at *
     generalize jB g1.ths = H1 at *
     generalize jB g2.ths = H2 at *
     generalize gL g.fa = R3 at *
     generalize nms g.gls = G3 at *
     generalize jx g.fe = U3 at *
     generalize jB g.ths = H3 at *
     simp [S6, hN, hT, hL, rX, lV, hl', hm', a1, a2, f1, f2, f3, oe, sx, e1, e2, e3, e4, e5, e6, e7, e8, b1, b2, b3, b4, y1, y2, y3, bq, cz]
   · generalize gm b = P2 at *
     generalize gm (a ++ 10 :: b) = P3 at *
     obtain ⟨G2, c2, d2⟩ := P2; obtain ⟨G3, c3, d3⟩ := P3; simp only at r2 r3
     have r3' : ¬ ((c2 : Int) = 0) := by omega
     simp only [lR, pgC, wk] at f1 f2 f3; simp [S6, hN, hT, hL, rX, lV, hl', hm', a1, a2, f1, f2, f3, r3, r3', oe, sx, bq, cz]
 · generalize gm a = P1 at *
   generalize gm b = P2 at *
   generalize gm (a ++ 10 :: b) = P3 at *
   obtain ⟨G1, c1, d1⟩ := P1; obtain ⟨G2, c2, d2⟩ := P2; obtain ⟨G3, c3, d3⟩ := P3; simp only at r1 r2; subst r1
   have r3' : ¬ ((c1 : Int) = 0) := by omega
   have ez : (gL pg0.fa = [] ∧ nms pg0.gls = []) ∧ jx pg0.fe = [] ∧ jB pg0.ths = [] := ⟨⟨rfl, rfl⟩, rfl, rfl⟩; simp only [lR, pgC, wk, ez] at f1 f2 f3; have w0 : IntKind.i64.wrap 0 = 0 := rfl; simp [S6, hN, hT, hL, w0, rX, lV, hl', hm', a1, a2, f1, f2, f3, r2, r3', oe, sx, Co, Cp, Cr, ya, bq, cz]
end Go.Proofs.YtlhlijaondmccaaGreatDoor.S
namespace Go.Proofs.YtlhlijaondmccaaGreatDoor.Pure
open Go Go.AM Go.Proofs
theorem lC (s1 s2 : ByteArray) : ∃ k st', evF S.L k (.func 6) [.v (.string s1), .v (.string s2)] st0 = some (.v (.bool true), st') := by
 obtain ⟨k, hk⟩ := GL (S.lC s1 s2 st0); exact ⟨k, st0, hk⟩
end Go.Proofs.YtlhlijaondmccaaGreatDoor.Pure
namespace Go.Proofs.YtlhlijaondmccaaGreatDoor.sQ
open Go Go.AM Go.ChangeShapes Go.WideShapes Go.ChangeAt Go.RowKit
open Go.ChangeMaps (open_string shut_string)
theorem lifted (os : Os) (started : os.Started) (H : Type) (enc : TypeId × Value → H) :
 ReturnsInHanded {} Tryz.checked os 6 .any (fun w args => (Rows.parseItemsSpec.pre enc Tryz.prog Tryz.f6 [] false w args ∧ laidMetH Tryz.prog Rows.parseItemsRow.laid w) ∧ sizedMet enc Tryz.prog Tryz.f6 (OpenSpec.ofChange Rows.parseItemsSpec) false w args)
  (Rows.parseItemsSpec.post enc Tryz.prog Tryz.f6 false true false false) := by
 refine tC (C := Tryz.checked) (X := fun w _ => laidMetH Tryz.prog Rows.parseItemsRow.laid w) (fun _ _ _ hh h => h.of_heap hh) own started (by kernel_rfl) Tryz.func6
  (ChangeSpec.witness_shaped (enc := enc) (C := Tryz.checked) (os := os) (X := fun w _ => laidMetH Tryz.prog Rows.parseItemsRow.laid w) false (World.doorLaid Tryz.prog 128 os) #[.string ByteArray.empty, .string ByteArray.empty] 8 rfl (World.shaped_of_RefB (by kernel_rfl) (by kernel_rfl)) (by kernel_rfl) (by kernel_rfl) (by kernel_rfl) (BW os _)) ?_
 intro W base args ds gs before hval0 hW hL hshape
 have hval : ∀ (j : Nat) t v, Tryz.f6.params[j]? = some t → args[j]? = some v → Value.okWide Tryz.prog W .any base t v := hval0
 have hW' := hW; obtain ⟨p, q, hA0, hV, rfl, hfz, hnd⟩ := hW; have hA : DataW.TrodAll enc Tryz.prog W 0 (fun _ => true) true Tryz.f6.params.toList args.toList ds p := hA0; rw [Tryz.params6] at hA hval; obtain ⟨v0, vs0, d0, ds0, p0, q0, hargs, rfl, rfl, h0, r0⟩ := trodAll_cons hA; obtain ⟨v1, vs1, d1, ds1, p1, q1, rfl, rfl, rfl, h1, r1⟩ := trodAll_cons r0; obtain ⟨rfl, rfl, rfl⟩ := trodAll_nil r1
 obtain rfl : args = #[v0, v1] := by cases args; simp_all
 obtain ⟨rfl, rfl⟩ := trodVars_none hV; obtain ⟨a0, rfl, rfl, rfl, y0⟩ := open_string Tryz.underlying9 (hval 0 9 v0 rfl rfl) h0; obtain ⟨a1, rfl, rfl, rfl, y1⟩ := open_string Tryz.underlying9 (hval 1 9 v1 rfl rfl) h1; clear hA0 hval0; obtain ⟨gv, hgv, hgi⟩ := Gk hshape hL; obtain ⟨kf, st', hev⟩ := Pure.lC a0 a1
 refine (Aw (xs := #[.string a0, .string a1]) (S.ok hgv) hev hgi rfl ?_).mono fun e W' ⟨he, bel⟩ => ?_
 · intro i x p hx hp
   match i, hx, hp with
   | 0, hx, hp => cases hx; cases hp; exact zQ _ _ _
   | 1, hx, hp => cases hx; cases hp; exact zQ _ _ _
   | i + 2, hx, hp => simp at hx
 subst he; exact ⟨_, rfl, _, _, _, [], _, [], hW', trodAll_mk1 (shut_bool Tryz.underlying4 _), (trodAll_cons_mk (shut_string Tryz.underlying9 y0) (trodAll_cons_mk (shut_string Tryz.underlying9 y1) trodAll_mk0)), rfl, bel.frame _, fun h => by cases h⟩
theorem over : Rows.parseItemsRow.holds Tryz.pinned (OpenSpec.ofChange Rows.parseItemsSpec) :=
 OpenClaim.holds_of_wide 6 Tryz.f6 rfl rfl rfl rfl rfl rfl rfl ⟨rfl, rfl, rfl, rfl, rfl⟩ rfl rfl rfl rfl rfl (by kernel_rfl) Tryz.func6 (by kernel_rfl)
  (of_decide_eq_true (by kernel_rfl)) (by unfold Func.isWrapper; first | (rw [if_pos (by decide +kernel)]; kernel_rfl) | (rw [if_neg (by decide +kernel)]; exact ⟨rfl, rfl⟩))
  (fun os started H enc _ => lifted os started H enc)
theorem GX : Rows.ParseItemsCardSaid :=
 Claim7.holds_tied_plain_at .later [] [.data, .data, .data, .sentinel, .sentinel] true (true, "4b081b2d0e68a4549e9a20eea754eccd794c0f4fa15186553da4b61523f2fafe") true
  over (fun _ h => by cases h) (by kernel_rfl) (fun _ h => by cases h) parseItems_row_tie rfl ⟨rfl, rfl⟩ (by kernel_rfl) rfl
  (fun f fn hf hfn => by
   obtain rfl : f = 6 := Option.some.inj ((show Tryz.prog.funcNamed "padlock/padlocklaw05.ParseItems" = some 6 by kernel_rfl).symm.trans hf) |>.symm
   obtain rfl : fn = Tryz.f6 := (Option.some.inj (Tryz.func6.symm.trans hfn)).symm
   exact ⟨by kernel_rfl, fun j t ht => by
    rw [Tryz.params6] at ht
    have hm : t ∈ [9] := by simpa using Array.mem_of_getElem? ht
    have hall : ([9].all fun u => !Tryz.prog.wantsStandIn u) = true := by kernel_rfl
    exact (show Tryz.prog.wantsStandIn t = false by simpa using dM.1 hall t hm)⟩)
  (by kernel_rfl)
#print axioms GX
end Go.Proofs.YtlhlijaondmccaaGreatDoor.sQ
namespace Go.Proofs.YtlhlijaondmccaaGreatDoor
theorem parseItems_holds : Rows.ParseItemsCardSaid := sQ.GX
end Go.Proofs.YtlhlijaondmccaaGreatDoor
